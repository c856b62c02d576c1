import Derived.Test.YteoedigfnfjopaaGreatAr
set_option maxRecDepth 100000
set_option maxHeartbeats 4000000
set_option linter.unusedSimpArgs false
set_option linter.unusedVariables false
namespace Go.Proofs.YteoedigfnfjopaaGreat
open Go Go.Av
attribute [local irreducible] wpA OpK awp
attribute [local go_sem] strQ eqAgg eqAggV buildQ placesOf buildCells List.toList_toArray vcQg gfind gfree gput un3_agg unI_int unB_bool unK_int guardU skipV resVs resV vcD vcD1 roH roOb ftNone ftAdd oneOrTup AV.detup AV.ren AV.ren2 AV.ren1 pos selH AObj.ren fitAll fit fit1 fit1s matchAll matchOb exIds AObj.excl Env.killp pastH setAll upId AObj.past AObj.back AV.killp AV.killp1 AV.killp2 Nat.sub_self Nat.lt_irrefl Bool.or_self vcOps vcOp vcQs vcQ dstOk quiet eff pcall calleeF plain valsOf ev ofConst argEnv List.lookup Nat.add_eq decide_true decide_false Env.put binV quoC isTwo_2 isTwo_1 isTwo_3 isTwo_4 isTwo_5 isTwo_6 isTwo_7 isTwo_8 isTwo_9 isTwo_10 isTwo_11 isTwo_12 isTwo_13 isTwo_14 isTwo_15 isTwo_16 isTwo_17 isTwo_20 isTwo_24 isTwo_32 isTwo_60 isTwo_64 isTwo_100 isTwo_128 isTwo_256 isTwo_1000 wrapTo unV convV loadQ indexQ callQ builtinQ rd rdI globC AObj.globC partAV isAggD isArrayD addrAdd boxE storeE storeXE storeCE storeGE storeFE storeAE storeHE allocAE buildME appendME lookupQ lookupI mapUpE mapUpI mapZ plainVs isIfaceD ifaceQ assertQ List.all_cons aggQ arrD arrL arrL_map arrV makeE makeXE makeNE makeGE buildXE buildNE buildGE nestZero Cont.child Cont.setChild buildSliceE buildFold appendE appendXE appendNE appendGE Cont.setG nestApp appendV promoteH sliceE boundAV subObj asCells Value.oneCell' contZero Cont.sets Cont.app Cont.sub Cont.len Cont.esz Cont.cell Cont.cells Cont.flat AV.det AV.det1 guardV AObj.unview AObj.kill Env.kill AV.kill AV.kill1 AV.kill2 fits64 Option.getD_some Option.getD_none Option.map_some Option.map_none Option.bind_some List.map_cons List.map_nil List.getElem?_cons_zero List.getElem?_cons_succ List.getElem?_nil true_and and_true and_false false_and List.getElem?_toArray List.cons_append List.nil_append List.length_cons List.length_nil List.set_cons_zero List.set_cons_succ List.take_succ_cons List.take_zero List.drop_succ_cons List.drop_zero List.drop_nil List.take_nil List.contains_cons List.contains_nil List.elem_cons List.elem_nil Bool.not_true Bool.not_false Bool.false_eq_true Bool.or_false Bool.or_true Bool.and_true Bool.and_false Bool.true_and Bool.false_and List.all_cons List.all_nil List.size_toArray Nat.lt_add_one Nat.zero_lt_succ Nat.one_ne_zero Nat.zero_ne_one and_self List.replicate_succ List.replicate_zero Int.toNat_natCast Int.toNat_zero Value.cells false_implies true_implies forall_const Thn InBlk Nat.zero_add Nat.add_zero Int.zero_add Tryz.underlying0 Tryz.underlying1 Tryz.underlying2 Tryz.underlying3 Tryz.underlying4 Tryz.underlying5 Tryz.underlying6 Tryz.underlying7 Tryz.underlying8 Tryz.underlying9 Tryz.underlying10 Tryz.underlying12 Tryz.underlying16 Tryz.underlying17 Tryz.underlying20 Tryz.underlying21 Tryz.underlying22 Tryz.underlying23 Tryz.underlying24 Tryz.underlying25 Tryz.underlying26 Tryz.underlying27 Tryz.underlying29 Tryz.underlying30 Tryz.underlying31 Tryz.underlying32 Tryz.underlying35 Tryz.underlying37 Tryz.underlying40 Tryz.underlying44 Tryz.underlying46 Tryz.underlying50 Tryz.underlying52 Tryz.underlying53 Tryz.underlying54 Tryz.underlying55 Tryz.underlying56 Tryz.underlying57 Tryz.underlying66 Tryz.underlying67 Tryz.underlying72 Tryz.underlying73 Tryz.underlying74 Tryz.underlying78 Tryz.underlying79 Tryz.underlying89 Tryz.underlying90 Tryz.underlying91 Tryz.underlying97 Tryz.underlying98 Tryz.underlying99 Tryz.underlying100 Tryz.underlying101 Tryz.underlying102 Tryz.underlying103 Tryz.underlying104 Tryz.underlying105 Tryz.underlying108 Tryz.underlying110 Tryz.underlying111 Tryz.underlying114 Tryz.underlying115 Tryz.underlying116 Tryz.underlying117 Tryz.underlying118 Tryz.underlying119 Tryz.underlying122 Tryz.underlying123 Tryz.underlying131 Tryz.underlying133 Tryz.underlying135 Tryz.underlying136 Tryz.underlying145 Tryz.underlying146 Tryz.underlying147 Tryz.underlying149 Tryz.underlying150 Tryz.underlying151 Tryz.underlying152 Tryz.underlying153 Tryz.underlying154 Tryz.underlying155 Tryz.underlying156 Tryz.underlying157 Tryz.underlying158 tf0 tf1 tf2 tf3 tf4 tf5 tf6 tf7 tf8
theorem c_spec_l4Before (a b c d e f : Int) :
 FnA Tryz.prog 93 [.agg [.v (.int .i64 a), .v (.int .i64 b), .v (.int .i64 c)], .agg [.v (.int .i64 d), .v (.int .i64 e), .v (.int .i64 f)]] [] [] (fun x _ => x = .v (.bool (decide (a < d ∨ a = d ∧ b < e)))) := by
 refine FnA.of (N := 24) (pin := []) (rs := [.tmp 4]) Tryz.func93 rfl en93 rfl rfl (by simp) (by simp; try omega) ?_
 refine awp_seq fun K1 hK1 => ?_
 refine awp_region ftNoneOk ?_
 simp (maxSteps := 4000000) only [go_sem, Nat.reduceBEq, Nat.reduceLT, Nat.reduceAdd, Nat.reduceLeDiff, Nat.reduceSub, Nat.reduceEqDiff, Int.reduceToNat, reduceCtorEq, ↓reduceIte, ftNone]
 repeat' (first | refine And.intro ?_ ?_ | (intro hg; try simp at hg))
 all_goals first
  | refine hK1 _ _ ?_
  | exact trivial
  | omega
  | ((simp; omega))
 clear hK1
 refine awp_freeze 2 (by rfl) (by rfl) (by simp only [List.map_cons, List.map_nil, List.set_cons_succ, List.set_cons_zero, AObj.unview, reduceCtorEq, ↓reduceIte, Nat.reduceEqDiff]; exact rfl) ?_
 refine awp_freeze 3 (by rfl) (by rfl) (by simp only [List.map_cons, List.map_nil, List.set_cons_succ, List.set_cons_zero, AObj.unview, reduceCtorEq, ↓reduceIte, Nat.reduceEqDiff]; exact rfl) ?_
 refine awp_seq fun K2 hK2 => ?_
 refine awp_region ftNoneOk ?_
 simp (maxSteps := 4000000) only [go_sem, Nat.reduceBEq, Nat.reduceLT, Nat.reduceAdd, Nat.reduceLeDiff, Nat.reduceSub, Nat.reduceEqDiff, Int.reduceToNat, reduceCtorEq, ↓reduceIte, ftNone]
 repeat' (first | refine And.intro ?_ ?_ | (intro hg; try simp at hg))
 all_goals first
  | refine hK2 _ _ ?_
  | exact trivial
  | omega
  | ((simp; omega))
 all_goals
  clear hK2
  refine awp_keep [0, 1, 2, 3, 4] (by simp only [keepE, List.map_cons, List.map_nil, List.lookup, Nat.reduceBEq, Option.getD_some, Option.getD_none]; exact rfl) ?_
  refine awp_ret ?_
  (try simp only [Thn, InBlk, ↓reduceIte, Nat.reduceEqDiff])
  refine ⟨by simp, _, [], (by simp only [go_sem, Nat.reduceBEq, Nat.reduceLT, Nat.reduceAdd, Nat.reduceLeDiff, Nat.reduceSub, Nat.reduceEqDiff, Int.reduceToNat, reduceCtorEq, ↓reduceIte]; exact rfl), ?_, ?_, ?_, ?_⟩
  ·first | exact trivial | exact ⟨trivial, trivial⟩ | exact ⟨trivial, trivial, trivial⟩ | exact ⟨trivial, trivial, trivial, trivial⟩ | (simp only [allP, and_true, true_and]; done) | (simp only [allP, and_true, true_and]; omega)
  ·simp [selOk, pos]
  ·simp
  ·simp only [go_sem, Nat.reduceBEq, Nat.reduceLT, Nat.reduceAdd, Nat.reduceLeDiff, Nat.reduceSub, Nat.reduceEqDiff, Int.reduceToNat, reduceCtorEq, ↓reduceIte]
   first | exact bav_true (by omega) | exact bav_false (by omega) | exact bav_iff (by omega)
def l4BeforeG : List Value → Option (Prop × Value)
 | [x0, x1] => (match un3 x0 with | some (a, b, c) => (match un3 x1 with | some (d, e, f) => some (True, .bool (decide (a < d ∨ a = d ∧ b < e))) | none => none) | none => none)
 | _ => none
theorem l4BeforeP : PureF Tryz.prog 93 l4BeforeG := PureF.of en93 fun vs q r hg hq => by
 unfold l4BeforeG at hg
 split at hg
 ·rename_i x0 x1
  cases h0 : un3 x0 with
  | none => simp only [h0, reduceCtorEq] at hg
  | some r0 =>
    obtain ⟨a, b, c⟩ := r0
    simp only [h0] at hg
    have e0 := un3_spec h0
    subst e0
    cases h1 : un3 x1 with
    | none => simp only [h1, reduceCtorEq] at hg
    | some r1 =>
      obtain ⟨d, e, f⟩ := r1
      simp only [h1] at hg
      have e1 := un3_spec h1
      subst e1
      simp only [Option.some.injEq, Prod.mk.injEq] at hg
      obtain ⟨_, rfl⟩ := hg
      exact c_spec_l4Before _ _ _ _ _ _
 ·cases hg
theorem c_cmp_isNaN_int (a : Int) :
 FnA Tryz.prog 115 [.v (.int .i64 a)] [] [] (fun x _ => x = .v (.bool false)) := by
 refine FnA.of (N := 6) (pin := []) (rs := [.tmp 2]) Tryz.func115 rfl en115 rfl rfl (by simp) (by simp; try omega) ?_
 refine awp_seq fun K1 hK1 => ?_
 refine awp_region ftNoneOk ?_
 simp (maxSteps := 4000000) only [go_sem, Nat.reduceBEq, Nat.reduceLT, Nat.reduceAdd, Nat.reduceLeDiff, Nat.reduceSub, Nat.reduceEqDiff, Int.reduceToNat, reduceCtorEq, ↓reduceIte, ftNone]
 repeat' (first | refine And.intro ?_ ?_ | (intro hg; try simp at hg))
 all_goals first
  | refine hK1 _ _ ?_
  | exact trivial
  | omega
  | ((simp; omega))
 clear hK1
 refine awp_seq fun K2 hK2 => ?_
 refine awp_region ftNoneOk ?_
 simp (maxSteps := 4000000) only [go_sem, Nat.reduceBEq, Nat.reduceLT, Nat.reduceAdd, Nat.reduceLeDiff, Nat.reduceSub, Nat.reduceEqDiff, Int.reduceToNat, reduceCtorEq, ↓reduceIte, ftNone]
 repeat' (first | refine And.intro ?_ ?_ | (intro hg; try simp at hg))
 all_goals first
  | refine hK2 _ _ ?_
  | exact trivial
  | omega
  | ((simp; omega))
 clear hK2
 refine awp_ret ?_
 (try simp only [Thn, InBlk, ↓reduceIte, Nat.reduceEqDiff])
 refine ⟨by simp, _, [], (by simp only [go_sem, Nat.reduceBEq, Nat.reduceLT, Nat.reduceAdd, Nat.reduceLeDiff, Nat.reduceSub, Nat.reduceEqDiff, Int.reduceToNat, reduceCtorEq, ↓reduceIte]; exact rfl), ?_, ?_, ?_, ?_⟩
 ·first | exact trivial | exact ⟨trivial, trivial⟩ | exact ⟨trivial, trivial, trivial⟩ | exact ⟨trivial, trivial, trivial, trivial⟩ | (simp only [allP, and_true, true_and]; done) | (simp only [allP, and_true, true_and]; omega)
 ·simp [selOk, pos]
 ·simp
 ·simp only [go_sem, Nat.reduceBEq, Nat.reduceLT, Nat.reduceAdd, Nat.reduceLeDiff, Nat.reduceSub, Nat.reduceEqDiff, Int.reduceToNat, reduceCtorEq, ↓reduceIte]
  simp
def isNaNG : List Value → Option (Prop × Value)
 | [x0] => (match unI x0 with | some a => some (True, .bool false) | none => none)
 | _ => none
theorem isNaNP : PureF Tryz.prog 115 isNaNG := PureF.of en115 fun vs q r hg hq => by
 unfold isNaNG at hg
 split at hg
 ·rename_i x0
  cases h0 : unI x0 with
  | none => simp only [h0, reduceCtorEq] at hg
  | some r0 =>
    simp only [h0] at hg
    have e0 := unI_spec h0
    subst e0
    simp only [Option.some.injEq, Prod.mk.injEq] at hg
    obtain ⟨_, rfl⟩ := hg
    exact c_cmp_isNaN_int _
 ·cases hg
def ftA : FuncId → Option (List Value → Option (Prop × Value)) := (ftAdd 115 isNaNG (ftAdd 93 l4BeforeG (ftAdd 71 l1InG ftNone)))
theorem ftAOk : PTab Tryz.prog ftA := (ftAddOk isNaNP (ftAddOk l4BeforeP (ftAddOk l1InP ftNoneOk)))
def cmpI (a b : Int) : Int := if a < b then -1 else if b < a then 1 else 0
theorem c_cmp_Compare_int (a b : Int) :
 FnA Tryz.prog 114 [.v (.int .i64 a), .v (.int .i64 b)] [] [] (fun x _ => x = .v (.int .i64 (cmpI a b))) := by
 refine FnA.of (N := 20) (pin := []) (rs := [.tmp 4]) Tryz.func114 rfl en114 rfl rfl (by simp) (by simp; try omega) ?_
 refine awp_seq fun K1 hK1 => ?_
 refine awp_region ftAOk ?_
 simp (maxSteps := 4000000) only [go_sem, Nat.reduceBEq, Nat.reduceLT, Nat.reduceAdd, Nat.reduceLeDiff, Nat.reduceSub, Nat.reduceEqDiff, Int.reduceToNat, reduceCtorEq, ↓reduceIte, ftA, isNaNG, l1InG, l4BeforeG, isNaNG, ftA]
 repeat' (first | refine And.intro ?_ ?_ | (intro hg; try simp at hg))
 all_goals first
  | refine hK1 _ _ ?_
  | exact trivial
  | omega
  | ((simp; omega))
 clear hK1
 refine awp_seq fun K2 hK2 => ?_
 refine awp_region ftAOk ?_
 simp (maxSteps := 4000000) only [go_sem, Nat.reduceBEq, Nat.reduceLT, Nat.reduceAdd, Nat.reduceLeDiff, Nat.reduceSub, Nat.reduceEqDiff, Int.reduceToNat, reduceCtorEq, ↓reduceIte, ftA, isNaNG, l1InG, l4BeforeG, isNaNG, ftA]
 repeat' (first | refine And.intro ?_ ?_ | (intro hg; try simp at hg))
 all_goals first
  | refine hK2 _ _ ?_
  | exact trivial
  | omega
  | ((simp; omega))
 clear hK2
 refine awp_seq fun K3 hK3 => ?_
 refine awp_region ftAOk ?_
 simp (maxSteps := 4000000) only [go_sem, Nat.reduceBEq, Nat.reduceLT, Nat.reduceAdd, Nat.reduceLeDiff, Nat.reduceSub, Nat.reduceEqDiff, Int.reduceToNat, reduceCtorEq, ↓reduceIte, ftA, isNaNG, l1InG, l4BeforeG, isNaNG, ftA]
 repeat' (first | refine And.intro ?_ ?_ | (intro hg; try simp at hg))
 all_goals first
  | refine hK3 _ _ ?_
  | exact trivial
  | omega
  | ((simp; omega))
 clear hK3
 refine awp_seq fun K4 hK4 => ?_
 refine awp_seq fun K5 hK5 => ?_
 refine awp_region ftAOk ?_
 simp (maxSteps := 4000000) only [go_sem, Nat.reduceBEq, Nat.reduceLT, Nat.reduceAdd, Nat.reduceLeDiff, Nat.reduceSub, Nat.reduceEqDiff, Int.reduceToNat, reduceCtorEq, ↓reduceIte, ftA, isNaNG, l1InG, l4BeforeG, isNaNG, ftA]
 repeat' (first | refine And.intro ?_ ?_ | (intro hg; try simp at hg))
 all_goals first
  | refine hK5 _ _ ?_
  | exact trivial
  | omega
  | ((simp; omega))
 clear hK5
 refine awp_cond (t := 11) rfl (fun hc0 => ?_) (fun hc0 => ?_)
 ·first
  | exact absurd hc0 (by decide)
  | (simp at hc0; done)
  | (exfalso; (try simp at hc0); omega)
  | ((try simp at hc0)
     refine awp_seq fun K6 hK6 => ?_
     refine awp_seq fun K7 hK7 => ?_
     refine awp_region ftAOk ?_
     simp (maxSteps := 4000000) only [go_sem, Nat.reduceBEq, Nat.reduceLT, Nat.reduceAdd, Nat.reduceLeDiff, Nat.reduceSub, Nat.reduceEqDiff, Int.reduceToNat, reduceCtorEq, ↓reduceIte, ftA, isNaNG, l1InG, l4BeforeG, isNaNG, ftA]
     repeat' (first | refine And.intro ?_ ?_ | (intro hg; try simp at hg))
     all_goals first
      | refine hK7 _ _ ?_
      | exact trivial
      | omega
      | ((simp; omega))
     clear hK7
     refine awp_cond (t := 12) rfl (fun hc1 => ?_) (fun hc1 => ?_)
     ·first
      | exact absurd hc1 (by decide)
      | (simp at hc1; done)
      | (exfalso; (try simp at hc1); omega)
      | ((try simp at hc1)
         refine awp_seq fun K8 hK8 => ?_
         refine awp_region ftAOk ?_
         simp (maxSteps := 4000000) only [go_sem, Nat.reduceBEq, Nat.reduceLT, Nat.reduceAdd, Nat.reduceLeDiff, Nat.reduceSub, Nat.reduceEqDiff, Int.reduceToNat, reduceCtorEq, ↓reduceIte, ftA, isNaNG, l1InG, l4BeforeG, isNaNG, ftA]
         repeat' (first | refine And.intro ?_ ?_ | (intro hg; try simp at hg))
         all_goals first
          | refine hK8 _ _ ?_
          | exact trivial
          | omega
          | ((simp; omega))
         clear hK8
         refine awp_ret ?_
         (try simp only [Thn, InBlk, ↓reduceIte, Nat.reduceEqDiff])
         refine ⟨by simp, _, [], (by simp only [go_sem, Nat.reduceBEq, Nat.reduceLT, Nat.reduceAdd, Nat.reduceLeDiff, Nat.reduceSub, Nat.reduceEqDiff, Int.reduceToNat, reduceCtorEq, ↓reduceIte]; exact rfl), ?_, ?_, ?_, ?_⟩
         ·first | exact trivial | exact ⟨trivial, trivial⟩ | exact ⟨trivial, trivial, trivial⟩ | exact ⟨trivial, trivial, trivial, trivial⟩ | (simp only [allP, and_true, true_and]; done) | (simp only [allP, and_true, true_and]; omega)
         ·simp [selOk, pos]
         ·simp
         ·simp only [go_sem, Nat.reduceBEq, Nat.reduceLT, Nat.reduceAdd, Nat.reduceLeDiff, Nat.reduceSub, Nat.reduceEqDiff, Int.reduceToNat, reduceCtorEq, ↓reduceIte]
          simp only [cmpI]; first | (rw [if_pos (by omega)]; done) | (rw [if_neg (by omega), if_pos (by omega)]; done) | (rw [if_neg (by omega), if_neg (by omega)]; done))
     ·first
      | exact absurd hc1 (by decide)
      | (simp at hc1; done)
      | (exfalso; (try simp at hc1); omega)
      | ((try simp at hc1)
         refine awp_skip ?_
         refine hK6 _ _ ?_
         clear hK6
         refine awp_seq fun K9 hK9 => ?_
         refine awp_region ftAOk ?_
         simp (maxSteps := 4000000) only [go_sem, Nat.reduceBEq, Nat.reduceLT, Nat.reduceAdd, Nat.reduceLeDiff, Nat.reduceSub, Nat.reduceEqDiff, Int.reduceToNat, reduceCtorEq, ↓reduceIte, ftA, isNaNG, l1InG, l4BeforeG, isNaNG, ftA]
         repeat' (first | refine And.intro ?_ ?_ | (intro hg; try simp at hg))
         all_goals first
          | refine hK9 _ _ ?_
          | exact trivial
          | omega
          | ((simp; omega))
         clear hK9
         refine awp_ret ?_
         (try simp only [Thn, InBlk, ↓reduceIte, Nat.reduceEqDiff])
         refine ⟨by simp, _, [], (by simp only [go_sem, Nat.reduceBEq, Nat.reduceLT, Nat.reduceAdd, Nat.reduceLeDiff, Nat.reduceSub, Nat.reduceEqDiff, Int.reduceToNat, reduceCtorEq, ↓reduceIte]; exact rfl), ?_, ?_, ?_, ?_⟩
         ·first | exact trivial | exact ⟨trivial, trivial⟩ | exact ⟨trivial, trivial, trivial⟩ | exact ⟨trivial, trivial, trivial, trivial⟩ | (simp only [allP, and_true, true_and]; done) | (simp only [allP, and_true, true_and]; omega)
         ·simp [selOk, pos]
         ·simp
         ·simp only [go_sem, Nat.reduceBEq, Nat.reduceLT, Nat.reduceAdd, Nat.reduceLeDiff, Nat.reduceSub, Nat.reduceEqDiff, Int.reduceToNat, reduceCtorEq, ↓reduceIte]
          simp only [cmpI]; first | (rw [if_pos (by omega)]; done) | (rw [if_neg (by omega), if_pos (by omega)]; done) | (rw [if_neg (by omega), if_neg (by omega)]; done)))
 ·first
  | exact absurd hc0 (by decide)
  | (simp at hc0; done)
  | (exfalso; (try simp at hc0); omega)
  | ((try simp at hc0)
     refine awp_skip ?_
     refine hK4 _ _ ?_
     clear hK4
     refine awp_seq fun K10 hK10 => ?_
     refine awp_seq fun K11 hK11 => ?_
     refine awp_region ftAOk ?_
     simp (maxSteps := 4000000) only [go_sem, Nat.reduceBEq, Nat.reduceLT, Nat.reduceAdd, Nat.reduceLeDiff, Nat.reduceSub, Nat.reduceEqDiff, Int.reduceToNat, reduceCtorEq, ↓reduceIte, ftA, isNaNG, l1InG, l4BeforeG, isNaNG, ftA]
     repeat' (first | refine And.intro ?_ ?_ | (intro hg; try simp at hg))
     all_goals first
      | refine hK11 _ _ ?_
      | exact trivial
      | omega
      | ((simp; omega))
     clear hK11
     refine awp_cond (t := 13) rfl (fun hc2 => ?_) (fun hc2 => ?_)
     ·first
      | exact absurd hc2 (by decide)
      | (simp at hc2; done)
      | (exfalso; (try simp at hc2); omega)
      | ((try simp at hc2)
         refine awp_seq fun K12 hK12 => ?_
         refine awp_region ftAOk ?_
         simp (maxSteps := 4000000) only [go_sem, Nat.reduceBEq, Nat.reduceLT, Nat.reduceAdd, Nat.reduceLeDiff, Nat.reduceSub, Nat.reduceEqDiff, Int.reduceToNat, reduceCtorEq, ↓reduceIte, ftA, isNaNG, l1InG, l4BeforeG, isNaNG, ftA]
         repeat' (first | refine And.intro ?_ ?_ | (intro hg; try simp at hg))
         all_goals first
          | refine hK12 _ _ ?_
          | exact trivial
          | omega
          | ((simp; omega))
         clear hK12
         refine awp_ret ?_
         (try simp only [Thn, InBlk, ↓reduceIte, Nat.reduceEqDiff])
         refine ⟨by simp, _, [], (by simp only [go_sem, Nat.reduceBEq, Nat.reduceLT, Nat.reduceAdd, Nat.reduceLeDiff, Nat.reduceSub, Nat.reduceEqDiff, Int.reduceToNat, reduceCtorEq, ↓reduceIte]; exact rfl), ?_, ?_, ?_, ?_⟩
         ·first | exact trivial | exact ⟨trivial, trivial⟩ | exact ⟨trivial, trivial, trivial⟩ | exact ⟨trivial, trivial, trivial, trivial⟩ | (simp only [allP, and_true, true_and]; done) | (simp only [allP, and_true, true_and]; omega)
         ·simp [selOk, pos]
         ·simp
         ·simp only [go_sem, Nat.reduceBEq, Nat.reduceLT, Nat.reduceAdd, Nat.reduceLeDiff, Nat.reduceSub, Nat.reduceEqDiff, Int.reduceToNat, reduceCtorEq, ↓reduceIte]
          simp only [cmpI]; first | (rw [if_pos (by omega)]; done) | (rw [if_neg (by omega), if_pos (by omega)]; done) | (rw [if_neg (by omega), if_neg (by omega)]; done))
     ·first
      | exact absurd hc2 (by decide)
      | (simp at hc2; done)
      | (exfalso; (try simp at hc2); omega)
      | ((try simp at hc2)
         refine awp_skip ?_
         refine hK10 _ _ ?_
         clear hK10
         refine awp_seq fun K13 hK13 => ?_
         refine awp_seq fun K14 hK14 => ?_
         refine awp_region ftAOk ?_
         simp (maxSteps := 4000000) only [go_sem, Nat.reduceBEq, Nat.reduceLT, Nat.reduceAdd, Nat.reduceLeDiff, Nat.reduceSub, Nat.reduceEqDiff, Int.reduceToNat, reduceCtorEq, ↓reduceIte, ftA, isNaNG, l1InG, l4BeforeG, isNaNG, ftA]
         repeat' (first | refine And.intro ?_ ?_ | (intro hg; try simp at hg))
         all_goals first
          | refine hK14 _ _ ?_
          | exact trivial
          | omega
          | ((simp; omega))
         clear hK14
         refine awp_cond (t := 16) rfl (fun hc3 => ?_) (fun hc3 => ?_)
         ·first
          | exact absurd hc3 (by decide)
          | (simp at hc3; done)
          | (exfalso; (try simp at hc3); omega)
          | ((try simp at hc3)
             refine awp_seq fun K15 hK15 => ?_
             refine awp_region ftAOk ?_
             simp (maxSteps := 4000000) only [go_sem, Nat.reduceBEq, Nat.reduceLT, Nat.reduceAdd, Nat.reduceLeDiff, Nat.reduceSub, Nat.reduceEqDiff, Int.reduceToNat, reduceCtorEq, ↓reduceIte, ftA, isNaNG, l1InG, l4BeforeG, isNaNG, ftA]
             repeat' (first | refine And.intro ?_ ?_ | (intro hg; try simp at hg))
             all_goals first
              | refine hK15 _ _ ?_
              | exact trivial
              | omega
              | ((simp; omega))
             clear hK15
             refine awp_ret ?_
             (try simp only [Thn, InBlk, ↓reduceIte, Nat.reduceEqDiff])
             refine ⟨by simp, _, [], (by simp only [go_sem, Nat.reduceBEq, Nat.reduceLT, Nat.reduceAdd, Nat.reduceLeDiff, Nat.reduceSub, Nat.reduceEqDiff, Int.reduceToNat, reduceCtorEq, ↓reduceIte]; exact rfl), ?_, ?_, ?_, ?_⟩
             ·first | exact trivial | exact ⟨trivial, trivial⟩ | exact ⟨trivial, trivial, trivial⟩ | exact ⟨trivial, trivial, trivial, trivial⟩ | (simp only [allP, and_true, true_and]; done) | (simp only [allP, and_true, true_and]; omega)
             ·simp [selOk, pos]
             ·simp
             ·simp only [go_sem, Nat.reduceBEq, Nat.reduceLT, Nat.reduceAdd, Nat.reduceLeDiff, Nat.reduceSub, Nat.reduceEqDiff, Int.reduceToNat, reduceCtorEq, ↓reduceIte]
              simp only [cmpI]; first | (rw [if_pos (by omega)]; done) | (rw [if_neg (by omega), if_pos (by omega)]; done) | (rw [if_neg (by omega), if_neg (by omega)]; done))
         ·first
          | exact absurd hc3 (by decide)
          | (simp at hc3; done)
          | (exfalso; (try simp at hc3); omega)
          | ((try simp at hc3)
             refine awp_skip ?_
             refine hK13 _ _ ?_
             clear hK13
             refine awp_seq fun K16 hK16 => ?_
             refine awp_seq fun K17 hK17 => ?_
             refine awp_region ftAOk ?_
             simp (maxSteps := 4000000) only [go_sem, Nat.reduceBEq, Nat.reduceLT, Nat.reduceAdd, Nat.reduceLeDiff, Nat.reduceSub, Nat.reduceEqDiff, Int.reduceToNat, reduceCtorEq, ↓reduceIte, ftA, isNaNG, l1InG, l4BeforeG, isNaNG, ftA]
             repeat' (first | refine And.intro ?_ ?_ | (intro hg; try simp at hg))
             all_goals first
              | refine hK17 _ _ ?_
              | exact trivial
              | omega
              | ((simp; omega))
             clear hK17
             refine awp_cond (t := 19) rfl (fun hc4 => ?_) (fun hc4 => ?_)
             ·first
              | exact absurd hc4 (by decide)
              | (simp at hc4; done)
              | (exfalso; (try simp at hc4); omega)
              | ((try simp at hc4)
                 refine awp_seq fun K18 hK18 => ?_
                 refine awp_region ftAOk ?_
                 simp (maxSteps := 4000000) only [go_sem, Nat.reduceBEq, Nat.reduceLT, Nat.reduceAdd, Nat.reduceLeDiff, Nat.reduceSub, Nat.reduceEqDiff, Int.reduceToNat, reduceCtorEq, ↓reduceIte, ftA, isNaNG, l1InG, l4BeforeG, isNaNG, ftA]
                 repeat' (first | refine And.intro ?_ ?_ | (intro hg; try simp at hg))
                 all_goals first
                  | refine hK18 _ _ ?_
                  | exact trivial
                  | omega
                  | ((simp; omega))
                 clear hK18
                 refine awp_ret ?_
                 (try simp only [Thn, InBlk, ↓reduceIte, Nat.reduceEqDiff])
                 refine ⟨by simp, _, [], (by simp only [go_sem, Nat.reduceBEq, Nat.reduceLT, Nat.reduceAdd, Nat.reduceLeDiff, Nat.reduceSub, Nat.reduceEqDiff, Int.reduceToNat, reduceCtorEq, ↓reduceIte]; exact rfl), ?_, ?_, ?_, ?_⟩
                 ·first | exact trivial | exact ⟨trivial, trivial⟩ | exact ⟨trivial, trivial, trivial⟩ | exact ⟨trivial, trivial, trivial, trivial⟩ | (simp only [allP, and_true, true_and]; done) | (simp only [allP, and_true, true_and]; omega)
                 ·simp [selOk, pos]
                 ·simp
                 ·simp only [go_sem, Nat.reduceBEq, Nat.reduceLT, Nat.reduceAdd, Nat.reduceLeDiff, Nat.reduceSub, Nat.reduceEqDiff, Int.reduceToNat, reduceCtorEq, ↓reduceIte]
                  simp only [cmpI]; first | (rw [if_pos (by omega)]; done) | (rw [if_neg (by omega), if_pos (by omega)]; done) | (rw [if_neg (by omega), if_neg (by omega)]; done))
             ·first
              | exact absurd hc4 (by decide)
              | (simp at hc4; done)
              | (exfalso; (try simp at hc4); omega)
              | ((try simp at hc4)
                 refine awp_skip ?_
                 refine hK16 _ _ ?_
                 clear hK16
                 refine awp_seq fun K19 hK19 => ?_
                 refine awp_region ftAOk ?_
                 simp (maxSteps := 4000000) only [go_sem, Nat.reduceBEq, Nat.reduceLT, Nat.reduceAdd, Nat.reduceLeDiff, Nat.reduceSub, Nat.reduceEqDiff, Int.reduceToNat, reduceCtorEq, ↓reduceIte, ftA, isNaNG, l1InG, l4BeforeG, isNaNG, ftA]
                 repeat' (first | refine And.intro ?_ ?_ | (intro hg; try simp at hg))
                 all_goals first
                  | refine hK19 _ _ ?_
                  | exact trivial
                  | omega
                  | ((simp; omega))
                 clear hK19
                 refine awp_ret ?_
                 (try simp only [Thn, InBlk, ↓reduceIte, Nat.reduceEqDiff])
                 refine ⟨by simp, _, [], (by simp only [go_sem, Nat.reduceBEq, Nat.reduceLT, Nat.reduceAdd, Nat.reduceLeDiff, Nat.reduceSub, Nat.reduceEqDiff, Int.reduceToNat, reduceCtorEq, ↓reduceIte]; exact rfl), ?_, ?_, ?_, ?_⟩
                 ·first | exact trivial | exact ⟨trivial, trivial⟩ | exact ⟨trivial, trivial, trivial⟩ | exact ⟨trivial, trivial, trivial, trivial⟩ | (simp only [allP, and_true, true_and]; done) | (simp only [allP, and_true, true_and]; omega)
                 ·simp [selOk, pos]
                 ·simp
                 ·simp only [go_sem, Nat.reduceBEq, Nat.reduceLT, Nat.reduceAdd, Nat.reduceLeDiff, Nat.reduceSub, Nat.reduceEqDiff, Int.reduceToNat, reduceCtorEq, ↓reduceIte]
                  simp only [cmpI]; first | (rw [if_pos (by omega)]; done) | (rw [if_neg (by omega), if_pos (by omega)]; done) | (rw [if_neg (by omega), if_neg (by omega)]; done)))))
def cmpIntG : List Value → Option (Prop × Value)
 | [x0, x1] => (match unI x0 with | some a => (match unI x1 with | some b => some (True, .int .i64 (cmpI a b)) | none => none) | none => none)
 | _ => none
theorem cmpIntP : PureF Tryz.prog 114 cmpIntG := PureF.of en114 fun vs q r hg hq => by
 unfold cmpIntG at hg
 split at hg
 ·rename_i x0 x1
  cases h0 : unI x0 with
  | none => simp only [h0, reduceCtorEq] at hg
  | some r0 =>
    simp only [h0] at hg
    have e0 := unI_spec h0
    subst e0
    cases h1 : unI x1 with
    | none => simp only [h1, reduceCtorEq] at hg
    | some r1 =>
      simp only [h1] at hg
      have e1 := unI_spec h1
      subst e1
      simp only [Option.some.injEq, Prod.mk.injEq] at hg
      obtain ⟨_, rfl⟩ := hg
      exact c_cmp_Compare_int _ _
 ·cases hg
def ftB : FuncId → Option (List Value → Option (Prop × Value)) := (ftAdd 114 cmpIntG (ftAdd 115 isNaNG (ftAdd 93 l4BeforeG (ftAdd 71 l1InG ftNone))))
theorem ftBOk : PTab Tryz.prog ftB := (ftAddOk cmpIntP (ftAddOk isNaNP (ftAddOk l4BeforeP (ftAddOk l1InP ftNoneOk))))
def orF : List Int → Int
 | [] => 0
 | x :: l => if x = 0 then orF l else x
theorem orF_drop {xs : List Int} {k : Nat} (hk : k < xs.length) : orF (xs.drop k) = if xs[k]?.getD 0 = 0 then orF (xs.drop (k + 1)) else xs[k]?.getD 0 := by
 rw [List.drop_eq_getElem_cons hk, orF]; simp [hk]
theorem c_cmp_Or_int (xs : List Int) (hx : xs.length ≤ 1000000000) :
 FnA Tryz.prog 113 [.sl 0] [.row false (.ints .i64 xs)] [] (fun x H => x = .v (.int .i64 (orF xs)) ∧ H = [.row false (.ints .i64 xs)]) := by
 refine FnA.of (N := 18) (pin := [0]) (rs := [.tmp 2]) Tryz.func113 rfl en113 rfl rfl (by simp) (by simp; try omega) ?_
 refine awp_seq fun K1 hK1 => ?_
 refine awp_region ftBOk ?_
 simp (maxSteps := 4000000) only [go_sem, Nat.reduceBEq, Nat.reduceLT, Nat.reduceAdd, Nat.reduceLeDiff, Nat.reduceSub, Nat.reduceEqDiff, Int.reduceToNat, reduceCtorEq, ↓reduceIte, l1InG, l4BeforeG, isNaNG, cmpIntG, ftB]
 repeat' (first | refine And.intro ?_ ?_ | (intro hg; try simp at hg))
 all_goals first
  | refine hK1 _ _ ?_
  | exact trivial
  | omega
  | ((simp; omega))
 clear hK1
 refine awp_seq fun K2 hK2 => ?_
 refine awp_region ftBOk ?_
 simp (maxSteps := 4000000) only [go_sem, Nat.reduceBEq, Nat.reduceLT, Nat.reduceAdd, Nat.reduceLeDiff, Nat.reduceSub, Nat.reduceEqDiff, Int.reduceToNat, reduceCtorEq, ↓reduceIte, l1InG, l4BeforeG, isNaNG, cmpIntG, ftB]
 repeat' (first | refine And.intro ?_ ?_ | (intro hg; try simp at hg))
 all_goals first
  | refine hK2 _ _ ?_
  | exact trivial
  | omega
  | ((simp; omega))
 clear hK2
 refine awp_seq fun K3 hK3 => ?_
 refine awp_seq fun K4 hK4 => ?_
 refine awp_region ftBOk ?_
 simp (maxSteps := 4000000) only [go_sem, Nat.reduceBEq, Nat.reduceLT, Nat.reduceAdd, Nat.reduceLeDiff, Nat.reduceSub, Nat.reduceEqDiff, Int.reduceToNat, reduceCtorEq, ↓reduceIte, l1InG, l4BeforeG, isNaNG, cmpIntG, ftB]
 repeat' (first | refine And.intro ?_ ?_ | (intro hg; try simp at hg))
 all_goals first
  | refine hK4 _ _ ?_
  | exact trivial
  | omega
  | ((simp; omega))
 clear hK4
 refine awp_block ?_
 refine awp_loop (σ := Nat) (fun k => k ≤ xs.length ∧ orF (xs.drop k) = orF xs) (fun k => [(6, .sl 0), (3, .v (.int .i64 0)), (7, .v (.int .i64 (xs.length : Int))), (8, .v (.int .i64 (k : Int)))]) (fun _ => [.row false (.ints .i64 xs)]) (fun k => xs.length - k) (0) ?_ ?_ ?_
 ·exact ⟨by omega, rfl⟩
 ·refine Red.fin ?_ rfl
  (simp only [Ele, Env.ren, AV.ren, AV.ren2, AV.ren1, AObj.ren, pos, selH, List.map_cons, List.map_nil, List.lookup, Nat.reduceBEq, Nat.reduceAdd, Nat.reduceEqDiff, Option.some.injEq, AV.v.injEq, AV.sl.injEq, AV.pp.injEq, AV.ep.injEq, AV.agg.injEq, List.cons.injEq, Value.int.injEq, Value.bool.injEq, Value.string.injEq, true_and, and_true, true_or, or_true, or_false, false_or, reduceCtorEq, ↓reduceIte, Option.getD_some, Option.getD_none, List.getElem?_cons_zero, List.getElem?_cons_succ, List.getElem?_nil, Nat.zero_add, Nat.one_ne_zero, Nat.zero_ne_one, and_self]) <;> first | done | omega
 ·intro k hs
  refine awp_seq fun K5 hK5 => ?_
  refine awp_region ftBOk ?_
  simp (maxSteps := 4000000) only [go_sem, Nat.reduceBEq, Nat.reduceLT, Nat.reduceAdd, Nat.reduceLeDiff, Nat.reduceSub, Nat.reduceEqDiff, Int.reduceToNat, reduceCtorEq, ↓reduceIte, l1InG, l4BeforeG, isNaNG, cmpIntG, ftB]
  repeat' (first | refine And.intro ?_ ?_ | (intro hg; try simp at hg))
  all_goals first
   | refine hK5 _ _ ?_
   | exact trivial
   | omega
   | ((simp; omega))
  clear hK5
  refine awp_seq fun K6 hK6 => ?_
  refine awp_cond (t := 9) rfl (fun hc0 => ?_) (fun hc0 => ?_)
  ·first
   | exact absurd hc0 (by decide)
   | (simp at hc0; done)
   | (exfalso; (try simp at hc0); omega)
   | ((try simp at hc0)
      refine awp_skip ?_
      refine hK6 _ _ ?_
      clear hK6
      refine awp_seq fun K7 hK7 => ?_
      refine awp_block ?_
      refine awp_seq fun K8 hK8 => ?_
      refine awp_region ftBOk ?_
      simp (maxSteps := 4000000) only [go_sem, Nat.reduceBEq, Nat.reduceLT, Nat.reduceAdd, Nat.reduceLeDiff, Nat.reduceSub, Nat.reduceEqDiff, Int.reduceToNat, reduceCtorEq, ↓reduceIte, l1InG, l4BeforeG, isNaNG, cmpIntG, ftB]
      repeat' (first | refine And.intro ?_ ?_ | (intro hg; try simp at hg))
      all_goals first
       | refine hK8 _ _ ?_
       | exact trivial
       | omega
       | ((simp; omega))
      clear hK8
      refine awp_seq fun K9 hK9 => ?_
      refine awp_region ftBOk ?_
      simp (maxSteps := 4000000) only [go_sem, Nat.reduceBEq, Nat.reduceLT, Nat.reduceAdd, Nat.reduceLeDiff, Nat.reduceSub, Nat.reduceEqDiff, Int.reduceToNat, reduceCtorEq, ↓reduceIte, l1InG, l4BeforeG, isNaNG, cmpIntG, ftB]
      repeat' (first | refine And.intro ?_ ?_ | (intro hg; try simp at hg))
      all_goals first
       | refine hK9 _ _ ?_
       | exact trivial
       | omega
       | ((simp; omega))
      clear hK9
      refine awp_cond (t := 14) rfl (fun hc1 => ?_) (fun hc1 => ?_)
      ·first
       | exact absurd hc1 (by decide)
       | (simp at hc1; done)
       | (exfalso; (try simp at hc1); omega)
       | ((try simp at hc1)
          refine awp_seq fun K10 hK10 => ?_
          refine awp_region ftBOk ?_
          simp (maxSteps := 4000000) only [go_sem, Nat.reduceBEq, Nat.reduceLT, Nat.reduceAdd, Nat.reduceLeDiff, Nat.reduceSub, Nat.reduceEqDiff, Int.reduceToNat, reduceCtorEq, ↓reduceIte, l1InG, l4BeforeG, isNaNG, cmpIntG, ftB]
          repeat' (first | refine And.intro ?_ ?_ | (intro hg; try simp at hg))
          all_goals first
           | refine hK10 _ _ ?_
           | exact trivial
           | omega
           | ((simp; omega))
          clear hK10
          refine awp_ret ?_
          (try simp only [Thn, InBlk, ↓reduceIte, Nat.reduceEqDiff])
          refine ⟨by simp, _, [0], (by simp only [go_sem, Nat.reduceBEq, Nat.reduceLT, Nat.reduceAdd, Nat.reduceLeDiff, Nat.reduceSub, Nat.reduceEqDiff, Int.reduceToNat, reduceCtorEq, ↓reduceIte]; exact rfl), ?_, ?_, ?_, ?_⟩
          ·first | exact trivial | exact ⟨trivial, trivial⟩ | exact ⟨trivial, trivial, trivial⟩ | exact ⟨trivial, trivial, trivial, trivial⟩ | (simp only [allP, and_true, true_and]; done) | (simp only [allP, and_true, true_and]; omega)
          ·simp [selOk, pos]
          ·simp
          ·simp only [go_sem, Nat.reduceBEq, Nat.reduceLT, Nat.reduceAdd, Nat.reduceLeDiff, Nat.reduceSub, Nat.reduceEqDiff, Int.reduceToNat, reduceCtorEq, ↓reduceIte]
           rw [← hs.2, orF_drop hc0, if_neg hc1]; simp)
      ·first
       | exact absurd hc1 (by decide)
       | (simp at hc1; done)
       | (exfalso; (try simp at hc1); omega)
       | ((try simp at hc1)
          refine awp_skip ?_
          (try simp only [Thn, InBlk, ↓reduceIte, Nat.reduceEqDiff])
          refine hK7 _ _ ?_
          clear hK7
          refine awp_last fun K11 hK11 => ?_
          refine awp_region ftBOk ?_
          simp (maxSteps := 4000000) only [go_sem, Nat.reduceBEq, Nat.reduceLT, Nat.reduceAdd, Nat.reduceLeDiff, Nat.reduceSub, Nat.reduceEqDiff, Int.reduceToNat, reduceCtorEq, ↓reduceIte, l1InG, l4BeforeG, isNaNG, cmpIntG, ftB]
          repeat' (first | refine And.intro ?_ ?_ | (intro hg; try simp at hg))
          all_goals first
           | refine hK11 _ _ ?_
           | exact trivial
           | omega
           | ((simp; omega))
          clear hK11
          (try simp only [Thn, InBlk, ↓reduceIte, Nat.reduceEqDiff])
          refine ⟨k + 1, ?_, ?_, ?_⟩
          ·exact ⟨by omega, by rw [← hs.2, orF_drop hc0, if_pos hc1]⟩
          ·first | omega | (simp only []; omega)
          ·refine Red.fin ?_ rfl
           (simp only [Ele, Env.ren, AV.ren, AV.ren2, AV.ren1, AObj.ren, pos, selH, List.map_cons, List.map_nil, List.lookup, Nat.reduceBEq, Nat.reduceAdd, Nat.reduceEqDiff, Option.some.injEq, AV.v.injEq, AV.sl.injEq, AV.pp.injEq, AV.ep.injEq, AV.agg.injEq, List.cons.injEq, Value.int.injEq, Value.bool.injEq, Value.string.injEq, true_and, and_true, true_or, or_true, or_false, false_or, reduceCtorEq, ↓reduceIte, Option.getD_some, Option.getD_none, List.getElem?_cons_zero, List.getElem?_cons_succ, List.getElem?_nil, Nat.zero_add, Nat.one_ne_zero, Nat.zero_ne_one, and_self]) <;> first | done | omega | (refine ⟨?_, ?_⟩ <;> omega)))
  ·first
   | exact absurd hc0 (by decide)
   | (simp at hc0; done)
   | (exfalso; (try simp at hc0); omega)
   | ((try simp at hc0)
      refine awp_exit ?_
      (try simp only [Thn, InBlk, ↓reduceIte, Nat.reduceEqDiff])
      refine hK3 _ _ ?_
      clear hK3
      refine awp_seq fun K12 hK12 => ?_
      refine awp_region ftBOk ?_
      simp (maxSteps := 4000000) only [go_sem, Nat.reduceBEq, Nat.reduceLT, Nat.reduceAdd, Nat.reduceLeDiff, Nat.reduceSub, Nat.reduceEqDiff, Int.reduceToNat, reduceCtorEq, ↓reduceIte, l1InG, l4BeforeG, isNaNG, cmpIntG, ftB]
      repeat' (first | refine And.intro ?_ ?_ | (intro hg; try simp at hg))
      all_goals first
       | refine hK12 _ _ ?_
       | exact trivial
       | omega
       | ((simp; omega))
      clear hK12
      refine awp_ret ?_
      (try simp only [Thn, InBlk, ↓reduceIte, Nat.reduceEqDiff])
      refine ⟨by simp, _, [0], (by simp only [go_sem, Nat.reduceBEq, Nat.reduceLT, Nat.reduceAdd, Nat.reduceLeDiff, Nat.reduceSub, Nat.reduceEqDiff, Int.reduceToNat, reduceCtorEq, ↓reduceIte]; exact rfl), ?_, ?_, ?_, ?_⟩
      ·first | exact trivial | exact ⟨trivial, trivial⟩ | exact ⟨trivial, trivial, trivial⟩ | exact ⟨trivial, trivial, trivial, trivial⟩ | (simp only [allP, and_true, true_and]; done) | (simp only [allP, and_true, true_and]; omega)
      ·simp [selOk, pos]
      ·simp
      ·simp only [go_sem, Nat.reduceBEq, Nat.reduceLT, Nat.reduceAdd, Nat.reduceLeDiff, Nat.reduceSub, Nat.reduceEqDiff, Int.reduceToNat, reduceCtorEq, ↓reduceIte]
       rw [← hs.2, List.drop_of_length_le hc0]; rfl)
theorem c_impl_compareMessages (a b c d e f : Int) :
 FnA Tryz.prog 100 [.agg [.v (.int .i64 a), .v (.int .i64 b), .v (.int .i64 c)], .agg [.v (.int .i64 d), .v (.int .i64 e), .v (.int .i64 f)]] [] [] (fun x _ => x = .v (.int .i64 (orF [cmpI a d, cmpI b e, cmpI c f]))) := by
 refine FnA.of (N := 22) (pin := []) (rs := [.tmp 4]) Tryz.func100 rfl en100 rfl rfl (by simp) (by simp; try omega) ?_
 refine awp_seq fun K1 hK1 => ?_
 refine awp_region ftBOk ?_
 simp (maxSteps := 4000000) only [go_sem, Nat.reduceBEq, Nat.reduceLT, Nat.reduceAdd, Nat.reduceLeDiff, Nat.reduceSub, Nat.reduceEqDiff, Int.reduceToNat, reduceCtorEq, ↓reduceIte, ftB, cmpIntG, l1InG, l4BeforeG, isNaNG, cmpIntG, ftB]
 repeat' (first | refine And.intro ?_ ?_ | (intro hg; try simp at hg))
 all_goals first
  | refine hK1 _ _ ?_
  | exact trivial
  | omega
  | ((simp; omega))
 clear hK1
 refine awp_freeze 2 (by rfl) (by rfl) (by simp only [List.map_cons, List.map_nil, List.set_cons_succ, List.set_cons_zero, AObj.unview, reduceCtorEq, ↓reduceIte, Nat.reduceEqDiff]; exact rfl) ?_
 refine awp_freeze 3 (by rfl) (by rfl) (by simp only [List.map_cons, List.map_nil, List.set_cons_succ, List.set_cons_zero, AObj.unview, reduceCtorEq, ↓reduceIte, Nat.reduceEqDiff]; exact rfl) ?_
 refine awp_seq fun K2 hK2 => ?_
 refine awp_draw mixed ftBOk [(0, true), (2, true), (5, true), (7, true), (10, true), (12, true), (1, true), (3, true), (6, true), (8, true), (11, true), (13, true), (4, false), (9, false), (14, false), (15, false), (16, false), (17, false)] (by kernel_rfl) (by simp) ?_
 simp (maxSteps := 4000000) only [go_sem, Nat.reduceBEq, Nat.reduceLT, Nat.reduceAdd, Nat.reduceLeDiff, Nat.reduceSub, Nat.reduceEqDiff, Int.reduceToNat, reduceCtorEq, ↓reduceIte, ftB, cmpIntG, l1InG, l4BeforeG, isNaNG, cmpIntG, ftB]
 repeat' (first | refine And.intro ?_ ?_ | (intro hg; try simp at hg))
 all_goals first
  | refine hK2 _ _ ?_
  | (refine OpK_call (c_cmp_Or_int [cmpI a d, cmpI b e, cmpI c f] (by simp)) [2] [] (by rfl) ?_ (by rfl) ?_ ?_ ?_ ?_ ?_
     ·first | (simp (maxSteps := 4000000) only [go_sem, Nat.reduceBEq, Nat.reduceLT, Nat.reduceAdd, Nat.reduceLeDiff, Nat.reduceSub, Nat.reduceEqDiff, Int.reduceToNat, reduceCtorEq, ↓reduceIte, ftB, cmpIntG, l1InG, l4BeforeG, isNaNG, cmpIntG, ftB]; done) | (simp (maxSteps := 4000000) only [go_sem, Nat.reduceBEq, Nat.reduceLT, Nat.reduceAdd, Nat.reduceLeDiff, Nat.reduceSub, Nat.reduceEqDiff, Int.reduceToNat, reduceCtorEq, ↓reduceIte, ftB, cmpIntG, l1InG, l4BeforeG, isNaNG, cmpIntG, ftB] <;> simp)
     ·simp [exIds, AObj.excl]
     ·first | (simp (maxSteps := 4000000) only [go_sem, Nat.reduceBEq, Nat.reduceLT, Nat.reduceAdd, Nat.reduceLeDiff, Nat.reduceSub, Nat.reduceEqDiff, Int.reduceToNat, reduceCtorEq, ↓reduceIte, ftB, cmpIntG, l1InG, l4BeforeG, isNaNG, cmpIntG, ftB]; done) | (simp (maxSteps := 4000000) only [go_sem, Nat.reduceBEq, Nat.reduceLT, Nat.reduceAdd, Nat.reduceLeDiff, Nat.reduceSub, Nat.reduceEqDiff, Int.reduceToNat, reduceCtorEq, ↓reduceIte, ftB, cmpIntG, l1InG, l4BeforeG, isNaNG, cmpIntG, ftB] <;> simp)
     ·simp
     ·simp [exIds, AObj.excl]
     intro x Hc' hR hlen
     obtain ⟨rfl, rfl⟩ := hR
     all_goals
      simp (maxSteps := 4000000) only [go_sem, Nat.reduceBEq, Nat.reduceLT, Nat.reduceAdd, Nat.reduceLeDiff, Nat.reduceSub, Nat.reduceEqDiff, Int.reduceToNat, reduceCtorEq, ↓reduceIte, ftB, cmpIntG, l1InG, l4BeforeG, isNaNG, cmpIntG, ftB]
      repeat' (first | refine And.intro ?_ ?_ | (intro hg; try simp at hg))
      all_goals first
       | refine hK2 _ _ ?_
       | exact trivial
       | omega
       | ((simp; omega)))
  | exact trivial
  | omega
  | ((simp; omega))
 all_goals
  clear hK2
  refine awp_keep [0, 1, 2, 3, 4] (by simp only [keepE, List.map_cons, List.map_nil, List.lookup, Nat.reduceBEq, Option.getD_some, Option.getD_none]; exact rfl) ?_
  refine awp_ret ?_
  (try simp only [Thn, InBlk, ↓reduceIte, Nat.reduceEqDiff])
  refine ⟨by simp, _, [], (by simp only [go_sem, Nat.reduceBEq, Nat.reduceLT, Nat.reduceAdd, Nat.reduceLeDiff, Nat.reduceSub, Nat.reduceEqDiff, Int.reduceToNat, reduceCtorEq, ↓reduceIte]; exact rfl), ?_, ?_, ?_, ?_⟩
  ·first | exact trivial | exact ⟨trivial, trivial⟩ | exact ⟨trivial, trivial, trivial⟩ | exact ⟨trivial, trivial, trivial, trivial⟩ | (simp only [allP, and_true, true_and]; done) | (simp only [allP, and_true, true_and]; omega)
  ·simp [selOk, pos]
  ·simp
  ·simp only [go_sem, Nat.reduceBEq, Nat.reduceLT, Nat.reduceAdd, Nat.reduceLeDiff, Nat.reduceSub, Nat.reduceEqDiff, Int.reduceToNat, reduceCtorEq, ↓reduceIte]
end Go.Proofs.YteoedigfnfjopaaGreat
