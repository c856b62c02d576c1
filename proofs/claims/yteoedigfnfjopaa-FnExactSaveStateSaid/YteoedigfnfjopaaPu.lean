/- Functions that only compute. -/
import Derived.Test.YteoedigfnfjopaaAr
set_option maxRecDepth 100000
set_option maxHeartbeats 4000000
set_option linter.unusedSimpArgs false
set_option linter.unusedVariables false
namespace Go.Proofs.Yteoedigfnfjopaa
open Go Go.Av
attribute [local irreducible] wpA OpK awp
attribute [local go_sem] eqAgg eqAggV buildQ placesOf buildCells List.toList_toArray vcQg gfind gfree gput un3_agg unI_int unB_bool unK_int guardU skipV resVs resV vcD vcD1 roH roOb ftNone ftAdd oneOrTup AV.detup AV.ren AV.ren2 AV.ren1 pos selH AObj.ren fitAll fit fit1 fit1s matchAll matchOb exIds AObj.excl Env.killp pastH setAll upId AObj.past AObj.back AV.killp AV.killp1 AV.killp2 Nat.sub_self Nat.lt_irrefl Bool.or_self vcOps vcOp vcQs vcQ dstOk quiet eff pcall calleeF plain valsOf ev ofConst argEnv List.lookup Nat.add_eq decide_true decide_false Env.put binV quoC isTwo_2 isTwo_1 isTwo_3 isTwo_4 isTwo_5 isTwo_6 isTwo_7 isTwo_8 isTwo_9 isTwo_10 isTwo_11 isTwo_12 isTwo_13 isTwo_14 isTwo_15 isTwo_16 isTwo_17 isTwo_20 isTwo_24 isTwo_32 isTwo_60 isTwo_64 isTwo_100 isTwo_128 isTwo_256 isTwo_1000 wrapTo unV convV loadQ indexQ callQ builtinQ rd rdI globC AObj.globC partAV isAggD isArrayD addrAdd boxE storeE storeXE storeCE storeGE storeFE storeAE storeHE allocAE buildME appendME lookupQ mapUpE plainVs isIfaceD ifaceQ assertQ List.all_cons aggQ arrD arrL arrL_map arrV makeE makeXE makeNE makeGE buildXE buildNE buildGE nestZero Cont.child Cont.setChild buildSliceE buildFold appendE appendXE appendNE appendGE Cont.setG nestApp appendV promoteH sliceE boundAV subObj asCells Value.oneCell' contZero Cont.sets Cont.app Cont.sub Cont.len Cont.esz Cont.cell Cont.cells Cont.flat AV.det AV.det1 guardV AObj.unview AObj.kill Env.kill AV.kill AV.kill1 AV.kill2 fits64 Option.getD_some Option.getD_none Option.map_some Option.map_none Option.bind_some List.map_cons List.map_nil List.getElem?_cons_zero List.getElem?_cons_succ List.getElem?_nil true_and and_true and_false false_and List.getElem?_toArray List.cons_append List.nil_append List.length_cons List.length_nil List.set_cons_zero List.set_cons_succ List.take_succ_cons List.take_zero List.drop_succ_cons List.drop_zero List.drop_nil List.take_nil List.contains_cons List.contains_nil List.elem_cons List.elem_nil Bool.not_true Bool.not_false Bool.false_eq_true Bool.or_false Bool.or_true Bool.and_true Bool.and_false Bool.true_and Bool.false_and List.all_cons List.all_nil List.size_toArray Nat.lt_add_one Nat.zero_lt_succ Nat.one_ne_zero Nat.zero_ne_one and_self List.replicate_succ List.replicate_zero Int.toNat_natCast Int.toNat_zero Value.cells false_implies true_implies forall_const Thn InBlk Nat.zero_add Nat.add_zero Int.zero_add tsz0 tby0 tz0 Try.underlying0 tsz1 tby1 tz1 Try.underlying1 tsz2 tby2 tz2 Try.underlying2 tsz3 tby3 tz3 Try.underlying3 tsz4 tby4 tz4 Try.underlying4 tsz5 tby5 tz5 Try.underlying5 tsz6 tby6 tz6 Try.underlying6 tsz7 tby7 tz7 Try.underlying7 fo7_0 fo7_1 fo7_2 fo7_3 tsz8 tby8 tz8 Try.underlying8 fo8_0 fo8_1 fo8_2 fo8_3 tsz9 tby9 Try.underlying9 tsz10 tby10 Try.underlying10 tsz12 tby12 tz12 Try.underlying12 tsz16 tby16 tz16 Try.underlying16 tsz17 tby17 tz17 Try.underlying17 tsz20 tby20 tz20 Try.underlying20 tsz21 tby21 tz21 Try.underlying21 tsz22 tby22 tz22 Try.underlying22 tsz23 tby23 tz23 Try.underlying23 tsz24 tby24 tz24 Try.underlying24 tsz25 tby25 tz25 Try.underlying25 fo25_0 fo25_1 fo25_2 fo25_3 tsz26 tby26 tz26 Try.underlying26 fo26_0 fo26_1 fo26_2 fo26_3 tsz28 tby28 tz28 Try.underlying28 fo28_0 fo28_1 tsz29 tby29 tz29 Try.underlying29 fo29_0 fo29_1 tsz30 tby30 tz30 Try.underlying30 tsz32 tby32 tz32 Try.underlying32 tsz33 tby33 tz33 Try.underlying33 fo33_0 fo33_1 fo33_2 fo33_3 tsz34 tby34 tz34 Try.underlying34 fo34_0 fo34_1 fo34_2 fo34_3 tsz40 tby40 tz40 Try.underlying40 tsz41 tby41 tz41 Try.underlying41 fo41_0 fo41_1 tsz44 tby44 tz44 Try.underlying44 tsz56 tby56 tz56 Try.underlying56 tsz61 tby61 tz61 Try.underlying61 peq61 fo61_0 fo61_1 fo61_2 tsz62 tby62 tz62 Try.underlying62 peq62 fo62_0 fo62_1 fo62_2 tsz64 tby64 tz64 Try.underlying64 peq64 fo64_0 fo64_1 fo64_2 tsz66 tby66 tz66 Try.underlying66 tsz67 tby67 tz67 Try.underlying67 tsz71 tby71 tz71 Try.underlying71 tsz72 tby72 tz72 Try.underlying72 tsz79 tby79 tz79 Try.underlying79 peq79 fo79_0 fo79_1 fo79_2 tsz80 tby80 tz80 Try.underlying80 peq80 fo80_0 fo80_1 fo80_2 tsz88 tby88 tz88 Try.underlying88 tsz89 tby89 tz89 Try.underlying89 fo89_0 tsz90 tby90 tz90 Try.underlying90 fo90_0 tsz95 tby95 tz95 Try.underlying95 tsz97 tby97 Try.underlying97 fo97_0 fo97_1 fo97_2 fo97_3 tsz98 tby98 Try.underlying98 fo98_0 fo98_1 fo98_2 fo98_3 tsz99 tby99 tz99 Try.underlying99 tsz100 tby100 tz100 Try.underlying100 tsz101 tby101 tz101 Try.underlying101 tsz102 tby102 tz102 Try.underlying102 tsz103 tby103 tz103 Try.underlying103 tsz104 tby104 tz104 Try.underlying104 tsz105 tby105 tz105 Try.underlying105 tsz106 tby106 tz106 Try.underlying106 tsz107 tby107 tz107 Try.underlying107 tsz108 tby108 tz108 Try.underlying108 tsz109 tby109 tz109 Try.underlying109 tsz110 tby110 tz110 Try.underlying110 fo110_0 fo110_1 fo110_2 fo110_3 fo110_4 fo110_5 fo110_6 fo110_7 fo110_8 fo110_9 fo110_10 tsz111 tby111 tz111 Try.underlying111 fo111_0 fo111_1 fo111_2 fo111_3 fo111_4 fo111_5 fo111_6 fo111_7 fo111_8 fo111_9 fo111_10 tsz113 tby113 tz113 Try.underlying113
theorem c_cmp_isNaN_int (a : Int) :
    FnA Try.prog 80 [.v (.int .i64 a)] [] [] (fun x _ => x = .v (.bool false)) := by
  refine FnA.of (N := 6) (pin := []) (rs := [.tmp 2]) Try.func80 rfl en80 rfl rfl (by simp) (by simp; try omega) ?_
  refine awp_seq fun K1 hK1 => ?_
  refine awp_region ftNoneOk ?_
  simp (maxSteps := 4000000) only [go_sem, Nat.reduceBEq, Nat.reduceLT, Nat.reduceAdd, Nat.reduceLeDiff, Nat.reduceSub, Nat.reduceEqDiff, Int.reduceToNat, reduceCtorEq, ↓reduceIte, ftNone]
  repeat' (first | refine And.intro ?_ ?_ | (intro hg; try simp at hg))
  all_goals first
    | refine hK1 _ _ ?_
    | exact trivial
    | omega
    | ((simp; omega))
  clear hK1
  refine awp_seq fun K2 hK2 => ?_
  refine awp_region ftNoneOk ?_
  simp (maxSteps := 4000000) only [go_sem, Nat.reduceBEq, Nat.reduceLT, Nat.reduceAdd, Nat.reduceLeDiff, Nat.reduceSub, Nat.reduceEqDiff, Int.reduceToNat, reduceCtorEq, ↓reduceIte, ftNone]
  repeat' (first | refine And.intro ?_ ?_ | (intro hg; try simp at hg))
  all_goals first
    | refine hK2 _ _ ?_
    | exact trivial
    | omega
    | ((simp; omega))
  clear hK2
  refine awp_ret ?_
  (try simp only [Thn, InBlk, ↓reduceIte, Nat.reduceEqDiff])
  refine ⟨by simp, _, [], (by simp only [go_sem, Nat.reduceBEq, Nat.reduceLT, Nat.reduceAdd, Nat.reduceLeDiff, Nat.reduceSub, Nat.reduceEqDiff, Int.reduceToNat, reduceCtorEq, ↓reduceIte]; exact rfl), ?_, ?_, ?_, ?_⟩
  · first | exact trivial | exact ⟨trivial, trivial⟩ | exact ⟨trivial, trivial, trivial⟩ | exact ⟨trivial, trivial, trivial, trivial⟩ | (simp only [allP, and_true, true_and]; done) | (simp only [allP, and_true, true_and]; omega)
  · simp [selOk, pos]
  · simp
  · simp only [go_sem, Nat.reduceBEq, Nat.reduceLT, Nat.reduceAdd, Nat.reduceLeDiff, Nat.reduceSub, Nat.reduceEqDiff, Int.reduceToNat, reduceCtorEq, ↓reduceIte]
    simp
def isNaNG : List Value → Option (Prop × Value)
  | [x0] => (match unI x0 with | some a => some (True, .bool false) | none => none)
  | _ => none
theorem isNaNP : PureF Try.prog 80 isNaNG := PureF.of en80 fun vs q r hg hq => by
  unfold isNaNG at hg
  split at hg
  · rename_i x0
    cases h0 : unI x0 with
    | none => simp only [h0, reduceCtorEq] at hg
    | some r0 =>
      simp only [h0] at hg
      have e0 := unI_spec h0
      subst e0
      simp only [Option.some.injEq, Prod.mk.injEq] at hg
      obtain ⟨_, rfl⟩ := hg
      exact c_cmp_isNaN_int _
  · cases hg
def ftA : FuncId → Option (List Value → Option (Prop × Value)) := (ftAdd 80 isNaNG (ftAdd 53 l1InG ftNone))
theorem ftAOk : PTab Try.prog ftA := (ftAddOk isNaNP (ftAddOk l1InP ftNoneOk))
def cmpI (a b : Int) : Int := if a < b then -1 else if b < a then 1 else 0
theorem c_cmp_Compare_int (a b : Int) :
    FnA Try.prog 78 [.v (.int .i64 a), .v (.int .i64 b)] [] [] (fun x _ => x = .v (.int .i64 (cmpI a b))) := by
  refine FnA.of (N := 20) (pin := []) (rs := [.tmp 4]) Try.func78 rfl en78 rfl rfl (by simp) (by simp; try omega) ?_
  refine awp_seq fun K1 hK1 => ?_
  refine awp_region ftAOk ?_
  simp (maxSteps := 4000000) only [go_sem, Nat.reduceBEq, Nat.reduceLT, Nat.reduceAdd, Nat.reduceLeDiff, Nat.reduceSub, Nat.reduceEqDiff, Int.reduceToNat, reduceCtorEq, ↓reduceIte, ftA, isNaNG, l1InG, isNaNG, ftA]
  repeat' (first | refine And.intro ?_ ?_ | (intro hg; try simp at hg))
  all_goals first
    | refine hK1 _ _ ?_
    | exact trivial
    | omega
    | ((simp; omega))
  clear hK1
  refine awp_seq fun K2 hK2 => ?_
  refine awp_region ftAOk ?_
  simp (maxSteps := 4000000) only [go_sem, Nat.reduceBEq, Nat.reduceLT, Nat.reduceAdd, Nat.reduceLeDiff, Nat.reduceSub, Nat.reduceEqDiff, Int.reduceToNat, reduceCtorEq, ↓reduceIte, ftA, isNaNG, l1InG, isNaNG, ftA]
  repeat' (first | refine And.intro ?_ ?_ | (intro hg; try simp at hg))
  all_goals first
    | refine hK2 _ _ ?_
    | exact trivial
    | omega
    | ((simp; omega))
  clear hK2
  refine awp_seq fun K3 hK3 => ?_
  refine awp_region ftAOk ?_
  simp (maxSteps := 4000000) only [go_sem, Nat.reduceBEq, Nat.reduceLT, Nat.reduceAdd, Nat.reduceLeDiff, Nat.reduceSub, Nat.reduceEqDiff, Int.reduceToNat, reduceCtorEq, ↓reduceIte, ftA, isNaNG, l1InG, isNaNG, ftA]
  repeat' (first | refine And.intro ?_ ?_ | (intro hg; try simp at hg))
  all_goals first
    | refine hK3 _ _ ?_
    | exact trivial
    | omega
    | ((simp; omega))
  clear hK3
  refine awp_seq fun K4 hK4 => ?_
  refine awp_seq fun K5 hK5 => ?_
  refine awp_region ftAOk ?_
  simp (maxSteps := 4000000) only [go_sem, Nat.reduceBEq, Nat.reduceLT, Nat.reduceAdd, Nat.reduceLeDiff, Nat.reduceSub, Nat.reduceEqDiff, Int.reduceToNat, reduceCtorEq, ↓reduceIte, ftA, isNaNG, l1InG, isNaNG, ftA]
  repeat' (first | refine And.intro ?_ ?_ | (intro hg; try simp at hg))
  all_goals first
    | refine hK5 _ _ ?_
    | exact trivial
    | omega
    | ((simp; omega))
  clear hK5
  refine awp_cond (t := 11) rfl (fun hc0 => ?_) (fun hc0 => ?_)
  · first
    | exact absurd hc0 (by decide)
    | (simp at hc0; done)
    | (exfalso; (try simp at hc0); omega)
    | ((try simp at hc0)
       refine awp_seq fun K6 hK6 => ?_
       refine awp_seq fun K7 hK7 => ?_
       refine awp_region ftAOk ?_
       simp (maxSteps := 4000000) only [go_sem, Nat.reduceBEq, Nat.reduceLT, Nat.reduceAdd, Nat.reduceLeDiff, Nat.reduceSub, Nat.reduceEqDiff, Int.reduceToNat, reduceCtorEq, ↓reduceIte, ftA, isNaNG, l1InG, isNaNG, ftA]
       repeat' (first | refine And.intro ?_ ?_ | (intro hg; try simp at hg))
       all_goals first
         | refine hK7 _ _ ?_
         | exact trivial
         | omega
         | ((simp; omega))
       clear hK7
       refine awp_cond (t := 12) rfl (fun hc1 => ?_) (fun hc1 => ?_)
       · first
         | exact absurd hc1 (by decide)
         | (simp at hc1; done)
         | (exfalso; (try simp at hc1); omega)
         | ((try simp at hc1)
            refine awp_seq fun K8 hK8 => ?_
            refine awp_region ftAOk ?_
            simp (maxSteps := 4000000) only [go_sem, Nat.reduceBEq, Nat.reduceLT, Nat.reduceAdd, Nat.reduceLeDiff, Nat.reduceSub, Nat.reduceEqDiff, Int.reduceToNat, reduceCtorEq, ↓reduceIte, ftA, isNaNG, l1InG, isNaNG, ftA]
            repeat' (first | refine And.intro ?_ ?_ | (intro hg; try simp at hg))
            all_goals first
              | refine hK8 _ _ ?_
              | exact trivial
              | omega
              | ((simp; omega))
            clear hK8
            refine awp_ret ?_
            (try simp only [Thn, InBlk, ↓reduceIte, Nat.reduceEqDiff])
            refine ⟨by simp, _, [], (by simp only [go_sem, Nat.reduceBEq, Nat.reduceLT, Nat.reduceAdd, Nat.reduceLeDiff, Nat.reduceSub, Nat.reduceEqDiff, Int.reduceToNat, reduceCtorEq, ↓reduceIte]; exact rfl), ?_, ?_, ?_, ?_⟩
            · first | exact trivial | exact ⟨trivial, trivial⟩ | exact ⟨trivial, trivial, trivial⟩ | exact ⟨trivial, trivial, trivial, trivial⟩ | (simp only [allP, and_true, true_and]; done) | (simp only [allP, and_true, true_and]; omega)
            · simp [selOk, pos]
            · simp
            · simp only [go_sem, Nat.reduceBEq, Nat.reduceLT, Nat.reduceAdd, Nat.reduceLeDiff, Nat.reduceSub, Nat.reduceEqDiff, Int.reduceToNat, reduceCtorEq, ↓reduceIte]
              simp only [cmpI]; first | (rw [if_pos (by omega)]; done) | (rw [if_neg (by omega), if_pos (by omega)]; done) | (rw [if_neg (by omega), if_neg (by omega)]; done))
       · first
         | exact absurd hc1 (by decide)
         | (simp at hc1; done)
         | (exfalso; (try simp at hc1); omega)
         | ((try simp at hc1)
            refine awp_skip ?_
            refine hK6 _ _ ?_
            clear hK6
            refine awp_seq fun K9 hK9 => ?_
            refine awp_region ftAOk ?_
            simp (maxSteps := 4000000) only [go_sem, Nat.reduceBEq, Nat.reduceLT, Nat.reduceAdd, Nat.reduceLeDiff, Nat.reduceSub, Nat.reduceEqDiff, Int.reduceToNat, reduceCtorEq, ↓reduceIte, ftA, isNaNG, l1InG, isNaNG, ftA]
            repeat' (first | refine And.intro ?_ ?_ | (intro hg; try simp at hg))
            all_goals first
              | refine hK9 _ _ ?_
              | exact trivial
              | omega
              | ((simp; omega))
            clear hK9
            refine awp_ret ?_
            (try simp only [Thn, InBlk, ↓reduceIte, Nat.reduceEqDiff])
            refine ⟨by simp, _, [], (by simp only [go_sem, Nat.reduceBEq, Nat.reduceLT, Nat.reduceAdd, Nat.reduceLeDiff, Nat.reduceSub, Nat.reduceEqDiff, Int.reduceToNat, reduceCtorEq, ↓reduceIte]; exact rfl), ?_, ?_, ?_, ?_⟩
            · first | exact trivial | exact ⟨trivial, trivial⟩ | exact ⟨trivial, trivial, trivial⟩ | exact ⟨trivial, trivial, trivial, trivial⟩ | (simp only [allP, and_true, true_and]; done) | (simp only [allP, and_true, true_and]; omega)
            · simp [selOk, pos]
            · simp
            · simp only [go_sem, Nat.reduceBEq, Nat.reduceLT, Nat.reduceAdd, Nat.reduceLeDiff, Nat.reduceSub, Nat.reduceEqDiff, Int.reduceToNat, reduceCtorEq, ↓reduceIte]
              simp only [cmpI]; first | (rw [if_pos (by omega)]; done) | (rw [if_neg (by omega), if_pos (by omega)]; done) | (rw [if_neg (by omega), if_neg (by omega)]; done)))
  · first
    | exact absurd hc0 (by decide)
    | (simp at hc0; done)
    | (exfalso; (try simp at hc0); omega)
    | ((try simp at hc0)
       refine awp_skip ?_
       refine hK4 _ _ ?_
       clear hK4
       refine awp_seq fun K10 hK10 => ?_
       refine awp_seq fun K11 hK11 => ?_
       refine awp_region ftAOk ?_
       simp (maxSteps := 4000000) only [go_sem, Nat.reduceBEq, Nat.reduceLT, Nat.reduceAdd, Nat.reduceLeDiff, Nat.reduceSub, Nat.reduceEqDiff, Int.reduceToNat, reduceCtorEq, ↓reduceIte, ftA, isNaNG, l1InG, isNaNG, ftA]
       repeat' (first | refine And.intro ?_ ?_ | (intro hg; try simp at hg))
       all_goals first
         | refine hK11 _ _ ?_
         | exact trivial
         | omega
         | ((simp; omega))
       clear hK11
       refine awp_cond (t := 13) rfl (fun hc2 => ?_) (fun hc2 => ?_)
       · first
         | exact absurd hc2 (by decide)
         | (simp at hc2; done)
         | (exfalso; (try simp at hc2); omega)
         | ((try simp at hc2)
            refine awp_seq fun K12 hK12 => ?_
            refine awp_region ftAOk ?_
            simp (maxSteps := 4000000) only [go_sem, Nat.reduceBEq, Nat.reduceLT, Nat.reduceAdd, Nat.reduceLeDiff, Nat.reduceSub, Nat.reduceEqDiff, Int.reduceToNat, reduceCtorEq, ↓reduceIte, ftA, isNaNG, l1InG, isNaNG, ftA]
            repeat' (first | refine And.intro ?_ ?_ | (intro hg; try simp at hg))
            all_goals first
              | refine hK12 _ _ ?_
              | exact trivial
              | omega
              | ((simp; omega))
            clear hK12
            refine awp_ret ?_
            (try simp only [Thn, InBlk, ↓reduceIte, Nat.reduceEqDiff])
            refine ⟨by simp, _, [], (by simp only [go_sem, Nat.reduceBEq, Nat.reduceLT, Nat.reduceAdd, Nat.reduceLeDiff, Nat.reduceSub, Nat.reduceEqDiff, Int.reduceToNat, reduceCtorEq, ↓reduceIte]; exact rfl), ?_, ?_, ?_, ?_⟩
            · first | exact trivial | exact ⟨trivial, trivial⟩ | exact ⟨trivial, trivial, trivial⟩ | exact ⟨trivial, trivial, trivial, trivial⟩ | (simp only [allP, and_true, true_and]; done) | (simp only [allP, and_true, true_and]; omega)
            · simp [selOk, pos]
            · simp
            · simp only [go_sem, Nat.reduceBEq, Nat.reduceLT, Nat.reduceAdd, Nat.reduceLeDiff, Nat.reduceSub, Nat.reduceEqDiff, Int.reduceToNat, reduceCtorEq, ↓reduceIte]
              simp only [cmpI]; first | (rw [if_pos (by omega)]; done) | (rw [if_neg (by omega), if_pos (by omega)]; done) | (rw [if_neg (by omega), if_neg (by omega)]; done))
       · first
         | exact absurd hc2 (by decide)
         | (simp at hc2; done)
         | (exfalso; (try simp at hc2); omega)
         | ((try simp at hc2)
            refine awp_skip ?_
            refine hK10 _ _ ?_
            clear hK10
            refine awp_seq fun K13 hK13 => ?_
            refine awp_seq fun K14 hK14 => ?_
            refine awp_region ftAOk ?_
            simp (maxSteps := 4000000) only [go_sem, Nat.reduceBEq, Nat.reduceLT, Nat.reduceAdd, Nat.reduceLeDiff, Nat.reduceSub, Nat.reduceEqDiff, Int.reduceToNat, reduceCtorEq, ↓reduceIte, ftA, isNaNG, l1InG, isNaNG, ftA]
            repeat' (first | refine And.intro ?_ ?_ | (intro hg; try simp at hg))
            all_goals first
              | refine hK14 _ _ ?_
              | exact trivial
              | omega
              | ((simp; omega))
            clear hK14
            refine awp_cond (t := 16) rfl (fun hc3 => ?_) (fun hc3 => ?_)
            · first
              | exact absurd hc3 (by decide)
              | (simp at hc3; done)
              | (exfalso; (try simp at hc3); omega)
              | ((try simp at hc3)
                 refine awp_seq fun K15 hK15 => ?_
                 refine awp_region ftAOk ?_
                 simp (maxSteps := 4000000) only [go_sem, Nat.reduceBEq, Nat.reduceLT, Nat.reduceAdd, Nat.reduceLeDiff, Nat.reduceSub, Nat.reduceEqDiff, Int.reduceToNat, reduceCtorEq, ↓reduceIte, ftA, isNaNG, l1InG, isNaNG, ftA]
                 repeat' (first | refine And.intro ?_ ?_ | (intro hg; try simp at hg))
                 all_goals first
                   | refine hK15 _ _ ?_
                   | exact trivial
                   | omega
                   | ((simp; omega))
                 clear hK15
                 refine awp_ret ?_
                 (try simp only [Thn, InBlk, ↓reduceIte, Nat.reduceEqDiff])
                 refine ⟨by simp, _, [], (by simp only [go_sem, Nat.reduceBEq, Nat.reduceLT, Nat.reduceAdd, Nat.reduceLeDiff, Nat.reduceSub, Nat.reduceEqDiff, Int.reduceToNat, reduceCtorEq, ↓reduceIte]; exact rfl), ?_, ?_, ?_, ?_⟩
                 · first | exact trivial | exact ⟨trivial, trivial⟩ | exact ⟨trivial, trivial, trivial⟩ | exact ⟨trivial, trivial, trivial, trivial⟩ | (simp only [allP, and_true, true_and]; done) | (simp only [allP, and_true, true_and]; omega)
                 · simp [selOk, pos]
                 · simp
                 · simp only [go_sem, Nat.reduceBEq, Nat.reduceLT, Nat.reduceAdd, Nat.reduceLeDiff, Nat.reduceSub, Nat.reduceEqDiff, Int.reduceToNat, reduceCtorEq, ↓reduceIte]
                   simp only [cmpI]; first | (rw [if_pos (by omega)]; done) | (rw [if_neg (by omega), if_pos (by omega)]; done) | (rw [if_neg (by omega), if_neg (by omega)]; done))
            · first
              | exact absurd hc3 (by decide)
              | (simp at hc3; done)
              | (exfalso; (try simp at hc3); omega)
              | ((try simp at hc3)
                 refine awp_skip ?_
                 refine hK13 _ _ ?_
                 clear hK13
                 refine awp_seq fun K16 hK16 => ?_
                 refine awp_seq fun K17 hK17 => ?_
                 refine awp_region ftAOk ?_
                 simp (maxSteps := 4000000) only [go_sem, Nat.reduceBEq, Nat.reduceLT, Nat.reduceAdd, Nat.reduceLeDiff, Nat.reduceSub, Nat.reduceEqDiff, Int.reduceToNat, reduceCtorEq, ↓reduceIte, ftA, isNaNG, l1InG, isNaNG, ftA]
                 repeat' (first | refine And.intro ?_ ?_ | (intro hg; try simp at hg))
                 all_goals first
                   | refine hK17 _ _ ?_
                   | exact trivial
                   | omega
                   | ((simp; omega))
                 clear hK17
                 refine awp_cond (t := 19) rfl (fun hc4 => ?_) (fun hc4 => ?_)
                 · first
                   | exact absurd hc4 (by decide)
                   | (simp at hc4; done)
                   | (exfalso; (try simp at hc4); omega)
                   | ((try simp at hc4)
                      refine awp_seq fun K18 hK18 => ?_
                      refine awp_region ftAOk ?_
                      simp (maxSteps := 4000000) only [go_sem, Nat.reduceBEq, Nat.reduceLT, Nat.reduceAdd, Nat.reduceLeDiff, Nat.reduceSub, Nat.reduceEqDiff, Int.reduceToNat, reduceCtorEq, ↓reduceIte, ftA, isNaNG, l1InG, isNaNG, ftA]
                      repeat' (first | refine And.intro ?_ ?_ | (intro hg; try simp at hg))
                      all_goals first
                        | refine hK18 _ _ ?_
                        | exact trivial
                        | omega
                        | ((simp; omega))
                      clear hK18
                      refine awp_ret ?_
                      (try simp only [Thn, InBlk, ↓reduceIte, Nat.reduceEqDiff])
                      refine ⟨by simp, _, [], (by simp only [go_sem, Nat.reduceBEq, Nat.reduceLT, Nat.reduceAdd, Nat.reduceLeDiff, Nat.reduceSub, Nat.reduceEqDiff, Int.reduceToNat, reduceCtorEq, ↓reduceIte]; exact rfl), ?_, ?_, ?_, ?_⟩
                      · first | exact trivial | exact ⟨trivial, trivial⟩ | exact ⟨trivial, trivial, trivial⟩ | exact ⟨trivial, trivial, trivial, trivial⟩ | (simp only [allP, and_true, true_and]; done) | (simp only [allP, and_true, true_and]; omega)
                      · simp [selOk, pos]
                      · simp
                      · simp only [go_sem, Nat.reduceBEq, Nat.reduceLT, Nat.reduceAdd, Nat.reduceLeDiff, Nat.reduceSub, Nat.reduceEqDiff, Int.reduceToNat, reduceCtorEq, ↓reduceIte]
                        simp only [cmpI]; first | (rw [if_pos (by omega)]; done) | (rw [if_neg (by omega), if_pos (by omega)]; done) | (rw [if_neg (by omega), if_neg (by omega)]; done))
                 · first
                   | exact absurd hc4 (by decide)
                   | (simp at hc4; done)
                   | (exfalso; (try simp at hc4); omega)
                   | ((try simp at hc4)
                      refine awp_skip ?_
                      refine hK16 _ _ ?_
                      clear hK16
                      refine awp_seq fun K19 hK19 => ?_
                      refine awp_region ftAOk ?_
                      simp (maxSteps := 4000000) only [go_sem, Nat.reduceBEq, Nat.reduceLT, Nat.reduceAdd, Nat.reduceLeDiff, Nat.reduceSub, Nat.reduceEqDiff, Int.reduceToNat, reduceCtorEq, ↓reduceIte, ftA, isNaNG, l1InG, isNaNG, ftA]
                      repeat' (first | refine And.intro ?_ ?_ | (intro hg; try simp at hg))
                      all_goals first
                        | refine hK19 _ _ ?_
                        | exact trivial
                        | omega
                        | ((simp; omega))
                      clear hK19
                      refine awp_ret ?_
                      (try simp only [Thn, InBlk, ↓reduceIte, Nat.reduceEqDiff])
                      refine ⟨by simp, _, [], (by simp only [go_sem, Nat.reduceBEq, Nat.reduceLT, Nat.reduceAdd, Nat.reduceLeDiff, Nat.reduceSub, Nat.reduceEqDiff, Int.reduceToNat, reduceCtorEq, ↓reduceIte]; exact rfl), ?_, ?_, ?_, ?_⟩
                      · first | exact trivial | exact ⟨trivial, trivial⟩ | exact ⟨trivial, trivial, trivial⟩ | exact ⟨trivial, trivial, trivial, trivial⟩ | (simp only [allP, and_true, true_and]; done) | (simp only [allP, and_true, true_and]; omega)
                      · simp [selOk, pos]
                      · simp
                      · simp only [go_sem, Nat.reduceBEq, Nat.reduceLT, Nat.reduceAdd, Nat.reduceLeDiff, Nat.reduceSub, Nat.reduceEqDiff, Int.reduceToNat, reduceCtorEq, ↓reduceIte]
                        simp only [cmpI]; first | (rw [if_pos (by omega)]; done) | (rw [if_neg (by omega), if_pos (by omega)]; done) | (rw [if_neg (by omega), if_neg (by omega)]; done)))))
def cmpIntG : List Value → Option (Prop × Value)
  | [x0, x1] => (match unI x0 with | some a => (match unI x1 with | some b => some (True, .int .i64 (cmpI a b)) | none => none) | none => none)
  | _ => none
theorem cmpIntP : PureF Try.prog 78 cmpIntG := PureF.of en78 fun vs q r hg hq => by
  unfold cmpIntG at hg
  split at hg
  · rename_i x0 x1
    cases h0 : unI x0 with
    | none => simp only [h0, reduceCtorEq] at hg
    | some r0 =>
      simp only [h0] at hg
      have e0 := unI_spec h0
      subst e0
      cases h1 : unI x1 with
      | none => simp only [h1, reduceCtorEq] at hg
      | some r1 =>
        simp only [h1] at hg
        have e1 := unI_spec h1
        subst e1
        simp only [Option.some.injEq, Prod.mk.injEq] at hg
        obtain ⟨_, rfl⟩ := hg
        exact c_cmp_Compare_int _ _
  · cases hg
def ftB : FuncId → Option (List Value → Option (Prop × Value)) := (ftAdd 78 cmpIntG (ftAdd 80 isNaNG (ftAdd 53 l1InG ftNone)))
theorem ftBOk : PTab Try.prog ftB := (ftAddOk cmpIntP (ftAddOk isNaNP (ftAddOk l1InP ftNoneOk)))
def orF : List Int → Int
  | [] => 0
  | x :: l => if x = 0 then orF l else x
theorem orF_drop {xs : List Int} {k : Nat} (hk : k < xs.length) : orF (xs.drop k) = if xs[k]?.getD 0 = 0 then orF (xs.drop (k + 1)) else xs[k]?.getD 0 := by
  rw [List.drop_eq_getElem_cons hk, orF]; simp [hk]
theorem c_cmp_Or_int (xs : List Int) (hx : xs.length ≤ 1000000000) :
    FnA Try.prog 77 [.sl 0] [.row false (.ints .i64 xs)] [] (fun x H => x = .v (.int .i64 (orF xs)) ∧ H = [.row false (.ints .i64 xs)]) := by
  refine FnA.of (N := 18) (pin := [0]) (rs := [.tmp 2]) Try.func77 rfl en77 rfl rfl (by simp) (by simp; try omega) ?_
  refine awp_seq fun K1 hK1 => ?_
  refine awp_region ftBOk ?_
  simp (maxSteps := 4000000) only [go_sem, Nat.reduceBEq, Nat.reduceLT, Nat.reduceAdd, Nat.reduceLeDiff, Nat.reduceSub, Nat.reduceEqDiff, Int.reduceToNat, reduceCtorEq, ↓reduceIte, l1InG, isNaNG, cmpIntG, ftB]
  repeat' (first | refine And.intro ?_ ?_ | (intro hg; try simp at hg))
  all_goals first
    | refine hK1 _ _ ?_
    | exact trivial
    | omega
    | ((simp; omega))
  clear hK1
  refine awp_seq fun K2 hK2 => ?_
  refine awp_region ftBOk ?_
  simp (maxSteps := 4000000) only [go_sem, Nat.reduceBEq, Nat.reduceLT, Nat.reduceAdd, Nat.reduceLeDiff, Nat.reduceSub, Nat.reduceEqDiff, Int.reduceToNat, reduceCtorEq, ↓reduceIte, l1InG, isNaNG, cmpIntG, ftB]
  repeat' (first | refine And.intro ?_ ?_ | (intro hg; try simp at hg))
  all_goals first
    | refine hK2 _ _ ?_
    | exact trivial
    | omega
    | ((simp; omega))
  clear hK2
  refine awp_seq fun K3 hK3 => ?_
  refine awp_seq fun K4 hK4 => ?_
  refine awp_region ftBOk ?_
  simp (maxSteps := 4000000) only [go_sem, Nat.reduceBEq, Nat.reduceLT, Nat.reduceAdd, Nat.reduceLeDiff, Nat.reduceSub, Nat.reduceEqDiff, Int.reduceToNat, reduceCtorEq, ↓reduceIte, l1InG, isNaNG, cmpIntG, ftB]
  repeat' (first | refine And.intro ?_ ?_ | (intro hg; try simp at hg))
  all_goals first
    | refine hK4 _ _ ?_
    | exact trivial
    | omega
    | ((simp; omega))
  clear hK4
  refine awp_block ?_
  refine awp_loop (σ := Nat) (fun k => k ≤ xs.length ∧ orF (xs.drop k) = orF xs) (fun k => [(6, .sl 0), (3, .v (.int .i64 0)), (7, .v (.int .i64 (xs.length : Int))), (8, .v (.int .i64 (k : Int)))]) (fun _ => [.row false (.ints .i64 xs)]) (fun k => xs.length - k) (0) ?_ ?_ ?_
  · exact ⟨by omega, rfl⟩
  · refine Red.fin ?_ rfl
    (simp only [Ele, Env.ren, AV.ren, AV.ren2, AV.ren1, AObj.ren, pos, selH, List.map_cons, List.map_nil, List.lookup, Nat.reduceBEq, Nat.reduceAdd, Nat.reduceEqDiff, Option.some.injEq, AV.v.injEq, AV.sl.injEq, AV.pp.injEq, AV.ep.injEq, AV.agg.injEq, List.cons.injEq, Value.int.injEq, Value.bool.injEq, Value.string.injEq, true_and, and_true, true_or, or_true, or_false, false_or, reduceCtorEq, ↓reduceIte, Option.getD_some, Option.getD_none, List.getElem?_cons_zero, List.getElem?_cons_succ, List.getElem?_nil, Nat.zero_add, Nat.one_ne_zero, Nat.zero_ne_one, and_self]) <;> first | done | omega
  · intro k hs
    refine awp_seq fun K5 hK5 => ?_
    refine awp_region ftBOk ?_
    simp (maxSteps := 4000000) only [go_sem, Nat.reduceBEq, Nat.reduceLT, Nat.reduceAdd, Nat.reduceLeDiff, Nat.reduceSub, Nat.reduceEqDiff, Int.reduceToNat, reduceCtorEq, ↓reduceIte, l1InG, isNaNG, cmpIntG, ftB]
    repeat' (first | refine And.intro ?_ ?_ | (intro hg; try simp at hg))
    all_goals first
      | refine hK5 _ _ ?_
      | exact trivial
      | omega
      | ((simp; omega))
    clear hK5
    refine awp_seq fun K6 hK6 => ?_
    refine awp_cond (t := 9) rfl (fun hc0 => ?_) (fun hc0 => ?_)
    · first
      | exact absurd hc0 (by decide)
      | (simp at hc0; done)
      | (exfalso; (try simp at hc0); omega)
      | ((try simp at hc0)
         refine awp_skip ?_
         refine hK6 _ _ ?_
         clear hK6
         refine awp_seq fun K7 hK7 => ?_
         refine awp_block ?_
         refine awp_seq fun K8 hK8 => ?_
         refine awp_region ftBOk ?_
         simp (maxSteps := 4000000) only [go_sem, Nat.reduceBEq, Nat.reduceLT, Nat.reduceAdd, Nat.reduceLeDiff, Nat.reduceSub, Nat.reduceEqDiff, Int.reduceToNat, reduceCtorEq, ↓reduceIte, l1InG, isNaNG, cmpIntG, ftB]
         repeat' (first | refine And.intro ?_ ?_ | (intro hg; try simp at hg))
         all_goals first
           | refine hK8 _ _ ?_
           | exact trivial
           | omega
           | ((simp; omega))
         clear hK8
         refine awp_seq fun K9 hK9 => ?_
         refine awp_region ftBOk ?_
         simp (maxSteps := 4000000) only [go_sem, Nat.reduceBEq, Nat.reduceLT, Nat.reduceAdd, Nat.reduceLeDiff, Nat.reduceSub, Nat.reduceEqDiff, Int.reduceToNat, reduceCtorEq, ↓reduceIte, l1InG, isNaNG, cmpIntG, ftB]
         repeat' (first | refine And.intro ?_ ?_ | (intro hg; try simp at hg))
         all_goals first
           | refine hK9 _ _ ?_
           | exact trivial
           | omega
           | ((simp; omega))
         clear hK9
         refine awp_cond (t := 14) rfl (fun hc1 => ?_) (fun hc1 => ?_)
         · first
           | exact absurd hc1 (by decide)
           | (simp at hc1; done)
           | (exfalso; (try simp at hc1); omega)
           | ((try simp at hc1)
              refine awp_seq fun K10 hK10 => ?_
              refine awp_region ftBOk ?_
              simp (maxSteps := 4000000) only [go_sem, Nat.reduceBEq, Nat.reduceLT, Nat.reduceAdd, Nat.reduceLeDiff, Nat.reduceSub, Nat.reduceEqDiff, Int.reduceToNat, reduceCtorEq, ↓reduceIte, l1InG, isNaNG, cmpIntG, ftB]
              repeat' (first | refine And.intro ?_ ?_ | (intro hg; try simp at hg))
              all_goals first
                | refine hK10 _ _ ?_
                | exact trivial
                | omega
                | ((simp; omega))
              clear hK10
              refine awp_ret ?_
              (try simp only [Thn, InBlk, ↓reduceIte, Nat.reduceEqDiff])
              refine ⟨by simp, _, [0], (by simp only [go_sem, Nat.reduceBEq, Nat.reduceLT, Nat.reduceAdd, Nat.reduceLeDiff, Nat.reduceSub, Nat.reduceEqDiff, Int.reduceToNat, reduceCtorEq, ↓reduceIte]; exact rfl), ?_, ?_, ?_, ?_⟩
              · first | exact trivial | exact ⟨trivial, trivial⟩ | exact ⟨trivial, trivial, trivial⟩ | exact ⟨trivial, trivial, trivial, trivial⟩ | (simp only [allP, and_true, true_and]; done) | (simp only [allP, and_true, true_and]; omega)
              · simp [selOk, pos]
              · simp
              · simp only [go_sem, Nat.reduceBEq, Nat.reduceLT, Nat.reduceAdd, Nat.reduceLeDiff, Nat.reduceSub, Nat.reduceEqDiff, Int.reduceToNat, reduceCtorEq, ↓reduceIte]
                rw [← hs.2, orF_drop hc0, if_neg hc1]; simp)
         · first
           | exact absurd hc1 (by decide)
           | (simp at hc1; done)
           | (exfalso; (try simp at hc1); omega)
           | ((try simp at hc1)
              refine awp_skip ?_
              (try simp only [Thn, InBlk, ↓reduceIte, Nat.reduceEqDiff])
              refine hK7 _ _ ?_
              clear hK7
              refine awp_last fun K11 hK11 => ?_
              refine awp_region ftBOk ?_
              simp (maxSteps := 4000000) only [go_sem, Nat.reduceBEq, Nat.reduceLT, Nat.reduceAdd, Nat.reduceLeDiff, Nat.reduceSub, Nat.reduceEqDiff, Int.reduceToNat, reduceCtorEq, ↓reduceIte, l1InG, isNaNG, cmpIntG, ftB]
              repeat' (first | refine And.intro ?_ ?_ | (intro hg; try simp at hg))
              all_goals first
                | refine hK11 _ _ ?_
                | exact trivial
                | omega
                | ((simp; omega))
              clear hK11
              (try simp only [Thn, InBlk, ↓reduceIte, Nat.reduceEqDiff])
              refine ⟨k + 1, ?_, ?_, ?_⟩
              · exact ⟨by omega, by rw [← hs.2, orF_drop hc0, if_pos hc1]⟩
              · first | omega | (simp only []; omega)
              · refine Red.fin ?_ rfl
                (simp only [Ele, Env.ren, AV.ren, AV.ren2, AV.ren1, AObj.ren, pos, selH, List.map_cons, List.map_nil, List.lookup, Nat.reduceBEq, Nat.reduceAdd, Nat.reduceEqDiff, Option.some.injEq, AV.v.injEq, AV.sl.injEq, AV.pp.injEq, AV.ep.injEq, AV.agg.injEq, List.cons.injEq, Value.int.injEq, Value.bool.injEq, Value.string.injEq, true_and, and_true, true_or, or_true, or_false, false_or, reduceCtorEq, ↓reduceIte, Option.getD_some, Option.getD_none, List.getElem?_cons_zero, List.getElem?_cons_succ, List.getElem?_nil, Nat.zero_add, Nat.one_ne_zero, Nat.zero_ne_one, and_self]) <;> first | done | omega | (refine ⟨?_, ?_⟩ <;> omega)))
    · first
      | exact absurd hc0 (by decide)
      | (simp at hc0; done)
      | (exfalso; (try simp at hc0); omega)
      | ((try simp at hc0)
         refine awp_exit ?_
         (try simp only [Thn, InBlk, ↓reduceIte, Nat.reduceEqDiff])
         refine hK3 _ _ ?_
         clear hK3
         refine awp_seq fun K12 hK12 => ?_
         refine awp_region ftBOk ?_
         simp (maxSteps := 4000000) only [go_sem, Nat.reduceBEq, Nat.reduceLT, Nat.reduceAdd, Nat.reduceLeDiff, Nat.reduceSub, Nat.reduceEqDiff, Int.reduceToNat, reduceCtorEq, ↓reduceIte, l1InG, isNaNG, cmpIntG, ftB]
         repeat' (first | refine And.intro ?_ ?_ | (intro hg; try simp at hg))
         all_goals first
           | refine hK12 _ _ ?_
           | exact trivial
           | omega
           | ((simp; omega))
         clear hK12
         refine awp_ret ?_
         (try simp only [Thn, InBlk, ↓reduceIte, Nat.reduceEqDiff])
         refine ⟨by simp, _, [0], (by simp only [go_sem, Nat.reduceBEq, Nat.reduceLT, Nat.reduceAdd, Nat.reduceLeDiff, Nat.reduceSub, Nat.reduceEqDiff, Int.reduceToNat, reduceCtorEq, ↓reduceIte]; exact rfl), ?_, ?_, ?_, ?_⟩
         · first | exact trivial | exact ⟨trivial, trivial⟩ | exact ⟨trivial, trivial, trivial⟩ | exact ⟨trivial, trivial, trivial, trivial⟩ | (simp only [allP, and_true, true_and]; done) | (simp only [allP, and_true, true_and]; omega)
         · simp [selOk, pos]
         · simp
         · simp only [go_sem, Nat.reduceBEq, Nat.reduceLT, Nat.reduceAdd, Nat.reduceLeDiff, Nat.reduceSub, Nat.reduceEqDiff, Int.reduceToNat, reduceCtorEq, ↓reduceIte]
           rw [← hs.2, List.drop_of_length_le hc0]; rfl)
theorem c_impl_compareMessages (a b c d e f : Int) :
    FnA Try.prog 71 [.agg [.v (.int .i64 a), .v (.int .i64 b), .v (.int .i64 c)], .agg [.v (.int .i64 d), .v (.int .i64 e), .v (.int .i64 f)]] [] [] (fun x _ => x = .v (.int .i64 (orF [cmpI a d, cmpI b e, cmpI c f]))) := by
  refine FnA.of (N := 22) (pin := []) (rs := [.tmp 4]) Try.func71 rfl en71 rfl rfl (by simp) (by simp; try omega) ?_
  refine awp_seq fun K1 hK1 => ?_
  refine awp_region ftBOk ?_
  simp (maxSteps := 4000000) only [go_sem, Nat.reduceBEq, Nat.reduceLT, Nat.reduceAdd, Nat.reduceLeDiff, Nat.reduceSub, Nat.reduceEqDiff, Int.reduceToNat, reduceCtorEq, ↓reduceIte, ftB, cmpIntG, l1InG, isNaNG, cmpIntG, ftB]
  repeat' (first | refine And.intro ?_ ?_ | (intro hg; try simp at hg))
  all_goals first
    | refine hK1 _ _ ?_
    | exact trivial
    | omega
    | ((simp; omega))
  clear hK1
  refine awp_freeze 2 (by rfl) (by rfl) (by simp only [List.map_cons, List.map_nil, List.set_cons_succ, List.set_cons_zero, AObj.unview, reduceCtorEq, ↓reduceIte, Nat.reduceEqDiff]; exact rfl) ?_
  refine awp_freeze 3 (by rfl) (by rfl) (by simp only [List.map_cons, List.map_nil, List.set_cons_succ, List.set_cons_zero, AObj.unview, reduceCtorEq, ↓reduceIte, Nat.reduceEqDiff]; exact rfl) ?_
  refine awp_seq fun K2 hK2 => ?_
  refine awp_draw mixed ftBOk [(0, true), (2, true), (5, true), (7, true), (10, true), (12, true), (1, true), (3, true), (6, true), (8, true), (11, true), (13, true), (4, false), (9, false), (14, false), (15, false), (16, false), (17, false)] (by kernel_rfl) (by simp) ?_
  simp (maxSteps := 4000000) only [go_sem, Nat.reduceBEq, Nat.reduceLT, Nat.reduceAdd, Nat.reduceLeDiff, Nat.reduceSub, Nat.reduceEqDiff, Int.reduceToNat, reduceCtorEq, ↓reduceIte, ftB, cmpIntG, l1InG, isNaNG, cmpIntG, ftB]
  repeat' (first | refine And.intro ?_ ?_ | (intro hg; try simp at hg))
  all_goals first
    | refine hK2 _ _ ?_
    | (refine OpK_call (c_cmp_Or_int [cmpI a d, cmpI b e, cmpI c f] (by simp)) [2] [] (by rfl) ?_ (by rfl) ?_ ?_ ?_ ?_ ?_
       · first | (simp (maxSteps := 4000000) only [go_sem, Nat.reduceBEq, Nat.reduceLT, Nat.reduceAdd, Nat.reduceLeDiff, Nat.reduceSub, Nat.reduceEqDiff, Int.reduceToNat, reduceCtorEq, ↓reduceIte, ftB, cmpIntG, l1InG, isNaNG, cmpIntG, ftB]; done) | (simp (maxSteps := 4000000) only [go_sem, Nat.reduceBEq, Nat.reduceLT, Nat.reduceAdd, Nat.reduceLeDiff, Nat.reduceSub, Nat.reduceEqDiff, Int.reduceToNat, reduceCtorEq, ↓reduceIte, ftB, cmpIntG, l1InG, isNaNG, cmpIntG, ftB] <;> simp)
       · simp [exIds, AObj.excl]
       · first | (simp (maxSteps := 4000000) only [go_sem, Nat.reduceBEq, Nat.reduceLT, Nat.reduceAdd, Nat.reduceLeDiff, Nat.reduceSub, Nat.reduceEqDiff, Int.reduceToNat, reduceCtorEq, ↓reduceIte, ftB, cmpIntG, l1InG, isNaNG, cmpIntG, ftB]; done) | (simp (maxSteps := 4000000) only [go_sem, Nat.reduceBEq, Nat.reduceLT, Nat.reduceAdd, Nat.reduceLeDiff, Nat.reduceSub, Nat.reduceEqDiff, Int.reduceToNat, reduceCtorEq, ↓reduceIte, ftB, cmpIntG, l1InG, isNaNG, cmpIntG, ftB] <;> simp)
       · simp
       · simp [exIds, AObj.excl]
       intro x Hc' hR hlen
       obtain ⟨rfl, rfl⟩ := hR
       all_goals
         simp (maxSteps := 4000000) only [go_sem, Nat.reduceBEq, Nat.reduceLT, Nat.reduceAdd, Nat.reduceLeDiff, Nat.reduceSub, Nat.reduceEqDiff, Int.reduceToNat, reduceCtorEq, ↓reduceIte, ftB, cmpIntG, l1InG, isNaNG, cmpIntG, ftB]
         repeat' (first | refine And.intro ?_ ?_ | (intro hg; try simp at hg))
         all_goals first
           | refine hK2 _ _ ?_
           | exact trivial
           | omega
           | ((simp; omega)))
    | exact trivial
    | omega
    | ((simp; omega))
  all_goals
    clear hK2
    refine awp_keep [0, 1, 2, 3, 4] (by simp only [keepE, List.map_cons, List.map_nil, List.lookup, Nat.reduceBEq, Option.getD_some, Option.getD_none]; exact rfl) ?_
    refine awp_ret ?_
    (try simp only [Thn, InBlk, ↓reduceIte, Nat.reduceEqDiff])
    refine ⟨by simp, _, [], (by simp only [go_sem, Nat.reduceBEq, Nat.reduceLT, Nat.reduceAdd, Nat.reduceLeDiff, Nat.reduceSub, Nat.reduceEqDiff, Int.reduceToNat, reduceCtorEq, ↓reduceIte]; exact rfl), ?_, ?_, ?_, ?_⟩
    · first | exact trivial | exact ⟨trivial, trivial⟩ | exact ⟨trivial, trivial, trivial⟩ | exact ⟨trivial, trivial, trivial, trivial⟩ | (simp only [allP, and_true, true_and]; done) | (simp only [allP, and_true, true_and]; omega)
    · simp [selOk, pos]
    · simp
    · simp only [go_sem, Nat.reduceBEq, Nat.reduceLT, Nat.reduceAdd, Nat.reduceLeDiff, Nat.reduceSub, Nat.reduceEqDiff, Int.reduceToNat, reduceCtorEq, ↓reduceIte]
end Go.Proofs.Yteoedigfnfjopaa
