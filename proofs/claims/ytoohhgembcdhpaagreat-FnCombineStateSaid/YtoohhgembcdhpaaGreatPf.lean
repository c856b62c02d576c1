import Derived.Test.YtoohhgembcdhpaaGreatPu
set_option maxRecDepth 100000
set_option maxHeartbeats 4000000
set_option linter.unusedSimpArgs false
set_option linter.unusedVariables false
namespace Go.Proofs.YtoohhgembcdhpaaGreat
open Go Go.Av
attribute [local irreducible] wpA OpK awp
attribute [local go_sem] strQ eqAgg eqAggV buildQ placesOf buildCells List.toList_toArray vcQg gfind gfree gput un3_agg unI_int unB_bool unK_int guardU skipV resVs resV vcD vcD1 roH roOb ftNone ftAdd oneOrTup AV.detup AV.ren AV.ren2 AV.ren1 pos selH AObj.ren fitAll fit fit1 fit1s matchAll matchOb exIds AObj.excl Env.killp pastH setAll upId AObj.past AObj.back AV.killp AV.killp1 AV.killp2 Nat.sub_self Nat.lt_irrefl Bool.or_self vcOps vcOp vcQs vcQ dstOk quiet eff pcall calleeF plain valsOf ev ofConst argEnv List.lookup Nat.add_eq decide_true decide_false Env.put binV quoC isTwo_2 isTwo_1 isTwo_3 isTwo_4 isTwo_5 isTwo_6 isTwo_7 isTwo_8 isTwo_9 isTwo_10 isTwo_11 isTwo_12 isTwo_13 isTwo_14 isTwo_15 isTwo_16 isTwo_17 isTwo_20 isTwo_24 isTwo_32 isTwo_60 isTwo_64 isTwo_100 isTwo_128 isTwo_256 isTwo_1000 wrapTo unV convV loadQ indexQ callQ builtinQ rd rdI globC AObj.globC partAV isAggD isArrayD addrAdd boxE storeE storeXE storeCE storeGE storeFE storeAE storeHE allocAE buildME appendME lookupQ lookupI mapUpE mapUpI mapZ plainVs isIfaceD ifaceQ assertQ List.all_cons aggQ arrD arrL arrL_map arrV makeE makeXE makeNE makeGE buildXE buildNE buildGE nestZero Cont.child Cont.setChild buildSliceE buildFold appendE appendXE appendNE appendGE Cont.setG nestApp appendV promoteH sliceE boundAV subObj asCells Value.oneCell' contZero Cont.sets Cont.app Cont.sub Cont.len Cont.esz Cont.cell Cont.cells Cont.flat AV.det AV.det1 guardV AObj.unview AObj.kill Env.kill AV.kill AV.kill1 AV.kill2 fits64 Option.getD_some Option.getD_none Option.map_some Option.map_none Option.bind_some List.map_cons List.map_nil List.getElem?_cons_zero List.getElem?_cons_succ List.getElem?_nil true_and and_true and_false false_and List.getElem?_toArray List.cons_append List.nil_append List.length_cons List.length_nil List.set_cons_zero List.set_cons_succ List.take_succ_cons List.take_zero List.drop_succ_cons List.drop_zero List.drop_nil List.take_nil List.contains_cons List.contains_nil List.elem_cons List.elem_nil Bool.not_true Bool.not_false Bool.false_eq_true Bool.or_false Bool.or_true Bool.and_true Bool.and_false Bool.true_and Bool.false_and List.all_cons List.all_nil List.size_toArray Nat.lt_add_one Nat.zero_lt_succ Nat.one_ne_zero Nat.zero_ne_one and_self List.replicate_succ List.replicate_zero Int.toNat_natCast Int.toNat_zero Value.cells false_implies true_implies forall_const Thn InBlk Nat.zero_add Nat.add_zero Int.zero_add Tryz.underlying0 Tryz.underlying1 Tryz.underlying2 Tryz.underlying3 Tryz.underlying4 Tryz.underlying5 Tryz.underlying6 Tryz.underlying7 Tryz.underlying8 Tryz.underlying9 Tryz.underlying10 Tryz.underlying12 Tryz.underlying16 Tryz.underlying17 Tryz.underlying20 Tryz.underlying21 Tryz.underlying22 Tryz.underlying23 Tryz.underlying24 Tryz.underlying25 Tryz.underlying26 Tryz.underlying27 Tryz.underlying28 Tryz.underlying30 Tryz.underlying32 Tryz.underlying35 Tryz.underlying36 Tryz.underlying37 Tryz.underlying38 Tryz.underlying40 Tryz.underlying41 Tryz.underlying44 Tryz.underlying45 Tryz.underlying46 Tryz.underlying48 Tryz.underlying50 Tryz.underlying52 Tryz.underlying53 Tryz.underlying55 Tryz.underlying56 Tryz.underlying58 Tryz.underlying60 Tryz.underlying61 Tryz.underlying62 Tryz.underlying63 Tryz.underlying64 Tryz.underlying65 Tryz.underlying67 Tryz.underlying68 Tryz.underlying69 Tryz.underlying77 Tryz.underlying81 Tryz.underlying82 Tryz.underlying84 Tryz.underlying86 Tryz.underlying89 Tryz.underlying95 Tryz.underlying96 Tryz.underlying99 Tryz.underlying101 Tryz.underlying105 Tryz.underlying107 Tryz.underlying108 Tryz.underlying109 Tryz.underlying110 Tryz.underlying111 Tryz.underlying112 Tryz.underlying115 Tryz.underlying116 Tryz.underlying119 Tryz.underlying121 Tryz.underlying127 Tryz.underlying129 Tryz.underlying130 Tryz.underlying131 Tryz.underlying132 Tryz.underlying133 Tryz.underlying134 Tryz.underlying135 Tryz.underlying136 Tryz.underlying137 Tryz.underlying147 Tryz.underlying148 Tryz.underlying156 Tryz.underlying163 Tryz.underlying167 Tryz.underlying171 Tryz.underlying172 Tryz.underlying178 Tryz.underlying179 Tryz.underlying180 Tryz.underlying182 Tryz.underlying183 Tryz.underlying184 Tryz.underlying185 Tryz.underlying186 Tryz.underlying187 Tryz.underlying188 Tryz.underlying189 Tryz.underlying192 Tryz.underlying195 Tryz.underlying196 Tryz.underlying198 Tryz.underlying199 Tryz.underlying202 tf0 tf1 tf2 tf3 tf4 tf5 tf6 tf7 tf8 tf9 tf10
def cmpEndsG : List Value → Option (Prop × Value)
 | [x0, x1] => (match un3 x0 with | some (a, b, c) => (match un3 x1 with | some (d, e, f) => some (True, .int .i64 (orF [cmpI a d, cmpI b e])) | none => none) | none => none)
 | _ => none
theorem cmpEndsP : PureF Tryz.prog 47 cmpEndsG := PureF.of en47 fun vs q r hg hq => by
 unfold cmpEndsG at hg
 split at hg
 ·rename_i x0 x1
  cases h0 : un3 x0 with
  | none => simp only [h0, reduceCtorEq] at hg
  | some r0 =>
    obtain ⟨a, b, c⟩ := r0
    simp only [h0] at hg
    have e0 := un3_spec h0
    subst e0
    cases h1 : un3 x1 with
    | none => simp only [h1, reduceCtorEq] at hg
    | some r1 =>
      obtain ⟨d, e, f⟩ := r1
      simp only [h1] at hg
      have e1 := un3_spec h1
      subst e1
      simp only [Option.some.injEq, Prod.mk.injEq] at hg
      obtain ⟨_, rfl⟩ := hg
      exact FnA.mono (c_impl_compareEnds _ _ _ _ _ _) (fun _ _ h => h)
 ·cases hg
def cmpMsgG : List Value → Option (Prop × Value)
 | [x0, x1] => (match un3 x0 with | some (a, b, c) => (match un3 x1 with | some (d, e, f) => some (True, .int .i64 (orF [cmpI a d, cmpI b e, cmpI c f])) | none => none) | none => none)
 | _ => none
theorem cmpMsgP : PureF Tryz.prog 70 cmpMsgG := PureF.of en70 fun vs q r hg hq => by
 unfold cmpMsgG at hg
 split at hg
 ·rename_i x0 x1
  cases h0 : un3 x0 with
  | none => simp only [h0, reduceCtorEq] at hg
  | some r0 =>
    obtain ⟨a, b, c⟩ := r0
    simp only [h0] at hg
    have e0 := un3_spec h0
    subst e0
    cases h1 : un3 x1 with
    | none => simp only [h1, reduceCtorEq] at hg
    | some r1 =>
      obtain ⟨d, e, f⟩ := r1
      simp only [h1] at hg
      have e1 := un3_spec h1
      subst e1
      simp only [Option.some.injEq, Prod.mk.injEq] at hg
      obtain ⟨_, rfl⟩ := hg
      exact FnA.mono (c_impl_compareMessages _ _ _ _ _ _) (fun _ _ h => h)
 ·cases hg
theorem c_impl_hopsProgram_act_1 (a b c : Int) :
 FnA Tryz.prog 156 [.agg [.v (.int .i64 a), .v (.int .i64 b), .v (.int .i64 c)]] [] [] (fun x _ => x = .v (.int .i64 1)) := by
 refine FnA.of (N := 3) (pin := []) (rs := [.tmp 2]) Tryz.func156 rfl en156 rfl rfl (by simp) (by simp; try omega) ?_
 refine awp_seq fun K1 hK1 => ?_
 refine awp_region ftBOk ?_
 simp (maxSteps := 4000000) only [go_sem, Nat.reduceBEq, Nat.reduceLT, Nat.reduceAdd, Nat.reduceLeDiff, Nat.reduceSub, Nat.reduceEqDiff, Int.reduceToNat, reduceCtorEq, ↓reduceIte, l1InG, l4BeforeG, isNaNG, cmpIntG, ftB]
 repeat' (first | refine And.intro ?_ ?_ | (intro hg; try simp at hg))
 all_goals first
  | refine hK1 _ _ ?_
  | exact trivial
  | omega
  | ((simp; omega))
 clear hK1
 refine awp_freeze 1 (by rfl) (by rfl) (by simp only [List.map_cons, List.map_nil, List.set_cons_succ, List.set_cons_zero, AObj.unview, reduceCtorEq, ↓reduceIte, Nat.reduceEqDiff]; exact rfl) ?_
 refine awp_seq fun K2 hK2 => ?_
 refine awp_region ftBOk ?_
 simp (maxSteps := 4000000) only [go_sem, Nat.reduceBEq, Nat.reduceLT, Nat.reduceAdd, Nat.reduceLeDiff, Nat.reduceSub, Nat.reduceEqDiff, Int.reduceToNat, reduceCtorEq, ↓reduceIte, l1InG, l4BeforeG, isNaNG, cmpIntG, ftB]
 repeat' (first | refine And.intro ?_ ?_ | (intro hg; try simp at hg))
 all_goals first
  | refine hK2 _ _ ?_
  | exact trivial
  | omega
  | ((simp; omega))
 clear hK2
 refine awp_ret ?_
 (try simp only [Thn, InBlk, ↓reduceIte, Nat.reduceEqDiff])
 refine ⟨by simp, _, [], (by simp only [go_sem, Nat.reduceBEq, Nat.reduceLT, Nat.reduceAdd, Nat.reduceLeDiff, Nat.reduceSub, Nat.reduceEqDiff, Int.reduceToNat, reduceCtorEq, ↓reduceIte]; exact rfl), ?_, ?_, ?_, ?_⟩
 ·first | exact trivial | exact ⟨trivial, trivial⟩ | exact ⟨trivial, trivial, trivial⟩ | exact ⟨trivial, trivial, trivial, trivial⟩ | (simp only [allP, and_true, true_and]; done) | (simp only [allP, and_true, true_and]; omega)
 ·simp [selOk, pos]
 ·simp
 ·simp only [go_sem, Nat.reduceBEq, Nat.reduceLT, Nat.reduceAdd, Nat.reduceLeDiff, Nat.reduceSub, Nat.reduceEqDiff, Int.reduceToNat, reduceCtorEq, ↓reduceIte]
def hop1G : List Value → Option (Prop × Value)
 | [x0] => (match un3 x0 with | some (a, b, c) => some (True, .int .i64 1) | none => none)
 | _ => none
theorem hop1P : PureF Tryz.prog 156 hop1G := PureF.of en156 fun vs q r hg hq => by
 unfold hop1G at hg
 split at hg
 ·rename_i x0
  cases h0 : un3 x0 with
  | none => simp only [h0, reduceCtorEq] at hg
  | some r0 =>
    obtain ⟨a, b, c⟩ := r0
    simp only [h0] at hg
    have e0 := un3_spec h0
    subst e0
    simp only [Option.some.injEq, Prod.mk.injEq] at hg
    obtain ⟨_, rfl⟩ := hg
    exact c_impl_hopsProgram_act_1 _ _ _
 ·cases hg
theorem c_impl_costsProgram_act_1 (a b c : Int) :
 FnA Tryz.prog 159 [.agg [.v (.int .i64 a), .v (.int .i64 b), .v (.int .i64 c)]] [] [] (fun x _ => x = .v (.int .i64 c)) := by
 refine FnA.of (N := 5) (pin := []) (rs := [.tmp 2]) Tryz.func159 rfl en159 rfl rfl (by simp) (by simp; try omega) ?_
 refine awp_seq fun K1 hK1 => ?_
 refine awp_region ftBOk ?_
 simp (maxSteps := 4000000) only [go_sem, Nat.reduceBEq, Nat.reduceLT, Nat.reduceAdd, Nat.reduceLeDiff, Nat.reduceSub, Nat.reduceEqDiff, Int.reduceToNat, reduceCtorEq, ↓reduceIte, l1InG, l4BeforeG, isNaNG, cmpIntG, ftB]
 repeat' (first | refine And.intro ?_ ?_ | (intro hg; try simp at hg))
 all_goals first
  | refine hK1 _ _ ?_
  | exact trivial
  | omega
  | ((simp; omega))
 clear hK1
 refine awp_freeze 1 (by rfl) (by rfl) (by simp only [List.map_cons, List.map_nil, List.set_cons_succ, List.set_cons_zero, AObj.unview, reduceCtorEq, ↓reduceIte, Nat.reduceEqDiff]; exact rfl) ?_
 refine awp_seq fun K2 hK2 => ?_
 refine awp_region ftBOk ?_
 simp (maxSteps := 4000000) only [go_sem, Nat.reduceBEq, Nat.reduceLT, Nat.reduceAdd, Nat.reduceLeDiff, Nat.reduceSub, Nat.reduceEqDiff, Int.reduceToNat, reduceCtorEq, ↓reduceIte, l1InG, l4BeforeG, isNaNG, cmpIntG, ftB]
 repeat' (first | refine And.intro ?_ ?_ | (intro hg; try simp at hg))
 all_goals first
  | refine hK2 _ _ ?_
  | exact trivial
  | omega
  | ((simp; omega))
 clear hK2
 refine awp_ret ?_
 (try simp only [Thn, InBlk, ↓reduceIte, Nat.reduceEqDiff])
 refine ⟨by simp, _, [], (by simp only [go_sem, Nat.reduceBEq, Nat.reduceLT, Nat.reduceAdd, Nat.reduceLeDiff, Nat.reduceSub, Nat.reduceEqDiff, Int.reduceToNat, reduceCtorEq, ↓reduceIte]; exact rfl), ?_, ?_, ?_, ?_⟩
 ·first | exact trivial | exact ⟨trivial, trivial⟩ | exact ⟨trivial, trivial, trivial⟩ | exact ⟨trivial, trivial, trivial, trivial⟩ | (simp only [allP, and_true, true_and]; done) | (simp only [allP, and_true, true_and]; omega)
 ·simp [selOk, pos]
 ·simp
 ·simp only [go_sem, Nat.reduceBEq, Nat.reduceLT, Nat.reduceAdd, Nat.reduceLeDiff, Nat.reduceSub, Nat.reduceEqDiff, Int.reduceToNat, reduceCtorEq, ↓reduceIte]
def cost1G : List Value → Option (Prop × Value)
 | [x0] => (match un3 x0 with | some (a, b, c) => some (True, .int .i64 c) | none => none)
 | _ => none
theorem cost1P : PureF Tryz.prog 159 cost1G := PureF.of en159 fun vs q r hg hq => by
 unfold cost1G at hg
 split at hg
 ·rename_i x0
  cases h0 : un3 x0 with
  | none => simp only [h0, reduceCtorEq] at hg
  | some r0 =>
    obtain ⟨a, b, c⟩ := r0
    simp only [h0] at hg
    have e0 := un3_spec h0
    subst e0
    simp only [Option.some.injEq, Prod.mk.injEq] at hg
    obtain ⟨_, rfl⟩ := hg
    exact c_impl_costsProgram_act_1 _ _ _
 ·cases hg
def ftC : FuncId → Option (List Value → Option (Prop × Value)) := (ftAdd 159 cost1G (ftAdd 156 hop1G (ftAdd 70 cmpMsgG (ftAdd 47 cmpEndsG (ftAdd 80 cmpIntG (ftAdd 96 isNaNG (ftAdd 57 l4BeforeG (ftAdd 43 l1InG ftNone))))))))
theorem ftCOk : PTab Tryz.prog ftC := (ftAddOk cost1P (ftAddOk hop1P (ftAddOk cmpMsgP (ftAddOk cmpEndsP (ftAddOk cmpIntP (ftAddOk isNaNP (ftAddOk l4BeforeP (ftAddOk l1InP ftNoneOk))))))))
end Go.Proofs.YtoohhgembcdhpaaGreat
