/- The code computes the functions that were taken out of it. -/
import Derived.Test.YtdjckcedpnabpaaLw1
set_option maxRecDepth 100000
set_option maxHeartbeats 4000000
set_option linter.unusedSimpArgs false
set_option linter.unusedVariables false
namespace Go.Proofs.Ytdjckcedpnabpaa
open Go Go.Av
attribute [local irreducible] wpA OpK awp
attribute [local go_sem] frs_nil frs_cons pw8_32 pw16_32 pw24_32 pw27_32 eqAgg eqAggV buildQ placesOf buildCells List.toList_toArray vcQg gfind gfree gput un3_agg unI_int unB_bool unK_int guardU skipV resVs resV vcD_nil vcD_cons vcT_fin vcT_free vcT_one vcT_two opS vcD1 roH roOb ftNone ftAdd oneOrTup AV.detup AV.ren AV.ren2 AV.ren1 pos selH AObj.ren fitAll fit fit1 fit1s matchAll matchOb exIds AObj.excl Env.killp pastH setAll upId AObj.past AObj.back AV.killp AV.killp1 AV.killp2 Nat.sub_self Nat.lt_irrefl Bool.or_self vcOps vcOp vcQs vcQ dstOk quiet eff pcall calleeF plain valsOf ev ofConst argEnv List.lookup Nat.add_eq decide_true decide_false Env.put binV wrapTo unV convV loadQ indexQ callQ builtinQ rd rdI globC AObj.globC partAV isAggD isArrayD addrAdd boxE storeE storeCE makeE makeNE buildNE nestZero Cont.child Cont.setChild buildSliceE buildFold appendE appendNE nestApp appendV promoteH sliceE boundAV subObj asCells Value.oneCell' contZero Cont.sets Cont.app Cont.sub Cont.len Cont.esz Cont.cell Cont.cells Cont.flat AV.det AV.det1 guardV AObj.unview AObj.kill Env.kill AV.kill AV.kill1 AV.kill2 fits64 Option.getD_some Option.getD_none Option.map_some Option.map_none Option.bind_some List.map_cons List.map_nil List.getElem?_cons_zero List.getElem?_cons_succ List.getElem?_nil true_and and_true List.getElem?_toArray List.cons_append List.nil_append List.length_cons List.length_nil List.set_cons_zero List.set_cons_succ List.take_succ_cons List.take_zero List.drop_succ_cons List.drop_zero List.drop_nil List.take_nil List.contains_cons List.contains_nil List.elem_cons List.elem_nil Bool.not_true Bool.not_false Bool.false_eq_true Bool.or_false Bool.or_true Bool.and_true Bool.and_false Bool.true_and Bool.false_and List.all_cons List.all_nil List.size_toArray Nat.lt_add_one Nat.zero_lt_succ Nat.one_ne_zero Nat.zero_ne_one and_self List.replicate_succ List.replicate_zero Int.toNat_natCast Int.toNat_zero Value.cells false_implies true_implies forall_const Thn InBlk Nat.zero_add Nat.add_zero Int.zero_add Ele Env.ren Option.some.injEq AV.v.injEq AV.sl.injEq AV.pp.injEq AV.ep.injEq AV.agg.injEq List.cons.injEq Value.int.injEq Value.bool.injEq Value.string.injEq true_or or_true or_false false_or tsz0 tby0 tz0 Try.underlying0 tsz1 tby1 tz1 Try.underlying1 tsz2 tby2 tz2 Try.underlying2 tsz3 tby3 tz3 Try.underlying3 tsz4 tby4 tz4 Try.underlying4 tsz5 tby5 tz5 Try.underlying5 tsz6 tby6 tz6 Try.underlying6 tsz7 tby7 tz7 Try.underlying7 fo7_0 fo7_1 fo7_2 fo7_3 tsz8 tby8 tz8 Try.underlying8 fo8_0 fo8_1 fo8_2 fo8_3 tsz9 tby9 Try.underlying9 tsz10 tby10 Try.underlying10 tsz12 tby12 tz12 Try.underlying12 tsz16 tby16 tz16 Try.underlying16 tsz17 tby17 tz17 Try.underlying17 tsz20 tby20 tz20 Try.underlying20 tsz21 tby21 tz21 Try.underlying21 tsz22 tby22 tz22 Try.underlying22 tsz23 tby23 tz23 Try.underlying23 tsz24 tby24 tz24 Try.underlying24 fo24_0 fo24_1 tsz25 tby25 tz25 Try.underlying25 fo25_0 fo25_1 tsz32 tby32 tz32 Try.underlying32 peq32 fo32_0 fo32_1 fo32_2 tsz33 tby33 tz33 Try.underlying33 peq33 fo33_0 fo33_1 fo33_2 tsz35 tby35 tz35 Try.underlying35 tsz36 tby36 tz36 Try.underlying36 fo36_0 fo36_1 tsz37 tby37 tz37 Try.underlying37 fo37_0 fo37_1 tsz40 tby40 tz40 Try.underlying40 tsz42 tby42 tz42 Try.underlying42 tsz44 tby44 tz44 Try.underlying44 tsz55 tby55 tz55 Try.underlying55 tsz56 tby56 tz56 Try.underlying56 tsz79 tby79 tz79 Try.underlying79 tsz84 tby84 tz84 Try.underlying84 peq84 fo84_0 fo84_1 fo84_2 tsz96 tby96 tz96 Try.underlying96 tsz97 tby97 tz97 Try.underlying97 tsz101 tby101 tz101 Try.underlying101 tsz104 tby104 tz104 Try.underlying104 tsz106 tby106 tz106 Try.underlying106 tsz114 tby114 tz114 Try.underlying114 tsz118 tby118 tz118 Try.underlying118 tsz121 tby121 tz121 Try.underlying121 tsz122 tby122 tz122 Try.underlying122 tsz127 tby127 tz127 Try.underlying127 tsz128 tby128 tz128 Try.underlying128 tsz129 tby129 tz129 Try.underlying129 tsz130 tby130 tz130 Try.underlying130 tsz131 tby131 tz131 Try.underlying131 tsz132 tby132 tz132 Try.underlying132 tsz133 tby133 tz133 Try.underlying133 tsz134 tby134 tz134 Try.underlying134 tsz135 tby135 tz135 Try.underlying135 tsz136 tby136 tz136 Try.underlying136 fo136_0 fo136_1 fo136_2 fo136_3 fo136_4 fo136_5 fo136_6 fo136_7 fo136_8 fo136_9 fo136_10 tsz137 tby137 tz137 Try.underlying137 fo137_0 fo137_1 fo137_2 fo137_3 fo137_4 fo137_5 fo137_6 fo137_7 fo137_8 fo137_9 fo137_10 tsz138 tby138 tz138 Try.underlying138 l1InG eqEdgeG l4BeforeG isNaNG cmpIntG cmpEndsG toEdgeG ftC
theorem k_laws_markEdgeS (a0 : List (Int × Int × Int)) (a1 : Int) {r : Int × (List (Int × Int × Int))} (h : laws_markEdgeS a0 a1 = some r) :
    FnA Try.prog 41 [.sl 0, .v (.int .i64 a1)] [.row true (.trips a0)] [] (fun x H => x = .v (.int .i64 r.1) ∧ H = [.row true (.trips r.2)]) := by
  unfold laws_markEdgeS at h
  refine FnA.of (N := 34) (pin := [0]) (rs := [.tmp 4]) Try.func41 rfl en41 rfl rfl (by simp) (by simp; try omega) ?_
  refine awp_reg ftCOk [(0, .sl 0), (1, .v (.int .i64 a1))] [.row true (.trips a0)] ?_
  refine awp_seq fun K14 hK14 => ?_
  refine awp_reg ftCOk [(0, .sl 0), (1, .v (.int .i64 a1)), (5, .v (.int .i64 0))] [.row true (.trips a0)] ?_
  refine awp_block ?_
  replace h := bind_some h
  obtain ⟨x27, hx, h⟩ := h
  refine awp_loopL hx (fun ((t1, t5, p0s) : Int × Int × (List (Int × Int × Int))) => [(0, .sl 0), (1, .v (.int .i64 t1)), (5, .v (.int .i64 t5))]) (fun ((t1, t5, p0s) : Int × Int × (List (Int × Int × Int))) => [.row true (.trips p0s)]) (fun ((t1_1, p0s_1) : Int × (List (Int × Int × Int))) => Exit.exit 0) (fun ((t1_1, p0s_1) : Int × (List (Int × Int × Int))) => [(1, .v (.int .i64 t1_1))]) (fun ((t1_1, p0s_1) : Int × (List (Int × Int × Int))) => [.row true (.trips p0s_1)]) ?_ ?_ ?_ ?_
  · rintro ⟨t1_1, p0s_1⟩ hy <;> cases hy
  · clear h hx
    exact Red.auto
  · clear h hx
    rintro ⟨t1, t5, p0s⟩ r h
    unfold laws_markEdgeS_b0 at h
    try dsimp only at h
    try dsimp only
    refine awp_seq fun K24 hK24 => ?_
    refine awp_reg ftCOk [(0, .sl 0), (1, .v (.int .i64 t1)), (5, .v (.int .i64 t5)), (9, .v (.bool (decide (t5 < (p0s.length : Int)))))] [.row true (.trips p0s)] ?_
    refine awp_cond (t := 9) rfl (fun hc25 => ?_) (fun hc25 => ?_)
    · replace h := bite_t h hc25
      refine awp_skip ?_
      (try simp only [Thn, InBlk, ↓reduceIte, Nat.reduceEqDiff])
      refine hK24 _ _ ?_
      clear hK24
      refine awp_seq fun K26 hK26 => ?_
      refine awp_block ?_
      replace h := chk_some h
      obtain ⟨hp0, h⟩ := h
      refine awp_reg ftCOk [(0, .sl 0), (1, .v (.int .i64 t1)), (5, .v (.int .i64 t5))] [.row true (.trips (p0s.set t5.toNat (t1, (p0s.getD t5.toNat (0, 0, 0)).2.1, (p0s.getD t5.toNat (0, 0, 0)).2.2)))] ?_
      clear hp0
      replace h := chk_some h
      obtain ⟨hp0, h⟩ := h
      refine awp_reg ftCOk [(0, .sl 0), (1, .v (.int .i64 (t1 + 1))), (5, .v (.int .i64 t5))] [.row true (.trips (p0s.set t5.toNat (t1, (p0s.getD t5.toNat (0, 0, 0)).2.1, (p0s.getD t5.toNat (0, 0, 0)).2.2)))] ?_
      clear hp0
      replace h := chk_some h
      obtain ⟨hp0, h⟩ := h
      refine awp_reg ftCOk [(0, .sl 0), (1, .v (.int .i64 (t1 + 1))), (5, .v (.int .i64 t5))] [.row true (.trips ((p0s.set t5.toNat (t1, (p0s.getD t5.toNat (0, 0, 0)).2.1, (p0s.getD t5.toNat (0, 0, 0)).2.2)).set t5.toNat (((p0s.set t5.toNat (t1, (p0s.getD t5.toNat (0, 0, 0)).2.1, (p0s.getD t5.toNat (0, 0, 0)).2.2)).getD t5.toNat (0, 0, 0)).1, (t1 + 1), ((p0s.set t5.toNat (t1, (p0s.getD t5.toNat (0, 0, 0)).2.1, (p0s.getD t5.toNat (0, 0, 0)).2.2)).getD t5.toNat (0, 0, 0)).2.2)))] ?_
      clear hp0
      replace h := chk_some h
      obtain ⟨hp0, h⟩ := h
      refine awp_reg ftCOk [(0, .sl 0), (1, .v (.int .i64 ((t1 + 1) + 1))), (5, .v (.int .i64 t5))] [.row true (.trips ((p0s.set t5.toNat (t1, (p0s.getD t5.toNat (0, 0, 0)).2.1, (p0s.getD t5.toNat (0, 0, 0)).2.2)).set t5.toNat (((p0s.set t5.toNat (t1, (p0s.getD t5.toNat (0, 0, 0)).2.1, (p0s.getD t5.toNat (0, 0, 0)).2.2)).getD t5.toNat (0, 0, 0)).1, (t1 + 1), ((p0s.set t5.toNat (t1, (p0s.getD t5.toNat (0, 0, 0)).2.1, (p0s.getD t5.toNat (0, 0, 0)).2.2)).getD t5.toNat (0, 0, 0)).2.2)))] ?_
      clear hp0
      replace h := chk_some h
      obtain ⟨hp0, h⟩ := h
      refine awp_reg ftCOk [(0, .sl 0), (1, .v (.int .i64 ((t1 + 1) + 1))), (5, .v (.int .i64 t5))] [.row true (.trips (((p0s.set t5.toNat (t1, (p0s.getD t5.toNat (0, 0, 0)).2.1, (p0s.getD t5.toNat (0, 0, 0)).2.2)).set t5.toNat (((p0s.set t5.toNat (t1, (p0s.getD t5.toNat (0, 0, 0)).2.1, (p0s.getD t5.toNat (0, 0, 0)).2.2)).getD t5.toNat (0, 0, 0)).1, (t1 + 1), ((p0s.set t5.toNat (t1, (p0s.getD t5.toNat (0, 0, 0)).2.1, (p0s.getD t5.toNat (0, 0, 0)).2.2)).getD t5.toNat (0, 0, 0)).2.2)).set t5.toNat ((((p0s.set t5.toNat (t1, (p0s.getD t5.toNat (0, 0, 0)).2.1, (p0s.getD t5.toNat (0, 0, 0)).2.2)).set t5.toNat (((p0s.set t5.toNat (t1, (p0s.getD t5.toNat (0, 0, 0)).2.1, (p0s.getD t5.toNat (0, 0, 0)).2.2)).getD t5.toNat (0, 0, 0)).1, (t1 + 1), ((p0s.set t5.toNat (t1, (p0s.getD t5.toNat (0, 0, 0)).2.1, (p0s.getD t5.toNat (0, 0, 0)).2.2)).getD t5.toNat (0, 0, 0)).2.2)).getD t5.toNat (0, 0, 0)).1, (((p0s.set t5.toNat (t1, (p0s.getD t5.toNat (0, 0, 0)).2.1, (p0s.getD t5.toNat (0, 0, 0)).2.2)).set t5.toNat (((p0s.set t5.toNat (t1, (p0s.getD t5.toNat (0, 0, 0)).2.1, (p0s.getD t5.toNat (0, 0, 0)).2.2)).getD t5.toNat (0, 0, 0)).1, (t1 + 1), ((p0s.set t5.toNat (t1, (p0s.getD t5.toNat (0, 0, 0)).2.1, (p0s.getD t5.toNat (0, 0, 0)).2.2)).getD t5.toNat (0, 0, 0)).2.2)).getD t5.toNat (0, 0, 0)).2.1, ((t1 + 1) + 1))))] ?_
      clear hp0
      replace h := chk_some h
      obtain ⟨hp0, h⟩ := h
      refine awp_regE ftCOk [(0, .sl 0), (1, .v (.int .i64 (((t1 + 1) + 1) + 1))), (5, .v (.int .i64 t5))] [.row true (.trips (((p0s.set t5.toNat (t1, (p0s.getD t5.toNat (0, 0, 0)).2.1, (p0s.getD t5.toNat (0, 0, 0)).2.2)).set t5.toNat (((p0s.set t5.toNat (t1, (p0s.getD t5.toNat (0, 0, 0)).2.1, (p0s.getD t5.toNat (0, 0, 0)).2.2)).getD t5.toNat (0, 0, 0)).1, (t1 + 1), ((p0s.set t5.toNat (t1, (p0s.getD t5.toNat (0, 0, 0)).2.1, (p0s.getD t5.toNat (0, 0, 0)).2.2)).getD t5.toNat (0, 0, 0)).2.2)).set t5.toNat ((((p0s.set t5.toNat (t1, (p0s.getD t5.toNat (0, 0, 0)).2.1, (p0s.getD t5.toNat (0, 0, 0)).2.2)).set t5.toNat (((p0s.set t5.toNat (t1, (p0s.getD t5.toNat (0, 0, 0)).2.1, (p0s.getD t5.toNat (0, 0, 0)).2.2)).getD t5.toNat (0, 0, 0)).1, (t1 + 1), ((p0s.set t5.toNat (t1, (p0s.getD t5.toNat (0, 0, 0)).2.1, (p0s.getD t5.toNat (0, 0, 0)).2.2)).getD t5.toNat (0, 0, 0)).2.2)).getD t5.toNat (0, 0, 0)).1, (((p0s.set t5.toNat (t1, (p0s.getD t5.toNat (0, 0, 0)).2.1, (p0s.getD t5.toNat (0, 0, 0)).2.2)).set t5.toNat (((p0s.set t5.toNat (t1, (p0s.getD t5.toNat (0, 0, 0)).2.1, (p0s.getD t5.toNat (0, 0, 0)).2.2)).getD t5.toNat (0, 0, 0)).1, (t1 + 1), ((p0s.set t5.toNat (t1, (p0s.getD t5.toNat (0, 0, 0)).2.1, (p0s.getD t5.toNat (0, 0, 0)).2.2)).getD t5.toNat (0, 0, 0)).2.2)).getD t5.toNat (0, 0, 0)).2.1, ((t1 + 1) + 1))))] ?_
      clear hp0
      (try simp only [Thn, InBlk, ↓reduceIte, Nat.reduceEqDiff])
      (try simp only [Thn, InBlk, ↓reduceIte, Nat.reduceEqDiff])
      refine hK26 _ _ ?_
      clear hK26
      replace h := chk_some h
      obtain ⟨hp0, h⟩ := h
      refine awp_regE ftCOk [(0, .sl 0), (1, .v (.int .i64 (((t1 + 1) + 1) + 1))), (5, .v (.int .i64 (t5 + 1)))] [.row true (.trips (((p0s.set t5.toNat (t1, (p0s.getD t5.toNat (0, 0, 0)).2.1, (p0s.getD t5.toNat (0, 0, 0)).2.2)).set t5.toNat (((p0s.set t5.toNat (t1, (p0s.getD t5.toNat (0, 0, 0)).2.1, (p0s.getD t5.toNat (0, 0, 0)).2.2)).getD t5.toNat (0, 0, 0)).1, (t1 + 1), ((p0s.set t5.toNat (t1, (p0s.getD t5.toNat (0, 0, 0)).2.1, (p0s.getD t5.toNat (0, 0, 0)).2.2)).getD t5.toNat (0, 0, 0)).2.2)).set t5.toNat ((((p0s.set t5.toNat (t1, (p0s.getD t5.toNat (0, 0, 0)).2.1, (p0s.getD t5.toNat (0, 0, 0)).2.2)).set t5.toNat (((p0s.set t5.toNat (t1, (p0s.getD t5.toNat (0, 0, 0)).2.1, (p0s.getD t5.toNat (0, 0, 0)).2.2)).getD t5.toNat (0, 0, 0)).1, (t1 + 1), ((p0s.set t5.toNat (t1, (p0s.getD t5.toNat (0, 0, 0)).2.1, (p0s.getD t5.toNat (0, 0, 0)).2.2)).getD t5.toNat (0, 0, 0)).2.2)).getD t5.toNat (0, 0, 0)).1, (((p0s.set t5.toNat (t1, (p0s.getD t5.toNat (0, 0, 0)).2.1, (p0s.getD t5.toNat (0, 0, 0)).2.2)).set t5.toNat (((p0s.set t5.toNat (t1, (p0s.getD t5.toNat (0, 0, 0)).2.1, (p0s.getD t5.toNat (0, 0, 0)).2.2)).getD t5.toNat (0, 0, 0)).1, (t1 + 1), ((p0s.set t5.toNat (t1, (p0s.getD t5.toNat (0, 0, 0)).2.1, (p0s.getD t5.toNat (0, 0, 0)).2.2)).getD t5.toNat (0, 0, 0)).2.2)).getD t5.toNat (0, 0, 0)).2.1, ((t1 + 1) + 1))))] ?_
      clear hp0
      obtain rfl := Option.some.inj h
      refine LoopQ.next ?_
      exact Red.auto
    · replace h := bite_f h hc25
      refine awp_exit ?_
      (try simp only [Thn, InBlk, ↓reduceIte, Nat.reduceEqDiff])
      obtain rfl := Option.some.inj h
      refine LoopQ.out rfl ?_
      exact Red.auto
  · clear hx
    rcases x27 with ⟨t1_1, p0s_1⟩
    · try dsimp only [Sum.elim_inl, Sum.elim_inr] at h
      try dsimp only [Sum.elim_inl, Sum.elim_inr]
      (try simp only [Thn, InBlk, ↓reduceIte, Nat.reduceEqDiff])
      (try simp only [Thn, InBlk, ↓reduceIte, Nat.reduceEqDiff])
      (try simp only [Thn, InBlk, ↓reduceIte, Nat.reduceEqDiff])
      refine hK14 _ _ ?_
      clear hK14
      refine awp_reg ftCOk [(4, .v (.int .i64 t1_1))] [.row true (.trips p0s_1)] ?_
      refine awp_ret ?_
      (try simp only [Thn, InBlk, ↓reduceIte, Nat.reduceEqDiff])
      obtain rfl := Option.some.inj h
      refine ⟨by simp, _, [0], (by simp only [go_sem, Nat.reduceBEq, Nat.reduceLT, Nat.reduceAdd, Nat.reduceLeDiff, Nat.reduceSub, Nat.reduceEqDiff, Int.reduceToNat, reduceCtorEq, ↓reduceIte]; exact rfl), ?_, ?_, ?_, ?_⟩
      · first | exact trivial | exact ⟨trivial, trivial⟩ | exact ⟨trivial, trivial, trivial⟩ | exact ⟨trivial, trivial, trivial, trivial⟩ | (simp only [allP, and_true, true_and]; done) | (simp only [allP, and_true, true_and]; omega)
      · simp [selOk, pos]
      · simp
      · first | exact ⟨rfl, rfl⟩ | (simp only [go_sem, Nat.reduceBEq, Nat.reduceLT, Nat.reduceAdd, Nat.reduceLeDiff, Nat.reduceSub, Nat.reduceEqDiff, Int.reduceToNat, reduceCtorEq, ↓reduceIte]; done) | (simp [go_sem, Nat.reduceBEq, Nat.reduceLT, Nat.reduceAdd, Nat.reduceLeDiff, Nat.reduceSub, Nat.reduceEqDiff, Int.reduceToNat, reduceCtorEq, ↓reduceIte]; done) | (simp only [go_sem, Nat.reduceBEq, Nat.reduceLT, Nat.reduceAdd, Nat.reduceLeDiff, Nat.reduceSub, Nat.reduceEqDiff, Int.reduceToNat, reduceCtorEq, ↓reduceIte]; exact ⟨rfl, rfl⟩) | (simp_all [go_sem, Nat.reduceBEq, Nat.reduceLT, Nat.reduceAdd, Nat.reduceLeDiff, Nat.reduceSub, Nat.reduceEqDiff, Int.reduceToNat, reduceCtorEq, ↓reduceIte]; done)
theorem k_laws_markGraph (a0_0 : Int) (a0_1 : List (Int × Int × Int)) (a1 : Int) {r : Int × (List (Int × Int × Int))} (h : laws_markGraph a0_0 a0_1 a1 = some r) :
    FnA Try.prog 18 [.agg [.v (.int .i64 a0_0), .sl 0], .v (.int .i64 a1)] [.row true (.trips a0_1)] [] (fun x H => x = .v (.int .i64 r.1) ∧ H = [.row true (.trips r.2)]) := by
  unfold laws_markGraph at h
  refine FnA.of (N := 10) (pin := [0]) (rs := [.tmp 4]) Try.func18 rfl en18 rfl rfl (by simp) (by simp; try omega) ?_
  refine awp_reg ftCOk [(1, .v (.int .i64 a1)), (2, .pp 1 0)] [.row true (.trips a0_1), .box [.v (.int .i64 a0_0), .sl 0]] ?_
  refine awp_freeze 2 (by rfl) (by rfl) (by exact rfl) ?_
  replace h := bind_some h
  obtain ⟨⟨y, y_1⟩, hr0, h⟩ := h
  try dsimp only at h
  refine awp_to [(1, .v (.int .i64 y))] [.row true (.trips y_1), .rbox [.v (.int .i64 a0_0), .sl 0]] ?_ ?_
  · clear h
    intro K hK
    refine awp_region ftCOk ?_
    simp (maxSteps := 4000000) only [go_sem, Nat.reduceBEq, Nat.reduceLT, Nat.reduceAdd, Nat.reduceLeDiff, Nat.reduceSub, Nat.reduceEqDiff, Int.reduceToNat, reduceCtorEq, ↓reduceIte]
    repeat' (first | refine And.intro ?_ ?_ | intro hg)
    all_goals (try simp (disch := omega) only [wrap_fits])
    all_goals first
      | (refine hK _ _ ?_; exact Red.auto)
      | exact trivial
      | assumption
      | omega
      | exact wrap_fits (by omega) (by omega)
      | (refine wpA_callA (k_laws_markEdgeS a0_1 a1 (h := hr0)) [0] [] ?_
         rintro x Hc' ⟨rfl, rfl⟩ hlen
         refine vcOps_sound ftCOk ?_
         simp (maxSteps := 4000000) only [go_sem, Nat.reduceBEq, Nat.reduceLT, Nat.reduceAdd, Nat.reduceLeDiff, Nat.reduceSub, Nat.reduceEqDiff, Int.reduceToNat, reduceCtorEq, ↓reduceIte]
         repeat' (first | refine And.intro ?_ ?_ | intro hg)
         all_goals (try simp (disch := omega) only [wrap_fits])
         all_goals first
           | (refine hK _ _ ?_; exact Red.auto)
           | exact trivial
           | assumption
           | omega
           | exact wrap_fits (by omega) (by omega)
           | (simp_all; done)
           | (simp_all; omega))
      | (simp_all; done)
      | (simp_all; omega)
  · clear hr0
    refine awp_reg ftCOk [(4, .v (.int .i64 y))] [.row true (.trips y_1), .rbox [.v (.int .i64 a0_0), .sl 0]] ?_
    refine awp_ret ?_
    (try simp only [Thn, InBlk, ↓reduceIte, Nat.reduceEqDiff])
    obtain rfl := Option.some.inj h
    refine ⟨by simp, _, [0], (by simp only [go_sem, Nat.reduceBEq, Nat.reduceLT, Nat.reduceAdd, Nat.reduceLeDiff, Nat.reduceSub, Nat.reduceEqDiff, Int.reduceToNat, reduceCtorEq, ↓reduceIte]; exact rfl), ?_, ?_, ?_, ?_⟩
    · first | exact trivial | exact ⟨trivial, trivial⟩ | exact ⟨trivial, trivial, trivial⟩ | exact ⟨trivial, trivial, trivial, trivial⟩ | (simp only [allP, and_true, true_and]; done) | (simp only [allP, and_true, true_and]; omega)
    · simp [selOk, pos]
    · simp
    · first | exact ⟨rfl, rfl⟩ | (simp only [go_sem, Nat.reduceBEq, Nat.reduceLT, Nat.reduceAdd, Nat.reduceLeDiff, Nat.reduceSub, Nat.reduceEqDiff, Int.reduceToNat, reduceCtorEq, ↓reduceIte]; done) | (simp [go_sem, Nat.reduceBEq, Nat.reduceLT, Nat.reduceAdd, Nat.reduceLeDiff, Nat.reduceSub, Nat.reduceEqDiff, Int.reduceToNat, reduceCtorEq, ↓reduceIte]; done) | (simp only [go_sem, Nat.reduceBEq, Nat.reduceLT, Nat.reduceAdd, Nat.reduceLeDiff, Nat.reduceSub, Nat.reduceEqDiff, Int.reduceToNat, reduceCtorEq, ↓reduceIte]; exact ⟨rfl, rfl⟩) | (simp_all [go_sem, Nat.reduceBEq, Nat.reduceLT, Nat.reduceAdd, Nat.reduceLeDiff, Nat.reduceSub, Nat.reduceEqDiff, Int.reduceToNat, reduceCtorEq, ↓reduceIte]; done)
theorem k_laws_heldEdgeS (a0 : List (Int × Int × Int)) (a1 : Int) {r : Int} (h : laws_heldEdgeS a0 a1 = some r) :
    FnA Try.prog 42 [.sl 0, .v (.int .i64 a1)] [.row false (.trips a0)] [] (fun x H => x = .v (.int .i64 r) ∧ H = [.row false (.trips a0)]) := by
  unfold laws_heldEdgeS at h
  refine FnA.of (N := 40) (pin := [0]) (rs := [.tmp 4]) Try.func42 rfl en42 rfl rfl (by simp) (by simp; try omega) ?_
  refine awp_reg ftCOk [(0, .sl 0), (1, .v (.int .i64 a1))] [.row false (.trips a0)] ?_
  refine awp_seq fun K68 hK68 => ?_
  refine awp_reg ftCOk [(0, .sl 0), (1, .v (.int .i64 a1)), (5, .v (.int .i64 0))] [.row false (.trips a0)] ?_
  refine awp_block ?_
  replace h := bind_some h
  obtain ⟨x135, hx, h⟩ := h
  refine awp_loopL hx (fun ((t1, t5) : Int × Int) => [(0, .sl 0), (1, .v (.int .i64 t1)), (5, .v (.int .i64 t5))]) (fun ((t1, t5) : Int × Int) => [.row false (.trips a0)]) (Sum.elim (fun (t1_1 : Int) => Exit.exit 0) (fun (_ : Unit) => Exit.ret)) (Sum.elim (fun (t1_1 : Int) => [(1, .v (.int .i64 t1_1))]) (fun (_ : Unit) => [(4, .v (.int .i64 (-1)))])) (Sum.elim (fun (t1_1 : Int) => [.row false (.trips a0)]) (fun (_ : Unit) => [.row false (.trips a0)])) ?_ ?_ ?_ ?_
  · rintro (t1_1 | ⟨⟩) hy <;> cases hy
  · clear h hx
    exact Red.auto
  · clear h hx
    rintro ⟨t1, t5⟩ r h
    unfold laws_heldEdgeS_b0 at h
    try dsimp only at h
    try dsimp only
    refine awp_seq fun K114 hK114 => ?_
    refine awp_reg ftCOk [(0, .sl 0), (1, .v (.int .i64 t1)), (5, .v (.int .i64 t5)), (9, .v (.bool (decide (t5 < (a0.length : Int)))))] [.row false (.trips a0)] ?_
    refine awp_cond (t := 9) rfl (fun hc115 => ?_) (fun hc115 => ?_)
    · replace h := bite_t h hc115
      refine awp_skip ?_
      (try simp only [Thn, InBlk, ↓reduceIte, Nat.reduceEqDiff])
      refine hK114 _ _ ?_
      clear hK114
      refine awp_seq fun K125 hK125 => ?_
      refine awp_block ?_
      refine awp_seq fun K127 hK127 => ?_
      replace h := chk_some h
      obtain ⟨hp0, h⟩ := h
      refine awp_reg ftCOk [(0, .sl 0), (1, .v (.int .i64 t1)), (5, .v (.int .i64 t5)), (18, .v (.bool ((a0.getD t5.toNat (0, 0, 0)).1 != t1)))] [.row false (.trips a0)] ?_
      clear hp0
      refine awp_cond (t := 18) rfl (fun hc128 => ?_) (fun hc128 => ?_)
      · replace h := bite_t h hc128
        refine awp_reg ftCOk [(4, .v (.int .i64 (-1)))] [.row false (.trips a0)] ?_
        refine awp_ret ?_
        (try simp only [Thn, InBlk, ↓reduceIte, Nat.reduceEqDiff])
        obtain rfl := Option.some.inj h
        refine LoopQ.out rfl ?_
        exact Red.auto
      · replace h := bite_f h hc128
        refine awp_skip ?_
        (try simp only [Thn, InBlk, ↓reduceIte, Nat.reduceEqDiff])
        refine hK127 _ _ ?_
        clear hK127
        replace h := chk_some h
        obtain ⟨hp0, h⟩ := h
        refine awp_reg ftCOk [(0, .sl 0), (1, .v (.int .i64 (t1 + 1))), (5, .v (.int .i64 t5))] [.row false (.trips a0)] ?_
        clear hp0
        refine awp_seq fun K130 hK130 => ?_
        replace h := chk_some h
        obtain ⟨hp0, h⟩ := h
        refine awp_reg ftCOk [(0, .sl 0), (1, .v (.int .i64 (t1 + 1))), (5, .v (.int .i64 t5)), (27, .v (.bool ((a0.getD t5.toNat (0, 0, 0)).2.1 != (t1 + 1))))] [.row false (.trips a0)] ?_
        clear hp0
        refine awp_cond (t := 27) rfl (fun hc131 => ?_) (fun hc131 => ?_)
        · replace h := bite_t h hc131
          refine awp_reg ftCOk [(4, .v (.int .i64 (-1)))] [.row false (.trips a0)] ?_
          refine awp_ret ?_
          (try simp only [Thn, InBlk, ↓reduceIte, Nat.reduceEqDiff])
          obtain rfl := Option.some.inj h
          refine LoopQ.out rfl ?_
          exact Red.auto
        · replace h := bite_f h hc131
          refine awp_skip ?_
          (try simp only [Thn, InBlk, ↓reduceIte, Nat.reduceEqDiff])
          refine hK130 _ _ ?_
          clear hK130
          replace h := chk_some h
          obtain ⟨hp0, h⟩ := h
          refine awp_reg ftCOk [(0, .sl 0), (1, .v (.int .i64 ((t1 + 1) + 1))), (5, .v (.int .i64 t5))] [.row false (.trips a0)] ?_
          clear hp0
          refine awp_seq fun K133 hK133 => ?_
          replace h := chk_some h
          obtain ⟨hp0, h⟩ := h
          refine awp_reg ftCOk [(0, .sl 0), (1, .v (.int .i64 ((t1 + 1) + 1))), (5, .v (.int .i64 t5)), (36, .v (.bool ((a0.getD t5.toNat (0, 0, 0)).2.2 != ((t1 + 1) + 1))))] [.row false (.trips a0)] ?_
          clear hp0
          refine awp_cond (t := 36) rfl (fun hc134 => ?_) (fun hc134 => ?_)
          · replace h := bite_t h hc134
            refine awp_reg ftCOk [(4, .v (.int .i64 (-1)))] [.row false (.trips a0)] ?_
            refine awp_ret ?_
            (try simp only [Thn, InBlk, ↓reduceIte, Nat.reduceEqDiff])
            obtain rfl := Option.some.inj h
            refine LoopQ.out rfl ?_
            exact Red.auto
          · replace h := bite_f h hc134
            refine awp_skip ?_
            (try simp only [Thn, InBlk, ↓reduceIte, Nat.reduceEqDiff])
            refine hK133 _ _ ?_
            clear hK133
            replace h := chk_some h
            obtain ⟨hp0, h⟩ := h
            refine awp_regE ftCOk [(0, .sl 0), (1, .v (.int .i64 (((t1 + 1) + 1) + 1))), (5, .v (.int .i64 t5))] [.row false (.trips a0)] ?_
            clear hp0
            (try simp only [Thn, InBlk, ↓reduceIte, Nat.reduceEqDiff])
            (try simp only [Thn, InBlk, ↓reduceIte, Nat.reduceEqDiff])
            refine hK125 _ _ ?_
            clear hK125
            replace h := chk_some h
            obtain ⟨hp0, h⟩ := h
            refine awp_regE ftCOk [(0, .sl 0), (1, .v (.int .i64 (((t1 + 1) + 1) + 1))), (5, .v (.int .i64 (t5 + 1)))] [.row false (.trips a0)] ?_
            clear hp0
            obtain rfl := Option.some.inj h
            refine LoopQ.next ?_
            exact Red.auto
    · replace h := bite_f h hc115
      refine awp_exit ?_
      (try simp only [Thn, InBlk, ↓reduceIte, Nat.reduceEqDiff])
      obtain rfl := Option.some.inj h
      refine LoopQ.out rfl ?_
      exact Red.auto
  · clear hx
    rcases x135 with (t1_1 | ⟨⟩)
    · try dsimp only [Sum.elim_inl, Sum.elim_inr] at h
      try dsimp only [Sum.elim_inl, Sum.elim_inr]
      (try simp only [Thn, InBlk, ↓reduceIte, Nat.reduceEqDiff])
      (try simp only [Thn, InBlk, ↓reduceIte, Nat.reduceEqDiff])
      (try simp only [Thn, InBlk, ↓reduceIte, Nat.reduceEqDiff])
      refine hK68 _ _ ?_
      clear hK68
      refine awp_reg ftCOk [(4, .v (.int .i64 t1_1))] [.row false (.trips a0)] ?_
      refine awp_ret ?_
      (try simp only [Thn, InBlk, ↓reduceIte, Nat.reduceEqDiff])
      obtain rfl := Option.some.inj h
      refine ⟨by simp, _, [0], (by simp only [go_sem, Nat.reduceBEq, Nat.reduceLT, Nat.reduceAdd, Nat.reduceLeDiff, Nat.reduceSub, Nat.reduceEqDiff, Int.reduceToNat, reduceCtorEq, ↓reduceIte]; exact rfl), ?_, ?_, ?_, ?_⟩
      · first | exact trivial | exact ⟨trivial, trivial⟩ | exact ⟨trivial, trivial, trivial⟩ | exact ⟨trivial, trivial, trivial, trivial⟩ | (simp only [allP, and_true, true_and]; done) | (simp only [allP, and_true, true_and]; omega)
      · simp [selOk, pos]
      · simp
      · first | exact ⟨rfl, rfl⟩ | (simp only [go_sem, Nat.reduceBEq, Nat.reduceLT, Nat.reduceAdd, Nat.reduceLeDiff, Nat.reduceSub, Nat.reduceEqDiff, Int.reduceToNat, reduceCtorEq, ↓reduceIte]; done) | (simp [go_sem, Nat.reduceBEq, Nat.reduceLT, Nat.reduceAdd, Nat.reduceLeDiff, Nat.reduceSub, Nat.reduceEqDiff, Int.reduceToNat, reduceCtorEq, ↓reduceIte]; done) | (simp only [go_sem, Nat.reduceBEq, Nat.reduceLT, Nat.reduceAdd, Nat.reduceLeDiff, Nat.reduceSub, Nat.reduceEqDiff, Int.reduceToNat, reduceCtorEq, ↓reduceIte]; exact ⟨rfl, rfl⟩) | (simp_all [go_sem, Nat.reduceBEq, Nat.reduceLT, Nat.reduceAdd, Nat.reduceLeDiff, Nat.reduceSub, Nat.reduceEqDiff, Int.reduceToNat, reduceCtorEq, ↓reduceIte]; done)
    · try dsimp only [Sum.elim_inl, Sum.elim_inr] at h
      try dsimp only [Sum.elim_inl, Sum.elim_inr]
      (try simp only [Thn, InBlk, ↓reduceIte, Nat.reduceEqDiff])
      obtain rfl := Option.some.inj h
      refine ⟨by simp, _, [0], (by simp only [go_sem, Nat.reduceBEq, Nat.reduceLT, Nat.reduceAdd, Nat.reduceLeDiff, Nat.reduceSub, Nat.reduceEqDiff, Int.reduceToNat, reduceCtorEq, ↓reduceIte]; exact rfl), ?_, ?_, ?_, ?_⟩
      · first | exact trivial | exact ⟨trivial, trivial⟩ | exact ⟨trivial, trivial, trivial⟩ | exact ⟨trivial, trivial, trivial, trivial⟩ | (simp only [allP, and_true, true_and]; done) | (simp only [allP, and_true, true_and]; omega)
      · simp [selOk, pos]
      · simp
      · first | exact ⟨rfl, rfl⟩ | (simp only [go_sem, Nat.reduceBEq, Nat.reduceLT, Nat.reduceAdd, Nat.reduceLeDiff, Nat.reduceSub, Nat.reduceEqDiff, Int.reduceToNat, reduceCtorEq, ↓reduceIte]; done) | (simp [go_sem, Nat.reduceBEq, Nat.reduceLT, Nat.reduceAdd, Nat.reduceLeDiff, Nat.reduceSub, Nat.reduceEqDiff, Int.reduceToNat, reduceCtorEq, ↓reduceIte]; done) | (simp only [go_sem, Nat.reduceBEq, Nat.reduceLT, Nat.reduceAdd, Nat.reduceLeDiff, Nat.reduceSub, Nat.reduceEqDiff, Int.reduceToNat, reduceCtorEq, ↓reduceIte]; exact ⟨rfl, rfl⟩) | (simp_all [go_sem, Nat.reduceBEq, Nat.reduceLT, Nat.reduceAdd, Nat.reduceLeDiff, Nat.reduceSub, Nat.reduceEqDiff, Int.reduceToNat, reduceCtorEq, ↓reduceIte]; done)
theorem k_laws_heldGraph (a0_0 : Int) (a0_1 : List (Int × Int × Int)) (a1 : Int) {r : Int} (h : laws_heldGraph a0_0 a0_1 a1 = some r) :
    FnA Try.prog 19 [.agg [.v (.int .i64 a0_0), .sl 0], .v (.int .i64 a1)] [.row false (.trips a0_1)] [] (fun x H => x = .v (.int .i64 r) ∧ H = [.row false (.trips a0_1)]) := by
  unfold laws_heldGraph at h
  refine FnA.of (N := 12) (pin := [0]) (rs := [.tmp 4]) Try.func19 rfl en19 rfl rfl (by simp) (by simp; try omega) ?_
  refine awp_reg ftCOk [(1, .v (.int .i64 a1)), (2, .pp 1 0)] [.row false (.trips a0_1), .box [.v (.int .i64 a0_0), .sl 0]] ?_
  refine awp_freeze 2 (by rfl) (by rfl) (by exact rfl) ?_
  replace h := bind_some h
  obtain ⟨y, hr0, h⟩ := h
  try dsimp only at h
  refine awp_to [(1, .v (.int .i64 y))] [.row false (.trips a0_1), .rbox [.v (.int .i64 a0_0), .sl 0]] ?_ ?_
  · clear h
    intro K hK
    refine awp_region ftCOk ?_
    simp (maxSteps := 4000000) only [go_sem, Nat.reduceBEq, Nat.reduceLT, Nat.reduceAdd, Nat.reduceLeDiff, Nat.reduceSub, Nat.reduceEqDiff, Int.reduceToNat, reduceCtorEq, ↓reduceIte]
    repeat' (first | refine And.intro ?_ ?_ | intro hg)
    all_goals (try simp (disch := omega) only [wrap_fits])
    all_goals first
      | (refine hK _ _ ?_; exact Red.auto)
      | exact trivial
      | assumption
      | omega
      | exact wrap_fits (by omega) (by omega)
      | (refine wpA_callA (k_laws_heldEdgeS a0_1 a1 (h := hr0)) [0] [] ?_
         rintro x Hc' ⟨rfl, rfl⟩ hlen
         refine vcOps_sound ftCOk ?_
         simp (maxSteps := 4000000) only [go_sem, Nat.reduceBEq, Nat.reduceLT, Nat.reduceAdd, Nat.reduceLeDiff, Nat.reduceSub, Nat.reduceEqDiff, Int.reduceToNat, reduceCtorEq, ↓reduceIte]
         repeat' (first | refine And.intro ?_ ?_ | intro hg)
         all_goals (try simp (disch := omega) only [wrap_fits])
         all_goals first
           | (refine hK _ _ ?_; exact Red.auto)
           | exact trivial
           | assumption
           | omega
           | exact wrap_fits (by omega) (by omega)
           | (simp_all; done)
           | (simp_all; omega))
      | (simp_all; done)
      | (simp_all; omega)
  · clear hr0
    refine awp_seq fun K2 hK2 => ?_
    refine awp_reg ftCOk [(1, .v (.int .i64 y)), (10, .v (.bool (decide (y < 0))))] [.row false (.trips a0_1), .rbox [.v (.int .i64 a0_0), .sl 0]] ?_
    refine awp_cond (t := 10) rfl (fun hc3 => ?_) (fun hc3 => ?_)
    · replace h := bite_t h hc3
      refine awp_reg ftCOk [(4, .v (.int .i64 (-1)))] [.row false (.trips a0_1), .rbox [.v (.int .i64 a0_0), .sl 0]] ?_
      refine awp_ret ?_
      (try simp only [Thn, InBlk, ↓reduceIte, Nat.reduceEqDiff])
      obtain rfl := Option.some.inj h
      refine ⟨by simp, _, [0], (by simp only [go_sem, Nat.reduceBEq, Nat.reduceLT, Nat.reduceAdd, Nat.reduceLeDiff, Nat.reduceSub, Nat.reduceEqDiff, Int.reduceToNat, reduceCtorEq, ↓reduceIte]; exact rfl), ?_, ?_, ?_, ?_⟩
      · first | exact trivial | exact ⟨trivial, trivial⟩ | exact ⟨trivial, trivial, trivial⟩ | exact ⟨trivial, trivial, trivial, trivial⟩ | (simp only [allP, and_true, true_and]; done) | (simp only [allP, and_true, true_and]; omega)
      · simp [selOk, pos]
      · simp
      · first | exact ⟨rfl, rfl⟩ | (simp only [go_sem, Nat.reduceBEq, Nat.reduceLT, Nat.reduceAdd, Nat.reduceLeDiff, Nat.reduceSub, Nat.reduceEqDiff, Int.reduceToNat, reduceCtorEq, ↓reduceIte]; done) | (simp [go_sem, Nat.reduceBEq, Nat.reduceLT, Nat.reduceAdd, Nat.reduceLeDiff, Nat.reduceSub, Nat.reduceEqDiff, Int.reduceToNat, reduceCtorEq, ↓reduceIte]; done) | (simp only [go_sem, Nat.reduceBEq, Nat.reduceLT, Nat.reduceAdd, Nat.reduceLeDiff, Nat.reduceSub, Nat.reduceEqDiff, Int.reduceToNat, reduceCtorEq, ↓reduceIte]; exact ⟨rfl, rfl⟩) | (simp_all [go_sem, Nat.reduceBEq, Nat.reduceLT, Nat.reduceAdd, Nat.reduceLeDiff, Nat.reduceSub, Nat.reduceEqDiff, Int.reduceToNat, reduceCtorEq, ↓reduceIte]; done)
    · replace h := bite_f h hc3
      refine awp_skip ?_
      (try simp only [Thn, InBlk, ↓reduceIte, Nat.reduceEqDiff])
      refine hK2 _ _ ?_
      clear hK2
      refine awp_reg ftCOk [(4, .v (.int .i64 y))] [.row false (.trips a0_1), .rbox [.v (.int .i64 a0_0), .sl 0]] ?_
      refine awp_ret ?_
      (try simp only [Thn, InBlk, ↓reduceIte, Nat.reduceEqDiff])
      obtain rfl := Option.some.inj h
      refine ⟨by simp, _, [0], (by simp only [go_sem, Nat.reduceBEq, Nat.reduceLT, Nat.reduceAdd, Nat.reduceLeDiff, Nat.reduceSub, Nat.reduceEqDiff, Int.reduceToNat, reduceCtorEq, ↓reduceIte]; exact rfl), ?_, ?_, ?_, ?_⟩
      · first | exact trivial | exact ⟨trivial, trivial⟩ | exact ⟨trivial, trivial, trivial⟩ | exact ⟨trivial, trivial, trivial, trivial⟩ | (simp only [allP, and_true, true_and]; done) | (simp only [allP, and_true, true_and]; omega)
      · simp [selOk, pos]
      · simp
      · first | exact ⟨rfl, rfl⟩ | (simp only [go_sem, Nat.reduceBEq, Nat.reduceLT, Nat.reduceAdd, Nat.reduceLeDiff, Nat.reduceSub, Nat.reduceEqDiff, Int.reduceToNat, reduceCtorEq, ↓reduceIte]; done) | (simp [go_sem, Nat.reduceBEq, Nat.reduceLT, Nat.reduceAdd, Nat.reduceLeDiff, Nat.reduceSub, Nat.reduceEqDiff, Int.reduceToNat, reduceCtorEq, ↓reduceIte]; done) | (simp only [go_sem, Nat.reduceBEq, Nat.reduceLT, Nat.reduceAdd, Nat.reduceLeDiff, Nat.reduceSub, Nat.reduceEqDiff, Int.reduceToNat, reduceCtorEq, ↓reduceIte]; exact ⟨rfl, rfl⟩) | (simp_all [go_sem, Nat.reduceBEq, Nat.reduceLT, Nat.reduceAdd, Nat.reduceLeDiff, Nat.reduceSub, Nat.reduceEqDiff, Int.reduceToNat, reduceCtorEq, ↓reduceIte]; done)
theorem k_laws_FnExactTurnGraph (a0_0 : Int) (a0_1 : List (Int × Int × Int)) {r : Bool} (h : laws_FnExactTurnGraph a0_0 a0_1 = some r) :
    FnA Try.prog 4 [.agg [.v (.int .i64 a0_0), .sl 0]] [.row false (.trips a0_1)] [] (fun x H => x = .v (.bool r) ∧ H = [.row false (.trips a0_1)]) := by
  unfold laws_FnExactTurnGraph at h
  refine FnA.of (N := 69) (pin := [0]) (rs := [.tmp 2]) Try.func4 rfl en4 rfl rfl (by simp) (by simp; try omega) ?_
  refine awp_reg ftCOk [(1, .pp 1 0)] [.row false (.trips a0_1), .box [.v (.int .i64 a0_0), .sl 0]] ?_
  refine awp_freeze 1 (by rfl) (by rfl) (by exact rfl) ?_
  refine awp_reg ftCOk [(1, .pp 1 0), (3, .v (.int .i64 1048576))] [.row false (.trips a0_1), .rbox [.v (.int .i64 a0_0), .sl 0]] ?_
  replace h := bind_some h
  obtain ⟨y, hr0, h⟩ := h
  try dsimp only at h
  refine awp_to [(1, .pp 1 0), (3, .v (.int .i64 y))] [.row false (.trips a0_1), .rbox [.v (.int .i64 a0_0), .sl 0]] ?_ ?_
  · clear h
    intro K hK
    refine awp_region ftCOk ?_
    simp (maxSteps := 4000000) only [go_sem, Nat.reduceBEq, Nat.reduceLT, Nat.reduceAdd, Nat.reduceLeDiff, Nat.reduceSub, Nat.reduceEqDiff, Int.reduceToNat, reduceCtorEq, ↓reduceIte]
    repeat' (first | refine And.intro ?_ ?_ | intro hg)
    all_goals (try simp (disch := omega) only [wrap_fits])
    all_goals first
      | (refine hK _ _ ?_; exact Red.auto)
      | exact trivial
      | assumption
      | omega
      | exact wrap_fits (by omega) (by omega)
      | (refine wpA_callA (k_laws_szGraph a0_0 a0_1 1048576 (h := hr0)) [0] [] ?_
         rintro x Hc' ⟨rfl, rfl⟩ hlen
         refine vcOps_sound ftCOk ?_
         simp (maxSteps := 4000000) only [go_sem, Nat.reduceBEq, Nat.reduceLT, Nat.reduceAdd, Nat.reduceLeDiff, Nat.reduceSub, Nat.reduceEqDiff, Int.reduceToNat, reduceCtorEq, ↓reduceIte]
         repeat' (first | refine And.intro ?_ ?_ | intro hg)
         all_goals (try simp (disch := omega) only [wrap_fits])
         all_goals first
           | (refine hK _ _ ?_; exact Red.auto)
           | exact trivial
           | assumption
           | omega
           | exact wrap_fits (by omega) (by omega)
           | (simp_all; done)
           | (simp_all; omega))
      | (simp_all; done)
      | (simp_all; omega)
  · clear hr0
    refine awp_seq fun K2 hK2 => ?_
    refine awp_reg ftCOk [(1, .pp 1 0), (15, .v (.bool (decide (y < 0))))] [.row false (.trips a0_1), .rbox [.v (.int .i64 a0_0), .sl 0]] ?_
    refine awp_cond (t := 15) rfl (fun hc3 => ?_) (fun hc3 => ?_)
    · replace h := bite_t h hc3
      refine awp_reg ftCOk [(2, .v (.bool true))] [.row false (.trips a0_1), .rbox [.v (.int .i64 a0_0), .sl 0]] ?_
      refine awp_ret ?_
      (try simp only [Thn, InBlk, ↓reduceIte, Nat.reduceEqDiff])
      obtain rfl := Option.some.inj h
      refine ⟨by simp, _, [0], (by simp only [go_sem, Nat.reduceBEq, Nat.reduceLT, Nat.reduceAdd, Nat.reduceLeDiff, Nat.reduceSub, Nat.reduceEqDiff, Int.reduceToNat, reduceCtorEq, ↓reduceIte]; exact rfl), ?_, ?_, ?_, ?_⟩
      · first | exact trivial | exact ⟨trivial, trivial⟩ | exact ⟨trivial, trivial, trivial⟩ | exact ⟨trivial, trivial, trivial, trivial⟩ | (simp only [allP, and_true, true_and]; done) | (simp only [allP, and_true, true_and]; omega)
      · simp [selOk, pos]
      · simp
      · first | exact ⟨rfl, rfl⟩ | (simp only [go_sem, Nat.reduceBEq, Nat.reduceLT, Nat.reduceAdd, Nat.reduceLeDiff, Nat.reduceSub, Nat.reduceEqDiff, Int.reduceToNat, reduceCtorEq, ↓reduceIte]; done) | (simp [go_sem, Nat.reduceBEq, Nat.reduceLT, Nat.reduceAdd, Nat.reduceLeDiff, Nat.reduceSub, Nat.reduceEqDiff, Int.reduceToNat, reduceCtorEq, ↓reduceIte]; done) | (simp only [go_sem, Nat.reduceBEq, Nat.reduceLT, Nat.reduceAdd, Nat.reduceLeDiff, Nat.reduceSub, Nat.reduceEqDiff, Int.reduceToNat, reduceCtorEq, ↓reduceIte]; exact ⟨rfl, rfl⟩) | (simp_all [go_sem, Nat.reduceBEq, Nat.reduceLT, Nat.reduceAdd, Nat.reduceLeDiff, Nat.reduceSub, Nat.reduceEqDiff, Int.reduceToNat, reduceCtorEq, ↓reduceIte]; done)
    · replace h := bite_f h hc3
      refine awp_skip ?_
      (try simp only [Thn, InBlk, ↓reduceIte, Nat.reduceEqDiff])
      refine hK2 _ _ ?_
      clear hK2
      replace h := bind_some h
      obtain ⟨⟨y_1, y_2⟩, hr0, h⟩ := h
      try dsimp only at h
      replace h := bind_some h
      obtain ⟨⟨y_3, y_4⟩, hr1, h⟩ := h
      try dsimp only at h
      refine awp_to [(1, .pp 1 0), (4, .pp 4 0)] [.row false (.trips a0_1), .rbox [.v (.int .i64 a0_0), .sl 0], .row true (.trips y_2), .row true (.trips y_4), .box [.v (.int .i64 y_3), .sl 3]] ?_ ?_
      · clear h
        intro K hK
        refine awp_region ftCOk ?_
        simp (maxSteps := 4000000) only [go_sem, Nat.reduceBEq, Nat.reduceLT, Nat.reduceAdd, Nat.reduceLeDiff, Nat.reduceSub, Nat.reduceEqDiff, Int.reduceToNat, reduceCtorEq, ↓reduceIte]
        repeat' (first | refine And.intro ?_ ?_ | intro hg)
        all_goals (try simp (disch := omega) only [wrap_fits])
        all_goals first
          | (refine hK _ _ ?_; exact Red.auto)
          | exact trivial
          | assumption
          | omega
          | exact wrap_fits (by omega) (by omega)
          | (refine wpA_callA (k_laws_toGraph a0_0 a0_1 (h := hr0)) [0] [] ?_
             rintro x Hc' ⟨rfl, rfl⟩ hlen
             refine vcOps_sound ftCOk ?_
             simp (maxSteps := 4000000) only [go_sem, Nat.reduceBEq, Nat.reduceLT, Nat.reduceAdd, Nat.reduceLeDiff, Nat.reduceSub, Nat.reduceEqDiff, Int.reduceToNat, reduceCtorEq, ↓reduceIte]
             repeat' (first | refine And.intro ?_ ?_ | intro hg)
             all_goals (try simp (disch := omega) only [wrap_fits])
             all_goals first
               | (refine hK _ _ ?_; exact Red.auto)
               | exact trivial
               | assumption
               | omega
               | exact wrap_fits (by omega) (by omega)
               | (refine wpA_callA (k_spec_TurnGraph y_1 y_2 (h := hr1)) [2] [] ?_
                  rintro x Hc' ⟨rfl, rfl⟩ hlen
                  refine vcOps_sound ftCOk ?_
                  simp (maxSteps := 4000000) only [go_sem, Nat.reduceBEq, Nat.reduceLT, Nat.reduceAdd, Nat.reduceLeDiff, Nat.reduceSub, Nat.reduceEqDiff, Int.reduceToNat, reduceCtorEq, ↓reduceIte]
                  repeat' (first | refine And.intro ?_ ?_ | intro hg)
                  all_goals (try simp (disch := omega) only [wrap_fits])
                  all_goals first
                    | (refine hK _ _ ?_; exact Red.auto)
                    | exact trivial
                    | assumption
                    | omega
                    | exact wrap_fits (by omega) (by omega)
                    | (simp_all; done)
                    | (simp_all; omega))
               | (simp_all; done)
               | (simp_all; omega))
          | (simp_all; done)
          | (simp_all; omega)
      · clear hr0 hr1
        replace h := bind_some h
        obtain ⟨⟨y_5, y_6⟩, hr0, h⟩ := h
        try dsimp only at h
        refine awp_to [(1, .pp 1 0), (4, .pp 4 0), (5, .pp 6 0)] [.row false (.trips a0_1), .rbox [.v (.int .i64 a0_0), .sl 0], .row true (.trips y_2), .row true (.trips y_4), .box [.v (.int .i64 y_3), .sl 3], .row true (.trips y_6), .box [.v (.int .i64 y_5), .sl 5]] ?_ ?_
        · clear h
          intro K hK
          refine awp_region ftCOk ?_
          simp (maxSteps := 4000000) only [go_sem, Nat.reduceBEq, Nat.reduceLT, Nat.reduceAdd, Nat.reduceLeDiff, Nat.reduceSub, Nat.reduceEqDiff, Int.reduceToNat, reduceCtorEq, ↓reduceIte]
          repeat' (first | refine And.intro ?_ ?_ | intro hg)
          all_goals (try simp (disch := omega) only [wrap_fits])
          all_goals first
            | (refine hK _ _ ?_; exact Red.auto)
            | exact trivial
            | assumption
            | omega
            | exact wrap_fits (by omega) (by omega)
            | (refine wpA_callA (k_laws_toGraph a0_0 a0_1 (h := hr0)) [0] [] ?_
               rintro x Hc' ⟨rfl, rfl⟩ hlen
               refine vcOps_sound ftCOk ?_
               simp (maxSteps := 4000000) only [go_sem, Nat.reduceBEq, Nat.reduceLT, Nat.reduceAdd, Nat.reduceLeDiff, Nat.reduceSub, Nat.reduceEqDiff, Int.reduceToNat, reduceCtorEq, ↓reduceIte]
               repeat' (first | refine And.intro ?_ ?_ | intro hg)
               all_goals (try simp (disch := omega) only [wrap_fits])
               all_goals first
                 | (refine hK _ _ ?_; exact Red.auto)
                 | exact trivial
                 | assumption
                 | omega
                 | exact wrap_fits (by omega) (by omega)
                 | (simp_all; done)
                 | (simp_all; omega))
            | (simp_all; done)
            | (simp_all; omega)
        · clear hr0
          replace h := bind_some h
          obtain ⟨⟨y_7, y_8⟩, hr0, h⟩ := h
          try dsimp only at h
          refine awp_to [(1, .pp 1 0), (4, .pp 4 0), (5, .pp 6 0), (6, .pp 8 0)] [.row false (.trips a0_1), .rbox [.v (.int .i64 a0_0), .sl 0], .row true (.trips y_2), .row true (.trips y_4), .box [.v (.int .i64 y_3), .sl 3], .row true (.trips y_6), .box [.v (.int .i64 y_5), .sl 5], .row true (.trips y_8), .box [.v (.int .i64 y_7), .sl 7]] ?_ ?_
          · clear h
            intro K hK
            refine awp_region ftCOk ?_
            simp (maxSteps := 4000000) only [go_sem, Nat.reduceBEq, Nat.reduceLT, Nat.reduceAdd, Nat.reduceLeDiff, Nat.reduceSub, Nat.reduceEqDiff, Int.reduceToNat, reduceCtorEq, ↓reduceIte]
            repeat' (first | refine And.intro ?_ ?_ | intro hg)
            all_goals (try simp (disch := omega) only [wrap_fits])
            all_goals first
              | (refine hK _ _ ?_; exact Red.auto)
              | exact trivial
              | assumption
              | omega
              | exact wrap_fits (by omega) (by omega)
              | (refine wpA_callA (k_impl_TurnGraph y_5 y_6 (h := hr0)) [5] [] ?_
                 rintro x Hc' ⟨rfl, rfl⟩ hlen
                 refine vcOps_sound ftCOk ?_
                 simp (maxSteps := 4000000) only [go_sem, Nat.reduceBEq, Nat.reduceLT, Nat.reduceAdd, Nat.reduceLeDiff, Nat.reduceSub, Nat.reduceEqDiff, Int.reduceToNat, reduceCtorEq, ↓reduceIte]
                 repeat' (first | refine And.intro ?_ ?_ | intro hg)
                 all_goals (try simp (disch := omega) only [wrap_fits])
                 all_goals first
                   | (refine hK _ _ ?_; exact Red.auto)
                   | exact trivial
                   | assumption
                   | omega
                   | exact wrap_fits (by omega) (by omega)
                   | (simp_all; done)
                   | (simp_all; omega))
              | (simp_all; done)
              | (simp_all; omega)
          · clear hr0
            refine awp_seq fun K5 hK5 => ?_
            replace h := bind_some h
            obtain ⟨y_9, hr0, h⟩ := h
            try dsimp only at h
            refine awp_to [(1, .pp 1 0), (4, .pp 4 0), (5, .pp 6 0), (6, .pp 8 0), (26, .v (.bool (!y_9)))] [.row false (.trips a0_1), .rbox [.v (.int .i64 a0_0), .sl 0], .row true (.trips y_2), .row true (.trips y_4), .box [.v (.int .i64 y_3), .sl 3], .row true (.trips y_6), .box [.v (.int .i64 y_5), .sl 5], .row true (.trips y_8), .box [.v (.int .i64 y_7), .sl 7]] ?_ ?_
            · clear h
              intro K hK
              refine awp_region ftCOk ?_
              simp (maxSteps := 4000000) only [go_sem, Nat.reduceBEq, Nat.reduceLT, Nat.reduceAdd, Nat.reduceLeDiff, Nat.reduceSub, Nat.reduceEqDiff, Int.reduceToNat, reduceCtorEq, ↓reduceIte]
              repeat' (first | refine And.intro ?_ ?_ | intro hg)
              all_goals (try simp (disch := omega) only [wrap_fits])
              all_goals first
                | (refine hK _ _ ?_; exact Red.auto)
                | exact trivial
                | assumption
                | omega
                | exact wrap_fits (by omega) (by omega)
                | (refine wpA_callA (k_laws_eqGraph y_7 y_8 y_3 y_4 (h := hr0)) [7, 3] [] ?_
                   rintro x Hc' ⟨rfl, rfl⟩ hlen
                   refine vcOps_sound ftCOk ?_
                   simp (maxSteps := 4000000) only [go_sem, Nat.reduceBEq, Nat.reduceLT, Nat.reduceAdd, Nat.reduceLeDiff, Nat.reduceSub, Nat.reduceEqDiff, Int.reduceToNat, reduceCtorEq, ↓reduceIte]
                   repeat' (first | refine And.intro ?_ ?_ | intro hg)
                   all_goals (try simp (disch := omega) only [wrap_fits])
                   all_goals first
                     | (refine hK _ _ ?_; exact Red.auto)
                     | exact trivial
                     | assumption
                     | omega
                     | exact wrap_fits (by omega) (by omega)
                     | (simp_all; done)
                     | (simp_all; omega))
                | (simp_all; done)
                | (simp_all; omega)
            · clear hr0
              refine awp_cond (t := 26) rfl (fun hc6 => ?_) (fun hc6 => ?_)
              · replace h := bite_t h hc6
                refine awp_reg ftCOk [(2, .v (.bool false))] [.row false (.trips a0_1), .rbox [.v (.int .i64 a0_0), .sl 0], .row true (.trips y_2), .row true (.trips y_4), .box [.v (.int .i64 y_3), .sl 3], .row true (.trips y_6), .box [.v (.int .i64 y_5), .sl 5], .row true (.trips y_8), .box [.v (.int .i64 y_7), .sl 7]] ?_
                refine awp_ret ?_
                (try simp only [Thn, InBlk, ↓reduceIte, Nat.reduceEqDiff])
                obtain rfl := Option.some.inj h
                refine ⟨by simp, _, [0], (by simp only [go_sem, Nat.reduceBEq, Nat.reduceLT, Nat.reduceAdd, Nat.reduceLeDiff, Nat.reduceSub, Nat.reduceEqDiff, Int.reduceToNat, reduceCtorEq, ↓reduceIte]; exact rfl), ?_, ?_, ?_, ?_⟩
                · first | exact trivial | exact ⟨trivial, trivial⟩ | exact ⟨trivial, trivial, trivial⟩ | exact ⟨trivial, trivial, trivial, trivial⟩ | (simp only [allP, and_true, true_and]; done) | (simp only [allP, and_true, true_and]; omega)
                · simp [selOk, pos]
                · simp
                · first | exact ⟨rfl, rfl⟩ | (simp only [go_sem, Nat.reduceBEq, Nat.reduceLT, Nat.reduceAdd, Nat.reduceLeDiff, Nat.reduceSub, Nat.reduceEqDiff, Int.reduceToNat, reduceCtorEq, ↓reduceIte]; done) | (simp [go_sem, Nat.reduceBEq, Nat.reduceLT, Nat.reduceAdd, Nat.reduceLeDiff, Nat.reduceSub, Nat.reduceEqDiff, Int.reduceToNat, reduceCtorEq, ↓reduceIte]; done) | (simp only [go_sem, Nat.reduceBEq, Nat.reduceLT, Nat.reduceAdd, Nat.reduceLeDiff, Nat.reduceSub, Nat.reduceEqDiff, Int.reduceToNat, reduceCtorEq, ↓reduceIte]; exact ⟨rfl, rfl⟩) | (simp_all [go_sem, Nat.reduceBEq, Nat.reduceLT, Nat.reduceAdd, Nat.reduceLeDiff, Nat.reduceSub, Nat.reduceEqDiff, Int.reduceToNat, reduceCtorEq, ↓reduceIte]; done)
              · replace h := bite_f h hc6
                refine awp_skip ?_
                (try simp only [Thn, InBlk, ↓reduceIte, Nat.reduceEqDiff])
                refine hK5 _ _ ?_
                clear hK5
                refine awp_seq fun K8 hK8 => ?_
                replace h := bind_some h
                obtain ⟨⟨y_10, y_11⟩, hr0, h⟩ := h
                try dsimp only at h
                replace h := bind_some h
                obtain ⟨y_12, hr1, h⟩ := h
                try dsimp only at h
                refine awp_to [(1, .pp 1 0), (4, .pp 4 0), (5, .pp 6 0), (6, .pp 8 0), (31, .v (.bool (!y_12)))] [.row false (.trips a0_1), .rbox [.v (.int .i64 a0_0), .sl 0], .row true (.trips y_2), .row true (.trips y_4), .box [.v (.int .i64 y_3), .sl 3], .row true (.trips y_6), .box [.v (.int .i64 y_5), .sl 5], .row true (.trips y_8), .box [.v (.int .i64 y_7), .sl 7], .row true (.trips y_11)] ?_ ?_
                · clear h
                  intro K hK
                  refine awp_drawT mixed ftCOk (.free 1 (.two 0 2 (.one 2 (.one 3 (.one 4 .fin))) (.one 0 (.one 3 (.one 4 .fin))))) (by kernel_rfl) (by simp) ?_
                  simp (maxSteps := 4000000) only [go_sem, Nat.reduceBEq, Nat.reduceLT, Nat.reduceAdd, Nat.reduceLeDiff, Nat.reduceSub, Nat.reduceEqDiff, Int.reduceToNat, reduceCtorEq, ↓reduceIte]
                  repeat' (first | refine And.intro ?_ ?_ | intro hg)
                  all_goals (try simp (disch := omega) only [wrap_fits])
                  all_goals first
                    | (refine hK _ _ ?_; exact Red.auto)
                    | exact trivial
                    | assumption
                    | omega
                    | exact wrap_fits (by omega) (by omega)
                    | (refine OpK_callA (k_laws_toGraph a0_0 a0_1 (h := hr0)) [0] [] ?_
                       rintro x Hc' ⟨rfl, rfl⟩ hlen
                       simp (maxSteps := 4000000) only [go_sem, Nat.reduceBEq, Nat.reduceLT, Nat.reduceAdd, Nat.reduceLeDiff, Nat.reduceSub, Nat.reduceEqDiff, Int.reduceToNat, reduceCtorEq, ↓reduceIte]
                       repeat' (first | refine And.intro ?_ ?_ | intro hg)
                       all_goals (try simp (disch := omega) only [wrap_fits])
                       all_goals first
                         | (refine hK _ _ ?_; exact Red.auto)
                         | exact trivial
                         | assumption
                         | omega
                         | exact wrap_fits (by omega) (by omega)
                         | (refine OpK_callA (k_laws_eqGraph y_5 y_6 y_10 y_11 (h := hr1)) [5, 9] [] ?_
                            rintro x Hc' ⟨rfl, rfl⟩ hlen
                            simp (maxSteps := 4000000) only [go_sem, Nat.reduceBEq, Nat.reduceLT, Nat.reduceAdd, Nat.reduceLeDiff, Nat.reduceSub, Nat.reduceEqDiff, Int.reduceToNat, reduceCtorEq, ↓reduceIte]
                            repeat' (first | refine And.intro ?_ ?_ | intro hg)
                            all_goals (try simp (disch := omega) only [wrap_fits])
                            all_goals first
                              | (refine hK _ _ ?_; exact Red.auto)
                              | exact trivial
                              | assumption
                              | omega
                              | exact wrap_fits (by omega) (by omega)
                              | (simp (maxSteps := 4000000) only [go_sem, Nat.reduceBEq, Nat.reduceLT, Nat.reduceAdd, Nat.reduceLeDiff, Nat.reduceSub, Nat.reduceEqDiff, Int.reduceToNat, reduceCtorEq, ↓reduceIte]
                                 repeat' (first | refine And.intro ?_ ?_ | intro hg)
                                 all_goals (try simp (disch := omega) only [wrap_fits])
                                 all_goals first | (refine hK _ _ ?_; exact Red.auto) | exact trivial | assumption | omega | exact wrap_fits (by omega) (by omega))
                              | (simp_all; done)
                              | (simp_all; omega))
                         | (simp_all; done)
                         | (simp_all; omega))
                    | (simp_all; done)
                    | (simp_all; omega)
                · clear hr0 hr1
                  refine awp_cond (t := 31) rfl (fun hc9 => ?_) (fun hc9 => ?_)
                  · replace h := bite_t h hc9
                    refine awp_reg ftCOk [(2, .v (.bool false))] [.row false (.trips a0_1), .rbox [.v (.int .i64 a0_0), .sl 0], .row true (.trips y_2), .row true (.trips y_4), .box [.v (.int .i64 y_3), .sl 3], .row true (.trips y_6), .box [.v (.int .i64 y_5), .sl 5], .row true (.trips y_8), .box [.v (.int .i64 y_7), .sl 7], .row true (.trips y_11)] ?_
                    refine awp_ret ?_
                    (try simp only [Thn, InBlk, ↓reduceIte, Nat.reduceEqDiff])
                    obtain rfl := Option.some.inj h
                    refine ⟨by simp, _, [0], (by simp only [go_sem, Nat.reduceBEq, Nat.reduceLT, Nat.reduceAdd, Nat.reduceLeDiff, Nat.reduceSub, Nat.reduceEqDiff, Int.reduceToNat, reduceCtorEq, ↓reduceIte]; exact rfl), ?_, ?_, ?_, ?_⟩
                    · first | exact trivial | exact ⟨trivial, trivial⟩ | exact ⟨trivial, trivial, trivial⟩ | exact ⟨trivial, trivial, trivial, trivial⟩ | (simp only [allP, and_true, true_and]; done) | (simp only [allP, and_true, true_and]; omega)
                    · simp [selOk, pos]
                    · simp
                    · first | exact ⟨rfl, rfl⟩ | (simp only [go_sem, Nat.reduceBEq, Nat.reduceLT, Nat.reduceAdd, Nat.reduceLeDiff, Nat.reduceSub, Nat.reduceEqDiff, Int.reduceToNat, reduceCtorEq, ↓reduceIte]; done) | (simp [go_sem, Nat.reduceBEq, Nat.reduceLT, Nat.reduceAdd, Nat.reduceLeDiff, Nat.reduceSub, Nat.reduceEqDiff, Int.reduceToNat, reduceCtorEq, ↓reduceIte]; done) | (simp only [go_sem, Nat.reduceBEq, Nat.reduceLT, Nat.reduceAdd, Nat.reduceLeDiff, Nat.reduceSub, Nat.reduceEqDiff, Int.reduceToNat, reduceCtorEq, ↓reduceIte]; exact ⟨rfl, rfl⟩) | (simp_all [go_sem, Nat.reduceBEq, Nat.reduceLT, Nat.reduceAdd, Nat.reduceLeDiff, Nat.reduceSub, Nat.reduceEqDiff, Int.reduceToNat, reduceCtorEq, ↓reduceIte]; done)
                  · replace h := bite_f h hc9
                    refine awp_skip ?_
                    (try simp only [Thn, InBlk, ↓reduceIte, Nat.reduceEqDiff])
                    refine hK8 _ _ ?_
                    clear hK8
                    refine awp_reg ftCOk [(1, .pp 1 0), (4, .pp 4 0), (5, .pp 6 0), (6, .pp 8 0), (7, .v (.int .i64 1))] [.row false (.trips a0_1), .rbox [.v (.int .i64 a0_0), .sl 0], .row true (.trips y_2), .row true (.trips y_4), .box [.v (.int .i64 y_3), .sl 3], .row true (.trips y_6), .box [.v (.int .i64 y_5), .sl 5], .row true (.trips y_8), .box [.v (.int .i64 y_7), .sl 7], .row true (.trips y_11)] ?_
                    replace h := bind_some h
                    obtain ⟨⟨y_13, y_14⟩, hr0, h⟩ := h
                    try dsimp only at h
                    refine awp_to [(1, .pp 1 0), (4, .pp 4 0), (6, .pp 8 0), (7, .v (.int .i64 y_13))] [.row false (.trips a0_1), .rbox [.v (.int .i64 a0_0), .sl 0], .row true (.trips y_2), .row true (.trips y_4), .box [.v (.int .i64 y_3), .sl 3], .row true (.trips y_14), .box [.v (.int .i64 y_5), .sl 5], .row true (.trips y_8), .box [.v (.int .i64 y_7), .sl 7], .row true (.trips y_11)] ?_ ?_
                    · clear h
                      intro K hK
                      refine awp_region ftCOk ?_
                      simp (maxSteps := 4000000) only [go_sem, Nat.reduceBEq, Nat.reduceLT, Nat.reduceAdd, Nat.reduceLeDiff, Nat.reduceSub, Nat.reduceEqDiff, Int.reduceToNat, reduceCtorEq, ↓reduceIte]
                      repeat' (first | refine And.intro ?_ ?_ | intro hg)
                      all_goals (try simp (disch := omega) only [wrap_fits])
                      all_goals first
                        | (refine hK _ _ ?_; exact Red.auto)
                        | exact trivial
                        | assumption
                        | omega
                        | exact wrap_fits (by omega) (by omega)
                        | (refine wpA_callA (k_laws_markGraph y_5 y_6 1 (h := hr0)) [5] [] ?_
                           rintro x Hc' ⟨rfl, rfl⟩ hlen
                           refine vcOps_sound ftCOk ?_
                           simp (maxSteps := 4000000) only [go_sem, Nat.reduceBEq, Nat.reduceLT, Nat.reduceAdd, Nat.reduceLeDiff, Nat.reduceSub, Nat.reduceEqDiff, Int.reduceToNat, reduceCtorEq, ↓reduceIte]
                           repeat' (first | refine And.intro ?_ ?_ | intro hg)
                           all_goals (try simp (disch := omega) only [wrap_fits])
                           all_goals first
                             | (refine hK _ _ ?_; exact Red.auto)
                             | exact trivial
                             | assumption
                             | omega
                             | exact wrap_fits (by omega) (by omega)
                             | (simp_all; done)
                             | (simp_all; omega))
                        | (simp_all; done)
                        | (simp_all; omega)
                    · clear hr0
                      refine awp_seq fun K11 hK11 => ?_
                      replace h := bind_some h
                      obtain ⟨y_15, hr0, h⟩ := h
                      try dsimp only at h
                      refine awp_to [(1, .pp 1 0), (4, .pp 4 0), (6, .pp 8 0), (42, .v (.bool ((decide (y_13 < 0)) || (!y_15))))] [.row false (.trips a0_1), .rbox [.v (.int .i64 a0_0), .sl 0], .row true (.trips y_2), .row true (.trips y_4), .box [.v (.int .i64 y_3), .sl 3], .row true (.trips y_14), .box [.v (.int .i64 y_5), .sl 5], .row true (.trips y_8), .box [.v (.int .i64 y_7), .sl 7], .row true (.trips y_11)] ?_ ?_
                      · clear h
                        intro K hK
                        refine awp_region ftCOk ?_
                        simp (maxSteps := 4000000) only [go_sem, Nat.reduceBEq, Nat.reduceLT, Nat.reduceAdd, Nat.reduceLeDiff, Nat.reduceSub, Nat.reduceEqDiff, Int.reduceToNat, reduceCtorEq, ↓reduceIte]
                        repeat' (first | refine And.intro ?_ ?_ | intro hg)
                        all_goals (try simp (disch := omega) only [wrap_fits])
                        all_goals first
                          | (refine hK _ _ ?_; exact Red.auto)
                          | exact trivial
                          | assumption
                          | omega
                          | exact wrap_fits (by omega) (by omega)
                          | (refine wpA_guard rfl rfl ?_
                             refine wpA_callA (k_laws_eqGraph y_7 y_8 y_3 y_4 (h := (bite_t hr0 (by rw [Bool.not_eq_true']; exact (by first | assumption | (simp only [*, Bool.false_or, Bool.true_or, Bool.or_false, Bool.or_true, Bool.false_and, Bool.true_and, Bool.and_false, Bool.and_true, Bool.not_true, Bool.not_false, beq_self_eq_true]; done) | (simp_all; done)))))) [7, 3] [] ?_
                             rintro x Hc' ⟨rfl, rfl⟩ hlen
                             refine vcOps_sound ftCOk ?_
                             simp (maxSteps := 4000000) only [go_sem, Nat.reduceBEq, Nat.reduceLT, Nat.reduceAdd, Nat.reduceLeDiff, Nat.reduceSub, Nat.reduceEqDiff, Int.reduceToNat, reduceCtorEq, ↓reduceIte]
                             repeat' (first | refine And.intro ?_ ?_ | intro hg)
                             all_goals (try simp (disch := omega) only [wrap_fits])
                             all_goals first
                               | (refine hK _ _ ?_; exact Red.auto)
                               | exact trivial
                               | assumption
                               | omega
                               | exact wrap_fits (by omega) (by omega)
                               | (simp_all; done)
                               | (simp_all; omega))
                          | (simp_all; done)
                          | (simp_all; omega)
                      · clear hr0
                        refine awp_cond (t := 42) rfl (fun hc12 => ?_) (fun hc12 => ?_)
                        · replace h := bite_t h hc12
                          refine awp_reg ftCOk [(2, .v (.bool false))] [.row false (.trips a0_1), .rbox [.v (.int .i64 a0_0), .sl 0], .row true (.trips y_2), .row true (.trips y_4), .box [.v (.int .i64 y_3), .sl 3], .row true (.trips y_14), .box [.v (.int .i64 y_5), .sl 5], .row true (.trips y_8), .box [.v (.int .i64 y_7), .sl 7], .row true (.trips y_11)] ?_
                          refine awp_ret ?_
                          (try simp only [Thn, InBlk, ↓reduceIte, Nat.reduceEqDiff])
                          obtain rfl := Option.some.inj h
                          refine ⟨by simp, _, [0], (by simp only [go_sem, Nat.reduceBEq, Nat.reduceLT, Nat.reduceAdd, Nat.reduceLeDiff, Nat.reduceSub, Nat.reduceEqDiff, Int.reduceToNat, reduceCtorEq, ↓reduceIte]; exact rfl), ?_, ?_, ?_, ?_⟩
                          · first | exact trivial | exact ⟨trivial, trivial⟩ | exact ⟨trivial, trivial, trivial⟩ | exact ⟨trivial, trivial, trivial, trivial⟩ | (simp only [allP, and_true, true_and]; done) | (simp only [allP, and_true, true_and]; omega)
                          · simp [selOk, pos]
                          · simp
                          · first | exact ⟨rfl, rfl⟩ | (simp only [go_sem, Nat.reduceBEq, Nat.reduceLT, Nat.reduceAdd, Nat.reduceLeDiff, Nat.reduceSub, Nat.reduceEqDiff, Int.reduceToNat, reduceCtorEq, ↓reduceIte]; done) | (simp [go_sem, Nat.reduceBEq, Nat.reduceLT, Nat.reduceAdd, Nat.reduceLeDiff, Nat.reduceSub, Nat.reduceEqDiff, Int.reduceToNat, reduceCtorEq, ↓reduceIte]; done) | (simp only [go_sem, Nat.reduceBEq, Nat.reduceLT, Nat.reduceAdd, Nat.reduceLeDiff, Nat.reduceSub, Nat.reduceEqDiff, Int.reduceToNat, reduceCtorEq, ↓reduceIte]; exact ⟨rfl, rfl⟩) | (simp_all [go_sem, Nat.reduceBEq, Nat.reduceLT, Nat.reduceAdd, Nat.reduceLeDiff, Nat.reduceSub, Nat.reduceEqDiff, Int.reduceToNat, reduceCtorEq, ↓reduceIte]; done)
                        · replace h := bite_f h hc12
                          refine awp_skip ?_
                          (try simp only [Thn, InBlk, ↓reduceIte, Nat.reduceEqDiff])
                          refine hK11 _ _ ?_
                          clear hK11
                          refine awp_reg ftCOk [(1, .pp 1 0), (4, .pp 4 0), (6, .pp 8 0), (8, .v (.int .i64 1))] [.row false (.trips a0_1), .rbox [.v (.int .i64 a0_0), .sl 0], .row true (.trips y_2), .row true (.trips y_4), .box [.v (.int .i64 y_3), .sl 3], .row true (.trips y_14), .box [.v (.int .i64 y_5), .sl 5], .row true (.trips y_8), .box [.v (.int .i64 y_7), .sl 7], .row true (.trips y_11)] ?_
                          replace h := bind_some h
                          obtain ⟨⟨y_16, y_17⟩, hr0, h⟩ := h
                          try dsimp only at h
                          refine awp_to [(1, .pp 1 0), (4, .pp 4 0), (6, .pp 8 0), (8, .v (.int .i64 y_16))] [.row false (.trips a0_1), .rbox [.v (.int .i64 a0_0), .sl 0], .row true (.trips y_2), .row true (.trips y_4), .box [.v (.int .i64 y_3), .sl 3], .row true (.trips y_14), .box [.v (.int .i64 y_5), .sl 5], .row true (.trips y_17), .box [.v (.int .i64 y_7), .sl 7], .row true (.trips y_11)] ?_ ?_
                          · clear h
                            intro K hK
                            refine awp_region ftCOk ?_
                            simp (maxSteps := 4000000) only [go_sem, Nat.reduceBEq, Nat.reduceLT, Nat.reduceAdd, Nat.reduceLeDiff, Nat.reduceSub, Nat.reduceEqDiff, Int.reduceToNat, reduceCtorEq, ↓reduceIte]
                            repeat' (first | refine And.intro ?_ ?_ | intro hg)
                            all_goals (try simp (disch := omega) only [wrap_fits])
                            all_goals first
                              | (refine hK _ _ ?_; exact Red.auto)
                              | exact trivial
                              | assumption
                              | omega
                              | exact wrap_fits (by omega) (by omega)
                              | (refine wpA_callA (k_laws_markGraph y_7 y_8 1 (h := hr0)) [7] [] ?_
                                 rintro x Hc' ⟨rfl, rfl⟩ hlen
                                 refine vcOps_sound ftCOk ?_
                                 simp (maxSteps := 4000000) only [go_sem, Nat.reduceBEq, Nat.reduceLT, Nat.reduceAdd, Nat.reduceLeDiff, Nat.reduceSub, Nat.reduceEqDiff, Int.reduceToNat, reduceCtorEq, ↓reduceIte]
                                 repeat' (first | refine And.intro ?_ ?_ | intro hg)
                                 all_goals (try simp (disch := omega) only [wrap_fits])
                                 all_goals first
                                   | (refine hK _ _ ?_; exact Red.auto)
                                   | exact trivial
                                   | assumption
                                   | omega
                                   | exact wrap_fits (by omega) (by omega)
                                   | (simp_all; done)
                                   | (simp_all; omega))
                              | (simp_all; done)
                              | (simp_all; omega)
                          · clear hr0
                            refine awp_reg ftCOk [(1, .pp 1 0), (4, .pp 4 0), (6, .pp 8 0), (8, .v (.int .i64 y_16)), (9, .v (.int .i64 1))] [.row false (.trips a0_1), .rbox [.v (.int .i64 a0_0), .sl 0], .row true (.trips y_2), .row true (.trips y_4), .box [.v (.int .i64 y_3), .sl 3], .row true (.trips y_14), .box [.v (.int .i64 y_5), .sl 5], .row true (.trips y_17), .box [.v (.int .i64 y_7), .sl 7], .row true (.trips y_11)] ?_
                            replace h := bind_some h
                            obtain ⟨y_18, hr0, h⟩ := h
                            try dsimp only at h
                            refine awp_to [(1, .pp 1 0), (4, .pp 4 0), (6, .pp 8 0), (8, .v (.int .i64 y_16)), (9, .v (.int .i64 y_18))] [.row false (.trips a0_1), .rbox [.v (.int .i64 a0_0), .sl 0], .row true (.trips y_2), .row true (.trips y_4), .box [.v (.int .i64 y_3), .sl 3], .row true (.trips y_14), .box [.v (.int .i64 y_5), .sl 5], .row true (.trips y_17), .box [.v (.int .i64 y_7), .sl 7], .row true (.trips y_11)] ?_ ?_
                            · clear h
                              intro K hK
                              refine awp_region ftCOk ?_
                              simp (maxSteps := 4000000) only [go_sem, Nat.reduceBEq, Nat.reduceLT, Nat.reduceAdd, Nat.reduceLeDiff, Nat.reduceSub, Nat.reduceEqDiff, Int.reduceToNat, reduceCtorEq, ↓reduceIte]
                              repeat' (first | refine And.intro ?_ ?_ | intro hg)
                              all_goals (try simp (disch := omega) only [wrap_fits])
                              all_goals first
                                | (refine hK _ _ ?_; exact Red.auto)
                                | exact trivial
                                | assumption
                                | omega
                                | exact wrap_fits (by omega) (by omega)
                                | (refine wpA_callA (k_laws_heldGraph y_7 y_17 1 (h := hr0)) [7] [] ?_
                                   rintro x Hc' ⟨rfl, rfl⟩ hlen
                                   refine vcOps_sound ftCOk ?_
                                   simp (maxSteps := 4000000) only [go_sem, Nat.reduceBEq, Nat.reduceLT, Nat.reduceAdd, Nat.reduceLeDiff, Nat.reduceSub, Nat.reduceEqDiff, Int.reduceToNat, reduceCtorEq, ↓reduceIte]
                                   repeat' (first | refine And.intro ?_ ?_ | intro hg)
                                   all_goals (try simp (disch := omega) only [wrap_fits])
                                   all_goals first
                                     | (refine hK _ _ ?_; exact Red.auto)
                                     | exact trivial
                                     | assumption
                                     | omega
                                     | exact wrap_fits (by omega) (by omega)
                                     | (simp_all; done)
                                     | (simp_all; omega))
                                | (simp_all; done)
                                | (simp_all; omega)
                            · clear hr0
                              refine awp_seq fun K14 hK14 => ?_
                              refine awp_reg ftCOk [(1, .pp 1 0), (4, .pp 4 0), (6, .pp 8 0), (8, .v (.int .i64 y_16)), (9, .v (.int .i64 y_18)), (50, .v (.bool (decide (y_18 < 0))))] [.row false (.trips a0_1), .rbox [.v (.int .i64 a0_0), .sl 0], .row true (.trips y_2), .row true (.trips y_4), .box [.v (.int .i64 y_3), .sl 3], .row true (.trips y_14), .box [.v (.int .i64 y_5), .sl 5], .row true (.trips y_17), .box [.v (.int .i64 y_7), .sl 7], .row true (.trips y_11)] ?_
                              refine awp_cond (t := 50) rfl (fun hc15 => ?_) (fun hc15 => ?_)
                              · replace h := bite_t h hc15
                                refine awp_reg ftCOk [(2, .v (.bool false))] [.row false (.trips a0_1), .rbox [.v (.int .i64 a0_0), .sl 0], .row true (.trips y_2), .row true (.trips y_4), .box [.v (.int .i64 y_3), .sl 3], .row true (.trips y_14), .box [.v (.int .i64 y_5), .sl 5], .row true (.trips y_17), .box [.v (.int .i64 y_7), .sl 7], .row true (.trips y_11)] ?_
                                refine awp_ret ?_
                                (try simp only [Thn, InBlk, ↓reduceIte, Nat.reduceEqDiff])
                                obtain rfl := Option.some.inj h
                                refine ⟨by simp, _, [0], (by simp only [go_sem, Nat.reduceBEq, Nat.reduceLT, Nat.reduceAdd, Nat.reduceLeDiff, Nat.reduceSub, Nat.reduceEqDiff, Int.reduceToNat, reduceCtorEq, ↓reduceIte]; exact rfl), ?_, ?_, ?_, ?_⟩
                                · first | exact trivial | exact ⟨trivial, trivial⟩ | exact ⟨trivial, trivial, trivial⟩ | exact ⟨trivial, trivial, trivial, trivial⟩ | (simp only [allP, and_true, true_and]; done) | (simp only [allP, and_true, true_and]; omega)
                                · simp [selOk, pos]
                                · simp
                                · first | exact ⟨rfl, rfl⟩ | (simp only [go_sem, Nat.reduceBEq, Nat.reduceLT, Nat.reduceAdd, Nat.reduceLeDiff, Nat.reduceSub, Nat.reduceEqDiff, Int.reduceToNat, reduceCtorEq, ↓reduceIte]; done) | (simp [go_sem, Nat.reduceBEq, Nat.reduceLT, Nat.reduceAdd, Nat.reduceLeDiff, Nat.reduceSub, Nat.reduceEqDiff, Int.reduceToNat, reduceCtorEq, ↓reduceIte]; done) | (simp only [go_sem, Nat.reduceBEq, Nat.reduceLT, Nat.reduceAdd, Nat.reduceLeDiff, Nat.reduceSub, Nat.reduceEqDiff, Int.reduceToNat, reduceCtorEq, ↓reduceIte]; exact ⟨rfl, rfl⟩) | (simp_all [go_sem, Nat.reduceBEq, Nat.reduceLT, Nat.reduceAdd, Nat.reduceLeDiff, Nat.reduceSub, Nat.reduceEqDiff, Int.reduceToNat, reduceCtorEq, ↓reduceIte]; done)
                              · replace h := bite_f h hc15
                                refine awp_skip ?_
                                (try simp only [Thn, InBlk, ↓reduceIte, Nat.reduceEqDiff])
                                refine hK14 _ _ ?_
                                clear hK14
                                refine awp_seq fun K17 hK17 => ?_
                                refine awp_reg ftCOk [(1, .pp 1 0), (4, .pp 4 0), (6, .pp 8 0), (8, .v (.int .i64 y_16)), (53, .v (.bool (y_18 != y_16)))] [.row false (.trips a0_1), .rbox [.v (.int .i64 a0_0), .sl 0], .row true (.trips y_2), .row true (.trips y_4), .box [.v (.int .i64 y_3), .sl 3], .row true (.trips y_14), .box [.v (.int .i64 y_5), .sl 5], .row true (.trips y_17), .box [.v (.int .i64 y_7), .sl 7], .row true (.trips y_11)] ?_
                                refine awp_cond (t := 53) rfl (fun hc18 => ?_) (fun hc18 => ?_)
                                · replace h := bite_t h hc18
                                  refine awp_reg ftCOk [(2, .v (.bool false))] [.row false (.trips a0_1), .rbox [.v (.int .i64 a0_0), .sl 0], .row true (.trips y_2), .row true (.trips y_4), .box [.v (.int .i64 y_3), .sl 3], .row true (.trips y_14), .box [.v (.int .i64 y_5), .sl 5], .row true (.trips y_17), .box [.v (.int .i64 y_7), .sl 7], .row true (.trips y_11)] ?_
                                  refine awp_ret ?_
                                  (try simp only [Thn, InBlk, ↓reduceIte, Nat.reduceEqDiff])
                                  obtain rfl := Option.some.inj h
                                  refine ⟨by simp, _, [0], (by simp only [go_sem, Nat.reduceBEq, Nat.reduceLT, Nat.reduceAdd, Nat.reduceLeDiff, Nat.reduceSub, Nat.reduceEqDiff, Int.reduceToNat, reduceCtorEq, ↓reduceIte]; exact rfl), ?_, ?_, ?_, ?_⟩
                                  · first | exact trivial | exact ⟨trivial, trivial⟩ | exact ⟨trivial, trivial, trivial⟩ | exact ⟨trivial, trivial, trivial, trivial⟩ | (simp only [allP, and_true, true_and]; done) | (simp only [allP, and_true, true_and]; omega)
                                  · simp [selOk, pos]
                                  · simp
                                  · first | exact ⟨rfl, rfl⟩ | (simp only [go_sem, Nat.reduceBEq, Nat.reduceLT, Nat.reduceAdd, Nat.reduceLeDiff, Nat.reduceSub, Nat.reduceEqDiff, Int.reduceToNat, reduceCtorEq, ↓reduceIte]; done) | (simp [go_sem, Nat.reduceBEq, Nat.reduceLT, Nat.reduceAdd, Nat.reduceLeDiff, Nat.reduceSub, Nat.reduceEqDiff, Int.reduceToNat, reduceCtorEq, ↓reduceIte]; done) | (simp only [go_sem, Nat.reduceBEq, Nat.reduceLT, Nat.reduceAdd, Nat.reduceLeDiff, Nat.reduceSub, Nat.reduceEqDiff, Int.reduceToNat, reduceCtorEq, ↓reduceIte]; exact ⟨rfl, rfl⟩) | (simp_all [go_sem, Nat.reduceBEq, Nat.reduceLT, Nat.reduceAdd, Nat.reduceLeDiff, Nat.reduceSub, Nat.reduceEqDiff, Int.reduceToNat, reduceCtorEq, ↓reduceIte]; done)
                                · replace h := bite_f h hc18
                                  refine awp_skip ?_
                                  (try simp only [Thn, InBlk, ↓reduceIte, Nat.reduceEqDiff])
                                  refine hK17 _ _ ?_
                                  clear hK17
                                  replace h := bind_some h
                                  obtain ⟨⟨y_19, y_20⟩, hr0, h⟩ := h
                                  try dsimp only at h
                                  replace h := bind_some h
                                  obtain ⟨⟨y_21, y_22⟩, hr1, h⟩ := h
                                  try dsimp only at h
                                  refine awp_to [(4, .pp 4 0), (6, .pp 8 0), (8, .v (.int .i64 y_16)), (10, .pp 12 0)] [.row false (.trips a0_1), .rbox [.v (.int .i64 a0_0), .sl 0], .row true (.trips y_2), .row true (.trips y_4), .box [.v (.int .i64 y_3), .sl 3], .row true (.trips y_14), .box [.v (.int .i64 y_5), .sl 5], .row true (.trips y_17), .box [.v (.int .i64 y_7), .sl 7], .row true (.trips y_11), .row true (.trips y_20), .row true (.trips y_22), .box [.v (.int .i64 y_21), .sl 11]] ?_ ?_
                                  · clear h
                                    intro K hK
                                    refine awp_region ftCOk ?_
                                    simp (maxSteps := 4000000) only [go_sem, Nat.reduceBEq, Nat.reduceLT, Nat.reduceAdd, Nat.reduceLeDiff, Nat.reduceSub, Nat.reduceEqDiff, Int.reduceToNat, reduceCtorEq, ↓reduceIte]
                                    repeat' (first | refine And.intro ?_ ?_ | intro hg)
                                    all_goals (try simp (disch := omega) only [wrap_fits])
                                    all_goals first
                                      | (refine hK _ _ ?_; exact Red.auto)
                                      | exact trivial
                                      | assumption
                                      | omega
                                      | exact wrap_fits (by omega) (by omega)
                                      | (refine wpA_callA (k_laws_toGraph a0_0 a0_1 (h := hr0)) [0] [] ?_
                                         rintro x Hc' ⟨rfl, rfl⟩ hlen
                                         refine vcOps_sound ftCOk ?_
                                         simp (maxSteps := 4000000) only [go_sem, Nat.reduceBEq, Nat.reduceLT, Nat.reduceAdd, Nat.reduceLeDiff, Nat.reduceSub, Nat.reduceEqDiff, Int.reduceToNat, reduceCtorEq, ↓reduceIte]
                                         repeat' (first | refine And.intro ?_ ?_ | intro hg)
                                         all_goals (try simp (disch := omega) only [wrap_fits])
                                         all_goals first
                                           | (refine hK _ _ ?_; exact Red.auto)
                                           | exact trivial
                                           | assumption
                                           | omega
                                           | exact wrap_fits (by omega) (by omega)
                                           | (refine wpA_callA (k_impl_TurnGraph y_19 y_20 (h := hr1)) [10] [] ?_
                                              rintro x Hc' ⟨rfl, rfl⟩ hlen
                                              refine vcOps_sound ftCOk ?_
                                              simp (maxSteps := 4000000) only [go_sem, Nat.reduceBEq, Nat.reduceLT, Nat.reduceAdd, Nat.reduceLeDiff, Nat.reduceSub, Nat.reduceEqDiff, Int.reduceToNat, reduceCtorEq, ↓reduceIte]
                                              repeat' (first | refine And.intro ?_ ?_ | intro hg)
                                              all_goals (try simp (disch := omega) only [wrap_fits])
                                              all_goals first
                                                | (refine hK _ _ ?_; exact Red.auto)
                                                | exact trivial
                                                | assumption
                                                | omega
                                                | exact wrap_fits (by omega) (by omega)
                                                | (simp_all; done)
                                                | (simp_all; omega))
                                           | (simp_all; done)
                                           | (simp_all; omega))
                                      | (simp_all; done)
                                      | (simp_all; omega)
                                  · clear hr0 hr1
                                    refine awp_seq fun K20 hK20 => ?_
                                    replace h := bind_some h
                                    obtain ⟨y_23, hr0, h⟩ := h
                                    try dsimp only at h
                                    refine awp_to [(6, .pp 8 0), (8, .v (.int .i64 y_16)), (60, .v (.bool (!y_23)))] [.row false (.trips a0_1), .rbox [.v (.int .i64 a0_0), .sl 0], .row true (.trips y_2), .row true (.trips y_4), .box [.v (.int .i64 y_3), .sl 3], .row true (.trips y_14), .box [.v (.int .i64 y_5), .sl 5], .row true (.trips y_17), .box [.v (.int .i64 y_7), .sl 7], .row true (.trips y_11), .row true (.trips y_20), .row true (.trips y_22), .box [.v (.int .i64 y_21), .sl 11]] ?_ ?_
                                    · clear h
                                      intro K hK
                                      refine awp_region ftCOk ?_
                                      simp (maxSteps := 4000000) only [go_sem, Nat.reduceBEq, Nat.reduceLT, Nat.reduceAdd, Nat.reduceLeDiff, Nat.reduceSub, Nat.reduceEqDiff, Int.reduceToNat, reduceCtorEq, ↓reduceIte]
                                      repeat' (first | refine And.intro ?_ ?_ | intro hg)
                                      all_goals (try simp (disch := omega) only [wrap_fits])
                                      all_goals first
                                        | (refine hK _ _ ?_; exact Red.auto)
                                        | exact trivial
                                        | assumption
                                        | omega
                                        | exact wrap_fits (by omega) (by omega)
                                        | (refine wpA_callA (k_laws_eqGraph y_21 y_22 y_3 y_4 (h := hr0)) [11, 3] [] ?_
                                           rintro x Hc' ⟨rfl, rfl⟩ hlen
                                           refine vcOps_sound ftCOk ?_
                                           simp (maxSteps := 4000000) only [go_sem, Nat.reduceBEq, Nat.reduceLT, Nat.reduceAdd, Nat.reduceLeDiff, Nat.reduceSub, Nat.reduceEqDiff, Int.reduceToNat, reduceCtorEq, ↓reduceIte]
                                           repeat' (first | refine And.intro ?_ ?_ | intro hg)
                                           all_goals (try simp (disch := omega) only [wrap_fits])
                                           all_goals first
                                             | (refine hK _ _ ?_; exact Red.auto)
                                             | exact trivial
                                             | assumption
                                             | omega
                                             | exact wrap_fits (by omega) (by omega)
                                             | (simp_all; done)
                                             | (simp_all; omega))
                                        | (simp_all; done)
                                        | (simp_all; omega)
                                    · clear hr0
                                      refine awp_cond (t := 60) rfl (fun hc21 => ?_) (fun hc21 => ?_)
                                      · replace h := bite_t h hc21
                                        refine awp_reg ftCOk [(2, .v (.bool false))] [.row false (.trips a0_1), .rbox [.v (.int .i64 a0_0), .sl 0], .row true (.trips y_2), .row true (.trips y_4), .box [.v (.int .i64 y_3), .sl 3], .row true (.trips y_14), .box [.v (.int .i64 y_5), .sl 5], .row true (.trips y_17), .box [.v (.int .i64 y_7), .sl 7], .row true (.trips y_11), .row true (.trips y_20), .row true (.trips y_22), .box [.v (.int .i64 y_21), .sl 11]] ?_
                                        refine awp_ret ?_
                                        (try simp only [Thn, InBlk, ↓reduceIte, Nat.reduceEqDiff])
                                        obtain rfl := Option.some.inj h
                                        refine ⟨by simp, _, [0], (by simp only [go_sem, Nat.reduceBEq, Nat.reduceLT, Nat.reduceAdd, Nat.reduceLeDiff, Nat.reduceSub, Nat.reduceEqDiff, Int.reduceToNat, reduceCtorEq, ↓reduceIte]; exact rfl), ?_, ?_, ?_, ?_⟩
                                        · first | exact trivial | exact ⟨trivial, trivial⟩ | exact ⟨trivial, trivial, trivial⟩ | exact ⟨trivial, trivial, trivial, trivial⟩ | (simp only [allP, and_true, true_and]; done) | (simp only [allP, and_true, true_and]; omega)
                                        · simp [selOk, pos]
                                        · simp
                                        · first | exact ⟨rfl, rfl⟩ | (simp only [go_sem, Nat.reduceBEq, Nat.reduceLT, Nat.reduceAdd, Nat.reduceLeDiff, Nat.reduceSub, Nat.reduceEqDiff, Int.reduceToNat, reduceCtorEq, ↓reduceIte]; done) | (simp [go_sem, Nat.reduceBEq, Nat.reduceLT, Nat.reduceAdd, Nat.reduceLeDiff, Nat.reduceSub, Nat.reduceEqDiff, Int.reduceToNat, reduceCtorEq, ↓reduceIte]; done) | (simp only [go_sem, Nat.reduceBEq, Nat.reduceLT, Nat.reduceAdd, Nat.reduceLeDiff, Nat.reduceSub, Nat.reduceEqDiff, Int.reduceToNat, reduceCtorEq, ↓reduceIte]; exact ⟨rfl, rfl⟩) | (simp_all [go_sem, Nat.reduceBEq, Nat.reduceLT, Nat.reduceAdd, Nat.reduceLeDiff, Nat.reduceSub, Nat.reduceEqDiff, Int.reduceToNat, reduceCtorEq, ↓reduceIte]; done)
                                      · replace h := bite_f h hc21
                                        refine awp_skip ?_
                                        (try simp only [Thn, InBlk, ↓reduceIte, Nat.reduceEqDiff])
                                        refine hK20 _ _ ?_
                                        clear hK20
                                        refine awp_reg ftCOk [(6, .pp 8 0), (8, .v (.int .i64 y_16)), (9, .v (.int .i64 1))] [.row false (.trips a0_1), .rbox [.v (.int .i64 a0_0), .sl 0], .row true (.trips y_2), .row true (.trips y_4), .box [.v (.int .i64 y_3), .sl 3], .row true (.trips y_14), .box [.v (.int .i64 y_5), .sl 5], .row true (.trips y_17), .box [.v (.int .i64 y_7), .sl 7], .row true (.trips y_11), .row true (.trips y_20), .row true (.trips y_22), .box [.v (.int .i64 y_21), .sl 11]] ?_
                                        replace h := bind_some h
                                        obtain ⟨y_24, hr0, h⟩ := h
                                        try dsimp only at h
                                        refine awp_to [(8, .v (.int .i64 y_16)), (9, .v (.int .i64 y_24))] [.row false (.trips a0_1), .rbox [.v (.int .i64 a0_0), .sl 0], .row true (.trips y_2), .row true (.trips y_4), .box [.v (.int .i64 y_3), .sl 3], .row true (.trips y_14), .box [.v (.int .i64 y_5), .sl 5], .row true (.trips y_17), .box [.v (.int .i64 y_7), .sl 7], .row true (.trips y_11), .row true (.trips y_20), .row true (.trips y_22), .box [.v (.int .i64 y_21), .sl 11]] ?_ ?_
                                        · clear h
                                          intro K hK
                                          refine awp_region ftCOk ?_
                                          simp (maxSteps := 4000000) only [go_sem, Nat.reduceBEq, Nat.reduceLT, Nat.reduceAdd, Nat.reduceLeDiff, Nat.reduceSub, Nat.reduceEqDiff, Int.reduceToNat, reduceCtorEq, ↓reduceIte]
                                          repeat' (first | refine And.intro ?_ ?_ | intro hg)
                                          all_goals (try simp (disch := omega) only [wrap_fits])
                                          all_goals first
                                            | (refine hK _ _ ?_; exact Red.auto)
                                            | exact trivial
                                            | assumption
                                            | omega
                                            | exact wrap_fits (by omega) (by omega)
                                            | (refine wpA_callA (k_laws_heldGraph y_7 y_17 1 (h := hr0)) [7] [] ?_
                                               rintro x Hc' ⟨rfl, rfl⟩ hlen
                                               refine vcOps_sound ftCOk ?_
                                               simp (maxSteps := 4000000) only [go_sem, Nat.reduceBEq, Nat.reduceLT, Nat.reduceAdd, Nat.reduceLeDiff, Nat.reduceSub, Nat.reduceEqDiff, Int.reduceToNat, reduceCtorEq, ↓reduceIte]
                                               repeat' (first | refine And.intro ?_ ?_ | intro hg)
                                               all_goals (try simp (disch := omega) only [wrap_fits])
                                               all_goals first
                                                 | (refine hK _ _ ?_; exact Red.auto)
                                                 | exact trivial
                                                 | assumption
                                                 | omega
                                                 | exact wrap_fits (by omega) (by omega)
                                                 | (simp_all; done)
                                                 | (simp_all; omega))
                                            | (simp_all; done)
                                            | (simp_all; omega)
                                        · clear hr0
                                          refine awp_seq fun K23 hK23 => ?_
                                          refine awp_reg ftCOk [(8, .v (.int .i64 y_16)), (9, .v (.int .i64 y_24)), (65, .v (.bool (decide (y_24 < 0))))] [.row false (.trips a0_1), .rbox [.v (.int .i64 a0_0), .sl 0], .row true (.trips y_2), .row true (.trips y_4), .box [.v (.int .i64 y_3), .sl 3], .row true (.trips y_14), .box [.v (.int .i64 y_5), .sl 5], .row true (.trips y_17), .box [.v (.int .i64 y_7), .sl 7], .row true (.trips y_11), .row true (.trips y_20), .row true (.trips y_22), .box [.v (.int .i64 y_21), .sl 11]] ?_
                                          refine awp_cond (t := 65) rfl (fun hc24 => ?_) (fun hc24 => ?_)
                                          · replace h := bite_t h hc24
                                            refine awp_reg ftCOk [(2, .v (.bool false))] [.row false (.trips a0_1), .rbox [.v (.int .i64 a0_0), .sl 0], .row true (.trips y_2), .row true (.trips y_4), .box [.v (.int .i64 y_3), .sl 3], .row true (.trips y_14), .box [.v (.int .i64 y_5), .sl 5], .row true (.trips y_17), .box [.v (.int .i64 y_7), .sl 7], .row true (.trips y_11), .row true (.trips y_20), .row true (.trips y_22), .box [.v (.int .i64 y_21), .sl 11]] ?_
                                            refine awp_ret ?_
                                            (try simp only [Thn, InBlk, ↓reduceIte, Nat.reduceEqDiff])
                                            obtain rfl := Option.some.inj h
                                            refine ⟨by simp, _, [0], (by simp only [go_sem, Nat.reduceBEq, Nat.reduceLT, Nat.reduceAdd, Nat.reduceLeDiff, Nat.reduceSub, Nat.reduceEqDiff, Int.reduceToNat, reduceCtorEq, ↓reduceIte]; exact rfl), ?_, ?_, ?_, ?_⟩
                                            · first | exact trivial | exact ⟨trivial, trivial⟩ | exact ⟨trivial, trivial, trivial⟩ | exact ⟨trivial, trivial, trivial, trivial⟩ | (simp only [allP, and_true, true_and]; done) | (simp only [allP, and_true, true_and]; omega)
                                            · simp [selOk, pos]
                                            · simp
                                            · first | exact ⟨rfl, rfl⟩ | (simp only [go_sem, Nat.reduceBEq, Nat.reduceLT, Nat.reduceAdd, Nat.reduceLeDiff, Nat.reduceSub, Nat.reduceEqDiff, Int.reduceToNat, reduceCtorEq, ↓reduceIte]; done) | (simp [go_sem, Nat.reduceBEq, Nat.reduceLT, Nat.reduceAdd, Nat.reduceLeDiff, Nat.reduceSub, Nat.reduceEqDiff, Int.reduceToNat, reduceCtorEq, ↓reduceIte]; done) | (simp only [go_sem, Nat.reduceBEq, Nat.reduceLT, Nat.reduceAdd, Nat.reduceLeDiff, Nat.reduceSub, Nat.reduceEqDiff, Int.reduceToNat, reduceCtorEq, ↓reduceIte]; exact ⟨rfl, rfl⟩) | (simp_all [go_sem, Nat.reduceBEq, Nat.reduceLT, Nat.reduceAdd, Nat.reduceLeDiff, Nat.reduceSub, Nat.reduceEqDiff, Int.reduceToNat, reduceCtorEq, ↓reduceIte]; done)
                                          · replace h := bite_f h hc24
                                            refine awp_skip ?_
                                            (try simp only [Thn, InBlk, ↓reduceIte, Nat.reduceEqDiff])
                                            refine hK23 _ _ ?_
                                            clear hK23
                                            refine awp_seq fun K26 hK26 => ?_
                                            refine awp_reg ftCOk [(68, .v (.bool (y_24 != y_16)))] [.row false (.trips a0_1), .rbox [.v (.int .i64 a0_0), .sl 0], .row true (.trips y_2), .row true (.trips y_4), .box [.v (.int .i64 y_3), .sl 3], .row true (.trips y_14), .box [.v (.int .i64 y_5), .sl 5], .row true (.trips y_17), .box [.v (.int .i64 y_7), .sl 7], .row true (.trips y_11), .row true (.trips y_20), .row true (.trips y_22), .box [.v (.int .i64 y_21), .sl 11]] ?_
                                            refine awp_cond (t := 68) rfl (fun hc27 => ?_) (fun hc27 => ?_)
                                            · replace h := bite_t h hc27
                                              refine awp_reg ftCOk [(2, .v (.bool false))] [.row false (.trips a0_1), .rbox [.v (.int .i64 a0_0), .sl 0], .row true (.trips y_2), .row true (.trips y_4), .box [.v (.int .i64 y_3), .sl 3], .row true (.trips y_14), .box [.v (.int .i64 y_5), .sl 5], .row true (.trips y_17), .box [.v (.int .i64 y_7), .sl 7], .row true (.trips y_11), .row true (.trips y_20), .row true (.trips y_22), .box [.v (.int .i64 y_21), .sl 11]] ?_
                                              refine awp_ret ?_
                                              (try simp only [Thn, InBlk, ↓reduceIte, Nat.reduceEqDiff])
                                              obtain rfl := Option.some.inj h
                                              refine ⟨by simp, _, [0], (by simp only [go_sem, Nat.reduceBEq, Nat.reduceLT, Nat.reduceAdd, Nat.reduceLeDiff, Nat.reduceSub, Nat.reduceEqDiff, Int.reduceToNat, reduceCtorEq, ↓reduceIte]; exact rfl), ?_, ?_, ?_, ?_⟩
                                              · first | exact trivial | exact ⟨trivial, trivial⟩ | exact ⟨trivial, trivial, trivial⟩ | exact ⟨trivial, trivial, trivial, trivial⟩ | (simp only [allP, and_true, true_and]; done) | (simp only [allP, and_true, true_and]; omega)
                                              · simp [selOk, pos]
                                              · simp
                                              · first | exact ⟨rfl, rfl⟩ | (simp only [go_sem, Nat.reduceBEq, Nat.reduceLT, Nat.reduceAdd, Nat.reduceLeDiff, Nat.reduceSub, Nat.reduceEqDiff, Int.reduceToNat, reduceCtorEq, ↓reduceIte]; done) | (simp [go_sem, Nat.reduceBEq, Nat.reduceLT, Nat.reduceAdd, Nat.reduceLeDiff, Nat.reduceSub, Nat.reduceEqDiff, Int.reduceToNat, reduceCtorEq, ↓reduceIte]; done) | (simp only [go_sem, Nat.reduceBEq, Nat.reduceLT, Nat.reduceAdd, Nat.reduceLeDiff, Nat.reduceSub, Nat.reduceEqDiff, Int.reduceToNat, reduceCtorEq, ↓reduceIte]; exact ⟨rfl, rfl⟩) | (simp_all [go_sem, Nat.reduceBEq, Nat.reduceLT, Nat.reduceAdd, Nat.reduceLeDiff, Nat.reduceSub, Nat.reduceEqDiff, Int.reduceToNat, reduceCtorEq, ↓reduceIte]; done)
                                            · replace h := bite_f h hc27
                                              refine awp_skip ?_
                                              (try simp only [Thn, InBlk, ↓reduceIte, Nat.reduceEqDiff])
                                              refine hK26 _ _ ?_
                                              clear hK26
                                              refine awp_reg ftCOk [(2, .v (.bool true))] [.row false (.trips a0_1), .rbox [.v (.int .i64 a0_0), .sl 0], .row true (.trips y_2), .row true (.trips y_4), .box [.v (.int .i64 y_3), .sl 3], .row true (.trips y_14), .box [.v (.int .i64 y_5), .sl 5], .row true (.trips y_17), .box [.v (.int .i64 y_7), .sl 7], .row true (.trips y_11), .row true (.trips y_20), .row true (.trips y_22), .box [.v (.int .i64 y_21), .sl 11]] ?_
                                              refine awp_ret ?_
                                              (try simp only [Thn, InBlk, ↓reduceIte, Nat.reduceEqDiff])
                                              obtain rfl := Option.some.inj h
                                              refine ⟨by simp, _, [0], (by simp only [go_sem, Nat.reduceBEq, Nat.reduceLT, Nat.reduceAdd, Nat.reduceLeDiff, Nat.reduceSub, Nat.reduceEqDiff, Int.reduceToNat, reduceCtorEq, ↓reduceIte]; exact rfl), ?_, ?_, ?_, ?_⟩
                                              · first | exact trivial | exact ⟨trivial, trivial⟩ | exact ⟨trivial, trivial, trivial⟩ | exact ⟨trivial, trivial, trivial, trivial⟩ | (simp only [allP, and_true, true_and]; done) | (simp only [allP, and_true, true_and]; omega)
                                              · simp [selOk, pos]
                                              · simp
                                              · first | exact ⟨rfl, rfl⟩ | (simp only [go_sem, Nat.reduceBEq, Nat.reduceLT, Nat.reduceAdd, Nat.reduceLeDiff, Nat.reduceSub, Nat.reduceEqDiff, Int.reduceToNat, reduceCtorEq, ↓reduceIte]; done) | (simp [go_sem, Nat.reduceBEq, Nat.reduceLT, Nat.reduceAdd, Nat.reduceLeDiff, Nat.reduceSub, Nat.reduceEqDiff, Int.reduceToNat, reduceCtorEq, ↓reduceIte]; done) | (simp only [go_sem, Nat.reduceBEq, Nat.reduceLT, Nat.reduceAdd, Nat.reduceLeDiff, Nat.reduceSub, Nat.reduceEqDiff, Int.reduceToNat, reduceCtorEq, ↓reduceIte]; exact ⟨rfl, rfl⟩) | (simp_all [go_sem, Nat.reduceBEq, Nat.reduceLT, Nat.reduceAdd, Nat.reduceLeDiff, Nat.reduceSub, Nat.reduceEqDiff, Int.reduceToNat, reduceCtorEq, ↓reduceIte]; done)
end Go.Proofs.Ytdjckcedpnabpaa
