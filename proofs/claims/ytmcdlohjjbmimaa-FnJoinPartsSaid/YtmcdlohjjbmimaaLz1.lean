/- The code computes the functions that were taken out of it. -/
import Derived.Test.YtmcdlohjjbmimaaLzD
set_option maxRecDepth 100000
set_option maxHeartbeats 4000000
set_option linter.unusedSimpArgs false
set_option linter.unusedVariables false
namespace Go.Proofs.Ytmcdlohjjbmimaa
open Go Go.Av
attribute [local irreducible] wpA OpK awp
attribute [local go_sem] frs_nil frs_cons pw8_32 pw16_32 pw24_32 pw27_32 eqAgg eqAggV buildQ placesOf buildCells List.toList_toArray vcQg gfind gfree gput un3_agg unI_int unB_bool unK_int guardU skipV resVs resV vcD_nil vcD_cons vcT_fin vcT_free vcT_one vcT_two opS vcD1 roH roOb ftNone ftAdd oneOrTup AV.detup AV.ren AV.ren2 AV.ren1 pos selH AObj.ren fitAll fit fit1 fit1s matchAll matchOb exIds AObj.excl Env.killp pastH setAll upId AObj.past AObj.back AV.killp AV.killp1 AV.killp2 Nat.sub_self Nat.lt_irrefl Bool.or_self vcOps vcOp vcQs vcQ dstOk quiet eff pcall calleeF plain valsOf ev ofConst argEnv List.lookup Nat.add_eq decide_true decide_false Env.put binV wrapTo unV convV loadQ indexQ callQ builtinQ rd rdI globC AObj.globC partAV isAggD isArrayD addrAdd boxE storeE storeXE storeCE storeGE storeFE storeAE storeHE allocAE buildME appendME aggQ arrD arrL arrL_map arrV makeE makeXE makeNE makeGE buildXE buildNE buildGE nestZero Cont.child Cont.setChild buildSliceE buildFold appendE appendXE appendNE appendGE Cont.setG nestApp appendV promoteH sliceE boundAV subObj asCells Value.oneCell' contZero Cont.sets Cont.app Cont.sub Cont.len Cont.esz Cont.cell Cont.cells Cont.flat AV.det AV.det1 guardV AObj.unview AObj.kill Env.kill AV.kill AV.kill1 AV.kill2 fits64 Option.getD_some Option.getD_none Option.map_some Option.map_none Option.bind_some List.map_cons List.map_nil List.getElem?_cons_zero List.getElem?_cons_succ List.getElem?_nil true_and and_true and_false false_and List.getElem?_toArray List.cons_append List.nil_append List.length_cons List.length_nil List.set_cons_zero List.set_cons_succ List.take_succ_cons List.take_zero List.drop_succ_cons List.drop_zero List.drop_nil List.take_nil List.contains_cons List.contains_nil List.elem_cons List.elem_nil Bool.not_true Bool.not_false Bool.false_eq_true Bool.or_false Bool.or_true Bool.and_true Bool.and_false Bool.true_and Bool.false_and List.all_cons List.all_nil List.size_toArray Nat.lt_add_one Nat.zero_lt_succ Nat.one_ne_zero Nat.zero_ne_one and_self List.replicate_succ List.replicate_zero Int.toNat_natCast Int.toNat_zero Value.cells false_implies true_implies forall_const Thn InBlk Nat.zero_add Nat.add_zero Int.zero_add Ele Env.ren Option.some.injEq AV.v.injEq AV.sl.injEq AV.pp.injEq AV.ep.injEq AV.agg.injEq List.cons.injEq Value.int.injEq Value.bool.injEq Value.string.injEq true_or or_true or_false false_or tsz0 tby0 tz0 Try.underlying0 tsz1 tby1 tz1 Try.underlying1 tsz2 tby2 tz2 Try.underlying2 tsz3 tby3 tz3 Try.underlying3 tsz4 tby4 tz4 Try.underlying4 tsz5 tby5 tz5 Try.underlying5 tsz6 tby6 tz6 Try.underlying6 tsz7 tby7 tz7 Try.underlying7 fo7_0 fo7_1 fo7_2 fo7_3 tsz8 tby8 tz8 Try.underlying8 fo8_0 fo8_1 fo8_2 fo8_3 tsz9 tby9 Try.underlying9 tsz10 tby10 Try.underlying10 tsz12 tby12 tz12 Try.underlying12 tsz16 tby16 tz16 Try.underlying16 tsz17 tby17 tz17 Try.underlying17 tsz20 tby20 tz20 Try.underlying20 tsz21 tby21 tz21 Try.underlying21 tsz22 tby22 tz22 Try.underlying22 tsz23 tby23 tz23 Try.underlying23 tsz24 tby24 tz24 Try.underlying24 fo24_0 fo24_1 tsz25 tby25 tz25 Try.underlying25 fo25_0 fo25_1 tsz32 tby32 tz32 Try.underlying32 tsz34 tby34 tz34 Try.underlying34 peq34 fo34_0 fo34_1 fo34_2 tsz35 tby35 tz35 Try.underlying35 peq35 fo35_0 fo35_1 fo35_2 tsz36 tby36 tz36 Try.underlying36 tsz40 tby40 tz40 Try.underlying40 tsz44 tby44 tz44 Try.underlying44 tsz52 tby52 tz52 Try.underlying52 tsz54 tby54 tz54 Try.underlying54 tsz56 tby56 tz56 Try.underlying56 fo56_0 fo56_1 tsz57 tby57 tz57 Try.underlying57 fo57_0 fo57_1 tsz60 tby60 tz60 Try.underlying60 tsz65 tby65 tz65 Try.underlying65 tsz73 tby73 tz73 Try.underlying73 tsz74 tby74 tz74 Try.underlying74 tsz75 tby75 tz75 Try.underlying75 tsz77 tby77 tz77 Try.underlying77 tsz78 tby78 tz78 Try.underlying78 tsz79 tby79 tz79 Try.underlying79 tsz80 tby80 tz80 Try.underlying80 tsz81 tby81 tz81 Try.underlying81 tsz82 tby82 tz82 Try.underlying82 tsz83 tby83 tz83 Try.underlying83 tsz84 tby84 tz84 Try.underlying84 fo84_0 fo84_1 fo84_2 fo84_3 fo84_4 fo84_5 fo84_6 fo84_7 fo84_8 fo84_9 fo84_10 tsz85 tby85 tz85 Try.underlying85 fo85_0 fo85_1 fo85_2 fo85_3 fo85_4 fo85_5 fo85_6 fo85_7 fo85_8 fo85_9 fo85_10 tsz86 tby86 tz86 Try.underlying86  ftC
theorem k_insA (a0 : List (Int × Int × Int)) (a1 : Int) (a2 : List (Int × Int × Int)) {r : (List (Int × Int × Int)) × (List (Int × Int × Int))} (h : insA a0 a1 a2 = some r) :
    FnA Try.prog 37 [.sl 0, .v (.int .i64 a1), .sl 1] [.row true (.trips a0), .row true (.trips a2)] [] (fun x H => x = .sl 2 ∧ H = [.dead, .row true (.trips r.2), .row true (.trips r.1)]) := by
  unfold insA at h
  refine FnA.of (N := 95) (pin := [0, 1]) (rs := [.tmp 6]) Try.func37 rfl en37 rfl rfl (by simp) (by simp; try omega) ?_
  refine awp_move 0 [(0, .sl 2), (1, .v (.int .i64 a1)), (2, .sl 1)] [.dead, .row true (.trips a2), .row true (.trips a0)] (by rfl) (by rfl) (by exact rfl) ?_
  refine awp_reg ftCOk [(0, .sl 2), (1, .v (.int .i64 a1)), (2, .sl 1)] [.dead, .row true (.trips a2), .row true (.trips a0)] ?_
  replace h := chk_some h
  obtain ⟨hp0, h⟩ := h
  refine awp_reg ftCOk [(0, .sl 2), (1, .v (.int .i64 a1)), (2, .sl 1)] [.dead, .row true (.trips a2), .row true (.trips a0), .view 2 (.trips ((a0.take a0.length).drop a1.toNat))] ?_
  clear hp0
  refine awp_reg ftCOk [(0, .sl 2), (1, .v (.int .i64 a1)), (2, .sl 1), (7, .v (.int .i64 (a2.length : Int)))] [.dead, .row true (.trips a2), .row true (.trips a0), .view 2 (.trips ((a0.take a0.length).drop a1.toNat))] ?_
  refine awp_seq fun K2 hK2 => ?_
  refine awp_reg ftCOk [(0, .sl 2), (1, .v (.int .i64 a1)), (2, .sl 1), (7, .v (.int .i64 (a2.length : Int))), (16, .v (.bool ((a2.length : Int) == 0)))] [.dead, .row true (.trips a2), .row true (.trips a0), .view 2 (.trips ((a0.take a0.length).drop a1.toNat))] ?_
  refine awp_cond (t := 16) rfl (fun hc3 => ?_) (fun hc3 => ?_)
  · replace h := bite_t h hc3
    refine awp_reg ftCOk [(6, .sl 2)] [.dead, .row true (.trips a2), .row true (.trips a0), .view 2 (.trips ((a0.take a0.length).drop a1.toNat))] ?_
    refine awp_ret ?_
    (try simp only [Thn, InBlk, ↓reduceIte, Nat.reduceEqDiff])
    obtain rfl := Option.some.inj h
    refine ⟨by simp, _, [0, 1, 2], (by simp only [go_sem, Nat.reduceBEq, Nat.reduceLT, Nat.reduceAdd, Nat.reduceLeDiff, Nat.reduceSub, Nat.reduceEqDiff, Int.reduceToNat, reduceCtorEq, ↓reduceIte]; exact rfl), ?_, ?_, ?_, ?_⟩
    · first | exact trivial | exact ⟨trivial, trivial⟩ | exact ⟨trivial, trivial, trivial⟩ | exact ⟨trivial, trivial, trivial, trivial⟩ | (simp only [allP, and_true, true_and]; done) | (simp only [allP, and_true, true_and]; omega)
    · simp [selOk, pos]
    · simp
    · first | exact ⟨rfl, rfl⟩ | (simp only [go_sem, Nat.reduceBEq, Nat.reduceLT, Nat.reduceAdd, Nat.reduceLeDiff, Nat.reduceSub, Nat.reduceEqDiff, Int.reduceToNat, reduceCtorEq, ↓reduceIte]; done) | (simp [go_sem, Nat.reduceBEq, Nat.reduceLT, Nat.reduceAdd, Nat.reduceLeDiff, Nat.reduceSub, Nat.reduceEqDiff, Int.reduceToNat, reduceCtorEq, ↓reduceIte]; done) | (simp only [go_sem, Nat.reduceBEq, Nat.reduceLT, Nat.reduceAdd, Nat.reduceLeDiff, Nat.reduceSub, Nat.reduceEqDiff, Int.reduceToNat, reduceCtorEq, ↓reduceIte]; exact ⟨rfl, rfl⟩) | (simp_all [go_sem, Nat.reduceBEq, Nat.reduceLT, Nat.reduceAdd, Nat.reduceLeDiff, Nat.reduceSub, Nat.reduceEqDiff, Int.reduceToNat, reduceCtorEq, ↓reduceIte]; done)
  · replace h := bite_f h hc3
    refine awp_skip ?_
    (try simp only [Thn, InBlk, ↓reduceIte, Nat.reduceEqDiff])
    refine hK2 _ _ ?_
    clear hK2
    refine awp_reg ftCOk [(0, .sl 2), (1, .v (.int .i64 a1)), (2, .sl 1), (7, .v (.int .i64 (a2.length : Int))), (8, .v (.int .i64 (a0.length : Int)))] [.dead, .row true (.trips a2), .row true (.trips a0), .view 2 (.trips ((a0.take a0.length).drop a1.toNat))] ?_
    refine awp_seq fun K5 hK5 => ?_
    refine awp_reg ftCOk [(0, .sl 2), (1, .v (.int .i64 a1)), (2, .sl 1), (7, .v (.int .i64 (a2.length : Int))), (8, .v (.int .i64 (a0.length : Int))), (22, .v (.bool (a1 == (a0.length : Int))))] [.dead, .row true (.trips a2), .row true (.trips a0), .view 2 (.trips ((a0.take a0.length).drop a1.toNat))] ?_
    refine awp_cond (t := 22) rfl (fun hc6 => ?_) (fun hc6 => ?_)
    · replace h := bite_t h hc6
      replace h := chk_some h
      obtain ⟨hp0, h⟩ := h
      refine awp_reg ftCOk [(6, .sl 2)] [.dead, .row true (.trips a2), .row true (.trips (a0 ++ a2)), .dead] ?_
      clear hp0
      refine awp_ret ?_
      (try simp only [Thn, InBlk, ↓reduceIte, Nat.reduceEqDiff])
      obtain rfl := Option.some.inj h
      refine ⟨by simp, _, [0, 1, 2], (by simp only [go_sem, Nat.reduceBEq, Nat.reduceLT, Nat.reduceAdd, Nat.reduceLeDiff, Nat.reduceSub, Nat.reduceEqDiff, Int.reduceToNat, reduceCtorEq, ↓reduceIte]; exact rfl), ?_, ?_, ?_, ?_⟩
      · first | exact trivial | exact ⟨trivial, trivial⟩ | exact ⟨trivial, trivial, trivial⟩ | exact ⟨trivial, trivial, trivial, trivial⟩ | (simp only [allP, and_true, true_and]; done) | (simp only [allP, and_true, true_and]; omega)
      · simp [selOk, pos]
      · simp
      · first | exact ⟨rfl, rfl⟩ | (simp only [go_sem, Nat.reduceBEq, Nat.reduceLT, Nat.reduceAdd, Nat.reduceLeDiff, Nat.reduceSub, Nat.reduceEqDiff, Int.reduceToNat, reduceCtorEq, ↓reduceIte]; done) | (simp [go_sem, Nat.reduceBEq, Nat.reduceLT, Nat.reduceAdd, Nat.reduceLeDiff, Nat.reduceSub, Nat.reduceEqDiff, Int.reduceToNat, reduceCtorEq, ↓reduceIte]; done) | (simp only [go_sem, Nat.reduceBEq, Nat.reduceLT, Nat.reduceAdd, Nat.reduceLeDiff, Nat.reduceSub, Nat.reduceEqDiff, Int.reduceToNat, reduceCtorEq, ↓reduceIte]; exact ⟨rfl, rfl⟩) | (simp_all [go_sem, Nat.reduceBEq, Nat.reduceLT, Nat.reduceAdd, Nat.reduceLeDiff, Nat.reduceSub, Nat.reduceEqDiff, Int.reduceToNat, reduceCtorEq, ↓reduceIte]; done)
    · replace h := bite_f h hc6
      refine awp_skip ?_
      (try simp only [Thn, InBlk, ↓reduceIte, Nat.reduceEqDiff])
      refine hK5 _ _ ?_
      clear hK5
      refine awp_seq fun K7 hK7 => ?_
      cases h
end Go.Proofs.Ytmcdlohjjbmimaa
