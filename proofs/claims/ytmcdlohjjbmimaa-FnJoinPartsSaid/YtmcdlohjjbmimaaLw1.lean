/- The code computes the functions that were taken out of it. -/
import Derived.Test.YtmcdlohjjbmimaaLaD
set_option maxRecDepth 100000
set_option maxHeartbeats 4000000
set_option linter.unusedSimpArgs false
set_option linter.unusedVariables false
namespace Go.Proofs.Ytmcdlohjjbmimaa
open Go Go.Av
attribute [local irreducible] wpA OpK awp
attribute [local go_sem] frs_nil frs_cons pw8_32 pw16_32 pw24_32 pw27_32 eqAgg eqAggV buildQ placesOf buildCells List.toList_toArray vcQg gfind gfree gput un3_agg unI_int unB_bool unK_int guardU skipV resVs resV vcD_nil vcD_cons vcT_fin vcT_free vcT_one vcT_two opS vcD1 roH roOb ftNone ftAdd oneOrTup AV.detup AV.ren AV.ren2 AV.ren1 pos selH AObj.ren fitAll fit fit1 fit1s matchAll matchOb exIds AObj.excl Env.killp pastH setAll upId AObj.past AObj.back AV.killp AV.killp1 AV.killp2 Nat.sub_self Nat.lt_irrefl Bool.or_self vcOps vcOp vcQs vcQ dstOk quiet eff pcall calleeF plain valsOf ev ofConst argEnv List.lookup Nat.add_eq decide_true decide_false Env.put binV wrapTo unV convV loadQ indexQ callQ builtinQ rd rdI globC AObj.globC partAV isAggD isArrayD addrAdd boxE storeE storeXE storeCE storeGE storeFE storeAE storeHE allocAE buildME appendME aggQ arrD arrL arrL_map arrV makeE makeXE makeNE makeGE buildXE buildNE buildGE nestZero Cont.child Cont.setChild buildSliceE buildFold appendE appendXE appendNE appendGE Cont.setG nestApp appendV promoteH sliceE boundAV subObj asCells Value.oneCell' contZero Cont.sets Cont.app Cont.sub Cont.len Cont.esz Cont.cell Cont.cells Cont.flat AV.det AV.det1 guardV AObj.unview AObj.kill Env.kill AV.kill AV.kill1 AV.kill2 fits64 Option.getD_some Option.getD_none Option.map_some Option.map_none Option.bind_some List.map_cons List.map_nil List.getElem?_cons_zero List.getElem?_cons_succ List.getElem?_nil true_and and_true and_false false_and List.getElem?_toArray List.cons_append List.nil_append List.length_cons List.length_nil List.set_cons_zero List.set_cons_succ List.take_succ_cons List.take_zero List.drop_succ_cons List.drop_zero List.drop_nil List.take_nil List.contains_cons List.contains_nil List.elem_cons List.elem_nil Bool.not_true Bool.not_false Bool.false_eq_true Bool.or_false Bool.or_true Bool.and_true Bool.and_false Bool.true_and Bool.false_and List.all_cons List.all_nil List.size_toArray Nat.lt_add_one Nat.zero_lt_succ Nat.one_ne_zero Nat.zero_ne_one and_self List.replicate_succ List.replicate_zero Int.toNat_natCast Int.toNat_zero Value.cells false_implies true_implies forall_const Thn InBlk Nat.zero_add Nat.add_zero Int.zero_add Ele Env.ren Option.some.injEq AV.v.injEq AV.sl.injEq AV.pp.injEq AV.ep.injEq AV.agg.injEq List.cons.injEq Value.int.injEq Value.bool.injEq Value.string.injEq true_or or_true or_false false_or tsz0 tby0 tz0 Try.underlying0 tsz1 tby1 tz1 Try.underlying1 tsz2 tby2 tz2 Try.underlying2 tsz3 tby3 tz3 Try.underlying3 tsz4 tby4 tz4 Try.underlying4 tsz5 tby5 tz5 Try.underlying5 tsz6 tby6 tz6 Try.underlying6 tsz7 tby7 tz7 Try.underlying7 fo7_0 fo7_1 fo7_2 fo7_3 tsz8 tby8 tz8 Try.underlying8 fo8_0 fo8_1 fo8_2 fo8_3 tsz9 tby9 Try.underlying9 tsz10 tby10 Try.underlying10 tsz12 tby12 tz12 Try.underlying12 tsz16 tby16 tz16 Try.underlying16 tsz17 tby17 tz17 Try.underlying17 tsz20 tby20 tz20 Try.underlying20 tsz21 tby21 tz21 Try.underlying21 tsz22 tby22 tz22 Try.underlying22 tsz23 tby23 tz23 Try.underlying23 tsz24 tby24 tz24 Try.underlying24 fo24_0 fo24_1 tsz25 tby25 tz25 Try.underlying25 fo25_0 fo25_1 tsz32 tby32 tz32 Try.underlying32 tsz34 tby34 tz34 Try.underlying34 peq34 fo34_0 fo34_1 fo34_2 tsz35 tby35 tz35 Try.underlying35 peq35 fo35_0 fo35_1 fo35_2 tsz36 tby36 tz36 Try.underlying36 tsz40 tby40 tz40 Try.underlying40 tsz44 tby44 tz44 Try.underlying44 tsz52 tby52 tz52 Try.underlying52 tsz54 tby54 tz54 Try.underlying54 tsz56 tby56 tz56 Try.underlying56 fo56_0 fo56_1 tsz57 tby57 tz57 Try.underlying57 fo57_0 fo57_1 tsz60 tby60 tz60 Try.underlying60 tsz65 tby65 tz65 Try.underlying65 tsz73 tby73 tz73 Try.underlying73 tsz74 tby74 tz74 Try.underlying74 tsz75 tby75 tz75 Try.underlying75 tsz77 tby77 tz77 Try.underlying77 tsz78 tby78 tz78 Try.underlying78 tsz79 tby79 tz79 Try.underlying79 tsz80 tby80 tz80 Try.underlying80 tsz81 tby81 tz81 Try.underlying81 tsz82 tby82 tz82 Try.underlying82 tsz83 tby83 tz83 Try.underlying83 tsz84 tby84 tz84 Try.underlying84 fo84_0 fo84_1 fo84_2 fo84_3 fo84_4 fo84_5 fo84_6 fo84_7 fo84_8 fo84_9 fo84_10 tsz85 tby85 tz85 Try.underlying85 fo85_0 fo85_1 fo85_2 fo85_3 fo85_4 fo85_5 fo85_6 fo85_7 fo85_8 fo85_9 fo85_10 tsz86 tby86 tz86 Try.underlying86 l1InG l4BeforeG isNaNG cmpIntG cmpEndsG ftC
theorem k_spec_l20Rd_pick (a0_0 : List Int) (a0_1 : Int) (a1 : Int) {r : Int × Int} (h : spec_l20Rd_pick a0_0 a0_1 a1 = some r) :
    FnA Try.prog 19 [.pp 0 0, .v (.int .i64 a1)] [.box [.sl 1, .v (.int .i64 a0_1)], .row false (.ints .u8 a0_0)] [] (fun x H => x = .v (.int .i64 r.1) ∧ H = [.box [.sl 1, .v (.int .i64 r.2)], .row false (.ints .u8 a0_0)]) := by
  unfold spec_l20Rd_pick at h
  refine FnA.of (N := 99) (pin := [0, 1]) (rs := [.tmp 4]) Try.func19 rfl en19 rfl rfl (by simp) (by simp; try omega) ?_
  refine awp_reg ftCOk [(0, .pp 0 0), (1, .v (.int .i64 a1))] [.box [.sl 1, .v (.int .i64 a0_1)], .row false (.ints .u8 a0_0)] ?_
  replace h := chk_some h
  obtain ⟨hp0, h⟩ := h
  refine awp_reg ftCOk [(0, .pp 0 0), (1, .v (.int .i64 a1))] [.box [.sl 1, .v (.int .i64 (a0_1 + 1))], .row false (.ints .u8 a0_0)] ?_
  clear hp0
  refine awp_seq fun K2 hK2 => ?_
  refine awp_reg ftCOk [(0, .pp 0 0), (1, .v (.int .i64 a1)), (24, .v (.bool ((decide (a1 < 1)) || ((a0_0.length : Int) == 0))))] [.box [.sl 1, .v (.int .i64 (a0_1 + 1))], .row false (.ints .u8 a0_0)] ?_
  refine awp_cond (t := 24) rfl (fun hc3 => ?_) (fun hc3 => ?_)
  · replace h := bite_t h hc3
    refine awp_reg ftCOk [(4, .v (.int .i64 0))] [.box [.sl 1, .v (.int .i64 (a0_1 + 1))], .row false (.ints .u8 a0_0)] ?_
    refine awp_ret ?_
    (try simp only [Thn, InBlk, ↓reduceIte, Nat.reduceEqDiff])
    obtain rfl := Option.some.inj h
    refine ⟨by simp, _, [0, 1], (by simp only [go_sem, Nat.reduceBEq, Nat.reduceLT, Nat.reduceAdd, Nat.reduceLeDiff, Nat.reduceSub, Nat.reduceEqDiff, Int.reduceToNat, reduceCtorEq, ↓reduceIte]; exact rfl), ?_, ?_, ?_, ?_⟩
    · first | exact trivial | exact ⟨trivial, trivial⟩ | exact ⟨trivial, trivial, trivial⟩ | exact ⟨trivial, trivial, trivial, trivial⟩ | (simp only [allP, and_true, true_and]; done) | (simp only [allP, and_true, true_and]; omega)
    · simp [selOk, pos]
    · simp
    · first | exact ⟨rfl, rfl⟩ | (simp only [go_sem, Nat.reduceBEq, Nat.reduceLT, Nat.reduceAdd, Nat.reduceLeDiff, Nat.reduceSub, Nat.reduceEqDiff, Int.reduceToNat, reduceCtorEq, ↓reduceIte]; done) | (simp [go_sem, Nat.reduceBEq, Nat.reduceLT, Nat.reduceAdd, Nat.reduceLeDiff, Nat.reduceSub, Nat.reduceEqDiff, Int.reduceToNat, reduceCtorEq, ↓reduceIte]; done) | (simp only [go_sem, Nat.reduceBEq, Nat.reduceLT, Nat.reduceAdd, Nat.reduceLeDiff, Nat.reduceSub, Nat.reduceEqDiff, Int.reduceToNat, reduceCtorEq, ↓reduceIte]; exact ⟨rfl, rfl⟩) | (simp_all [go_sem, Nat.reduceBEq, Nat.reduceLT, Nat.reduceAdd, Nat.reduceLeDiff, Nat.reduceSub, Nat.reduceEqDiff, Int.reduceToNat, reduceCtorEq, ↓reduceIte]; done)
  · replace h := bite_f h hc3
    refine awp_skip ?_
    (try simp only [Thn, InBlk, ↓reduceIte, Nat.reduceEqDiff])
    refine hK2 _ _ ?_
    clear hK2
    replace h := chk_some h
    obtain ⟨hp0, h⟩ := h
    have hwhp0 := wrap_fits hp0.1 hp0.2
    refine awp_reg ftCOk [(0, .pp 0 0), (1, .v (.int .i64 a1)), (5, .v (.int .i64 ((a0_1 + 1) - 1)))] [.box [.sl 1, .v (.int .i64 (a0_1 + 1))], .row false (.ints .u8 a0_0)] ?_
    clear hp0
    refine awp_seq fun K5 hK5 => ?_
    refine awp_reg ftCOk [(0, .pp 0 0), (1, .v (.int .i64 a1)), (5, .v (.int .i64 ((a0_1 + 1) - 1))), (36, .v (.bool (decide (((a0_1 + 1) - 1) < (a0_0.length : Int)))))] [.box [.sl 1, .v (.int .i64 (a0_1 + 1))], .row false (.ints .u8 a0_0)] ?_
    refine awp_cond (t := 36) rfl (fun hc6 => ?_) (fun hc6 => ?_)
    · replace h := bite_t h hc6
      replace h := chk_some h
      obtain ⟨hp0, h⟩ := h
      replace h := chk_some h
      obtain ⟨hp1, h⟩ := h
      replace h := chk_some h
      obtain ⟨hp2, h⟩ := h
      refine awp_reg ftCOk [(4, .v (.int .i64 ((a0_0.getD (((a0_1 + 1) - 1).toNat) 0) % a1)))] [.box [.sl 1, .v (.int .i64 (a0_1 + 1))], .row false (.ints .u8 a0_0)] ?_
      clear hp0 hp1 hp2
      refine awp_ret ?_
      (try simp only [Thn, InBlk, ↓reduceIte, Nat.reduceEqDiff])
      obtain rfl := Option.some.inj h
      refine ⟨by simp, _, [0, 1], (by simp only [go_sem, Nat.reduceBEq, Nat.reduceLT, Nat.reduceAdd, Nat.reduceLeDiff, Nat.reduceSub, Nat.reduceEqDiff, Int.reduceToNat, reduceCtorEq, ↓reduceIte]; exact rfl), ?_, ?_, ?_, ?_⟩
      · first | exact trivial | exact ⟨trivial, trivial⟩ | exact ⟨trivial, trivial, trivial⟩ | exact ⟨trivial, trivial, trivial, trivial⟩ | (simp only [allP, and_true, true_and]; done) | (simp only [allP, and_true, true_and]; omega)
      · simp [selOk, pos]
      · simp
      · first | exact ⟨rfl, rfl⟩ | (simp only [go_sem, Nat.reduceBEq, Nat.reduceLT, Nat.reduceAdd, Nat.reduceLeDiff, Nat.reduceSub, Nat.reduceEqDiff, Int.reduceToNat, reduceCtorEq, ↓reduceIte]; done) | (simp [go_sem, Nat.reduceBEq, Nat.reduceLT, Nat.reduceAdd, Nat.reduceLeDiff, Nat.reduceSub, Nat.reduceEqDiff, Int.reduceToNat, reduceCtorEq, ↓reduceIte]; done) | (simp only [go_sem, Nat.reduceBEq, Nat.reduceLT, Nat.reduceAdd, Nat.reduceLeDiff, Nat.reduceSub, Nat.reduceEqDiff, Int.reduceToNat, reduceCtorEq, ↓reduceIte]; exact ⟨rfl, rfl⟩) | (simp_all [go_sem, Nat.reduceBEq, Nat.reduceLT, Nat.reduceAdd, Nat.reduceLeDiff, Nat.reduceSub, Nat.reduceEqDiff, Int.reduceToNat, reduceCtorEq, ↓reduceIte]; done)
    · replace h := bite_f h hc6
      refine awp_skip ?_
      (try simp only [Thn, InBlk, ↓reduceIte, Nat.reduceEqDiff])
      refine hK5 _ _ ?_
      clear hK5
      replace h := chk_some h
      obtain ⟨hp0, h⟩ := h
      replace h := chk_some h
      obtain ⟨hp1, h⟩ := h
      replace h := chk_some h
      obtain ⟨hp2, h⟩ := h
      replace h := chk_some h
      obtain ⟨hp3, h⟩ := h
      replace h := chk_some h
      obtain ⟨hp4, h⟩ := h
      replace h := chk_some h
      obtain ⟨hp5, h⟩ := h
      replace h := chk_some h
      obtain ⟨hp6, h⟩ := h
      replace h := chk_some h
      obtain ⟨hp7, h⟩ := h
      replace h := chk_some h
      obtain ⟨hp8, h⟩ := h
      replace h := chk_some h
      obtain ⟨hp9, h⟩ := h
      replace h := chk_some h
      obtain ⟨hp10, h⟩ := h
      replace h := chk_some h
      obtain ⟨hp11, h⟩ := h
      replace h := chk_some h
      obtain ⟨hp12, h⟩ := h
      replace h := chk_some h
      obtain ⟨hp13, h⟩ := h
      replace h := chk_some h
      obtain ⟨hp14, h⟩ := h
      replace h := chk_some h
      obtain ⟨hp15, h⟩ := h
      refine awp_regQ mixed ftCOk [(1, .v (.int .i64 a1)), (6, .v (.int .i64 (((((a0_0.getD ((((a0_1 + 1) - 1) % (a0_0.length : Int)).toNat) 0) * 131) + ((a0_0.getD ((((((a0_1 + 1) - 1) * 7) + 3) % (a0_0.length : Int)).toNat) 0) * 1117)) + (((a0_1 + 1) - 1) * 29)) + ((((a0_1 + 1) - 1) / (a0_0.length : Int)) * 53))))] [.box [.sl 1, .v (.int .i64 (a0_1 + 1))], .row false (.ints .u8 a0_0)] ?_
      clear hp0 hp1 hp2 hp3 hp4 hp5 hp6 hp7 hp8 hp9 hp10 hp11 hp12 hp13 hp14 hp15
      replace h := chk_some h
      obtain ⟨hp0, h⟩ := h
      refine awp_reg ftCOk [(1, .v (.int .i64 a1)), (6, .v (.int .i64 (bitsV .xor .i64 (((((a0_0.getD ((((a0_1 + 1) - 1) % (a0_0.length : Int)).toNat) 0) * 131) + ((a0_0.getD ((((((a0_1 + 1) - 1) * 7) + 3) % (a0_0.length : Int)).toNat) 0) * 1117)) + (((a0_1 + 1) - 1) * 29)) + ((((a0_1 + 1) - 1) / (a0_0.length : Int)) * 53)) ((((((a0_0.getD ((((a0_1 + 1) - 1) % (a0_0.length : Int)).toNat) 0) * 131) + ((a0_0.getD ((((((a0_1 + 1) - 1) * 7) + 3) % (a0_0.length : Int)).toNat) 0) * 1117)) + (((a0_1 + 1) - 1) * 29)) + ((((a0_1 + 1) - 1) / (a0_0.length : Int)) * 53)) / 64))))] [.box [.sl 1, .v (.int .i64 (a0_1 + 1))], .row false (.ints .u8 a0_0)] ?_
      clear hp0
      replace h := chk_some h
      obtain ⟨hp0, h⟩ := h
      refine awp_reg ftCOk [(4, .v (.int .i64 ((bitsV .xor .i64 (((((a0_0.getD ((((a0_1 + 1) - 1) % (a0_0.length : Int)).toNat) 0) * 131) + ((a0_0.getD ((((((a0_1 + 1) - 1) * 7) + 3) % (a0_0.length : Int)).toNat) 0) * 1117)) + (((a0_1 + 1) - 1) * 29)) + ((((a0_1 + 1) - 1) / (a0_0.length : Int)) * 53)) ((((((a0_0.getD ((((a0_1 + 1) - 1) % (a0_0.length : Int)).toNat) 0) * 131) + ((a0_0.getD ((((((a0_1 + 1) - 1) * 7) + 3) % (a0_0.length : Int)).toNat) 0) * 1117)) + (((a0_1 + 1) - 1) * 29)) + ((((a0_1 + 1) - 1) / (a0_0.length : Int)) * 53)) / 64)) % a1)))] [.box [.sl 1, .v (.int .i64 (a0_1 + 1))], .row false (.ints .u8 a0_0)] ?_
      clear hp0
      refine awp_ret ?_
      (try simp only [Thn, InBlk, ↓reduceIte, Nat.reduceEqDiff])
      obtain rfl := Option.some.inj h
      refine ⟨by simp, _, [0, 1], (by simp only [go_sem, Nat.reduceBEq, Nat.reduceLT, Nat.reduceAdd, Nat.reduceLeDiff, Nat.reduceSub, Nat.reduceEqDiff, Int.reduceToNat, reduceCtorEq, ↓reduceIte]; exact rfl), ?_, ?_, ?_, ?_⟩
      · first | exact trivial | exact ⟨trivial, trivial⟩ | exact ⟨trivial, trivial, trivial⟩ | exact ⟨trivial, trivial, trivial, trivial⟩ | (simp only [allP, and_true, true_and]; done) | (simp only [allP, and_true, true_and]; omega)
      · simp [selOk, pos]
      · simp
      · first | exact ⟨rfl, rfl⟩ | (simp only [go_sem, Nat.reduceBEq, Nat.reduceLT, Nat.reduceAdd, Nat.reduceLeDiff, Nat.reduceSub, Nat.reduceEqDiff, Int.reduceToNat, reduceCtorEq, ↓reduceIte]; done) | (simp [go_sem, Nat.reduceBEq, Nat.reduceLT, Nat.reduceAdd, Nat.reduceLeDiff, Nat.reduceSub, Nat.reduceEqDiff, Int.reduceToNat, reduceCtorEq, ↓reduceIte]; done) | (simp only [go_sem, Nat.reduceBEq, Nat.reduceLT, Nat.reduceAdd, Nat.reduceLeDiff, Nat.reduceSub, Nat.reduceEqDiff, Int.reduceToNat, reduceCtorEq, ↓reduceIte]; exact ⟨rfl, rfl⟩) | (simp_all [go_sem, Nat.reduceBEq, Nat.reduceLT, Nat.reduceAdd, Nat.reduceLeDiff, Nat.reduceSub, Nat.reduceEqDiff, Int.reduceToNat, reduceCtorEq, ↓reduceIte]; done)
theorem k_spec_l20Edge (a0_0 : List Int) (a0_1 : Int) (a1 : Int) {r : Int × Int × Int × Int} (h : spec_l20Edge a0_0 a0_1 a1 = some r) :
    FnA Try.prog 33 [.pp 0 0, .v (.int .i64 a1)] [.box [.sl 1, .v (.int .i64 a0_1)], .row false (.ints .u8 a0_0)] [] (fun x H => x = .agg [.v (.int .i64 r.1), .v (.int .i64 r.2.1), .v (.int .i64 r.2.2.1)] ∧ H = [.box [.sl 1, .v (.int .i64 r.2.2.2)], .row false (.ints .u8 a0_0)]) := by
  unfold spec_l20Edge at h
  refine FnA.of (N := 21) (pin := [0, 1]) (rs := [.cell 4 35]) Try.func33 rfl en33 rfl rfl (by simp) (by simp; try omega) ?_
  refine awp_reg ftCOk [(0, .pp 0 0), (1, .v (.int .i64 a1)), (4, .pp 2 0)] [.box [.sl 1, .v (.int .i64 a0_1)], .row false (.ints .u8 a0_0), .box [.v (.int .i64 0), .v (.int .i64 0), .v (.int .i64 0)]] ?_
  replace h := bind_some h
  obtain ⟨⟨y, y_1⟩, hr0, h⟩ := h
  try dsimp only at h
  replace h := bind_some h
  obtain ⟨⟨y_2, y_3⟩, hr1, h⟩ := h
  try dsimp only at h
  replace h := bind_some h
  obtain ⟨⟨y_4, y_5⟩, hr2, h⟩ := h
  try dsimp only at h
  replace h := bind_some h
  obtain ⟨⟨y_6, y_7⟩, hr3, h⟩ := h
  try dsimp only at h
  replace h := chk_some h
  obtain ⟨hp4, h⟩ := h
  refine awp_to [(4, .pp 2 0)] [.box [.sl 1, .v (.int .i64 y_7)], .row false (.ints .u8 a0_0), .box [.v (.int .i64 y), .v (.int .i64 y_2), .v (.int .i64 (([y_4, 0, 1, 20] : List Int).getD y_6.toNat 0))], .row true (.ints .i64 [y_4, 0, 1, 20])] ?_ ?_
  · clear h
    intro K hK
    refine awp_region ftCOk ?_
    simp (maxSteps := 4000000) only [go_sem, Nat.reduceBEq, Nat.reduceLT, Nat.reduceAdd, Nat.reduceLeDiff, Nat.reduceSub, Nat.reduceEqDiff, Int.reduceToNat, reduceCtorEq, ↓reduceIte]
    repeat' (first | refine And.intro ?_ ?_ | intro hg)
    all_goals (try simp (disch := omega) only [wrap_fits])
    all_goals first
      | (refine hK _ _ ?_; exact Red.auto)
      | exact trivial
      | assumption
      | omega
      | exact wrap_fits (by omega) (by omega)
      | (refine wpA_callA (k_spec_l20Rd_pick a0_0 a0_1 (max 1 a1) (h := hr0)) [0, 1] [] ?_
         rintro x Hc' ⟨rfl, rfl⟩ hlen
         refine vcOps_sound ftCOk ?_
         simp (maxSteps := 4000000) only [go_sem, Nat.reduceBEq, Nat.reduceLT, Nat.reduceAdd, Nat.reduceLeDiff, Nat.reduceSub, Nat.reduceEqDiff, Int.reduceToNat, reduceCtorEq, ↓reduceIte]
         repeat' (first | refine And.intro ?_ ?_ | intro hg)
         all_goals (try simp (disch := omega) only [wrap_fits])
         all_goals first
           | (refine hK _ _ ?_; exact Red.auto)
           | exact trivial
           | assumption
           | omega
           | exact wrap_fits (by omega) (by omega)
           | (refine wpA_callA (k_spec_l20Rd_pick a0_0 y_1 (max 1 a1) (h := hr1)) [0, 1] [] ?_
              rintro x Hc' ⟨rfl, rfl⟩ hlen
              refine vcOps_sound ftCOk ?_
              simp (maxSteps := 4000000) only [go_sem, Nat.reduceBEq, Nat.reduceLT, Nat.reduceAdd, Nat.reduceLeDiff, Nat.reduceSub, Nat.reduceEqDiff, Int.reduceToNat, reduceCtorEq, ↓reduceIte]
              repeat' (first | refine And.intro ?_ ?_ | intro hg)
              all_goals (try simp (disch := omega) only [wrap_fits])
              all_goals first
                | (refine hK _ _ ?_; exact Red.auto)
                | exact trivial
                | assumption
                | omega
                | exact wrap_fits (by omega) (by omega)
                | (refine wpA_callA (k_spec_l20Rd_pick a0_0 y_3 6 (h := hr2)) [0, 1] [] ?_
                   rintro x Hc' ⟨rfl, rfl⟩ hlen
                   refine vcOps_sound ftCOk ?_
                   simp (maxSteps := 4000000) only [go_sem, Nat.reduceBEq, Nat.reduceLT, Nat.reduceAdd, Nat.reduceLeDiff, Nat.reduceSub, Nat.reduceEqDiff, Int.reduceToNat, reduceCtorEq, ↓reduceIte]
                   repeat' (first | refine And.intro ?_ ?_ | intro hg)
                   all_goals (try simp (disch := omega) only [wrap_fits])
                   all_goals first
                     | (refine hK _ _ ?_; exact Red.auto)
                     | exact trivial
                     | assumption
                     | omega
                     | exact wrap_fits (by omega) (by omega)
                     | (refine wpA_callA (k_spec_l20Rd_pick a0_0 y_5 4 (h := hr3)) [0, 1] [] ?_
                        rintro x Hc' ⟨rfl, rfl⟩ hlen
                        refine vcOps_sound ftCOk ?_
                        simp (maxSteps := 4000000) only [go_sem, Nat.reduceBEq, Nat.reduceLT, Nat.reduceAdd, Nat.reduceLeDiff, Nat.reduceSub, Nat.reduceEqDiff, Int.reduceToNat, reduceCtorEq, ↓reduceIte]
                        repeat' (first | refine And.intro ?_ ?_ | intro hg)
                        all_goals (try simp (disch := omega) only [wrap_fits])
                        all_goals first
                          | (refine hK _ _ ?_; exact Red.auto)
                          | exact trivial
                          | assumption
                          | omega
                          | exact wrap_fits (by omega) (by omega)
                          | (simp_all; done)
                          | (simp_all; omega))
                     | (simp_all; done)
                     | (simp_all; omega))
                | (simp_all; done)
                | (simp_all; omega))
           | (simp_all; done)
           | (simp_all; omega))
      | (simp_all; done)
      | (simp_all; omega)
  · clear hr0 hr1 hr2 hr3 hp4
    refine awp_ret ?_
    (try simp only [Thn, InBlk, ↓reduceIte, Nat.reduceEqDiff])
    obtain rfl := Option.some.inj h
    refine ⟨by simp, _, [0, 1], (by simp only [go_sem, Nat.reduceBEq, Nat.reduceLT, Nat.reduceAdd, Nat.reduceLeDiff, Nat.reduceSub, Nat.reduceEqDiff, Int.reduceToNat, reduceCtorEq, ↓reduceIte]; exact rfl), ?_, ?_, ?_, ?_⟩
    · first | exact trivial | exact ⟨trivial, trivial⟩ | exact ⟨trivial, trivial, trivial⟩ | exact ⟨trivial, trivial, trivial, trivial⟩ | (simp only [allP, and_true, true_and]; done) | (simp only [allP, and_true, true_and]; omega)
    · simp [selOk, pos]
    · simp
    · first | exact ⟨rfl, rfl⟩ | (simp only [go_sem, Nat.reduceBEq, Nat.reduceLT, Nat.reduceAdd, Nat.reduceLeDiff, Nat.reduceSub, Nat.reduceEqDiff, Int.reduceToNat, reduceCtorEq, ↓reduceIte]; done) | (simp [go_sem, Nat.reduceBEq, Nat.reduceLT, Nat.reduceAdd, Nat.reduceLeDiff, Nat.reduceSub, Nat.reduceEqDiff, Int.reduceToNat, reduceCtorEq, ↓reduceIte]; done) | (simp only [go_sem, Nat.reduceBEq, Nat.reduceLT, Nat.reduceAdd, Nat.reduceLeDiff, Nat.reduceSub, Nat.reduceEqDiff, Int.reduceToNat, reduceCtorEq, ↓reduceIte]; exact ⟨rfl, rfl⟩) | (simp_all [go_sem, Nat.reduceBEq, Nat.reduceLT, Nat.reduceAdd, Nat.reduceLeDiff, Nat.reduceSub, Nat.reduceEqDiff, Int.reduceToNat, reduceCtorEq, ↓reduceIte]; done)
theorem k_spec_l1OwnGraph (a0_0 : Int) (a0_1 : List (Int × Int × Int)) {r : Int × (List (Int × Int × Int))} (h : spec_l1OwnGraph a0_0 a0_1 = some r) :
    FnA Try.prog 22 [.agg [.v (.int .i64 a0_0), .sl 0]] [.row false (.trips a0_1)] [] (fun x H => x = .agg [.v (.int .i64 r.1), .sl 1] ∧ H = [.row false (.trips a0_1), .row true (.trips r.2)]) := by
  unfold spec_l1OwnGraph at h
  refine FnA.of (N := 11) (pin := [0]) (rs := [.cell 2 25]) Try.func22 rfl en22 rfl rfl (by simp) (by simp; try omega) ?_
  refine awp_reg ftCOk [(1, .pp 1 0), (2, .pp 2 0)] [.row false (.trips a0_1), .box [.v (.int .i64 a0_0), .sl 0], .box [.v (.int .i64 0), .v (.slice none 0 0)]] ?_
  refine awp_freeze 1 (by rfl) (by rfl) (by exact rfl) ?_
  refine awp_reg ftCOk [(1, .pp 1 0), (2, .pp 2 0), (3, .pp 3 0)] [.row false (.trips a0_1), .rbox [.v (.int .i64 a0_0), .sl 0], .box [.v (.int .i64 0), .v (.slice none 0 0)], .box [.v (.int .i64 a0_0), .sl 0]] ?_
  replace h := chk_some h
  obtain ⟨hp0, h⟩ := h
  refine awp_reg ftCOk [(2, .pp 2 0), (3, .pp 3 0)] [.row false (.trips a0_1), .rbox [.v (.int .i64 a0_0), .sl 0], .box [.v (.int .i64 0), .v (.slice none 0 0)], .box [.v (.int .i64 a0_0), .sl 4], .row true (.trips ([] ++ a0_1))] ?_
  clear hp0
  refine awp_reg ftCOk [(2, .pp 2 0)] [.row false (.trips a0_1), .rbox [.v (.int .i64 a0_0), .sl 0], .box [.v (.int .i64 a0_0), .sl 4], .box [.v (.int .i64 a0_0), .sl 4], .row true (.trips ([] ++ a0_1))] ?_
  refine awp_ret ?_
  (try simp only [Thn, InBlk, ↓reduceIte, Nat.reduceEqDiff])
  obtain rfl := Option.some.inj h
  refine ⟨by simp, _, [0, 4], (by simp only [go_sem, Nat.reduceBEq, Nat.reduceLT, Nat.reduceAdd, Nat.reduceLeDiff, Nat.reduceSub, Nat.reduceEqDiff, Int.reduceToNat, reduceCtorEq, ↓reduceIte]; exact rfl), ?_, ?_, ?_, ?_⟩
  · first | exact trivial | exact ⟨trivial, trivial⟩ | exact ⟨trivial, trivial, trivial⟩ | exact ⟨trivial, trivial, trivial, trivial⟩ | (simp only [allP, and_true, true_and]; done) | (simp only [allP, and_true, true_and]; omega)
  · simp [selOk, pos]
  · simp
  · first | exact ⟨rfl, rfl⟩ | (simp only [go_sem, Nat.reduceBEq, Nat.reduceLT, Nat.reduceAdd, Nat.reduceLeDiff, Nat.reduceSub, Nat.reduceEqDiff, Int.reduceToNat, reduceCtorEq, ↓reduceIte]; done) | (simp [go_sem, Nat.reduceBEq, Nat.reduceLT, Nat.reduceAdd, Nat.reduceLeDiff, Nat.reduceSub, Nat.reduceEqDiff, Int.reduceToNat, reduceCtorEq, ↓reduceIte]; done) | (simp only [go_sem, Nat.reduceBEq, Nat.reduceLT, Nat.reduceAdd, Nat.reduceLeDiff, Nat.reduceSub, Nat.reduceEqDiff, Int.reduceToNat, reduceCtorEq, ↓reduceIte]; exact ⟨rfl, rfl⟩) | (simp_all [go_sem, Nat.reduceBEq, Nat.reduceLT, Nat.reduceAdd, Nat.reduceLeDiff, Nat.reduceSub, Nat.reduceEqDiff, Int.reduceToNat, reduceCtorEq, ↓reduceIte]; done)
theorem k_spec_GraphValid (a0_0 : Int) (a0_1 : List (Int × Int × Int)) {r : Bool} (h : spec_GraphValid a0_0 a0_1 = some r) :
    FnA Try.prog 9 [.agg [.v (.int .i64 a0_0), .sl 0]] [.row false (.trips a0_1)] [] (fun x H => x = .v (.bool r) ∧ H = [.row false (.trips a0_1)]) := by
  unfold spec_GraphValid at h
  refine FnA.of (N := 70) (pin := [0]) (rs := [.tmp 2]) Try.func9 rfl en9 rfl rfl (by simp) (by simp; try omega) ?_
  refine awp_reg ftCOk [(1, .pp 1 0)] [.row false (.trips a0_1), .box [.v (.int .i64 a0_0), .sl 0]] ?_
  refine awp_freeze 1 (by rfl) (by rfl) (by exact rfl) ?_
  refine awp_seq fun K20 hK20 => ?_
  refine awp_reg ftCOk [(1, .pp 1 0), (3, .v (.int .i64 0))] [.row false (.trips a0_1), .rbox [.v (.int .i64 a0_0), .sl 0]] ?_
  refine awp_block ?_
  replace h := bind_some h
  obtain ⟨x39, hx, h⟩ := h
  refine awp_loopL hx (fun (t3 : Int) => [(1, .pp 1 0), (3, .v (.int .i64 t3))]) (fun (t3 : Int) => [.row false (.trips a0_1), .rbox [.v (.int .i64 a0_0), .sl 0]]) (Sum.elim (fun (_ : Unit) => Exit.exit 0) (fun (_ : Unit) => Exit.ret)) (Sum.elim (fun (_ : Unit) => [(1, .pp 1 0)]) (fun (_ : Unit) => [(2, .v (.bool false))])) (Sum.elim (fun (_ : Unit) => [.row false (.trips a0_1), .rbox [.v (.int .i64 a0_0), .sl 0]]) (fun (_ : Unit) => [.row false (.trips a0_1)])) ?_ ?_ ?_ ?_
  · rintro (⟨⟩ | ⟨⟩) hy <;> cases hy
  · clear h hx
    exact Red.auto
  · clear h hx
    rintro t3 r h
    unfold spec_GraphValid_b0 at h
    try dsimp only at h
    try dsimp only
    refine awp_seq fun K34 hK34 => ?_
    refine awp_reg ftCOk [(1, .pp 1 0), (3, .v (.int .i64 t3)), (9, .v (.bool (decide (t3 < (a0_1.length : Int)))))] [.row false (.trips a0_1), .rbox [.v (.int .i64 a0_0), .sl 0]] ?_
    refine awp_cond (t := 9) rfl (fun hc35 => ?_) (fun hc35 => ?_)
    · replace h := bite_t h hc35
      refine awp_skip ?_
      (try simp only [Thn, InBlk, ↓reduceIte, Nat.reduceEqDiff])
      refine hK34 _ _ ?_
      clear hK34
      refine awp_seq fun K37 hK37 => ?_
      refine awp_block ?_
      replace h := chk_some h
      obtain ⟨hp0, h⟩ := h
      refine awp_reg ftCOk [(1, .pp 1 0), (3, .v (.int .i64 t3)), (4, .pp 2 0)] [.row false (.trips a0_1), .rbox [.v (.int .i64 a0_0), .sl 0], .box [.v (.int .i64 ((a0_1.getD t3.toNat (0, 0, 0)).1)), .v (.int .i64 ((a0_1.getD t3.toNat (0, 0, 0)).2.1)), .v (.int .i64 ((a0_1.getD t3.toNat (0, 0, 0)).2.2))]] ?_
      clear hp0
      replace h := chk_some h
      obtain ⟨hp0, h⟩ := h
      have hwhp0 := wrap_fits hp0.1 hp0.2
      replace h := chk_some h
      obtain ⟨hp1, h⟩ := h
      refine awp_to [(1, .pp 1 0), (3, .v (.int .i64 t3)), (60, .v (.bool (((((!(decide (0 ≤ (a0_1.getD t3.toNat (0, 0, 0)).1) && decide ((a0_1.getD t3.toNat (0, 0, 0)).1 ≤ (IntKind.i64.wrap (a0_0 - 1))))) || (!(decide (0 ≤ (a0_1.getD t3.toNat (0, 0, 0)).2.1) && decide ((a0_1.getD t3.toNat (0, 0, 0)).2.1 ≤ (IntKind.i64.wrap (a0_0 - 1)))))) || ((a0_1.getD t3.toNat (0, 0, 0)).1 == (a0_1.getD t3.toNat (0, 0, 0)).2.1)) || (!(decide (0 ≤ (a0_1.getD t3.toNat (0, 0, 0)).2.2) && decide ((a0_1.getD t3.toNat (0, 0, 0)).2.2 ≤ 20)))) || ((decide (0 < t3)) && (!(decide ((a0_1.getD ((t3 - 1).toNat) (0, 0, 0)).1 < (a0_1.getD t3.toNat (0, 0, 0)).1 ∨ (a0_1.getD ((t3 - 1).toNat) (0, 0, 0)).1 = (a0_1.getD t3.toNat (0, 0, 0)).1 ∧ (a0_1.getD ((t3 - 1).toNat) (0, 0, 0)).2.1 < (a0_1.getD t3.toNat (0, 0, 0)).2.1)))))))] [.row false (.trips a0_1), .rbox [.v (.int .i64 a0_0), .sl 0], .box [.v (.int .i64 ((a0_1.getD t3.toNat (0, 0, 0)).1)), .v (.int .i64 ((a0_1.getD t3.toNat (0, 0, 0)).2.1)), .v (.int .i64 ((a0_1.getD t3.toNat (0, 0, 0)).2.2))]] ?_ ?_
      · clear h
        intro K hK
        refine awp_quietg mixed ftCOk (by kernel_rfl) ?_
        simp (maxSteps := 4000000) only [go_sem, Nat.reduceBEq, Nat.reduceLT, Nat.reduceAdd, Nat.reduceLeDiff, Nat.reduceSub, Nat.reduceEqDiff, Int.reduceToNat, reduceCtorEq, ↓reduceIte]
        repeat' (first | refine And.intro ?_ ?_ | intro hg)
        all_goals (try simp (disch := omega) only [wrap_fits])
        all_goals first
          | (refine hK _ _ ?_; exact Red.auto)
          | exact trivial
          | assumption
          | omega
          | exact wrap_fits (by omega) (by omega)
          | (have hq := hp1 (by first | assumption | (simp only [*, Bool.false_or, Bool.true_or, Bool.or_false, Bool.or_true, Bool.false_and, Bool.true_and, Bool.and_false, Bool.and_true, Bool.not_true, Bool.not_false, beq_self_eq_true]; done) | (simp_all; done)) (by first | assumption | (simp only [*, Bool.false_or, Bool.true_or, Bool.or_false, Bool.or_true, Bool.false_and, Bool.true_and, Bool.and_false, Bool.and_true, Bool.not_true, Bool.not_false, beq_self_eq_true]; done) | (simp_all; done)); omega)
          | (simp_all; done)
          | (simp_all; omega)
      · clear hp0 hp1
        refine awp_cond (t := 60) rfl (fun hc38 => ?_) (fun hc38 => ?_)
        · replace h := bite_t h hc38
          refine awp_reg ftCOk [(2, .v (.bool false))] [.row false (.trips a0_1), .rbox [.v (.int .i64 a0_0), .sl 0], .box [.v (.int .i64 ((a0_1.getD t3.toNat (0, 0, 0)).1)), .v (.int .i64 ((a0_1.getD t3.toNat (0, 0, 0)).2.1)), .v (.int .i64 ((a0_1.getD t3.toNat (0, 0, 0)).2.2))]] ?_
          refine awp_ret ?_
          (try simp only [Thn, InBlk, ↓reduceIte, Nat.reduceEqDiff])
          obtain rfl := Option.some.inj h
          refine LoopQ.out rfl ?_
          exact Red.selA [0] Red.auto
        · replace h := bite_f h hc38
          refine awp_skip ?_
          (try simp only [Thn, InBlk, ↓reduceIte, Nat.reduceEqDiff])
          (try simp only [Thn, InBlk, ↓reduceIte, Nat.reduceEqDiff])
          refine hK37 _ _ ?_
          clear hK37
          replace h := chk_some h
          obtain ⟨hp0, h⟩ := h
          refine awp_regE ftCOk [(1, .pp 1 0), (3, .v (.int .i64 (t3 + 1)))] [.row false (.trips a0_1), .rbox [.v (.int .i64 a0_0), .sl 0], .box [.v (.int .i64 ((a0_1.getD t3.toNat (0, 0, 0)).1)), .v (.int .i64 ((a0_1.getD t3.toNat (0, 0, 0)).2.1)), .v (.int .i64 ((a0_1.getD t3.toNat (0, 0, 0)).2.2))]] ?_
          clear hp0
          obtain rfl := Option.some.inj h
          refine LoopQ.next ?_
          exact Red.selA [0, 1] Red.auto
    · replace h := bite_f h hc35
      refine awp_exit ?_
      (try simp only [Thn, InBlk, ↓reduceIte, Nat.reduceEqDiff])
      obtain rfl := Option.some.inj h
      refine LoopQ.out rfl ?_
      exact Red.auto
  · clear hx
    rcases x39 with (⟨⟩ | ⟨⟩)
    · try dsimp only [Sum.elim_inl, Sum.elim_inr] at h
      try dsimp only [Sum.elim_inl, Sum.elim_inr]
      (try simp only [Thn, InBlk, ↓reduceIte, Nat.reduceEqDiff])
      (try simp only [Thn, InBlk, ↓reduceIte, Nat.reduceEqDiff])
      (try simp only [Thn, InBlk, ↓reduceIte, Nat.reduceEqDiff])
      refine hK20 _ _ ?_
      clear hK20
      refine awp_reg ftCOk [(2, .v (.bool ((decide (0 ≤ a0_0) && decide (a0_0 ≤ 16)) && (decide ((a0_1.length : Int) ≤ 40)))))] [.row false (.trips a0_1), .rbox [.v (.int .i64 a0_0), .sl 0]] ?_
      refine awp_ret ?_
      (try simp only [Thn, InBlk, ↓reduceIte, Nat.reduceEqDiff])
      obtain rfl := Option.some.inj h
      refine ⟨by simp, _, [0], (by simp only [go_sem, Nat.reduceBEq, Nat.reduceLT, Nat.reduceAdd, Nat.reduceLeDiff, Nat.reduceSub, Nat.reduceEqDiff, Int.reduceToNat, reduceCtorEq, ↓reduceIte]; exact rfl), ?_, ?_, ?_, ?_⟩
      · first | exact trivial | exact ⟨trivial, trivial⟩ | exact ⟨trivial, trivial, trivial⟩ | exact ⟨trivial, trivial, trivial, trivial⟩ | (simp only [allP, and_true, true_and]; done) | (simp only [allP, and_true, true_and]; omega)
      · simp [selOk, pos]
      · simp
      · first | exact ⟨rfl, rfl⟩ | (simp only [go_sem, Nat.reduceBEq, Nat.reduceLT, Nat.reduceAdd, Nat.reduceLeDiff, Nat.reduceSub, Nat.reduceEqDiff, Int.reduceToNat, reduceCtorEq, ↓reduceIte]; done) | (simp [go_sem, Nat.reduceBEq, Nat.reduceLT, Nat.reduceAdd, Nat.reduceLeDiff, Nat.reduceSub, Nat.reduceEqDiff, Int.reduceToNat, reduceCtorEq, ↓reduceIte]; done) | (simp only [go_sem, Nat.reduceBEq, Nat.reduceLT, Nat.reduceAdd, Nat.reduceLeDiff, Nat.reduceSub, Nat.reduceEqDiff, Int.reduceToNat, reduceCtorEq, ↓reduceIte]; exact ⟨rfl, rfl⟩) | (simp_all [go_sem, Nat.reduceBEq, Nat.reduceLT, Nat.reduceAdd, Nat.reduceLeDiff, Nat.reduceSub, Nat.reduceEqDiff, Int.reduceToNat, reduceCtorEq, ↓reduceIte]; done)
    · try dsimp only [Sum.elim_inl, Sum.elim_inr] at h
      try dsimp only [Sum.elim_inl, Sum.elim_inr]
      (try simp only [Thn, InBlk, ↓reduceIte, Nat.reduceEqDiff])
      obtain rfl := Option.some.inj h
      refine ⟨by simp, _, [0], (by simp only [go_sem, Nat.reduceBEq, Nat.reduceLT, Nat.reduceAdd, Nat.reduceLeDiff, Nat.reduceSub, Nat.reduceEqDiff, Int.reduceToNat, reduceCtorEq, ↓reduceIte]; exact rfl), ?_, ?_, ?_, ?_⟩
      · first | exact trivial | exact ⟨trivial, trivial⟩ | exact ⟨trivial, trivial, trivial⟩ | exact ⟨trivial, trivial, trivial, trivial⟩ | (simp only [allP, and_true, true_and]; done) | (simp only [allP, and_true, true_and]; omega)
      · simp [selOk, pos]
      · simp
      · first | exact ⟨rfl, rfl⟩ | (simp only [go_sem, Nat.reduceBEq, Nat.reduceLT, Nat.reduceAdd, Nat.reduceLeDiff, Nat.reduceSub, Nat.reduceEqDiff, Int.reduceToNat, reduceCtorEq, ↓reduceIte]; done) | (simp [go_sem, Nat.reduceBEq, Nat.reduceLT, Nat.reduceAdd, Nat.reduceLeDiff, Nat.reduceSub, Nat.reduceEqDiff, Int.reduceToNat, reduceCtorEq, ↓reduceIte]; done) | (simp only [go_sem, Nat.reduceBEq, Nat.reduceLT, Nat.reduceAdd, Nat.reduceLeDiff, Nat.reduceSub, Nat.reduceEqDiff, Int.reduceToNat, reduceCtorEq, ↓reduceIte]; exact ⟨rfl, rfl⟩) | (simp_all [go_sem, Nat.reduceBEq, Nat.reduceLT, Nat.reduceAdd, Nat.reduceLeDiff, Nat.reduceSub, Nat.reduceEqDiff, Int.reduceToNat, reduceCtorEq, ↓reduceIte]; done)
theorem k_spec_AddEdge (a0_0 : Int) (a0_1 : List (Int × Int × Int)) (a1_0 : Int) (a1_1 : Int) (a1_2 : Int) {r : Int × (List (Int × Int × Int)) × Bool} (h : spec_AddEdge a0_0 a0_1 a1_0 a1_1 a1_2 = some r) :
    FnA Try.prog 32 [.agg [.v (.int .i64 a0_0), .sl 0], .agg [.v (.int .i64 a1_0), .v (.int .i64 a1_1), .v (.int .i64 a1_2)]] [.row false (.trips a0_1)] [] (fun x H => x = .tup [.agg [.v (.int .i64 r.1), .sl 1], .v (.bool r.2.2)] ∧ H = [.row false (.trips a0_1), .row true (.trips r.2.1)]) := by
  unfold spec_AddEdge at h
  refine FnA.of (N := 82) (pin := [0]) (rs := [.cell 4 25, .tmp 5]) Try.func32 rfl en32 rfl rfl (by simp) (by simp; try omega) ?_
  refine awp_reg ftCOk [(2, .pp 1 0), (3, .pp 2 0), (4, .pp 3 0)] [.row false (.trips a0_1), .box [.v (.int .i64 a0_0), .sl 0], .box [.v (.int .i64 a1_0), .v (.int .i64 a1_1), .v (.int .i64 a1_2)], .box [.v (.int .i64 0), .v (.slice none 0 0)]] ?_
  refine awp_freeze 3 (by rfl) (by rfl) (by exact rfl) ?_
  replace h := bind_some h
  obtain ⟨⟨y, y_1⟩, hr0, h⟩ := h
  try dsimp only at h
  refine awp_to [(2, .pp 1 0), (3, .pp 2 0), (4, .pp 3 0)] [.row false (.trips a0_1), .box [.v (.int .i64 y), .sl 4], .rbox [.v (.int .i64 a1_0), .v (.int .i64 a1_1), .v (.int .i64 a1_2)], .box [.v (.int .i64 0), .v (.slice none 0 0)], .row true (.trips y_1)] ?_ ?_
  · clear h
    intro K hK
    refine awp_region ftCOk ?_
    simp (maxSteps := 4000000) only [go_sem, Nat.reduceBEq, Nat.reduceLT, Nat.reduceAdd, Nat.reduceLeDiff, Nat.reduceSub, Nat.reduceEqDiff, Int.reduceToNat, reduceCtorEq, ↓reduceIte]
    repeat' (first | refine And.intro ?_ ?_ | intro hg)
    all_goals (try simp (disch := omega) only [wrap_fits])
    all_goals first
      | (refine hK _ _ ?_; exact Red.auto)
      | exact trivial
      | assumption
      | omega
      | exact wrap_fits (by omega) (by omega)
      | (refine wpA_callA (k_spec_l1OwnGraph a0_0 a0_1 (h := hr0)) [0] [] ?_
         rintro x Hc' ⟨rfl, rfl⟩ hlen
         refine vcOps_sound ftCOk ?_
         simp (maxSteps := 4000000) only [go_sem, Nat.reduceBEq, Nat.reduceLT, Nat.reduceAdd, Nat.reduceLeDiff, Nat.reduceSub, Nat.reduceEqDiff, Int.reduceToNat, reduceCtorEq, ↓reduceIte]
         repeat' (first | refine And.intro ?_ ?_ | intro hg)
         all_goals (try simp (disch := omega) only [wrap_fits])
         all_goals first
           | (refine hK _ _ ?_; exact Red.auto)
           | exact trivial
           | assumption
           | omega
           | exact wrap_fits (by omega) (by omega)
           | (simp_all; done)
           | (simp_all; omega))
      | (simp_all; done)
      | (simp_all; omega)
  · clear hr0
    refine awp_seq fun K2 hK2 => ?_
    replace h := bind_some h
    obtain ⟨y_2, hr0, h⟩ := h
    try dsimp only at h
    refine awp_to [(2, .pp 1 0), (3, .pp 2 0), (4, .pp 3 0), (14, .v (.bool (!y_2)))] [.row false (.trips a0_1), .box [.v (.int .i64 y), .sl 4], .rbox [.v (.int .i64 a1_0), .v (.int .i64 a1_1), .v (.int .i64 a1_2)], .box [.v (.int .i64 0), .v (.slice none 0 0)], .row true (.trips y_1)] ?_ ?_
    · clear h
      intro K hK
      refine awp_region ftCOk ?_
      simp (maxSteps := 4000000) only [go_sem, Nat.reduceBEq, Nat.reduceLT, Nat.reduceAdd, Nat.reduceLeDiff, Nat.reduceSub, Nat.reduceEqDiff, Int.reduceToNat, reduceCtorEq, ↓reduceIte]
      repeat' (first | refine And.intro ?_ ?_ | intro hg)
      all_goals (try simp (disch := omega) only [wrap_fits])
      all_goals first
        | (refine hK _ _ ?_; exact Red.auto)
        | exact trivial
        | assumption
        | omega
        | exact wrap_fits (by omega) (by omega)
        | (refine wpA_callA (k_spec_GraphValid y y_1 (h := hr0)) [4] [] ?_
           rintro x Hc' ⟨rfl, rfl⟩ hlen
           refine vcOps_sound ftCOk ?_
           simp (maxSteps := 4000000) only [go_sem, Nat.reduceBEq, Nat.reduceLT, Nat.reduceAdd, Nat.reduceLeDiff, Nat.reduceSub, Nat.reduceEqDiff, Int.reduceToNat, reduceCtorEq, ↓reduceIte]
           repeat' (first | refine And.intro ?_ ?_ | intro hg)
           all_goals (try simp (disch := omega) only [wrap_fits])
           all_goals first
             | (refine hK _ _ ?_; exact Red.auto)
             | exact trivial
             | assumption
             | omega
             | exact wrap_fits (by omega) (by omega)
             | (simp_all; done)
             | (simp_all; omega))
        | (simp_all; done)
        | (simp_all; omega)
    · clear hr0
      refine awp_cond (t := 14) rfl (fun hc3 => ?_) (fun hc3 => ?_)
      · replace h := bite_t h hc3
        refine awp_reg ftCOk [(4, .pp 3 0), (5, .v (.bool false))] [.row false (.trips a0_1), .box [.v (.int .i64 y), .sl 4], .rbox [.v (.int .i64 a1_0), .v (.int .i64 a1_1), .v (.int .i64 a1_2)], .box [.v (.int .i64 0), .v (.slice none 0 0)], .row true (.trips y_1)] ?_
        refine awp_red (Red.nilCell (o := 3) (i := 1) (.trips []) rfl rfl rfl) ?_
        refine awp_ret ?_
        (try simp only [Thn, InBlk, ↓reduceIte, Nat.reduceEqDiff])
        obtain rfl := Option.some.inj h
        refine ⟨by simp, _, [0, 5], (by simp only [go_sem, Nat.reduceBEq, Nat.reduceLT, Nat.reduceAdd, Nat.reduceLeDiff, Nat.reduceSub, Nat.reduceEqDiff, Int.reduceToNat, reduceCtorEq, ↓reduceIte]; exact rfl), ?_, ?_, ?_, ?_⟩
        · first | exact trivial | exact ⟨trivial, trivial⟩ | exact ⟨trivial, trivial, trivial⟩ | exact ⟨trivial, trivial, trivial, trivial⟩ | (simp only [allP, and_true, true_and]; done) | (simp only [allP, and_true, true_and]; omega)
        · simp [selOk, pos]
        · simp
        · first | exact ⟨rfl, rfl⟩ | (simp only [go_sem, Nat.reduceBEq, Nat.reduceLT, Nat.reduceAdd, Nat.reduceLeDiff, Nat.reduceSub, Nat.reduceEqDiff, Int.reduceToNat, reduceCtorEq, ↓reduceIte]; done) | (simp [go_sem, Nat.reduceBEq, Nat.reduceLT, Nat.reduceAdd, Nat.reduceLeDiff, Nat.reduceSub, Nat.reduceEqDiff, Int.reduceToNat, reduceCtorEq, ↓reduceIte]; done) | (simp only [go_sem, Nat.reduceBEq, Nat.reduceLT, Nat.reduceAdd, Nat.reduceLeDiff, Nat.reduceSub, Nat.reduceEqDiff, Int.reduceToNat, reduceCtorEq, ↓reduceIte]; exact ⟨rfl, rfl⟩) | (simp_all [go_sem, Nat.reduceBEq, Nat.reduceLT, Nat.reduceAdd, Nat.reduceLeDiff, Nat.reduceSub, Nat.reduceEqDiff, Int.reduceToNat, reduceCtorEq, ↓reduceIte]; done)
      · replace h := bite_f h hc3
        refine awp_skip ?_
        (try simp only [Thn, InBlk, ↓reduceIte, Nat.reduceEqDiff])
        refine hK2 _ _ ?_
        clear hK2
        refine awp_reg ftCOk [(2, .pp 1 0), (3, .pp 2 0), (4, .pp 3 0), (6, .pp 5 0)] [.row false (.trips a0_1), .box [.v (.int .i64 y), .sl 4], .rbox [.v (.int .i64 a1_0), .v (.int .i64 a1_1), .v (.int .i64 a1_2)], .box [.v (.int .i64 0), .v (.slice none 0 0)], .row true (.trips y_1), .box [.v (.int .i64 y), .v (.slice none 0 0)]] ?_
        refine awp_reg ftCOk [(2, .pp 1 0), (3, .pp 2 0), (4, .pp 3 0), (6, .pp 5 0), (7, .v (.bool false))] [.row false (.trips a0_1), .box [.v (.int .i64 y), .sl 4], .rbox [.v (.int .i64 a1_0), .v (.int .i64 a1_1), .v (.int .i64 a1_2)], .box [.v (.int .i64 0), .v (.slice none 0 0)], .row true (.trips y_1), .box [.v (.int .i64 y), .v (.slice none 0 0)]] ?_
        refine awp_seq fun K49 hK49 => ?_
        refine awp_reg ftCOk [(2, .pp 1 0), (3, .pp 2 0), (4, .pp 3 0), (6, .pp 5 0), (7, .v (.bool false)), (8, .v (.int .i64 0))] [.row false (.trips a0_1), .box [.v (.int .i64 y), .sl 4], .rbox [.v (.int .i64 a1_0), .v (.int .i64 a1_1), .v (.int .i64 a1_2)], .box [.v (.int .i64 0), .v (.slice none 0 0)], .row true (.trips y_1), .box [.v (.int .i64 y), .v (.slice none 0 0)]] ?_
        refine awp_block ?_
        replace h := bind_some h
        obtain ⟨x94, hx, h⟩ := h
        refine awp_loopL hx (fun ((t7, t8, t6_1s) : Bool × Int × (List (Int × Int × Int))) => [(2, .pp 1 0), (3, .pp 3 0), (4, .pp 4 0), (6, .pp 5 0), (7, .v (.bool t7)), (8, .v (.int .i64 t8))]) (fun ((t7, t8, t6_1s) : Bool × Int × (List (Int × Int × Int))) => [.row false (.trips a0_1), .box [.v (.int .i64 y), .sl 2], .row true (.trips y_1), .rbox [.v (.int .i64 a1_0), .v (.int .i64 a1_1), .v (.int .i64 a1_2)], .box [.v (.int .i64 0), .v (.slice none 0 0)], .box [.v (.int .i64 y), .sl 6], .row true (.trips t6_1s)]) (fun ((t7_1, t6_1s_1) : Bool × (List (Int × Int × Int))) => Exit.exit 0) (fun ((t7_1, t6_1s_1) : Bool × (List (Int × Int × Int))) => [(2, .pp 1 0), (3, .pp 3 0), (4, .pp 4 0), (6, .pp 5 0), (7, .v (.bool t7_1))]) (fun ((t7_1, t6_1s_1) : Bool × (List (Int × Int × Int))) => [.row false (.trips a0_1), .box [.v (.int .i64 y), .sl 2], .row true (.trips y_1), .rbox [.v (.int .i64 a1_0), .v (.int .i64 a1_1), .v (.int .i64 a1_2)], .box [.v (.int .i64 0), .v (.slice none 0 0)], .box [.v (.int .i64 y), .sl 6], .row true (.trips t6_1s_1)]) ?_ ?_ ?_ ?_
        · rintro ⟨t7_1, t6_1s_1⟩ hy <;> cases hy
        · clear h hx
          refine Red.trans (Red.nilCell (o := 5) (i := 1) (.trips []) rfl rfl rfl) ?_
          exact Red.selA [0, 1, 4, 2, 3, 5, 6] Red.auto
        · clear h hx
          rintro ⟨t7, t8, t6_1s⟩ r h
          unfold spec_AddEdge_b0 at h
          try dsimp only at h
          try dsimp only
          refine awp_seq fun K84 hK84 => ?_
          refine awp_reg ftCOk [(2, .pp 1 0), (3, .pp 3 0), (4, .pp 4 0), (6, .pp 5 0), (7, .v (.bool t7)), (8, .v (.int .i64 t8)), (23, .v (.bool (decide (t8 < (y_1.length : Int)))))] [.row false (.trips a0_1), .box [.v (.int .i64 y), .sl 2], .row true (.trips y_1), .rbox [.v (.int .i64 a1_0), .v (.int .i64 a1_1), .v (.int .i64 a1_2)], .box [.v (.int .i64 0), .v (.slice none 0 0)], .box [.v (.int .i64 y), .sl 6], .row true (.trips t6_1s)] ?_
          refine awp_cond (t := 23) rfl (fun hc85 => ?_) (fun hc85 => ?_)
          · replace h := bite_t h hc85
            refine awp_skip ?_
            (try simp only [Thn, InBlk, ↓reduceIte, Nat.reduceEqDiff])
            refine hK84 _ _ ?_
            clear hK84
            refine awp_join h (fun ((t7_2, t6_1s_2) : Bool × (List (Int × Int × Int))) => [(2, .pp 1 0), (3, .pp 3 0), (4, .pp 4 0), (6, .pp 5 0), (7, .v (.bool t7_2)), (8, .v (.int .i64 t8))]) (fun ((t7_2, t6_1s_2) : Bool × (List (Int × Int × Int))) => [.row false (.trips a0_1), .box [.v (.int .i64 y), .sl 2], .row true (.trips y_1), .rbox [.v (.int .i64 a1_0), .v (.int .i64 a1_1), .v (.int .i64 a1_2)], .box [.v (.int .i64 0), .v (.slice none 0 0)], .box [.v (.int .i64 y), .sl 6], .row true (.trips t6_1s_2)]) ?_ ?_
            · clear h
              intro k h
              try dsimp only at h
              refine awp_block ?_
              replace h := chk_some h
              obtain ⟨hp0, h⟩ := h
              refine awp_reg ftCOk [(2, .pp 1 0), (3, .pp 3 0), (4, .pp 4 0), (6, .pp 5 0), (7, .v (.bool t7)), (8, .v (.int .i64 t8)), (9, .pp 7 0)] [.row false (.trips a0_1), .box [.v (.int .i64 y), .sl 2], .row true (.trips y_1), .rbox [.v (.int .i64 a1_0), .v (.int .i64 a1_1), .v (.int .i64 a1_2)], .box [.v (.int .i64 0), .v (.slice none 0 0)], .box [.v (.int .i64 y), .sl 6], .row true (.trips t6_1s), .box [.v (.int .i64 ((y_1.getD t8.toNat (0, 0, 0)).1)), .v (.int .i64 ((y_1.getD t8.toNat (0, 0, 0)).2.1)), .v (.int .i64 ((y_1.getD t8.toNat (0, 0, 0)).2.2))]] ?_
              clear hp0
              refine awp_join h (fun ((t7_3, t6_1s_3) : Bool × (List (Int × Int × Int))) => [(2, .pp 1 0), (3, .pp 3 0), (4, .pp 4 0), (6, .pp 5 0), (7, .v (.bool t7_3)), (8, .v (.int .i64 t8)), (9, .pp 7 0)]) (fun ((t7_3, t6_1s_3) : Bool × (List (Int × Int × Int))) => [.row false (.trips a0_1), .box [.v (.int .i64 y), .sl 2], .row true (.trips y_1), .rbox [.v (.int .i64 a1_0), .v (.int .i64 a1_1), .v (.int .i64 a1_2)], .box [.v (.int .i64 0), .v (.slice none 0 0)], .box [.v (.int .i64 y), .sl 6], .row true (.trips t6_1s_3), .box [.v (.int .i64 ((y_1.getD t8.toNat (0, 0, 0)).1)), .v (.int .i64 ((y_1.getD t8.toNat (0, 0, 0)).2.1)), .v (.int .i64 ((y_1.getD t8.toNat (0, 0, 0)).2.2))]]) ?_ ?_
              · clear h
                intro k_1 h
                try dsimp only at h
                refine awp_reg ftCOk [(2, .pp 1 0), (3, .pp 3 0), (4, .pp 4 0), (6, .pp 5 0), (7, .v (.bool t7)), (8, .v (.int .i64 t8)), (9, .pp 7 0), (38, .v (.bool ((!t7) && (!(decide ((y_1.getD t8.toNat (0, 0, 0)).1 < a1_0 ∨ (y_1.getD t8.toNat (0, 0, 0)).1 = a1_0 ∧ (y_1.getD t8.toNat (0, 0, 0)).2.1 < a1_1))))))] [.row false (.trips a0_1), .box [.v (.int .i64 y), .sl 2], .row true (.trips y_1), .rbox [.v (.int .i64 a1_0), .v (.int .i64 a1_1), .v (.int .i64 a1_2)], .box [.v (.int .i64 0), .v (.slice none 0 0)], .box [.v (.int .i64 y), .sl 6], .row true (.trips t6_1s), .box [.v (.int .i64 ((y_1.getD t8.toNat (0, 0, 0)).1)), .v (.int .i64 ((y_1.getD t8.toNat (0, 0, 0)).2.1)), .v (.int .i64 ((y_1.getD t8.toNat (0, 0, 0)).2.2))]] ?_
                refine awp_cond (t := 38) rfl (fun hc92 => ?_) (fun hc92 => ?_)
                · replace h := bite_t h hc92
                  replace h := chk_some h
                  obtain ⟨hp0, h⟩ := h
                  refine awp_reg ftCOk [(2, .pp 1 0), (3, .pp 3 0), (4, .pp 4 0), (6, .pp 5 0), (8, .v (.int .i64 t8)), (9, .pp 7 0)] [.row false (.trips a0_1), .box [.v (.int .i64 y), .sl 2], .row true (.trips y_1), .rbox [.v (.int .i64 a1_0), .v (.int .i64 a1_1), .v (.int .i64 a1_2)], .box [.v (.int .i64 0), .v (.slice none 0 0)], .box [.v (.int .i64 y), .sl 6], .row true (.trips (t6_1s ++ [(a1_0, a1_1, a1_2)])), .box [.v (.int .i64 ((y_1.getD t8.toNat (0, 0, 0)).1)), .v (.int .i64 ((y_1.getD t8.toNat (0, 0, 0)).2.1)), .v (.int .i64 ((y_1.getD t8.toNat (0, 0, 0)).2.2))], .row true (.trips [(a1_0, a1_1, a1_2)])] ?_
                  clear hp0
                  refine awp_reg ftCOk [(2, .pp 1 0), (3, .pp 3 0), (4, .pp 4 0), (6, .pp 5 0), (7, .v (.bool true)), (8, .v (.int .i64 t8)), (9, .pp 7 0)] [.row false (.trips a0_1), .box [.v (.int .i64 y), .sl 2], .row true (.trips y_1), .rbox [.v (.int .i64 a1_0), .v (.int .i64 a1_1), .v (.int .i64 a1_2)], .box [.v (.int .i64 0), .v (.slice none 0 0)], .box [.v (.int .i64 y), .sl 6], .row true (.trips (t6_1s ++ [(a1_0, a1_1, a1_2)])), .box [.v (.int .i64 ((y_1.getD t8.toNat (0, 0, 0)).1)), .v (.int .i64 ((y_1.getD t8.toNat (0, 0, 0)).2.1)), .v (.int .i64 ((y_1.getD t8.toNat (0, 0, 0)).2.2))], .row true (.trips [(a1_0, a1_1, a1_2)])] ?_
                  refine awp_reg ftCOk [(2, .pp 1 0), (3, .pp 3 0), (4, .pp 4 0), (6, .pp 5 0), (7, .v (.bool true)), (8, .v (.int .i64 t8)), (9, .pp 7 0), (56, .v (.bool (((y_1.getD t8.toNat (0, 0, 0)).1 == a1_0) && ((y_1.getD t8.toNat (0, 0, 0)).2.1 == a1_1))))] [.row false (.trips a0_1), .box [.v (.int .i64 y), .sl 2], .row true (.trips y_1), .rbox [.v (.int .i64 a1_0), .v (.int .i64 a1_1), .v (.int .i64 a1_2)], .box [.v (.int .i64 0), .v (.slice none 0 0)], .box [.v (.int .i64 y), .sl 6], .row true (.trips (t6_1s ++ [(a1_0, a1_1, a1_2)])), .box [.v (.int .i64 ((y_1.getD t8.toNat (0, 0, 0)).1)), .v (.int .i64 ((y_1.getD t8.toNat (0, 0, 0)).2.1)), .v (.int .i64 ((y_1.getD t8.toNat (0, 0, 0)).2.2))], .row true (.trips [(a1_0, a1_1, a1_2)])] ?_
                  refine awp_cond (t := 56) rfl (fun hc93 => ?_) (fun hc93 => ?_)
                  · replace h := bite_t h hc93
                    refine awp_exit ?_
                    (try simp only [Thn, InBlk, ↓reduceIte, Nat.reduceEqDiff])
                    (try simp only [Thn, InBlk, ↓reduceIte, Nat.reduceEqDiff])
                    (try simp only [Thn, InBlk, ↓reduceIte, Nat.reduceEqDiff])
                    refine ⟨_, h, ?_⟩
                    exact Red.selA [0, 1, 2, 3, 4, 5, 6] Red.auto
                  · replace h := bite_f h hc93
                    refine awp_skip ?_
                    (try simp only [Thn, InBlk, ↓reduceIte, Nat.reduceEqDiff])
                    refine ⟨_, h, ?_⟩
                    exact Red.selA [0, 1, 2, 3, 4, 5, 6, 7] Red.auto
                · replace h := bite_f h hc92
                  refine awp_skip ?_
                  (try simp only [Thn, InBlk, ↓reduceIte, Nat.reduceEqDiff])
                  refine ⟨_, h, ?_⟩
                  exact Red.auto
              · clear h
                rintro ⟨t7_3, t6_1s_3⟩ h
                try dsimp only at h
                try dsimp only
                replace h := chk_some h
                obtain ⟨hp0, h⟩ := h
                refine awp_regE ftCOk [(2, .pp 1 0), (3, .pp 3 0), (4, .pp 4 0), (6, .pp 5 0), (7, .v (.bool t7_3)), (8, .v (.int .i64 t8))] [.row false (.trips a0_1), .box [.v (.int .i64 y), .sl 2], .row true (.trips y_1), .rbox [.v (.int .i64 a1_0), .v (.int .i64 a1_1), .v (.int .i64 a1_2)], .box [.v (.int .i64 0), .v (.slice none 0 0)], .box [.v (.int .i64 y), .sl 6], .row true (.trips (t6_1s_3 ++ [((y_1.getD t8.toNat (0, 0, 0)).1, (y_1.getD t8.toNat (0, 0, 0)).2.1, (y_1.getD t8.toNat (0, 0, 0)).2.2)])), .box [.v (.int .i64 ((y_1.getD t8.toNat (0, 0, 0)).1)), .v (.int .i64 ((y_1.getD t8.toNat (0, 0, 0)).2.1)), .v (.int .i64 ((y_1.getD t8.toNat (0, 0, 0)).2.2))], .row true (.trips [((y_1.getD t8.toNat (0, 0, 0)).1, (y_1.getD t8.toNat (0, 0, 0)).2.1, (y_1.getD t8.toNat (0, 0, 0)).2.2)])] ?_
                clear hp0
                (try simp only [Thn, InBlk, ↓reduceIte, Nat.reduceEqDiff])
                (try simp only [Thn, InBlk, ↓reduceIte, Nat.reduceEqDiff])
                refine ⟨_, h, ?_⟩
                exact Red.selA [0, 1, 2, 3, 4, 5, 6] Red.auto
            · clear h
              rintro ⟨t7_2, t6_1s_2⟩ h
              try dsimp only at h
              try dsimp only
              replace h := chk_some h
              obtain ⟨hp0, h⟩ := h
              refine awp_regE ftCOk [(2, .pp 1 0), (3, .pp 3 0), (4, .pp 4 0), (6, .pp 5 0), (7, .v (.bool t7_2)), (8, .v (.int .i64 (t8 + 1)))] [.row false (.trips a0_1), .box [.v (.int .i64 y), .sl 2], .row true (.trips y_1), .rbox [.v (.int .i64 a1_0), .v (.int .i64 a1_1), .v (.int .i64 a1_2)], .box [.v (.int .i64 0), .v (.slice none 0 0)], .box [.v (.int .i64 y), .sl 6], .row true (.trips t6_1s_2)] ?_
              clear hp0
              obtain rfl := Option.some.inj h
              refine LoopQ.next ?_
              exact Red.auto
          · replace h := bite_f h hc85
            refine awp_exit ?_
            (try simp only [Thn, InBlk, ↓reduceIte, Nat.reduceEqDiff])
            obtain rfl := Option.some.inj h
            refine LoopQ.out rfl ?_
            exact Red.auto
        · clear hx
          rcases x94 with ⟨t7_1, t6_1s_1⟩
          · try dsimp only [Sum.elim_inl, Sum.elim_inr] at h
            try dsimp only [Sum.elim_inl, Sum.elim_inr]
            (try simp only [Thn, InBlk, ↓reduceIte, Nat.reduceEqDiff])
            (try simp only [Thn, InBlk, ↓reduceIte, Nat.reduceEqDiff])
            (try simp only [Thn, InBlk, ↓reduceIte, Nat.reduceEqDiff])
            refine hK49 _ _ ?_
            clear hK49
            refine awp_join h (fun (t6_1s_4 : List (Int × Int × Int)) => [(2, .pp 1 0), (4, .pp 3 0), (6, .pp 4 0)]) (fun (t6_1s_4 : List (Int × Int × Int)) => [.row false (.trips a0_1), .box [.v (.int .i64 y), .sl 2], .row true (.trips y_1), .box [.v (.int .i64 0), .v (.slice none 0 0)], .box [.v (.int .i64 y), .sl 5], .row true (.trips t6_1s_4)]) ?_ ?_
            · clear h
              intro k_2 h
              try dsimp only at h
              refine awp_reg ftCOk [(2, .pp 1 0), (3, .pp 3 0), (4, .pp 4 0), (6, .pp 5 0), (64, .v (.bool (!t7_1)))] [.row false (.trips a0_1), .box [.v (.int .i64 y), .sl 2], .row true (.trips y_1), .rbox [.v (.int .i64 a1_0), .v (.int .i64 a1_1), .v (.int .i64 a1_2)], .box [.v (.int .i64 0), .v (.slice none 0 0)], .box [.v (.int .i64 y), .sl 6], .row true (.trips t6_1s_1)] ?_
              refine awp_cond (t := 64) rfl (fun hc96 => ?_) (fun hc96 => ?_)
              · replace h := bite_t h hc96
                replace h := chk_some h
                obtain ⟨hp0, h⟩ := h
                refine awp_regE ftCOk [(2, .pp 1 0), (4, .pp 4 0), (6, .pp 5 0)] [.row false (.trips a0_1), .box [.v (.int .i64 y), .sl 2], .row true (.trips y_1), .rbox [.v (.int .i64 a1_0), .v (.int .i64 a1_1), .v (.int .i64 a1_2)], .box [.v (.int .i64 0), .v (.slice none 0 0)], .box [.v (.int .i64 y), .sl 6], .row true (.trips (t6_1s_1 ++ [(a1_0, a1_1, a1_2)])), .row true (.trips [(a1_0, a1_1, a1_2)])] ?_
                clear hp0
                (try simp only [Thn, InBlk, ↓reduceIte, Nat.reduceEqDiff])
                refine ⟨_, h, ?_⟩
                exact Red.selA [0, 1, 2, 4, 5, 6] Red.auto
              · replace h := bite_f h hc96
                refine awp_skip ?_
                (try simp only [Thn, InBlk, ↓reduceIte, Nat.reduceEqDiff])
                refine ⟨_, h, ?_⟩
                exact Red.selA [0, 1, 2, 4, 5, 6] Red.auto
            · clear h
              rintro t6_1s_4 h
              try dsimp only at h
              try dsimp only
              refine awp_seq fun K98 hK98 => ?_
              replace h := bind_some h
              obtain ⟨y_3, hr0, h⟩ := h
              try dsimp only at h
              refine awp_to [(2, .pp 1 0), (4, .pp 3 0), (6, .pp 4 0), (73, .v (.bool (!y_3)))] [.row false (.trips a0_1), .box [.v (.int .i64 y), .sl 2], .row true (.trips y_1), .box [.v (.int .i64 0), .v (.slice none 0 0)], .box [.v (.int .i64 y), .sl 5], .row true (.trips t6_1s_4)] ?_ ?_
              · clear h
                intro K hK
                refine awp_region ftCOk ?_
                simp (maxSteps := 4000000) only [go_sem, Nat.reduceBEq, Nat.reduceLT, Nat.reduceAdd, Nat.reduceLeDiff, Nat.reduceSub, Nat.reduceEqDiff, Int.reduceToNat, reduceCtorEq, ↓reduceIte]
                repeat' (first | refine And.intro ?_ ?_ | intro hg)
                all_goals (try simp (disch := omega) only [wrap_fits])
                all_goals first
                  | (refine hK _ _ ?_; exact Red.auto)
                  | exact trivial
                  | assumption
                  | omega
                  | exact wrap_fits (by omega) (by omega)
                  | (refine wpA_callA (k_spec_GraphValid y t6_1s_4 (h := hr0)) [5] [] ?_
                     rintro x Hc' ⟨rfl, rfl⟩ hlen
                     refine vcOps_sound ftCOk ?_
                     simp (maxSteps := 4000000) only [go_sem, Nat.reduceBEq, Nat.reduceLT, Nat.reduceAdd, Nat.reduceLeDiff, Nat.reduceSub, Nat.reduceEqDiff, Int.reduceToNat, reduceCtorEq, ↓reduceIte]
                     repeat' (first | refine And.intro ?_ ?_ | intro hg)
                     all_goals (try simp (disch := omega) only [wrap_fits])
                     all_goals first
                       | (refine hK _ _ ?_; exact Red.auto)
                       | exact trivial
                       | assumption
                       | omega
                       | exact wrap_fits (by omega) (by omega)
                       | (simp_all; done)
                       | (simp_all; omega))
                  | (simp_all; done)
                  | (simp_all; omega)
              · clear hr0
                refine awp_cond (t := 73) rfl (fun hc99 => ?_) (fun hc99 => ?_)
                · replace h := bite_t h hc99
                  refine awp_freeze 2 (by rfl) (by rfl) (by first | exact rfl | (simp only [List.map_cons, List.map_nil, List.set_cons_succ, List.set_cons_zero, AObj.unview, reduceCtorEq, ↓reduceIte, Nat.reduceEqDiff]; exact rfl)) ?_
                  replace h := chk_some h
                  obtain ⟨hp0, h⟩ := h
                  refine awp_to [(4, .pp 3 0), (5, .v (.bool false))] [.row false (.trips a0_1), .rbox [.v (.int .i64 y), .sl 2], .row true (.trips y_1), .box [.v (.int .i64 y), .sl 6], .box [.v (.int .i64 y), .sl 5], .row true (.trips t6_1s_4), .row true (.trips ([] ++ y_1))] ?_ ?_
                  · clear h
                    intro K hK
                    refine awp_drawT mixed ftCOk (.free 0 (.free 3 (.free 1 (.free 4 (.one 2 (.one 5 (.one 6 (.one 7 (.one 8 .fin))))))))) (by kernel_rfl) (by simp) ?_
                    simp (maxSteps := 4000000) only [go_sem, Nat.reduceBEq, Nat.reduceLT, Nat.reduceAdd, Nat.reduceLeDiff, Nat.reduceSub, Nat.reduceEqDiff, Int.reduceToNat, reduceCtorEq, ↓reduceIte]
                    repeat' (first | refine And.intro ?_ ?_ | intro hg)
                    all_goals (try simp (disch := omega) only [wrap_fits])
                    all_goals first
                      | (refine hK _ _ ?_; exact Red.auto)
                      | exact trivial
                      | assumption
                      | omega
                      | exact wrap_fits (by omega) (by omega)
                      | (simp (maxSteps := 4000000) only [go_sem, Nat.reduceBEq, Nat.reduceLT, Nat.reduceAdd, Nat.reduceLeDiff, Nat.reduceSub, Nat.reduceEqDiff, Int.reduceToNat, reduceCtorEq, ↓reduceIte]
                         repeat' (first | refine And.intro ?_ ?_ | intro hg)
                         all_goals (try simp (disch := omega) only [wrap_fits])
                         all_goals first | (refine hK _ _ ?_; exact Red.auto) | exact trivial | assumption | omega | exact wrap_fits (by omega) (by omega))
                      | (simp_all; done)
                      | (simp_all; omega)
                  · clear hp0
                    refine awp_ret ?_
                    (try simp only [Thn, InBlk, ↓reduceIte, Nat.reduceEqDiff])
                    obtain rfl := Option.some.inj h
                    refine ⟨by simp, _, [0, 6], (by simp only [go_sem, Nat.reduceBEq, Nat.reduceLT, Nat.reduceAdd, Nat.reduceLeDiff, Nat.reduceSub, Nat.reduceEqDiff, Int.reduceToNat, reduceCtorEq, ↓reduceIte]; exact rfl), ?_, ?_, ?_, ?_⟩
                    · first | exact trivial | exact ⟨trivial, trivial⟩ | exact ⟨trivial, trivial, trivial⟩ | exact ⟨trivial, trivial, trivial, trivial⟩ | (simp only [allP, and_true, true_and]; done) | (simp only [allP, and_true, true_and]; omega)
                    · simp [selOk, pos]
                    · simp
                    · first | exact ⟨rfl, rfl⟩ | (simp only [go_sem, Nat.reduceBEq, Nat.reduceLT, Nat.reduceAdd, Nat.reduceLeDiff, Nat.reduceSub, Nat.reduceEqDiff, Int.reduceToNat, reduceCtorEq, ↓reduceIte]; done) | (simp [go_sem, Nat.reduceBEq, Nat.reduceLT, Nat.reduceAdd, Nat.reduceLeDiff, Nat.reduceSub, Nat.reduceEqDiff, Int.reduceToNat, reduceCtorEq, ↓reduceIte]; done) | (simp only [go_sem, Nat.reduceBEq, Nat.reduceLT, Nat.reduceAdd, Nat.reduceLeDiff, Nat.reduceSub, Nat.reduceEqDiff, Int.reduceToNat, reduceCtorEq, ↓reduceIte]; exact ⟨rfl, rfl⟩) | (simp_all [go_sem, Nat.reduceBEq, Nat.reduceLT, Nat.reduceAdd, Nat.reduceLeDiff, Nat.reduceSub, Nat.reduceEqDiff, Int.reduceToNat, reduceCtorEq, ↓reduceIte]; done)
                · replace h := bite_f h hc99
                  refine awp_skip ?_
                  (try simp only [Thn, InBlk, ↓reduceIte, Nat.reduceEqDiff])
                  refine hK98 _ _ ?_
                  clear hK98
                  refine awp_reg ftCOk [(4, .pp 3 0), (5, .v (.bool true))] [.row false (.trips a0_1), .box [.v (.int .i64 y), .sl 2], .row true (.trips y_1), .box [.v (.int .i64 y), .sl 5], .box [.v (.int .i64 y), .sl 5], .row true (.trips t6_1s_4)] ?_
                  refine awp_ret ?_
                  (try simp only [Thn, InBlk, ↓reduceIte, Nat.reduceEqDiff])
                  obtain rfl := Option.some.inj h
                  refine ⟨by simp, _, [0, 5], (by simp only [go_sem, Nat.reduceBEq, Nat.reduceLT, Nat.reduceAdd, Nat.reduceLeDiff, Nat.reduceSub, Nat.reduceEqDiff, Int.reduceToNat, reduceCtorEq, ↓reduceIte]; exact rfl), ?_, ?_, ?_, ?_⟩
                  · first | exact trivial | exact ⟨trivial, trivial⟩ | exact ⟨trivial, trivial, trivial⟩ | exact ⟨trivial, trivial, trivial, trivial⟩ | (simp only [allP, and_true, true_and]; done) | (simp only [allP, and_true, true_and]; omega)
                  · simp [selOk, pos]
                  · simp
                  · first | exact ⟨rfl, rfl⟩ | (simp only [go_sem, Nat.reduceBEq, Nat.reduceLT, Nat.reduceAdd, Nat.reduceLeDiff, Nat.reduceSub, Nat.reduceEqDiff, Int.reduceToNat, reduceCtorEq, ↓reduceIte]; done) | (simp [go_sem, Nat.reduceBEq, Nat.reduceLT, Nat.reduceAdd, Nat.reduceLeDiff, Nat.reduceSub, Nat.reduceEqDiff, Int.reduceToNat, reduceCtorEq, ↓reduceIte]; done) | (simp only [go_sem, Nat.reduceBEq, Nat.reduceLT, Nat.reduceAdd, Nat.reduceLeDiff, Nat.reduceSub, Nat.reduceEqDiff, Int.reduceToNat, reduceCtorEq, ↓reduceIte]; exact ⟨rfl, rfl⟩) | (simp_all [go_sem, Nat.reduceBEq, Nat.reduceLT, Nat.reduceAdd, Nat.reduceLeDiff, Nat.reduceSub, Nat.reduceEqDiff, Int.reduceToNat, reduceCtorEq, ↓reduceIte]; done)
theorem k_spec_l20Rd_odd (a0_0 : List Int) (a0_1 : Int) (a1 : Int) {r : Bool × Int} (h : spec_l20Rd_odd a0_0 a0_1 a1 = some r) :
    FnA Try.prog 30 [.pp 0 0, .v (.int .i64 a1)] [.box [.sl 1, .v (.int .i64 a0_1)], .row false (.ints .u8 a0_0)] [] (fun x H => x = .v (.bool r.1) ∧ H = [.box [.sl 1, .v (.int .i64 r.2)], .row false (.ints .u8 a0_0)]) := by
  unfold spec_l20Rd_odd at h
  refine FnA.of (N := 15) (pin := [0, 1]) (rs := [.tmp 4]) Try.func30 rfl en30 rfl rfl (by simp) (by simp; try omega) ?_
  refine awp_reg ftCOk [(0, .pp 0 0), (1, .v (.int .i64 a1))] [.box [.sl 1, .v (.int .i64 a0_1)], .row false (.ints .u8 a0_0)] ?_
  replace h := bind_some h
  obtain ⟨⟨y, y_1⟩, hr0, h⟩ := h
  try dsimp only at h
  refine awp_to [(4, .v (.bool ((decide (0 < a1)) && (y == (IntKind.i64.wrap (a1 - 1))))))] [.box [.sl 1, .v (.int .i64 y_1)], .row false (.ints .u8 a0_0)] ?_ ?_
  · clear h
    intro K hK
    refine awp_region ftCOk ?_
    simp (maxSteps := 4000000) only [go_sem, Nat.reduceBEq, Nat.reduceLT, Nat.reduceAdd, Nat.reduceLeDiff, Nat.reduceSub, Nat.reduceEqDiff, Int.reduceToNat, reduceCtorEq, ↓reduceIte]
    repeat' (first | refine And.intro ?_ ?_ | intro hg)
    all_goals (try simp (disch := omega) only [wrap_fits])
    all_goals first
      | (refine hK _ _ ?_; exact Red.auto)
      | exact trivial
      | assumption
      | omega
      | exact wrap_fits (by omega) (by omega)
      | (refine wpA_guard rfl rfl ?_
         refine wpA_callA (k_spec_l20Rd_pick a0_0 a0_1 a1 (h := (bite_t hr0 (by first | assumption | (simp only [*, Bool.false_or, Bool.true_or, Bool.or_false, Bool.or_true, Bool.false_and, Bool.true_and, Bool.and_false, Bool.and_true, Bool.not_true, Bool.not_false, beq_self_eq_true]; done) | (simp_all; done))))) [0, 1] [] ?_
         rintro x Hc' ⟨rfl, rfl⟩ hlen
         refine vcOps_sound ftCOk ?_
         simp (maxSteps := 4000000) only [go_sem, Nat.reduceBEq, Nat.reduceLT, Nat.reduceAdd, Nat.reduceLeDiff, Nat.reduceSub, Nat.reduceEqDiff, Int.reduceToNat, reduceCtorEq, ↓reduceIte]
         repeat' (first | refine And.intro ?_ ?_ | intro hg)
         all_goals (try simp (disch := omega) only [wrap_fits])
         all_goals first
           | (refine hK _ _ ?_; exact Red.auto)
           | exact trivial
           | assumption
           | omega
           | exact wrap_fits (by omega) (by omega)
           | (simp_all; done)
           | (simp_all; omega))
      | (simp_all; done)
      | (simp_all; omega)
  · clear hr0
    refine awp_ret ?_
    (try simp only [Thn, InBlk, ↓reduceIte, Nat.reduceEqDiff])
    obtain rfl := Option.some.inj h
    refine ⟨by simp, _, [0, 1], (by simp only [go_sem, Nat.reduceBEq, Nat.reduceLT, Nat.reduceAdd, Nat.reduceLeDiff, Nat.reduceSub, Nat.reduceEqDiff, Int.reduceToNat, reduceCtorEq, ↓reduceIte]; exact rfl), ?_, ?_, ?_, ?_⟩
    · first | exact trivial | exact ⟨trivial, trivial⟩ | exact ⟨trivial, trivial, trivial⟩ | exact ⟨trivial, trivial, trivial, trivial⟩ | (simp only [allP, and_true, true_and]; done) | (simp only [allP, and_true, true_and]; omega)
    · simp [selOk, pos]
    · simp
    · first | exact ⟨rfl, rfl⟩ | (simp only [go_sem, Nat.reduceBEq, Nat.reduceLT, Nat.reduceAdd, Nat.reduceLeDiff, Nat.reduceSub, Nat.reduceEqDiff, Int.reduceToNat, reduceCtorEq, ↓reduceIte]; done) | (simp [go_sem, Nat.reduceBEq, Nat.reduceLT, Nat.reduceAdd, Nat.reduceLeDiff, Nat.reduceSub, Nat.reduceEqDiff, Int.reduceToNat, reduceCtorEq, ↓reduceIte]; done) | (simp only [go_sem, Nat.reduceBEq, Nat.reduceLT, Nat.reduceAdd, Nat.reduceLeDiff, Nat.reduceSub, Nat.reduceEqDiff, Int.reduceToNat, reduceCtorEq, ↓reduceIte]; exact ⟨rfl, rfl⟩) | (simp_all [go_sem, Nat.reduceBEq, Nat.reduceLT, Nat.reduceAdd, Nat.reduceLeDiff, Nat.reduceSub, Nat.reduceEqDiff, Int.reduceToNat, reduceCtorEq, ↓reduceIte]; done)
theorem k_spec_l20Graph (a0_0 : List Int) (a0_1 : Int) (a1 : Int) {r : Int × (List (Int × Int × Int)) × Int} (h : spec_l20Graph a0_0 a0_1 a1 = some r) :
    FnA Try.prog 17 [.pp 0 0, .v (.int .i64 a1)] [.box [.sl 1, .v (.int .i64 a0_1)], .row false (.ints .u8 a0_0)] [] (fun x H => x = .agg [.v (.int .i64 r.1), .sl 2] ∧ H = [.box [.sl 1, .v (.int .i64 r.2.2)], .row false (.ints .u8 a0_0), .row true (.trips r.2.1)]) := by
  unfold spec_l20Graph at h
  refine FnA.of (N := 72) (pin := [0, 1]) (rs := [.cell 4 25]) Try.func17 rfl en17 rfl rfl (by simp) (by simp; try omega) ?_
  refine awp_reg ftCOk [(0, .pp 0 0), (1, .v (.int .i64 a1)), (4, .pp 2 0)] [.box [.sl 1, .v (.int .i64 a0_1)], .row false (.ints .u8 a0_0), .box [.v (.int .i64 0), .v (.slice none 0 0)]] ?_
  replace h := bind_some h
  obtain ⟨⟨y, y_1⟩, hr0, h⟩ := h
  try dsimp only at h
  replace h := bind_some h
  obtain ⟨⟨y_2, y_3⟩, hr1, h⟩ := h
  try dsimp only at h
  replace h := chk_some h
  obtain ⟨hp2, h⟩ := h
  replace h := bind_some h
  obtain ⟨⟨y_4, y_5⟩, hr3, h⟩ := h
  try dsimp only at h
  replace h := chk_some h
  obtain ⟨hp4, h⟩ := h
  replace h := chk_some h
  obtain ⟨hp5, h⟩ := h
  refine awp_to [(0, .pp 0 0), (1, .v (.int .i64 a1)), (4, .pp 2 0), (5, .pp 5 0)] [.box [.sl 1, .v (.int .i64 y_5)], .row false (.ints .u8 a0_0), .box [.v (.int .i64 0), .v (.slice none 0 0)], .row true (.ints .i64 [y, (2 + y_2), 16, 0]), .row true (.ints .i64 [0, 1, 1, 1, 1, 1, 2, 3]), .box [.v (.int .i64 (([y, (2 + y_2), 16, 0] : List Int).getD ((([0, 1, 1, 1, 1, 1, 2, 3] : List Int).getD y_4.toNat 0).toNat) 0)), .v (.slice none 0 0)]] ?_ ?_
  · clear h
    intro K hK
    refine awp_region ftCOk ?_
    simp (maxSteps := 4000000) only [go_sem, Nat.reduceBEq, Nat.reduceLT, Nat.reduceAdd, Nat.reduceLeDiff, Nat.reduceSub, Nat.reduceEqDiff, Int.reduceToNat, reduceCtorEq, ↓reduceIte]
    repeat' (first | refine And.intro ?_ ?_ | intro hg)
    all_goals (try simp (disch := omega) only [wrap_fits])
    all_goals first
      | (refine hK _ _ ?_; exact Red.auto)
      | exact trivial
      | assumption
      | omega
      | exact wrap_fits (by omega) (by omega)
      | (refine wpA_callA (k_spec_l20Rd_pick a0_0 a0_1 9 (h := hr0)) [0, 1] [] ?_
         rintro x Hc' ⟨rfl, rfl⟩ hlen
         refine vcOps_sound ftCOk ?_
         simp (maxSteps := 4000000) only [go_sem, Nat.reduceBEq, Nat.reduceLT, Nat.reduceAdd, Nat.reduceLeDiff, Nat.reduceSub, Nat.reduceEqDiff, Int.reduceToNat, reduceCtorEq, ↓reduceIte]
         repeat' (first | refine And.intro ?_ ?_ | intro hg)
         all_goals (try simp (disch := omega) only [wrap_fits])
         all_goals first
           | (refine hK _ _ ?_; exact Red.auto)
           | exact trivial
           | assumption
           | omega
           | exact wrap_fits (by omega) (by omega)
           | (refine wpA_callA (k_spec_l20Rd_pick a0_0 y_1 7 (h := hr1)) [0, 1] [] ?_
              rintro x Hc' ⟨rfl, rfl⟩ hlen
              refine vcOps_sound ftCOk ?_
              simp (maxSteps := 4000000) only [go_sem, Nat.reduceBEq, Nat.reduceLT, Nat.reduceAdd, Nat.reduceLeDiff, Nat.reduceSub, Nat.reduceEqDiff, Int.reduceToNat, reduceCtorEq, ↓reduceIte]
              repeat' (first | refine And.intro ?_ ?_ | intro hg)
              all_goals (try simp (disch := omega) only [wrap_fits])
              all_goals first
                | (refine hK _ _ ?_; exact Red.auto)
                | exact trivial
                | assumption
                | omega
                | exact wrap_fits (by omega) (by omega)
                | (refine wpA_callA (k_spec_l20Rd_pick a0_0 y_3 8 (h := hr3)) [0, 1] [] ?_
                   rintro x Hc' ⟨rfl, rfl⟩ hlen
                   refine vcOps_sound ftCOk ?_
                   simp (maxSteps := 4000000) only [go_sem, Nat.reduceBEq, Nat.reduceLT, Nat.reduceAdd, Nat.reduceLeDiff, Nat.reduceSub, Nat.reduceEqDiff, Int.reduceToNat, reduceCtorEq, ↓reduceIte]
                   repeat' (first | refine And.intro ?_ ?_ | intro hg)
                   all_goals (try simp (disch := omega) only [wrap_fits])
                   all_goals first
                     | (refine hK _ _ ?_; exact Red.auto)
                     | exact trivial
                     | assumption
                     | omega
                     | exact wrap_fits (by omega) (by omega)
                     | (simp_all; done)
                     | (simp_all; omega))
                | (simp_all; done)
                | (simp_all; omega))
           | (simp_all; done)
           | (simp_all; omega))
      | (simp_all; done)
      | (simp_all; omega)
  · clear hr0 hr1 hp2 hr3 hp4 hp5
    refine awp_seq fun K18 hK18 => ?_
    replace h := bind_some h
    obtain ⟨⟨y_6, y_7⟩, hr0, h⟩ := h
    try dsimp only at h
    refine awp_to [(0, .pp 0 0), (1, .v (.int .i64 a1)), (4, .pp 2 0), (5, .pp 5 0), (6, .v (.int .i64 y_6))] [.box [.sl 1, .v (.int .i64 y_7)], .row false (.ints .u8 a0_0), .box [.v (.int .i64 0), .v (.slice none 0 0)], .row true (.ints .i64 [y, (2 + y_2), 16, 0]), .row true (.ints .i64 [0, 1, 1, 1, 1, 1, 2, 3]), .box [.v (.int .i64 (([y, (2 + y_2), 16, 0] : List Int).getD ((([0, 1, 1, 1, 1, 1, 2, 3] : List Int).getD y_4.toNat 0).toNat) 0)), .v (.slice none 0 0)]] ?_ ?_
    · clear h
      intro K hK
      refine awp_region ftCOk ?_
      simp (maxSteps := 4000000) only [go_sem, Nat.reduceBEq, Nat.reduceLT, Nat.reduceAdd, Nat.reduceLeDiff, Nat.reduceSub, Nat.reduceEqDiff, Int.reduceToNat, reduceCtorEq, ↓reduceIte]
      repeat' (first | refine And.intro ?_ ?_ | intro hg)
      all_goals (try simp (disch := omega) only [wrap_fits])
      all_goals first
        | (refine hK _ _ ?_; exact Red.auto)
        | exact trivial
        | assumption
        | omega
        | exact wrap_fits (by omega) (by omega)
        | (refine wpA_callA (k_spec_l20Rd_pick a0_0 y_5 14 (h := hr0)) [0, 1] [] ?_
           rintro x Hc' ⟨rfl, rfl⟩ hlen
           refine vcOps_sound ftCOk ?_
           simp (maxSteps := 4000000) only [go_sem, Nat.reduceBEq, Nat.reduceLT, Nat.reduceAdd, Nat.reduceLeDiff, Nat.reduceSub, Nat.reduceEqDiff, Int.reduceToNat, reduceCtorEq, ↓reduceIte]
           repeat' (first | refine And.intro ?_ ?_ | intro hg)
           all_goals (try simp (disch := omega) only [wrap_fits])
           all_goals first
             | (refine hK _ _ ?_; exact Red.auto)
             | exact trivial
             | assumption
             | omega
             | exact wrap_fits (by omega) (by omega)
             | (simp_all; done)
             | (simp_all; omega))
        | (simp_all; done)
        | (simp_all; omega)
    · clear hr0
      refine awp_block ?_
      replace h := bind_some h
      obtain ⟨x35, hx, h⟩ := h
      refine awp_loopL hx (fun ((t6, p0_1, t5_0, t5_1s) : Int × Int × Int × (List (Int × Int × Int))) => [(0, .pp 0 0), (1, .v (.int .i64 a1)), (4, .pp 2 0), (5, .pp 4 0), (6, .v (.int .i64 t6))]) (fun ((t6, p0_1, t5_0, t5_1s) : Int × Int × Int × (List (Int × Int × Int))) => [.box [.sl 1, .v (.int .i64 p0_1)], .row false (.ints .u8 a0_0), .box [.v (.int .i64 0), .sl 3], .row true (.trips []), .box [.v (.int .i64 t5_0), .sl 5], .row true (.trips t5_1s)]) (fun ((p0_1_1, t5_0_1, t5_1s_1) : Int × Int × (List (Int × Int × Int))) => Exit.exit 0) (fun ((p0_1_1, t5_0_1, t5_1s_1) : Int × Int × (List (Int × Int × Int))) => [(0, .pp 0 0), (1, .v (.int .i64 a1)), (4, .pp 2 0), (5, .pp 4 0)]) (fun ((p0_1_1, t5_0_1, t5_1s_1) : Int × Int × (List (Int × Int × Int))) => [.box [.sl 1, .v (.int .i64 p0_1_1)], .row false (.ints .u8 a0_0), .box [.v (.int .i64 0), .sl 3], .row true (.trips []), .box [.v (.int .i64 t5_0_1), .sl 5], .row true (.trips t5_1s_1)]) ?_ ?_ ?_ ?_
      · rintro ⟨p0_1_1, t5_0_1, t5_1s_1⟩ hy <;> cases hy
      · clear h hx
        refine Red.trans (Red.nilCell (o := 2) (i := 1) (.trips []) rfl rfl rfl) ?_
        refine Red.trans (Red.nilCell (o := 5) (i := 1) (.trips []) rfl rfl rfl) ?_
        exact Red.selA [0, 1, 2, 6, 5, 7] Red.auto
      · clear h hx
        rintro ⟨t6, p0_1, t5_0, t5_1s⟩ r h
        unfold spec_l20Graph_b0 at h
        try dsimp only at h
        try dsimp only
        refine awp_seq fun K32 hK32 => ?_
        refine awp_reg ftCOk [(0, .pp 0 0), (1, .v (.int .i64 a1)), (4, .pp 2 0), (5, .pp 4 0), (6, .v (.int .i64 t6)), (24, .v (.bool (decide (0 < t6))))] [.box [.sl 1, .v (.int .i64 p0_1)], .row false (.ints .u8 a0_0), .box [.v (.int .i64 0), .sl 3], .row true (.trips []), .box [.v (.int .i64 t5_0), .sl 5], .row true (.trips t5_1s)] ?_
        refine awp_cond (t := 24) rfl (fun hc33 => ?_) (fun hc33 => ?_)
        · replace h := bite_t h hc33
          refine awp_skip ?_
          (try simp only [Thn, InBlk, ↓reduceIte, Nat.reduceEqDiff])
          refine hK32 _ _ ?_
          clear hK32
          refine awp_seq fun K34 hK34 => ?_
          refine awp_block ?_
          replace h := bind_some h
          obtain ⟨⟨y_8, y_9, y_10, y_11⟩, hr0, h⟩ := h
          try dsimp only at h
          replace h := bind_some h
          obtain ⟨⟨y_12, y_13, y_14⟩, hr1, h⟩ := h
          try dsimp only at h
          refine awp_end [(0, .pp 0 0), (1, .v (.int .i64 a1)), (4, .pp 2 0), (5, .pp 4 0), (6, .v (.int .i64 t6))] [.box [.sl 1, .v (.int .i64 y_11)], .row false (.ints .u8 a0_0), .box [.v (.int .i64 0), .sl 3], .row true (.trips []), .box [.v (.int .i64 y_12), .sl 6], .row true (.trips t5_1s), .row true (.trips y_13)] ?_ ?_
          · clear h
            intro K hK
            refine awp_drawT mixed ftCOk (.free 1 (.free 2 (.two 0 3 (.one 3 (.one 4 (.one 5 (.one 6 (.free 7 (.free 8 (.one 9 .fin))))))) (.two 0 4 (.one 4 (.one 5 (.one 6 (.free 7 (.free 8 (.one 9 .fin)))))) (.one 0 (.one 5 (.one 6 (.free 7 (.free 8 (.one 9 .fin)))))))))) (by kernel_rfl) (by simp) ?_
            simp (maxSteps := 4000000) only [go_sem, Nat.reduceBEq, Nat.reduceLT, Nat.reduceAdd, Nat.reduceLeDiff, Nat.reduceSub, Nat.reduceEqDiff, Int.reduceToNat, reduceCtorEq, ↓reduceIte]
            repeat' (first | refine And.intro ?_ ?_ | intro hg)
            all_goals (try simp (disch := omega) only [wrap_fits])
            all_goals first
              | (refine hK _ _ ?_; exact Red.auto)
              | exact trivial
              | assumption
              | omega
              | exact wrap_fits (by omega) (by omega)
              | (refine OpK_callA (k_spec_l20Edge a0_0 p0_1 t5_0 (h := hr0)) [0, 1] [] ?_
                 rintro x Hc' ⟨rfl, rfl⟩ hlen
                 simp (maxSteps := 4000000) only [go_sem, Nat.reduceBEq, Nat.reduceLT, Nat.reduceAdd, Nat.reduceLeDiff, Nat.reduceSub, Nat.reduceEqDiff, Int.reduceToNat, reduceCtorEq, ↓reduceIte]
                 repeat' (first | refine And.intro ?_ ?_ | intro hg)
                 all_goals (try simp (disch := omega) only [wrap_fits])
                 all_goals first
                   | (refine hK _ _ ?_; exact Red.auto)
                   | exact trivial
                   | assumption
                   | omega
                   | exact wrap_fits (by omega) (by omega)
                   | (refine OpK_callA (k_spec_AddEdge t5_0 t5_1s y_8 y_9 y_10 (h := hr1)) [5] [] ?_
                      rintro x Hc' ⟨rfl, rfl⟩ hlen
                      simp (maxSteps := 4000000) only [go_sem, Nat.reduceBEq, Nat.reduceLT, Nat.reduceAdd, Nat.reduceLeDiff, Nat.reduceSub, Nat.reduceEqDiff, Int.reduceToNat, reduceCtorEq, ↓reduceIte]
                      repeat' (first | refine And.intro ?_ ?_ | intro hg)
                      all_goals (try simp (disch := omega) only [wrap_fits])
                      all_goals first
                        | (refine hK _ _ ?_; exact Red.auto)
                        | exact trivial
                        | assumption
                        | omega
                        | exact wrap_fits (by omega) (by omega)
                        | (simp (maxSteps := 4000000) only [go_sem, Nat.reduceBEq, Nat.reduceLT, Nat.reduceAdd, Nat.reduceLeDiff, Nat.reduceSub, Nat.reduceEqDiff, Int.reduceToNat, reduceCtorEq, ↓reduceIte]
                           repeat' (first | refine And.intro ?_ ?_ | intro hg)
                           all_goals (try simp (disch := omega) only [wrap_fits])
                           all_goals first | (refine hK _ _ ?_; exact Red.auto) | exact trivial | assumption | omega | exact wrap_fits (by omega) (by omega))
                        | (simp_all; done)
                        | (simp_all; omega))
                   | (simp_all; done)
                   | (simp_all; omega))
              | (simp_all; done)
              | (simp_all; omega)
          · clear hr0 hr1
            (try simp only [Thn, InBlk, ↓reduceIte, Nat.reduceEqDiff])
            (try simp only [Thn, InBlk, ↓reduceIte, Nat.reduceEqDiff])
            refine hK34 _ _ ?_
            clear hK34
            replace h := chk_some h
            obtain ⟨hp0, h⟩ := h
            have hwhp0 := wrap_fits hp0.1 hp0.2
            refine awp_regE ftCOk [(0, .pp 0 0), (1, .v (.int .i64 a1)), (4, .pp 2 0), (5, .pp 4 0), (6, .v (.int .i64 (t6 - 1)))] [.box [.sl 1, .v (.int .i64 y_11)], .row false (.ints .u8 a0_0), .box [.v (.int .i64 0), .sl 3], .row true (.trips []), .box [.v (.int .i64 y_12), .sl 6], .row true (.trips t5_1s), .row true (.trips y_13)] ?_
            clear hp0
            obtain rfl := Option.some.inj h
            refine LoopQ.next ?_
            exact Red.selA [0, 1, 2, 3, 4, 6] Red.auto
        · replace h := bite_f h hc33
          refine awp_exit ?_
          (try simp only [Thn, InBlk, ↓reduceIte, Nat.reduceEqDiff])
          obtain rfl := Option.some.inj h
          refine LoopQ.out rfl ?_
          exact Red.auto
      · clear hx
        rcases x35 with ⟨p0_1_1, t5_0_1, t5_1s_1⟩
        · try dsimp only [Sum.elim_inl, Sum.elim_inr] at h
          try dsimp only [Sum.elim_inl, Sum.elim_inr]
          (try simp only [Thn, InBlk, ↓reduceIte, Nat.reduceEqDiff])
          (try simp only [Thn, InBlk, ↓reduceIte, Nat.reduceEqDiff])
          (try simp only [Thn, InBlk, ↓reduceIte, Nat.reduceEqDiff])
          refine hK18 _ _ ?_
          clear hK18
          refine awp_join h (fun ((p0_1_2, t5_0_2, t5_1s_2) : Int × Int × (List (Int × Int × Int))) => [(4, .pp 2 0), (5, .pp 4 0)]) (fun ((p0_1_2, t5_0_2, t5_1s_2) : Int × Int × (List (Int × Int × Int))) => [.box [.sl 1, .v (.int .i64 p0_1_2)], .row false (.ints .u8 a0_0), .box [.v (.int .i64 0), .sl 3], .row true (.trips []), .box [.v (.int .i64 t5_0_2), .sl 5], .row true (.trips t5_1s_2)]) ?_ ?_
          · clear h
            intro k h
            try dsimp only at h
            replace h := bind_some h
            obtain ⟨⟨y_15, y_16⟩, hr0, h⟩ := h
            try dsimp only at h
            refine awp_to [(0, .pp 0 0), (4, .pp 2 0), (5, .pp 4 0), (38, .v (.bool y_15))] [.box [.sl 1, .v (.int .i64 y_16)], .row false (.ints .u8 a0_0), .box [.v (.int .i64 0), .sl 3], .row true (.trips []), .box [.v (.int .i64 t5_0_1), .sl 5], .row true (.trips t5_1s_1)] ?_ ?_
            · clear h
              intro K hK
              refine awp_region ftCOk ?_
              simp (maxSteps := 4000000) only [go_sem, Nat.reduceBEq, Nat.reduceLT, Nat.reduceAdd, Nat.reduceLeDiff, Nat.reduceSub, Nat.reduceEqDiff, Int.reduceToNat, reduceCtorEq, ↓reduceIte]
              repeat' (first | refine And.intro ?_ ?_ | intro hg)
              all_goals (try simp (disch := omega) only [wrap_fits])
              all_goals first
                | (refine hK _ _ ?_; exact Red.auto)
                | exact trivial
                | assumption
                | omega
                | exact wrap_fits (by omega) (by omega)
                | (refine wpA_callA (k_spec_l20Rd_odd a0_0 p0_1_1 a1 (h := hr0)) [0, 1] [] ?_
                   rintro x Hc' ⟨rfl, rfl⟩ hlen
                   refine vcOps_sound ftCOk ?_
                   simp (maxSteps := 4000000) only [go_sem, Nat.reduceBEq, Nat.reduceLT, Nat.reduceAdd, Nat.reduceLeDiff, Nat.reduceSub, Nat.reduceEqDiff, Int.reduceToNat, reduceCtorEq, ↓reduceIte]
                   repeat' (first | refine And.intro ?_ ?_ | intro hg)
                   all_goals (try simp (disch := omega) only [wrap_fits])
                   all_goals first
                     | (refine hK _ _ ?_; exact Red.auto)
                     | exact trivial
                     | assumption
                     | omega
                     | exact wrap_fits (by omega) (by omega)
                     | (simp_all; done)
                     | (simp_all; omega))
                | (simp_all; done)
                | (simp_all; omega)
            · clear hr0
              refine awp_cond (t := 38) rfl (fun hc40 => ?_) (fun hc40 => ?_)
              · replace h := bite_t h hc40
                replace h := bind_some h
                obtain ⟨⟨y_17, y_18⟩, hr0, h⟩ := h
                try dsimp only at h
                refine awp_to [(0, .pp 0 0), (4, .pp 2 0), (5, .pp 4 0), (40, .v (.int .i64 y_17))] [.box [.sl 1, .v (.int .i64 y_18)], .row false (.ints .u8 a0_0), .box [.v (.int .i64 0), .sl 3], .row true (.trips []), .box [.v (.int .i64 t5_0_1), .sl 5], .row true (.trips t5_1s_1)] ?_ ?_
                · clear h
                  intro K hK
                  refine awp_region ftCOk ?_
                  simp (maxSteps := 4000000) only [go_sem, Nat.reduceBEq, Nat.reduceLT, Nat.reduceAdd, Nat.reduceLeDiff, Nat.reduceSub, Nat.reduceEqDiff, Int.reduceToNat, reduceCtorEq, ↓reduceIte]
                  repeat' (first | refine And.intro ?_ ?_ | intro hg)
                  all_goals (try simp (disch := omega) only [wrap_fits])
                  all_goals first
                    | (refine hK _ _ ?_; exact Red.auto)
                    | exact trivial
                    | assumption
                    | omega
                    | exact wrap_fits (by omega) (by omega)
                    | (refine wpA_callA (k_spec_l20Rd_pick a0_0 y_16 4 (h := hr0)) [0, 1] [] ?_
                       rintro x Hc' ⟨rfl, rfl⟩ hlen
                       refine vcOps_sound ftCOk ?_
                       simp (maxSteps := 4000000) only [go_sem, Nat.reduceBEq, Nat.reduceLT, Nat.reduceAdd, Nat.reduceLeDiff, Nat.reduceSub, Nat.reduceEqDiff, Int.reduceToNat, reduceCtorEq, ↓reduceIte]
                       repeat' (first | refine And.intro ?_ ?_ | intro hg)
                       all_goals (try simp (disch := omega) only [wrap_fits])
                       all_goals first
                         | (refine hK _ _ ?_; exact Red.auto)
                         | exact trivial
                         | assumption
                         | omega
                         | exact wrap_fits (by omega) (by omega)
                         | (simp_all; done)
                         | (simp_all; omega))
                    | (simp_all; done)
                    | (simp_all; omega)
                · clear hr0
                  refine awp_block ?_
                  refine awp_reg ftCOk [(0, .pp 0 0), (4, .pp 2 0), (5, .pp 4 0), (40, .v (.int .i64 y_17)), (47, .v (.bool (y_17 == 0)))] [.box [.sl 1, .v (.int .i64 y_18)], .row false (.ints .u8 a0_0), .box [.v (.int .i64 0), .sl 3], .row true (.trips []), .box [.v (.int .i64 t5_0_1), .sl 5], .row true (.trips t5_1s_1)] ?_
                  refine awp_cond (t := 47) rfl (fun hc41 => ?_) (fun hc41 => ?_)
                  · replace h := bite_t h hc41
                    replace h := bind_some h
                    obtain ⟨⟨y_19, y_20⟩, hr0, h⟩ := h
                    try dsimp only at h
                    replace h := chk_some h
                    obtain ⟨hp1, h⟩ := h
                    refine awp_end [(4, .pp 2 0), (5, .pp 4 0)] [.box [.sl 1, .v (.int .i64 y_20)], .row false (.ints .u8 a0_0), .box [.v (.int .i64 0), .sl 3], .row true (.trips []), .box [.v (.int .i64 (([(-1), 17] : List Int).getD y_19.toNat 0)), .sl 5], .row true (.trips t5_1s_1), .row true (.ints .i64 [(-1), 17])] ?_ ?_
                    · clear h
                      intro K hK
                      refine awp_region ftCOk ?_
                      simp (maxSteps := 4000000) only [go_sem, Nat.reduceBEq, Nat.reduceLT, Nat.reduceAdd, Nat.reduceLeDiff, Nat.reduceSub, Nat.reduceEqDiff, Int.reduceToNat, reduceCtorEq, ↓reduceIte]
                      repeat' (first | refine And.intro ?_ ?_ | intro hg)
                      all_goals (try simp (disch := omega) only [wrap_fits])
                      all_goals first
                        | (refine hK _ _ ?_; exact Red.auto)
                        | exact trivial
                        | assumption
                        | omega
                        | exact wrap_fits (by omega) (by omega)
                        | (refine wpA_callA (k_spec_l20Rd_pick a0_0 y_18 2 (h := hr0)) [0, 1] [] ?_
                           rintro x Hc' ⟨rfl, rfl⟩ hlen
                           refine vcOps_sound ftCOk ?_
                           simp (maxSteps := 4000000) only [go_sem, Nat.reduceBEq, Nat.reduceLT, Nat.reduceAdd, Nat.reduceLeDiff, Nat.reduceSub, Nat.reduceEqDiff, Int.reduceToNat, reduceCtorEq, ↓reduceIte]
                           repeat' (first | refine And.intro ?_ ?_ | intro hg)
                           all_goals (try simp (disch := omega) only [wrap_fits])
                           all_goals first
                             | (refine hK _ _ ?_; exact Red.auto)
                             | exact trivial
                             | assumption
                             | omega
                             | exact wrap_fits (by omega) (by omega)
                             | (simp_all; done)
                             | (simp_all; omega))
                        | (simp_all; done)
                        | (simp_all; omega)
                    · clear hr0 hp1
                      (try simp only [Thn, InBlk, ↓reduceIte, Nat.reduceEqDiff])
                      (try simp only [Thn, InBlk, ↓reduceIte, Nat.reduceEqDiff])
                      refine ⟨_, h, ?_⟩
                      exact Red.selA [0, 1, 2, 3, 4, 5] Red.auto
                  · replace h := bite_f h hc41
                    refine awp_reg ftCOk [(4, .pp 2 0), (5, .pp 4 0), (40, .v (.int .i64 y_17)), (55, .v (.bool (y_17 == 1)))] [.box [.sl 1, .v (.int .i64 y_18)], .row false (.ints .u8 a0_0), .box [.v (.int .i64 0), .sl 3], .row true (.trips []), .box [.v (.int .i64 t5_0_1), .sl 5], .row true (.trips t5_1s_1)] ?_
                    refine awp_cond (t := 55) rfl (fun hc42 => ?_) (fun hc42 => ?_)
                    · replace h := bite_t h hc42
                      replace h := chk_some h
                      obtain ⟨hp0, h⟩ := h
                      refine awp_regE ftCOk [(4, .pp 2 0), (5, .pp 4 0)] [.box [.sl 1, .v (.int .i64 y_18)], .row false (.ints .u8 a0_0), .box [.v (.int .i64 0), .sl 3], .row true (.trips []), .box [.v (.int .i64 t5_0_1), .sl 5], .row true (.trips (t5_1s_1 ++ [(0, 0, 0)])), .row true (.trips [(0, 0, 0)])] ?_
                      clear hp0
                      (try simp only [Thn, InBlk, ↓reduceIte, Nat.reduceEqDiff])
                      (try simp only [Thn, InBlk, ↓reduceIte, Nat.reduceEqDiff])
                      refine ⟨_, h, ?_⟩
                      exact Red.selA [0, 1, 2, 3, 4, 5] Red.auto
                    · replace h := bite_f h hc42
                      refine awp_reg ftCOk [(4, .pp 2 0), (5, .pp 4 0), (63, .v (.bool (y_17 == 2)))] [.box [.sl 1, .v (.int .i64 y_18)], .row false (.ints .u8 a0_0), .box [.v (.int .i64 0), .sl 3], .row true (.trips []), .box [.v (.int .i64 t5_0_1), .sl 5], .row true (.trips t5_1s_1)] ?_
                      refine awp_cond (t := 63) rfl (fun hc43 => ?_) (fun hc43 => ?_)
                      · replace h := bite_t h hc43
                        replace h := chk_some h
                        obtain ⟨hp0, h⟩ := h
                        refine awp_regE ftCOk [(4, .pp 2 0), (5, .pp 4 0)] [.box [.sl 1, .v (.int .i64 y_18)], .row false (.ints .u8 a0_0), .box [.v (.int .i64 0), .sl 3], .row true (.trips []), .box [.v (.int .i64 t5_0_1), .sl 5], .row true (.trips (t5_1s_1 ++ [(0, 1, 21)])), .row true (.trips [(0, 1, 21)])] ?_
                        clear hp0
                        (try simp only [Thn, InBlk, ↓reduceIte, Nat.reduceEqDiff])
                        (try simp only [Thn, InBlk, ↓reduceIte, Nat.reduceEqDiff])
                        refine ⟨_, h, ?_⟩
                        exact Red.selA [0, 1, 2, 3, 4, 5] Red.auto
                      · replace h := bite_f h hc43
                        replace h := chk_some h
                        obtain ⟨hp0, h⟩ := h
                        refine awp_regE ftCOk [(4, .pp 2 0), (5, .pp 4 0)] [.box [.sl 1, .v (.int .i64 y_18)], .row false (.ints .u8 a0_0), .box [.v (.int .i64 0), .sl 3], .row true (.trips []), .box [.v (.int .i64 t5_0_1), .sl 6], .row true (.trips t5_1s_1), .row true (.trips ([(15, 0, 0)] ++ t5_1s_1))] ?_
                        clear hp0
                        (try simp only [Thn, InBlk, ↓reduceIte, Nat.reduceEqDiff])
                        (try simp only [Thn, InBlk, ↓reduceIte, Nat.reduceEqDiff])
                        refine ⟨_, h, ?_⟩
                        exact Red.selA [0, 1, 2, 3, 4, 6] Red.auto
              · replace h := bite_f h hc40
                refine awp_skip ?_
                (try simp only [Thn, InBlk, ↓reduceIte, Nat.reduceEqDiff])
                refine ⟨_, h, ?_⟩
                exact Red.auto
          · clear h
            rintro ⟨p0_1_2, t5_0_2, t5_1s_2⟩ h
            try dsimp only at h
            try dsimp only
            refine awp_reg ftCOk [(4, .pp 2 0)] [.box [.sl 1, .v (.int .i64 p0_1_2)], .row false (.ints .u8 a0_0), .box [.v (.int .i64 t5_0_2), .sl 5], .row true (.trips []), .box [.v (.int .i64 t5_0_2), .sl 5], .row true (.trips t5_1s_2)] ?_
            refine awp_ret ?_
            (try simp only [Thn, InBlk, ↓reduceIte, Nat.reduceEqDiff])
            obtain rfl := Option.some.inj h
            refine ⟨by simp, _, [0, 1, 5], (by simp only [go_sem, Nat.reduceBEq, Nat.reduceLT, Nat.reduceAdd, Nat.reduceLeDiff, Nat.reduceSub, Nat.reduceEqDiff, Int.reduceToNat, reduceCtorEq, ↓reduceIte]; exact rfl), ?_, ?_, ?_, ?_⟩
            · first | exact trivial | exact ⟨trivial, trivial⟩ | exact ⟨trivial, trivial, trivial⟩ | exact ⟨trivial, trivial, trivial, trivial⟩ | (simp only [allP, and_true, true_and]; done) | (simp only [allP, and_true, true_and]; omega)
            · simp [selOk, pos]
            · simp
            · first | exact ⟨rfl, rfl⟩ | (simp only [go_sem, Nat.reduceBEq, Nat.reduceLT, Nat.reduceAdd, Nat.reduceLeDiff, Nat.reduceSub, Nat.reduceEqDiff, Int.reduceToNat, reduceCtorEq, ↓reduceIte]; done) | (simp [go_sem, Nat.reduceBEq, Nat.reduceLT, Nat.reduceAdd, Nat.reduceLeDiff, Nat.reduceSub, Nat.reduceEqDiff, Int.reduceToNat, reduceCtorEq, ↓reduceIte]; done) | (simp only [go_sem, Nat.reduceBEq, Nat.reduceLT, Nat.reduceAdd, Nat.reduceLeDiff, Nat.reduceSub, Nat.reduceEqDiff, Int.reduceToNat, reduceCtorEq, ↓reduceIte]; exact ⟨rfl, rfl⟩) | (simp_all [go_sem, Nat.reduceBEq, Nat.reduceLT, Nat.reduceAdd, Nat.reduceLeDiff, Nat.reduceSub, Nat.reduceEqDiff, Int.reduceToNat, reduceCtorEq, ↓reduceIte]; done)
theorem k_spec_l20Workers (a0_0 : List Int) (a0_1 : Int) (a1 : Int) {r : Int × Int} (h : spec_l20Workers a0_0 a0_1 a1 = some r) :
    FnA Try.prog 18 [.pp 0 0, .v (.int .i64 a1)] [.box [.sl 1, .v (.int .i64 a0_1)], .row false (.ints .u8 a0_0)] [] (fun x H => x = .v (.int .i64 r.1) ∧ H = [.box [.sl 1, .v (.int .i64 r.2)], .row false (.ints .u8 a0_0)]) := by
  unfold spec_l20Workers at h
  refine FnA.of (N := 16) (pin := [0, 1]) (rs := [.tmp 4]) Try.func18 rfl en18 rfl rfl (by simp) (by simp; try omega) ?_
  refine awp_reg ftCOk [(0, .pp 0 0), (1, .v (.int .i64 a1))] [.box [.sl 1, .v (.int .i64 a0_1)], .row false (.ints .u8 a0_0)] ?_
  refine awp_seq fun K2 hK2 => ?_
  replace h := bind_some h
  obtain ⟨⟨y, y_1⟩, hr0, h⟩ := h
  try dsimp only at h
  refine awp_to [(0, .pp 0 0), (7, .v (.bool y))] [.box [.sl 1, .v (.int .i64 y_1)], .row false (.ints .u8 a0_0)] ?_ ?_
  · clear h
    intro K hK
    refine awp_region ftCOk ?_
    simp (maxSteps := 4000000) only [go_sem, Nat.reduceBEq, Nat.reduceLT, Nat.reduceAdd, Nat.reduceLeDiff, Nat.reduceSub, Nat.reduceEqDiff, Int.reduceToNat, reduceCtorEq, ↓reduceIte]
    repeat' (first | refine And.intro ?_ ?_ | intro hg)
    all_goals (try simp (disch := omega) only [wrap_fits])
    all_goals first
      | (refine hK _ _ ?_; exact Red.auto)
      | exact trivial
      | assumption
      | omega
      | exact wrap_fits (by omega) (by omega)
      | (refine wpA_callA (k_spec_l20Rd_odd a0_0 a0_1 a1 (h := hr0)) [0, 1] [] ?_
         rintro x Hc' ⟨rfl, rfl⟩ hlen
         refine vcOps_sound ftCOk ?_
         simp (maxSteps := 4000000) only [go_sem, Nat.reduceBEq, Nat.reduceLT, Nat.reduceAdd, Nat.reduceLeDiff, Nat.reduceSub, Nat.reduceEqDiff, Int.reduceToNat, reduceCtorEq, ↓reduceIte]
         repeat' (first | refine And.intro ?_ ?_ | intro hg)
         all_goals (try simp (disch := omega) only [wrap_fits])
         all_goals first
           | (refine hK _ _ ?_; exact Red.auto)
           | exact trivial
           | assumption
           | omega
           | exact wrap_fits (by omega) (by omega)
           | (simp_all; done)
           | (simp_all; omega))
      | (simp_all; done)
      | (simp_all; omega)
  · clear hr0
    refine awp_cond (t := 7) rfl (fun hc3 => ?_) (fun hc3 => ?_)
    · replace h := bite_t h hc3
      replace h := bind_some h
      obtain ⟨⟨y_2, y_3⟩, hr0, h⟩ := h
      try dsimp only at h
      replace h := chk_some h
      obtain ⟨hp1, h⟩ := h
      refine awp_to [(4, .v (.int .i64 (([0, 7, (-1)] : List Int).getD y_2.toNat 0)))] [.box [.sl 1, .v (.int .i64 y_3)], .row false (.ints .u8 a0_0), .row true (.ints .i64 [0, 7, (-1)])] ?_ ?_
      · clear h
        intro K hK
        refine awp_region ftCOk ?_
        simp (maxSteps := 4000000) only [go_sem, Nat.reduceBEq, Nat.reduceLT, Nat.reduceAdd, Nat.reduceLeDiff, Nat.reduceSub, Nat.reduceEqDiff, Int.reduceToNat, reduceCtorEq, ↓reduceIte]
        repeat' (first | refine And.intro ?_ ?_ | intro hg)
        all_goals (try simp (disch := omega) only [wrap_fits])
        all_goals first
          | (refine hK _ _ ?_; exact Red.auto)
          | exact trivial
          | assumption
          | omega
          | exact wrap_fits (by omega) (by omega)
          | (refine wpA_callA (k_spec_l20Rd_pick a0_0 y_1 3 (h := hr0)) [0, 1] [] ?_
             rintro x Hc' ⟨rfl, rfl⟩ hlen
             refine vcOps_sound ftCOk ?_
             simp (maxSteps := 4000000) only [go_sem, Nat.reduceBEq, Nat.reduceLT, Nat.reduceAdd, Nat.reduceLeDiff, Nat.reduceSub, Nat.reduceEqDiff, Int.reduceToNat, reduceCtorEq, ↓reduceIte]
             repeat' (first | refine And.intro ?_ ?_ | intro hg)
             all_goals (try simp (disch := omega) only [wrap_fits])
             all_goals first
               | (refine hK _ _ ?_; exact Red.auto)
               | exact trivial
               | assumption
               | omega
               | exact wrap_fits (by omega) (by omega)
               | (simp_all; done)
               | (simp_all; omega))
          | (simp_all; done)
          | (simp_all; omega)
      · clear hr0 hp1
        refine awp_ret ?_
        (try simp only [Thn, InBlk, ↓reduceIte, Nat.reduceEqDiff])
        obtain rfl := Option.some.inj h
        refine ⟨by simp, _, [0, 1], (by simp only [go_sem, Nat.reduceBEq, Nat.reduceLT, Nat.reduceAdd, Nat.reduceLeDiff, Nat.reduceSub, Nat.reduceEqDiff, Int.reduceToNat, reduceCtorEq, ↓reduceIte]; exact rfl), ?_, ?_, ?_, ?_⟩
        · first | exact trivial | exact ⟨trivial, trivial⟩ | exact ⟨trivial, trivial, trivial⟩ | exact ⟨trivial, trivial, trivial, trivial⟩ | (simp only [allP, and_true, true_and]; done) | (simp only [allP, and_true, true_and]; omega)
        · simp [selOk, pos]
        · simp
        · first | exact ⟨rfl, rfl⟩ | (simp only [go_sem, Nat.reduceBEq, Nat.reduceLT, Nat.reduceAdd, Nat.reduceLeDiff, Nat.reduceSub, Nat.reduceEqDiff, Int.reduceToNat, reduceCtorEq, ↓reduceIte]; done) | (simp [go_sem, Nat.reduceBEq, Nat.reduceLT, Nat.reduceAdd, Nat.reduceLeDiff, Nat.reduceSub, Nat.reduceEqDiff, Int.reduceToNat, reduceCtorEq, ↓reduceIte]; done) | (simp only [go_sem, Nat.reduceBEq, Nat.reduceLT, Nat.reduceAdd, Nat.reduceLeDiff, Nat.reduceSub, Nat.reduceEqDiff, Int.reduceToNat, reduceCtorEq, ↓reduceIte]; exact ⟨rfl, rfl⟩) | (simp_all [go_sem, Nat.reduceBEq, Nat.reduceLT, Nat.reduceAdd, Nat.reduceLeDiff, Nat.reduceSub, Nat.reduceEqDiff, Int.reduceToNat, reduceCtorEq, ↓reduceIte]; done)
    · replace h := bite_f h hc3
      refine awp_skip ?_
      (try simp only [Thn, InBlk, ↓reduceIte, Nat.reduceEqDiff])
      refine hK2 _ _ ?_
      clear hK2
      replace h := bind_some h
      obtain ⟨⟨y_4, y_5⟩, hr0, h⟩ := h
      try dsimp only at h
      replace h := chk_some h
      obtain ⟨hp1, h⟩ := h
      refine awp_to [(4, .v (.int .i64 (1 + y_4)))] [.box [.sl 1, .v (.int .i64 y_5)], .row false (.ints .u8 a0_0)] ?_ ?_
      · clear h
        intro K hK
        refine awp_region ftCOk ?_
        simp (maxSteps := 4000000) only [go_sem, Nat.reduceBEq, Nat.reduceLT, Nat.reduceAdd, Nat.reduceLeDiff, Nat.reduceSub, Nat.reduceEqDiff, Int.reduceToNat, reduceCtorEq, ↓reduceIte]
        repeat' (first | refine And.intro ?_ ?_ | intro hg)
        all_goals (try simp (disch := omega) only [wrap_fits])
        all_goals first
          | (refine hK _ _ ?_; exact Red.auto)
          | exact trivial
          | assumption
          | omega
          | exact wrap_fits (by omega) (by omega)
          | (refine wpA_callA (k_spec_l20Rd_pick a0_0 y_1 6 (h := hr0)) [0, 1] [] ?_
             rintro x Hc' ⟨rfl, rfl⟩ hlen
             refine vcOps_sound ftCOk ?_
             simp (maxSteps := 4000000) only [go_sem, Nat.reduceBEq, Nat.reduceLT, Nat.reduceAdd, Nat.reduceLeDiff, Nat.reduceSub, Nat.reduceEqDiff, Int.reduceToNat, reduceCtorEq, ↓reduceIte]
             repeat' (first | refine And.intro ?_ ?_ | intro hg)
             all_goals (try simp (disch := omega) only [wrap_fits])
             all_goals first
               | (refine hK _ _ ?_; exact Red.auto)
               | exact trivial
               | assumption
               | omega
               | exact wrap_fits (by omega) (by omega)
               | (simp_all; done)
               | (simp_all; omega))
          | (simp_all; done)
          | (simp_all; omega)
      · clear hr0 hp1
        refine awp_ret ?_
        (try simp only [Thn, InBlk, ↓reduceIte, Nat.reduceEqDiff])
        obtain rfl := Option.some.inj h
        refine ⟨by simp, _, [0, 1], (by simp only [go_sem, Nat.reduceBEq, Nat.reduceLT, Nat.reduceAdd, Nat.reduceLeDiff, Nat.reduceSub, Nat.reduceEqDiff, Int.reduceToNat, reduceCtorEq, ↓reduceIte]; exact rfl), ?_, ?_, ?_, ?_⟩
        · first | exact trivial | exact ⟨trivial, trivial⟩ | exact ⟨trivial, trivial, trivial⟩ | exact ⟨trivial, trivial, trivial, trivial⟩ | (simp only [allP, and_true, true_and]; done) | (simp only [allP, and_true, true_and]; omega)
        · simp [selOk, pos]
        · simp
        · first | exact ⟨rfl, rfl⟩ | (simp only [go_sem, Nat.reduceBEq, Nat.reduceLT, Nat.reduceAdd, Nat.reduceLeDiff, Nat.reduceSub, Nat.reduceEqDiff, Int.reduceToNat, reduceCtorEq, ↓reduceIte]; done) | (simp [go_sem, Nat.reduceBEq, Nat.reduceLT, Nat.reduceAdd, Nat.reduceLeDiff, Nat.reduceSub, Nat.reduceEqDiff, Int.reduceToNat, reduceCtorEq, ↓reduceIte]; done) | (simp only [go_sem, Nat.reduceBEq, Nat.reduceLT, Nat.reduceAdd, Nat.reduceLeDiff, Nat.reduceSub, Nat.reduceEqDiff, Int.reduceToNat, reduceCtorEq, ↓reduceIte]; exact ⟨rfl, rfl⟩) | (simp_all [go_sem, Nat.reduceBEq, Nat.reduceLT, Nat.reduceAdd, Nat.reduceLeDiff, Nat.reduceSub, Nat.reduceEqDiff, Int.reduceToNat, reduceCtorEq, ↓reduceIte]; done)
theorem k_spec_OwnerOf (a0 : Int) (a1 : Int) {r : Int} (h : spec_OwnerOf a0 a1 = some r) :
    FnA Try.prog 24 [.v (.int .i64 a0), .v (.int .i64 a1)] [] [] (fun x H => x = .v (.int .i64 r) ∧ H = []) := by
  unfold spec_OwnerOf at h
  refine FnA.of (N := 19) (pin := []) (rs := [.tmp 4]) Try.func24 rfl en24 rfl rfl (by simp) (by simp; try omega) ?_
  refine awp_reg ftCOk [(0, .v (.int .i64 a0)), (1, .v (.int .i64 a1))] [] ?_
  refine awp_seq fun K2 hK2 => ?_
  refine awp_reg ftCOk [(0, .v (.int .i64 a0)), (1, .v (.int .i64 a1)), (12, .v (.bool ((!(decide (0 ≤ a0) && decide (a0 ≤ 15))) || (!(decide (1 ≤ a1) && decide (a1 ≤ 6))))))] [] ?_
  refine awp_cond (t := 12) rfl (fun hc3 => ?_) (fun hc3 => ?_)
  · replace h := bite_t h hc3
    refine awp_reg ftCOk [(4, .v (.int .i64 (-1)))] [] ?_
    refine awp_ret ?_
    (try simp only [Thn, InBlk, ↓reduceIte, Nat.reduceEqDiff])
    obtain rfl := Option.some.inj h
    refine ⟨by simp, _, [], (by simp only [go_sem, Nat.reduceBEq, Nat.reduceLT, Nat.reduceAdd, Nat.reduceLeDiff, Nat.reduceSub, Nat.reduceEqDiff, Int.reduceToNat, reduceCtorEq, ↓reduceIte]; exact rfl), ?_, ?_, ?_, ?_⟩
    · first | exact trivial | exact ⟨trivial, trivial⟩ | exact ⟨trivial, trivial, trivial⟩ | exact ⟨trivial, trivial, trivial, trivial⟩ | (simp only [allP, and_true, true_and]; done) | (simp only [allP, and_true, true_and]; omega)
    · simp [selOk, pos]
    · simp
    · first | exact ⟨rfl, rfl⟩ | (simp only [go_sem, Nat.reduceBEq, Nat.reduceLT, Nat.reduceAdd, Nat.reduceLeDiff, Nat.reduceSub, Nat.reduceEqDiff, Int.reduceToNat, reduceCtorEq, ↓reduceIte]; done) | (simp [go_sem, Nat.reduceBEq, Nat.reduceLT, Nat.reduceAdd, Nat.reduceLeDiff, Nat.reduceSub, Nat.reduceEqDiff, Int.reduceToNat, reduceCtorEq, ↓reduceIte]; done) | (simp only [go_sem, Nat.reduceBEq, Nat.reduceLT, Nat.reduceAdd, Nat.reduceLeDiff, Nat.reduceSub, Nat.reduceEqDiff, Int.reduceToNat, reduceCtorEq, ↓reduceIte]; exact ⟨rfl, rfl⟩) | (simp_all [go_sem, Nat.reduceBEq, Nat.reduceLT, Nat.reduceAdd, Nat.reduceLeDiff, Nat.reduceSub, Nat.reduceEqDiff, Int.reduceToNat, reduceCtorEq, ↓reduceIte]; done)
  · replace h := bite_f h hc3
    refine awp_skip ?_
    (try simp only [Thn, InBlk, ↓reduceIte, Nat.reduceEqDiff])
    refine hK2 _ _ ?_
    clear hK2
    replace h := chk_some h
    obtain ⟨hp0, h⟩ := h
    replace h := chk_some h
    obtain ⟨hp1, h⟩ := h
    replace h := chk_some h
    obtain ⟨hp2, h⟩ := h
    replace h := chk_some h
    obtain ⟨hp3, h⟩ := h
    refine awp_reg ftCOk [(4, .v (.int .i64 ((((13 * a0) + 5) % 17) % a1)))] [] ?_
    clear hp0 hp1 hp2 hp3
    refine awp_ret ?_
    (try simp only [Thn, InBlk, ↓reduceIte, Nat.reduceEqDiff])
    obtain rfl := Option.some.inj h
    refine ⟨by simp, _, [], (by simp only [go_sem, Nat.reduceBEq, Nat.reduceLT, Nat.reduceAdd, Nat.reduceLeDiff, Nat.reduceSub, Nat.reduceEqDiff, Int.reduceToNat, reduceCtorEq, ↓reduceIte]; exact rfl), ?_, ?_, ?_, ?_⟩
    · first | exact trivial | exact ⟨trivial, trivial⟩ | exact ⟨trivial, trivial, trivial⟩ | exact ⟨trivial, trivial, trivial, trivial⟩ | (simp only [allP, and_true, true_and]; done) | (simp only [allP, and_true, true_and]; omega)
    · simp [selOk, pos]
    · simp
    · first | exact ⟨rfl, rfl⟩ | (simp only [go_sem, Nat.reduceBEq, Nat.reduceLT, Nat.reduceAdd, Nat.reduceLeDiff, Nat.reduceSub, Nat.reduceEqDiff, Int.reduceToNat, reduceCtorEq, ↓reduceIte]; done) | (simp [go_sem, Nat.reduceBEq, Nat.reduceLT, Nat.reduceAdd, Nat.reduceLeDiff, Nat.reduceSub, Nat.reduceEqDiff, Int.reduceToNat, reduceCtorEq, ↓reduceIte]; done) | (simp only [go_sem, Nat.reduceBEq, Nat.reduceLT, Nat.reduceAdd, Nat.reduceLeDiff, Nat.reduceSub, Nat.reduceEqDiff, Int.reduceToNat, reduceCtorEq, ↓reduceIte]; exact ⟨rfl, rfl⟩) | (simp_all [go_sem, Nat.reduceBEq, Nat.reduceLT, Nat.reduceAdd, Nat.reduceLeDiff, Nat.reduceSub, Nat.reduceEqDiff, Int.reduceToNat, reduceCtorEq, ↓reduceIte]; done)
theorem k_spec_PartOf (a0_0 : Int) (a0_1 : List (Int × Int × Int)) (a1 : Int) (a2 : Int) {r : Int × (List (Int × Int × Int))} (h : spec_PartOf a0_0 a0_1 a1 a2 = some r) :
    FnA Try.prog 8 [.agg [.v (.int .i64 a0_0), .sl 0], .v (.int .i64 a1), .v (.int .i64 a2)] [.row false (.trips a0_1)] [] (fun x H => x = .agg [.v (.int .i64 r.1), .sl 1] ∧ H = [.row false (.trips a0_1), .row true (.trips r.2)]) := by
  unfold spec_PartOf at h
  refine FnA.of (N := 58) (pin := [0]) (rs := [.cell 6 25]) Try.func8 rfl en8 rfl rfl (by simp) (by simp; try omega) ?_
  refine awp_reg ftCOk [(1, .v (.int .i64 a1)), (2, .v (.int .i64 a2)), (3, .pp 1 0), (6, .pp 2 0)] [.row false (.trips a0_1), .box [.v (.int .i64 a0_0), .sl 0], .box [.v (.int .i64 0), .v (.slice none 0 0)]] ?_
  replace h := bind_some h
  obtain ⟨⟨y, y_1⟩, hr0, h⟩ := h
  try dsimp only at h
  refine awp_to [(1, .v (.int .i64 a1)), (2, .v (.int .i64 a2)), (3, .pp 1 0), (6, .pp 2 0)] [.row false (.trips a0_1), .box [.v (.int .i64 y), .sl 3], .box [.v (.int .i64 0), .v (.slice none 0 0)], .row true (.trips y_1)] ?_ ?_
  · clear h
    intro K hK
    refine awp_region ftCOk ?_
    simp (maxSteps := 4000000) only [go_sem, Nat.reduceBEq, Nat.reduceLT, Nat.reduceAdd, Nat.reduceLeDiff, Nat.reduceSub, Nat.reduceEqDiff, Int.reduceToNat, reduceCtorEq, ↓reduceIte]
    repeat' (first | refine And.intro ?_ ?_ | intro hg)
    all_goals (try simp (disch := omega) only [wrap_fits])
    all_goals first
      | (refine hK _ _ ?_; exact Red.auto)
      | exact trivial
      | assumption
      | omega
      | exact wrap_fits (by omega) (by omega)
      | (refine wpA_callA (k_spec_l1OwnGraph a0_0 a0_1 (h := hr0)) [0] [] ?_
         rintro x Hc' ⟨rfl, rfl⟩ hlen
         refine vcOps_sound ftCOk ?_
         simp (maxSteps := 4000000) only [go_sem, Nat.reduceBEq, Nat.reduceLT, Nat.reduceAdd, Nat.reduceLeDiff, Nat.reduceSub, Nat.reduceEqDiff, Int.reduceToNat, reduceCtorEq, ↓reduceIte]
         repeat' (first | refine And.intro ?_ ?_ | intro hg)
         all_goals (try simp (disch := omega) only [wrap_fits])
         all_goals first
           | (refine hK _ _ ?_; exact Red.auto)
           | exact trivial
           | assumption
           | omega
           | exact wrap_fits (by omega) (by omega)
           | (simp_all; done)
           | (simp_all; omega))
      | (simp_all; done)
      | (simp_all; omega)
  · clear hr0
    refine awp_seq fun K2 hK2 => ?_
    replace h := bind_some h
    obtain ⟨y_2, hr0, h⟩ := h
    try dsimp only at h
    refine awp_to [(1, .v (.int .i64 a1)), (2, .v (.int .i64 a2)), (3, .pp 1 0), (6, .pp 2 0), (25, .v (.bool (((!y_2) || (!(decide (1 ≤ a1) && decide (a1 ≤ 6)))) || (!(decide (0 ≤ a2) && decide (a2 ≤ (IntKind.i64.wrap (a1 - 1))))))))] [.row false (.trips a0_1), .box [.v (.int .i64 y), .sl 3], .box [.v (.int .i64 0), .v (.slice none 0 0)], .row true (.trips y_1)] ?_ ?_
    · clear h
      intro K hK
      refine awp_regionA ?_
      refine wpA_cutAt 8 [(1, .v (.int .i64 a1)), (2, .v (.int .i64 a2)), (3, .pp 1 0), (6, .pp 2 0), (18, .v (.bool ((!y_2) || (!(decide (1 ≤ a1) && decide (a1 ≤ 6))))))] [.row false (.trips a0_1), .box [.v (.int .i64 y), .sl 3], .box [.v (.int .i64 0), .v (.slice none 0 0)], .row true (.trips y_1)] ?_ ?_
      · clear hK K
        intro K hK
        refine vcOps_sound ftCOk ?_
        simp (maxSteps := 4000000) only [go_sem, Nat.reduceBEq, Nat.reduceLT, Nat.reduceAdd, Nat.reduceLeDiff, Nat.reduceSub, Nat.reduceEqDiff, Int.reduceToNat, reduceCtorEq, ↓reduceIte]
        repeat' (first | refine And.intro ?_ ?_ | intro hg)
        all_goals (try simp (disch := omega) only [wrap_fits])
        all_goals first
          | (refine hK _ _ ?_; exact Red.auto)
          | exact trivial
          | assumption
          | omega
          | exact wrap_fits (by omega) (by omega)
          | (refine wpA_callA (k_spec_GraphValid y y_1 (h := hr0)) [3] [] ?_
             rintro x Hc' ⟨rfl, rfl⟩ hlen
             refine vcOps_sound ftCOk ?_
             simp (maxSteps := 4000000) only [go_sem, Nat.reduceBEq, Nat.reduceLT, Nat.reduceAdd, Nat.reduceLeDiff, Nat.reduceSub, Nat.reduceEqDiff, Int.reduceToNat, reduceCtorEq, ↓reduceIte]
             repeat' (first | refine And.intro ?_ ?_ | intro hg)
             all_goals (try simp (disch := omega) only [wrap_fits])
             all_goals first
               | (refine hK _ _ ?_; exact Red.auto)
               | exact trivial
               | assumption
               | omega
               | exact wrap_fits (by omega) (by omega)
               | (simp_all; done)
               | (simp_all; omega))
          | (simp_all; done)
          | (simp_all; omega)
      refine vcOps_sound ftCOk ?_
      simp (maxSteps := 4000000) only [go_sem, Nat.reduceBEq, Nat.reduceLT, Nat.reduceAdd, Nat.reduceLeDiff, Nat.reduceSub, Nat.reduceEqDiff, Int.reduceToNat, reduceCtorEq, ↓reduceIte]
      repeat' (first | refine And.intro ?_ ?_ | intro hg)
      all_goals (try simp (disch := omega) only [wrap_fits])
      all_goals first
        | (refine hK _ _ ?_; exact Red.auto)
        | exact trivial
        | assumption
        | omega
        | exact wrap_fits (by omega) (by omega)
        | (simp_all; done)
        | (simp_all; omega)
    · clear hr0
      refine awp_cond (t := 25) rfl (fun hc3 => ?_) (fun hc3 => ?_)
      · replace h := bite_t h hc3
        refine awp_reg ftCOk [(6, .pp 2 0)] [.row false (.trips a0_1), .box [.v (.int .i64 y), .sl 3], .box [.v (.int .i64 0), .v (.slice none 0 0)], .row true (.trips y_1)] ?_
        refine awp_red (Red.nilCell (o := 2) (i := 1) (.trips []) rfl rfl rfl) ?_
        refine awp_ret ?_
        (try simp only [Thn, InBlk, ↓reduceIte, Nat.reduceEqDiff])
        obtain rfl := Option.some.inj h
        refine ⟨by simp, _, [0, 4], (by simp only [go_sem, Nat.reduceBEq, Nat.reduceLT, Nat.reduceAdd, Nat.reduceLeDiff, Nat.reduceSub, Nat.reduceEqDiff, Int.reduceToNat, reduceCtorEq, ↓reduceIte]; exact rfl), ?_, ?_, ?_, ?_⟩
        · first | exact trivial | exact ⟨trivial, trivial⟩ | exact ⟨trivial, trivial, trivial⟩ | exact ⟨trivial, trivial, trivial, trivial⟩ | (simp only [allP, and_true, true_and]; done) | (simp only [allP, and_true, true_and]; omega)
        · simp [selOk, pos]
        · simp
        · first | exact ⟨rfl, rfl⟩ | (simp only [go_sem, Nat.reduceBEq, Nat.reduceLT, Nat.reduceAdd, Nat.reduceLeDiff, Nat.reduceSub, Nat.reduceEqDiff, Int.reduceToNat, reduceCtorEq, ↓reduceIte]; done) | (simp [go_sem, Nat.reduceBEq, Nat.reduceLT, Nat.reduceAdd, Nat.reduceLeDiff, Nat.reduceSub, Nat.reduceEqDiff, Int.reduceToNat, reduceCtorEq, ↓reduceIte]; done) | (simp only [go_sem, Nat.reduceBEq, Nat.reduceLT, Nat.reduceAdd, Nat.reduceLeDiff, Nat.reduceSub, Nat.reduceEqDiff, Int.reduceToNat, reduceCtorEq, ↓reduceIte]; exact ⟨rfl, rfl⟩) | (simp_all [go_sem, Nat.reduceBEq, Nat.reduceLT, Nat.reduceAdd, Nat.reduceLeDiff, Nat.reduceSub, Nat.reduceEqDiff, Int.reduceToNat, reduceCtorEq, ↓reduceIte]; done)
      · replace h := bite_f h hc3
        refine awp_skip ?_
        (try simp only [Thn, InBlk, ↓reduceIte, Nat.reduceEqDiff])
        refine hK2 _ _ ?_
        clear hK2
        refine awp_reg ftCOk [(1, .v (.int .i64 a1)), (2, .v (.int .i64 a2)), (3, .pp 1 0), (6, .pp 2 0), (7, .pp 4 0)] [.row false (.trips a0_1), .box [.v (.int .i64 y), .sl 3], .box [.v (.int .i64 0), .v (.slice none 0 0)], .row true (.trips y_1), .box [.v (.int .i64 y), .v (.slice none 0 0)]] ?_
        refine awp_seq fun K25 hK25 => ?_
        refine awp_reg ftCOk [(1, .v (.int .i64 a1)), (2, .v (.int .i64 a2)), (3, .pp 1 0), (6, .pp 2 0), (7, .pp 4 0), (8, .v (.int .i64 0))] [.row false (.trips a0_1), .box [.v (.int .i64 y), .sl 3], .box [.v (.int .i64 0), .v (.slice none 0 0)], .row true (.trips y_1), .box [.v (.int .i64 y), .v (.slice none 0 0)]] ?_
        refine awp_block ?_
        replace h := bind_some h
        obtain ⟨t7_1s_1, hx, h⟩ := h
        refine awp_loopL hx (fun ((t8, t7_1s) : Int × (List (Int × Int × Int))) => [(1, .v (.int .i64 a1)), (2, .v (.int .i64 a2)), (3, .pp 1 0), (6, .pp 3 0), (7, .pp 4 0), (8, .v (.int .i64 t8))]) (fun ((t8, t7_1s) : Int × (List (Int × Int × Int))) => [.row false (.trips a0_1), .box [.v (.int .i64 y), .sl 2], .row true (.trips y_1), .box [.v (.int .i64 0), .v (.slice none 0 0)], .box [.v (.int .i64 y), .sl 5], .row true (.trips t7_1s)]) (fun (t7_1s_1 : List (Int × Int × Int)) => Exit.exit 0) (fun (t7_1s_1 : List (Int × Int × Int)) => [(6, .pp 1 0), (7, .pp 2 0)]) (fun (t7_1s_1 : List (Int × Int × Int)) => [.row false (.trips a0_1), .box [.v (.int .i64 0), .v (.slice none 0 0)], .box [.v (.int .i64 y), .sl 3], .row true (.trips t7_1s_1)]) ?_ ?_ ?_ ?_
        · rintro t7_1s_1 hy <;> cases hy
        · clear h hx
          refine Red.trans (Red.nilCell (o := 4) (i := 1) (.trips []) rfl rfl rfl) ?_
          exact Red.selA [0, 1, 3, 2, 4, 5] Red.auto
        · clear h hx
          rintro ⟨t8, t7_1s⟩ r h
          unfold spec_PartOf_b0 at h
          try dsimp only at h
          try dsimp only
          refine awp_seq fun K42 hK42 => ?_
          refine awp_reg ftCOk [(1, .v (.int .i64 a1)), (2, .v (.int .i64 a2)), (3, .pp 1 0), (6, .pp 3 0), (7, .pp 4 0), (8, .v (.int .i64 t8)), (34, .v (.bool (decide (t8 < (y_1.length : Int)))))] [.row false (.trips a0_1), .box [.v (.int .i64 y), .sl 2], .row true (.trips y_1), .box [.v (.int .i64 0), .v (.slice none 0 0)], .box [.v (.int .i64 y), .sl 5], .row true (.trips t7_1s)] ?_
          refine awp_cond (t := 34) rfl (fun hc43 => ?_) (fun hc43 => ?_)
          · replace h := bite_t h hc43
            refine awp_skip ?_
            (try simp only [Thn, InBlk, ↓reduceIte, Nat.reduceEqDiff])
            refine hK42 _ _ ?_
            clear hK42
            refine awp_join h (fun (t7_1s_2 : List (Int × Int × Int)) => [(1, .v (.int .i64 a1)), (2, .v (.int .i64 a2)), (3, .pp 1 0), (6, .pp 3 0), (7, .pp 4 0), (8, .v (.int .i64 t8))]) (fun (t7_1s_2 : List (Int × Int × Int)) => [.row false (.trips a0_1), .box [.v (.int .i64 y), .sl 2], .row true (.trips y_1), .box [.v (.int .i64 0), .v (.slice none 0 0)], .box [.v (.int .i64 y), .sl 5], .row true (.trips t7_1s_2)]) ?_ ?_
            · clear h
              intro k h
              try dsimp only at h
              refine awp_block ?_
              replace h := chk_some h
              obtain ⟨hp0, h⟩ := h
              replace h := bind_some h
              obtain ⟨y_3, hr1, h⟩ := h
              try dsimp only at h
              refine awp_to [(1, .v (.int .i64 a1)), (2, .v (.int .i64 a2)), (3, .pp 1 0), (6, .pp 3 0), (7, .pp 4 0), (8, .v (.int .i64 t8)), (46, .v (.bool (y_3 == a2)))] [.row false (.trips a0_1), .box [.v (.int .i64 y), .sl 2], .row true (.trips y_1), .box [.v (.int .i64 0), .v (.slice none 0 0)], .box [.v (.int .i64 y), .sl 5], .row true (.trips t7_1s)] ?_ ?_
              · clear h
                intro K hK
                refine awp_region ftCOk ?_
                simp (maxSteps := 4000000) only [go_sem, Nat.reduceBEq, Nat.reduceLT, Nat.reduceAdd, Nat.reduceLeDiff, Nat.reduceSub, Nat.reduceEqDiff, Int.reduceToNat, reduceCtorEq, ↓reduceIte]
                repeat' (first | refine And.intro ?_ ?_ | intro hg)
                all_goals (try simp (disch := omega) only [wrap_fits])
                all_goals first
                  | (refine hK _ _ ?_; exact Red.auto)
                  | exact trivial
                  | assumption
                  | omega
                  | exact wrap_fits (by omega) (by omega)
                  | (refine wpA_callA (k_spec_OwnerOf ((y_1.getD t8.toNat (0, 0, 0)).1) a1 (h := hr1)) [] [] ?_
                     rintro x Hc' ⟨rfl, rfl⟩ hlen
                     refine vcOps_sound ftCOk ?_
                     simp (maxSteps := 4000000) only [go_sem, Nat.reduceBEq, Nat.reduceLT, Nat.reduceAdd, Nat.reduceLeDiff, Nat.reduceSub, Nat.reduceEqDiff, Int.reduceToNat, reduceCtorEq, ↓reduceIte]
                     repeat' (first | refine And.intro ?_ ?_ | intro hg)
                     all_goals (try simp (disch := omega) only [wrap_fits])
                     all_goals first
                       | (refine hK _ _ ?_; exact Red.auto)
                       | exact trivial
                       | assumption
                       | omega
                       | exact wrap_fits (by omega) (by omega)
                       | (simp_all; done)
                       | (simp_all; omega))
                  | (simp_all; done)
                  | (simp_all; omega)
              · clear hp0 hr1
                refine awp_cond (t := 46) rfl (fun hc45 => ?_) (fun hc45 => ?_)
                · replace h := bite_t h hc45
                  replace h := chk_some h
                  obtain ⟨hp0, h⟩ := h
                  replace h := chk_some h
                  obtain ⟨hp1, h⟩ := h
                  refine awp_end [(1, .v (.int .i64 a1)), (2, .v (.int .i64 a2)), (3, .pp 1 0), (6, .pp 3 0), (7, .pp 4 0), (8, .v (.int .i64 t8))] [.row false (.trips a0_1), .box [.v (.int .i64 y), .sl 2], .row true (.trips y_1), .box [.v (.int .i64 0), .v (.slice none 0 0)], .box [.v (.int .i64 y), .sl 5], .row true (.trips (t7_1s ++ [((y_1.getD t8.toNat (0, 0, 0)).1, (y_1.getD t8.toNat (0, 0, 0)).2.1, (y_1.getD t8.toNat (0, 0, 0)).2.2)])), .row true (.trips [((y_1.getD t8.toNat (0, 0, 0)).1, (y_1.getD t8.toNat (0, 0, 0)).2.1, (y_1.getD t8.toNat (0, 0, 0)).2.2)])] ?_ ?_
                  · clear h
                    intro K hK
                    refine awp_drawP [0, 1, 2, 3, 4] (by first | rfl | kernel_rfl) (by rfl) mixed ftCOk (.free 0 (.free 2 (.free 4 (.two 1 3 (.one 3 (.one 5 (.one 6 (.one 7 (.one 8 (.one 9 (.one 10 .fin))))))) (.two 1 5 (.one 5 (.one 6 (.one 7 (.one 8 (.one 9 (.one 10 .fin)))))) (.two 1 6 (.one 6 (.one 7 (.one 8 (.one 9 (.one 10 .fin))))) (.two 1 7 (.one 7 (.one 8 (.one 9 (.one 10 .fin)))) (.one 1 (.one 8 (.one 9 (.one 10 .fin))))))))))) (by kernel_rfl) (by simp) ?_
                    simp (maxSteps := 4000000) only [go_sem, Nat.reduceBEq, Nat.reduceLT, Nat.reduceAdd, Nat.reduceLeDiff, Nat.reduceSub, Nat.reduceEqDiff, Int.reduceToNat, reduceCtorEq, ↓reduceIte]
                    repeat' (first | refine And.intro ?_ ?_ | intro hg)
                    all_goals (try simp (disch := omega) only [wrap_fits])
                    all_goals first
                      | (refine hK _ _ ?_; exact Red.auto)
                      | exact trivial
                      | assumption
                      | omega
                      | exact wrap_fits (by omega) (by omega)
                      | (simp (maxSteps := 4000000) only [go_sem, Nat.reduceBEq, Nat.reduceLT, Nat.reduceAdd, Nat.reduceLeDiff, Nat.reduceSub, Nat.reduceEqDiff, Int.reduceToNat, reduceCtorEq, ↓reduceIte]
                         repeat' (first | refine And.intro ?_ ?_ | intro hg)
                         all_goals (try simp (disch := omega) only [wrap_fits])
                         all_goals first | (refine hK _ _ ?_; exact Red.auto) | exact trivial | assumption | omega | exact wrap_fits (by omega) (by omega))
                      | (simp_all; done)
                      | (simp_all; omega)
                  · clear hp0 hp1
                    (try simp only [Thn, InBlk, ↓reduceIte, Nat.reduceEqDiff])
                    (try simp only [Thn, InBlk, ↓reduceIte, Nat.reduceEqDiff])
                    refine ⟨_, h, ?_⟩
                    exact Red.selA [0, 1, 2, 3, 4, 5] Red.auto
                · replace h := bite_f h hc45
                  refine awp_skip ?_
                  (try simp only [Thn, InBlk, ↓reduceIte, Nat.reduceEqDiff])
                  (try simp only [Thn, InBlk, ↓reduceIte, Nat.reduceEqDiff])
                  refine ⟨_, h, ?_⟩
                  exact Red.auto
            · clear h
              rintro t7_1s_2 h
              try dsimp only at h
              try dsimp only
              replace h := chk_some h
              obtain ⟨hp0, h⟩ := h
              refine awp_regE ftCOk [(1, .v (.int .i64 a1)), (2, .v (.int .i64 a2)), (3, .pp 1 0), (6, .pp 3 0), (7, .pp 4 0), (8, .v (.int .i64 (t8 + 1)))] [.row false (.trips a0_1), .box [.v (.int .i64 y), .sl 2], .row true (.trips y_1), .box [.v (.int .i64 0), .v (.slice none 0 0)], .box [.v (.int .i64 y), .sl 5], .row true (.trips t7_1s_2)] ?_
              clear hp0
              obtain rfl := Option.some.inj h
              refine LoopQ.next ?_
              exact Red.auto
          · replace h := bite_f h hc43
            refine awp_exit ?_
            (try simp only [Thn, InBlk, ↓reduceIte, Nat.reduceEqDiff])
            obtain rfl := Option.some.inj h
            refine LoopQ.out rfl ?_
            exact Red.selA [0, 3, 4, 5] Red.auto
        · clear hx
          skip
          · try dsimp only [Sum.elim_inl, Sum.elim_inr] at h
            try dsimp only [Sum.elim_inl, Sum.elim_inr]
            (try simp only [Thn, InBlk, ↓reduceIte, Nat.reduceEqDiff])
            (try simp only [Thn, InBlk, ↓reduceIte, Nat.reduceEqDiff])
            (try simp only [Thn, InBlk, ↓reduceIte, Nat.reduceEqDiff])
            refine hK25 _ _ ?_
            clear hK25
            refine awp_reg ftCOk [(6, .pp 1 0)] [.row false (.trips a0_1), .box [.v (.int .i64 y), .sl 3], .box [.v (.int .i64 y), .sl 3], .row true (.trips t7_1s_1)] ?_
            refine awp_ret ?_
            (try simp only [Thn, InBlk, ↓reduceIte, Nat.reduceEqDiff])
            obtain rfl := Option.some.inj h
            refine ⟨by simp, _, [0, 3], (by simp only [go_sem, Nat.reduceBEq, Nat.reduceLT, Nat.reduceAdd, Nat.reduceLeDiff, Nat.reduceSub, Nat.reduceEqDiff, Int.reduceToNat, reduceCtorEq, ↓reduceIte]; exact rfl), ?_, ?_, ?_, ?_⟩
            · first | exact trivial | exact ⟨trivial, trivial⟩ | exact ⟨trivial, trivial, trivial⟩ | exact ⟨trivial, trivial, trivial, trivial⟩ | (simp only [allP, and_true, true_and]; done) | (simp only [allP, and_true, true_and]; omega)
            · simp [selOk, pos]
            · simp
            · first | exact ⟨rfl, rfl⟩ | (simp only [go_sem, Nat.reduceBEq, Nat.reduceLT, Nat.reduceAdd, Nat.reduceLeDiff, Nat.reduceSub, Nat.reduceEqDiff, Int.reduceToNat, reduceCtorEq, ↓reduceIte]; done) | (simp [go_sem, Nat.reduceBEq, Nat.reduceLT, Nat.reduceAdd, Nat.reduceLeDiff, Nat.reduceSub, Nat.reduceEqDiff, Int.reduceToNat, reduceCtorEq, ↓reduceIte]; done) | (simp only [go_sem, Nat.reduceBEq, Nat.reduceLT, Nat.reduceAdd, Nat.reduceLeDiff, Nat.reduceSub, Nat.reduceEqDiff, Int.reduceToNat, reduceCtorEq, ↓reduceIte]; exact ⟨rfl, rfl⟩) | (simp_all [go_sem, Nat.reduceBEq, Nat.reduceLT, Nat.reduceAdd, Nat.reduceLeDiff, Nat.reduceSub, Nat.reduceEqDiff, Int.reduceToNat, reduceCtorEq, ↓reduceIte]; done)
theorem k_spec_l20Open_v1 (a0 : List Int) {r : List Int × Int} (h : spec_l20Open_v1 a0 = some r) :
    FnA Try.prog 16 [.sl 0] [.row false (.ints .u8 a0)] [] (fun x H => x = .pp 1 0 ∧ H = [.row false (.ints .u8 a0), .box [.sl 2, .v (.int .i64 r.2)], .row false (.ints .u8 r.1)]) := by
  unfold spec_l20Open_v1 at h
  refine FnA.of (N := 11) (pin := [0]) (rs := [.tmp 2]) Try.func16 rfl en16 rfl rfl (by simp) (by simp; try omega) ?_
  refine awp_reg ftCOk [(0, .sl 0)] [.row false (.ints .u8 a0)] ?_
  refine awp_join h (fun (t0s : List Int) => [(0, .sl 1)]) (fun (t0s : List Int) => [.row false (.ints .u8 a0), .row false (.ints .u8 t0s)]) ?_ ?_
  · clear h
    intro k h
    try dsimp only at h
    refine awp_reg ftCOk [(0, .sl 0), (5, .v (.bool (decide (2000 < (a0.length : Int)))))] [.row false (.ints .u8 a0)] ?_
    refine awp_cond (t := 5) rfl (fun hc2 => ?_) (fun hc2 => ?_)
    · replace h := bite_t h hc2
      replace h := chk_some h
      obtain ⟨hp0, h⟩ := h
      refine awp_regE ftCOk [(0, .sl 1)] [.row false (.ints .u8 a0), .row false (.ints .u8 ((a0.take 2000).drop 0))] ?_
      clear hp0
      (try simp only [Thn, InBlk, ↓reduceIte, Nat.reduceEqDiff])
      refine ⟨_, h, ?_⟩
      exact Red.auto
    · replace h := bite_f h hc2
      refine awp_skip ?_
      (try simp only [Thn, InBlk, ↓reduceIte, Nat.reduceEqDiff])
      refine ⟨_, h, ?_⟩
      refine Red.trans (Red.dup (t := 0) rfl rfl) ?_
      exact Red.auto
  · clear h
    rintro t0s h
    try dsimp only at h
    try dsimp only
    refine awp_reg ftCOk [(2, .pp 2 0)] [.row false (.ints .u8 a0), .row false (.ints .u8 t0s), .box [.sl 1, .v (.int .i64 0)]] ?_
    refine awp_ret ?_
    (try simp only [Thn, InBlk, ↓reduceIte, Nat.reduceEqDiff])
    obtain rfl := Option.some.inj h
    refine ⟨by simp, _, [0, 2, 1], (by simp only [go_sem, Nat.reduceBEq, Nat.reduceLT, Nat.reduceAdd, Nat.reduceLeDiff, Nat.reduceSub, Nat.reduceEqDiff, Int.reduceToNat, reduceCtorEq, ↓reduceIte]; exact rfl), ?_, ?_, ?_, ?_⟩
    · first | exact trivial | exact ⟨trivial, trivial⟩ | exact ⟨trivial, trivial, trivial⟩ | exact ⟨trivial, trivial, trivial, trivial⟩ | (simp only [allP, and_true, true_and]; done) | (simp only [allP, and_true, true_and]; omega)
    · simp [selOk, pos]
    · simp
    · first | exact ⟨rfl, rfl⟩ | (simp only [go_sem, Nat.reduceBEq, Nat.reduceLT, Nat.reduceAdd, Nat.reduceLeDiff, Nat.reduceSub, Nat.reduceEqDiff, Int.reduceToNat, reduceCtorEq, ↓reduceIte]; done) | (simp [go_sem, Nat.reduceBEq, Nat.reduceLT, Nat.reduceAdd, Nat.reduceLeDiff, Nat.reduceSub, Nat.reduceEqDiff, Int.reduceToNat, reduceCtorEq, ↓reduceIte]; done) | (simp only [go_sem, Nat.reduceBEq, Nat.reduceLT, Nat.reduceAdd, Nat.reduceLeDiff, Nat.reduceSub, Nat.reduceEqDiff, Int.reduceToNat, reduceCtorEq, ↓reduceIte]; exact ⟨rfl, rfl⟩) | (simp_all [go_sem, Nat.reduceBEq, Nat.reduceLT, Nat.reduceAdd, Nat.reduceLeDiff, Nat.reduceSub, Nat.reduceEqDiff, Int.reduceToNat, reduceCtorEq, ↓reduceIte]; done)
theorem k_spec_DrawJoinParts (a0 : List Int) {r : (List (Int × List (Int × Int × Int)))} (h : spec_DrawJoinParts a0 = some r) :
    FnA Try.prog 14 [.sl 0] [.row false (.ints .u8 a0)] [] (fun x H => x = .sl 1 ∧ H = [.row false (.ints .u8 a0), .row true (.graphs r)]) := by
  unfold spec_DrawJoinParts at h
  refine FnA.of (N := 57) (pin := [0]) (rs := [.tmp 2]) Try.func14 rfl en14 rfl rfl (by simp) (by simp; try omega) ?_
  refine awp_reg ftCOk [(0, .sl 0)] [.row false (.ints .u8 a0)] ?_
  replace h := bind_some h
  obtain ⟨⟨y, y_1⟩, hr0, h⟩ := h
  try dsimp only at h
  refine awp_to [(3, .pp 1 0)] [.row false (.ints .u8 a0), .box [.sl 2, .v (.int .i64 y_1)], .row false (.ints .u8 y)] ?_ ?_
  · clear h
    intro K hK
    refine awp_region ftCOk ?_
    simp (maxSteps := 4000000) only [go_sem, Nat.reduceBEq, Nat.reduceLT, Nat.reduceAdd, Nat.reduceLeDiff, Nat.reduceSub, Nat.reduceEqDiff, Int.reduceToNat, reduceCtorEq, ↓reduceIte]
    repeat' (first | refine And.intro ?_ ?_ | intro hg)
    all_goals (try simp (disch := omega) only [wrap_fits])
    all_goals first
      | (refine hK _ _ ?_; exact Red.auto)
      | exact trivial
      | assumption
      | omega
      | exact wrap_fits (by omega) (by omega)
      | (refine wpA_here (k_spec_l20Open_v1 a0 (h := hr0)) ?_
         rintro x Hc' ⟨rfl, rfl⟩ hlen
         refine vcOps_sound ftCOk ?_
         simp (maxSteps := 4000000) only [go_sem, Nat.reduceBEq, Nat.reduceLT, Nat.reduceAdd, Nat.reduceLeDiff, Nat.reduceSub, Nat.reduceEqDiff, Int.reduceToNat, reduceCtorEq, ↓reduceIte]
         repeat' (first | refine And.intro ?_ ?_ | intro hg)
         all_goals (try simp (disch := omega) only [wrap_fits])
         all_goals first
           | (refine hK _ _ ?_; exact Red.auto)
           | exact trivial
           | assumption
           | omega
           | exact wrap_fits (by omega) (by omega)
           | (simp_all; done)
           | (simp_all; omega))
      | (simp_all; done)
      | (simp_all; omega)
  · clear hr0
    replace h := bind_some h
    obtain ⟨⟨y_2, y_3, y_4⟩, hr0, h⟩ := h
    try dsimp only at h
    refine awp_to [(3, .pp 1 0), (4, .pp 4 0)] [.row false (.ints .u8 a0), .box [.sl 2, .v (.int .i64 y_4)], .row false (.ints .u8 y), .row true (.trips y_3), .box [.v (.int .i64 y_2), .sl 3]] ?_ ?_
    · clear h
      intro K hK
      refine awp_region ftCOk ?_
      simp (maxSteps := 4000000) only [go_sem, Nat.reduceBEq, Nat.reduceLT, Nat.reduceAdd, Nat.reduceLeDiff, Nat.reduceSub, Nat.reduceEqDiff, Int.reduceToNat, reduceCtorEq, ↓reduceIte]
      repeat' (first | refine And.intro ?_ ?_ | intro hg)
      all_goals (try simp (disch := omega) only [wrap_fits])
      all_goals first
        | (refine hK _ _ ?_; exact Red.auto)
        | exact trivial
        | assumption
        | omega
        | exact wrap_fits (by omega) (by omega)
        | (refine wpA_callA (k_spec_l20Graph y y_1 0 (h := hr0)) [1, 2] [] ?_
           rintro x Hc' ⟨rfl, rfl⟩ hlen
           refine vcOps_sound ftCOk ?_
           simp (maxSteps := 4000000) only [go_sem, Nat.reduceBEq, Nat.reduceLT, Nat.reduceAdd, Nat.reduceLeDiff, Nat.reduceSub, Nat.reduceEqDiff, Int.reduceToNat, reduceCtorEq, ↓reduceIte]
           repeat' (first | refine And.intro ?_ ?_ | intro hg)
           all_goals (try simp (disch := omega) only [wrap_fits])
           all_goals first
             | (refine hK _ _ ?_; exact Red.auto)
             | exact trivial
             | assumption
             | omega
             | exact wrap_fits (by omega) (by omega)
             | (simp_all; done)
             | (simp_all; omega))
        | (simp_all; done)
        | (simp_all; omega)
    · clear hr0
      replace h := bind_some h
      obtain ⟨⟨y_5, y_6⟩, hr0, h⟩ := h
      try dsimp only at h
      refine awp_to [(3, .pp 1 0), (4, .pp 4 0), (5, .v (.int .i64 y_5))] [.row false (.ints .u8 a0), .box [.sl 2, .v (.int .i64 y_6)], .row false (.ints .u8 y), .row true (.trips y_3), .box [.v (.int .i64 y_2), .sl 3]] ?_ ?_
      · clear h
        intro K hK
        refine awp_region ftCOk ?_
        simp (maxSteps := 4000000) only [go_sem, Nat.reduceBEq, Nat.reduceLT, Nat.reduceAdd, Nat.reduceLeDiff, Nat.reduceSub, Nat.reduceEqDiff, Int.reduceToNat, reduceCtorEq, ↓reduceIte]
        repeat' (first | refine And.intro ?_ ?_ | intro hg)
        all_goals (try simp (disch := omega) only [wrap_fits])
        all_goals first
          | (refine hK _ _ ?_; exact Red.auto)
          | exact trivial
          | assumption
          | omega
          | exact wrap_fits (by omega) (by omega)
          | (refine wpA_callA (k_spec_l20Workers y y_4 0 (h := hr0)) [1, 2] [] ?_
             rintro x Hc' ⟨rfl, rfl⟩ hlen
             refine vcOps_sound ftCOk ?_
             simp (maxSteps := 4000000) only [go_sem, Nat.reduceBEq, Nat.reduceLT, Nat.reduceAdd, Nat.reduceLeDiff, Nat.reduceSub, Nat.reduceEqDiff, Int.reduceToNat, reduceCtorEq, ↓reduceIte]
             repeat' (first | refine And.intro ?_ ?_ | intro hg)
             all_goals (try simp (disch := omega) only [wrap_fits])
             all_goals first
               | (refine hK _ _ ?_; exact Red.auto)
               | exact trivial
               | assumption
               | omega
               | exact wrap_fits (by omega) (by omega)
               | (simp_all; done)
               | (simp_all; omega))
          | (simp_all; done)
          | (simp_all; omega)
      · clear hr0
        refine awp_reg ftCOk [(3, .pp 1 0), (4, .pp 4 0), (5, .v (.int .i64 y_5)), (6, .sl 5)] [.row false (.ints .u8 a0), .box [.sl 2, .v (.int .i64 y_6)], .row false (.ints .u8 y), .row true (.trips y_3), .box [.v (.int .i64 y_2), .sl 3], .row true (.graphs [])] ?_
        refine awp_seq fun K14 hK14 => ?_
        refine awp_reg ftCOk [(3, .pp 1 0), (4, .pp 4 0), (5, .v (.int .i64 y_5)), (6, .sl 5), (7, .v (.int .i64 0))] [.row false (.ints .u8 a0), .box [.sl 2, .v (.int .i64 y_6)], .row false (.ints .u8 y), .row true (.trips y_3), .box [.v (.int .i64 y_2), .sl 3], .row true (.graphs [])] ?_
        refine awp_block ?_
        replace h := bind_some h
        obtain ⟨t6s_1, hx, h⟩ := h
        refine awp_loopL hx (fun ((t7, t6s) : Int × (List (Int × List (Int × Int × Int)))) => [(3, .pp 1 0), (4, .pp 3 0), (5, .v (.int .i64 y_5)), (6, .sl 5), (7, .v (.int .i64 t7))]) (fun ((t7, t6s) : Int × (List (Int × List (Int × Int × Int)))) => [.row false (.ints .u8 a0), .box [.sl 2, .v (.int .i64 y_6)], .row false (.ints .u8 y), .box [.v (.int .i64 y_2), .sl 4], .row true (.trips y_3), .row true (.graphs t6s)]) (fun (t6s_1 : List (Int × List (Int × Int × Int))) => Exit.exit 0) (fun (t6s_1 : List (Int × List (Int × Int × Int))) => [(3, .pp 1 0), (4, .pp 3 0), (6, .sl 5)]) (fun (t6s_1 : List (Int × List (Int × Int × Int))) => [.row false (.ints .u8 a0), .box [.sl 2, .v (.int .i64 y_6)], .row false (.ints .u8 y), .box [.v (.int .i64 y_2), .sl 4], .row true (.trips y_3), .row true (.graphs t6s_1)]) ?_ ?_ ?_ ?_
        · rintro t6s_1 hy <;> cases hy
        · clear h hx
          exact Red.selA [0, 1, 2, 4, 3, 5] Red.auto
        · clear h hx
          rintro ⟨t7, t6s⟩ r h
          unfold spec_DrawJoinParts_b0 at h
          try dsimp only at h
          try dsimp only
          refine awp_seq fun K24 hK24 => ?_
          refine awp_reg ftCOk [(3, .pp 1 0), (4, .pp 3 0), (5, .v (.int .i64 y_5)), (6, .sl 5), (7, .v (.int .i64 t7)), (17, .v (.bool (decide (t7 < y_5))))] [.row false (.ints .u8 a0), .box [.sl 2, .v (.int .i64 y_6)], .row false (.ints .u8 y), .box [.v (.int .i64 y_2), .sl 4], .row true (.trips y_3), .row true (.graphs t6s)] ?_
          refine awp_cond (t := 17) rfl (fun hc25 => ?_) (fun hc25 => ?_)
          · replace h := bite_t h hc25
            refine awp_skip ?_
            (try simp only [Thn, InBlk, ↓reduceIte, Nat.reduceEqDiff])
            refine hK24 _ _ ?_
            clear hK24
            refine awp_seq fun K26 hK26 => ?_
            refine awp_block ?_
            replace h := bind_some h
            obtain ⟨⟨y_7, y_8⟩, hr0, h⟩ := h
            try dsimp only at h
            replace h := chk_some h
            obtain ⟨hp1, h⟩ := h
            refine awp_end [(3, .pp 1 0), (4, .pp 3 0), (5, .v (.int .i64 y_5)), (6, .sl 5), (7, .v (.int .i64 t7))] [.row false (.ints .u8 a0), .box [.sl 2, .v (.int .i64 y_6)], .row false (.ints .u8 y), .box [.v (.int .i64 y_2), .sl 4], .row true (.trips y_3), .tak true (.graphs (t6s ++ [(y_7, [])])) t6s.length 1 (some 6), .row true (.trips y_8), .tak true (.graphs [(y_7, [])]) 0 1 (some 6)] ?_ ?_
            · clear h
              intro K hK
              refine awp_region ftCOk ?_
              simp (maxSteps := 4000000) only [go_sem, Nat.reduceBEq, Nat.reduceLT, Nat.reduceAdd, Nat.reduceLeDiff, Nat.reduceSub, Nat.reduceEqDiff, Int.reduceToNat, reduceCtorEq, ↓reduceIte]
              repeat' (first | refine And.intro ?_ ?_ | intro hg)
              all_goals (try simp (disch := omega) only [wrap_fits])
              all_goals first
                | (refine hK _ _ ?_; exact Red.auto)
                | exact trivial
                | assumption
                | omega
                | exact wrap_fits (by omega) (by omega)
                | (refine wpA_callA (k_spec_PartOf y_2 y_3 y_5 t7 (h := hr0)) [4] [] ?_
                   rintro x Hc' ⟨rfl, rfl⟩ hlen
                   refine vcOps_sound ftCOk ?_
                   simp (maxSteps := 4000000) only [go_sem, Nat.reduceBEq, Nat.reduceLT, Nat.reduceAdd, Nat.reduceLeDiff, Nat.reduceSub, Nat.reduceEqDiff, Int.reduceToNat, reduceCtorEq, ↓reduceIte]
                   repeat' (first | refine And.intro ?_ ?_ | intro hg)
                   all_goals (try simp (disch := omega) only [wrap_fits])
                   all_goals first
                     | (refine hK _ _ ?_; exact Red.auto)
                     | exact trivial
                     | assumption
                     | omega
                     | exact wrap_fits (by omega) (by omega)
                     | (simp_all; done)
                     | (simp_all; omega))
                | (simp_all; done)
                | (simp_all; omega)
            · clear hr0 hp1
              (try simp only [Thn, InBlk, ↓reduceIte, Nat.reduceEqDiff])
              (try simp only [Thn, InBlk, ↓reduceIte, Nat.reduceEqDiff])
              refine hK26 _ _ ?_
              clear hK26
              refine awp_put 5 6 (by rfl) (by rfl) (by rfl) (by exact rfl) ?_
              replace h := chk_some h
              obtain ⟨hp0, h⟩ := h
              refine awp_regE ftCOk [(3, .pp 1 0), (4, .pp 3 0), (5, .v (.int .i64 y_5)), (6, .sl 5), (7, .v (.int .i64 (t7 + 1)))] [.row false (.ints .u8 a0), .box [.sl 2, .v (.int .i64 y_6)], .row false (.ints .u8 y), .box [.v (.int .i64 y_2), .sl 4], .row true (.trips y_3), .row true (.graphs ((t6s ++ [(y_7, [])]).set t6s.length (((t6s ++ [(y_7, [])]).getD t6s.length (0, [])).1, y_8))), .view 5 (.trips y_8), .tak true (.graphs [(y_7, [])]) 0 1 (some 6)] ?_
              clear hp0
              obtain rfl := Option.some.inj h
              refine LoopQ.next ?_
              exact Red.selA [0, 1, 2, 3, 4, 5] Red.auto
          · replace h := bite_f h hc25
            refine awp_exit ?_
            (try simp only [Thn, InBlk, ↓reduceIte, Nat.reduceEqDiff])
            obtain rfl := Option.some.inj h
            refine LoopQ.out rfl ?_
            exact Red.auto
        · clear hx
          skip
          · try dsimp only [Sum.elim_inl, Sum.elim_inr] at h
            try dsimp only [Sum.elim_inl, Sum.elim_inr]
            (try simp only [Thn, InBlk, ↓reduceIte, Nat.reduceEqDiff])
            (try simp only [Thn, InBlk, ↓reduceIte, Nat.reduceEqDiff])
            (try simp only [Thn, InBlk, ↓reduceIte, Nat.reduceEqDiff])
            refine hK14 _ _ ?_
            clear hK14
            refine awp_join h (fun (t6s_2 : List (Int × List (Int × Int × Int))) => [(6, .sl 1)]) (fun (t6s_2 : List (Int × List (Int × Int × Int))) => [.row false (.ints .u8 a0), .row true (.graphs t6s_2)]) ?_ ?_
            · clear h
              intro k h
              try dsimp only at h
              replace h := bind_some h
              obtain ⟨⟨y_9, y_10⟩, hr0, h⟩ := h
              try dsimp only at h
              refine awp_to [(3, .pp 1 0), (4, .pp 3 0), (6, .sl 5), (28, .v (.bool y_9))] [.row false (.ints .u8 a0), .box [.sl 2, .v (.int .i64 y_10)], .row false (.ints .u8 y), .box [.v (.int .i64 y_2), .sl 4], .row true (.trips y_3), .row true (.graphs t6s_1)] ?_ ?_
              · clear h
                intro K hK
                refine awp_region ftCOk ?_
                simp (maxSteps := 4000000) only [go_sem, Nat.reduceBEq, Nat.reduceLT, Nat.reduceAdd, Nat.reduceLeDiff, Nat.reduceSub, Nat.reduceEqDiff, Int.reduceToNat, reduceCtorEq, ↓reduceIte]
                repeat' (first | refine And.intro ?_ ?_ | intro hg)
                all_goals (try simp (disch := omega) only [wrap_fits])
                all_goals first
                  | (refine hK _ _ ?_; exact Red.auto)
                  | exact trivial
                  | assumption
                  | omega
                  | exact wrap_fits (by omega) (by omega)
                  | (refine wpA_callA (k_spec_l20Rd_odd y y_6 3 (h := hr0)) [1, 2] [] ?_
                     rintro x Hc' ⟨rfl, rfl⟩ hlen
                     refine vcOps_sound ftCOk ?_
                     simp (maxSteps := 4000000) only [go_sem, Nat.reduceBEq, Nat.reduceLT, Nat.reduceAdd, Nat.reduceLeDiff, Nat.reduceSub, Nat.reduceEqDiff, Int.reduceToNat, reduceCtorEq, ↓reduceIte]
                     repeat' (first | refine And.intro ?_ ?_ | intro hg)
                     all_goals (try simp (disch := omega) only [wrap_fits])
                     all_goals first
                       | (refine hK _ _ ?_; exact Red.auto)
                       | exact trivial
                       | assumption
                       | omega
                       | exact wrap_fits (by omega) (by omega)
                       | (simp_all; done)
                       | (simp_all; omega))
                  | (simp_all; done)
                  | (simp_all; omega)
              · clear hr0
                refine awp_cond (t := 28) rfl (fun hc33 => ?_) (fun hc33 => ?_)
                · replace h := bite_t h hc33
                  replace h := bind_some h
                  obtain ⟨⟨y_11, y_12⟩, hr0, h⟩ := h
                  try dsimp only at h
                  refine awp_to [(3, .pp 1 0), (4, .pp 3 0), (6, .sl 5), (30, .v (.int .i64 y_11))] [.row false (.ints .u8 a0), .box [.sl 2, .v (.int .i64 y_12)], .row false (.ints .u8 y), .box [.v (.int .i64 y_2), .sl 4], .row true (.trips y_3), .row true (.graphs t6s_1)] ?_ ?_
                  · clear h
                    intro K hK
                    refine awp_region ftCOk ?_
                    simp (maxSteps := 4000000) only [go_sem, Nat.reduceBEq, Nat.reduceLT, Nat.reduceAdd, Nat.reduceLeDiff, Nat.reduceSub, Nat.reduceEqDiff, Int.reduceToNat, reduceCtorEq, ↓reduceIte]
                    repeat' (first | refine And.intro ?_ ?_ | intro hg)
                    all_goals (try simp (disch := omega) only [wrap_fits])
                    all_goals first
                      | (refine hK _ _ ?_; exact Red.auto)
                      | exact trivial
                      | assumption
                      | omega
                      | exact wrap_fits (by omega) (by omega)
                      | (refine wpA_callA (k_spec_l20Rd_pick y y_10 4 (h := hr0)) [1, 2] [] ?_
                         rintro x Hc' ⟨rfl, rfl⟩ hlen
                         refine vcOps_sound ftCOk ?_
                         simp (maxSteps := 4000000) only [go_sem, Nat.reduceBEq, Nat.reduceLT, Nat.reduceAdd, Nat.reduceLeDiff, Nat.reduceSub, Nat.reduceEqDiff, Int.reduceToNat, reduceCtorEq, ↓reduceIte]
                         repeat' (first | refine And.intro ?_ ?_ | intro hg)
                         all_goals (try simp (disch := omega) only [wrap_fits])
                         all_goals first
                           | (refine hK _ _ ?_; exact Red.auto)
                           | exact trivial
                           | assumption
                           | omega
                           | exact wrap_fits (by omega) (by omega)
                           | (simp_all; done)
                           | (simp_all; omega))
                      | (simp_all; done)
                      | (simp_all; omega)
                  · clear hr0
                    refine awp_block ?_
                    refine awp_reg ftCOk [(3, .pp 1 0), (4, .pp 3 0), (6, .sl 5), (30, .v (.int .i64 y_11)), (39, .v (.bool (y_11 == 0)))] [.row false (.ints .u8 a0), .box [.sl 2, .v (.int .i64 y_12)], .row false (.ints .u8 y), .box [.v (.int .i64 y_2), .sl 4], .row true (.trips y_3), .row true (.graphs t6s_1)] ?_
                    refine awp_cond (t := 39) rfl (fun hc34 => ?_) (fun hc34 => ?_)
                    · replace h := bite_t h hc34
                      refine awp_regE ftCOk [(6, .sl 6)] [.row false (.ints .u8 a0), .box [.sl 2, .v (.int .i64 y_12)], .row false (.ints .u8 y), .box [.v (.int .i64 y_2), .sl 4], .row true (.trips y_3), .row true (.graphs t6s_1), .row true (.graphs [])] ?_
                      (try simp only [Thn, InBlk, ↓reduceIte, Nat.reduceEqDiff])
                      (try simp only [Thn, InBlk, ↓reduceIte, Nat.reduceEqDiff])
                      refine ⟨_, h, ?_⟩
                      exact Red.selA [0, 6] Red.auto
                    · replace h := bite_f h hc34
                      refine awp_reg ftCOk [(3, .pp 1 0), (4, .pp 3 0), (6, .sl 5), (30, .v (.int .i64 y_11)), (42, .v (.bool (y_11 == 1)))] [.row false (.ints .u8 a0), .box [.sl 2, .v (.int .i64 y_12)], .row false (.ints .u8 y), .box [.v (.int .i64 y_2), .sl 4], .row true (.trips y_3), .row true (.graphs t6s_1)] ?_
                      refine awp_cond (t := 42) rfl (fun hc35 => ?_) (fun hc35 => ?_)
                      · replace h := bite_t h hc35
                        replace h := chk_some h
                        obtain ⟨hpt36, h⟩ := h
                        refine awp_take 5 0 1 (by rfl) (by exact hpt36) (by rfl) (by exact rfl) ?_
                        clear hpt36
                        replace h := chk_some h
                        obtain ⟨hp0, h⟩ := h
                        refine awp_regE ftCOk [(6, .sl 5)] [.row false (.ints .u8 a0), .box [.sl 2, .v (.int .i64 y_12)], .row false (.ints .u8 y), .box [.v (.int .i64 y_2), .sl 4], .view 5 (.trips y_3), .row true (.graphs (t6s_1.set 0 (y_2, y_3))), .row true (.trips ((t6s_1.getD 0 (0, [])).2))] ?_
                        clear hp0
                        (try simp only [Thn, InBlk, ↓reduceIte, Nat.reduceEqDiff])
                        (try simp only [Thn, InBlk, ↓reduceIte, Nat.reduceEqDiff])
                        refine ⟨_, h, ?_⟩
                        exact Red.selA [0, 5] Red.auto
                      · replace h := bite_f h hc35
                        refine awp_reg ftCOk [(3, .pp 1 0), (4, .pp 3 0), (6, .sl 5), (47, .v (.bool (y_11 == 2)))] [.row false (.ints .u8 a0), .box [.sl 2, .v (.int .i64 y_12)], .row false (.ints .u8 y), .box [.v (.int .i64 y_2), .sl 4], .row true (.trips y_3), .row true (.graphs t6s_1)] ?_
                        refine awp_cond (t := 47) rfl (fun hc37 => ?_) (fun hc37 => ?_)
                        · replace h := bite_t h hc37
                          replace h := chk_some h
                          obtain ⟨hp0, h⟩ := h
                          replace h := chk_some h
                          obtain ⟨hp1, h⟩ := h
                          refine awp_regE ftCOk [(6, .sl 5)] [.row false (.ints .u8 a0), .box [.sl 2, .v (.int .i64 y_12)], .row false (.ints .u8 y), .box [.v (.int .i64 y_2), .sl 4], .row true (.trips y_3), .row true (.graphs (t6s_1 ++ [((y_2 + 1), [])])), .row true (.gen 2 [[.v (.int .i64 (y_2 + 1)), .v (.slice none 0 0)]])] ?_
                          clear hp0 hp1
                          (try simp only [Thn, InBlk, ↓reduceIte, Nat.reduceEqDiff])
                          (try simp only [Thn, InBlk, ↓reduceIte, Nat.reduceEqDiff])
                          refine ⟨_, h, ?_⟩
                          exact Red.selA [0, 5] Red.auto
                        · replace h := bite_f h hc37
                          replace h := bind_some h
                          obtain ⟨⟨y_13, y_14⟩, hr0, h⟩ := h
                          try dsimp only at h
                          replace h := bind_some h
                          obtain ⟨⟨y_15, y_16, y_17⟩, hr1, h⟩ := h
                          try dsimp only at h
                          replace h := chk_some h
                          obtain ⟨hp2, h⟩ := h
                          replace h := chk_some h
                          obtain ⟨hp3, h⟩ := h
                          refine awp_end [(6, .sl 5)] [.row false (.ints .u8 a0), .box [.sl 2, .v (.int .i64 y_17)], .row false (.ints .u8 y), .box [.v (.int .i64 y_2), .sl 4], .row true (.trips y_3), .row true (.graphs (t6s_1.set y_13.toNat (y_15, y_16))), .view 5 (.trips y_16)] ?_ ?_
                          · clear h
                            intro K hK
                            refine awp_region ftCOk ?_
                            simp (maxSteps := 4000000) only [go_sem, Nat.reduceBEq, Nat.reduceLT, Nat.reduceAdd, Nat.reduceLeDiff, Nat.reduceSub, Nat.reduceEqDiff, Int.reduceToNat, reduceCtorEq, ↓reduceIte]
                            repeat' (first | refine And.intro ?_ ?_ | intro hg)
                            all_goals (try simp (disch := omega) only [wrap_fits])
                            all_goals first
                              | (refine hK _ _ ?_; exact Red.auto)
                              | exact trivial
                              | assumption
                              | omega
                              | exact wrap_fits (by omega) (by omega)
                              | (refine wpA_callA (k_spec_l20Rd_pick y y_12 (t6s_1.length : Int) (h := hr0)) [1, 2] [] ?_
                                 rintro x Hc' ⟨rfl, rfl⟩ hlen
                                 refine vcOps_sound ftCOk ?_
                                 simp (maxSteps := 4000000) only [go_sem, Nat.reduceBEq, Nat.reduceLT, Nat.reduceAdd, Nat.reduceLeDiff, Nat.reduceSub, Nat.reduceEqDiff, Int.reduceToNat, reduceCtorEq, ↓reduceIte]
                                 repeat' (first | refine And.intro ?_ ?_ | intro hg)
                                 all_goals (try simp (disch := omega) only [wrap_fits])
                                 all_goals first
                                   | (refine hK _ _ ?_; exact Red.auto)
                                   | exact trivial
                                   | assumption
                                   | omega
                                   | exact wrap_fits (by omega) (by omega)
                                   | (refine wpA_callA (k_spec_l20Graph y y_14 2 (h := hr1)) [1, 2] [] ?_
                                      rintro x Hc' ⟨rfl, rfl⟩ hlen
                                      refine vcOps_sound ftCOk ?_
                                      simp (maxSteps := 4000000) only [go_sem, Nat.reduceBEq, Nat.reduceLT, Nat.reduceAdd, Nat.reduceLeDiff, Nat.reduceSub, Nat.reduceEqDiff, Int.reduceToNat, reduceCtorEq, ↓reduceIte]
                                      repeat' (first | refine And.intro ?_ ?_ | intro hg)
                                      all_goals (try simp (disch := omega) only [wrap_fits])
                                      all_goals first
                                        | (refine hK _ _ ?_; exact Red.auto)
                                        | exact trivial
                                        | assumption
                                        | omega
                                        | exact wrap_fits (by omega) (by omega)
                                        | (simp_all; done)
                                        | (simp_all; omega))
                                   | (simp_all; done)
                                   | (simp_all; omega))
                              | (simp_all; done)
                              | (simp_all; omega)
                          · clear hr0 hr1 hp2 hp3
                            (try simp only [Thn, InBlk, ↓reduceIte, Nat.reduceEqDiff])
                            (try simp only [Thn, InBlk, ↓reduceIte, Nat.reduceEqDiff])
                            refine ⟨_, h, ?_⟩
                            exact Red.selA [0, 5] Red.auto
                · replace h := bite_f h hc33
                  refine awp_skip ?_
                  (try simp only [Thn, InBlk, ↓reduceIte, Nat.reduceEqDiff])
                  refine ⟨_, h, ?_⟩
                  exact Red.selA [0, 5] Red.auto
            · clear h
              rintro t6s_2 h
              try dsimp only at h
              try dsimp only
              refine awp_reg ftCOk [(2, .sl 1)] [.row false (.ints .u8 a0), .row true (.graphs t6s_2)] ?_
              refine awp_ret ?_
              (try simp only [Thn, InBlk, ↓reduceIte, Nat.reduceEqDiff])
              obtain rfl := Option.some.inj h
              refine ⟨by simp, _, [0, 1], (by simp only [go_sem, Nat.reduceBEq, Nat.reduceLT, Nat.reduceAdd, Nat.reduceLeDiff, Nat.reduceSub, Nat.reduceEqDiff, Int.reduceToNat, reduceCtorEq, ↓reduceIte]; exact rfl), ?_, ?_, ?_, ?_⟩
              · first | exact trivial | exact ⟨trivial, trivial⟩ | exact ⟨trivial, trivial, trivial⟩ | exact ⟨trivial, trivial, trivial, trivial⟩ | (simp only [allP, and_true, true_and]; done) | (simp only [allP, and_true, true_and]; omega)
              · simp [selOk, pos]
              · simp
              · first | exact ⟨rfl, rfl⟩ | (simp only [go_sem, Nat.reduceBEq, Nat.reduceLT, Nat.reduceAdd, Nat.reduceLeDiff, Nat.reduceSub, Nat.reduceEqDiff, Int.reduceToNat, reduceCtorEq, ↓reduceIte]; done) | (simp [go_sem, Nat.reduceBEq, Nat.reduceLT, Nat.reduceAdd, Nat.reduceLeDiff, Nat.reduceSub, Nat.reduceEqDiff, Int.reduceToNat, reduceCtorEq, ↓reduceIte]; done) | (simp only [go_sem, Nat.reduceBEq, Nat.reduceLT, Nat.reduceAdd, Nat.reduceLeDiff, Nat.reduceSub, Nat.reduceEqDiff, Int.reduceToNat, reduceCtorEq, ↓reduceIte]; exact ⟨rfl, rfl⟩) | (simp_all [go_sem, Nat.reduceBEq, Nat.reduceLT, Nat.reduceAdd, Nat.reduceLeDiff, Nat.reduceSub, Nat.reduceEqDiff, Int.reduceToNat, reduceCtorEq, ↓reduceIte]; done)
theorem k_impl_workersFit (a0 : Int) {r : Bool} (h : impl_workersFit a0 = some r) :
    FnA Try.prog 20 [.v (.int .i64 a0)] [] [] (fun x H => x = .v (.bool r) ∧ H = []) := by
  unfold impl_workersFit at h
  refine FnA.of (N := 9) (pin := []) (rs := [.tmp 2]) Try.func20 rfl en20 rfl rfl (by simp) (by simp; try omega) ?_
  refine awp_reg ftCOk [(0, .v (.int .i64 a0))] [] ?_
  refine awp_reg ftCOk [(2, .v (.bool ((decide (1 ≤ a0)) && (decide (a0 ≤ 6)))))] [] ?_
  refine awp_ret ?_
  (try simp only [Thn, InBlk, ↓reduceIte, Nat.reduceEqDiff])
  obtain rfl := Option.some.inj h
  refine ⟨by simp, _, [], (by simp only [go_sem, Nat.reduceBEq, Nat.reduceLT, Nat.reduceAdd, Nat.reduceLeDiff, Nat.reduceSub, Nat.reduceEqDiff, Int.reduceToNat, reduceCtorEq, ↓reduceIte]; exact rfl), ?_, ?_, ?_, ?_⟩
  · first | exact trivial | exact ⟨trivial, trivial⟩ | exact ⟨trivial, trivial, trivial⟩ | exact ⟨trivial, trivial, trivial, trivial⟩ | (simp only [allP, and_true, true_and]; done) | (simp only [allP, and_true, true_and]; omega)
  · simp [selOk, pos]
  · simp
  · first | exact ⟨rfl, rfl⟩ | (simp only [go_sem, Nat.reduceBEq, Nat.reduceLT, Nat.reduceAdd, Nat.reduceLeDiff, Nat.reduceSub, Nat.reduceEqDiff, Int.reduceToNat, reduceCtorEq, ↓reduceIte]; done) | (simp [go_sem, Nat.reduceBEq, Nat.reduceLT, Nat.reduceAdd, Nat.reduceLeDiff, Nat.reduceSub, Nat.reduceEqDiff, Int.reduceToNat, reduceCtorEq, ↓reduceIte]; done) | (simp only [go_sem, Nat.reduceBEq, Nat.reduceLT, Nat.reduceAdd, Nat.reduceLeDiff, Nat.reduceSub, Nat.reduceEqDiff, Int.reduceToNat, reduceCtorEq, ↓reduceIte]; exact ⟨rfl, rfl⟩) | (simp_all [go_sem, Nat.reduceBEq, Nat.reduceLT, Nat.reduceAdd, Nat.reduceLeDiff, Nat.reduceSub, Nat.reduceEqDiff, Int.reduceToNat, reduceCtorEq, ↓reduceIte]; done)
theorem k_impl_Graph_has (a0_0 : Int) (a0_1 : List (Int × Int × Int)) (a1 : Int) {r : Bool} (h : impl_Graph_has a0_0 a0_1 a1 = some r) :
    FnA Try.prog 28 [.agg [.v (.int .i64 a0_0), .sl 0], .v (.int .i64 a1)] [.row false (.trips a0_1)] [] (fun x H => x = .v (.bool r) ∧ H = [.row false (.trips a0_1)]) := by
  unfold impl_Graph_has at h
  refine FnA.of (N := 13) (pin := [0]) (rs := [.tmp 4]) Try.func28 rfl en28 rfl rfl (by simp) (by simp; try omega) ?_
  refine awp_reg ftCOk [(1, .v (.int .i64 a1)), (2, .pp 1 0)] [.row false (.trips a0_1), .box [.v (.int .i64 a0_0), .sl 0]] ?_
  refine awp_freeze 2 (by rfl) (by rfl) (by exact rfl) ?_
  refine awp_reg ftCOk [(4, .v (.bool ((decide (0 ≤ a1)) && (decide (a1 < a0_0)))))] [.row false (.trips a0_1), .rbox [.v (.int .i64 a0_0), .sl 0]] ?_
  refine awp_ret ?_
  (try simp only [Thn, InBlk, ↓reduceIte, Nat.reduceEqDiff])
  obtain rfl := Option.some.inj h
  refine ⟨by simp, _, [0], (by simp only [go_sem, Nat.reduceBEq, Nat.reduceLT, Nat.reduceAdd, Nat.reduceLeDiff, Nat.reduceSub, Nat.reduceEqDiff, Int.reduceToNat, reduceCtorEq, ↓reduceIte]; exact rfl), ?_, ?_, ?_, ?_⟩
  · first | exact trivial | exact ⟨trivial, trivial⟩ | exact ⟨trivial, trivial, trivial⟩ | exact ⟨trivial, trivial, trivial, trivial⟩ | (simp only [allP, and_true, true_and]; done) | (simp only [allP, and_true, true_and]; omega)
  · simp [selOk, pos]
  · simp
  · first | exact ⟨rfl, rfl⟩ | (simp only [go_sem, Nat.reduceBEq, Nat.reduceLT, Nat.reduceAdd, Nat.reduceLeDiff, Nat.reduceSub, Nat.reduceEqDiff, Int.reduceToNat, reduceCtorEq, ↓reduceIte]; done) | (simp [go_sem, Nat.reduceBEq, Nat.reduceLT, Nat.reduceAdd, Nat.reduceLeDiff, Nat.reduceSub, Nat.reduceEqDiff, Int.reduceToNat, reduceCtorEq, ↓reduceIte]; done) | (simp only [go_sem, Nat.reduceBEq, Nat.reduceLT, Nat.reduceAdd, Nat.reduceLeDiff, Nat.reduceSub, Nat.reduceEqDiff, Int.reduceToNat, reduceCtorEq, ↓reduceIte]; exact ⟨rfl, rfl⟩) | (simp_all [go_sem, Nat.reduceBEq, Nat.reduceLT, Nat.reduceAdd, Nat.reduceLeDiff, Nat.reduceSub, Nat.reduceEqDiff, Int.reduceToNat, reduceCtorEq, ↓reduceIte]; done)
theorem k_impl_GraphValid (a0_0 : Int) (a0_1 : List (Int × Int × Int)) {r : Bool} (h : impl_GraphValid a0_0 a0_1 = some r) :
    FnA Try.prog 13 [.agg [.v (.int .i64 a0_0), .sl 0]] [.row false (.trips a0_1)] [] (fun x H => x = .v (.bool r) ∧ H = [.row false (.trips a0_1)]) := by
  unfold impl_GraphValid at h
  refine FnA.of (N := 68) (pin := [0]) (rs := [.tmp 2]) Try.func13 rfl en13 rfl rfl (by simp) (by simp; try omega) ?_
  refine awp_reg ftCOk [(1, .pp 1 0)] [.row false (.trips a0_1), .box [.v (.int .i64 a0_0), .sl 0]] ?_
  refine awp_freeze 1 (by rfl) (by rfl) (by exact rfl) ?_
  refine awp_seq fun K2 hK2 => ?_
  refine awp_reg ftCOk [(1, .pp 1 0), (18, .v (.bool (((decide (a0_0 < 0)) || (decide (16 < a0_0))) || (decide (40 < (a0_1.length : Int))))))] [.row false (.trips a0_1), .rbox [.v (.int .i64 a0_0), .sl 0]] ?_
  refine awp_cond (t := 18) rfl (fun hc3 => ?_) (fun hc3 => ?_)
  · replace h := bite_t h hc3
    refine awp_reg ftCOk [(2, .v (.bool false))] [.row false (.trips a0_1), .rbox [.v (.int .i64 a0_0), .sl 0]] ?_
    refine awp_ret ?_
    (try simp only [Thn, InBlk, ↓reduceIte, Nat.reduceEqDiff])
    obtain rfl := Option.some.inj h
    refine ⟨by simp, _, [0], (by simp only [go_sem, Nat.reduceBEq, Nat.reduceLT, Nat.reduceAdd, Nat.reduceLeDiff, Nat.reduceSub, Nat.reduceEqDiff, Int.reduceToNat, reduceCtorEq, ↓reduceIte]; exact rfl), ?_, ?_, ?_, ?_⟩
    · first | exact trivial | exact ⟨trivial, trivial⟩ | exact ⟨trivial, trivial, trivial⟩ | exact ⟨trivial, trivial, trivial, trivial⟩ | (simp only [allP, and_true, true_and]; done) | (simp only [allP, and_true, true_and]; omega)
    · simp [selOk, pos]
    · simp
    · first | exact ⟨rfl, rfl⟩ | (simp only [go_sem, Nat.reduceBEq, Nat.reduceLT, Nat.reduceAdd, Nat.reduceLeDiff, Nat.reduceSub, Nat.reduceEqDiff, Int.reduceToNat, reduceCtorEq, ↓reduceIte]; done) | (simp [go_sem, Nat.reduceBEq, Nat.reduceLT, Nat.reduceAdd, Nat.reduceLeDiff, Nat.reduceSub, Nat.reduceEqDiff, Int.reduceToNat, reduceCtorEq, ↓reduceIte]; done) | (simp only [go_sem, Nat.reduceBEq, Nat.reduceLT, Nat.reduceAdd, Nat.reduceLeDiff, Nat.reduceSub, Nat.reduceEqDiff, Int.reduceToNat, reduceCtorEq, ↓reduceIte]; exact ⟨rfl, rfl⟩) | (simp_all [go_sem, Nat.reduceBEq, Nat.reduceLT, Nat.reduceAdd, Nat.reduceLeDiff, Nat.reduceSub, Nat.reduceEqDiff, Int.reduceToNat, reduceCtorEq, ↓reduceIte]; done)
  · replace h := bite_f h hc3
    refine awp_skip ?_
    (try simp only [Thn, InBlk, ↓reduceIte, Nat.reduceEqDiff])
    refine hK2 _ _ ?_
    clear hK2
    refine awp_seq fun K59 hK59 => ?_
    refine awp_reg ftCOk [(1, .pp 1 0), (20, .sl 0), (21, .v (.int .i64 (a0_1.length : Int))), (22, .v (.int .i64 0))] [.row false (.trips a0_1), .rbox [.v (.int .i64 a0_0), .sl 0]] ?_
    refine awp_block ?_
    replace h := bind_some h
    obtain ⟨x114, hx, h⟩ := h
    refine awp_loopL hx (fun (t22 : Int) => [(1, .pp 1 0), (20, .sl 0), (21, .v (.int .i64 (a0_1.length : Int))), (22, .v (.int .i64 t22))]) (fun (t22 : Int) => [.row false (.trips a0_1), .rbox [.v (.int .i64 a0_0), .sl 0]]) (Sum.elim (fun (_ : Unit) => Exit.exit 0) (fun (_ : Unit) => Exit.ret)) (Sum.elim (fun (_ : Unit) => []) (fun (_ : Unit) => [(2, .v (.bool false))])) (Sum.elim (fun (_ : Unit) => [.row false (.trips a0_1)]) (fun (_ : Unit) => [.row false (.trips a0_1)])) ?_ ?_ ?_ ?_
    · rintro (⟨⟩ | ⟨⟩) hy <;> cases hy
    · clear h hx
      exact Red.auto
    · clear h hx
      rintro t22 r h
      unfold impl_GraphValid_b0 at h
      try dsimp only at h
      try dsimp only
      refine awp_reg ftCOk [(1, .pp 1 0), (20, .sl 0), (21, .v (.int .i64 (a0_1.length : Int))), (22, .v (.int .i64 t22)), (23, .v (.bool (decide (t22 < (a0_1.length : Int)))))] [.row false (.trips a0_1), .rbox [.v (.int .i64 a0_0), .sl 0]] ?_
      refine awp_seq fun K97 hK97 => ?_
      refine awp_cond (t := 23) rfl (fun hc98 => ?_) (fun hc98 => ?_)
      · replace h := bite_t h hc98
        refine awp_skip ?_
        (try simp only [Thn, InBlk, ↓reduceIte, Nat.reduceEqDiff])
        refine hK97 _ _ ?_
        clear hK97
        refine awp_seq fun K106 hK106 => ?_
        refine awp_block ?_
        replace h := chk_some h
        obtain ⟨hp0, h⟩ := h
        refine awp_reg ftCOk [(1, .pp 1 0), (3, .v (.int .i64 t22)), (4, .pp 2 0), (20, .sl 0), (21, .v (.int .i64 (a0_1.length : Int))), (22, .v (.int .i64 t22))] [.row false (.trips a0_1), .rbox [.v (.int .i64 a0_0), .sl 0], .box [.v (.int .i64 ((a0_1.getD t22.toNat (0, 0, 0)).1)), .v (.int .i64 ((a0_1.getD t22.toNat (0, 0, 0)).2.1)), .v (.int .i64 ((a0_1.getD t22.toNat (0, 0, 0)).2.2))]] ?_
        clear hp0
        refine awp_seq fun K108 hK108 => ?_
        replace h := bind_some h
        obtain ⟨y, hr0, h⟩ := h
        try dsimp only at h
        replace h := bind_some h
        obtain ⟨y_1, hr1, h⟩ := h
        try dsimp only at h
        refine awp_to [(1, .pp 1 0), (3, .v (.int .i64 t22)), (4, .pp 2 0), (20, .sl 0), (21, .v (.int .i64 (a0_1.length : Int))), (22, .v (.int .i64 t22)), (45, .v (.bool (((!y) || (!y_1)) || ((a0_1.getD t22.toNat (0, 0, 0)).1 == (a0_1.getD t22.toNat (0, 0, 0)).2.1))))] [.row false (.trips a0_1), .rbox [.v (.int .i64 a0_0), .sl 0], .box [.v (.int .i64 ((a0_1.getD t22.toNat (0, 0, 0)).1)), .v (.int .i64 ((a0_1.getD t22.toNat (0, 0, 0)).2.1)), .v (.int .i64 ((a0_1.getD t22.toNat (0, 0, 0)).2.2))]] ?_ ?_
        · clear h
          intro K hK
          refine awp_regionA ?_
          refine wpA_cutAt 12 [(1, .pp 1 0), (3, .v (.int .i64 t22)), (4, .pp 2 0), (20, .sl 0), (21, .v (.int .i64 (a0_1.length : Int))), (22, .v (.int .i64 t22)), (38, .v (.bool ((!y) || (!y_1))))] [.row false (.trips a0_1), .rbox [.v (.int .i64 a0_0), .sl 0], .box [.v (.int .i64 ((a0_1.getD t22.toNat (0, 0, 0)).1)), .v (.int .i64 ((a0_1.getD t22.toNat (0, 0, 0)).2.1)), .v (.int .i64 ((a0_1.getD t22.toNat (0, 0, 0)).2.2))]] ?_ ?_
          · clear hK K
            intro K hK
            refine vcOps_sound ftCOk ?_
            simp (maxSteps := 4000000) only [go_sem, Nat.reduceBEq, Nat.reduceLT, Nat.reduceAdd, Nat.reduceLeDiff, Nat.reduceSub, Nat.reduceEqDiff, Int.reduceToNat, reduceCtorEq, ↓reduceIte]
            repeat' (first | refine And.intro ?_ ?_ | intro hg)
            all_goals (try simp (disch := omega) only [wrap_fits])
            all_goals first
              | (refine hK _ _ ?_; exact Red.auto)
              | exact trivial
              | assumption
              | omega
              | exact wrap_fits (by omega) (by omega)
              | (refine wpA_callA (k_impl_Graph_has a0_0 a0_1 ((a0_1.getD t22.toNat (0, 0, 0)).1) (h := hr0)) [0] [] ?_
                 rintro x Hc' ⟨rfl, rfl⟩ hlen
                 refine vcOps_sound ftCOk ?_
                 simp (maxSteps := 4000000) only [go_sem, Nat.reduceBEq, Nat.reduceLT, Nat.reduceAdd, Nat.reduceLeDiff, Nat.reduceSub, Nat.reduceEqDiff, Int.reduceToNat, reduceCtorEq, ↓reduceIte]
                 repeat' (first | refine And.intro ?_ ?_ | intro hg)
                 all_goals (try simp (disch := omega) only [wrap_fits])
                 all_goals first
                   | (refine hK _ _ ?_; exact Red.auto)
                   | exact trivial
                   | assumption
                   | omega
                   | exact wrap_fits (by omega) (by omega)
                   | (refine wpA_guard rfl rfl ?_
                      refine wpA_callA (k_impl_Graph_has a0_0 a0_1 ((a0_1.getD t22.toNat (0, 0, 0)).2.1) (h := (bite_t hr1 (by rw [Bool.not_eq_true']; exact (by first | assumption | (simp only [*, Bool.false_or, Bool.true_or, Bool.or_false, Bool.or_true, Bool.false_and, Bool.true_and, Bool.and_false, Bool.and_true, Bool.not_true, Bool.not_false, beq_self_eq_true]; done) | (simp_all; done)))))) [0] [] ?_
                      rintro x Hc' ⟨rfl, rfl⟩ hlen
                      refine vcOps_sound ftCOk ?_
                      simp (maxSteps := 4000000) only [go_sem, Nat.reduceBEq, Nat.reduceLT, Nat.reduceAdd, Nat.reduceLeDiff, Nat.reduceSub, Nat.reduceEqDiff, Int.reduceToNat, reduceCtorEq, ↓reduceIte]
                      repeat' (first | refine And.intro ?_ ?_ | intro hg)
                      all_goals (try simp (disch := omega) only [wrap_fits])
                      all_goals first
                        | (refine hK _ _ ?_; exact Red.auto)
                        | exact trivial
                        | assumption
                        | omega
                        | exact wrap_fits (by omega) (by omega)
                        | (simp_all; done)
                        | (simp_all; omega))
                   | (simp_all; done)
                   | (simp_all; omega))
              | (simp_all; done)
              | (simp_all; omega)
          refine vcOps_sound ftCOk ?_
          simp (maxSteps := 4000000) only [go_sem, Nat.reduceBEq, Nat.reduceLT, Nat.reduceAdd, Nat.reduceLeDiff, Nat.reduceSub, Nat.reduceEqDiff, Int.reduceToNat, reduceCtorEq, ↓reduceIte]
          repeat' (first | refine And.intro ?_ ?_ | intro hg)
          all_goals (try simp (disch := omega) only [wrap_fits])
          all_goals first
            | (refine hK _ _ ?_; exact Red.auto)
            | exact trivial
            | assumption
            | omega
            | exact wrap_fits (by omega) (by omega)
            | (simp_all; done)
            | (simp_all; omega)
        · clear hr0 hr1
          refine awp_cond (t := 45) rfl (fun hc109 => ?_) (fun hc109 => ?_)
          · replace h := bite_t h hc109
            refine awp_reg ftCOk [(2, .v (.bool false))] [.row false (.trips a0_1), .rbox [.v (.int .i64 a0_0), .sl 0], .box [.v (.int .i64 ((a0_1.getD t22.toNat (0, 0, 0)).1)), .v (.int .i64 ((a0_1.getD t22.toNat (0, 0, 0)).2.1)), .v (.int .i64 ((a0_1.getD t22.toNat (0, 0, 0)).2.2))]] ?_
            refine awp_ret ?_
            (try simp only [Thn, InBlk, ↓reduceIte, Nat.reduceEqDiff])
            obtain rfl := Option.some.inj h
            refine LoopQ.out rfl ?_
            exact Red.selA [0] Red.auto
          · replace h := bite_f h hc109
            refine awp_skip ?_
            (try simp only [Thn, InBlk, ↓reduceIte, Nat.reduceEqDiff])
            refine hK108 _ _ ?_
            clear hK108
            refine awp_seq fun K111 hK111 => ?_
            refine awp_reg ftCOk [(1, .pp 1 0), (3, .v (.int .i64 t22)), (4, .pp 2 0), (20, .sl 0), (21, .v (.int .i64 (a0_1.length : Int))), (22, .v (.int .i64 t22)), (53, .v (.bool ((decide ((a0_1.getD t22.toNat (0, 0, 0)).2.2 < 0)) || (decide (20 < (a0_1.getD t22.toNat (0, 0, 0)).2.2)))))] [.row false (.trips a0_1), .rbox [.v (.int .i64 a0_0), .sl 0], .box [.v (.int .i64 ((a0_1.getD t22.toNat (0, 0, 0)).1)), .v (.int .i64 ((a0_1.getD t22.toNat (0, 0, 0)).2.1)), .v (.int .i64 ((a0_1.getD t22.toNat (0, 0, 0)).2.2))]] ?_
            refine awp_cond (t := 53) rfl (fun hc112 => ?_) (fun hc112 => ?_)
            · replace h := bite_t h hc112
              refine awp_reg ftCOk [(2, .v (.bool false))] [.row false (.trips a0_1), .rbox [.v (.int .i64 a0_0), .sl 0], .box [.v (.int .i64 ((a0_1.getD t22.toNat (0, 0, 0)).1)), .v (.int .i64 ((a0_1.getD t22.toNat (0, 0, 0)).2.1)), .v (.int .i64 ((a0_1.getD t22.toNat (0, 0, 0)).2.2))]] ?_
              refine awp_ret ?_
              (try simp only [Thn, InBlk, ↓reduceIte, Nat.reduceEqDiff])
              obtain rfl := Option.some.inj h
              refine LoopQ.out rfl ?_
              exact Red.selA [0] Red.auto
            · replace h := bite_f h hc112
              refine awp_skip ?_
              (try simp only [Thn, InBlk, ↓reduceIte, Nat.reduceEqDiff])
              refine hK111 _ _ ?_
              clear hK111
              replace h := chk_some h
              obtain ⟨hp0, h⟩ := h
              have hwhp0 := wrap_fits hp0.1 hp0.2
              replace h := chk_some h
              obtain ⟨hp1, h⟩ := h
              refine awp_to [(1, .pp 1 0), (20, .sl 0), (21, .v (.int .i64 (a0_1.length : Int))), (22, .v (.int .i64 t22)), (66, .v (.bool ((decide (0 < t22)) && (decide (0 ≤ (orF [cmpI (a0_1.getD ((t22 - 1).toNat) (0, 0, 0)).1 (a0_1.getD t22.toNat (0, 0, 0)).1, cmpI (a0_1.getD ((t22 - 1).toNat) (0, 0, 0)).2.1 (a0_1.getD t22.toNat (0, 0, 0)).2.1]))))))] [.row false (.trips a0_1), .rbox [.v (.int .i64 a0_0), .sl 0], .box [.v (.int .i64 ((a0_1.getD t22.toNat (0, 0, 0)).1)), .v (.int .i64 ((a0_1.getD t22.toNat (0, 0, 0)).2.1)), .v (.int .i64 ((a0_1.getD t22.toNat (0, 0, 0)).2.2))]] ?_ ?_
              · clear h
                intro K hK
                refine awp_quietg mixed ftCOk (by kernel_rfl) ?_
                simp (maxSteps := 4000000) only [go_sem, Nat.reduceBEq, Nat.reduceLT, Nat.reduceAdd, Nat.reduceLeDiff, Nat.reduceSub, Nat.reduceEqDiff, Int.reduceToNat, reduceCtorEq, ↓reduceIte]
                repeat' (first | refine And.intro ?_ ?_ | intro hg)
                all_goals (try simp (disch := omega) only [wrap_fits])
                all_goals first
                  | (refine hK _ _ ?_; exact Red.auto)
                  | exact trivial
                  | assumption
                  | omega
                  | exact wrap_fits (by omega) (by omega)
                  | (have hq := hp1 (by first | assumption | (simp only [*, Bool.false_or, Bool.true_or, Bool.or_false, Bool.or_true, Bool.false_and, Bool.true_and, Bool.and_false, Bool.and_true, Bool.not_true, Bool.not_false, beq_self_eq_true]; done) | (simp_all; done)); omega)
                  | (simp_all; done)
                  | (simp_all; omega)
              · clear hp0 hp1
                refine awp_cond (t := 66) rfl (fun hc113 => ?_) (fun hc113 => ?_)
                · replace h := bite_t h hc113
                  refine awp_reg ftCOk [(2, .v (.bool false))] [.row false (.trips a0_1), .rbox [.v (.int .i64 a0_0), .sl 0], .box [.v (.int .i64 ((a0_1.getD t22.toNat (0, 0, 0)).1)), .v (.int .i64 ((a0_1.getD t22.toNat (0, 0, 0)).2.1)), .v (.int .i64 ((a0_1.getD t22.toNat (0, 0, 0)).2.2))]] ?_
                  refine awp_ret ?_
                  (try simp only [Thn, InBlk, ↓reduceIte, Nat.reduceEqDiff])
                  obtain rfl := Option.some.inj h
                  refine LoopQ.out rfl ?_
                  exact Red.selA [0] Red.auto
                · replace h := bite_f h hc113
                  refine awp_skip ?_
                  (try simp only [Thn, InBlk, ↓reduceIte, Nat.reduceEqDiff])
                  (try simp only [Thn, InBlk, ↓reduceIte, Nat.reduceEqDiff])
                  refine hK106 _ _ ?_
                  clear hK106
                  replace h := chk_some h
                  obtain ⟨hp0, h⟩ := h
                  refine awp_regE ftCOk [(1, .pp 1 0), (20, .sl 0), (21, .v (.int .i64 (a0_1.length : Int))), (22, .v (.int .i64 (t22 + 1)))] [.row false (.trips a0_1), .rbox [.v (.int .i64 a0_0), .sl 0], .box [.v (.int .i64 ((a0_1.getD t22.toNat (0, 0, 0)).1)), .v (.int .i64 ((a0_1.getD t22.toNat (0, 0, 0)).2.1)), .v (.int .i64 ((a0_1.getD t22.toNat (0, 0, 0)).2.2))]] ?_
                  clear hp0
                  obtain rfl := Option.some.inj h
                  refine LoopQ.next ?_
                  exact Red.selA [0, 1] Red.auto
      · replace h := bite_f h hc98
        refine awp_exit ?_
        (try simp only [Thn, InBlk, ↓reduceIte, Nat.reduceEqDiff])
        obtain rfl := Option.some.inj h
        refine LoopQ.out rfl ?_
        exact Red.selA [0] Red.auto
    · clear hx
      rcases x114 with (⟨⟩ | ⟨⟩)
      · try dsimp only [Sum.elim_inl, Sum.elim_inr] at h
        try dsimp only [Sum.elim_inl, Sum.elim_inr]
        (try simp only [Thn, InBlk, ↓reduceIte, Nat.reduceEqDiff])
        (try simp only [Thn, InBlk, ↓reduceIte, Nat.reduceEqDiff])
        (try simp only [Thn, InBlk, ↓reduceIte, Nat.reduceEqDiff])
        refine hK59 _ _ ?_
        clear hK59
        refine awp_reg ftCOk [(2, .v (.bool true))] [.row false (.trips a0_1)] ?_
        refine awp_ret ?_
        (try simp only [Thn, InBlk, ↓reduceIte, Nat.reduceEqDiff])
        obtain rfl := Option.some.inj h
        refine ⟨by simp, _, [0], (by simp only [go_sem, Nat.reduceBEq, Nat.reduceLT, Nat.reduceAdd, Nat.reduceLeDiff, Nat.reduceSub, Nat.reduceEqDiff, Int.reduceToNat, reduceCtorEq, ↓reduceIte]; exact rfl), ?_, ?_, ?_, ?_⟩
        · first | exact trivial | exact ⟨trivial, trivial⟩ | exact ⟨trivial, trivial, trivial⟩ | exact ⟨trivial, trivial, trivial, trivial⟩ | (simp only [allP, and_true, true_and]; done) | (simp only [allP, and_true, true_and]; omega)
        · simp [selOk, pos]
        · simp
        · first | exact ⟨rfl, rfl⟩ | (simp only [go_sem, Nat.reduceBEq, Nat.reduceLT, Nat.reduceAdd, Nat.reduceLeDiff, Nat.reduceSub, Nat.reduceEqDiff, Int.reduceToNat, reduceCtorEq, ↓reduceIte]; done) | (simp [go_sem, Nat.reduceBEq, Nat.reduceLT, Nat.reduceAdd, Nat.reduceLeDiff, Nat.reduceSub, Nat.reduceEqDiff, Int.reduceToNat, reduceCtorEq, ↓reduceIte]; done) | (simp only [go_sem, Nat.reduceBEq, Nat.reduceLT, Nat.reduceAdd, Nat.reduceLeDiff, Nat.reduceSub, Nat.reduceEqDiff, Int.reduceToNat, reduceCtorEq, ↓reduceIte]; exact ⟨rfl, rfl⟩) | (simp_all [go_sem, Nat.reduceBEq, Nat.reduceLT, Nat.reduceAdd, Nat.reduceLeDiff, Nat.reduceSub, Nat.reduceEqDiff, Int.reduceToNat, reduceCtorEq, ↓reduceIte]; done)
      · try dsimp only [Sum.elim_inl, Sum.elim_inr] at h
        try dsimp only [Sum.elim_inl, Sum.elim_inr]
        (try simp only [Thn, InBlk, ↓reduceIte, Nat.reduceEqDiff])
        obtain rfl := Option.some.inj h
        refine ⟨by simp, _, [0], (by simp only [go_sem, Nat.reduceBEq, Nat.reduceLT, Nat.reduceAdd, Nat.reduceLeDiff, Nat.reduceSub, Nat.reduceEqDiff, Int.reduceToNat, reduceCtorEq, ↓reduceIte]; exact rfl), ?_, ?_, ?_, ?_⟩
        · first | exact trivial | exact ⟨trivial, trivial⟩ | exact ⟨trivial, trivial, trivial⟩ | exact ⟨trivial, trivial, trivial, trivial⟩ | (simp only [allP, and_true, true_and]; done) | (simp only [allP, and_true, true_and]; omega)
        · simp [selOk, pos]
        · simp
        · first | exact ⟨rfl, rfl⟩ | (simp only [go_sem, Nat.reduceBEq, Nat.reduceLT, Nat.reduceAdd, Nat.reduceLeDiff, Nat.reduceSub, Nat.reduceEqDiff, Int.reduceToNat, reduceCtorEq, ↓reduceIte]; done) | (simp [go_sem, Nat.reduceBEq, Nat.reduceLT, Nat.reduceAdd, Nat.reduceLeDiff, Nat.reduceSub, Nat.reduceEqDiff, Int.reduceToNat, reduceCtorEq, ↓reduceIte]; done) | (simp only [go_sem, Nat.reduceBEq, Nat.reduceLT, Nat.reduceAdd, Nat.reduceLeDiff, Nat.reduceSub, Nat.reduceEqDiff, Int.reduceToNat, reduceCtorEq, ↓reduceIte]; exact ⟨rfl, rfl⟩) | (simp_all [go_sem, Nat.reduceBEq, Nat.reduceLT, Nat.reduceAdd, Nat.reduceLeDiff, Nat.reduceSub, Nat.reduceEqDiff, Int.reduceToNat, reduceCtorEq, ↓reduceIte]; done)
theorem k_slices_Clone_impl_Edge_impl_Edge (a0 : List (Int × Int × Int)) {r : (List (Int × Int × Int))} (h : slices_Clone_impl_Edge_impl_Edge a0 = some r) :
    FnA Try.prog 40 [.sl 0] [.row false (.trips a0)] [] (fun x H => x = .sl 1 ∧ H = [.row false (.trips a0), .row true (.trips r)]) := by
  unfold slices_Clone_impl_Edge_impl_Edge at h
  refine FnA.of (N := 8) (pin := [0]) (rs := [.tmp 2]) Try.func40 rfl en40 rfl rfl (by simp) (by simp; try omega) ?_
  refine awp_reg ftCOk [(0, .sl 0)] [.row false (.trips a0)] ?_
  refine awp_seq fun K2 hK2 => ?_
  have hboth := both_some h
  refine awp_isnil (by rfl) (by rfl) Try.underlying23 rfl rfl fun b hb => ?_
  replace h := hboth b hb
  clear hboth
  refine awp_cond (t := 4) rfl (fun hc3 => ?_) (fun hc3 => ?_)
  · replace h := bite_t h hc3
    refine awp_reg ftCOk [(2, .v (.slice none 0 0))] [.row false (.trips a0)] ?_
    refine awp_red (Red.nil (t := 2) (.trips []) rfl rfl) ?_
    refine awp_ret ?_
    (try simp only [Thn, InBlk, ↓reduceIte, Nat.reduceEqDiff])
    obtain rfl := Option.some.inj h
    refine ⟨by simp, _, [0, 1], (by simp only [go_sem, Nat.reduceBEq, Nat.reduceLT, Nat.reduceAdd, Nat.reduceLeDiff, Nat.reduceSub, Nat.reduceEqDiff, Int.reduceToNat, reduceCtorEq, ↓reduceIte]; exact rfl), ?_, ?_, ?_, ?_⟩
    · first | exact trivial | exact ⟨trivial, trivial⟩ | exact ⟨trivial, trivial, trivial⟩ | exact ⟨trivial, trivial, trivial, trivial⟩ | (simp only [allP, and_true, true_and]; done) | (simp only [allP, and_true, true_and]; omega)
    · simp [selOk, pos]
    · simp
    · first | exact ⟨rfl, rfl⟩ | (simp only [go_sem, Nat.reduceBEq, Nat.reduceLT, Nat.reduceAdd, Nat.reduceLeDiff, Nat.reduceSub, Nat.reduceEqDiff, Int.reduceToNat, reduceCtorEq, ↓reduceIte]; done) | (simp [go_sem, Nat.reduceBEq, Nat.reduceLT, Nat.reduceAdd, Nat.reduceLeDiff, Nat.reduceSub, Nat.reduceEqDiff, Int.reduceToNat, reduceCtorEq, ↓reduceIte]; done) | (simp only [go_sem, Nat.reduceBEq, Nat.reduceLT, Nat.reduceAdd, Nat.reduceLeDiff, Nat.reduceSub, Nat.reduceEqDiff, Int.reduceToNat, reduceCtorEq, ↓reduceIte]; exact ⟨rfl, rfl⟩) | (simp_all [go_sem, Nat.reduceBEq, Nat.reduceLT, Nat.reduceAdd, Nat.reduceLeDiff, Nat.reduceSub, Nat.reduceEqDiff, Int.reduceToNat, reduceCtorEq, ↓reduceIte]; done)
  · replace h := bite_f h hc3
    refine awp_skip ?_
    (try simp only [Thn, InBlk, ↓reduceIte, Nat.reduceEqDiff])
    refine hK2 _ _ ?_
    clear hK2
    replace h := chk_some h
    obtain ⟨hp0, h⟩ := h
    refine awp_reg ftCOk [(2, .sl 1)] [.row false (.trips a0), .row true (.trips ([] ++ a0))] ?_
    clear hp0
    refine awp_ret ?_
    (try simp only [Thn, InBlk, ↓reduceIte, Nat.reduceEqDiff])
    obtain rfl := Option.some.inj h
    refine ⟨by simp, _, [0, 1], (by simp only [go_sem, Nat.reduceBEq, Nat.reduceLT, Nat.reduceAdd, Nat.reduceLeDiff, Nat.reduceSub, Nat.reduceEqDiff, Int.reduceToNat, reduceCtorEq, ↓reduceIte]; exact rfl), ?_, ?_, ?_, ?_⟩
    · first | exact trivial | exact ⟨trivial, trivial⟩ | exact ⟨trivial, trivial, trivial⟩ | exact ⟨trivial, trivial, trivial, trivial⟩ | (simp only [allP, and_true, true_and]; done) | (simp only [allP, and_true, true_and]; omega)
    · simp [selOk, pos]
    · simp
    · first | exact ⟨rfl, rfl⟩ | (simp only [go_sem, Nat.reduceBEq, Nat.reduceLT, Nat.reduceAdd, Nat.reduceLeDiff, Nat.reduceSub, Nat.reduceEqDiff, Int.reduceToNat, reduceCtorEq, ↓reduceIte]; done) | (simp [go_sem, Nat.reduceBEq, Nat.reduceLT, Nat.reduceAdd, Nat.reduceLeDiff, Nat.reduceSub, Nat.reduceEqDiff, Int.reduceToNat, reduceCtorEq, ↓reduceIte]; done) | (simp only [go_sem, Nat.reduceBEq, Nat.reduceLT, Nat.reduceAdd, Nat.reduceLeDiff, Nat.reduceSub, Nat.reduceEqDiff, Int.reduceToNat, reduceCtorEq, ↓reduceIte]; exact ⟨rfl, rfl⟩) | (simp_all [go_sem, Nat.reduceBEq, Nat.reduceLT, Nat.reduceAdd, Nat.reduceLeDiff, Nat.reduceSub, Nat.reduceEqDiff, Int.reduceToNat, reduceCtorEq, ↓reduceIte]; done)
theorem k_impl_Graph_copied (a0_0 : Int) (a0_1 : List (Int × Int × Int)) {r : Int × (List (Int × Int × Int))} (h : impl_Graph_copied a0_0 a0_1 = some r) :
    FnA Try.prog 36 [.agg [.v (.int .i64 a0_0), .sl 0]] [.row false (.trips a0_1)] [] (fun x H => x = .agg [.v (.int .i64 r.1), .sl 1] ∧ H = [.row false (.trips a0_1), .row true (.trips r.2)]) := by
  unfold impl_Graph_copied at h
  refine FnA.of (N := 9) (pin := [0]) (rs := [.cell 2 25]) Try.func36 rfl en36 rfl rfl (by simp) (by simp; try omega) ?_
  refine awp_reg ftCOk [(1, .pp 1 0), (2, .pp 2 0)] [.row false (.trips a0_1), .box [.v (.int .i64 a0_0), .sl 0], .box [.v (.int .i64 0), .v (.slice none 0 0)]] ?_
  refine awp_freeze 1 (by rfl) (by rfl) (by exact rfl) ?_
  replace h := bind_some h
  obtain ⟨y, hr0, h⟩ := h
  try dsimp only at h
  refine awp_to [(2, .pp 2 0)] [.row false (.trips a0_1), .rbox [.v (.int .i64 a0_0), .sl 0], .box [.v (.int .i64 a0_0), .sl 3], .row true (.trips y)] ?_ ?_
  · clear h
    intro K hK
    refine awp_drawT mixed ftCOk (.free 0 (.free 2 (.free 1 (.one 3 (.one 4 (.one 5 (.one 6 .fin))))))) (by kernel_rfl) (by simp) ?_
    simp (maxSteps := 4000000) only [go_sem, Nat.reduceBEq, Nat.reduceLT, Nat.reduceAdd, Nat.reduceLeDiff, Nat.reduceSub, Nat.reduceEqDiff, Int.reduceToNat, reduceCtorEq, ↓reduceIte]
    repeat' (first | refine And.intro ?_ ?_ | intro hg)
    all_goals (try simp (disch := omega) only [wrap_fits])
    all_goals first
      | (refine hK _ _ ?_; exact Red.auto)
      | exact trivial
      | assumption
      | omega
      | exact wrap_fits (by omega) (by omega)
      | (refine OpK_callA (k_slices_Clone_impl_Edge_impl_Edge a0_1 (h := hr0)) [0] [] ?_
         rintro x Hc' ⟨rfl, rfl⟩ hlen
         simp (maxSteps := 4000000) only [go_sem, Nat.reduceBEq, Nat.reduceLT, Nat.reduceAdd, Nat.reduceLeDiff, Nat.reduceSub, Nat.reduceEqDiff, Int.reduceToNat, reduceCtorEq, ↓reduceIte]
         repeat' (first | refine And.intro ?_ ?_ | intro hg)
         all_goals (try simp (disch := omega) only [wrap_fits])
         all_goals first
           | (refine hK _ _ ?_; exact Red.auto)
           | exact trivial
           | assumption
           | omega
           | exact wrap_fits (by omega) (by omega)
           | (simp (maxSteps := 4000000) only [go_sem, Nat.reduceBEq, Nat.reduceLT, Nat.reduceAdd, Nat.reduceLeDiff, Nat.reduceSub, Nat.reduceEqDiff, Int.reduceToNat, reduceCtorEq, ↓reduceIte]
              repeat' (first | refine And.intro ?_ ?_ | intro hg)
              all_goals (try simp (disch := omega) only [wrap_fits])
              all_goals first | (refine hK _ _ ?_; exact Red.auto) | exact trivial | assumption | omega | exact wrap_fits (by omega) (by omega))
           | (simp_all; done)
           | (simp_all; omega))
      | (simp_all; done)
      | (simp_all; omega)
  · clear hr0
    refine awp_ret ?_
    (try simp only [Thn, InBlk, ↓reduceIte, Nat.reduceEqDiff])
    obtain rfl := Option.some.inj h
    refine ⟨by simp, _, [0, 3], (by simp only [go_sem, Nat.reduceBEq, Nat.reduceLT, Nat.reduceAdd, Nat.reduceLeDiff, Nat.reduceSub, Nat.reduceEqDiff, Int.reduceToNat, reduceCtorEq, ↓reduceIte]; exact rfl), ?_, ?_, ?_, ?_⟩
    · first | exact trivial | exact ⟨trivial, trivial⟩ | exact ⟨trivial, trivial, trivial⟩ | exact ⟨trivial, trivial, trivial, trivial⟩ | (simp only [allP, and_true, true_and]; done) | (simp only [allP, and_true, true_and]; omega)
    · simp [selOk, pos]
    · simp
    · first | exact ⟨rfl, rfl⟩ | (simp only [go_sem, Nat.reduceBEq, Nat.reduceLT, Nat.reduceAdd, Nat.reduceLeDiff, Nat.reduceSub, Nat.reduceEqDiff, Int.reduceToNat, reduceCtorEq, ↓reduceIte]; done) | (simp [go_sem, Nat.reduceBEq, Nat.reduceLT, Nat.reduceAdd, Nat.reduceLeDiff, Nat.reduceSub, Nat.reduceEqDiff, Int.reduceToNat, reduceCtorEq, ↓reduceIte]; done) | (simp only [go_sem, Nat.reduceBEq, Nat.reduceLT, Nat.reduceAdd, Nat.reduceLeDiff, Nat.reduceSub, Nat.reduceEqDiff, Int.reduceToNat, reduceCtorEq, ↓reduceIte]; exact ⟨rfl, rfl⟩) | (simp_all [go_sem, Nat.reduceBEq, Nat.reduceLT, Nat.reduceAdd, Nat.reduceLeDiff, Nat.reduceSub, Nat.reduceEqDiff, Int.reduceToNat, reduceCtorEq, ↓reduceIte]; done)
theorem k_slices_BinarySearchFunc_impl_Edge_impl_Edge_impl_Edge__impl_compareEnds (a0 : List (Int × Int × Int)) (a1_0 : Int) (a1_1 : Int) (a1_2 : Int) {r : Int × Bool} (h : slices_BinarySearchFunc_impl_Edge_impl_Edge_impl_Edge__impl_compareEnds a0 a1_0 a1_1 a1_2 = some r) :
    FnA Try.prog 35 [.sl 0, .agg [.v (.int .i64 a1_0), .v (.int .i64 a1_1), .v (.int .i64 a1_2)], .v (.func (.func 29) #[] #[])] [.row false (.trips a0)] [] (fun x H => x = .tup [.v (.int .i64 r.1), .v (.bool r.2)] ∧ H = [.row false (.trips a0)]) := by
  unfold slices_BinarySearchFunc_impl_Edge_impl_Edge_impl_Edge__impl_compareEnds at h
  refine FnA.of (N := 49) (pin := [0]) (rs := [.tmp 6, .tmp 7]) Try.func35 rfl en35 rfl rfl (by simp) (by simp; try omega) ?_
  refine awp_reg ftCOk [(0, .sl 0), (2, .v (.func (.func 29) #[] #[])), (4, .pp 1 0)] [.row false (.trips a0), .box [.v (.int .i64 a1_0), .v (.int .i64 a1_1), .v (.int .i64 a1_2)]] ?_
  refine awp_freeze 4 (by rfl) (by rfl) (by exact rfl) ?_
  refine awp_reg ftCOk [(0, .sl 0), (2, .v (.func (.func 29) #[] #[])), (4, .pp 1 0), (8, .v (.int .i64 (a0.length : Int)))] [.row false (.trips a0), .rbox [.v (.int .i64 a1_0), .v (.int .i64 a1_1), .v (.int .i64 a1_2)]] ?_
  refine awp_reg ftCOk [(0, .sl 0), (2, .v (.func (.func 29) #[] #[])), (4, .pp 1 0), (8, .v (.int .i64 (a0.length : Int))), (9, .v (.int .i64 0)), (10, .v (.int .i64 (a0.length : Int)))] [.row false (.trips a0), .rbox [.v (.int .i64 a1_0), .v (.int .i64 a1_1), .v (.int .i64 a1_2)]] ?_
  refine awp_seq fun K14 hK14 => ?_
  refine awp_block ?_
  replace h := bind_some h
  obtain ⟨t9_1, hx, h⟩ := h
  refine awp_loopL hx (fun ((t9, t10) : Int × Int) => [(0, .sl 0), (2, .v (.func (.func 29) #[] #[])), (4, .pp 1 0), (8, .v (.int .i64 (a0.length : Int))), (9, .v (.int .i64 t9)), (10, .v (.int .i64 t10))]) (fun ((t9, t10) : Int × Int) => [.row false (.trips a0), .rbox [.v (.int .i64 a1_0), .v (.int .i64 a1_1), .v (.int .i64 a1_2)]]) (fun (t9_1 : Int) => Exit.exit 0) (fun (t9_1 : Int) => [(0, .sl 0), (2, .v (.func (.func 29) #[] #[])), (4, .pp 1 0), (8, .v (.int .i64 (a0.length : Int))), (9, .v (.int .i64 t9_1))]) (fun (t9_1 : Int) => [.row false (.trips a0), .rbox [.v (.int .i64 a1_0), .v (.int .i64 a1_1), .v (.int .i64 a1_2)]]) ?_ ?_ ?_ ?_
  · rintro t9_1 hy <;> cases hy
  · clear h hx
    exact Red.auto
  · clear h hx
    rintro ⟨t9, t10⟩ r h
    unfold slices_BinarySearchFunc_impl_Edge_impl_Edge_impl_Edge__impl_compareEnds_b0 at h
    try dsimp only at h
    try dsimp only
    refine awp_seq fun K24 hK24 => ?_
    refine awp_reg ftCOk [(0, .sl 0), (2, .v (.func (.func 29) #[] #[])), (4, .pp 1 0), (8, .v (.int .i64 (a0.length : Int))), (9, .v (.int .i64 t9)), (10, .v (.int .i64 t10)), (17, .v (.bool (decide (t9 < t10))))] [.row false (.trips a0), .rbox [.v (.int .i64 a1_0), .v (.int .i64 a1_1), .v (.int .i64 a1_2)]] ?_
    refine awp_cond (t := 17) rfl (fun hc25 => ?_) (fun hc25 => ?_)
    · replace h := bite_t h hc25
      refine awp_skip ?_
      (try simp only [Thn, InBlk, ↓reduceIte, Nat.reduceEqDiff])
      refine hK24 _ _ ?_
      clear hK24
      refine awp_block ?_
      replace h := chk_some h
      obtain ⟨hp0, h⟩ := h
      replace h := chk_some h
      obtain ⟨hp1, h⟩ := h
      refine awp_reg ftCOk [(0, .sl 0), (2, .v (.func (.func 29) #[] #[])), (4, .pp 1 0), (8, .v (.int .i64 (a0.length : Int))), (9, .v (.int .i64 t9)), (10, .v (.int .i64 t10)), (11, .v (.int .i64 ((IntKind.u64.wrap (t9 + t10)).fdiv 2)))] [.row false (.trips a0), .rbox [.v (.int .i64 a1_0), .v (.int .i64 a1_1), .v (.int .i64 a1_2)]] ?_
      clear hp0 hp1
      replace h := chk_some h
      obtain ⟨hp0, h⟩ := h
      refine awp_regQ mixed ftCOk [(0, .sl 0), (2, .v (.func (.func 29) #[] #[])), (4, .pp 1 0), (8, .v (.int .i64 (a0.length : Int))), (9, .v (.int .i64 t9)), (10, .v (.int .i64 t10)), (11, .v (.int .i64 ((IntKind.u64.wrap (t9 + t10)).fdiv 2))), (31, .v (.bool (decide ((orF [cmpI (a0.getD (((IntKind.u64.wrap (t9 + t10)).fdiv 2).toNat) (0, 0, 0)).1 a1_0, cmpI (a0.getD (((IntKind.u64.wrap (t9 + t10)).fdiv 2).toNat) (0, 0, 0)).2.1 a1_1]) < 0))))] [.row false (.trips a0), .rbox [.v (.int .i64 a1_0), .v (.int .i64 a1_1), .v (.int .i64 a1_2)]] ?_
      clear hp0
      refine awp_cond (t := 31) rfl (fun hc26 => ?_) (fun hc26 => ?_)
      · replace h := bite_t h hc26
        replace h := chk_some h
        obtain ⟨hp0, h⟩ := h
        refine awp_regE ftCOk [(0, .sl 0), (2, .v (.func (.func 29) #[] #[])), (4, .pp 1 0), (8, .v (.int .i64 (a0.length : Int))), (9, .v (.int .i64 (((IntKind.u64.wrap (t9 + t10)).fdiv 2) + 1))), (10, .v (.int .i64 t10))] [.row false (.trips a0), .rbox [.v (.int .i64 a1_0), .v (.int .i64 a1_1), .v (.int .i64 a1_2)]] ?_
        clear hp0
        (try simp only [Thn, InBlk, ↓reduceIte, Nat.reduceEqDiff])
        obtain rfl := Option.some.inj h
        refine LoopQ.next ?_
        exact Red.auto
      · replace h := bite_f h hc26
        refine awp_regE ftCOk [(0, .sl 0), (2, .v (.func (.func 29) #[] #[])), (4, .pp 1 0), (8, .v (.int .i64 (a0.length : Int))), (9, .v (.int .i64 t9)), (10, .v (.int .i64 ((IntKind.u64.wrap (t9 + t10)).fdiv 2)))] [.row false (.trips a0), .rbox [.v (.int .i64 a1_0), .v (.int .i64 a1_1), .v (.int .i64 a1_2)]] ?_
        (try simp only [Thn, InBlk, ↓reduceIte, Nat.reduceEqDiff])
        obtain rfl := Option.some.inj h
        refine LoopQ.next ?_
        exact Red.auto
    · replace h := bite_f h hc25
      refine awp_exit ?_
      (try simp only [Thn, InBlk, ↓reduceIte, Nat.reduceEqDiff])
      obtain rfl := Option.some.inj h
      refine LoopQ.out rfl ?_
      exact Red.auto
  · clear hx
    skip
    · try dsimp only [Sum.elim_inl, Sum.elim_inr] at h
      try dsimp only [Sum.elim_inl, Sum.elim_inr]
      (try simp only [Thn, InBlk, ↓reduceIte, Nat.reduceEqDiff])
      (try simp only [Thn, InBlk, ↓reduceIte, Nat.reduceEqDiff])
      (try simp only [Thn, InBlk, ↓reduceIte, Nat.reduceEqDiff])
      refine hK14 _ _ ?_
      clear hK14
      replace h := chk_some h
      obtain ⟨hp0, h⟩ := h
      refine awp_to [(6, .v (.int .i64 t9_1)), (7, .v (.bool ((decide (t9_1 < (a0.length : Int))) && ((orF [cmpI (a0.getD t9_1.toNat (0, 0, 0)).1 a1_0, cmpI (a0.getD t9_1.toNat (0, 0, 0)).2.1 a1_1]) == 0))))] [.row false (.trips a0), .rbox [.v (.int .i64 a1_0), .v (.int .i64 a1_1), .v (.int .i64 a1_2)]] ?_ ?_
      · clear h
        intro K hK
        refine awp_quietg mixed ftCOk (by kernel_rfl) ?_
        simp (maxSteps := 4000000) only [go_sem, Nat.reduceBEq, Nat.reduceLT, Nat.reduceAdd, Nat.reduceLeDiff, Nat.reduceSub, Nat.reduceEqDiff, Int.reduceToNat, reduceCtorEq, ↓reduceIte]
        repeat' (first | refine And.intro ?_ ?_ | intro hg)
        all_goals (try simp (disch := omega) only [wrap_fits])
        all_goals first
          | (refine hK _ _ ?_; exact Red.auto)
          | exact trivial
          | assumption
          | omega
          | exact wrap_fits (by omega) (by omega)
          | (have hq := hp0 (by first | assumption | (simp only [*, Bool.false_or, Bool.true_or, Bool.or_false, Bool.or_true, Bool.false_and, Bool.true_and, Bool.and_false, Bool.and_true, Bool.not_true, Bool.not_false, beq_self_eq_true]; done) | (simp_all; done)); omega)
          | (simp_all; done)
          | (simp_all; omega)
      · clear hp0
        refine awp_ret ?_
        (try simp only [Thn, InBlk, ↓reduceIte, Nat.reduceEqDiff])
        obtain rfl := Option.some.inj h
        refine ⟨by simp, _, [0], (by simp only [go_sem, Nat.reduceBEq, Nat.reduceLT, Nat.reduceAdd, Nat.reduceLeDiff, Nat.reduceSub, Nat.reduceEqDiff, Int.reduceToNat, reduceCtorEq, ↓reduceIte]; exact rfl), ?_, ?_, ?_, ?_⟩
        · first | exact trivial | exact ⟨trivial, trivial⟩ | exact ⟨trivial, trivial, trivial⟩ | exact ⟨trivial, trivial, trivial, trivial⟩ | (simp only [allP, and_true, true_and]; done) | (simp only [allP, and_true, true_and]; omega)
        · simp [selOk, pos]
        · simp
        · first | exact ⟨rfl, rfl⟩ | (simp only [go_sem, Nat.reduceBEq, Nat.reduceLT, Nat.reduceAdd, Nat.reduceLeDiff, Nat.reduceSub, Nat.reduceEqDiff, Int.reduceToNat, reduceCtorEq, ↓reduceIte]; done) | (simp [go_sem, Nat.reduceBEq, Nat.reduceLT, Nat.reduceAdd, Nat.reduceLeDiff, Nat.reduceSub, Nat.reduceEqDiff, Int.reduceToNat, reduceCtorEq, ↓reduceIte]; done) | (simp only [go_sem, Nat.reduceBEq, Nat.reduceLT, Nat.reduceAdd, Nat.reduceLeDiff, Nat.reduceSub, Nat.reduceEqDiff, Int.reduceToNat, reduceCtorEq, ↓reduceIte]; exact ⟨rfl, rfl⟩) | (simp_all [go_sem, Nat.reduceBEq, Nat.reduceLT, Nat.reduceAdd, Nat.reduceLeDiff, Nat.reduceSub, Nat.reduceEqDiff, Int.reduceToNat, reduceCtorEq, ↓reduceIte]; done)
theorem k_impl_AddEdge (a0_0 : Int) (a0_1 : List (Int × Int × Int)) (a1_0 : Int) (a1_1 : Int) (a1_2 : Int) {r : Int × (List (Int × Int × Int)) × Bool} (h : impl_AddEdge a0_0 a0_1 a1_0 a1_1 a1_2 = some r) :
    FnA Try.prog 27 [.agg [.v (.int .i64 a0_0), .sl 0], .agg [.v (.int .i64 a1_0), .v (.int .i64 a1_1), .v (.int .i64 a1_2)]] [.row false (.trips a0_1)] [] (fun x H => x = .tup [.agg [.v (.int .i64 r.1), .sl 1], .v (.bool r.2.2)] ∧ H = [.row false (.trips a0_1), .row true (.trips r.2.1)]) := by
  unfold impl_AddEdge at h
  refine FnA.of (N := 41) (pin := [0]) (rs := [.cell 4 25, .tmp 5]) Try.func27 rfl en27 rfl rfl (by simp) (by simp; try omega) ?_
  refine awp_reg ftCOk [(2, .pp 1 0), (3, .pp 2 0), (4, .pp 3 0)] [.row false (.trips a0_1), .box [.v (.int .i64 a0_0), .sl 0], .box [.v (.int .i64 a1_0), .v (.int .i64 a1_1), .v (.int .i64 a1_2)], .box [.v (.int .i64 0), .v (.slice none 0 0)]] ?_
  refine awp_freeze 2 (by rfl) (by rfl) (by exact rfl) ?_
  refine awp_freeze 3 (by rfl) (by rfl) (by exact rfl) ?_
  refine awp_seq fun K2 hK2 => ?_
  replace h := bind_some h
  obtain ⟨y, hr0, h⟩ := h
  try dsimp only at h
  refine awp_to [(2, .pp 1 0), (3, .pp 2 0), (4, .pp 3 0), (11, .v (.bool (!y)))] [.row false (.trips a0_1), .rbox [.v (.int .i64 a0_0), .sl 0], .rbox [.v (.int .i64 a1_0), .v (.int .i64 a1_1), .v (.int .i64 a1_2)], .box [.v (.int .i64 0), .v (.slice none 0 0)]] ?_ ?_
  · clear h
    intro K hK
    refine awp_region ftCOk ?_
    simp (maxSteps := 4000000) only [go_sem, Nat.reduceBEq, Nat.reduceLT, Nat.reduceAdd, Nat.reduceLeDiff, Nat.reduceSub, Nat.reduceEqDiff, Int.reduceToNat, reduceCtorEq, ↓reduceIte]
    repeat' (first | refine And.intro ?_ ?_ | intro hg)
    all_goals (try simp (disch := omega) only [wrap_fits])
    all_goals first
      | (refine hK _ _ ?_; exact Red.auto)
      | exact trivial
      | assumption
      | omega
      | exact wrap_fits (by omega) (by omega)
      | (refine wpA_callA (k_impl_GraphValid a0_0 a0_1 (h := hr0)) [0] [] ?_
         rintro x Hc' ⟨rfl, rfl⟩ hlen
         refine vcOps_sound ftCOk ?_
         simp (maxSteps := 4000000) only [go_sem, Nat.reduceBEq, Nat.reduceLT, Nat.reduceAdd, Nat.reduceLeDiff, Nat.reduceSub, Nat.reduceEqDiff, Int.reduceToNat, reduceCtorEq, ↓reduceIte]
         repeat' (first | refine And.intro ?_ ?_ | intro hg)
         all_goals (try simp (disch := omega) only [wrap_fits])
         all_goals first
           | (refine hK _ _ ?_; exact Red.auto)
           | exact trivial
           | assumption
           | omega
           | exact wrap_fits (by omega) (by omega)
           | (simp_all; done)
           | (simp_all; omega))
      | (simp_all; done)
      | (simp_all; omega)
  · clear hr0
    refine awp_cond (t := 11) rfl (fun hc3 => ?_) (fun hc3 => ?_)
    · replace h := bite_t h hc3
      refine awp_reg ftCOk [(4, .pp 3 0), (5, .v (.bool false))] [.row false (.trips a0_1), .rbox [.v (.int .i64 a0_0), .sl 0], .rbox [.v (.int .i64 a1_0), .v (.int .i64 a1_1), .v (.int .i64 a1_2)], .box [.v (.int .i64 0), .v (.slice none 0 0)]] ?_
      refine awp_red (Red.nilCell (o := 3) (i := 1) (.trips []) rfl rfl rfl) ?_
      refine awp_ret ?_
      (try simp only [Thn, InBlk, ↓reduceIte, Nat.reduceEqDiff])
      obtain rfl := Option.some.inj h
      refine ⟨by simp, _, [0, 4], (by simp only [go_sem, Nat.reduceBEq, Nat.reduceLT, Nat.reduceAdd, Nat.reduceLeDiff, Nat.reduceSub, Nat.reduceEqDiff, Int.reduceToNat, reduceCtorEq, ↓reduceIte]; exact rfl), ?_, ?_, ?_, ?_⟩
      · first | exact trivial | exact ⟨trivial, trivial⟩ | exact ⟨trivial, trivial, trivial⟩ | exact ⟨trivial, trivial, trivial, trivial⟩ | (simp only [allP, and_true, true_and]; done) | (simp only [allP, and_true, true_and]; omega)
      · simp [selOk, pos]
      · simp
      · first | exact ⟨rfl, rfl⟩ | (simp only [go_sem, Nat.reduceBEq, Nat.reduceLT, Nat.reduceAdd, Nat.reduceLeDiff, Nat.reduceSub, Nat.reduceEqDiff, Int.reduceToNat, reduceCtorEq, ↓reduceIte]; done) | (simp [go_sem, Nat.reduceBEq, Nat.reduceLT, Nat.reduceAdd, Nat.reduceLeDiff, Nat.reduceSub, Nat.reduceEqDiff, Int.reduceToNat, reduceCtorEq, ↓reduceIte]; done) | (simp only [go_sem, Nat.reduceBEq, Nat.reduceLT, Nat.reduceAdd, Nat.reduceLeDiff, Nat.reduceSub, Nat.reduceEqDiff, Int.reduceToNat, reduceCtorEq, ↓reduceIte]; exact ⟨rfl, rfl⟩) | (simp_all [go_sem, Nat.reduceBEq, Nat.reduceLT, Nat.reduceAdd, Nat.reduceLeDiff, Nat.reduceSub, Nat.reduceEqDiff, Int.reduceToNat, reduceCtorEq, ↓reduceIte]; done)
    · replace h := bite_f h hc3
      refine awp_skip ?_
      (try simp only [Thn, InBlk, ↓reduceIte, Nat.reduceEqDiff])
      refine hK2 _ _ ?_
      clear hK2
      replace h := bind_some h
      obtain ⟨⟨y_1, y_2⟩, hr0, h⟩ := h
      try dsimp only at h
      refine awp_to [(2, .pp 1 0), (3, .pp 2 0), (4, .pp 3 0), (6, .v (.int .i64 y_1)), (7, .v (.bool y_2))] [.row false (.trips a0_1), .rbox [.v (.int .i64 a0_0), .sl 0], .rbox [.v (.int .i64 a1_0), .v (.int .i64 a1_1), .v (.int .i64 a1_2)], .box [.v (.int .i64 0), .v (.slice none 0 0)]] ?_ ?_
      · clear h
        intro K hK
        refine awp_region ftCOk ?_
        simp (maxSteps := 4000000) only [go_sem, Nat.reduceBEq, Nat.reduceLT, Nat.reduceAdd, Nat.reduceLeDiff, Nat.reduceSub, Nat.reduceEqDiff, Int.reduceToNat, reduceCtorEq, ↓reduceIte]
        repeat' (first | refine And.intro ?_ ?_ | intro hg)
        all_goals (try simp (disch := omega) only [wrap_fits])
        all_goals first
          | (refine hK _ _ ?_; exact Red.auto)
          | exact trivial
          | assumption
          | omega
          | exact wrap_fits (by omega) (by omega)
          | (refine wpA_callA (k_slices_BinarySearchFunc_impl_Edge_impl_Edge_impl_Edge__impl_compareEnds a0_1 a1_0 a1_1 a1_2 (h := hr0)) [0] [] ?_
             rintro x Hc' ⟨rfl, rfl⟩ hlen
             refine vcOps_sound ftCOk ?_
             simp (maxSteps := 4000000) only [go_sem, Nat.reduceBEq, Nat.reduceLT, Nat.reduceAdd, Nat.reduceLeDiff, Nat.reduceSub, Nat.reduceEqDiff, Int.reduceToNat, reduceCtorEq, ↓reduceIte]
             repeat' (first | refine And.intro ?_ ?_ | intro hg)
             all_goals (try simp (disch := omega) only [wrap_fits])
             all_goals first
               | (refine hK _ _ ?_; exact Red.auto)
               | exact trivial
               | assumption
               | omega
               | exact wrap_fits (by omega) (by omega)
               | (simp_all; done)
               | (simp_all; omega))
          | (simp_all; done)
          | (simp_all; omega)
      · clear hr0
        replace h := bind_some h
        obtain ⟨⟨y_3, y_4⟩, hr0, h⟩ := h
        try dsimp only at h
        refine awp_to [(2, .pp 1 0), (3, .pp 2 0), (4, .pp 3 0), (6, .v (.int .i64 y_1)), (7, .v (.bool y_2)), (8, .pp 5 0)] [.row false (.trips a0_1), .rbox [.v (.int .i64 a0_0), .sl 0], .rbox [.v (.int .i64 a1_0), .v (.int .i64 a1_1), .v (.int .i64 a1_2)], .box [.v (.int .i64 0), .v (.slice none 0 0)], .row true (.trips y_4), .box [.v (.int .i64 y_3), .sl 4]] ?_ ?_
        · clear h
          intro K hK
          refine awp_region ftCOk ?_
          simp (maxSteps := 4000000) only [go_sem, Nat.reduceBEq, Nat.reduceLT, Nat.reduceAdd, Nat.reduceLeDiff, Nat.reduceSub, Nat.reduceEqDiff, Int.reduceToNat, reduceCtorEq, ↓reduceIte]
          repeat' (first | refine And.intro ?_ ?_ | intro hg)
          all_goals (try simp (disch := omega) only [wrap_fits])
          all_goals first
            | (refine hK _ _ ?_; exact Red.auto)
            | exact trivial
            | assumption
            | omega
            | exact wrap_fits (by omega) (by omega)
            | (refine wpA_callA (k_impl_Graph_copied a0_0 a0_1 (h := hr0)) [0] [] ?_
               rintro x Hc' ⟨rfl, rfl⟩ hlen
               refine vcOps_sound ftCOk ?_
               simp (maxSteps := 4000000) only [go_sem, Nat.reduceBEq, Nat.reduceLT, Nat.reduceAdd, Nat.reduceLeDiff, Nat.reduceSub, Nat.reduceEqDiff, Int.reduceToNat, reduceCtorEq, ↓reduceIte]
               repeat' (first | refine And.intro ?_ ?_ | intro hg)
               all_goals (try simp (disch := omega) only [wrap_fits])
               all_goals first
                 | (refine hK _ _ ?_; exact Red.auto)
                 | exact trivial
                 | assumption
                 | omega
                 | exact wrap_fits (by omega) (by omega)
                 | (simp_all; done)
                 | (simp_all; omega))
            | (simp_all; done)
            | (simp_all; omega)
        · clear hr0
          refine awp_join h (fun (t8_1s : List (Int × Int × Int)) => [(2, .pp 1 0), (4, .pp 2 0), (8, .pp 3 0)]) (fun (t8_1s : List (Int × Int × Int)) => [.row false (.trips a0_1), .rbox [.v (.int .i64 a0_0), .sl 0], .box [.v (.int .i64 0), .v (.slice none 0 0)], .box [.v (.int .i64 y_3), .sl 4], .row true (.trips t8_1s)]) ?_ ?_
          · clear h
            intro k h
            try dsimp only at h
            refine awp_reg ftCOk [(2, .pp 1 0), (3, .pp 2 0), (4, .pp 3 0), (6, .v (.int .i64 y_1)), (8, .pp 5 0), (22, .v (.bool y_2))] [.row false (.trips a0_1), .rbox [.v (.int .i64 a0_0), .sl 0], .rbox [.v (.int .i64 a1_0), .v (.int .i64 a1_1), .v (.int .i64 a1_2)], .box [.v (.int .i64 0), .v (.slice none 0 0)], .row true (.trips y_4), .box [.v (.int .i64 y_3), .sl 4]] ?_
            refine awp_cond (t := 22) rfl (fun hc5 => ?_) (fun hc5 => ?_)
            · replace h := bite_t h hc5
              replace h := chk_some h
              obtain ⟨hp0, h⟩ := h
              refine awp_regE ftCOk [(2, .pp 1 0), (4, .pp 3 0), (8, .pp 5 0)] [.row false (.trips a0_1), .rbox [.v (.int .i64 a0_0), .sl 0], .rbox [.v (.int .i64 a1_0), .v (.int .i64 a1_1), .v (.int .i64 a1_2)], .box [.v (.int .i64 0), .v (.slice none 0 0)], .row true (.trips (y_4.set y_1.toNat (a1_0, a1_1, a1_2))), .box [.v (.int .i64 y_3), .sl 4]] ?_
              clear hp0
              (try simp only [Thn, InBlk, ↓reduceIte, Nat.reduceEqDiff])
              refine ⟨_, h, ?_⟩
              exact Red.selA [0, 1, 3, 5, 4] Red.auto
            · replace h := bite_f h hc5
              replace h := bind_some h
              obtain ⟨y_5, hr0, h⟩ := h
              try dsimp only at h
              refine awp_end [(2, .pp 1 0), (4, .pp 3 0), (8, .pp 5 0)] [.row false (.trips a0_1), .rbox [.v (.int .i64 a0_0), .sl 0], .rbox [.v (.int .i64 a1_0), .v (.int .i64 a1_1), .v (.int .i64 a1_2)], .box [.v (.int .i64 0), .v (.slice none 0 0)], .dead, .box [.v (.int .i64 y_3), .sl 7], .row true (.trips [(a1_0, a1_1, a1_2)]), .row true (.trips y_5)] ?_ ?_
              · clear h
                intro K hK
                refine awp_region ftCOk ?_
                simp (maxSteps := 4000000) only [go_sem, Nat.reduceBEq, Nat.reduceLT, Nat.reduceAdd, Nat.reduceLeDiff, Nat.reduceSub, Nat.reduceEqDiff, Int.reduceToNat, reduceCtorEq, ↓reduceIte]
                repeat' (first | refine And.intro ?_ ?_ | intro hg)
                all_goals (try simp (disch := omega) only [wrap_fits])
                all_goals first
                  | (refine hK _ _ ?_; exact Red.auto)
                  | exact trivial
                  | assumption
                  | omega
                  | exact wrap_fits (by omega) (by omega)
                  | (refine wpA_callA (k_insF y_4 y_1 [(a1_0, a1_1, a1_2)] (h := hr0)) [4, 6] [] ?_
                     rintro x Hc' ⟨rfl, rfl⟩ hlen
                     refine vcOps_sound ftCOk ?_
                     simp (maxSteps := 4000000) only [go_sem, Nat.reduceBEq, Nat.reduceLT, Nat.reduceAdd, Nat.reduceLeDiff, Nat.reduceSub, Nat.reduceEqDiff, Int.reduceToNat, reduceCtorEq, ↓reduceIte]
                     repeat' (first | refine And.intro ?_ ?_ | intro hg)
                     all_goals (try simp (disch := omega) only [wrap_fits])
                     all_goals first
                       | (refine hK _ _ ?_; exact Red.auto)
                       | exact trivial
                       | assumption
                       | omega
                       | exact wrap_fits (by omega) (by omega)
                       | (simp_all; done)
                       | (simp_all; omega))
                  | (simp_all; done)
                  | (simp_all; omega)
              · clear hr0
                (try simp only [Thn, InBlk, ↓reduceIte, Nat.reduceEqDiff])
                refine ⟨_, h, ?_⟩
                exact Red.selA [0, 1, 3, 5, 7] Red.auto
          · clear h
            rintro t8_1s h
            try dsimp only at h
            try dsimp only
            refine awp_seq fun K7 hK7 => ?_
            replace h := bind_some h
            obtain ⟨y_6, hr0, h⟩ := h
            try dsimp only at h
            refine awp_to [(2, .pp 1 0), (4, .pp 2 0), (8, .pp 3 0), (37, .v (.bool (!y_6)))] [.row false (.trips a0_1), .rbox [.v (.int .i64 a0_0), .sl 0], .box [.v (.int .i64 0), .v (.slice none 0 0)], .box [.v (.int .i64 y_3), .sl 4], .row true (.trips t8_1s)] ?_ ?_
            · clear h
              intro K hK
              refine awp_region ftCOk ?_
              simp (maxSteps := 4000000) only [go_sem, Nat.reduceBEq, Nat.reduceLT, Nat.reduceAdd, Nat.reduceLeDiff, Nat.reduceSub, Nat.reduceEqDiff, Int.reduceToNat, reduceCtorEq, ↓reduceIte]
              repeat' (first | refine And.intro ?_ ?_ | intro hg)
              all_goals (try simp (disch := omega) only [wrap_fits])
              all_goals first
                | (refine hK _ _ ?_; exact Red.auto)
                | exact trivial
                | assumption
                | omega
                | exact wrap_fits (by omega) (by omega)
                | (refine wpA_callA (k_impl_GraphValid y_3 t8_1s (h := hr0)) [4] [] ?_
                   rintro x Hc' ⟨rfl, rfl⟩ hlen
                   refine vcOps_sound ftCOk ?_
                   simp (maxSteps := 4000000) only [go_sem, Nat.reduceBEq, Nat.reduceLT, Nat.reduceAdd, Nat.reduceLeDiff, Nat.reduceSub, Nat.reduceEqDiff, Int.reduceToNat, reduceCtorEq, ↓reduceIte]
                   repeat' (first | refine And.intro ?_ ?_ | intro hg)
                   all_goals (try simp (disch := omega) only [wrap_fits])
                   all_goals first
                     | (refine hK _ _ ?_; exact Red.auto)
                     | exact trivial
                     | assumption
                     | omega
                     | exact wrap_fits (by omega) (by omega)
                     | (simp_all; done)
                     | (simp_all; omega))
                | (simp_all; done)
                | (simp_all; omega)
            · clear hr0
              refine awp_cond (t := 37) rfl (fun hc8 => ?_) (fun hc8 => ?_)
              · replace h := bite_t h hc8
                replace h := bind_some h
                obtain ⟨⟨y_7, y_8⟩, hr0, h⟩ := h
                try dsimp only at h
                refine awp_to [(4, .pp 2 0), (5, .v (.bool false))] [.row false (.trips a0_1), .rbox [.v (.int .i64 a0_0), .sl 0], .box [.v (.int .i64 y_7), .sl 5], .box [.v (.int .i64 y_3), .sl 4], .row true (.trips t8_1s), .row true (.trips y_8)] ?_ ?_
                · clear h
                  intro K hK
                  refine awp_region ftCOk ?_
                  simp (maxSteps := 4000000) only [go_sem, Nat.reduceBEq, Nat.reduceLT, Nat.reduceAdd, Nat.reduceLeDiff, Nat.reduceSub, Nat.reduceEqDiff, Int.reduceToNat, reduceCtorEq, ↓reduceIte]
                  repeat' (first | refine And.intro ?_ ?_ | intro hg)
                  all_goals (try simp (disch := omega) only [wrap_fits])
                  all_goals first
                    | (refine hK _ _ ?_; exact Red.auto)
                    | exact trivial
                    | assumption
                    | omega
                    | exact wrap_fits (by omega) (by omega)
                    | (refine wpA_callA (k_impl_Graph_copied a0_0 a0_1 (h := hr0)) [0] [] ?_
                       rintro x Hc' ⟨rfl, rfl⟩ hlen
                       refine vcOps_sound ftCOk ?_
                       simp (maxSteps := 4000000) only [go_sem, Nat.reduceBEq, Nat.reduceLT, Nat.reduceAdd, Nat.reduceLeDiff, Nat.reduceSub, Nat.reduceEqDiff, Int.reduceToNat, reduceCtorEq, ↓reduceIte]
                       repeat' (first | refine And.intro ?_ ?_ | intro hg)
                       all_goals (try simp (disch := omega) only [wrap_fits])
                       all_goals first
                         | (refine hK _ _ ?_; exact Red.auto)
                         | exact trivial
                         | assumption
                         | omega
                         | exact wrap_fits (by omega) (by omega)
                         | (simp_all; done)
                         | (simp_all; omega))
                    | (simp_all; done)
                    | (simp_all; omega)
                · clear hr0
                  refine awp_ret ?_
                  (try simp only [Thn, InBlk, ↓reduceIte, Nat.reduceEqDiff])
                  obtain rfl := Option.some.inj h
                  refine ⟨by simp, _, [0, 5], (by simp only [go_sem, Nat.reduceBEq, Nat.reduceLT, Nat.reduceAdd, Nat.reduceLeDiff, Nat.reduceSub, Nat.reduceEqDiff, Int.reduceToNat, reduceCtorEq, ↓reduceIte]; exact rfl), ?_, ?_, ?_, ?_⟩
                  · first | exact trivial | exact ⟨trivial, trivial⟩ | exact ⟨trivial, trivial, trivial⟩ | exact ⟨trivial, trivial, trivial, trivial⟩ | (simp only [allP, and_true, true_and]; done) | (simp only [allP, and_true, true_and]; omega)
                  · simp [selOk, pos]
                  · simp
                  · first | exact ⟨rfl, rfl⟩ | (simp only [go_sem, Nat.reduceBEq, Nat.reduceLT, Nat.reduceAdd, Nat.reduceLeDiff, Nat.reduceSub, Nat.reduceEqDiff, Int.reduceToNat, reduceCtorEq, ↓reduceIte]; done) | (simp [go_sem, Nat.reduceBEq, Nat.reduceLT, Nat.reduceAdd, Nat.reduceLeDiff, Nat.reduceSub, Nat.reduceEqDiff, Int.reduceToNat, reduceCtorEq, ↓reduceIte]; done) | (simp only [go_sem, Nat.reduceBEq, Nat.reduceLT, Nat.reduceAdd, Nat.reduceLeDiff, Nat.reduceSub, Nat.reduceEqDiff, Int.reduceToNat, reduceCtorEq, ↓reduceIte]; exact ⟨rfl, rfl⟩) | (simp_all [go_sem, Nat.reduceBEq, Nat.reduceLT, Nat.reduceAdd, Nat.reduceLeDiff, Nat.reduceSub, Nat.reduceEqDiff, Int.reduceToNat, reduceCtorEq, ↓reduceIte]; done)
              · replace h := bite_f h hc8
                refine awp_skip ?_
                (try simp only [Thn, InBlk, ↓reduceIte, Nat.reduceEqDiff])
                refine hK7 _ _ ?_
                clear hK7
                refine awp_reg ftCOk [(4, .pp 2 0), (5, .v (.bool true))] [.row false (.trips a0_1), .rbox [.v (.int .i64 a0_0), .sl 0], .box [.v (.int .i64 y_3), .sl 4], .box [.v (.int .i64 y_3), .sl 4], .row true (.trips t8_1s)] ?_
                refine awp_ret ?_
                (try simp only [Thn, InBlk, ↓reduceIte, Nat.reduceEqDiff])
                obtain rfl := Option.some.inj h
                refine ⟨by simp, _, [0, 4], (by simp only [go_sem, Nat.reduceBEq, Nat.reduceLT, Nat.reduceAdd, Nat.reduceLeDiff, Nat.reduceSub, Nat.reduceEqDiff, Int.reduceToNat, reduceCtorEq, ↓reduceIte]; exact rfl), ?_, ?_, ?_, ?_⟩
                · first | exact trivial | exact ⟨trivial, trivial⟩ | exact ⟨trivial, trivial, trivial⟩ | exact ⟨trivial, trivial, trivial, trivial⟩ | (simp only [allP, and_true, true_and]; done) | (simp only [allP, and_true, true_and]; omega)
                · simp [selOk, pos]
                · simp
                · first | exact ⟨rfl, rfl⟩ | (simp only [go_sem, Nat.reduceBEq, Nat.reduceLT, Nat.reduceAdd, Nat.reduceLeDiff, Nat.reduceSub, Nat.reduceEqDiff, Int.reduceToNat, reduceCtorEq, ↓reduceIte]; done) | (simp [go_sem, Nat.reduceBEq, Nat.reduceLT, Nat.reduceAdd, Nat.reduceLeDiff, Nat.reduceSub, Nat.reduceEqDiff, Int.reduceToNat, reduceCtorEq, ↓reduceIte]; done) | (simp only [go_sem, Nat.reduceBEq, Nat.reduceLT, Nat.reduceAdd, Nat.reduceLeDiff, Nat.reduceSub, Nat.reduceEqDiff, Int.reduceToNat, reduceCtorEq, ↓reduceIte]; exact ⟨rfl, rfl⟩) | (simp_all [go_sem, Nat.reduceBEq, Nat.reduceLT, Nat.reduceAdd, Nat.reduceLeDiff, Nat.reduceSub, Nat.reduceEqDiff, Int.reduceToNat, reduceCtorEq, ↓reduceIte]; done)
end Go.Proofs.Ytmcdlohjjbmimaa
