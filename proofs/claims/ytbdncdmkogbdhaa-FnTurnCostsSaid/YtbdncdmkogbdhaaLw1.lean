/- The code computes the functions that were taken out of it. -/
import Derived.Test.YtbdncdmkogbdhaaLaD
set_option maxRecDepth 100000
set_option maxHeartbeats 4000000
set_option linter.unusedSimpArgs false
set_option linter.unusedVariables false
namespace Go.Proofs.Ytbdncdmkogbdhaa
open Go Go.Av
attribute [local irreducible] wpA OpK awp
attribute [local go_sem] frs_nil frs_cons pw8_32 pw16_32 pw24_32 pw27_32 eqAgg eqAggV buildQ placesOf buildCells List.toList_toArray vcQg gfind gfree gput un3_agg unI_int unB_bool unK_int guardU skipV resVs resV vcD_nil vcD_cons vcT_fin vcT_free vcT_one vcT_two opS vcD1 roH roOb ftNone ftAdd oneOrTup AV.detup AV.ren AV.ren2 AV.ren1 pos selH AObj.ren fitAll fit fit1 fit1s matchAll matchOb exIds AObj.excl Env.killp pastH setAll upId AObj.past AObj.back AV.killp AV.killp1 AV.killp2 Nat.sub_self Nat.lt_irrefl Bool.or_self vcOps vcOp vcQs vcQ dstOk quiet eff pcall calleeF plain valsOf ev ofConst argEnv List.lookup Nat.add_eq decide_true decide_false Env.put binV quoC isTwo_2 isTwo_1 isTwo_3 isTwo_4 isTwo_5 isTwo_6 isTwo_7 isTwo_8 isTwo_9 isTwo_10 isTwo_11 isTwo_12 isTwo_13 isTwo_14 isTwo_15 isTwo_16 isTwo_17 isTwo_20 isTwo_24 isTwo_32 isTwo_60 isTwo_64 isTwo_100 isTwo_128 isTwo_256 isTwo_1000 wrapTo unV convV loadQ indexQ callQ builtinQ rd rdI globC AObj.globC partAV isAggD isArrayD addrAdd boxE storeE storeXE storeCE storeGE storeFE storeAE storeHE allocAE buildME appendME plainVs isIfaceD ifaceQ assertQ List.all_cons aggQ arrD arrL arrL_map arrV makeE makeXE makeNE makeGE buildXE buildNE buildGE nestZero Cont.child Cont.setChild buildSliceE buildFold appendE appendXE appendNE appendGE Cont.setG nestApp appendV promoteH sliceE boundAV subObj asCells Value.oneCell' contZero Cont.sets Cont.app Cont.sub Cont.len Cont.esz Cont.cell Cont.cells Cont.flat AV.det AV.det1 guardV AObj.unview AObj.kill Env.kill AV.kill AV.kill1 AV.kill2 fits64 Option.getD_some Option.getD_none Option.map_some Option.map_none Option.bind_some List.map_cons List.map_nil List.getElem?_cons_zero List.getElem?_cons_succ List.getElem?_nil true_and and_true and_false false_and List.getElem?_toArray List.cons_append List.nil_append List.length_cons List.length_nil List.set_cons_zero List.set_cons_succ List.take_succ_cons List.take_zero List.drop_succ_cons List.drop_zero List.drop_nil List.take_nil List.contains_cons List.contains_nil List.elem_cons List.elem_nil Bool.not_true Bool.not_false Bool.false_eq_true Bool.or_false Bool.or_true Bool.and_true Bool.and_false Bool.true_and Bool.false_and List.all_cons List.all_nil List.size_toArray Nat.lt_add_one Nat.zero_lt_succ Nat.one_ne_zero Nat.zero_ne_one and_self List.replicate_succ List.replicate_zero Int.toNat_natCast Int.toNat_zero Value.cells false_implies true_implies forall_const Thn InBlk Nat.zero_add Nat.add_zero Int.zero_add Ele Env.ren Option.some.injEq AV.v.injEq AV.sl.injEq AV.pp.injEq AV.ep.injEq AV.agg.injEq List.cons.injEq Value.int.injEq Value.bool.injEq Value.string.injEq true_or or_true or_false false_or tsz0 tby0 tz0 Try.underlying0 tsz1 tby1 tz1 Try.underlying1 tsz2 tby2 tz2 Try.underlying2 tsz3 tby3 tz3 Try.underlying3 tsz4 tby4 tz4 Try.underlying4 tsz5 tby5 tz5 Try.underlying5 tsz6 tby6 tz6 Try.underlying6 tsz7 tby7 tz7 Try.underlying7 fo7_0 fo7_1 fo7_2 fo7_3 tsz8 tby8 tz8 Try.underlying8 fo8_0 fo8_1 fo8_2 fo8_3 tsz9 tby9 Try.underlying9 tsz10 tby10 Try.underlying10 tsz12 tby12 tz12 Try.underlying12 tsz16 tby16 tz16 Try.underlying16 tsz17 tby17 tz17 Try.underlying17 tsz20 tby20 tz20 Try.underlying20 tsz21 tby21 tz21 Try.underlying21 tsz22 tby22 tz22 Try.underlying22 tsz23 tby23 tz23 Try.underlying23 tsz24 tby24 tz24 Try.underlying24 fo24_0 fo24_1 tsz25 tby25 tz25 Try.underlying25 fo25_0 fo25_1 tsz26 tby26 tz26 Try.underlying26 tsz28 tby28 tz28 Try.underlying28 tsz32 tby32 tz32 Try.underlying32 tsz35 tby35 tz35 Try.underlying35 tsz40 tby40 tz40 Try.underlying40 tsz44 tby44 tz44 Try.underlying44 peq44 fo44_0 fo44_1 fo44_2 tsz45 tby45 tz45 Try.underlying45 peq45 fo45_0 fo45_1 fo45_2 tsz48 tby48 tz48 Try.underlying48 tsz52 tby52 tz52 Try.underlying52 fo52_0 fo52_1 tsz53 tby53 tz53 Try.underlying53 fo53_0 fo53_1 tsz55 tby55 tz55 Try.underlying55 tsz56 tby56 tz56 Try.underlying56 peq56 fo56_0 fo56_1 tsz57 tby57 tz57 Try.underlying57 peq57 fo57_0 fo57_1 tsz58 tby58 tz58 Try.underlying58 tsz59 tby59 tz59 Try.underlying59 tsz60 tby60 tz60 Try.underlying60 tsz61 tby61 tz61 Try.underlying61 tsz68 tby68 tz68 Try.underlying68 tsz72 tby72 tz72 Try.underlying72 tsz75 tby75 tz75 Try.underlying75 tsz76 tby76 tz76 Try.underlying76 tsz77 tby77 tz77 Try.underlying77 tsz79 tby79 tz79 Try.underlying79 tsz80 tby80 tz80 Try.underlying80 tsz83 tby83 tz83 Try.underlying83 tsz84 tby84 tz84 Try.underlying84 tsz88 tby88 tz88 Try.underlying88 tsz91 tby91 tz91 Try.underlying91 tsz93 tby93 tz93 Try.underlying93 tsz94 tby94 tz94 Try.underlying94 tsz95 tby95 tz95 Try.underlying95 tsz99 tby99 tz99 Try.underlying99 tsz101 tby101 tz101 Try.underlying101 tsz102 tby102 tz102 Try.underlying102 tsz107 tby107 tz107 Try.underlying107 tsz108 tby108 tz108 Try.underlying108 tsz109 tby109 tz109 Try.underlying109 tsz110 tby110 tz110 Try.underlying110 tsz111 tby111 tz111 Try.underlying111 tsz112 tby112 tz112 Try.underlying112 tsz113 tby113 tz113 Try.underlying113 tsz114 tby114 tz114 Try.underlying114 tsz115 tby115 tz115 Try.underlying115 tsz116 tby116 tz116 Try.underlying116 fo116_0 fo116_1 fo116_2 fo116_3 fo116_4 fo116_5 fo116_6 fo116_7 fo116_8 fo116_9 fo116_10 tsz117 tby117 tz117 Try.underlying117 fo117_0 fo117_1 fo117_2 fo117_3 fo117_4 fo117_5 fo117_6 fo117_7 fo117_8 fo117_9 fo117_10 tsz118 tby118 tz118 Try.underlying118 l1InG l4BeforeG isNaNG cmpIntG cmpEndsG ftC
theorem k_spec_l20Rd_pick (a0_0 : List Int) (a0_1 : Int) (a1 : Int) {r : Int × Int} (h : spec_l20Rd_pick a0_0 a0_1 a1 = some r) :
    FnA Try.prog 24 [.pp 0 0, .v (.int .i64 a1)] [.box [.sl 1, .v (.int .i64 a0_1)], .row false (.ints .u8 a0_0)] [] (fun x H => x = .v (.int .i64 r.1) ∧ H = [.box [.sl 1, .v (.int .i64 r.2)], .row false (.ints .u8 a0_0)]) := by
  unfold spec_l20Rd_pick at h
  refine FnA.of (N := 99) (pin := [0, 1]) (rs := [.tmp 4]) Try.func24 rfl en24 rfl rfl (by simp) (by simp; try omega) ?_
  refine awp_reg ftCOk [(0, .pp 0 0), (1, .v (.int .i64 a1))] [.box [.sl 1, .v (.int .i64 a0_1)], .row false (.ints .u8 a0_0)] ?_
  replace h := chk_some h
  obtain ⟨hp0, h⟩ := h
  refine awp_reg ftCOk [(0, .pp 0 0), (1, .v (.int .i64 a1))] [.box [.sl 1, .v (.int .i64 (a0_1 + 1))], .row false (.ints .u8 a0_0)] ?_
  clear hp0
  refine awp_seq fun K2 hK2 => ?_
  refine awp_reg ftCOk [(0, .pp 0 0), (1, .v (.int .i64 a1)), (24, .v (.bool ((decide (a1 < 1)) || ((a0_0.length : Int) == 0))))] [.box [.sl 1, .v (.int .i64 (a0_1 + 1))], .row false (.ints .u8 a0_0)] ?_
  refine awp_cond (t := 24) rfl (fun hc3 => ?_) (fun hc3 => ?_)
  · replace h := bite_t h hc3
    refine awp_reg ftCOk [(4, .v (.int .i64 0))] [.box [.sl 1, .v (.int .i64 (a0_1 + 1))], .row false (.ints .u8 a0_0)] ?_
    refine awp_ret ?_
    (try simp only [Thn, InBlk, ↓reduceIte, Nat.reduceEqDiff])
    obtain rfl := Option.some.inj h
    refine ⟨by simp, _, [0, 1], (by simp only [go_sem, Nat.reduceBEq, Nat.reduceLT, Nat.reduceAdd, Nat.reduceLeDiff, Nat.reduceSub, Nat.reduceEqDiff, Int.reduceToNat, reduceCtorEq, ↓reduceIte]; exact rfl), ?_, ?_, ?_, ?_⟩
    · first | exact trivial | exact ⟨trivial, trivial⟩ | exact ⟨trivial, trivial, trivial⟩ | exact ⟨trivial, trivial, trivial, trivial⟩ | (simp only [allP, and_true, true_and]; done) | (simp only [allP, and_true, true_and]; omega)
    · simp [selOk, pos]
    · simp
    · first | exact ⟨rfl, rfl⟩ | (simp only [go_sem, Nat.reduceBEq, Nat.reduceLT, Nat.reduceAdd, Nat.reduceLeDiff, Nat.reduceSub, Nat.reduceEqDiff, Int.reduceToNat, reduceCtorEq, ↓reduceIte]; done) | (simp [go_sem, Nat.reduceBEq, Nat.reduceLT, Nat.reduceAdd, Nat.reduceLeDiff, Nat.reduceSub, Nat.reduceEqDiff, Int.reduceToNat, reduceCtorEq, ↓reduceIte]; done) | (simp only [go_sem, Nat.reduceBEq, Nat.reduceLT, Nat.reduceAdd, Nat.reduceLeDiff, Nat.reduceSub, Nat.reduceEqDiff, Int.reduceToNat, reduceCtorEq, ↓reduceIte]; exact ⟨rfl, rfl⟩) | (simp_all [go_sem, Nat.reduceBEq, Nat.reduceLT, Nat.reduceAdd, Nat.reduceLeDiff, Nat.reduceSub, Nat.reduceEqDiff, Int.reduceToNat, reduceCtorEq, ↓reduceIte]; done)
  · replace h := bite_f h hc3
    refine awp_skip ?_
    (try simp only [Thn, InBlk, ↓reduceIte, Nat.reduceEqDiff])
    refine hK2 _ _ ?_
    clear hK2
    replace h := chk_some h
    obtain ⟨hp0, h⟩ := h
    have hwhp0 := wrap_fits hp0.1 hp0.2
    refine awp_reg ftCOk [(0, .pp 0 0), (1, .v (.int .i64 a1)), (5, .v (.int .i64 ((a0_1 + 1) - 1)))] [.box [.sl 1, .v (.int .i64 (a0_1 + 1))], .row false (.ints .u8 a0_0)] ?_
    clear hp0
    refine awp_seq fun K5 hK5 => ?_
    refine awp_reg ftCOk [(0, .pp 0 0), (1, .v (.int .i64 a1)), (5, .v (.int .i64 ((a0_1 + 1) - 1))), (36, .v (.bool (decide (((a0_1 + 1) - 1) < (a0_0.length : Int)))))] [.box [.sl 1, .v (.int .i64 (a0_1 + 1))], .row false (.ints .u8 a0_0)] ?_
    refine awp_cond (t := 36) rfl (fun hc6 => ?_) (fun hc6 => ?_)
    · replace h := bite_t h hc6
      replace h := chk_some h
      obtain ⟨hp0, h⟩ := h
      replace h := chk_some h
      obtain ⟨hp1, h⟩ := h
      replace h := chk_some h
      obtain ⟨hp2, h⟩ := h
      refine awp_reg ftCOk [(4, .v (.int .i64 ((a0_0.getD (((a0_1 + 1) - 1).toNat) 0) % a1)))] [.box [.sl 1, .v (.int .i64 (a0_1 + 1))], .row false (.ints .u8 a0_0)] ?_
      clear hp0 hp1 hp2
      refine awp_ret ?_
      (try simp only [Thn, InBlk, ↓reduceIte, Nat.reduceEqDiff])
      obtain rfl := Option.some.inj h
      refine ⟨by simp, _, [0, 1], (by simp only [go_sem, Nat.reduceBEq, Nat.reduceLT, Nat.reduceAdd, Nat.reduceLeDiff, Nat.reduceSub, Nat.reduceEqDiff, Int.reduceToNat, reduceCtorEq, ↓reduceIte]; exact rfl), ?_, ?_, ?_, ?_⟩
      · first | exact trivial | exact ⟨trivial, trivial⟩ | exact ⟨trivial, trivial, trivial⟩ | exact ⟨trivial, trivial, trivial, trivial⟩ | (simp only [allP, and_true, true_and]; done) | (simp only [allP, and_true, true_and]; omega)
      · simp [selOk, pos]
      · simp
      · first | exact ⟨rfl, rfl⟩ | (simp only [go_sem, Nat.reduceBEq, Nat.reduceLT, Nat.reduceAdd, Nat.reduceLeDiff, Nat.reduceSub, Nat.reduceEqDiff, Int.reduceToNat, reduceCtorEq, ↓reduceIte]; done) | (simp [go_sem, Nat.reduceBEq, Nat.reduceLT, Nat.reduceAdd, Nat.reduceLeDiff, Nat.reduceSub, Nat.reduceEqDiff, Int.reduceToNat, reduceCtorEq, ↓reduceIte]; done) | (simp only [go_sem, Nat.reduceBEq, Nat.reduceLT, Nat.reduceAdd, Nat.reduceLeDiff, Nat.reduceSub, Nat.reduceEqDiff, Int.reduceToNat, reduceCtorEq, ↓reduceIte]; exact ⟨rfl, rfl⟩) | (simp_all [go_sem, Nat.reduceBEq, Nat.reduceLT, Nat.reduceAdd, Nat.reduceLeDiff, Nat.reduceSub, Nat.reduceEqDiff, Int.reduceToNat, reduceCtorEq, ↓reduceIte]; done)
    · replace h := bite_f h hc6
      refine awp_skip ?_
      (try simp only [Thn, InBlk, ↓reduceIte, Nat.reduceEqDiff])
      refine hK5 _ _ ?_
      clear hK5
      replace h := chk_some h
      obtain ⟨hp0, h⟩ := h
      replace h := chk_some h
      obtain ⟨hp1, h⟩ := h
      replace h := chk_some h
      obtain ⟨hp2, h⟩ := h
      replace h := chk_some h
      obtain ⟨hp3, h⟩ := h
      replace h := chk_some h
      obtain ⟨hp4, h⟩ := h
      replace h := chk_some h
      obtain ⟨hp5, h⟩ := h
      replace h := chk_some h
      obtain ⟨hp6, h⟩ := h
      replace h := chk_some h
      obtain ⟨hp7, h⟩ := h
      replace h := chk_some h
      obtain ⟨hp8, h⟩ := h
      replace h := chk_some h
      obtain ⟨hp9, h⟩ := h
      replace h := chk_some h
      obtain ⟨hp10, h⟩ := h
      replace h := chk_some h
      obtain ⟨hp11, h⟩ := h
      replace h := chk_some h
      obtain ⟨hp12, h⟩ := h
      replace h := chk_some h
      obtain ⟨hp13, h⟩ := h
      replace h := chk_some h
      obtain ⟨hp14, h⟩ := h
      replace h := chk_some h
      obtain ⟨hp15, h⟩ := h
      refine awp_regQ mixed ftCOk [(1, .v (.int .i64 a1)), (6, .v (.int .i64 (((((a0_0.getD ((((a0_1 + 1) - 1) % (a0_0.length : Int)).toNat) 0) * 131) + ((a0_0.getD ((((((a0_1 + 1) - 1) * 7) + 3) % (a0_0.length : Int)).toNat) 0) * 1117)) + (((a0_1 + 1) - 1) * 29)) + ((((a0_1 + 1) - 1) / (a0_0.length : Int)) * 53))))] [.box [.sl 1, .v (.int .i64 (a0_1 + 1))], .row false (.ints .u8 a0_0)] ?_
      clear hp0 hp1 hp2 hp3 hp4 hp5 hp6 hp7 hp8 hp9 hp10 hp11 hp12 hp13 hp14 hp15
      replace h := chk_some h
      obtain ⟨hp0, h⟩ := h
      refine awp_reg ftCOk [(1, .v (.int .i64 a1)), (6, .v (.int .i64 (bitsV .xor .i64 (((((a0_0.getD ((((a0_1 + 1) - 1) % (a0_0.length : Int)).toNat) 0) * 131) + ((a0_0.getD ((((((a0_1 + 1) - 1) * 7) + 3) % (a0_0.length : Int)).toNat) 0) * 1117)) + (((a0_1 + 1) - 1) * 29)) + ((((a0_1 + 1) - 1) / (a0_0.length : Int)) * 53)) ((((((a0_0.getD ((((a0_1 + 1) - 1) % (a0_0.length : Int)).toNat) 0) * 131) + ((a0_0.getD ((((((a0_1 + 1) - 1) * 7) + 3) % (a0_0.length : Int)).toNat) 0) * 1117)) + (((a0_1 + 1) - 1) * 29)) + ((((a0_1 + 1) - 1) / (a0_0.length : Int)) * 53)) / 64))))] [.box [.sl 1, .v (.int .i64 (a0_1 + 1))], .row false (.ints .u8 a0_0)] ?_
      clear hp0
      replace h := chk_some h
      obtain ⟨hp0, h⟩ := h
      refine awp_reg ftCOk [(4, .v (.int .i64 ((bitsV .xor .i64 (((((a0_0.getD ((((a0_1 + 1) - 1) % (a0_0.length : Int)).toNat) 0) * 131) + ((a0_0.getD ((((((a0_1 + 1) - 1) * 7) + 3) % (a0_0.length : Int)).toNat) 0) * 1117)) + (((a0_1 + 1) - 1) * 29)) + ((((a0_1 + 1) - 1) / (a0_0.length : Int)) * 53)) ((((((a0_0.getD ((((a0_1 + 1) - 1) % (a0_0.length : Int)).toNat) 0) * 131) + ((a0_0.getD ((((((a0_1 + 1) - 1) * 7) + 3) % (a0_0.length : Int)).toNat) 0) * 1117)) + (((a0_1 + 1) - 1) * 29)) + ((((a0_1 + 1) - 1) / (a0_0.length : Int)) * 53)) / 64)) % a1)))] [.box [.sl 1, .v (.int .i64 (a0_1 + 1))], .row false (.ints .u8 a0_0)] ?_
      clear hp0
      refine awp_ret ?_
      (try simp only [Thn, InBlk, ↓reduceIte, Nat.reduceEqDiff])
      obtain rfl := Option.some.inj h
      refine ⟨by simp, _, [0, 1], (by simp only [go_sem, Nat.reduceBEq, Nat.reduceLT, Nat.reduceAdd, Nat.reduceLeDiff, Nat.reduceSub, Nat.reduceEqDiff, Int.reduceToNat, reduceCtorEq, ↓reduceIte]; exact rfl), ?_, ?_, ?_, ?_⟩
      · first | exact trivial | exact ⟨trivial, trivial⟩ | exact ⟨trivial, trivial, trivial⟩ | exact ⟨trivial, trivial, trivial, trivial⟩ | (simp only [allP, and_true, true_and]; done) | (simp only [allP, and_true, true_and]; omega)
      · simp [selOk, pos]
      · simp
      · first | exact ⟨rfl, rfl⟩ | (simp only [go_sem, Nat.reduceBEq, Nat.reduceLT, Nat.reduceAdd, Nat.reduceLeDiff, Nat.reduceSub, Nat.reduceEqDiff, Int.reduceToNat, reduceCtorEq, ↓reduceIte]; done) | (simp [go_sem, Nat.reduceBEq, Nat.reduceLT, Nat.reduceAdd, Nat.reduceLeDiff, Nat.reduceSub, Nat.reduceEqDiff, Int.reduceToNat, reduceCtorEq, ↓reduceIte]; done) | (simp only [go_sem, Nat.reduceBEq, Nat.reduceLT, Nat.reduceAdd, Nat.reduceLeDiff, Nat.reduceSub, Nat.reduceEqDiff, Int.reduceToNat, reduceCtorEq, ↓reduceIte]; exact ⟨rfl, rfl⟩) | (simp_all [go_sem, Nat.reduceBEq, Nat.reduceLT, Nat.reduceAdd, Nat.reduceLeDiff, Nat.reduceSub, Nat.reduceEqDiff, Int.reduceToNat, reduceCtorEq, ↓reduceIte]; done)
theorem k_spec_l20Edge (a0_0 : List Int) (a0_1 : Int) (a1 : Int) {r : Int × Int × Int × Int} (h : spec_l20Edge a0_0 a0_1 a1 = some r) :
    FnA Try.prog 37 [.pp 0 0, .v (.int .i64 a1)] [.box [.sl 1, .v (.int .i64 a0_1)], .row false (.ints .u8 a0_0)] [] (fun x H => x = .agg [.v (.int .i64 r.1), .v (.int .i64 r.2.1), .v (.int .i64 r.2.2.1)] ∧ H = [.box [.sl 1, .v (.int .i64 r.2.2.2)], .row false (.ints .u8 a0_0)]) := by
  unfold spec_l20Edge at h
  refine FnA.of (N := 21) (pin := [0, 1]) (rs := [.cell 4 45]) Try.func37 rfl en37 rfl rfl (by simp) (by simp; try omega) ?_
  refine awp_reg ftCOk [(0, .pp 0 0), (1, .v (.int .i64 a1)), (4, .pp 2 0)] [.box [.sl 1, .v (.int .i64 a0_1)], .row false (.ints .u8 a0_0), .box [.v (.int .i64 0), .v (.int .i64 0), .v (.int .i64 0)]] ?_
  replace h := bind_some h
  obtain ⟨⟨y, y_1⟩, hr0, h⟩ := h
  try dsimp only at h
  replace h := bind_some h
  obtain ⟨⟨y_2, y_3⟩, hr1, h⟩ := h
  try dsimp only at h
  replace h := bind_some h
  obtain ⟨⟨y_4, y_5⟩, hr2, h⟩ := h
  try dsimp only at h
  replace h := bind_some h
  obtain ⟨⟨y_6, y_7⟩, hr3, h⟩ := h
  try dsimp only at h
  replace h := chk_some h
  obtain ⟨hp4, h⟩ := h
  refine awp_to [(4, .pp 2 0)] [.box [.sl 1, .v (.int .i64 y_7)], .row false (.ints .u8 a0_0), .box [.v (.int .i64 y), .v (.int .i64 y_2), .v (.int .i64 (([y_4, 0, 1, 20] : List Int).getD y_6.toNat 0))], .row true (.ints .i64 [y_4, 0, 1, 20])] ?_ ?_
  · clear h
    intro K hK
    refine awp_region ftCOk ?_
    simp (maxSteps := 4000000) only [go_sem, Nat.reduceBEq, Nat.reduceLT, Nat.reduceAdd, Nat.reduceLeDiff, Nat.reduceSub, Nat.reduceEqDiff, Int.reduceToNat, reduceCtorEq, ↓reduceIte]
    repeat' (first | refine And.intro ?_ ?_ | intro hg)
    all_goals (try simp (disch := omega) only [wrap_fits])
    all_goals first
      | (refine hK _ _ ?_; exact Red.auto)
      | exact trivial
      | assumption
      | omega
      | exact wrap_fits (by omega) (by omega)
      | (refine wpA_callA (k_spec_l20Rd_pick a0_0 a0_1 (max 1 a1) (h := hr0)) [0, 1] [] ?_
         rintro x Hc' ⟨rfl, rfl⟩ hlen
         refine vcOps_sound ftCOk ?_
         simp (maxSteps := 4000000) only [go_sem, Nat.reduceBEq, Nat.reduceLT, Nat.reduceAdd, Nat.reduceLeDiff, Nat.reduceSub, Nat.reduceEqDiff, Int.reduceToNat, reduceCtorEq, ↓reduceIte]
         repeat' (first | refine And.intro ?_ ?_ | intro hg)
         all_goals (try simp (disch := omega) only [wrap_fits])
         all_goals first
           | (refine hK _ _ ?_; exact Red.auto)
           | exact trivial
           | assumption
           | omega
           | exact wrap_fits (by omega) (by omega)
           | (refine wpA_callA (k_spec_l20Rd_pick a0_0 y_1 (max 1 a1) (h := hr1)) [0, 1] [] ?_
              rintro x Hc' ⟨rfl, rfl⟩ hlen
              refine vcOps_sound ftCOk ?_
              simp (maxSteps := 4000000) only [go_sem, Nat.reduceBEq, Nat.reduceLT, Nat.reduceAdd, Nat.reduceLeDiff, Nat.reduceSub, Nat.reduceEqDiff, Int.reduceToNat, reduceCtorEq, ↓reduceIte]
              repeat' (first | refine And.intro ?_ ?_ | intro hg)
              all_goals (try simp (disch := omega) only [wrap_fits])
              all_goals first
                | (refine hK _ _ ?_; exact Red.auto)
                | exact trivial
                | assumption
                | omega
                | exact wrap_fits (by omega) (by omega)
                | (refine wpA_callA (k_spec_l20Rd_pick a0_0 y_3 6 (h := hr2)) [0, 1] [] ?_
                   rintro x Hc' ⟨rfl, rfl⟩ hlen
                   refine vcOps_sound ftCOk ?_
                   simp (maxSteps := 4000000) only [go_sem, Nat.reduceBEq, Nat.reduceLT, Nat.reduceAdd, Nat.reduceLeDiff, Nat.reduceSub, Nat.reduceEqDiff, Int.reduceToNat, reduceCtorEq, ↓reduceIte]
                   repeat' (first | refine And.intro ?_ ?_ | intro hg)
                   all_goals (try simp (disch := omega) only [wrap_fits])
                   all_goals first
                     | (refine hK _ _ ?_; exact Red.auto)
                     | exact trivial
                     | assumption
                     | omega
                     | exact wrap_fits (by omega) (by omega)
                     | (refine wpA_callA (k_spec_l20Rd_pick a0_0 y_5 4 (h := hr3)) [0, 1] [] ?_
                        rintro x Hc' ⟨rfl, rfl⟩ hlen
                        refine vcOps_sound ftCOk ?_
                        simp (maxSteps := 4000000) only [go_sem, Nat.reduceBEq, Nat.reduceLT, Nat.reduceAdd, Nat.reduceLeDiff, Nat.reduceSub, Nat.reduceEqDiff, Int.reduceToNat, reduceCtorEq, ↓reduceIte]
                        repeat' (first | refine And.intro ?_ ?_ | intro hg)
                        all_goals (try simp (disch := omega) only [wrap_fits])
                        all_goals first
                          | (refine hK _ _ ?_; exact Red.auto)
                          | exact trivial
                          | assumption
                          | omega
                          | exact wrap_fits (by omega) (by omega)
                          | (simp_all; done)
                          | (simp_all; omega))
                     | (simp_all; done)
                     | (simp_all; omega))
                | (simp_all; done)
                | (simp_all; omega))
           | (simp_all; done)
           | (simp_all; omega))
      | (simp_all; done)
      | (simp_all; omega)
  · clear hr0 hr1 hr2 hr3 hp4
    refine awp_ret ?_
    (try simp only [Thn, InBlk, ↓reduceIte, Nat.reduceEqDiff])
    obtain rfl := Option.some.inj h
    refine ⟨by simp, _, [0, 1], (by simp only [go_sem, Nat.reduceBEq, Nat.reduceLT, Nat.reduceAdd, Nat.reduceLeDiff, Nat.reduceSub, Nat.reduceEqDiff, Int.reduceToNat, reduceCtorEq, ↓reduceIte]; exact rfl), ?_, ?_, ?_, ?_⟩
    · first | exact trivial | exact ⟨trivial, trivial⟩ | exact ⟨trivial, trivial, trivial⟩ | exact ⟨trivial, trivial, trivial, trivial⟩ | (simp only [allP, and_true, true_and]; done) | (simp only [allP, and_true, true_and]; omega)
    · simp [selOk, pos]
    · simp
    · first | exact ⟨rfl, rfl⟩ | (simp only [go_sem, Nat.reduceBEq, Nat.reduceLT, Nat.reduceAdd, Nat.reduceLeDiff, Nat.reduceSub, Nat.reduceEqDiff, Int.reduceToNat, reduceCtorEq, ↓reduceIte]; done) | (simp [go_sem, Nat.reduceBEq, Nat.reduceLT, Nat.reduceAdd, Nat.reduceLeDiff, Nat.reduceSub, Nat.reduceEqDiff, Int.reduceToNat, reduceCtorEq, ↓reduceIte]; done) | (simp only [go_sem, Nat.reduceBEq, Nat.reduceLT, Nat.reduceAdd, Nat.reduceLeDiff, Nat.reduceSub, Nat.reduceEqDiff, Int.reduceToNat, reduceCtorEq, ↓reduceIte]; exact ⟨rfl, rfl⟩) | (simp_all [go_sem, Nat.reduceBEq, Nat.reduceLT, Nat.reduceAdd, Nat.reduceLeDiff, Nat.reduceSub, Nat.reduceEqDiff, Int.reduceToNat, reduceCtorEq, ↓reduceIte]; done)
theorem k_spec_l1OwnGraph (a0_0 : Int) (a0_1 : List (Int × Int × Int)) {r : Int × (List (Int × Int × Int))} (h : spec_l1OwnGraph a0_0 a0_1 = some r) :
    FnA Try.prog 52 [.agg [.v (.int .i64 a0_0), .sl 0]] [.row false (.trips a0_1)] [] (fun x H => x = .agg [.v (.int .i64 r.1), .sl 1] ∧ H = [.row false (.trips a0_1), .row true (.trips r.2)]) := by
  unfold spec_l1OwnGraph at h
  refine FnA.of (N := 11) (pin := [0]) (rs := [.cell 2 25]) Try.func52 rfl en52 rfl rfl (by simp) (by simp; try omega) ?_
  refine awp_reg ftCOk [(1, .pp 1 0), (2, .pp 2 0)] [.row false (.trips a0_1), .box [.v (.int .i64 a0_0), .sl 0], .box [.v (.int .i64 0), .v (.slice none 0 0)]] ?_
  refine awp_freeze 1 (by rfl) (by rfl) (by exact rfl) ?_
  refine awp_reg ftCOk [(1, .pp 1 0), (2, .pp 2 0), (3, .pp 3 0)] [.row false (.trips a0_1), .rbox [.v (.int .i64 a0_0), .sl 0], .box [.v (.int .i64 0), .v (.slice none 0 0)], .box [.v (.int .i64 a0_0), .sl 0]] ?_
  replace h := chk_some h
  obtain ⟨hp0, h⟩ := h
  refine awp_reg ftCOk [(2, .pp 2 0), (3, .pp 3 0)] [.row false (.trips a0_1), .rbox [.v (.int .i64 a0_0), .sl 0], .box [.v (.int .i64 0), .v (.slice none 0 0)], .box [.v (.int .i64 a0_0), .sl 4], .row true (.trips ([] ++ a0_1))] ?_
  clear hp0
  refine awp_reg ftCOk [(2, .pp 2 0)] [.row false (.trips a0_1), .rbox [.v (.int .i64 a0_0), .sl 0], .box [.v (.int .i64 a0_0), .sl 4], .box [.v (.int .i64 a0_0), .sl 4], .row true (.trips ([] ++ a0_1))] ?_
  refine awp_ret ?_
  (try simp only [Thn, InBlk, ↓reduceIte, Nat.reduceEqDiff])
  obtain rfl := Option.some.inj h
  refine ⟨by simp, _, [0, 4], (by simp only [go_sem, Nat.reduceBEq, Nat.reduceLT, Nat.reduceAdd, Nat.reduceLeDiff, Nat.reduceSub, Nat.reduceEqDiff, Int.reduceToNat, reduceCtorEq, ↓reduceIte]; exact rfl), ?_, ?_, ?_, ?_⟩
  · first | exact trivial | exact ⟨trivial, trivial⟩ | exact ⟨trivial, trivial, trivial⟩ | exact ⟨trivial, trivial, trivial, trivial⟩ | (simp only [allP, and_true, true_and]; done) | (simp only [allP, and_true, true_and]; omega)
  · simp [selOk, pos]
  · simp
  · first | exact ⟨rfl, rfl⟩ | (simp only [go_sem, Nat.reduceBEq, Nat.reduceLT, Nat.reduceAdd, Nat.reduceLeDiff, Nat.reduceSub, Nat.reduceEqDiff, Int.reduceToNat, reduceCtorEq, ↓reduceIte]; done) | (simp [go_sem, Nat.reduceBEq, Nat.reduceLT, Nat.reduceAdd, Nat.reduceLeDiff, Nat.reduceSub, Nat.reduceEqDiff, Int.reduceToNat, reduceCtorEq, ↓reduceIte]; done) | (simp only [go_sem, Nat.reduceBEq, Nat.reduceLT, Nat.reduceAdd, Nat.reduceLeDiff, Nat.reduceSub, Nat.reduceEqDiff, Int.reduceToNat, reduceCtorEq, ↓reduceIte]; exact ⟨rfl, rfl⟩) | (simp_all [go_sem, Nat.reduceBEq, Nat.reduceLT, Nat.reduceAdd, Nat.reduceLeDiff, Nat.reduceSub, Nat.reduceEqDiff, Int.reduceToNat, reduceCtorEq, ↓reduceIte]; done)
theorem k_spec_GraphValid (a0_0 : Int) (a0_1 : List (Int × Int × Int)) {r : Bool} (h : spec_GraphValid a0_0 a0_1 = some r) :
    FnA Try.prog 16 [.agg [.v (.int .i64 a0_0), .sl 0]] [.row false (.trips a0_1)] [] (fun x H => x = .v (.bool r) ∧ H = [.row false (.trips a0_1)]) := by
  unfold spec_GraphValid at h
  refine FnA.of (N := 70) (pin := [0]) (rs := [.tmp 2]) Try.func16 rfl en16 rfl rfl (by simp) (by simp; try omega) ?_
  refine awp_reg ftCOk [(1, .pp 1 0)] [.row false (.trips a0_1), .box [.v (.int .i64 a0_0), .sl 0]] ?_
  refine awp_freeze 1 (by rfl) (by rfl) (by exact rfl) ?_
  refine awp_seq fun K20 hK20 => ?_
  refine awp_reg ftCOk [(1, .pp 1 0), (3, .v (.int .i64 0))] [.row false (.trips a0_1), .rbox [.v (.int .i64 a0_0), .sl 0]] ?_
  refine awp_block ?_
  replace h := bind_some h
  obtain ⟨x39, hx, h⟩ := h
  refine awp_loopL hx (fun (t3 : Int) => [(1, .pp 1 0), (3, .v (.int .i64 t3))]) (fun (t3 : Int) => [.row false (.trips a0_1), .rbox [.v (.int .i64 a0_0), .sl 0]]) (Sum.elim (fun (_ : Unit) => Exit.exit 0) (fun (_ : Unit) => Exit.ret)) (Sum.elim (fun (_ : Unit) => [(1, .pp 1 0)]) (fun (_ : Unit) => [(2, .v (.bool false))])) (Sum.elim (fun (_ : Unit) => [.row false (.trips a0_1), .rbox [.v (.int .i64 a0_0), .sl 0]]) (fun (_ : Unit) => [.row false (.trips a0_1)])) ?_ ?_ ?_ ?_
  · rintro (⟨⟩ | ⟨⟩) hy <;> cases hy
  · clear h hx
    exact Red.auto
  · clear h hx
    rintro t3 r h
    unfold spec_GraphValid_b0 at h
    try dsimp only at h
    try dsimp only
    refine awp_seq fun K34 hK34 => ?_
    refine awp_reg ftCOk [(1, .pp 1 0), (3, .v (.int .i64 t3)), (9, .v (.bool (decide (t3 < (a0_1.length : Int)))))] [.row false (.trips a0_1), .rbox [.v (.int .i64 a0_0), .sl 0]] ?_
    refine awp_cond (t := 9) rfl (fun hc35 => ?_) (fun hc35 => ?_)
    · replace h := bite_t h hc35
      refine awp_skip ?_
      (try simp only [Thn, InBlk, ↓reduceIte, Nat.reduceEqDiff])
      refine hK34 _ _ ?_
      clear hK34
      refine awp_seq fun K37 hK37 => ?_
      refine awp_block ?_
      replace h := chk_some h
      obtain ⟨hp0, h⟩ := h
      refine awp_reg ftCOk [(1, .pp 1 0), (3, .v (.int .i64 t3)), (4, .pp 2 0)] [.row false (.trips a0_1), .rbox [.v (.int .i64 a0_0), .sl 0], .box [.v (.int .i64 ((a0_1.getD t3.toNat (0, 0, 0)).1)), .v (.int .i64 ((a0_1.getD t3.toNat (0, 0, 0)).2.1)), .v (.int .i64 ((a0_1.getD t3.toNat (0, 0, 0)).2.2))]] ?_
      clear hp0
      replace h := chk_some h
      obtain ⟨hp0, h⟩ := h
      have hwhp0 := wrap_fits hp0.1 hp0.2
      replace h := chk_some h
      obtain ⟨hp1, h⟩ := h
      refine awp_to [(1, .pp 1 0), (3, .v (.int .i64 t3)), (60, .v (.bool (((((!(decide (0 ≤ (a0_1.getD t3.toNat (0, 0, 0)).1) && decide ((a0_1.getD t3.toNat (0, 0, 0)).1 ≤ (IntKind.i64.wrap (a0_0 - 1))))) || (!(decide (0 ≤ (a0_1.getD t3.toNat (0, 0, 0)).2.1) && decide ((a0_1.getD t3.toNat (0, 0, 0)).2.1 ≤ (IntKind.i64.wrap (a0_0 - 1)))))) || ((a0_1.getD t3.toNat (0, 0, 0)).1 == (a0_1.getD t3.toNat (0, 0, 0)).2.1)) || (!(decide (0 ≤ (a0_1.getD t3.toNat (0, 0, 0)).2.2) && decide ((a0_1.getD t3.toNat (0, 0, 0)).2.2 ≤ 20)))) || ((decide (0 < t3)) && (!(decide ((a0_1.getD ((t3 - 1).toNat) (0, 0, 0)).1 < (a0_1.getD t3.toNat (0, 0, 0)).1 ∨ (a0_1.getD ((t3 - 1).toNat) (0, 0, 0)).1 = (a0_1.getD t3.toNat (0, 0, 0)).1 ∧ (a0_1.getD ((t3 - 1).toNat) (0, 0, 0)).2.1 < (a0_1.getD t3.toNat (0, 0, 0)).2.1)))))))] [.row false (.trips a0_1), .rbox [.v (.int .i64 a0_0), .sl 0], .box [.v (.int .i64 ((a0_1.getD t3.toNat (0, 0, 0)).1)), .v (.int .i64 ((a0_1.getD t3.toNat (0, 0, 0)).2.1)), .v (.int .i64 ((a0_1.getD t3.toNat (0, 0, 0)).2.2))]] ?_ ?_
      · clear h
        intro K hK
        refine awp_quietg mixed ftCOk (by kernel_rfl) ?_
        simp (maxSteps := 4000000) only [go_sem, Nat.reduceBEq, Nat.reduceLT, Nat.reduceAdd, Nat.reduceLeDiff, Nat.reduceSub, Nat.reduceEqDiff, Int.reduceToNat, reduceCtorEq, ↓reduceIte]
        repeat' (first | refine And.intro ?_ ?_ | intro hg)
        all_goals (try simp (disch := omega) only [wrap_fits])
        all_goals first
          | (refine hK _ _ ?_; exact Red.auto)
          | exact trivial
          | assumption
          | omega
          | exact wrap_fits (by omega) (by omega)
          | (have hq := hp1 (by first | assumption | (simp only [*, Bool.false_or, Bool.true_or, Bool.or_false, Bool.or_true, Bool.false_and, Bool.true_and, Bool.and_false, Bool.and_true, Bool.not_true, Bool.not_false, beq_self_eq_true]; done) | (simp_all; done)) (by first | assumption | (simp only [*, Bool.false_or, Bool.true_or, Bool.or_false, Bool.or_true, Bool.false_and, Bool.true_and, Bool.and_false, Bool.and_true, Bool.not_true, Bool.not_false, beq_self_eq_true]; done) | (simp_all; done)); omega)
          | (simp_all; done)
          | (simp_all; omega)
      · clear hp0 hp1
        refine awp_cond (t := 60) rfl (fun hc38 => ?_) (fun hc38 => ?_)
        · replace h := bite_t h hc38
          refine awp_reg ftCOk [(2, .v (.bool false))] [.row false (.trips a0_1), .rbox [.v (.int .i64 a0_0), .sl 0], .box [.v (.int .i64 ((a0_1.getD t3.toNat (0, 0, 0)).1)), .v (.int .i64 ((a0_1.getD t3.toNat (0, 0, 0)).2.1)), .v (.int .i64 ((a0_1.getD t3.toNat (0, 0, 0)).2.2))]] ?_
          refine awp_ret ?_
          (try simp only [Thn, InBlk, ↓reduceIte, Nat.reduceEqDiff])
          obtain rfl := Option.some.inj h
          refine LoopQ.out rfl ?_
          exact Red.selA [0] Red.auto
        · replace h := bite_f h hc38
          refine awp_skip ?_
          (try simp only [Thn, InBlk, ↓reduceIte, Nat.reduceEqDiff])
          (try simp only [Thn, InBlk, ↓reduceIte, Nat.reduceEqDiff])
          refine hK37 _ _ ?_
          clear hK37
          replace h := chk_some h
          obtain ⟨hp0, h⟩ := h
          refine awp_regE ftCOk [(1, .pp 1 0), (3, .v (.int .i64 (t3 + 1)))] [.row false (.trips a0_1), .rbox [.v (.int .i64 a0_0), .sl 0], .box [.v (.int .i64 ((a0_1.getD t3.toNat (0, 0, 0)).1)), .v (.int .i64 ((a0_1.getD t3.toNat (0, 0, 0)).2.1)), .v (.int .i64 ((a0_1.getD t3.toNat (0, 0, 0)).2.2))]] ?_
          clear hp0
          obtain rfl := Option.some.inj h
          refine LoopQ.next ?_
          exact Red.selA [0, 1] Red.auto
    · replace h := bite_f h hc35
      refine awp_exit ?_
      (try simp only [Thn, InBlk, ↓reduceIte, Nat.reduceEqDiff])
      obtain rfl := Option.some.inj h
      refine LoopQ.out rfl ?_
      exact Red.auto
  · clear hx
    rcases x39 with (⟨⟩ | ⟨⟩)
    · try dsimp only [Sum.elim_inl, Sum.elim_inr] at h
      try dsimp only [Sum.elim_inl, Sum.elim_inr]
      (try simp only [Thn, InBlk, ↓reduceIte, Nat.reduceEqDiff])
      (try simp only [Thn, InBlk, ↓reduceIte, Nat.reduceEqDiff])
      (try simp only [Thn, InBlk, ↓reduceIte, Nat.reduceEqDiff])
      refine hK20 _ _ ?_
      clear hK20
      refine awp_reg ftCOk [(2, .v (.bool ((decide (0 ≤ a0_0) && decide (a0_0 ≤ 16)) && (decide ((a0_1.length : Int) ≤ 40)))))] [.row false (.trips a0_1), .rbox [.v (.int .i64 a0_0), .sl 0]] ?_
      refine awp_ret ?_
      (try simp only [Thn, InBlk, ↓reduceIte, Nat.reduceEqDiff])
      obtain rfl := Option.some.inj h
      refine ⟨by simp, _, [0], (by simp only [go_sem, Nat.reduceBEq, Nat.reduceLT, Nat.reduceAdd, Nat.reduceLeDiff, Nat.reduceSub, Nat.reduceEqDiff, Int.reduceToNat, reduceCtorEq, ↓reduceIte]; exact rfl), ?_, ?_, ?_, ?_⟩
      · first | exact trivial | exact ⟨trivial, trivial⟩ | exact ⟨trivial, trivial, trivial⟩ | exact ⟨trivial, trivial, trivial, trivial⟩ | (simp only [allP, and_true, true_and]; done) | (simp only [allP, and_true, true_and]; omega)
      · simp [selOk, pos]
      · simp
      · first | exact ⟨rfl, rfl⟩ | (simp only [go_sem, Nat.reduceBEq, Nat.reduceLT, Nat.reduceAdd, Nat.reduceLeDiff, Nat.reduceSub, Nat.reduceEqDiff, Int.reduceToNat, reduceCtorEq, ↓reduceIte]; done) | (simp [go_sem, Nat.reduceBEq, Nat.reduceLT, Nat.reduceAdd, Nat.reduceLeDiff, Nat.reduceSub, Nat.reduceEqDiff, Int.reduceToNat, reduceCtorEq, ↓reduceIte]; done) | (simp only [go_sem, Nat.reduceBEq, Nat.reduceLT, Nat.reduceAdd, Nat.reduceLeDiff, Nat.reduceSub, Nat.reduceEqDiff, Int.reduceToNat, reduceCtorEq, ↓reduceIte]; exact ⟨rfl, rfl⟩) | (simp_all [go_sem, Nat.reduceBEq, Nat.reduceLT, Nat.reduceAdd, Nat.reduceLeDiff, Nat.reduceSub, Nat.reduceEqDiff, Int.reduceToNat, reduceCtorEq, ↓reduceIte]; done)
    · try dsimp only [Sum.elim_inl, Sum.elim_inr] at h
      try dsimp only [Sum.elim_inl, Sum.elim_inr]
      (try simp only [Thn, InBlk, ↓reduceIte, Nat.reduceEqDiff])
      obtain rfl := Option.some.inj h
      refine ⟨by simp, _, [0], (by simp only [go_sem, Nat.reduceBEq, Nat.reduceLT, Nat.reduceAdd, Nat.reduceLeDiff, Nat.reduceSub, Nat.reduceEqDiff, Int.reduceToNat, reduceCtorEq, ↓reduceIte]; exact rfl), ?_, ?_, ?_, ?_⟩
      · first | exact trivial | exact ⟨trivial, trivial⟩ | exact ⟨trivial, trivial, trivial⟩ | exact ⟨trivial, trivial, trivial, trivial⟩ | (simp only [allP, and_true, true_and]; done) | (simp only [allP, and_true, true_and]; omega)
      · simp [selOk, pos]
      · simp
      · first | exact ⟨rfl, rfl⟩ | (simp only [go_sem, Nat.reduceBEq, Nat.reduceLT, Nat.reduceAdd, Nat.reduceLeDiff, Nat.reduceSub, Nat.reduceEqDiff, Int.reduceToNat, reduceCtorEq, ↓reduceIte]; done) | (simp [go_sem, Nat.reduceBEq, Nat.reduceLT, Nat.reduceAdd, Nat.reduceLeDiff, Nat.reduceSub, Nat.reduceEqDiff, Int.reduceToNat, reduceCtorEq, ↓reduceIte]; done) | (simp only [go_sem, Nat.reduceBEq, Nat.reduceLT, Nat.reduceAdd, Nat.reduceLeDiff, Nat.reduceSub, Nat.reduceEqDiff, Int.reduceToNat, reduceCtorEq, ↓reduceIte]; exact ⟨rfl, rfl⟩) | (simp_all [go_sem, Nat.reduceBEq, Nat.reduceLT, Nat.reduceAdd, Nat.reduceLeDiff, Nat.reduceSub, Nat.reduceEqDiff, Int.reduceToNat, reduceCtorEq, ↓reduceIte]; done)
theorem k_spec_AddEdge (a0_0 : Int) (a0_1 : List (Int × Int × Int)) (a1_0 : Int) (a1_1 : Int) (a1_2 : Int) {r : Int × (List (Int × Int × Int)) × Bool} (h : spec_AddEdge a0_0 a0_1 a1_0 a1_1 a1_2 = some r) :
    FnA Try.prog 36 [.agg [.v (.int .i64 a0_0), .sl 0], .agg [.v (.int .i64 a1_0), .v (.int .i64 a1_1), .v (.int .i64 a1_2)]] [.row false (.trips a0_1)] [] (fun x H => x = .tup [.agg [.v (.int .i64 r.1), .sl 1], .v (.bool r.2.2)] ∧ H = [.row false (.trips a0_1), .row true (.trips r.2.1)]) := by
  unfold spec_AddEdge at h
  refine FnA.of (N := 82) (pin := [0]) (rs := [.cell 4 25, .tmp 5]) Try.func36 rfl en36 rfl rfl (by simp) (by simp; try omega) ?_
  refine awp_reg ftCOk [(2, .pp 1 0), (3, .pp 2 0), (4, .pp 3 0)] [.row false (.trips a0_1), .box [.v (.int .i64 a0_0), .sl 0], .box [.v (.int .i64 a1_0), .v (.int .i64 a1_1), .v (.int .i64 a1_2)], .box [.v (.int .i64 0), .v (.slice none 0 0)]] ?_
  refine awp_freeze 3 (by rfl) (by rfl) (by exact rfl) ?_
  replace h := bind_some h
  obtain ⟨⟨y, y_1⟩, hr0, h⟩ := h
  try dsimp only at h
  refine awp_to [(2, .pp 1 0), (3, .pp 2 0), (4, .pp 3 0)] [.row false (.trips a0_1), .box [.v (.int .i64 y), .sl 4], .rbox [.v (.int .i64 a1_0), .v (.int .i64 a1_1), .v (.int .i64 a1_2)], .box [.v (.int .i64 0), .v (.slice none 0 0)], .row true (.trips y_1)] ?_ ?_
  · clear h
    intro K hK
    refine awp_region ftCOk ?_
    simp (maxSteps := 4000000) only [go_sem, Nat.reduceBEq, Nat.reduceLT, Nat.reduceAdd, Nat.reduceLeDiff, Nat.reduceSub, Nat.reduceEqDiff, Int.reduceToNat, reduceCtorEq, ↓reduceIte]
    repeat' (first | refine And.intro ?_ ?_ | intro hg)
    all_goals (try simp (disch := omega) only [wrap_fits])
    all_goals first
      | (refine hK _ _ ?_; exact Red.auto)
      | exact trivial
      | assumption
      | omega
      | exact wrap_fits (by omega) (by omega)
      | (refine wpA_callA (k_spec_l1OwnGraph a0_0 a0_1 (h := hr0)) [0] [] ?_
         rintro x Hc' ⟨rfl, rfl⟩ hlen
         refine vcOps_sound ftCOk ?_
         simp (maxSteps := 4000000) only [go_sem, Nat.reduceBEq, Nat.reduceLT, Nat.reduceAdd, Nat.reduceLeDiff, Nat.reduceSub, Nat.reduceEqDiff, Int.reduceToNat, reduceCtorEq, ↓reduceIte]
         repeat' (first | refine And.intro ?_ ?_ | intro hg)
         all_goals (try simp (disch := omega) only [wrap_fits])
         all_goals first
           | (refine hK _ _ ?_; exact Red.auto)
           | exact trivial
           | assumption
           | omega
           | exact wrap_fits (by omega) (by omega)
           | (simp_all; done)
           | (simp_all; omega))
      | (simp_all; done)
      | (simp_all; omega)
  · clear hr0
    refine awp_seq fun K2 hK2 => ?_
    replace h := bind_some h
    obtain ⟨y_2, hr0, h⟩ := h
    try dsimp only at h
    refine awp_to [(2, .pp 1 0), (3, .pp 2 0), (4, .pp 3 0), (14, .v (.bool (!y_2)))] [.row false (.trips a0_1), .box [.v (.int .i64 y), .sl 4], .rbox [.v (.int .i64 a1_0), .v (.int .i64 a1_1), .v (.int .i64 a1_2)], .box [.v (.int .i64 0), .v (.slice none 0 0)], .row true (.trips y_1)] ?_ ?_
    · clear h
      intro K hK
      refine awp_region ftCOk ?_
      simp (maxSteps := 4000000) only [go_sem, Nat.reduceBEq, Nat.reduceLT, Nat.reduceAdd, Nat.reduceLeDiff, Nat.reduceSub, Nat.reduceEqDiff, Int.reduceToNat, reduceCtorEq, ↓reduceIte]
      repeat' (first | refine And.intro ?_ ?_ | intro hg)
      all_goals (try simp (disch := omega) only [wrap_fits])
      all_goals first
        | (refine hK _ _ ?_; exact Red.auto)
        | exact trivial
        | assumption
        | omega
        | exact wrap_fits (by omega) (by omega)
        | (refine wpA_callA (k_spec_GraphValid y y_1 (h := hr0)) [4] [] ?_
           rintro x Hc' ⟨rfl, rfl⟩ hlen
           refine vcOps_sound ftCOk ?_
           simp (maxSteps := 4000000) only [go_sem, Nat.reduceBEq, Nat.reduceLT, Nat.reduceAdd, Nat.reduceLeDiff, Nat.reduceSub, Nat.reduceEqDiff, Int.reduceToNat, reduceCtorEq, ↓reduceIte]
           repeat' (first | refine And.intro ?_ ?_ | intro hg)
           all_goals (try simp (disch := omega) only [wrap_fits])
           all_goals first
             | (refine hK _ _ ?_; exact Red.auto)
             | exact trivial
             | assumption
             | omega
             | exact wrap_fits (by omega) (by omega)
             | (simp_all; done)
             | (simp_all; omega))
        | (simp_all; done)
        | (simp_all; omega)
    · clear hr0
      refine awp_cond (t := 14) rfl (fun hc3 => ?_) (fun hc3 => ?_)
      · replace h := bite_t h hc3
        refine awp_reg ftCOk [(4, .pp 3 0), (5, .v (.bool false))] [.row false (.trips a0_1), .box [.v (.int .i64 y), .sl 4], .rbox [.v (.int .i64 a1_0), .v (.int .i64 a1_1), .v (.int .i64 a1_2)], .box [.v (.int .i64 0), .v (.slice none 0 0)], .row true (.trips y_1)] ?_
        refine awp_red (Red.nilCell (o := 3) (i := 1) (.trips []) rfl rfl rfl) ?_
        refine awp_ret ?_
        (try simp only [Thn, InBlk, ↓reduceIte, Nat.reduceEqDiff])
        obtain rfl := Option.some.inj h
        refine ⟨by simp, _, [0, 5], (by simp only [go_sem, Nat.reduceBEq, Nat.reduceLT, Nat.reduceAdd, Nat.reduceLeDiff, Nat.reduceSub, Nat.reduceEqDiff, Int.reduceToNat, reduceCtorEq, ↓reduceIte]; exact rfl), ?_, ?_, ?_, ?_⟩
        · first | exact trivial | exact ⟨trivial, trivial⟩ | exact ⟨trivial, trivial, trivial⟩ | exact ⟨trivial, trivial, trivial, trivial⟩ | (simp only [allP, and_true, true_and]; done) | (simp only [allP, and_true, true_and]; omega)
        · simp [selOk, pos]
        · simp
        · first | exact ⟨rfl, rfl⟩ | (simp only [go_sem, Nat.reduceBEq, Nat.reduceLT, Nat.reduceAdd, Nat.reduceLeDiff, Nat.reduceSub, Nat.reduceEqDiff, Int.reduceToNat, reduceCtorEq, ↓reduceIte]; done) | (simp [go_sem, Nat.reduceBEq, Nat.reduceLT, Nat.reduceAdd, Nat.reduceLeDiff, Nat.reduceSub, Nat.reduceEqDiff, Int.reduceToNat, reduceCtorEq, ↓reduceIte]; done) | (simp only [go_sem, Nat.reduceBEq, Nat.reduceLT, Nat.reduceAdd, Nat.reduceLeDiff, Nat.reduceSub, Nat.reduceEqDiff, Int.reduceToNat, reduceCtorEq, ↓reduceIte]; exact ⟨rfl, rfl⟩) | (simp_all [go_sem, Nat.reduceBEq, Nat.reduceLT, Nat.reduceAdd, Nat.reduceLeDiff, Nat.reduceSub, Nat.reduceEqDiff, Int.reduceToNat, reduceCtorEq, ↓reduceIte]; done)
      · replace h := bite_f h hc3
        refine awp_skip ?_
        (try simp only [Thn, InBlk, ↓reduceIte, Nat.reduceEqDiff])
        refine hK2 _ _ ?_
        clear hK2
        refine awp_reg ftCOk [(2, .pp 1 0), (3, .pp 2 0), (4, .pp 3 0), (6, .pp 5 0)] [.row false (.trips a0_1), .box [.v (.int .i64 y), .sl 4], .rbox [.v (.int .i64 a1_0), .v (.int .i64 a1_1), .v (.int .i64 a1_2)], .box [.v (.int .i64 0), .v (.slice none 0 0)], .row true (.trips y_1), .box [.v (.int .i64 y), .v (.slice none 0 0)]] ?_
        refine awp_reg ftCOk [(2, .pp 1 0), (3, .pp 2 0), (4, .pp 3 0), (6, .pp 5 0), (7, .v (.bool false))] [.row false (.trips a0_1), .box [.v (.int .i64 y), .sl 4], .rbox [.v (.int .i64 a1_0), .v (.int .i64 a1_1), .v (.int .i64 a1_2)], .box [.v (.int .i64 0), .v (.slice none 0 0)], .row true (.trips y_1), .box [.v (.int .i64 y), .v (.slice none 0 0)]] ?_
        refine awp_seq fun K49 hK49 => ?_
        refine awp_reg ftCOk [(2, .pp 1 0), (3, .pp 2 0), (4, .pp 3 0), (6, .pp 5 0), (7, .v (.bool false)), (8, .v (.int .i64 0))] [.row false (.trips a0_1), .box [.v (.int .i64 y), .sl 4], .rbox [.v (.int .i64 a1_0), .v (.int .i64 a1_1), .v (.int .i64 a1_2)], .box [.v (.int .i64 0), .v (.slice none 0 0)], .row true (.trips y_1), .box [.v (.int .i64 y), .v (.slice none 0 0)]] ?_
        refine awp_block ?_
        replace h := bind_some h
        obtain ⟨x94, hx, h⟩ := h
        refine awp_loopL hx (fun ((t7, t8, t6_1s) : Bool × Int × (List (Int × Int × Int))) => [(2, .pp 1 0), (3, .pp 3 0), (4, .pp 4 0), (6, .pp 5 0), (7, .v (.bool t7)), (8, .v (.int .i64 t8))]) (fun ((t7, t8, t6_1s) : Bool × Int × (List (Int × Int × Int))) => [.row false (.trips a0_1), .box [.v (.int .i64 y), .sl 2], .row true (.trips y_1), .rbox [.v (.int .i64 a1_0), .v (.int .i64 a1_1), .v (.int .i64 a1_2)], .box [.v (.int .i64 0), .v (.slice none 0 0)], .box [.v (.int .i64 y), .sl 6], .row true (.trips t6_1s)]) (fun ((t7_1, t6_1s_1) : Bool × (List (Int × Int × Int))) => Exit.exit 0) (fun ((t7_1, t6_1s_1) : Bool × (List (Int × Int × Int))) => [(2, .pp 1 0), (3, .pp 3 0), (4, .pp 4 0), (6, .pp 5 0), (7, .v (.bool t7_1))]) (fun ((t7_1, t6_1s_1) : Bool × (List (Int × Int × Int))) => [.row false (.trips a0_1), .box [.v (.int .i64 y), .sl 2], .row true (.trips y_1), .rbox [.v (.int .i64 a1_0), .v (.int .i64 a1_1), .v (.int .i64 a1_2)], .box [.v (.int .i64 0), .v (.slice none 0 0)], .box [.v (.int .i64 y), .sl 6], .row true (.trips t6_1s_1)]) ?_ ?_ ?_ ?_
        · rintro ⟨t7_1, t6_1s_1⟩ hy <;> cases hy
        · clear h hx
          refine Red.trans (Red.nilCell (o := 5) (i := 1) (.trips []) rfl rfl rfl) ?_
          exact Red.selA [0, 1, 4, 2, 3, 5, 6] Red.auto
        · clear h hx
          rintro ⟨t7, t8, t6_1s⟩ r h
          unfold spec_AddEdge_b0 at h
          try dsimp only at h
          try dsimp only
          refine awp_seq fun K84 hK84 => ?_
          refine awp_reg ftCOk [(2, .pp 1 0), (3, .pp 3 0), (4, .pp 4 0), (6, .pp 5 0), (7, .v (.bool t7)), (8, .v (.int .i64 t8)), (23, .v (.bool (decide (t8 < (y_1.length : Int)))))] [.row false (.trips a0_1), .box [.v (.int .i64 y), .sl 2], .row true (.trips y_1), .rbox [.v (.int .i64 a1_0), .v (.int .i64 a1_1), .v (.int .i64 a1_2)], .box [.v (.int .i64 0), .v (.slice none 0 0)], .box [.v (.int .i64 y), .sl 6], .row true (.trips t6_1s)] ?_
          refine awp_cond (t := 23) rfl (fun hc85 => ?_) (fun hc85 => ?_)
          · replace h := bite_t h hc85
            refine awp_skip ?_
            (try simp only [Thn, InBlk, ↓reduceIte, Nat.reduceEqDiff])
            refine hK84 _ _ ?_
            clear hK84
            refine awp_join h (fun ((t7_2, t6_1s_2) : Bool × (List (Int × Int × Int))) => [(2, .pp 1 0), (3, .pp 3 0), (4, .pp 4 0), (6, .pp 5 0), (7, .v (.bool t7_2)), (8, .v (.int .i64 t8))]) (fun ((t7_2, t6_1s_2) : Bool × (List (Int × Int × Int))) => [.row false (.trips a0_1), .box [.v (.int .i64 y), .sl 2], .row true (.trips y_1), .rbox [.v (.int .i64 a1_0), .v (.int .i64 a1_1), .v (.int .i64 a1_2)], .box [.v (.int .i64 0), .v (.slice none 0 0)], .box [.v (.int .i64 y), .sl 6], .row true (.trips t6_1s_2)]) ?_ ?_
            · clear h
              intro k h
              try dsimp only at h
              refine awp_block ?_
              replace h := chk_some h
              obtain ⟨hp0, h⟩ := h
              refine awp_reg ftCOk [(2, .pp 1 0), (3, .pp 3 0), (4, .pp 4 0), (6, .pp 5 0), (7, .v (.bool t7)), (8, .v (.int .i64 t8)), (9, .pp 7 0)] [.row false (.trips a0_1), .box [.v (.int .i64 y), .sl 2], .row true (.trips y_1), .rbox [.v (.int .i64 a1_0), .v (.int .i64 a1_1), .v (.int .i64 a1_2)], .box [.v (.int .i64 0), .v (.slice none 0 0)], .box [.v (.int .i64 y), .sl 6], .row true (.trips t6_1s), .box [.v (.int .i64 ((y_1.getD t8.toNat (0, 0, 0)).1)), .v (.int .i64 ((y_1.getD t8.toNat (0, 0, 0)).2.1)), .v (.int .i64 ((y_1.getD t8.toNat (0, 0, 0)).2.2))]] ?_
              clear hp0
              refine awp_join h (fun ((t7_3, t6_1s_3) : Bool × (List (Int × Int × Int))) => [(2, .pp 1 0), (3, .pp 3 0), (4, .pp 4 0), (6, .pp 5 0), (7, .v (.bool t7_3)), (8, .v (.int .i64 t8)), (9, .pp 7 0)]) (fun ((t7_3, t6_1s_3) : Bool × (List (Int × Int × Int))) => [.row false (.trips a0_1), .box [.v (.int .i64 y), .sl 2], .row true (.trips y_1), .rbox [.v (.int .i64 a1_0), .v (.int .i64 a1_1), .v (.int .i64 a1_2)], .box [.v (.int .i64 0), .v (.slice none 0 0)], .box [.v (.int .i64 y), .sl 6], .row true (.trips t6_1s_3), .box [.v (.int .i64 ((y_1.getD t8.toNat (0, 0, 0)).1)), .v (.int .i64 ((y_1.getD t8.toNat (0, 0, 0)).2.1)), .v (.int .i64 ((y_1.getD t8.toNat (0, 0, 0)).2.2))]]) ?_ ?_
              · clear h
                intro k_1 h
                try dsimp only at h
                refine awp_reg ftCOk [(2, .pp 1 0), (3, .pp 3 0), (4, .pp 4 0), (6, .pp 5 0), (7, .v (.bool t7)), (8, .v (.int .i64 t8)), (9, .pp 7 0), (38, .v (.bool ((!t7) && (!(decide ((y_1.getD t8.toNat (0, 0, 0)).1 < a1_0 ∨ (y_1.getD t8.toNat (0, 0, 0)).1 = a1_0 ∧ (y_1.getD t8.toNat (0, 0, 0)).2.1 < a1_1))))))] [.row false (.trips a0_1), .box [.v (.int .i64 y), .sl 2], .row true (.trips y_1), .rbox [.v (.int .i64 a1_0), .v (.int .i64 a1_1), .v (.int .i64 a1_2)], .box [.v (.int .i64 0), .v (.slice none 0 0)], .box [.v (.int .i64 y), .sl 6], .row true (.trips t6_1s), .box [.v (.int .i64 ((y_1.getD t8.toNat (0, 0, 0)).1)), .v (.int .i64 ((y_1.getD t8.toNat (0, 0, 0)).2.1)), .v (.int .i64 ((y_1.getD t8.toNat (0, 0, 0)).2.2))]] ?_
                refine awp_cond (t := 38) rfl (fun hc92 => ?_) (fun hc92 => ?_)
                · replace h := bite_t h hc92
                  replace h := chk_some h
                  obtain ⟨hp0, h⟩ := h
                  refine awp_reg ftCOk [(2, .pp 1 0), (3, .pp 3 0), (4, .pp 4 0), (6, .pp 5 0), (8, .v (.int .i64 t8)), (9, .pp 7 0)] [.row false (.trips a0_1), .box [.v (.int .i64 y), .sl 2], .row true (.trips y_1), .rbox [.v (.int .i64 a1_0), .v (.int .i64 a1_1), .v (.int .i64 a1_2)], .box [.v (.int .i64 0), .v (.slice none 0 0)], .box [.v (.int .i64 y), .sl 6], .row true (.trips (t6_1s ++ [(a1_0, a1_1, a1_2)])), .box [.v (.int .i64 ((y_1.getD t8.toNat (0, 0, 0)).1)), .v (.int .i64 ((y_1.getD t8.toNat (0, 0, 0)).2.1)), .v (.int .i64 ((y_1.getD t8.toNat (0, 0, 0)).2.2))], .row true (.trips [(a1_0, a1_1, a1_2)])] ?_
                  clear hp0
                  refine awp_reg ftCOk [(2, .pp 1 0), (3, .pp 3 0), (4, .pp 4 0), (6, .pp 5 0), (7, .v (.bool true)), (8, .v (.int .i64 t8)), (9, .pp 7 0)] [.row false (.trips a0_1), .box [.v (.int .i64 y), .sl 2], .row true (.trips y_1), .rbox [.v (.int .i64 a1_0), .v (.int .i64 a1_1), .v (.int .i64 a1_2)], .box [.v (.int .i64 0), .v (.slice none 0 0)], .box [.v (.int .i64 y), .sl 6], .row true (.trips (t6_1s ++ [(a1_0, a1_1, a1_2)])), .box [.v (.int .i64 ((y_1.getD t8.toNat (0, 0, 0)).1)), .v (.int .i64 ((y_1.getD t8.toNat (0, 0, 0)).2.1)), .v (.int .i64 ((y_1.getD t8.toNat (0, 0, 0)).2.2))], .row true (.trips [(a1_0, a1_1, a1_2)])] ?_
                  refine awp_reg ftCOk [(2, .pp 1 0), (3, .pp 3 0), (4, .pp 4 0), (6, .pp 5 0), (7, .v (.bool true)), (8, .v (.int .i64 t8)), (9, .pp 7 0), (56, .v (.bool (((y_1.getD t8.toNat (0, 0, 0)).1 == a1_0) && ((y_1.getD t8.toNat (0, 0, 0)).2.1 == a1_1))))] [.row false (.trips a0_1), .box [.v (.int .i64 y), .sl 2], .row true (.trips y_1), .rbox [.v (.int .i64 a1_0), .v (.int .i64 a1_1), .v (.int .i64 a1_2)], .box [.v (.int .i64 0), .v (.slice none 0 0)], .box [.v (.int .i64 y), .sl 6], .row true (.trips (t6_1s ++ [(a1_0, a1_1, a1_2)])), .box [.v (.int .i64 ((y_1.getD t8.toNat (0, 0, 0)).1)), .v (.int .i64 ((y_1.getD t8.toNat (0, 0, 0)).2.1)), .v (.int .i64 ((y_1.getD t8.toNat (0, 0, 0)).2.2))], .row true (.trips [(a1_0, a1_1, a1_2)])] ?_
                  refine awp_cond (t := 56) rfl (fun hc93 => ?_) (fun hc93 => ?_)
                  · replace h := bite_t h hc93
                    refine awp_exit ?_
                    (try simp only [Thn, InBlk, ↓reduceIte, Nat.reduceEqDiff])
                    (try simp only [Thn, InBlk, ↓reduceIte, Nat.reduceEqDiff])
                    (try simp only [Thn, InBlk, ↓reduceIte, Nat.reduceEqDiff])
                    refine ⟨_, h, ?_⟩
                    exact Red.selA [0, 1, 2, 3, 4, 5, 6] Red.auto
                  · replace h := bite_f h hc93
                    refine awp_skip ?_
                    (try simp only [Thn, InBlk, ↓reduceIte, Nat.reduceEqDiff])
                    refine ⟨_, h, ?_⟩
                    exact Red.selA [0, 1, 2, 3, 4, 5, 6, 7] Red.auto
                · replace h := bite_f h hc92
                  refine awp_skip ?_
                  (try simp only [Thn, InBlk, ↓reduceIte, Nat.reduceEqDiff])
                  refine ⟨_, h, ?_⟩
                  exact Red.auto
              · clear h
                rintro ⟨t7_3, t6_1s_3⟩ h
                try dsimp only at h
                try dsimp only
                replace h := chk_some h
                obtain ⟨hp0, h⟩ := h
                refine awp_regE ftCOk [(2, .pp 1 0), (3, .pp 3 0), (4, .pp 4 0), (6, .pp 5 0), (7, .v (.bool t7_3)), (8, .v (.int .i64 t8))] [.row false (.trips a0_1), .box [.v (.int .i64 y), .sl 2], .row true (.trips y_1), .rbox [.v (.int .i64 a1_0), .v (.int .i64 a1_1), .v (.int .i64 a1_2)], .box [.v (.int .i64 0), .v (.slice none 0 0)], .box [.v (.int .i64 y), .sl 6], .row true (.trips (t6_1s_3 ++ [((y_1.getD t8.toNat (0, 0, 0)).1, (y_1.getD t8.toNat (0, 0, 0)).2.1, (y_1.getD t8.toNat (0, 0, 0)).2.2)])), .box [.v (.int .i64 ((y_1.getD t8.toNat (0, 0, 0)).1)), .v (.int .i64 ((y_1.getD t8.toNat (0, 0, 0)).2.1)), .v (.int .i64 ((y_1.getD t8.toNat (0, 0, 0)).2.2))], .row true (.trips [((y_1.getD t8.toNat (0, 0, 0)).1, (y_1.getD t8.toNat (0, 0, 0)).2.1, (y_1.getD t8.toNat (0, 0, 0)).2.2)])] ?_
                clear hp0
                (try simp only [Thn, InBlk, ↓reduceIte, Nat.reduceEqDiff])
                (try simp only [Thn, InBlk, ↓reduceIte, Nat.reduceEqDiff])
                refine ⟨_, h, ?_⟩
                exact Red.selA [0, 1, 2, 3, 4, 5, 6] Red.auto
            · clear h
              rintro ⟨t7_2, t6_1s_2⟩ h
              try dsimp only at h
              try dsimp only
              replace h := chk_some h
              obtain ⟨hp0, h⟩ := h
              refine awp_regE ftCOk [(2, .pp 1 0), (3, .pp 3 0), (4, .pp 4 0), (6, .pp 5 0), (7, .v (.bool t7_2)), (8, .v (.int .i64 (t8 + 1)))] [.row false (.trips a0_1), .box [.v (.int .i64 y), .sl 2], .row true (.trips y_1), .rbox [.v (.int .i64 a1_0), .v (.int .i64 a1_1), .v (.int .i64 a1_2)], .box [.v (.int .i64 0), .v (.slice none 0 0)], .box [.v (.int .i64 y), .sl 6], .row true (.trips t6_1s_2)] ?_
              clear hp0
              obtain rfl := Option.some.inj h
              refine LoopQ.next ?_
              exact Red.auto
          · replace h := bite_f h hc85
            refine awp_exit ?_
            (try simp only [Thn, InBlk, ↓reduceIte, Nat.reduceEqDiff])
            obtain rfl := Option.some.inj h
            refine LoopQ.out rfl ?_
            exact Red.auto
        · clear hx
          rcases x94 with ⟨t7_1, t6_1s_1⟩
          · try dsimp only [Sum.elim_inl, Sum.elim_inr] at h
            try dsimp only [Sum.elim_inl, Sum.elim_inr]
            (try simp only [Thn, InBlk, ↓reduceIte, Nat.reduceEqDiff])
            (try simp only [Thn, InBlk, ↓reduceIte, Nat.reduceEqDiff])
            (try simp only [Thn, InBlk, ↓reduceIte, Nat.reduceEqDiff])
            refine hK49 _ _ ?_
            clear hK49
            refine awp_join h (fun (t6_1s_4 : List (Int × Int × Int)) => [(2, .pp 1 0), (4, .pp 3 0), (6, .pp 4 0)]) (fun (t6_1s_4 : List (Int × Int × Int)) => [.row false (.trips a0_1), .box [.v (.int .i64 y), .sl 2], .row true (.trips y_1), .box [.v (.int .i64 0), .v (.slice none 0 0)], .box [.v (.int .i64 y), .sl 5], .row true (.trips t6_1s_4)]) ?_ ?_
            · clear h
              intro k_2 h
              try dsimp only at h
              refine awp_reg ftCOk [(2, .pp 1 0), (3, .pp 3 0), (4, .pp 4 0), (6, .pp 5 0), (64, .v (.bool (!t7_1)))] [.row false (.trips a0_1), .box [.v (.int .i64 y), .sl 2], .row true (.trips y_1), .rbox [.v (.int .i64 a1_0), .v (.int .i64 a1_1), .v (.int .i64 a1_2)], .box [.v (.int .i64 0), .v (.slice none 0 0)], .box [.v (.int .i64 y), .sl 6], .row true (.trips t6_1s_1)] ?_
              refine awp_cond (t := 64) rfl (fun hc96 => ?_) (fun hc96 => ?_)
              · replace h := bite_t h hc96
                replace h := chk_some h
                obtain ⟨hp0, h⟩ := h
                refine awp_regE ftCOk [(2, .pp 1 0), (4, .pp 4 0), (6, .pp 5 0)] [.row false (.trips a0_1), .box [.v (.int .i64 y), .sl 2], .row true (.trips y_1), .rbox [.v (.int .i64 a1_0), .v (.int .i64 a1_1), .v (.int .i64 a1_2)], .box [.v (.int .i64 0), .v (.slice none 0 0)], .box [.v (.int .i64 y), .sl 6], .row true (.trips (t6_1s_1 ++ [(a1_0, a1_1, a1_2)])), .row true (.trips [(a1_0, a1_1, a1_2)])] ?_
                clear hp0
                (try simp only [Thn, InBlk, ↓reduceIte, Nat.reduceEqDiff])
                refine ⟨_, h, ?_⟩
                exact Red.selA [0, 1, 2, 4, 5, 6] Red.auto
              · replace h := bite_f h hc96
                refine awp_skip ?_
                (try simp only [Thn, InBlk, ↓reduceIte, Nat.reduceEqDiff])
                refine ⟨_, h, ?_⟩
                exact Red.selA [0, 1, 2, 4, 5, 6] Red.auto
            · clear h
              rintro t6_1s_4 h
              try dsimp only at h
              try dsimp only
              refine awp_seq fun K98 hK98 => ?_
              replace h := bind_some h
              obtain ⟨y_3, hr0, h⟩ := h
              try dsimp only at h
              refine awp_to [(2, .pp 1 0), (4, .pp 3 0), (6, .pp 4 0), (73, .v (.bool (!y_3)))] [.row false (.trips a0_1), .box [.v (.int .i64 y), .sl 2], .row true (.trips y_1), .box [.v (.int .i64 0), .v (.slice none 0 0)], .box [.v (.int .i64 y), .sl 5], .row true (.trips t6_1s_4)] ?_ ?_
              · clear h
                intro K hK
                refine awp_region ftCOk ?_
                simp (maxSteps := 4000000) only [go_sem, Nat.reduceBEq, Nat.reduceLT, Nat.reduceAdd, Nat.reduceLeDiff, Nat.reduceSub, Nat.reduceEqDiff, Int.reduceToNat, reduceCtorEq, ↓reduceIte]
                repeat' (first | refine And.intro ?_ ?_ | intro hg)
                all_goals (try simp (disch := omega) only [wrap_fits])
                all_goals first
                  | (refine hK _ _ ?_; exact Red.auto)
                  | exact trivial
                  | assumption
                  | omega
                  | exact wrap_fits (by omega) (by omega)
                  | (refine wpA_callA (k_spec_GraphValid y t6_1s_4 (h := hr0)) [5] [] ?_
                     rintro x Hc' ⟨rfl, rfl⟩ hlen
                     refine vcOps_sound ftCOk ?_
                     simp (maxSteps := 4000000) only [go_sem, Nat.reduceBEq, Nat.reduceLT, Nat.reduceAdd, Nat.reduceLeDiff, Nat.reduceSub, Nat.reduceEqDiff, Int.reduceToNat, reduceCtorEq, ↓reduceIte]
                     repeat' (first | refine And.intro ?_ ?_ | intro hg)
                     all_goals (try simp (disch := omega) only [wrap_fits])
                     all_goals first
                       | (refine hK _ _ ?_; exact Red.auto)
                       | exact trivial
                       | assumption
                       | omega
                       | exact wrap_fits (by omega) (by omega)
                       | (simp_all; done)
                       | (simp_all; omega))
                  | (simp_all; done)
                  | (simp_all; omega)
              · clear hr0
                refine awp_cond (t := 73) rfl (fun hc99 => ?_) (fun hc99 => ?_)
                · replace h := bite_t h hc99
                  refine awp_freeze 2 (by rfl) (by rfl) (by first | exact rfl | (simp only [List.map_cons, List.map_nil, List.set_cons_succ, List.set_cons_zero, AObj.unview, reduceCtorEq, ↓reduceIte, Nat.reduceEqDiff]; exact rfl)) ?_
                  replace h := chk_some h
                  obtain ⟨hp0, h⟩ := h
                  refine awp_to [(4, .pp 3 0), (5, .v (.bool false))] [.row false (.trips a0_1), .rbox [.v (.int .i64 y), .sl 2], .row true (.trips y_1), .box [.v (.int .i64 y), .sl 6], .box [.v (.int .i64 y), .sl 5], .row true (.trips t6_1s_4), .row true (.trips ([] ++ y_1))] ?_ ?_
                  · clear h
                    intro K hK
                    refine awp_drawT mixed ftCOk (.free 0 (.free 3 (.free 1 (.free 4 (.one 2 (.one 5 (.one 6 (.one 7 (.one 8 .fin))))))))) (by kernel_rfl) (by simp) ?_
                    simp (maxSteps := 4000000) only [go_sem, Nat.reduceBEq, Nat.reduceLT, Nat.reduceAdd, Nat.reduceLeDiff, Nat.reduceSub, Nat.reduceEqDiff, Int.reduceToNat, reduceCtorEq, ↓reduceIte]
                    repeat' (first | refine And.intro ?_ ?_ | intro hg)
                    all_goals (try simp (disch := omega) only [wrap_fits])
                    all_goals first
                      | (refine hK _ _ ?_; exact Red.auto)
                      | exact trivial
                      | assumption
                      | omega
                      | exact wrap_fits (by omega) (by omega)
                      | (simp (maxSteps := 4000000) only [go_sem, Nat.reduceBEq, Nat.reduceLT, Nat.reduceAdd, Nat.reduceLeDiff, Nat.reduceSub, Nat.reduceEqDiff, Int.reduceToNat, reduceCtorEq, ↓reduceIte]
                         repeat' (first | refine And.intro ?_ ?_ | intro hg)
                         all_goals (try simp (disch := omega) only [wrap_fits])
                         all_goals first | (refine hK _ _ ?_; exact Red.auto) | exact trivial | assumption | omega | exact wrap_fits (by omega) (by omega))
                      | (simp_all; done)
                      | (simp_all; omega)
                  · clear hp0
                    refine awp_ret ?_
                    (try simp only [Thn, InBlk, ↓reduceIte, Nat.reduceEqDiff])
                    obtain rfl := Option.some.inj h
                    refine ⟨by simp, _, [0, 6], (by simp only [go_sem, Nat.reduceBEq, Nat.reduceLT, Nat.reduceAdd, Nat.reduceLeDiff, Nat.reduceSub, Nat.reduceEqDiff, Int.reduceToNat, reduceCtorEq, ↓reduceIte]; exact rfl), ?_, ?_, ?_, ?_⟩
                    · first | exact trivial | exact ⟨trivial, trivial⟩ | exact ⟨trivial, trivial, trivial⟩ | exact ⟨trivial, trivial, trivial, trivial⟩ | (simp only [allP, and_true, true_and]; done) | (simp only [allP, and_true, true_and]; omega)
                    · simp [selOk, pos]
                    · simp
                    · first | exact ⟨rfl, rfl⟩ | (simp only [go_sem, Nat.reduceBEq, Nat.reduceLT, Nat.reduceAdd, Nat.reduceLeDiff, Nat.reduceSub, Nat.reduceEqDiff, Int.reduceToNat, reduceCtorEq, ↓reduceIte]; done) | (simp [go_sem, Nat.reduceBEq, Nat.reduceLT, Nat.reduceAdd, Nat.reduceLeDiff, Nat.reduceSub, Nat.reduceEqDiff, Int.reduceToNat, reduceCtorEq, ↓reduceIte]; done) | (simp only [go_sem, Nat.reduceBEq, Nat.reduceLT, Nat.reduceAdd, Nat.reduceLeDiff, Nat.reduceSub, Nat.reduceEqDiff, Int.reduceToNat, reduceCtorEq, ↓reduceIte]; exact ⟨rfl, rfl⟩) | (simp_all [go_sem, Nat.reduceBEq, Nat.reduceLT, Nat.reduceAdd, Nat.reduceLeDiff, Nat.reduceSub, Nat.reduceEqDiff, Int.reduceToNat, reduceCtorEq, ↓reduceIte]; done)
                · replace h := bite_f h hc99
                  refine awp_skip ?_
                  (try simp only [Thn, InBlk, ↓reduceIte, Nat.reduceEqDiff])
                  refine hK98 _ _ ?_
                  clear hK98
                  refine awp_reg ftCOk [(4, .pp 3 0), (5, .v (.bool true))] [.row false (.trips a0_1), .box [.v (.int .i64 y), .sl 2], .row true (.trips y_1), .box [.v (.int .i64 y), .sl 5], .box [.v (.int .i64 y), .sl 5], .row true (.trips t6_1s_4)] ?_
                  refine awp_ret ?_
                  (try simp only [Thn, InBlk, ↓reduceIte, Nat.reduceEqDiff])
                  obtain rfl := Option.some.inj h
                  refine ⟨by simp, _, [0, 5], (by simp only [go_sem, Nat.reduceBEq, Nat.reduceLT, Nat.reduceAdd, Nat.reduceLeDiff, Nat.reduceSub, Nat.reduceEqDiff, Int.reduceToNat, reduceCtorEq, ↓reduceIte]; exact rfl), ?_, ?_, ?_, ?_⟩
                  · first | exact trivial | exact ⟨trivial, trivial⟩ | exact ⟨trivial, trivial, trivial⟩ | exact ⟨trivial, trivial, trivial, trivial⟩ | (simp only [allP, and_true, true_and]; done) | (simp only [allP, and_true, true_and]; omega)
                  · simp [selOk, pos]
                  · simp
                  · first | exact ⟨rfl, rfl⟩ | (simp only [go_sem, Nat.reduceBEq, Nat.reduceLT, Nat.reduceAdd, Nat.reduceLeDiff, Nat.reduceSub, Nat.reduceEqDiff, Int.reduceToNat, reduceCtorEq, ↓reduceIte]; done) | (simp [go_sem, Nat.reduceBEq, Nat.reduceLT, Nat.reduceAdd, Nat.reduceLeDiff, Nat.reduceSub, Nat.reduceEqDiff, Int.reduceToNat, reduceCtorEq, ↓reduceIte]; done) | (simp only [go_sem, Nat.reduceBEq, Nat.reduceLT, Nat.reduceAdd, Nat.reduceLeDiff, Nat.reduceSub, Nat.reduceEqDiff, Int.reduceToNat, reduceCtorEq, ↓reduceIte]; exact ⟨rfl, rfl⟩) | (simp_all [go_sem, Nat.reduceBEq, Nat.reduceLT, Nat.reduceAdd, Nat.reduceLeDiff, Nat.reduceSub, Nat.reduceEqDiff, Int.reduceToNat, reduceCtorEq, ↓reduceIte]; done)
theorem k_spec_l20Rd_odd (a0_0 : List Int) (a0_1 : Int) (a1 : Int) {r : Bool × Int} (h : spec_l20Rd_odd a0_0 a0_1 a1 = some r) :
    FnA Try.prog 38 [.pp 0 0, .v (.int .i64 a1)] [.box [.sl 1, .v (.int .i64 a0_1)], .row false (.ints .u8 a0_0)] [] (fun x H => x = .v (.bool r.1) ∧ H = [.box [.sl 1, .v (.int .i64 r.2)], .row false (.ints .u8 a0_0)]) := by
  unfold spec_l20Rd_odd at h
  refine FnA.of (N := 15) (pin := [0, 1]) (rs := [.tmp 4]) Try.func38 rfl en38 rfl rfl (by simp) (by simp; try omega) ?_
  refine awp_reg ftCOk [(0, .pp 0 0), (1, .v (.int .i64 a1))] [.box [.sl 1, .v (.int .i64 a0_1)], .row false (.ints .u8 a0_0)] ?_
  replace h := bind_some h
  obtain ⟨⟨y, y_1⟩, hr0, h⟩ := h
  try dsimp only at h
  refine awp_to [(4, .v (.bool ((decide (0 < a1)) && (y == (IntKind.i64.wrap (a1 - 1))))))] [.box [.sl 1, .v (.int .i64 y_1)], .row false (.ints .u8 a0_0)] ?_ ?_
  · clear h
    intro K hK
    refine awp_region ftCOk ?_
    simp (maxSteps := 4000000) only [go_sem, Nat.reduceBEq, Nat.reduceLT, Nat.reduceAdd, Nat.reduceLeDiff, Nat.reduceSub, Nat.reduceEqDiff, Int.reduceToNat, reduceCtorEq, ↓reduceIte]
    repeat' (first | refine And.intro ?_ ?_ | intro hg)
    all_goals (try simp (disch := omega) only [wrap_fits])
    all_goals first
      | (refine hK _ _ ?_; exact Red.auto)
      | exact trivial
      | assumption
      | omega
      | exact wrap_fits (by omega) (by omega)
      | (refine wpA_guard rfl rfl ?_
         refine wpA_callA (k_spec_l20Rd_pick a0_0 a0_1 a1 (h := (bite_t hr0 (by first | assumption | (simp only [*, Bool.false_or, Bool.true_or, Bool.or_false, Bool.or_true, Bool.false_and, Bool.true_and, Bool.and_false, Bool.and_true, Bool.not_true, Bool.not_false, beq_self_eq_true]; done) | (simp_all; done))))) [0, 1] [] ?_
         rintro x Hc' ⟨rfl, rfl⟩ hlen
         refine vcOps_sound ftCOk ?_
         simp (maxSteps := 4000000) only [go_sem, Nat.reduceBEq, Nat.reduceLT, Nat.reduceAdd, Nat.reduceLeDiff, Nat.reduceSub, Nat.reduceEqDiff, Int.reduceToNat, reduceCtorEq, ↓reduceIte]
         repeat' (first | refine And.intro ?_ ?_ | intro hg)
         all_goals (try simp (disch := omega) only [wrap_fits])
         all_goals first
           | (refine hK _ _ ?_; exact Red.auto)
           | exact trivial
           | assumption
           | omega
           | exact wrap_fits (by omega) (by omega)
           | (simp_all; done)
           | (simp_all; omega))
      | (simp_all; done)
      | (simp_all; omega)
  · clear hr0
    refine awp_ret ?_
    (try simp only [Thn, InBlk, ↓reduceIte, Nat.reduceEqDiff])
    obtain rfl := Option.some.inj h
    refine ⟨by simp, _, [0, 1], (by simp only [go_sem, Nat.reduceBEq, Nat.reduceLT, Nat.reduceAdd, Nat.reduceLeDiff, Nat.reduceSub, Nat.reduceEqDiff, Int.reduceToNat, reduceCtorEq, ↓reduceIte]; exact rfl), ?_, ?_, ?_, ?_⟩
    · first | exact trivial | exact ⟨trivial, trivial⟩ | exact ⟨trivial, trivial, trivial⟩ | exact ⟨trivial, trivial, trivial, trivial⟩ | (simp only [allP, and_true, true_and]; done) | (simp only [allP, and_true, true_and]; omega)
    · simp [selOk, pos]
    · simp
    · first | exact ⟨rfl, rfl⟩ | (simp only [go_sem, Nat.reduceBEq, Nat.reduceLT, Nat.reduceAdd, Nat.reduceLeDiff, Nat.reduceSub, Nat.reduceEqDiff, Int.reduceToNat, reduceCtorEq, ↓reduceIte]; done) | (simp [go_sem, Nat.reduceBEq, Nat.reduceLT, Nat.reduceAdd, Nat.reduceLeDiff, Nat.reduceSub, Nat.reduceEqDiff, Int.reduceToNat, reduceCtorEq, ↓reduceIte]; done) | (simp only [go_sem, Nat.reduceBEq, Nat.reduceLT, Nat.reduceAdd, Nat.reduceLeDiff, Nat.reduceSub, Nat.reduceEqDiff, Int.reduceToNat, reduceCtorEq, ↓reduceIte]; exact ⟨rfl, rfl⟩) | (simp_all [go_sem, Nat.reduceBEq, Nat.reduceLT, Nat.reduceAdd, Nat.reduceLeDiff, Nat.reduceSub, Nat.reduceEqDiff, Int.reduceToNat, reduceCtorEq, ↓reduceIte]; done)
theorem k_spec_l20Graph (a0_0 : List Int) (a0_1 : Int) (a1 : Int) {r : Int × (List (Int × Int × Int)) × Int} (h : spec_l20Graph a0_0 a0_1 a1 = some r) :
    FnA Try.prog 23 [.pp 0 0, .v (.int .i64 a1)] [.box [.sl 1, .v (.int .i64 a0_1)], .row false (.ints .u8 a0_0)] [] (fun x H => x = .agg [.v (.int .i64 r.1), .sl 2] ∧ H = [.box [.sl 1, .v (.int .i64 r.2.2)], .row false (.ints .u8 a0_0), .row true (.trips r.2.1)]) := by
  unfold spec_l20Graph at h
  refine FnA.of (N := 72) (pin := [0, 1]) (rs := [.cell 4 25]) Try.func23 rfl en23 rfl rfl (by simp) (by simp; try omega) ?_
  refine awp_reg ftCOk [(0, .pp 0 0), (1, .v (.int .i64 a1)), (4, .pp 2 0)] [.box [.sl 1, .v (.int .i64 a0_1)], .row false (.ints .u8 a0_0), .box [.v (.int .i64 0), .v (.slice none 0 0)]] ?_
  replace h := bind_some h
  obtain ⟨⟨y, y_1⟩, hr0, h⟩ := h
  try dsimp only at h
  replace h := bind_some h
  obtain ⟨⟨y_2, y_3⟩, hr1, h⟩ := h
  try dsimp only at h
  replace h := chk_some h
  obtain ⟨hp2, h⟩ := h
  replace h := bind_some h
  obtain ⟨⟨y_4, y_5⟩, hr3, h⟩ := h
  try dsimp only at h
  replace h := chk_some h
  obtain ⟨hp4, h⟩ := h
  replace h := chk_some h
  obtain ⟨hp5, h⟩ := h
  refine awp_to [(0, .pp 0 0), (1, .v (.int .i64 a1)), (4, .pp 2 0), (5, .pp 5 0)] [.box [.sl 1, .v (.int .i64 y_5)], .row false (.ints .u8 a0_0), .box [.v (.int .i64 0), .v (.slice none 0 0)], .row true (.ints .i64 [y, (2 + y_2), 16, 0]), .row true (.ints .i64 [0, 1, 1, 1, 1, 1, 2, 3]), .box [.v (.int .i64 (([y, (2 + y_2), 16, 0] : List Int).getD ((([0, 1, 1, 1, 1, 1, 2, 3] : List Int).getD y_4.toNat 0).toNat) 0)), .v (.slice none 0 0)]] ?_ ?_
  · clear h
    intro K hK
    refine awp_region ftCOk ?_
    simp (maxSteps := 4000000) only [go_sem, Nat.reduceBEq, Nat.reduceLT, Nat.reduceAdd, Nat.reduceLeDiff, Nat.reduceSub, Nat.reduceEqDiff, Int.reduceToNat, reduceCtorEq, ↓reduceIte]
    repeat' (first | refine And.intro ?_ ?_ | intro hg)
    all_goals (try simp (disch := omega) only [wrap_fits])
    all_goals first
      | (refine hK _ _ ?_; exact Red.auto)
      | exact trivial
      | assumption
      | omega
      | exact wrap_fits (by omega) (by omega)
      | (refine wpA_callA (k_spec_l20Rd_pick a0_0 a0_1 9 (h := hr0)) [0, 1] [] ?_
         rintro x Hc' ⟨rfl, rfl⟩ hlen
         refine vcOps_sound ftCOk ?_
         simp (maxSteps := 4000000) only [go_sem, Nat.reduceBEq, Nat.reduceLT, Nat.reduceAdd, Nat.reduceLeDiff, Nat.reduceSub, Nat.reduceEqDiff, Int.reduceToNat, reduceCtorEq, ↓reduceIte]
         repeat' (first | refine And.intro ?_ ?_ | intro hg)
         all_goals (try simp (disch := omega) only [wrap_fits])
         all_goals first
           | (refine hK _ _ ?_; exact Red.auto)
           | exact trivial
           | assumption
           | omega
           | exact wrap_fits (by omega) (by omega)
           | (refine wpA_callA (k_spec_l20Rd_pick a0_0 y_1 7 (h := hr1)) [0, 1] [] ?_
              rintro x Hc' ⟨rfl, rfl⟩ hlen
              refine vcOps_sound ftCOk ?_
              simp (maxSteps := 4000000) only [go_sem, Nat.reduceBEq, Nat.reduceLT, Nat.reduceAdd, Nat.reduceLeDiff, Nat.reduceSub, Nat.reduceEqDiff, Int.reduceToNat, reduceCtorEq, ↓reduceIte]
              repeat' (first | refine And.intro ?_ ?_ | intro hg)
              all_goals (try simp (disch := omega) only [wrap_fits])
              all_goals first
                | (refine hK _ _ ?_; exact Red.auto)
                | exact trivial
                | assumption
                | omega
                | exact wrap_fits (by omega) (by omega)
                | (refine wpA_callA (k_spec_l20Rd_pick a0_0 y_3 8 (h := hr3)) [0, 1] [] ?_
                   rintro x Hc' ⟨rfl, rfl⟩ hlen
                   refine vcOps_sound ftCOk ?_
                   simp (maxSteps := 4000000) only [go_sem, Nat.reduceBEq, Nat.reduceLT, Nat.reduceAdd, Nat.reduceLeDiff, Nat.reduceSub, Nat.reduceEqDiff, Int.reduceToNat, reduceCtorEq, ↓reduceIte]
                   repeat' (first | refine And.intro ?_ ?_ | intro hg)
                   all_goals (try simp (disch := omega) only [wrap_fits])
                   all_goals first
                     | (refine hK _ _ ?_; exact Red.auto)
                     | exact trivial
                     | assumption
                     | omega
                     | exact wrap_fits (by omega) (by omega)
                     | (simp_all; done)
                     | (simp_all; omega))
                | (simp_all; done)
                | (simp_all; omega))
           | (simp_all; done)
           | (simp_all; omega))
      | (simp_all; done)
      | (simp_all; omega)
  · clear hr0 hr1 hp2 hr3 hp4 hp5
    refine awp_seq fun K18 hK18 => ?_
    replace h := bind_some h
    obtain ⟨⟨y_6, y_7⟩, hr0, h⟩ := h
    try dsimp only at h
    refine awp_to [(0, .pp 0 0), (1, .v (.int .i64 a1)), (4, .pp 2 0), (5, .pp 5 0), (6, .v (.int .i64 y_6))] [.box [.sl 1, .v (.int .i64 y_7)], .row false (.ints .u8 a0_0), .box [.v (.int .i64 0), .v (.slice none 0 0)], .row true (.ints .i64 [y, (2 + y_2), 16, 0]), .row true (.ints .i64 [0, 1, 1, 1, 1, 1, 2, 3]), .box [.v (.int .i64 (([y, (2 + y_2), 16, 0] : List Int).getD ((([0, 1, 1, 1, 1, 1, 2, 3] : List Int).getD y_4.toNat 0).toNat) 0)), .v (.slice none 0 0)]] ?_ ?_
    · clear h
      intro K hK
      refine awp_region ftCOk ?_
      simp (maxSteps := 4000000) only [go_sem, Nat.reduceBEq, Nat.reduceLT, Nat.reduceAdd, Nat.reduceLeDiff, Nat.reduceSub, Nat.reduceEqDiff, Int.reduceToNat, reduceCtorEq, ↓reduceIte]
      repeat' (first | refine And.intro ?_ ?_ | intro hg)
      all_goals (try simp (disch := omega) only [wrap_fits])
      all_goals first
        | (refine hK _ _ ?_; exact Red.auto)
        | exact trivial
        | assumption
        | omega
        | exact wrap_fits (by omega) (by omega)
        | (refine wpA_callA (k_spec_l20Rd_pick a0_0 y_5 14 (h := hr0)) [0, 1] [] ?_
           rintro x Hc' ⟨rfl, rfl⟩ hlen
           refine vcOps_sound ftCOk ?_
           simp (maxSteps := 4000000) only [go_sem, Nat.reduceBEq, Nat.reduceLT, Nat.reduceAdd, Nat.reduceLeDiff, Nat.reduceSub, Nat.reduceEqDiff, Int.reduceToNat, reduceCtorEq, ↓reduceIte]
           repeat' (first | refine And.intro ?_ ?_ | intro hg)
           all_goals (try simp (disch := omega) only [wrap_fits])
           all_goals first
             | (refine hK _ _ ?_; exact Red.auto)
             | exact trivial
             | assumption
             | omega
             | exact wrap_fits (by omega) (by omega)
             | (simp_all; done)
             | (simp_all; omega))
        | (simp_all; done)
        | (simp_all; omega)
    · clear hr0
      refine awp_block ?_
      replace h := bind_some h
      obtain ⟨x35, hx, h⟩ := h
      refine awp_loopL hx (fun ((t6, p0_1, t5_0, t5_1s) : Int × Int × Int × (List (Int × Int × Int))) => [(0, .pp 0 0), (1, .v (.int .i64 a1)), (4, .pp 2 0), (5, .pp 4 0), (6, .v (.int .i64 t6))]) (fun ((t6, p0_1, t5_0, t5_1s) : Int × Int × Int × (List (Int × Int × Int))) => [.box [.sl 1, .v (.int .i64 p0_1)], .row false (.ints .u8 a0_0), .box [.v (.int .i64 0), .sl 3], .row true (.trips []), .box [.v (.int .i64 t5_0), .sl 5], .row true (.trips t5_1s)]) (fun ((p0_1_1, t5_0_1, t5_1s_1) : Int × Int × (List (Int × Int × Int))) => Exit.exit 0) (fun ((p0_1_1, t5_0_1, t5_1s_1) : Int × Int × (List (Int × Int × Int))) => [(0, .pp 0 0), (1, .v (.int .i64 a1)), (4, .pp 2 0), (5, .pp 4 0)]) (fun ((p0_1_1, t5_0_1, t5_1s_1) : Int × Int × (List (Int × Int × Int))) => [.box [.sl 1, .v (.int .i64 p0_1_1)], .row false (.ints .u8 a0_0), .box [.v (.int .i64 0), .sl 3], .row true (.trips []), .box [.v (.int .i64 t5_0_1), .sl 5], .row true (.trips t5_1s_1)]) ?_ ?_ ?_ ?_
      · rintro ⟨p0_1_1, t5_0_1, t5_1s_1⟩ hy <;> cases hy
      · clear h hx
        refine Red.trans (Red.nilCell (o := 2) (i := 1) (.trips []) rfl rfl rfl) ?_
        refine Red.trans (Red.nilCell (o := 5) (i := 1) (.trips []) rfl rfl rfl) ?_
        exact Red.selA [0, 1, 2, 6, 5, 7] Red.auto
      · clear h hx
        rintro ⟨t6, p0_1, t5_0, t5_1s⟩ r h
        unfold spec_l20Graph_b0 at h
        try dsimp only at h
        try dsimp only
        refine awp_seq fun K32 hK32 => ?_
        refine awp_reg ftCOk [(0, .pp 0 0), (1, .v (.int .i64 a1)), (4, .pp 2 0), (5, .pp 4 0), (6, .v (.int .i64 t6)), (24, .v (.bool (decide (0 < t6))))] [.box [.sl 1, .v (.int .i64 p0_1)], .row false (.ints .u8 a0_0), .box [.v (.int .i64 0), .sl 3], .row true (.trips []), .box [.v (.int .i64 t5_0), .sl 5], .row true (.trips t5_1s)] ?_
        refine awp_cond (t := 24) rfl (fun hc33 => ?_) (fun hc33 => ?_)
        · replace h := bite_t h hc33
          refine awp_skip ?_
          (try simp only [Thn, InBlk, ↓reduceIte, Nat.reduceEqDiff])
          refine hK32 _ _ ?_
          clear hK32
          refine awp_seq fun K34 hK34 => ?_
          refine awp_block ?_
          replace h := bind_some h
          obtain ⟨⟨y_8, y_9, y_10, y_11⟩, hr0, h⟩ := h
          try dsimp only at h
          replace h := bind_some h
          obtain ⟨⟨y_12, y_13, y_14⟩, hr1, h⟩ := h
          try dsimp only at h
          refine awp_end [(0, .pp 0 0), (1, .v (.int .i64 a1)), (4, .pp 2 0), (5, .pp 4 0), (6, .v (.int .i64 t6))] [.box [.sl 1, .v (.int .i64 y_11)], .row false (.ints .u8 a0_0), .box [.v (.int .i64 0), .sl 3], .row true (.trips []), .box [.v (.int .i64 y_12), .sl 6], .row true (.trips t5_1s), .row true (.trips y_13)] ?_ ?_
          · clear h
            intro K hK
            refine awp_drawT mixed ftCOk (.free 1 (.free 2 (.two 0 3 (.one 3 (.one 4 (.one 5 (.one 6 (.free 7 (.free 8 (.one 9 .fin))))))) (.two 0 4 (.one 4 (.one 5 (.one 6 (.free 7 (.free 8 (.one 9 .fin)))))) (.one 0 (.one 5 (.one 6 (.free 7 (.free 8 (.one 9 .fin)))))))))) (by kernel_rfl) (by simp) ?_
            simp (maxSteps := 4000000) only [go_sem, Nat.reduceBEq, Nat.reduceLT, Nat.reduceAdd, Nat.reduceLeDiff, Nat.reduceSub, Nat.reduceEqDiff, Int.reduceToNat, reduceCtorEq, ↓reduceIte]
            repeat' (first | refine And.intro ?_ ?_ | intro hg)
            all_goals (try simp (disch := omega) only [wrap_fits])
            all_goals first
              | (refine hK _ _ ?_; exact Red.auto)
              | exact trivial
              | assumption
              | omega
              | exact wrap_fits (by omega) (by omega)
              | (refine OpK_callA (k_spec_l20Edge a0_0 p0_1 t5_0 (h := hr0)) [0, 1] [] ?_
                 rintro x Hc' ⟨rfl, rfl⟩ hlen
                 simp (maxSteps := 4000000) only [go_sem, Nat.reduceBEq, Nat.reduceLT, Nat.reduceAdd, Nat.reduceLeDiff, Nat.reduceSub, Nat.reduceEqDiff, Int.reduceToNat, reduceCtorEq, ↓reduceIte]
                 repeat' (first | refine And.intro ?_ ?_ | intro hg)
                 all_goals (try simp (disch := omega) only [wrap_fits])
                 all_goals first
                   | (refine hK _ _ ?_; exact Red.auto)
                   | exact trivial
                   | assumption
                   | omega
                   | exact wrap_fits (by omega) (by omega)
                   | (refine OpK_callA (k_spec_AddEdge t5_0 t5_1s y_8 y_9 y_10 (h := hr1)) [5] [] ?_
                      rintro x Hc' ⟨rfl, rfl⟩ hlen
                      simp (maxSteps := 4000000) only [go_sem, Nat.reduceBEq, Nat.reduceLT, Nat.reduceAdd, Nat.reduceLeDiff, Nat.reduceSub, Nat.reduceEqDiff, Int.reduceToNat, reduceCtorEq, ↓reduceIte]
                      repeat' (first | refine And.intro ?_ ?_ | intro hg)
                      all_goals (try simp (disch := omega) only [wrap_fits])
                      all_goals first
                        | (refine hK _ _ ?_; exact Red.auto)
                        | exact trivial
                        | assumption
                        | omega
                        | exact wrap_fits (by omega) (by omega)
                        | (simp (maxSteps := 4000000) only [go_sem, Nat.reduceBEq, Nat.reduceLT, Nat.reduceAdd, Nat.reduceLeDiff, Nat.reduceSub, Nat.reduceEqDiff, Int.reduceToNat, reduceCtorEq, ↓reduceIte]
                           repeat' (first | refine And.intro ?_ ?_ | intro hg)
                           all_goals (try simp (disch := omega) only [wrap_fits])
                           all_goals first | (refine hK _ _ ?_; exact Red.auto) | exact trivial | assumption | omega | exact wrap_fits (by omega) (by omega))
                        | (simp_all; done)
                        | (simp_all; omega))
                   | (simp_all; done)
                   | (simp_all; omega))
              | (simp_all; done)
              | (simp_all; omega)
          · clear hr0 hr1
            (try simp only [Thn, InBlk, ↓reduceIte, Nat.reduceEqDiff])
            (try simp only [Thn, InBlk, ↓reduceIte, Nat.reduceEqDiff])
            refine hK34 _ _ ?_
            clear hK34
            replace h := chk_some h
            obtain ⟨hp0, h⟩ := h
            have hwhp0 := wrap_fits hp0.1 hp0.2
            refine awp_regE ftCOk [(0, .pp 0 0), (1, .v (.int .i64 a1)), (4, .pp 2 0), (5, .pp 4 0), (6, .v (.int .i64 (t6 - 1)))] [.box [.sl 1, .v (.int .i64 y_11)], .row false (.ints .u8 a0_0), .box [.v (.int .i64 0), .sl 3], .row true (.trips []), .box [.v (.int .i64 y_12), .sl 6], .row true (.trips t5_1s), .row true (.trips y_13)] ?_
            clear hp0
            obtain rfl := Option.some.inj h
            refine LoopQ.next ?_
            exact Red.selA [0, 1, 2, 3, 4, 6] Red.auto
        · replace h := bite_f h hc33
          refine awp_exit ?_
          (try simp only [Thn, InBlk, ↓reduceIte, Nat.reduceEqDiff])
          obtain rfl := Option.some.inj h
          refine LoopQ.out rfl ?_
          exact Red.auto
      · clear hx
        rcases x35 with ⟨p0_1_1, t5_0_1, t5_1s_1⟩
        · try dsimp only [Sum.elim_inl, Sum.elim_inr] at h
          try dsimp only [Sum.elim_inl, Sum.elim_inr]
          (try simp only [Thn, InBlk, ↓reduceIte, Nat.reduceEqDiff])
          (try simp only [Thn, InBlk, ↓reduceIte, Nat.reduceEqDiff])
          (try simp only [Thn, InBlk, ↓reduceIte, Nat.reduceEqDiff])
          refine hK18 _ _ ?_
          clear hK18
          refine awp_join h (fun ((p0_1_2, t5_0_2, t5_1s_2) : Int × Int × (List (Int × Int × Int))) => [(4, .pp 2 0), (5, .pp 4 0)]) (fun ((p0_1_2, t5_0_2, t5_1s_2) : Int × Int × (List (Int × Int × Int))) => [.box [.sl 1, .v (.int .i64 p0_1_2)], .row false (.ints .u8 a0_0), .box [.v (.int .i64 0), .sl 3], .row true (.trips []), .box [.v (.int .i64 t5_0_2), .sl 5], .row true (.trips t5_1s_2)]) ?_ ?_
          · clear h
            intro k h
            try dsimp only at h
            replace h := bind_some h
            obtain ⟨⟨y_15, y_16⟩, hr0, h⟩ := h
            try dsimp only at h
            refine awp_to [(0, .pp 0 0), (4, .pp 2 0), (5, .pp 4 0), (38, .v (.bool y_15))] [.box [.sl 1, .v (.int .i64 y_16)], .row false (.ints .u8 a0_0), .box [.v (.int .i64 0), .sl 3], .row true (.trips []), .box [.v (.int .i64 t5_0_1), .sl 5], .row true (.trips t5_1s_1)] ?_ ?_
            · clear h
              intro K hK
              refine awp_region ftCOk ?_
              simp (maxSteps := 4000000) only [go_sem, Nat.reduceBEq, Nat.reduceLT, Nat.reduceAdd, Nat.reduceLeDiff, Nat.reduceSub, Nat.reduceEqDiff, Int.reduceToNat, reduceCtorEq, ↓reduceIte]
              repeat' (first | refine And.intro ?_ ?_ | intro hg)
              all_goals (try simp (disch := omega) only [wrap_fits])
              all_goals first
                | (refine hK _ _ ?_; exact Red.auto)
                | exact trivial
                | assumption
                | omega
                | exact wrap_fits (by omega) (by omega)
                | (refine wpA_callA (k_spec_l20Rd_odd a0_0 p0_1_1 a1 (h := hr0)) [0, 1] [] ?_
                   rintro x Hc' ⟨rfl, rfl⟩ hlen
                   refine vcOps_sound ftCOk ?_
                   simp (maxSteps := 4000000) only [go_sem, Nat.reduceBEq, Nat.reduceLT, Nat.reduceAdd, Nat.reduceLeDiff, Nat.reduceSub, Nat.reduceEqDiff, Int.reduceToNat, reduceCtorEq, ↓reduceIte]
                   repeat' (first | refine And.intro ?_ ?_ | intro hg)
                   all_goals (try simp (disch := omega) only [wrap_fits])
                   all_goals first
                     | (refine hK _ _ ?_; exact Red.auto)
                     | exact trivial
                     | assumption
                     | omega
                     | exact wrap_fits (by omega) (by omega)
                     | (simp_all; done)
                     | (simp_all; omega))
                | (simp_all; done)
                | (simp_all; omega)
            · clear hr0
              refine awp_cond (t := 38) rfl (fun hc40 => ?_) (fun hc40 => ?_)
              · replace h := bite_t h hc40
                replace h := bind_some h
                obtain ⟨⟨y_17, y_18⟩, hr0, h⟩ := h
                try dsimp only at h
                refine awp_to [(0, .pp 0 0), (4, .pp 2 0), (5, .pp 4 0), (40, .v (.int .i64 y_17))] [.box [.sl 1, .v (.int .i64 y_18)], .row false (.ints .u8 a0_0), .box [.v (.int .i64 0), .sl 3], .row true (.trips []), .box [.v (.int .i64 t5_0_1), .sl 5], .row true (.trips t5_1s_1)] ?_ ?_
                · clear h
                  intro K hK
                  refine awp_region ftCOk ?_
                  simp (maxSteps := 4000000) only [go_sem, Nat.reduceBEq, Nat.reduceLT, Nat.reduceAdd, Nat.reduceLeDiff, Nat.reduceSub, Nat.reduceEqDiff, Int.reduceToNat, reduceCtorEq, ↓reduceIte]
                  repeat' (first | refine And.intro ?_ ?_ | intro hg)
                  all_goals (try simp (disch := omega) only [wrap_fits])
                  all_goals first
                    | (refine hK _ _ ?_; exact Red.auto)
                    | exact trivial
                    | assumption
                    | omega
                    | exact wrap_fits (by omega) (by omega)
                    | (refine wpA_callA (k_spec_l20Rd_pick a0_0 y_16 4 (h := hr0)) [0, 1] [] ?_
                       rintro x Hc' ⟨rfl, rfl⟩ hlen
                       refine vcOps_sound ftCOk ?_
                       simp (maxSteps := 4000000) only [go_sem, Nat.reduceBEq, Nat.reduceLT, Nat.reduceAdd, Nat.reduceLeDiff, Nat.reduceSub, Nat.reduceEqDiff, Int.reduceToNat, reduceCtorEq, ↓reduceIte]
                       repeat' (first | refine And.intro ?_ ?_ | intro hg)
                       all_goals (try simp (disch := omega) only [wrap_fits])
                       all_goals first
                         | (refine hK _ _ ?_; exact Red.auto)
                         | exact trivial
                         | assumption
                         | omega
                         | exact wrap_fits (by omega) (by omega)
                         | (simp_all; done)
                         | (simp_all; omega))
                    | (simp_all; done)
                    | (simp_all; omega)
                · clear hr0
                  refine awp_block ?_
                  refine awp_reg ftCOk [(0, .pp 0 0), (4, .pp 2 0), (5, .pp 4 0), (40, .v (.int .i64 y_17)), (47, .v (.bool (y_17 == 0)))] [.box [.sl 1, .v (.int .i64 y_18)], .row false (.ints .u8 a0_0), .box [.v (.int .i64 0), .sl 3], .row true (.trips []), .box [.v (.int .i64 t5_0_1), .sl 5], .row true (.trips t5_1s_1)] ?_
                  refine awp_cond (t := 47) rfl (fun hc41 => ?_) (fun hc41 => ?_)
                  · replace h := bite_t h hc41
                    replace h := bind_some h
                    obtain ⟨⟨y_19, y_20⟩, hr0, h⟩ := h
                    try dsimp only at h
                    replace h := chk_some h
                    obtain ⟨hp1, h⟩ := h
                    refine awp_end [(4, .pp 2 0), (5, .pp 4 0)] [.box [.sl 1, .v (.int .i64 y_20)], .row false (.ints .u8 a0_0), .box [.v (.int .i64 0), .sl 3], .row true (.trips []), .box [.v (.int .i64 (([(-1), 17] : List Int).getD y_19.toNat 0)), .sl 5], .row true (.trips t5_1s_1), .row true (.ints .i64 [(-1), 17])] ?_ ?_
                    · clear h
                      intro K hK
                      refine awp_region ftCOk ?_
                      simp (maxSteps := 4000000) only [go_sem, Nat.reduceBEq, Nat.reduceLT, Nat.reduceAdd, Nat.reduceLeDiff, Nat.reduceSub, Nat.reduceEqDiff, Int.reduceToNat, reduceCtorEq, ↓reduceIte]
                      repeat' (first | refine And.intro ?_ ?_ | intro hg)
                      all_goals (try simp (disch := omega) only [wrap_fits])
                      all_goals first
                        | (refine hK _ _ ?_; exact Red.auto)
                        | exact trivial
                        | assumption
                        | omega
                        | exact wrap_fits (by omega) (by omega)
                        | (refine wpA_callA (k_spec_l20Rd_pick a0_0 y_18 2 (h := hr0)) [0, 1] [] ?_
                           rintro x Hc' ⟨rfl, rfl⟩ hlen
                           refine vcOps_sound ftCOk ?_
                           simp (maxSteps := 4000000) only [go_sem, Nat.reduceBEq, Nat.reduceLT, Nat.reduceAdd, Nat.reduceLeDiff, Nat.reduceSub, Nat.reduceEqDiff, Int.reduceToNat, reduceCtorEq, ↓reduceIte]
                           repeat' (first | refine And.intro ?_ ?_ | intro hg)
                           all_goals (try simp (disch := omega) only [wrap_fits])
                           all_goals first
                             | (refine hK _ _ ?_; exact Red.auto)
                             | exact trivial
                             | assumption
                             | omega
                             | exact wrap_fits (by omega) (by omega)
                             | (simp_all; done)
                             | (simp_all; omega))
                        | (simp_all; done)
                        | (simp_all; omega)
                    · clear hr0 hp1
                      (try simp only [Thn, InBlk, ↓reduceIte, Nat.reduceEqDiff])
                      (try simp only [Thn, InBlk, ↓reduceIte, Nat.reduceEqDiff])
                      refine ⟨_, h, ?_⟩
                      exact Red.selA [0, 1, 2, 3, 4, 5] Red.auto
                  · replace h := bite_f h hc41
                    refine awp_reg ftCOk [(4, .pp 2 0), (5, .pp 4 0), (40, .v (.int .i64 y_17)), (55, .v (.bool (y_17 == 1)))] [.box [.sl 1, .v (.int .i64 y_18)], .row false (.ints .u8 a0_0), .box [.v (.int .i64 0), .sl 3], .row true (.trips []), .box [.v (.int .i64 t5_0_1), .sl 5], .row true (.trips t5_1s_1)] ?_
                    refine awp_cond (t := 55) rfl (fun hc42 => ?_) (fun hc42 => ?_)
                    · replace h := bite_t h hc42
                      replace h := chk_some h
                      obtain ⟨hp0, h⟩ := h
                      refine awp_regE ftCOk [(4, .pp 2 0), (5, .pp 4 0)] [.box [.sl 1, .v (.int .i64 y_18)], .row false (.ints .u8 a0_0), .box [.v (.int .i64 0), .sl 3], .row true (.trips []), .box [.v (.int .i64 t5_0_1), .sl 5], .row true (.trips (t5_1s_1 ++ [(0, 0, 0)])), .row true (.trips [(0, 0, 0)])] ?_
                      clear hp0
                      (try simp only [Thn, InBlk, ↓reduceIte, Nat.reduceEqDiff])
                      (try simp only [Thn, InBlk, ↓reduceIte, Nat.reduceEqDiff])
                      refine ⟨_, h, ?_⟩
                      exact Red.selA [0, 1, 2, 3, 4, 5] Red.auto
                    · replace h := bite_f h hc42
                      refine awp_reg ftCOk [(4, .pp 2 0), (5, .pp 4 0), (63, .v (.bool (y_17 == 2)))] [.box [.sl 1, .v (.int .i64 y_18)], .row false (.ints .u8 a0_0), .box [.v (.int .i64 0), .sl 3], .row true (.trips []), .box [.v (.int .i64 t5_0_1), .sl 5], .row true (.trips t5_1s_1)] ?_
                      refine awp_cond (t := 63) rfl (fun hc43 => ?_) (fun hc43 => ?_)
                      · replace h := bite_t h hc43
                        replace h := chk_some h
                        obtain ⟨hp0, h⟩ := h
                        refine awp_regE ftCOk [(4, .pp 2 0), (5, .pp 4 0)] [.box [.sl 1, .v (.int .i64 y_18)], .row false (.ints .u8 a0_0), .box [.v (.int .i64 0), .sl 3], .row true (.trips []), .box [.v (.int .i64 t5_0_1), .sl 5], .row true (.trips (t5_1s_1 ++ [(0, 1, 21)])), .row true (.trips [(0, 1, 21)])] ?_
                        clear hp0
                        (try simp only [Thn, InBlk, ↓reduceIte, Nat.reduceEqDiff])
                        (try simp only [Thn, InBlk, ↓reduceIte, Nat.reduceEqDiff])
                        refine ⟨_, h, ?_⟩
                        exact Red.selA [0, 1, 2, 3, 4, 5] Red.auto
                      · replace h := bite_f h hc43
                        replace h := chk_some h
                        obtain ⟨hp0, h⟩ := h
                        refine awp_regE ftCOk [(4, .pp 2 0), (5, .pp 4 0)] [.box [.sl 1, .v (.int .i64 y_18)], .row false (.ints .u8 a0_0), .box [.v (.int .i64 0), .sl 3], .row true (.trips []), .box [.v (.int .i64 t5_0_1), .sl 6], .row true (.trips t5_1s_1), .row true (.trips ([(15, 0, 0)] ++ t5_1s_1))] ?_
                        clear hp0
                        (try simp only [Thn, InBlk, ↓reduceIte, Nat.reduceEqDiff])
                        (try simp only [Thn, InBlk, ↓reduceIte, Nat.reduceEqDiff])
                        refine ⟨_, h, ?_⟩
                        exact Red.selA [0, 1, 2, 3, 4, 6] Red.auto
              · replace h := bite_f h hc40
                refine awp_skip ?_
                (try simp only [Thn, InBlk, ↓reduceIte, Nat.reduceEqDiff])
                refine ⟨_, h, ?_⟩
                exact Red.auto
          · clear h
            rintro ⟨p0_1_2, t5_0_2, t5_1s_2⟩ h
            try dsimp only at h
            try dsimp only
            refine awp_reg ftCOk [(4, .pp 2 0)] [.box [.sl 1, .v (.int .i64 p0_1_2)], .row false (.ints .u8 a0_0), .box [.v (.int .i64 t5_0_2), .sl 5], .row true (.trips []), .box [.v (.int .i64 t5_0_2), .sl 5], .row true (.trips t5_1s_2)] ?_
            refine awp_ret ?_
            (try simp only [Thn, InBlk, ↓reduceIte, Nat.reduceEqDiff])
            obtain rfl := Option.some.inj h
            refine ⟨by simp, _, [0, 1, 5], (by simp only [go_sem, Nat.reduceBEq, Nat.reduceLT, Nat.reduceAdd, Nat.reduceLeDiff, Nat.reduceSub, Nat.reduceEqDiff, Int.reduceToNat, reduceCtorEq, ↓reduceIte]; exact rfl), ?_, ?_, ?_, ?_⟩
            · first | exact trivial | exact ⟨trivial, trivial⟩ | exact ⟨trivial, trivial, trivial⟩ | exact ⟨trivial, trivial, trivial, trivial⟩ | (simp only [allP, and_true, true_and]; done) | (simp only [allP, and_true, true_and]; omega)
            · simp [selOk, pos]
            · simp
            · first | exact ⟨rfl, rfl⟩ | (simp only [go_sem, Nat.reduceBEq, Nat.reduceLT, Nat.reduceAdd, Nat.reduceLeDiff, Nat.reduceSub, Nat.reduceEqDiff, Int.reduceToNat, reduceCtorEq, ↓reduceIte]; done) | (simp [go_sem, Nat.reduceBEq, Nat.reduceLT, Nat.reduceAdd, Nat.reduceLeDiff, Nat.reduceSub, Nat.reduceEqDiff, Int.reduceToNat, reduceCtorEq, ↓reduceIte]; done) | (simp only [go_sem, Nat.reduceBEq, Nat.reduceLT, Nat.reduceAdd, Nat.reduceLeDiff, Nat.reduceSub, Nat.reduceEqDiff, Int.reduceToNat, reduceCtorEq, ↓reduceIte]; exact ⟨rfl, rfl⟩) | (simp_all [go_sem, Nat.reduceBEq, Nat.reduceLT, Nat.reduceAdd, Nat.reduceLeDiff, Nat.reduceSub, Nat.reduceEqDiff, Int.reduceToNat, reduceCtorEq, ↓reduceIte]; done)
theorem k_spec_l20At (a0_0 : List Int) (a0_1 : Int) {r : Int × (List (Int × Int × Int)) × Int × Int} (h : spec_l20At a0_0 a0_1 = some r) :
    FnA Try.prog 10 [.pp 0 0] [.box [.sl 1, .v (.int .i64 a0_1)], .row false (.ints .u8 a0_0)] [] (fun x H => x = .tup [.agg [.v (.int .i64 r.1), .sl 2], .v (.int .i64 r.2.2.1)] ∧ H = [.box [.sl 1, .v (.int .i64 r.2.2.2)], .row false (.ints .u8 a0_0), .row true (.trips r.2.1)]) := by
  unfold spec_l20At at h
  refine FnA.of (N := 22) (pin := [0, 1]) (rs := [.cell 2 25, .tmp 3]) Try.func10 rfl en10 rfl rfl (by simp) (by simp; try omega) ?_
  refine awp_reg ftCOk [(0, .pp 0 0), (2, .pp 2 0)] [.box [.sl 1, .v (.int .i64 a0_1)], .row false (.ints .u8 a0_0), .box [.v (.int .i64 0), .v (.slice none 0 0)]] ?_
  replace h := bind_some h
  obtain ⟨⟨y, y_1, y_2⟩, hr0, h⟩ := h
  try dsimp only at h
  refine awp_to [(0, .pp 0 0), (2, .pp 2 0), (4, .pp 4 0)] [.box [.sl 1, .v (.int .i64 y_2)], .row false (.ints .u8 a0_0), .box [.v (.int .i64 0), .v (.slice none 0 0)], .row true (.trips y_1), .box [.v (.int .i64 y), .sl 3]] ?_ ?_
  · clear h
    intro K hK
    refine awp_region ftCOk ?_
    simp (maxSteps := 4000000) only [go_sem, Nat.reduceBEq, Nat.reduceLT, Nat.reduceAdd, Nat.reduceLeDiff, Nat.reduceSub, Nat.reduceEqDiff, Int.reduceToNat, reduceCtorEq, ↓reduceIte]
    repeat' (first | refine And.intro ?_ ?_ | intro hg)
    all_goals (try simp (disch := omega) only [wrap_fits])
    all_goals first
      | (refine hK _ _ ?_; exact Red.auto)
      | exact trivial
      | assumption
      | omega
      | exact wrap_fits (by omega) (by omega)
      | (refine wpA_callA (k_spec_l20Graph a0_0 a0_1 12 (h := hr0)) [0, 1] [] ?_
         rintro x Hc' ⟨rfl, rfl⟩ hlen
         refine vcOps_sound ftCOk ?_
         simp (maxSteps := 4000000) only [go_sem, Nat.reduceBEq, Nat.reduceLT, Nat.reduceAdd, Nat.reduceLeDiff, Nat.reduceSub, Nat.reduceEqDiff, Int.reduceToNat, reduceCtorEq, ↓reduceIte]
         repeat' (first | refine And.intro ?_ ?_ | intro hg)
         all_goals (try simp (disch := omega) only [wrap_fits])
         all_goals first
           | (refine hK _ _ ?_; exact Red.auto)
           | exact trivial
           | assumption
           | omega
           | exact wrap_fits (by omega) (by omega)
           | (simp_all; done)
           | (simp_all; omega))
      | (simp_all; done)
      | (simp_all; omega)
  · clear hr0
    replace h := bind_some h
    obtain ⟨⟨y_3, y_4⟩, hr0, h⟩ := h
    try dsimp only at h
    replace h := bind_some h
    obtain ⟨⟨y_5, y_6⟩, hr1, h⟩ := h
    try dsimp only at h
    replace h := chk_some h
    obtain ⟨hp2, h⟩ := h
    replace h := chk_some h
    obtain ⟨hp3, h⟩ := h
    have hwhp3 := wrap_fits hp3.1 hp3.2
    replace h := bind_some h
    obtain ⟨⟨y_7, y_8⟩, hr4, h⟩ := h
    try dsimp only at h
    replace h := chk_some h
    obtain ⟨hp5, h⟩ := h
    replace h := chk_some h
    obtain ⟨hp6, h⟩ := h
    replace h := chk_some h
    obtain ⟨hp7, h⟩ := h
    refine awp_to [(2, .pp 2 0), (3, .v (.int .i64 ((y_3 - (y_5 / 11)) + ((y_7 / 11) * 20))))] [.box [.sl 1, .v (.int .i64 y_8)], .row false (.ints .u8 a0_0), .box [.v (.int .i64 y), .sl 3], .row true (.trips y_1), .box [.v (.int .i64 y), .sl 3]] ?_ ?_
    · clear h
      intro K hK
      refine awp_drawT mixed ftCOk (.free 1 (.free 2 (.free 6 (.free 10 (.two 0 3 (.one 3 (.one 4 (.one 5 (.one 7 (.free 8 (.free 9 (.one 11 (.free 12 (.free 13 (.free 14 (.one 15 (.one 16 .fin)))))))))))) (.free 4 (.two 0 5 (.one 5 (.one 7 (.free 8 (.free 9 (.one 11 (.free 12 (.free 13 (.free 14 (.one 15 (.one 16 .fin)))))))))) (.two 0 7 (.one 7 (.free 8 (.free 9 (.one 11 (.free 12 (.free 13 (.free 14 (.one 15 (.one 16 .fin))))))))) (.free 8 (.free 9 (.two 0 11 (.one 11 (.free 12 (.free 13 (.free 14 (.one 15 (.one 16 .fin)))))) (.free 12 (.free 13 (.free 14 (.one 0 (.one 15 (.one 16 .fin))))))))))))))))) (by kernel_rfl) (by simp) ?_
      simp (maxSteps := 4000000) only [go_sem, Nat.reduceBEq, Nat.reduceLT, Nat.reduceAdd, Nat.reduceLeDiff, Nat.reduceSub, Nat.reduceEqDiff, Int.reduceToNat, reduceCtorEq, ↓reduceIte]
      repeat' (first | refine And.intro ?_ ?_ | intro hg)
      all_goals (try simp (disch := omega) only [wrap_fits])
      all_goals first
        | (refine hK _ _ ?_; exact Red.auto)
        | exact trivial
        | assumption
        | omega
        | exact wrap_fits (by omega) (by omega)
        | (refine OpK_callA (k_spec_l20Rd_pick a0_0 y_2 (max 1 y) (h := hr0)) [0, 1] [] ?_
           rintro x Hc' ⟨rfl, rfl⟩ hlen
           simp (maxSteps := 4000000) only [go_sem, Nat.reduceBEq, Nat.reduceLT, Nat.reduceAdd, Nat.reduceLeDiff, Nat.reduceSub, Nat.reduceEqDiff, Int.reduceToNat, reduceCtorEq, ↓reduceIte]
           repeat' (first | refine And.intro ?_ ?_ | intro hg)
           all_goals (try simp (disch := omega) only [wrap_fits])
           all_goals first
             | (refine hK _ _ ?_; exact Red.auto)
             | exact trivial
             | assumption
             | omega
             | exact wrap_fits (by omega) (by omega)
             | (refine OpK_callA (k_spec_l20Rd_pick a0_0 y_4 12 (h := hr1)) [0, 1] [] ?_
                rintro x Hc' ⟨rfl, rfl⟩ hlen
                simp (maxSteps := 4000000) only [go_sem, Nat.reduceBEq, Nat.reduceLT, Nat.reduceAdd, Nat.reduceLeDiff, Nat.reduceSub, Nat.reduceEqDiff, Int.reduceToNat, reduceCtorEq, ↓reduceIte]
                repeat' (first | refine And.intro ?_ ?_ | intro hg)
                all_goals (try simp (disch := omega) only [wrap_fits])
                all_goals first
                  | (refine hK _ _ ?_; exact Red.auto)
                  | exact trivial
                  | assumption
                  | omega
                  | exact wrap_fits (by omega) (by omega)
                  | (refine OpK_callA (k_spec_l20Rd_pick a0_0 y_6 12 (h := hr4)) [0, 1] [] ?_
                     rintro x Hc' ⟨rfl, rfl⟩ hlen
                     simp (maxSteps := 4000000) only [go_sem, Nat.reduceBEq, Nat.reduceLT, Nat.reduceAdd, Nat.reduceLeDiff, Nat.reduceSub, Nat.reduceEqDiff, Int.reduceToNat, reduceCtorEq, ↓reduceIte]
                     repeat' (first | refine And.intro ?_ ?_ | intro hg)
                     all_goals (try simp (disch := omega) only [wrap_fits])
                     all_goals first
                       | (refine hK _ _ ?_; exact Red.auto)
                       | exact trivial
                       | assumption
                       | omega
                       | exact wrap_fits (by omega) (by omega)
                       | (simp (maxSteps := 4000000) only [go_sem, Nat.reduceBEq, Nat.reduceLT, Nat.reduceAdd, Nat.reduceLeDiff, Nat.reduceSub, Nat.reduceEqDiff, Int.reduceToNat, reduceCtorEq, ↓reduceIte]
                          repeat' (first | refine And.intro ?_ ?_ | intro hg)
                          all_goals (try simp (disch := omega) only [wrap_fits])
                          all_goals first | (refine hK _ _ ?_; exact Red.auto) | exact trivial | assumption | omega | exact wrap_fits (by omega) (by omega))
                       | (simp_all; done)
                       | (simp_all; omega))
                  | (simp_all; done)
                  | (simp_all; omega))
             | (simp_all; done)
             | (simp_all; omega))
        | (simp_all; done)
        | (simp_all; omega)
    · clear hr0 hr1 hp2 hp3 hr4 hp5 hp6 hp7
      refine awp_ret ?_
      (try simp only [Thn, InBlk, ↓reduceIte, Nat.reduceEqDiff])
      obtain rfl := Option.some.inj h
      refine ⟨by simp, _, [0, 1, 3], (by simp only [go_sem, Nat.reduceBEq, Nat.reduceLT, Nat.reduceAdd, Nat.reduceLeDiff, Nat.reduceSub, Nat.reduceEqDiff, Int.reduceToNat, reduceCtorEq, ↓reduceIte]; exact rfl), ?_, ?_, ?_, ?_⟩
      · first | exact trivial | exact ⟨trivial, trivial⟩ | exact ⟨trivial, trivial, trivial⟩ | exact ⟨trivial, trivial, trivial, trivial⟩ | (simp only [allP, and_true, true_and]; done) | (simp only [allP, and_true, true_and]; omega)
      · simp [selOk, pos]
      · simp
      · first | exact ⟨rfl, rfl⟩ | (simp only [go_sem, Nat.reduceBEq, Nat.reduceLT, Nat.reduceAdd, Nat.reduceLeDiff, Nat.reduceSub, Nat.reduceEqDiff, Int.reduceToNat, reduceCtorEq, ↓reduceIte]; done) | (simp [go_sem, Nat.reduceBEq, Nat.reduceLT, Nat.reduceAdd, Nat.reduceLeDiff, Nat.reduceSub, Nat.reduceEqDiff, Int.reduceToNat, reduceCtorEq, ↓reduceIte]; done) | (simp only [go_sem, Nat.reduceBEq, Nat.reduceLT, Nat.reduceAdd, Nat.reduceLeDiff, Nat.reduceSub, Nat.reduceEqDiff, Int.reduceToNat, reduceCtorEq, ↓reduceIte]; exact ⟨rfl, rfl⟩) | (simp_all [go_sem, Nat.reduceBEq, Nat.reduceLT, Nat.reduceAdd, Nat.reduceLeDiff, Nat.reduceSub, Nat.reduceEqDiff, Int.reduceToNat, reduceCtorEq, ↓reduceIte]; done)
theorem k_spec_l20Open_v1 (a0 : List Int) {r : List Int × Int} (h : spec_l20Open_v1 a0 = some r) :
    FnA Try.prog 11 [.sl 0] [.row false (.ints .u8 a0), .box [.v (.int .i64 0), .v (.slice none 0 0)]] [] (fun x H => x = .pp 2 0 ∧ H = [.row false (.ints .u8 a0), .box [.v (.int .i64 0), .v (.slice none 0 0)], .box [.sl 3, .v (.int .i64 r.2)], .row false (.ints .u8 r.1)]) := by
  unfold spec_l20Open_v1 at h
  refine FnA.of (N := 11) (pin := [0, 1]) (rs := [.tmp 2]) Try.func11 rfl en11 rfl rfl (by simp) (by simp; try omega) ?_
  refine awp_reg ftCOk [(0, .sl 0)] [.row false (.ints .u8 a0), .box [.v (.int .i64 0), .v (.slice none 0 0)]] ?_
  refine awp_join h (fun (t0s : List Int) => [(0, .sl 2)]) (fun (t0s : List Int) => [.row false (.ints .u8 a0), .box [.v (.int .i64 0), .v (.slice none 0 0)], .row false (.ints .u8 t0s)]) ?_ ?_
  · clear h
    intro k h
    try dsimp only at h
    refine awp_reg ftCOk [(0, .sl 0), (5, .v (.bool (decide (2000 < (a0.length : Int)))))] [.row false (.ints .u8 a0), .box [.v (.int .i64 0), .v (.slice none 0 0)]] ?_
    refine awp_cond (t := 5) rfl (fun hc2 => ?_) (fun hc2 => ?_)
    · replace h := bite_t h hc2
      replace h := chk_some h
      obtain ⟨hp0, h⟩ := h
      refine awp_regE ftCOk [(0, .sl 2)] [.row false (.ints .u8 a0), .box [.v (.int .i64 0), .v (.slice none 0 0)], .row false (.ints .u8 ((a0.take 2000).drop 0))] ?_
      clear hp0
      (try simp only [Thn, InBlk, ↓reduceIte, Nat.reduceEqDiff])
      refine ⟨_, h, ?_⟩
      exact Red.auto
    · replace h := bite_f h hc2
      refine awp_skip ?_
      (try simp only [Thn, InBlk, ↓reduceIte, Nat.reduceEqDiff])
      refine ⟨_, h, ?_⟩
      refine Red.trans (Red.dup (t := 0) rfl rfl) ?_
      exact Red.auto
  · clear h
    rintro t0s h
    try dsimp only at h
    try dsimp only
    refine awp_reg ftCOk [(2, .pp 3 0)] [.row false (.ints .u8 a0), .box [.v (.int .i64 0), .v (.slice none 0 0)], .row false (.ints .u8 t0s), .box [.sl 2, .v (.int .i64 0)]] ?_
    refine awp_ret ?_
    (try simp only [Thn, InBlk, ↓reduceIte, Nat.reduceEqDiff])
    obtain rfl := Option.some.inj h
    refine ⟨by simp, _, [0, 1, 3, 2], (by simp only [go_sem, Nat.reduceBEq, Nat.reduceLT, Nat.reduceAdd, Nat.reduceLeDiff, Nat.reduceSub, Nat.reduceEqDiff, Int.reduceToNat, reduceCtorEq, ↓reduceIte]; exact rfl), ?_, ?_, ?_, ?_⟩
    · first | exact trivial | exact ⟨trivial, trivial⟩ | exact ⟨trivial, trivial, trivial⟩ | exact ⟨trivial, trivial, trivial, trivial⟩ | (simp only [allP, and_true, true_and]; done) | (simp only [allP, and_true, true_and]; omega)
    · simp [selOk, pos]
    · simp
    · first | exact ⟨rfl, rfl⟩ | (simp only [go_sem, Nat.reduceBEq, Nat.reduceLT, Nat.reduceAdd, Nat.reduceLeDiff, Nat.reduceSub, Nat.reduceEqDiff, Int.reduceToNat, reduceCtorEq, ↓reduceIte]; done) | (simp [go_sem, Nat.reduceBEq, Nat.reduceLT, Nat.reduceAdd, Nat.reduceLeDiff, Nat.reduceSub, Nat.reduceEqDiff, Int.reduceToNat, reduceCtorEq, ↓reduceIte]; done) | (simp only [go_sem, Nat.reduceBEq, Nat.reduceLT, Nat.reduceAdd, Nat.reduceLeDiff, Nat.reduceSub, Nat.reduceEqDiff, Int.reduceToNat, reduceCtorEq, ↓reduceIte]; exact ⟨rfl, rfl⟩) | (simp_all [go_sem, Nat.reduceBEq, Nat.reduceLT, Nat.reduceAdd, Nat.reduceLeDiff, Nat.reduceSub, Nat.reduceEqDiff, Int.reduceToNat, reduceCtorEq, ↓reduceIte]; done)
theorem k_spec_DrawCostsFrom (a0 : List Int) {r : Int × (List (Int × Int × Int)) × Int} (h : spec_DrawCostsFrom a0 = some r) :
    FnA Try.prog 4 [.sl 0] [.row false (.ints .u8 a0)] [] (fun x H => x = .tup [.agg [.v (.int .i64 r.1), .sl 1], .v (.int .i64 r.2.2)] ∧ H = [.row false (.ints .u8 a0), .row true (.trips r.2.1)]) := by
  unfold spec_DrawCostsFrom at h
  refine FnA.of (N := 9) (pin := [0]) (rs := [.cell 2 25, .tmp 3]) Try.func4 rfl en4 rfl rfl (by simp) (by simp; try omega) ?_
  refine awp_reg ftCOk [(0, .sl 0), (2, .pp 1 0)] [.row false (.ints .u8 a0), .box [.v (.int .i64 0), .v (.slice none 0 0)]] ?_
  replace h := bind_some h
  obtain ⟨⟨y, y_1⟩, hr0, h⟩ := h
  try dsimp only at h
  replace h := bind_some h
  obtain ⟨⟨y_2, y_3, y_4, y_5⟩, hr1, h⟩ := h
  try dsimp only at h
  refine awp_to [(2, .pp 1 0), (3, .v (.int .i64 y_4))] [.row false (.ints .u8 a0), .box [.v (.int .i64 y_2), .sl 4], .box [.sl 3, .v (.int .i64 y_5)], .row false (.ints .u8 y), .row true (.trips y_3)] ?_ ?_
  · clear h
    intro K hK
    refine awp_region ftCOk ?_
    simp (maxSteps := 4000000) only [go_sem, Nat.reduceBEq, Nat.reduceLT, Nat.reduceAdd, Nat.reduceLeDiff, Nat.reduceSub, Nat.reduceEqDiff, Int.reduceToNat, reduceCtorEq, ↓reduceIte]
    repeat' (first | refine And.intro ?_ ?_ | intro hg)
    all_goals (try simp (disch := omega) only [wrap_fits])
    all_goals first
      | (refine hK _ _ ?_; exact Red.auto)
      | exact trivial
      | assumption
      | omega
      | exact wrap_fits (by omega) (by omega)
      | (refine wpA_here (k_spec_l20Open_v1 a0 (h := hr0)) ?_
         rintro x Hc' ⟨rfl, rfl⟩ hlen
         refine vcOps_sound ftCOk ?_
         simp (maxSteps := 4000000) only [go_sem, Nat.reduceBEq, Nat.reduceLT, Nat.reduceAdd, Nat.reduceLeDiff, Nat.reduceSub, Nat.reduceEqDiff, Int.reduceToNat, reduceCtorEq, ↓reduceIte]
         repeat' (first | refine And.intro ?_ ?_ | intro hg)
         all_goals (try simp (disch := omega) only [wrap_fits])
         all_goals first
           | (refine hK _ _ ?_; exact Red.auto)
           | exact trivial
           | assumption
           | omega
           | exact wrap_fits (by omega) (by omega)
           | (refine wpA_callA (k_spec_l20At y y_1 (h := hr1)) [2, 3] [] ?_
              rintro x Hc' ⟨rfl, rfl⟩ hlen
              refine vcOps_sound ftCOk ?_
              simp (maxSteps := 4000000) only [go_sem, Nat.reduceBEq, Nat.reduceLT, Nat.reduceAdd, Nat.reduceLeDiff, Nat.reduceSub, Nat.reduceEqDiff, Int.reduceToNat, reduceCtorEq, ↓reduceIte]
              repeat' (first | refine And.intro ?_ ?_ | intro hg)
              all_goals (try simp (disch := omega) only [wrap_fits])
              all_goals first
                | (refine hK _ _ ?_; exact Red.auto)
                | exact trivial
                | assumption
                | omega
                | exact wrap_fits (by omega) (by omega)
                | (simp_all; done)
                | (simp_all; omega))
           | (simp_all; done)
           | (simp_all; omega))
      | (simp_all; done)
      | (simp_all; omega)
  · clear hr0 hr1
    refine awp_ret ?_
    (try simp only [Thn, InBlk, ↓reduceIte, Nat.reduceEqDiff])
    obtain rfl := Option.some.inj h
    refine ⟨by simp, _, [0, 4], (by simp only [go_sem, Nat.reduceBEq, Nat.reduceLT, Nat.reduceAdd, Nat.reduceLeDiff, Nat.reduceSub, Nat.reduceEqDiff, Int.reduceToNat, reduceCtorEq, ↓reduceIte]; exact rfl), ?_, ?_, ?_, ?_⟩
    · first | exact trivial | exact ⟨trivial, trivial⟩ | exact ⟨trivial, trivial, trivial⟩ | exact ⟨trivial, trivial, trivial, trivial⟩ | (simp only [allP, and_true, true_and]; done) | (simp only [allP, and_true, true_and]; omega)
    · simp [selOk, pos]
    · simp
    · first | exact ⟨rfl, rfl⟩ | (simp only [go_sem, Nat.reduceBEq, Nat.reduceLT, Nat.reduceAdd, Nat.reduceLeDiff, Nat.reduceSub, Nat.reduceEqDiff, Int.reduceToNat, reduceCtorEq, ↓reduceIte]; done) | (simp [go_sem, Nat.reduceBEq, Nat.reduceLT, Nat.reduceAdd, Nat.reduceLeDiff, Nat.reduceSub, Nat.reduceEqDiff, Int.reduceToNat, reduceCtorEq, ↓reduceIte]; done) | (simp only [go_sem, Nat.reduceBEq, Nat.reduceLT, Nat.reduceAdd, Nat.reduceLeDiff, Nat.reduceSub, Nat.reduceEqDiff, Int.reduceToNat, reduceCtorEq, ↓reduceIte]; exact ⟨rfl, rfl⟩) | (simp_all [go_sem, Nat.reduceBEq, Nat.reduceLT, Nat.reduceAdd, Nat.reduceLeDiff, Nat.reduceSub, Nat.reduceEqDiff, Int.reduceToNat, reduceCtorEq, ↓reduceIte]; done)
theorem k_impl_Graph_has (a0_0 : Int) (a0_1 : List (Int × Int × Int)) (a1 : Int) {r : Bool} (h : impl_Graph_has a0_0 a0_1 a1 = some r) :
    FnA Try.prog 13 [.agg [.v (.int .i64 a0_0), .sl 0], .v (.int .i64 a1)] [.row false (.trips a0_1)] [] (fun x H => x = .v (.bool r) ∧ H = [.row false (.trips a0_1)]) := by
  unfold impl_Graph_has at h
  refine FnA.of (N := 13) (pin := [0]) (rs := [.tmp 4]) Try.func13 rfl en13 rfl rfl (by simp) (by simp; try omega) ?_
  refine awp_reg ftCOk [(1, .v (.int .i64 a1)), (2, .pp 1 0)] [.row false (.trips a0_1), .box [.v (.int .i64 a0_0), .sl 0]] ?_
  refine awp_freeze 2 (by rfl) (by rfl) (by exact rfl) ?_
  refine awp_reg ftCOk [(4, .v (.bool ((decide (0 ≤ a1)) && (decide (a1 < a0_0)))))] [.row false (.trips a0_1), .rbox [.v (.int .i64 a0_0), .sl 0]] ?_
  refine awp_ret ?_
  (try simp only [Thn, InBlk, ↓reduceIte, Nat.reduceEqDiff])
  obtain rfl := Option.some.inj h
  refine ⟨by simp, _, [0], (by simp only [go_sem, Nat.reduceBEq, Nat.reduceLT, Nat.reduceAdd, Nat.reduceLeDiff, Nat.reduceSub, Nat.reduceEqDiff, Int.reduceToNat, reduceCtorEq, ↓reduceIte]; exact rfl), ?_, ?_, ?_, ?_⟩
  · first | exact trivial | exact ⟨trivial, trivial⟩ | exact ⟨trivial, trivial, trivial⟩ | exact ⟨trivial, trivial, trivial, trivial⟩ | (simp only [allP, and_true, true_and]; done) | (simp only [allP, and_true, true_and]; omega)
  · simp [selOk, pos]
  · simp
  · first | exact ⟨rfl, rfl⟩ | (simp only [go_sem, Nat.reduceBEq, Nat.reduceLT, Nat.reduceAdd, Nat.reduceLeDiff, Nat.reduceSub, Nat.reduceEqDiff, Int.reduceToNat, reduceCtorEq, ↓reduceIte]; done) | (simp [go_sem, Nat.reduceBEq, Nat.reduceLT, Nat.reduceAdd, Nat.reduceLeDiff, Nat.reduceSub, Nat.reduceEqDiff, Int.reduceToNat, reduceCtorEq, ↓reduceIte]; done) | (simp only [go_sem, Nat.reduceBEq, Nat.reduceLT, Nat.reduceAdd, Nat.reduceLeDiff, Nat.reduceSub, Nat.reduceEqDiff, Int.reduceToNat, reduceCtorEq, ↓reduceIte]; exact ⟨rfl, rfl⟩) | (simp_all [go_sem, Nat.reduceBEq, Nat.reduceLT, Nat.reduceAdd, Nat.reduceLeDiff, Nat.reduceSub, Nat.reduceEqDiff, Int.reduceToNat, reduceCtorEq, ↓reduceIte]; done)
theorem k_impl_GraphValid (a0_0 : Int) (a0_1 : List (Int × Int × Int)) {r : Bool} (h : impl_GraphValid a0_0 a0_1 = some r) :
    FnA Try.prog 12 [.agg [.v (.int .i64 a0_0), .sl 0]] [.row false (.trips a0_1)] [] (fun x H => x = .v (.bool r) ∧ H = [.row false (.trips a0_1)]) := by
  unfold impl_GraphValid at h
  refine FnA.of (N := 68) (pin := [0]) (rs := [.tmp 2]) Try.func12 rfl en12 rfl rfl (by simp) (by simp; try omega) ?_
  refine awp_reg ftCOk [(1, .pp 1 0)] [.row false (.trips a0_1), .box [.v (.int .i64 a0_0), .sl 0]] ?_
  refine awp_freeze 1 (by rfl) (by rfl) (by exact rfl) ?_
  refine awp_seq fun K2 hK2 => ?_
  refine awp_reg ftCOk [(1, .pp 1 0), (18, .v (.bool (((decide (a0_0 < 0)) || (decide (16 < a0_0))) || (decide (40 < (a0_1.length : Int))))))] [.row false (.trips a0_1), .rbox [.v (.int .i64 a0_0), .sl 0]] ?_
  refine awp_cond (t := 18) rfl (fun hc3 => ?_) (fun hc3 => ?_)
  · replace h := bite_t h hc3
    refine awp_reg ftCOk [(2, .v (.bool false))] [.row false (.trips a0_1), .rbox [.v (.int .i64 a0_0), .sl 0]] ?_
    refine awp_ret ?_
    (try simp only [Thn, InBlk, ↓reduceIte, Nat.reduceEqDiff])
    obtain rfl := Option.some.inj h
    refine ⟨by simp, _, [0], (by simp only [go_sem, Nat.reduceBEq, Nat.reduceLT, Nat.reduceAdd, Nat.reduceLeDiff, Nat.reduceSub, Nat.reduceEqDiff, Int.reduceToNat, reduceCtorEq, ↓reduceIte]; exact rfl), ?_, ?_, ?_, ?_⟩
    · first | exact trivial | exact ⟨trivial, trivial⟩ | exact ⟨trivial, trivial, trivial⟩ | exact ⟨trivial, trivial, trivial, trivial⟩ | (simp only [allP, and_true, true_and]; done) | (simp only [allP, and_true, true_and]; omega)
    · simp [selOk, pos]
    · simp
    · first | exact ⟨rfl, rfl⟩ | (simp only [go_sem, Nat.reduceBEq, Nat.reduceLT, Nat.reduceAdd, Nat.reduceLeDiff, Nat.reduceSub, Nat.reduceEqDiff, Int.reduceToNat, reduceCtorEq, ↓reduceIte]; done) | (simp [go_sem, Nat.reduceBEq, Nat.reduceLT, Nat.reduceAdd, Nat.reduceLeDiff, Nat.reduceSub, Nat.reduceEqDiff, Int.reduceToNat, reduceCtorEq, ↓reduceIte]; done) | (simp only [go_sem, Nat.reduceBEq, Nat.reduceLT, Nat.reduceAdd, Nat.reduceLeDiff, Nat.reduceSub, Nat.reduceEqDiff, Int.reduceToNat, reduceCtorEq, ↓reduceIte]; exact ⟨rfl, rfl⟩) | (simp_all [go_sem, Nat.reduceBEq, Nat.reduceLT, Nat.reduceAdd, Nat.reduceLeDiff, Nat.reduceSub, Nat.reduceEqDiff, Int.reduceToNat, reduceCtorEq, ↓reduceIte]; done)
  · replace h := bite_f h hc3
    refine awp_skip ?_
    (try simp only [Thn, InBlk, ↓reduceIte, Nat.reduceEqDiff])
    refine hK2 _ _ ?_
    clear hK2
    refine awp_seq fun K59 hK59 => ?_
    refine awp_reg ftCOk [(1, .pp 1 0), (20, .sl 0), (21, .v (.int .i64 (a0_1.length : Int))), (22, .v (.int .i64 0))] [.row false (.trips a0_1), .rbox [.v (.int .i64 a0_0), .sl 0]] ?_
    refine awp_block ?_
    replace h := bind_some h
    obtain ⟨x114, hx, h⟩ := h
    refine awp_loopL hx (fun (t22 : Int) => [(1, .pp 1 0), (20, .sl 0), (21, .v (.int .i64 (a0_1.length : Int))), (22, .v (.int .i64 t22))]) (fun (t22 : Int) => [.row false (.trips a0_1), .rbox [.v (.int .i64 a0_0), .sl 0]]) (Sum.elim (fun (_ : Unit) => Exit.exit 0) (fun (_ : Unit) => Exit.ret)) (Sum.elim (fun (_ : Unit) => []) (fun (_ : Unit) => [(2, .v (.bool false))])) (Sum.elim (fun (_ : Unit) => [.row false (.trips a0_1)]) (fun (_ : Unit) => [.row false (.trips a0_1)])) ?_ ?_ ?_ ?_
    · rintro (⟨⟩ | ⟨⟩) hy <;> cases hy
    · clear h hx
      exact Red.auto
    · clear h hx
      rintro t22 r h
      unfold impl_GraphValid_b0 at h
      try dsimp only at h
      try dsimp only
      refine awp_reg ftCOk [(1, .pp 1 0), (20, .sl 0), (21, .v (.int .i64 (a0_1.length : Int))), (22, .v (.int .i64 t22)), (23, .v (.bool (decide (t22 < (a0_1.length : Int)))))] [.row false (.trips a0_1), .rbox [.v (.int .i64 a0_0), .sl 0]] ?_
      refine awp_seq fun K97 hK97 => ?_
      refine awp_cond (t := 23) rfl (fun hc98 => ?_) (fun hc98 => ?_)
      · replace h := bite_t h hc98
        refine awp_skip ?_
        (try simp only [Thn, InBlk, ↓reduceIte, Nat.reduceEqDiff])
        refine hK97 _ _ ?_
        clear hK97
        refine awp_seq fun K106 hK106 => ?_
        refine awp_block ?_
        replace h := chk_some h
        obtain ⟨hp0, h⟩ := h
        refine awp_reg ftCOk [(1, .pp 1 0), (3, .v (.int .i64 t22)), (4, .pp 2 0), (20, .sl 0), (21, .v (.int .i64 (a0_1.length : Int))), (22, .v (.int .i64 t22))] [.row false (.trips a0_1), .rbox [.v (.int .i64 a0_0), .sl 0], .box [.v (.int .i64 ((a0_1.getD t22.toNat (0, 0, 0)).1)), .v (.int .i64 ((a0_1.getD t22.toNat (0, 0, 0)).2.1)), .v (.int .i64 ((a0_1.getD t22.toNat (0, 0, 0)).2.2))]] ?_
        clear hp0
        refine awp_seq fun K108 hK108 => ?_
        replace h := bind_some h
        obtain ⟨y, hr0, h⟩ := h
        try dsimp only at h
        replace h := bind_some h
        obtain ⟨y_1, hr1, h⟩ := h
        try dsimp only at h
        refine awp_to [(1, .pp 1 0), (3, .v (.int .i64 t22)), (4, .pp 2 0), (20, .sl 0), (21, .v (.int .i64 (a0_1.length : Int))), (22, .v (.int .i64 t22)), (45, .v (.bool (((!y) || (!y_1)) || ((a0_1.getD t22.toNat (0, 0, 0)).1 == (a0_1.getD t22.toNat (0, 0, 0)).2.1))))] [.row false (.trips a0_1), .rbox [.v (.int .i64 a0_0), .sl 0], .box [.v (.int .i64 ((a0_1.getD t22.toNat (0, 0, 0)).1)), .v (.int .i64 ((a0_1.getD t22.toNat (0, 0, 0)).2.1)), .v (.int .i64 ((a0_1.getD t22.toNat (0, 0, 0)).2.2))]] ?_ ?_
        · clear h
          intro K hK
          refine awp_regionA ?_
          refine wpA_cutAt 12 [(1, .pp 1 0), (3, .v (.int .i64 t22)), (4, .pp 2 0), (20, .sl 0), (21, .v (.int .i64 (a0_1.length : Int))), (22, .v (.int .i64 t22)), (38, .v (.bool ((!y) || (!y_1))))] [.row false (.trips a0_1), .rbox [.v (.int .i64 a0_0), .sl 0], .box [.v (.int .i64 ((a0_1.getD t22.toNat (0, 0, 0)).1)), .v (.int .i64 ((a0_1.getD t22.toNat (0, 0, 0)).2.1)), .v (.int .i64 ((a0_1.getD t22.toNat (0, 0, 0)).2.2))]] ?_ ?_
          · clear hK K
            intro K hK
            refine vcOps_sound ftCOk ?_
            simp (maxSteps := 4000000) only [go_sem, Nat.reduceBEq, Nat.reduceLT, Nat.reduceAdd, Nat.reduceLeDiff, Nat.reduceSub, Nat.reduceEqDiff, Int.reduceToNat, reduceCtorEq, ↓reduceIte]
            repeat' (first | refine And.intro ?_ ?_ | intro hg)
            all_goals (try simp (disch := omega) only [wrap_fits])
            all_goals first
              | (refine hK _ _ ?_; exact Red.auto)
              | exact trivial
              | assumption
              | omega
              | exact wrap_fits (by omega) (by omega)
              | (refine wpA_callA (k_impl_Graph_has a0_0 a0_1 ((a0_1.getD t22.toNat (0, 0, 0)).1) (h := hr0)) [0] [] ?_
                 rintro x Hc' ⟨rfl, rfl⟩ hlen
                 refine vcOps_sound ftCOk ?_
                 simp (maxSteps := 4000000) only [go_sem, Nat.reduceBEq, Nat.reduceLT, Nat.reduceAdd, Nat.reduceLeDiff, Nat.reduceSub, Nat.reduceEqDiff, Int.reduceToNat, reduceCtorEq, ↓reduceIte]
                 repeat' (first | refine And.intro ?_ ?_ | intro hg)
                 all_goals (try simp (disch := omega) only [wrap_fits])
                 all_goals first
                   | (refine hK _ _ ?_; exact Red.auto)
                   | exact trivial
                   | assumption
                   | omega
                   | exact wrap_fits (by omega) (by omega)
                   | (refine wpA_guard rfl rfl ?_
                      refine wpA_callA (k_impl_Graph_has a0_0 a0_1 ((a0_1.getD t22.toNat (0, 0, 0)).2.1) (h := (bite_t hr1 (by rw [Bool.not_eq_true']; exact (by first | assumption | (simp only [*, Bool.false_or, Bool.true_or, Bool.or_false, Bool.or_true, Bool.false_and, Bool.true_and, Bool.and_false, Bool.and_true, Bool.not_true, Bool.not_false, beq_self_eq_true]; done) | (simp_all; done)))))) [0] [] ?_
                      rintro x Hc' ⟨rfl, rfl⟩ hlen
                      refine vcOps_sound ftCOk ?_
                      simp (maxSteps := 4000000) only [go_sem, Nat.reduceBEq, Nat.reduceLT, Nat.reduceAdd, Nat.reduceLeDiff, Nat.reduceSub, Nat.reduceEqDiff, Int.reduceToNat, reduceCtorEq, ↓reduceIte]
                      repeat' (first | refine And.intro ?_ ?_ | intro hg)
                      all_goals (try simp (disch := omega) only [wrap_fits])
                      all_goals first
                        | (refine hK _ _ ?_; exact Red.auto)
                        | exact trivial
                        | assumption
                        | omega
                        | exact wrap_fits (by omega) (by omega)
                        | (simp_all; done)
                        | (simp_all; omega))
                   | (simp_all; done)
                   | (simp_all; omega))
              | (simp_all; done)
              | (simp_all; omega)
          refine vcOps_sound ftCOk ?_
          simp (maxSteps := 4000000) only [go_sem, Nat.reduceBEq, Nat.reduceLT, Nat.reduceAdd, Nat.reduceLeDiff, Nat.reduceSub, Nat.reduceEqDiff, Int.reduceToNat, reduceCtorEq, ↓reduceIte]
          repeat' (first | refine And.intro ?_ ?_ | intro hg)
          all_goals (try simp (disch := omega) only [wrap_fits])
          all_goals first
            | (refine hK _ _ ?_; exact Red.auto)
            | exact trivial
            | assumption
            | omega
            | exact wrap_fits (by omega) (by omega)
            | (simp_all; done)
            | (simp_all; omega)
        · clear hr0 hr1
          refine awp_cond (t := 45) rfl (fun hc109 => ?_) (fun hc109 => ?_)
          · replace h := bite_t h hc109
            refine awp_reg ftCOk [(2, .v (.bool false))] [.row false (.trips a0_1), .rbox [.v (.int .i64 a0_0), .sl 0], .box [.v (.int .i64 ((a0_1.getD t22.toNat (0, 0, 0)).1)), .v (.int .i64 ((a0_1.getD t22.toNat (0, 0, 0)).2.1)), .v (.int .i64 ((a0_1.getD t22.toNat (0, 0, 0)).2.2))]] ?_
            refine awp_ret ?_
            (try simp only [Thn, InBlk, ↓reduceIte, Nat.reduceEqDiff])
            obtain rfl := Option.some.inj h
            refine LoopQ.out rfl ?_
            exact Red.selA [0] Red.auto
          · replace h := bite_f h hc109
            refine awp_skip ?_
            (try simp only [Thn, InBlk, ↓reduceIte, Nat.reduceEqDiff])
            refine hK108 _ _ ?_
            clear hK108
            refine awp_seq fun K111 hK111 => ?_
            refine awp_reg ftCOk [(1, .pp 1 0), (3, .v (.int .i64 t22)), (4, .pp 2 0), (20, .sl 0), (21, .v (.int .i64 (a0_1.length : Int))), (22, .v (.int .i64 t22)), (53, .v (.bool ((decide ((a0_1.getD t22.toNat (0, 0, 0)).2.2 < 0)) || (decide (20 < (a0_1.getD t22.toNat (0, 0, 0)).2.2)))))] [.row false (.trips a0_1), .rbox [.v (.int .i64 a0_0), .sl 0], .box [.v (.int .i64 ((a0_1.getD t22.toNat (0, 0, 0)).1)), .v (.int .i64 ((a0_1.getD t22.toNat (0, 0, 0)).2.1)), .v (.int .i64 ((a0_1.getD t22.toNat (0, 0, 0)).2.2))]] ?_
            refine awp_cond (t := 53) rfl (fun hc112 => ?_) (fun hc112 => ?_)
            · replace h := bite_t h hc112
              refine awp_reg ftCOk [(2, .v (.bool false))] [.row false (.trips a0_1), .rbox [.v (.int .i64 a0_0), .sl 0], .box [.v (.int .i64 ((a0_1.getD t22.toNat (0, 0, 0)).1)), .v (.int .i64 ((a0_1.getD t22.toNat (0, 0, 0)).2.1)), .v (.int .i64 ((a0_1.getD t22.toNat (0, 0, 0)).2.2))]] ?_
              refine awp_ret ?_
              (try simp only [Thn, InBlk, ↓reduceIte, Nat.reduceEqDiff])
              obtain rfl := Option.some.inj h
              refine LoopQ.out rfl ?_
              exact Red.selA [0] Red.auto
            · replace h := bite_f h hc112
              refine awp_skip ?_
              (try simp only [Thn, InBlk, ↓reduceIte, Nat.reduceEqDiff])
              refine hK111 _ _ ?_
              clear hK111
              replace h := chk_some h
              obtain ⟨hp0, h⟩ := h
              have hwhp0 := wrap_fits hp0.1 hp0.2
              replace h := chk_some h
              obtain ⟨hp1, h⟩ := h
              refine awp_to [(1, .pp 1 0), (20, .sl 0), (21, .v (.int .i64 (a0_1.length : Int))), (22, .v (.int .i64 t22)), (66, .v (.bool ((decide (0 < t22)) && (decide (0 ≤ (orF [cmpI (a0_1.getD ((t22 - 1).toNat) (0, 0, 0)).1 (a0_1.getD t22.toNat (0, 0, 0)).1, cmpI (a0_1.getD ((t22 - 1).toNat) (0, 0, 0)).2.1 (a0_1.getD t22.toNat (0, 0, 0)).2.1]))))))] [.row false (.trips a0_1), .rbox [.v (.int .i64 a0_0), .sl 0], .box [.v (.int .i64 ((a0_1.getD t22.toNat (0, 0, 0)).1)), .v (.int .i64 ((a0_1.getD t22.toNat (0, 0, 0)).2.1)), .v (.int .i64 ((a0_1.getD t22.toNat (0, 0, 0)).2.2))]] ?_ ?_
              · clear h
                intro K hK
                refine awp_quietg mixed ftCOk (by kernel_rfl) ?_
                simp (maxSteps := 4000000) only [go_sem, Nat.reduceBEq, Nat.reduceLT, Nat.reduceAdd, Nat.reduceLeDiff, Nat.reduceSub, Nat.reduceEqDiff, Int.reduceToNat, reduceCtorEq, ↓reduceIte]
                repeat' (first | refine And.intro ?_ ?_ | intro hg)
                all_goals (try simp (disch := omega) only [wrap_fits])
                all_goals first
                  | (refine hK _ _ ?_; exact Red.auto)
                  | exact trivial
                  | assumption
                  | omega
                  | exact wrap_fits (by omega) (by omega)
                  | (have hq := hp1 (by first | assumption | (simp only [*, Bool.false_or, Bool.true_or, Bool.or_false, Bool.or_true, Bool.false_and, Bool.true_and, Bool.and_false, Bool.and_true, Bool.not_true, Bool.not_false, beq_self_eq_true]; done) | (simp_all; done)); omega)
                  | (simp_all; done)
                  | (simp_all; omega)
              · clear hp0 hp1
                refine awp_cond (t := 66) rfl (fun hc113 => ?_) (fun hc113 => ?_)
                · replace h := bite_t h hc113
                  refine awp_reg ftCOk [(2, .v (.bool false))] [.row false (.trips a0_1), .rbox [.v (.int .i64 a0_0), .sl 0], .box [.v (.int .i64 ((a0_1.getD t22.toNat (0, 0, 0)).1)), .v (.int .i64 ((a0_1.getD t22.toNat (0, 0, 0)).2.1)), .v (.int .i64 ((a0_1.getD t22.toNat (0, 0, 0)).2.2))]] ?_
                  refine awp_ret ?_
                  (try simp only [Thn, InBlk, ↓reduceIte, Nat.reduceEqDiff])
                  obtain rfl := Option.some.inj h
                  refine LoopQ.out rfl ?_
                  exact Red.selA [0] Red.auto
                · replace h := bite_f h hc113
                  refine awp_skip ?_
                  (try simp only [Thn, InBlk, ↓reduceIte, Nat.reduceEqDiff])
                  (try simp only [Thn, InBlk, ↓reduceIte, Nat.reduceEqDiff])
                  refine hK106 _ _ ?_
                  clear hK106
                  replace h := chk_some h
                  obtain ⟨hp0, h⟩ := h
                  refine awp_regE ftCOk [(1, .pp 1 0), (20, .sl 0), (21, .v (.int .i64 (a0_1.length : Int))), (22, .v (.int .i64 (t22 + 1)))] [.row false (.trips a0_1), .rbox [.v (.int .i64 a0_0), .sl 0], .box [.v (.int .i64 ((a0_1.getD t22.toNat (0, 0, 0)).1)), .v (.int .i64 ((a0_1.getD t22.toNat (0, 0, 0)).2.1)), .v (.int .i64 ((a0_1.getD t22.toNat (0, 0, 0)).2.2))]] ?_
                  clear hp0
                  obtain rfl := Option.some.inj h
                  refine LoopQ.next ?_
                  exact Red.selA [0, 1] Red.auto
      · replace h := bite_f h hc98
        refine awp_exit ?_
        (try simp only [Thn, InBlk, ↓reduceIte, Nat.reduceEqDiff])
        obtain rfl := Option.some.inj h
        refine LoopQ.out rfl ?_
        exact Red.selA [0] Red.auto
    · clear hx
      rcases x114 with (⟨⟩ | ⟨⟩)
      · try dsimp only [Sum.elim_inl, Sum.elim_inr] at h
        try dsimp only [Sum.elim_inl, Sum.elim_inr]
        (try simp only [Thn, InBlk, ↓reduceIte, Nat.reduceEqDiff])
        (try simp only [Thn, InBlk, ↓reduceIte, Nat.reduceEqDiff])
        (try simp only [Thn, InBlk, ↓reduceIte, Nat.reduceEqDiff])
        refine hK59 _ _ ?_
        clear hK59
        refine awp_reg ftCOk [(2, .v (.bool true))] [.row false (.trips a0_1)] ?_
        refine awp_ret ?_
        (try simp only [Thn, InBlk, ↓reduceIte, Nat.reduceEqDiff])
        obtain rfl := Option.some.inj h
        refine ⟨by simp, _, [0], (by simp only [go_sem, Nat.reduceBEq, Nat.reduceLT, Nat.reduceAdd, Nat.reduceLeDiff, Nat.reduceSub, Nat.reduceEqDiff, Int.reduceToNat, reduceCtorEq, ↓reduceIte]; exact rfl), ?_, ?_, ?_, ?_⟩
        · first | exact trivial | exact ⟨trivial, trivial⟩ | exact ⟨trivial, trivial, trivial⟩ | exact ⟨trivial, trivial, trivial, trivial⟩ | (simp only [allP, and_true, true_and]; done) | (simp only [allP, and_true, true_and]; omega)
        · simp [selOk, pos]
        · simp
        · first | exact ⟨rfl, rfl⟩ | (simp only [go_sem, Nat.reduceBEq, Nat.reduceLT, Nat.reduceAdd, Nat.reduceLeDiff, Nat.reduceSub, Nat.reduceEqDiff, Int.reduceToNat, reduceCtorEq, ↓reduceIte]; done) | (simp [go_sem, Nat.reduceBEq, Nat.reduceLT, Nat.reduceAdd, Nat.reduceLeDiff, Nat.reduceSub, Nat.reduceEqDiff, Int.reduceToNat, reduceCtorEq, ↓reduceIte]; done) | (simp only [go_sem, Nat.reduceBEq, Nat.reduceLT, Nat.reduceAdd, Nat.reduceLeDiff, Nat.reduceSub, Nat.reduceEqDiff, Int.reduceToNat, reduceCtorEq, ↓reduceIte]; exact ⟨rfl, rfl⟩) | (simp_all [go_sem, Nat.reduceBEq, Nat.reduceLT, Nat.reduceAdd, Nat.reduceLeDiff, Nat.reduceSub, Nat.reduceEqDiff, Int.reduceToNat, reduceCtorEq, ↓reduceIte]; done)
      · try dsimp only [Sum.elim_inl, Sum.elim_inr] at h
        try dsimp only [Sum.elim_inl, Sum.elim_inr]
        (try simp only [Thn, InBlk, ↓reduceIte, Nat.reduceEqDiff])
        obtain rfl := Option.some.inj h
        refine ⟨by simp, _, [0], (by simp only [go_sem, Nat.reduceBEq, Nat.reduceLT, Nat.reduceAdd, Nat.reduceLeDiff, Nat.reduceSub, Nat.reduceEqDiff, Int.reduceToNat, reduceCtorEq, ↓reduceIte]; exact rfl), ?_, ?_, ?_, ?_⟩
        · first | exact trivial | exact ⟨trivial, trivial⟩ | exact ⟨trivial, trivial, trivial⟩ | exact ⟨trivial, trivial, trivial, trivial⟩ | (simp only [allP, and_true, true_and]; done) | (simp only [allP, and_true, true_and]; omega)
        · simp [selOk, pos]
        · simp
        · first | exact ⟨rfl, rfl⟩ | (simp only [go_sem, Nat.reduceBEq, Nat.reduceLT, Nat.reduceAdd, Nat.reduceLeDiff, Nat.reduceSub, Nat.reduceEqDiff, Int.reduceToNat, reduceCtorEq, ↓reduceIte]; done) | (simp [go_sem, Nat.reduceBEq, Nat.reduceLT, Nat.reduceAdd, Nat.reduceLeDiff, Nat.reduceSub, Nat.reduceEqDiff, Int.reduceToNat, reduceCtorEq, ↓reduceIte]; done) | (simp only [go_sem, Nat.reduceBEq, Nat.reduceLT, Nat.reduceAdd, Nat.reduceLeDiff, Nat.reduceSub, Nat.reduceEqDiff, Int.reduceToNat, reduceCtorEq, ↓reduceIte]; exact ⟨rfl, rfl⟩) | (simp_all [go_sem, Nat.reduceBEq, Nat.reduceLT, Nat.reduceAdd, Nat.reduceLeDiff, Nat.reduceSub, Nat.reduceEqDiff, Int.reduceToNat, reduceCtorEq, ↓reduceIte]; done)
theorem k_impl_Graph_lists (a0_0 : Int) (a0_1 : List (Int × Int × Int)) {r : (List (List (Int × Int × Int)))} (h : impl_Graph_lists a0_0 a0_1 = some r) :
    FnA Try.prog 15 [.agg [.v (.int .i64 a0_0), .sl 0]] [.row false (.trips a0_1)] [] (fun x H => x = .sl 1 ∧ H = [.row false (.trips a0_1), .row true (.tripss r)]) := by
  unfold impl_Graph_lists at h
  refine FnA.of (N := 30) (pin := [0]) (rs := [.tmp 2]) Try.func15 rfl en15 rfl rfl (by simp) (by simp; try omega) ?_
  refine awp_reg ftCOk [(1, .pp 1 0)] [.row false (.trips a0_1), .box [.v (.int .i64 a0_0), .sl 0]] ?_
  refine awp_freeze 1 (by rfl) (by rfl) (by exact rfl) ?_
  replace h := chk_some h
  obtain ⟨hp0, h⟩ := h
  refine awp_reg ftCOk [(1, .pp 1 0), (3, .sl 2)] [.row false (.trips a0_1), .rbox [.v (.int .i64 a0_0), .sl 0], .row true (.tripss (List.replicate a0_0.toNat []))] ?_
  clear hp0
  refine awp_seq fun K20 hK20 => ?_
  refine awp_reg ftCOk [(3, .sl 2), (10, .sl 0), (11, .v (.int .i64 (a0_1.length : Int))), (12, .v (.int .i64 0))] [.row false (.trips a0_1), .rbox [.v (.int .i64 a0_0), .sl 0], .row true (.tripss (List.replicate a0_0.toNat []))] ?_
  refine awp_block ?_
  replace h := bind_some h
  obtain ⟨t3s_1, hx, h⟩ := h
  refine awp_loopL hx (fun ((t12, t3s) : Int × (List (List (Int × Int × Int)))) => [(3, .sl 1), (10, .sl 0), (11, .v (.int .i64 (a0_1.length : Int))), (12, .v (.int .i64 t12))]) (fun ((t12, t3s) : Int × (List (List (Int × Int × Int)))) => [.row false (.trips a0_1), .row true (.tripss t3s)]) (fun (t3s_1 : List (List (Int × Int × Int))) => Exit.exit 0) (fun (t3s_1 : List (List (Int × Int × Int))) => [(3, .sl 1)]) (fun (t3s_1 : List (List (Int × Int × Int))) => [.row false (.trips a0_1), .row true (.tripss t3s_1)]) ?_ ?_ ?_ ?_
  · rintro t3s_1 hy <;> cases hy
  · clear h hx
    exact Red.selA [0, 2] Red.auto
  · clear h hx
    rintro ⟨t12, t3s⟩ r h
    unfold impl_Graph_lists_b0 at h
    try dsimp only at h
    try dsimp only
    refine awp_reg ftCOk [(3, .sl 1), (10, .sl 0), (11, .v (.int .i64 (a0_1.length : Int))), (12, .v (.int .i64 t12)), (13, .v (.bool (decide (t12 < (a0_1.length : Int)))))] [.row false (.trips a0_1), .row true (.tripss t3s)] ?_
    refine awp_seq fun K34 hK34 => ?_
    refine awp_cond (t := 13) rfl (fun hc35 => ?_) (fun hc35 => ?_)
    · replace h := bite_t h hc35
      refine awp_skip ?_
      (try simp only [Thn, InBlk, ↓reduceIte, Nat.reduceEqDiff])
      refine hK34 _ _ ?_
      clear hK34
      refine awp_seq fun K37 hK37 => ?_
      refine awp_block ?_
      replace h := chk_some h
      obtain ⟨hp0, h⟩ := h
      refine awp_reg ftCOk [(3, .sl 1), (5, .pp 2 0), (10, .sl 0), (11, .v (.int .i64 (a0_1.length : Int))), (12, .v (.int .i64 t12))] [.row false (.trips a0_1), .row true (.tripss t3s), .box [.v (.int .i64 ((a0_1.getD t12.toNat (0, 0, 0)).1)), .v (.int .i64 ((a0_1.getD t12.toNat (0, 0, 0)).2.1)), .v (.int .i64 ((a0_1.getD t12.toNat (0, 0, 0)).2.2))]] ?_
      clear hp0
      refine awp_freeze 5 (by rfl) (by rfl) (by first | exact rfl | (simp only [List.map_cons, List.map_nil, List.set_cons_succ, List.set_cons_zero, AObj.unview, reduceCtorEq, ↓reduceIte, Nat.reduceEqDiff]; exact rfl)) ?_
      replace h := chk_some h
      obtain ⟨hpt38, h⟩ := h
      refine awp_take 1 (((a0_1.getD t12.toNat (0, 0, 0)).1).toNat) 0 (by rfl) (by exact hpt38) (by rfl) (by exact rfl) ?_
      clear hpt38
      replace h := chk_some h
      obtain ⟨hp0, h⟩ := h
      replace h := chk_some h
      obtain ⟨hp1, h⟩ := h
      refine awp_end [(3, .sl 1), (10, .sl 0), (11, .v (.int .i64 (a0_1.length : Int))), (12, .v (.int .i64 t12))] [.row false (.trips a0_1), .row true (.tripss (t3s.set (((a0_1.getD t12.toNat (0, 0, 0)).1).toNat) ((t3s.getD (((a0_1.getD t12.toNat (0, 0, 0)).1).toNat) []) ++ [((a0_1.getD t12.toNat (0, 0, 0)).1, (a0_1.getD t12.toNat (0, 0, 0)).2.1, (a0_1.getD t12.toNat (0, 0, 0)).2.2)]))), .rbox [.v (.int .i64 ((a0_1.getD t12.toNat (0, 0, 0)).1)), .v (.int .i64 ((a0_1.getD t12.toNat (0, 0, 0)).2.1)), .v (.int .i64 ((a0_1.getD t12.toNat (0, 0, 0)).2.2))], .view 1 (.trips ((t3s.getD (((a0_1.getD t12.toNat (0, 0, 0)).1).toNat) []) ++ [((a0_1.getD t12.toNat (0, 0, 0)).1, (a0_1.getD t12.toNat (0, 0, 0)).2.1, (a0_1.getD t12.toNat (0, 0, 0)).2.2)])), .row true (.trips [((a0_1.getD t12.toNat (0, 0, 0)).1, (a0_1.getD t12.toNat (0, 0, 0)).2.1, (a0_1.getD t12.toNat (0, 0, 0)).2.2)])] ?_ ?_
      · clear h
        intro K hK
        refine awp_drawP [0, 1, 2] (by first | rfl | kernel_rfl) (by rfl) mixed ftCOk (.free 0 (.free 1 (.free 3 (.free 4 (.free 2 (.free 5 (.free 8 (.two 6 9 (.two 7 9 (.one 9 (.one 10 (.one 11 (.one 12 .fin)))) (.one 7 (.one 10 (.one 11 (.one 12 .fin))))) (.one 6 (.one 7 (.one 10 (.one 11 (.one 12 .fin))))))))))))) (by kernel_rfl) (by simp) ?_
        simp (maxSteps := 4000000) only [go_sem, Nat.reduceBEq, Nat.reduceLT, Nat.reduceAdd, Nat.reduceLeDiff, Nat.reduceSub, Nat.reduceEqDiff, Int.reduceToNat, reduceCtorEq, ↓reduceIte]
        repeat' (first | refine And.intro ?_ ?_ | intro hg)
        all_goals (try simp (disch := omega) only [wrap_fits])
        all_goals first
          | (refine hK _ _ ?_; exact Red.auto)
          | exact trivial
          | assumption
          | omega
          | exact wrap_fits (by omega) (by omega)
          | (simp (maxSteps := 4000000) only [go_sem, Nat.reduceBEq, Nat.reduceLT, Nat.reduceAdd, Nat.reduceLeDiff, Nat.reduceSub, Nat.reduceEqDiff, Int.reduceToNat, reduceCtorEq, ↓reduceIte]
             repeat' (first | refine And.intro ?_ ?_ | intro hg)
             all_goals (try simp (disch := omega) only [wrap_fits])
             all_goals first | (refine hK _ _ ?_; exact Red.auto) | exact trivial | assumption | omega | exact wrap_fits (by omega) (by omega))
          | (simp_all; done)
          | (simp_all; omega)
      · clear hp0 hp1
        (try simp only [Thn, InBlk, ↓reduceIte, Nat.reduceEqDiff])
        (try simp only [Thn, InBlk, ↓reduceIte, Nat.reduceEqDiff])
        refine hK37 _ _ ?_
        clear hK37
        replace h := chk_some h
        obtain ⟨hp0, h⟩ := h
        refine awp_regE ftCOk [(3, .sl 1), (10, .sl 0), (11, .v (.int .i64 (a0_1.length : Int))), (12, .v (.int .i64 (t12 + 1)))] [.row false (.trips a0_1), .row true (.tripss (t3s.set (((a0_1.getD t12.toNat (0, 0, 0)).1).toNat) ((t3s.getD (((a0_1.getD t12.toNat (0, 0, 0)).1).toNat) []) ++ [((a0_1.getD t12.toNat (0, 0, 0)).1, (a0_1.getD t12.toNat (0, 0, 0)).2.1, (a0_1.getD t12.toNat (0, 0, 0)).2.2)]))), .rbox [.v (.int .i64 ((a0_1.getD t12.toNat (0, 0, 0)).1)), .v (.int .i64 ((a0_1.getD t12.toNat (0, 0, 0)).2.1)), .v (.int .i64 ((a0_1.getD t12.toNat (0, 0, 0)).2.2))], .view 1 (.trips ((t3s.getD (((a0_1.getD t12.toNat (0, 0, 0)).1).toNat) []) ++ [((a0_1.getD t12.toNat (0, 0, 0)).1, (a0_1.getD t12.toNat (0, 0, 0)).2.1, (a0_1.getD t12.toNat (0, 0, 0)).2.2)])), .row true (.trips [((a0_1.getD t12.toNat (0, 0, 0)).1, (a0_1.getD t12.toNat (0, 0, 0)).2.1, (a0_1.getD t12.toNat (0, 0, 0)).2.2)])] ?_
        clear hp0
        obtain rfl := Option.some.inj h
        refine LoopQ.next ?_
        exact Red.selA [0, 1] Red.auto
    · replace h := bite_f h hc35
      refine awp_exit ?_
      (try simp only [Thn, InBlk, ↓reduceIte, Nat.reduceEqDiff])
      obtain rfl := Option.some.inj h
      refine LoopQ.out rfl ?_
      exact Red.auto
  · clear hx
    skip
    · try dsimp only [Sum.elim_inl, Sum.elim_inr] at h
      try dsimp only [Sum.elim_inl, Sum.elim_inr]
      (try simp only [Thn, InBlk, ↓reduceIte, Nat.reduceEqDiff])
      (try simp only [Thn, InBlk, ↓reduceIte, Nat.reduceEqDiff])
      (try simp only [Thn, InBlk, ↓reduceIte, Nat.reduceEqDiff])
      refine hK20 _ _ ?_
      clear hK20
      refine awp_reg ftCOk [(2, .sl 1)] [.row false (.trips a0_1), .row true (.tripss t3s_1)] ?_
      refine awp_ret ?_
      (try simp only [Thn, InBlk, ↓reduceIte, Nat.reduceEqDiff])
      obtain rfl := Option.some.inj h
      refine ⟨by simp, _, [0, 1], (by simp only [go_sem, Nat.reduceBEq, Nat.reduceLT, Nat.reduceAdd, Nat.reduceLeDiff, Nat.reduceSub, Nat.reduceEqDiff, Int.reduceToNat, reduceCtorEq, ↓reduceIte]; exact rfl), ?_, ?_, ?_, ?_⟩
      · first | exact trivial | exact ⟨trivial, trivial⟩ | exact ⟨trivial, trivial, trivial⟩ | exact ⟨trivial, trivial, trivial, trivial⟩ | (simp only [allP, and_true, true_and]; done) | (simp only [allP, and_true, true_and]; omega)
      · simp [selOk, pos]
      · simp
      · first | exact ⟨rfl, rfl⟩ | (simp only [go_sem, Nat.reduceBEq, Nat.reduceLT, Nat.reduceAdd, Nat.reduceLeDiff, Nat.reduceSub, Nat.reduceEqDiff, Int.reduceToNat, reduceCtorEq, ↓reduceIte]; done) | (simp [go_sem, Nat.reduceBEq, Nat.reduceLT, Nat.reduceAdd, Nat.reduceLeDiff, Nat.reduceSub, Nat.reduceEqDiff, Int.reduceToNat, reduceCtorEq, ↓reduceIte]; done) | (simp only [go_sem, Nat.reduceBEq, Nat.reduceLT, Nat.reduceAdd, Nat.reduceLeDiff, Nat.reduceSub, Nat.reduceEqDiff, Int.reduceToNat, reduceCtorEq, ↓reduceIte]; exact ⟨rfl, rfl⟩) | (simp_all [go_sem, Nat.reduceBEq, Nat.reduceLT, Nat.reduceAdd, Nat.reduceLeDiff, Nat.reduceSub, Nat.reduceEqDiff, Int.reduceToNat, reduceCtorEq, ↓reduceIte]; done)
theorem k_impl_unknowns (a0 : Int) {r : List Int} (h : impl_unknowns a0 = some r) :
    FnA Try.prog 25 [.v (.int .i64 a0)] [] [] (fun x H => x = .sl 0 ∧ H = [.row true (.ints .i64 r)]) := by
  unfold impl_unknowns at h
  refine FnA.of (N := 17) (pin := []) (rs := [.tmp 2]) Try.func25 rfl en25 rfl rfl (by simp) (by simp; try omega) ?_
  refine awp_reg ftCOk [(0, .v (.int .i64 a0))] [] ?_
  replace h := chk_some h
  obtain ⟨hp0, h⟩ := h
  refine awp_reg ftCOk [(3, .sl 0)] [.row true (.ints .i64 (List.replicate a0.toNat 0))] ?_
  clear hp0
  refine awp_seq fun K14 hK14 => ?_
  refine awp_reg ftCOk [(3, .sl 0), (8, .v (.int .i64 ((List.replicate a0.toNat 0).length : Int))), (9, .v (.int .i64 0))] [.row true (.ints .i64 (List.replicate a0.toNat 0))] ?_
  refine awp_block ?_
  replace h := bind_some h
  obtain ⟨t3s_1, hx, h⟩ := h
  refine awp_loopL hx (fun ((t9, t3s) : Int × List Int) => [(3, .sl 0), (8, .v (.int .i64 ((List.replicate a0.toNat 0).length : Int))), (9, .v (.int .i64 t9))]) (fun ((t9, t3s) : Int × List Int) => [.row true (.ints .i64 t3s)]) (fun (t3s_1 : List Int) => Exit.exit 0) (fun (t3s_1 : List Int) => [(3, .sl 0)]) (fun (t3s_1 : List Int) => [.row true (.ints .i64 t3s_1)]) ?_ ?_ ?_ ?_
  · rintro t3s_1 hy <;> cases hy
  · clear h hx
    exact Red.auto
  · clear h hx
    rintro ⟨t9, t3s⟩ r h
    unfold impl_unknowns_b0 at h
    try dsimp only at h
    try dsimp only
    refine awp_reg ftCOk [(3, .sl 0), (8, .v (.int .i64 ((List.replicate a0.toNat 0).length : Int))), (9, .v (.int .i64 t9)), (10, .v (.bool (decide (t9 < ((List.replicate a0.toNat 0).length : Int)))))] [.row true (.ints .i64 t3s)] ?_
    refine awp_seq fun K24 hK24 => ?_
    refine awp_cond (t := 10) rfl (fun hc25 => ?_) (fun hc25 => ?_)
    · replace h := bite_t h hc25
      refine awp_skip ?_
      (try simp only [Thn, InBlk, ↓reduceIte, Nat.reduceEqDiff])
      refine hK24 _ _ ?_
      clear hK24
      refine awp_seq fun K26 hK26 => ?_
      refine awp_block ?_
      refine awp_reg ftCOk [(3, .sl 0), (4, .v (.int .i64 t9)), (8, .v (.int .i64 ((List.replicate a0.toNat 0).length : Int))), (9, .v (.int .i64 t9))] [.row true (.ints .i64 t3s)] ?_
      replace h := chk_some h
      obtain ⟨hp0, h⟩ := h
      refine awp_regE ftCOk [(3, .sl 0), (8, .v (.int .i64 ((List.replicate a0.toNat 0).length : Int))), (9, .v (.int .i64 t9))] [.row true (.ints .i64 (t3s.set t9.toNat (-1)))] ?_
      clear hp0
      (try simp only [Thn, InBlk, ↓reduceIte, Nat.reduceEqDiff])
      (try simp only [Thn, InBlk, ↓reduceIte, Nat.reduceEqDiff])
      refine hK26 _ _ ?_
      clear hK26
      replace h := chk_some h
      obtain ⟨hp0, h⟩ := h
      refine awp_regE ftCOk [(3, .sl 0), (8, .v (.int .i64 ((List.replicate a0.toNat 0).length : Int))), (9, .v (.int .i64 (t9 + 1)))] [.row true (.ints .i64 (t3s.set t9.toNat (-1)))] ?_
      clear hp0
      obtain rfl := Option.some.inj h
      refine LoopQ.next ?_
      exact Red.auto
    · replace h := bite_f h hc25
      refine awp_exit ?_
      (try simp only [Thn, InBlk, ↓reduceIte, Nat.reduceEqDiff])
      obtain rfl := Option.some.inj h
      refine LoopQ.out rfl ?_
      exact Red.auto
  · clear hx
    skip
    · try dsimp only [Sum.elim_inl, Sum.elim_inr] at h
      try dsimp only [Sum.elim_inl, Sum.elim_inr]
      (try simp only [Thn, InBlk, ↓reduceIte, Nat.reduceEqDiff])
      (try simp only [Thn, InBlk, ↓reduceIte, Nat.reduceEqDiff])
      (try simp only [Thn, InBlk, ↓reduceIte, Nat.reduceEqDiff])
      refine hK14 _ _ ?_
      clear hK14
      refine awp_reg ftCOk [(2, .sl 0)] [.row true (.ints .i64 t3s_1)] ?_
      refine awp_ret ?_
      (try simp only [Thn, InBlk, ↓reduceIte, Nat.reduceEqDiff])
      obtain rfl := Option.some.inj h
      refine ⟨by simp, _, [0], (by simp only [go_sem, Nat.reduceBEq, Nat.reduceLT, Nat.reduceAdd, Nat.reduceLeDiff, Nat.reduceSub, Nat.reduceEqDiff, Int.reduceToNat, reduceCtorEq, ↓reduceIte]; exact rfl), ?_, ?_, ?_, ?_⟩
      · first | exact trivial | exact ⟨trivial, trivial⟩ | exact ⟨trivial, trivial, trivial⟩ | exact ⟨trivial, trivial, trivial, trivial⟩ | (simp only [allP, and_true, true_and]; done) | (simp only [allP, and_true, true_and]; omega)
      · simp [selOk, pos]
      · simp
      · first | exact ⟨rfl, rfl⟩ | (simp only [go_sem, Nat.reduceBEq, Nat.reduceLT, Nat.reduceAdd, Nat.reduceLeDiff, Nat.reduceSub, Nat.reduceEqDiff, Int.reduceToNat, reduceCtorEq, ↓reduceIte]; done) | (simp [go_sem, Nat.reduceBEq, Nat.reduceLT, Nat.reduceAdd, Nat.reduceLeDiff, Nat.reduceSub, Nat.reduceEqDiff, Int.reduceToNat, reduceCtorEq, ↓reduceIte]; done) | (simp only [go_sem, Nat.reduceBEq, Nat.reduceLT, Nat.reduceAdd, Nat.reduceLeDiff, Nat.reduceSub, Nat.reduceEqDiff, Int.reduceToNat, reduceCtorEq, ↓reduceIte]; exact ⟨rfl, rfl⟩) | (simp_all [go_sem, Nat.reduceBEq, Nat.reduceLT, Nat.reduceAdd, Nat.reduceLeDiff, Nat.reduceSub, Nat.reduceEqDiff, Int.reduceToNat, reduceCtorEq, ↓reduceIte]; done)
theorem k_impl_reachedHeap_Len (a0 : List (Int × Int)) {r : Int} (h : impl_reachedHeap_Len a0 = some r) :
    FnA Try.prog 26 [.sl 0] [.row false (.pairs a0)] [] (fun x H => x = .v (.int .i64 r) ∧ H = [.row false (.pairs a0)]) := by
  unfold impl_reachedHeap_Len at h
  refine FnA.of (N := 5) (pin := [0]) (rs := [.tmp 2]) Try.func26 rfl en26 rfl rfl (by simp) (by simp; try omega) ?_
  refine awp_reg ftCOk [(0, .sl 0)] [.row false (.pairs a0)] ?_
  refine awp_reg ftCOk [(2, .v (.int .i64 (a0.length : Int)))] [.row false (.pairs a0)] ?_
  refine awp_ret ?_
  (try simp only [Thn, InBlk, ↓reduceIte, Nat.reduceEqDiff])
  obtain rfl := Option.some.inj h
  refine ⟨by simp, _, [0], (by simp only [go_sem, Nat.reduceBEq, Nat.reduceLT, Nat.reduceAdd, Nat.reduceLeDiff, Nat.reduceSub, Nat.reduceEqDiff, Int.reduceToNat, reduceCtorEq, ↓reduceIte]; exact rfl), ?_, ?_, ?_, ?_⟩
  · first | exact trivial | exact ⟨trivial, trivial⟩ | exact ⟨trivial, trivial, trivial⟩ | exact ⟨trivial, trivial, trivial, trivial⟩ | (simp only [allP, and_true, true_and]; done) | (simp only [allP, and_true, true_and]; omega)
  · simp [selOk, pos]
  · simp
  · first | exact ⟨rfl, rfl⟩ | (simp only [go_sem, Nat.reduceBEq, Nat.reduceLT, Nat.reduceAdd, Nat.reduceLeDiff, Nat.reduceSub, Nat.reduceEqDiff, Int.reduceToNat, reduceCtorEq, ↓reduceIte]; done) | (simp [go_sem, Nat.reduceBEq, Nat.reduceLT, Nat.reduceAdd, Nat.reduceLeDiff, Nat.reduceSub, Nat.reduceEqDiff, Int.reduceToNat, reduceCtorEq, ↓reduceIte]; done) | (simp only [go_sem, Nat.reduceBEq, Nat.reduceLT, Nat.reduceAdd, Nat.reduceLeDiff, Nat.reduceSub, Nat.reduceEqDiff, Int.reduceToNat, reduceCtorEq, ↓reduceIte]; exact ⟨rfl, rfl⟩) | (simp_all [go_sem, Nat.reduceBEq, Nat.reduceLT, Nat.reduceAdd, Nat.reduceLeDiff, Nat.reduceSub, Nat.reduceEqDiff, Int.reduceToNat, reduceCtorEq, ↓reduceIte]; done)
theorem k_impl_reachedHeap_Less (a0 : List (Int × Int)) (a1 : Int) (a2 : Int) {r : Bool} (h : impl_reachedHeap_Less a0 a1 a2 = some r) :
    FnA Try.prog 75 [.sl 0, .v (.int .i64 a1), .v (.int .i64 a2)] [.row false (.pairs a0)] [] (fun x H => x = .v (.bool r) ∧ H = [.row false (.pairs a0)]) := by
  unfold impl_reachedHeap_Less at h
  refine FnA.of (N := 40) (pin := [0]) (rs := [.tmp 6]) Try.func75 rfl en75 rfl rfl (by simp) (by simp; try omega) ?_
  refine awp_reg ftCOk [(0, .sl 0), (1, .v (.int .i64 a1)), (2, .v (.int .i64 a2))] [.row false (.pairs a0)] ?_
  refine awp_seq fun K2 hK2 => ?_
  replace h := chk_some h
  obtain ⟨hp0, h⟩ := h
  replace h := chk_some h
  obtain ⟨hp1, h⟩ := h
  refine awp_regQ mixed ftCOk [(0, .sl 0), (1, .v (.int .i64 a1)), (2, .v (.int .i64 a2)), (17, .v (.bool ((a0.getD a1.toNat (0, 0)).1 != (a0.getD a2.toNat (0, 0)).1)))] [.row false (.pairs a0)] ?_
  clear hp0 hp1
  refine awp_cond (t := 17) rfl (fun hc3 => ?_) (fun hc3 => ?_)
  · replace h := bite_t h hc3
    replace h := chk_some h
    obtain ⟨hp0, h⟩ := h
    replace h := chk_some h
    obtain ⟨hp1, h⟩ := h
    refine awp_regQ mixed ftCOk [(6, .v (.bool (decide ((a0.getD a1.toNat (0, 0)).1 < (a0.getD a2.toNat (0, 0)).1))))] [.row false (.pairs a0)] ?_
    clear hp0 hp1
    refine awp_ret ?_
    (try simp only [Thn, InBlk, ↓reduceIte, Nat.reduceEqDiff])
    obtain rfl := Option.some.inj h
    refine ⟨by simp, _, [0], (by simp only [go_sem, Nat.reduceBEq, Nat.reduceLT, Nat.reduceAdd, Nat.reduceLeDiff, Nat.reduceSub, Nat.reduceEqDiff, Int.reduceToNat, reduceCtorEq, ↓reduceIte]; exact rfl), ?_, ?_, ?_, ?_⟩
    · first | exact trivial | exact ⟨trivial, trivial⟩ | exact ⟨trivial, trivial, trivial⟩ | exact ⟨trivial, trivial, trivial, trivial⟩ | (simp only [allP, and_true, true_and]; done) | (simp only [allP, and_true, true_and]; omega)
    · simp [selOk, pos]
    · simp
    · first | exact ⟨rfl, rfl⟩ | (simp only [go_sem, Nat.reduceBEq, Nat.reduceLT, Nat.reduceAdd, Nat.reduceLeDiff, Nat.reduceSub, Nat.reduceEqDiff, Int.reduceToNat, reduceCtorEq, ↓reduceIte]; done) | (simp [go_sem, Nat.reduceBEq, Nat.reduceLT, Nat.reduceAdd, Nat.reduceLeDiff, Nat.reduceSub, Nat.reduceEqDiff, Int.reduceToNat, reduceCtorEq, ↓reduceIte]; done) | (simp only [go_sem, Nat.reduceBEq, Nat.reduceLT, Nat.reduceAdd, Nat.reduceLeDiff, Nat.reduceSub, Nat.reduceEqDiff, Int.reduceToNat, reduceCtorEq, ↓reduceIte]; exact ⟨rfl, rfl⟩) | (simp_all [go_sem, Nat.reduceBEq, Nat.reduceLT, Nat.reduceAdd, Nat.reduceLeDiff, Nat.reduceSub, Nat.reduceEqDiff, Int.reduceToNat, reduceCtorEq, ↓reduceIte]; done)
  · replace h := bite_f h hc3
    refine awp_skip ?_
    (try simp only [Thn, InBlk, ↓reduceIte, Nat.reduceEqDiff])
    refine hK2 _ _ ?_
    clear hK2
    replace h := chk_some h
    obtain ⟨hp0, h⟩ := h
    replace h := chk_some h
    obtain ⟨hp1, h⟩ := h
    refine awp_regQ mixed ftCOk [(6, .v (.bool (decide ((a0.getD a1.toNat (0, 0)).2 < (a0.getD a2.toNat (0, 0)).2))))] [.row false (.pairs a0)] ?_
    clear hp0 hp1
    refine awp_ret ?_
    (try simp only [Thn, InBlk, ↓reduceIte, Nat.reduceEqDiff])
    obtain rfl := Option.some.inj h
    refine ⟨by simp, _, [0], (by simp only [go_sem, Nat.reduceBEq, Nat.reduceLT, Nat.reduceAdd, Nat.reduceLeDiff, Nat.reduceSub, Nat.reduceEqDiff, Int.reduceToNat, reduceCtorEq, ↓reduceIte]; exact rfl), ?_, ?_, ?_, ?_⟩
    · first | exact trivial | exact ⟨trivial, trivial⟩ | exact ⟨trivial, trivial, trivial⟩ | exact ⟨trivial, trivial, trivial, trivial⟩ | (simp only [allP, and_true, true_and]; done) | (simp only [allP, and_true, true_and]; omega)
    · simp [selOk, pos]
    · simp
    · first | exact ⟨rfl, rfl⟩ | (simp only [go_sem, Nat.reduceBEq, Nat.reduceLT, Nat.reduceAdd, Nat.reduceLeDiff, Nat.reduceSub, Nat.reduceEqDiff, Int.reduceToNat, reduceCtorEq, ↓reduceIte]; done) | (simp [go_sem, Nat.reduceBEq, Nat.reduceLT, Nat.reduceAdd, Nat.reduceLeDiff, Nat.reduceSub, Nat.reduceEqDiff, Int.reduceToNat, reduceCtorEq, ↓reduceIte]; done) | (simp only [go_sem, Nat.reduceBEq, Nat.reduceLT, Nat.reduceAdd, Nat.reduceLeDiff, Nat.reduceSub, Nat.reduceEqDiff, Int.reduceToNat, reduceCtorEq, ↓reduceIte]; exact ⟨rfl, rfl⟩) | (simp_all [go_sem, Nat.reduceBEq, Nat.reduceLT, Nat.reduceAdd, Nat.reduceLeDiff, Nat.reduceSub, Nat.reduceEqDiff, Int.reduceToNat, reduceCtorEq, ↓reduceIte]; done)
theorem k_impl_reachedHeap_Pop (a0_0 : List (Int × Int)) {r : Int × Int × (List (Int × Int))} (h : impl_reachedHeap_Pop a0_0 = some r) :
    FnA Try.prog 76 [.pp 0 0] [.box [.sl 1], .row true (.pairs a0_0)] [] (fun x H => x = .v (.iface 57 (.agg #[(.int .i64 r.1), (.int .i64 r.2.1)])) ∧ H = [.box [.sl 2], .dead, .row true (.pairs r.2.2)]) := by
  unfold impl_reachedHeap_Pop at h
  refine FnA.of (N := 25) (pin := [0, 1]) (rs := [.tmp 2]) Try.func76 rfl en76 rfl rfl (by simp) (by simp; try omega) ?_
  refine awp_move 1 [(0, .pp 0 0)] [.box [.sl 2], .dead, .row true (.pairs a0_0)] (by rfl) (by rfl) (by exact rfl) ?_
  refine awp_reg ftCOk [(0, .pp 0 0)] [.box [.sl 2], .dead, .row true (.pairs a0_0)] ?_
  replace h := chk_some h
  obtain ⟨hp0, h⟩ := h
  have hwhp0 := wrap_fits hp0.1 hp0.2
  refine awp_reg ftCOk [(0, .pp 0 0), (3, .v (.int .i64 ((a0_0.length : Int) - 1)))] [.box [.sl 2], .dead, .row true (.pairs a0_0)] ?_
  clear hp0
  replace h := chk_some h
  obtain ⟨hp0, h⟩ := h
  refine awp_reg ftCOk [(0, .pp 0 0), (3, .v (.int .i64 ((a0_0.length : Int) - 1))), (4, .pp 3 0)] [.box [.sl 2], .dead, .row true (.pairs a0_0), .box [.v (.int .i64 ((a0_0.getD (((a0_0.length : Int) - 1).toNat) (0, 0)).1)), .v (.int .i64 ((a0_0.getD (((a0_0.length : Int) - 1).toNat) (0, 0)).2))]] ?_
  clear hp0
  replace h := chk_some h
  obtain ⟨hp0, h⟩ := h
  refine awp_reg ftCOk [(4, .pp 3 0)] [.box [.sl 4], .dead, .row true (.pairs a0_0), .box [.v (.int .i64 ((a0_0.getD (((a0_0.length : Int) - 1).toNat) (0, 0)).1)), .v (.int .i64 ((a0_0.getD (((a0_0.length : Int) - 1).toNat) (0, 0)).2))], .view 2 (.pairs ((a0_0.take (((a0_0.length : Int) - 1).toNat)).drop 0))] ?_
  clear hp0
  refine awp_promote 2 4 (by rfl) (by rfl) (by exact rfl) ?_
  refine awp_reg ftCOk [(2, .v (.iface 57 (.agg #[(.int .i64 ((a0_0.getD (((a0_0.length : Int) - 1).toNat) (0, 0)).1)), (.int .i64 ((a0_0.getD (((a0_0.length : Int) - 1).toNat) (0, 0)).2))])))] [.box [.sl 4], .dead, .dead, .box [.v (.int .i64 ((a0_0.getD (((a0_0.length : Int) - 1).toNat) (0, 0)).1)), .v (.int .i64 ((a0_0.getD (((a0_0.length : Int) - 1).toNat) (0, 0)).2))], .row true (.pairs ((a0_0.take (((a0_0.length : Int) - 1).toNat)).drop 0))] ?_
  refine awp_ret ?_
  (try simp only [Thn, InBlk, ↓reduceIte, Nat.reduceEqDiff])
  obtain rfl := Option.some.inj h
  refine ⟨by simp, _, [0, 1, 4], (by simp only [go_sem, Nat.reduceBEq, Nat.reduceLT, Nat.reduceAdd, Nat.reduceLeDiff, Nat.reduceSub, Nat.reduceEqDiff, Int.reduceToNat, reduceCtorEq, ↓reduceIte]; exact rfl), ?_, ?_, ?_, ?_⟩
  · first | exact trivial | exact ⟨trivial, trivial⟩ | exact ⟨trivial, trivial, trivial⟩ | exact ⟨trivial, trivial, trivial, trivial⟩ | (simp only [allP, and_true, true_and]; done) | (simp only [allP, and_true, true_and]; omega)
  · simp [selOk, pos]
  · simp
  · first | exact ⟨rfl, rfl⟩ | (simp only [go_sem, Nat.reduceBEq, Nat.reduceLT, Nat.reduceAdd, Nat.reduceLeDiff, Nat.reduceSub, Nat.reduceEqDiff, Int.reduceToNat, reduceCtorEq, ↓reduceIte]; done) | (simp [go_sem, Nat.reduceBEq, Nat.reduceLT, Nat.reduceAdd, Nat.reduceLeDiff, Nat.reduceSub, Nat.reduceEqDiff, Int.reduceToNat, reduceCtorEq, ↓reduceIte]; done) | (simp only [go_sem, Nat.reduceBEq, Nat.reduceLT, Nat.reduceAdd, Nat.reduceLeDiff, Nat.reduceSub, Nat.reduceEqDiff, Int.reduceToNat, reduceCtorEq, ↓reduceIte]; exact ⟨rfl, rfl⟩) | (simp_all [go_sem, Nat.reduceBEq, Nat.reduceLT, Nat.reduceAdd, Nat.reduceLeDiff, Nat.reduceSub, Nat.reduceEqDiff, Int.reduceToNat, reduceCtorEq, ↓reduceIte]; done)
theorem k_impl_reachedHeap_Push (a0_0 : List (Int × Int)) (a1_0 : Int) (a1_1 : Int) {r : (List (Int × Int))} (h : impl_reachedHeap_Push a0_0 a1_0 a1_1 = some r) :
    FnA Try.prog 77 [.pp 0 0, .v (.iface 57 (.agg #[(.int .i64 a1_0), (.int .i64 a1_1)]))] [.box [.sl 1], .row true (.pairs a0_0)] [] (fun x H => x = .tup [] ∧ H = [.box [.sl 2], .dead, .row true (.pairs r)]) := by
  unfold impl_reachedHeap_Push at h
  refine FnA.of (N := 20) (pin := [0, 1]) (rs := []) Try.func77 rfl en77 rfl rfl (by simp) (by simp; try omega) ?_
  refine awp_move 1 [(0, .pp 0 0), (1, .v (.iface 57 (.agg #[(.int .i64 a1_0), (.int .i64 a1_1)])))] [.box [.sl 2], .dead, .row true (.pairs a0_0)] (by rfl) (by rfl) (by exact rfl) ?_
  refine awp_reg ftCOk [(0, .pp 0 0), (4, .pp 3 0), (5, .v (.bool true))] [.box [.sl 2], .dead, .row true (.pairs a0_0), .box [.v (.int .i64 a1_0), .v (.int .i64 a1_1)]] ?_
  refine awp_reg ftCOk [(0, .pp 0 0), (4, .pp 3 0), (11, .v (.bool true))] [.box [.sl 2], .dead, .row true (.pairs a0_0), .box [.v (.int .i64 a1_0), .v (.int .i64 a1_1)]] ?_
  refine awp_cond (t := 11) rfl (fun _ => ?_) (fun hc => by cases hc)
  replace h := chk_some h
  obtain ⟨hp0, h⟩ := h
  refine awp_end [] [.box [.sl 2], .dead, .row true (.pairs (a0_0 ++ [(a1_0, a1_1)])), .box [.v (.int .i64 a1_0), .v (.int .i64 a1_1)], .row true (.pairs [(a1_0, a1_1)])] ?_ ?_
  · clear h
    intro K hK
    refine awp_drawP [0, 1, 3] (by first | rfl | kernel_rfl) (by rfl) mixed ftCOk (.free 0 (.free 1 (.free 2 (.two 3 4 (.one 4 (.one 5 (.one 6 (.one 7 (.one 8 .fin))))) (.two 3 5 (.one 5 (.one 6 (.one 7 (.one 8 .fin)))) (.one 3 (.one 6 (.one 7 (.one 8 .fin))))))))) (by kernel_rfl) (by simp) ?_
    simp (maxSteps := 4000000) only [go_sem, Nat.reduceBEq, Nat.reduceLT, Nat.reduceAdd, Nat.reduceLeDiff, Nat.reduceSub, Nat.reduceEqDiff, Int.reduceToNat, reduceCtorEq, ↓reduceIte]
    repeat' (first | refine And.intro ?_ ?_ | intro hg)
    all_goals (try simp (disch := omega) only [wrap_fits])
    all_goals first
      | (refine hK _ _ ?_; exact Red.auto)
      | exact trivial
      | assumption
      | omega
      | exact wrap_fits (by omega) (by omega)
      | (simp (maxSteps := 4000000) only [go_sem, Nat.reduceBEq, Nat.reduceLT, Nat.reduceAdd, Nat.reduceLeDiff, Nat.reduceSub, Nat.reduceEqDiff, Int.reduceToNat, reduceCtorEq, ↓reduceIte]
         repeat' (first | refine And.intro ?_ ?_ | intro hg)
         all_goals (try simp (disch := omega) only [wrap_fits])
         all_goals first | (refine hK _ _ ?_; exact Red.auto) | exact trivial | assumption | omega | exact wrap_fits (by omega) (by omega))
      | (simp_all; done)
      | (simp_all; omega)
  · clear hp0
    (try simp only [Thn, InBlk, ↓reduceIte, Nat.reduceEqDiff])
    obtain rfl := Option.some.inj h
    refine ⟨by simp, _, [0, 1, 2], (by simp only [go_sem, Nat.reduceBEq, Nat.reduceLT, Nat.reduceAdd, Nat.reduceLeDiff, Nat.reduceSub, Nat.reduceEqDiff, Int.reduceToNat, reduceCtorEq, ↓reduceIte]; exact rfl), ?_, ?_, ?_, ?_⟩
    · first | exact trivial | exact ⟨trivial, trivial⟩ | exact ⟨trivial, trivial, trivial⟩ | exact ⟨trivial, trivial, trivial, trivial⟩ | (simp only [allP, and_true, true_and]; done) | (simp only [allP, and_true, true_and]; omega)
    · simp [selOk, pos]
    · simp
    · first | exact ⟨rfl, rfl⟩ | (simp only [go_sem, Nat.reduceBEq, Nat.reduceLT, Nat.reduceAdd, Nat.reduceLeDiff, Nat.reduceSub, Nat.reduceEqDiff, Int.reduceToNat, reduceCtorEq, ↓reduceIte]; done) | (simp [go_sem, Nat.reduceBEq, Nat.reduceLT, Nat.reduceAdd, Nat.reduceLeDiff, Nat.reduceSub, Nat.reduceEqDiff, Int.reduceToNat, reduceCtorEq, ↓reduceIte]; done) | (simp only [go_sem, Nat.reduceBEq, Nat.reduceLT, Nat.reduceAdd, Nat.reduceLeDiff, Nat.reduceSub, Nat.reduceEqDiff, Int.reduceToNat, reduceCtorEq, ↓reduceIte]; exact ⟨rfl, rfl⟩) | (simp_all [go_sem, Nat.reduceBEq, Nat.reduceLT, Nat.reduceAdd, Nat.reduceLeDiff, Nat.reduceSub, Nat.reduceEqDiff, Int.reduceToNat, reduceCtorEq, ↓reduceIte]; done)
theorem k_impl_reachedHeap_Swap (a0 : List (Int × Int)) (a1 : Int) (a2 : Int) {r : (List (Int × Int))} (h : impl_reachedHeap_Swap a0 a1 a2 = some r) :
    FnA Try.prog 78 [.sl 0, .v (.int .i64 a1), .v (.int .i64 a2)] [.row true (.pairs a0)] [] (fun x H => x = .tup [] ∧ H = [.row true (.pairs r)]) := by
  unfold impl_reachedHeap_Swap at h
  refine FnA.of (N := 20) (pin := [0]) (rs := []) Try.func78 rfl en78 rfl rfl (by simp) (by simp; try omega) ?_
  replace h := chk_some h
  obtain ⟨hp0, h⟩ := h
  replace h := chk_some h
  obtain ⟨hp1, h⟩ := h
  replace h := chk_some h
  obtain ⟨hp2, h⟩ := h
  refine awp_end [] [.row true (.pairs ((a0.set a1.toNat ((a0.getD a2.toNat (0, 0)).1, (a0.getD a2.toNat (0, 0)).2)).set a2.toNat ((a0.getD a1.toNat (0, 0)).1, (a0.getD a1.toNat (0, 0)).2)))] ?_ ?_
  · clear h
    intro K hK
    refine awp_drawT mixed ftCOk (.free 0 (.free 1 (.free 2 (.free 3 (.free 4 (.free 5 (.free 8 (.free 9 (.two 6 10 (.two 7 10 (.one 10 (.one 11 (.one 12 (.one 13 (.one 14 (.one 15 .fin)))))) (.two 7 11 (.one 11 (.one 12 (.one 13 (.one 14 (.one 15 .fin))))) (.one 7 (.one 12 (.one 13 (.one 14 (.one 15 .fin))))))) (.two 6 11 (.two 7 11 (.one 11 (.one 12 (.one 13 (.one 14 (.one 15 .fin))))) (.one 7 (.one 12 (.one 13 (.one 14 (.one 15 .fin)))))) (.one 6 (.one 7 (.one 12 (.one 13 (.one 14 (.one 15 .fin)))))))))))))))) (by kernel_rfl) (by simp) ?_
    simp (maxSteps := 4000000) only [go_sem, Nat.reduceBEq, Nat.reduceLT, Nat.reduceAdd, Nat.reduceLeDiff, Nat.reduceSub, Nat.reduceEqDiff, Int.reduceToNat, reduceCtorEq, ↓reduceIte]
    repeat' (first | refine And.intro ?_ ?_ | intro hg)
    all_goals (try simp (disch := omega) only [wrap_fits])
    all_goals first
      | (refine hK _ _ ?_; exact Red.auto)
      | exact trivial
      | assumption
      | omega
      | exact wrap_fits (by omega) (by omega)
      | (simp (maxSteps := 4000000) only [go_sem, Nat.reduceBEq, Nat.reduceLT, Nat.reduceAdd, Nat.reduceLeDiff, Nat.reduceSub, Nat.reduceEqDiff, Int.reduceToNat, reduceCtorEq, ↓reduceIte]
         repeat' (first | refine And.intro ?_ ?_ | intro hg)
         all_goals (try simp (disch := omega) only [wrap_fits])
         all_goals first | (refine hK _ _ ?_; exact Red.auto) | exact trivial | assumption | omega | exact wrap_fits (by omega) (by omega))
      | (simp_all; done)
      | (simp_all; omega)
  · clear hp0 hp1 hp2
    (try simp only [Thn, InBlk, ↓reduceIte, Nat.reduceEqDiff])
    obtain rfl := Option.some.inj h
    refine ⟨by simp, _, [0], (by simp only [go_sem, Nat.reduceBEq, Nat.reduceLT, Nat.reduceAdd, Nat.reduceLeDiff, Nat.reduceSub, Nat.reduceEqDiff, Int.reduceToNat, reduceCtorEq, ↓reduceIte]; exact rfl), ?_, ?_, ?_, ?_⟩
    · first | exact trivial | exact ⟨trivial, trivial⟩ | exact ⟨trivial, trivial, trivial⟩ | exact ⟨trivial, trivial, trivial, trivial⟩ | (simp only [allP, and_true, true_and]; done) | (simp only [allP, and_true, true_and]; omega)
    · simp [selOk, pos]
    · simp
    · first | exact ⟨rfl, rfl⟩ | (simp only [go_sem, Nat.reduceBEq, Nat.reduceLT, Nat.reduceAdd, Nat.reduceLeDiff, Nat.reduceSub, Nat.reduceEqDiff, Int.reduceToNat, reduceCtorEq, ↓reduceIte]; done) | (simp [go_sem, Nat.reduceBEq, Nat.reduceLT, Nat.reduceAdd, Nat.reduceLeDiff, Nat.reduceSub, Nat.reduceEqDiff, Int.reduceToNat, reduceCtorEq, ↓reduceIte]; done) | (simp only [go_sem, Nat.reduceBEq, Nat.reduceLT, Nat.reduceAdd, Nat.reduceLeDiff, Nat.reduceSub, Nat.reduceEqDiff, Int.reduceToNat, reduceCtorEq, ↓reduceIte]; exact ⟨rfl, rfl⟩) | (simp_all [go_sem, Nat.reduceBEq, Nat.reduceLT, Nat.reduceAdd, Nat.reduceLeDiff, Nat.reduceSub, Nat.reduceEqDiff, Int.reduceToNat, reduceCtorEq, ↓reduceIte]; done)
theorem k_container_heap_down (a0_0 : List (Int × Int)) (a1 : Int) (a2 : Int) {r : Bool × (List (Int × Int))} (h : container_heap_down a0_0 a1 a2 = some r) :
    FnA Try.prog 39 [.ip 0 55, .v (.int .i64 a1), .v (.int .i64 a2)] [.box [.sl 1], .row true (.pairs a0_0)] [] (fun x H => x = .v (.bool r.1) ∧ H = [.box [.sl 2], .dead, .row true (.pairs r.2)]) := by
  unfold container_heap_down at h
  refine FnA.of (N := 48) (pin := [0, 1]) (rs := [.tmp 6]) Try.func39 rfl en39 rfl rfl (by simp) (by simp; try omega) ?_
  refine awp_move 1 [(0, .ip 0 55), (1, .v (.int .i64 a1)), (2, .v (.int .i64 a2))] [.box [.sl 2], .dead, .row true (.pairs a0_0)] (by rfl) (by rfl) (by exact rfl) ?_
  refine awp_reg ftCOk [(0, .ip 0 55), (1, .v (.int .i64 a1)), (2, .v (.int .i64 a2))] [.box [.sl 2], .dead, .row true (.pairs a0_0)] ?_
  refine awp_reg ftCOk [(0, .ip 0 55), (1, .v (.int .i64 a1)), (2, .v (.int .i64 a2)), (7, .v (.int .i64 a1))] [.box [.sl 2], .dead, .row true (.pairs a0_0)] ?_
  refine awp_seq fun K26 hK26 => ?_
  refine awp_block ?_
  replace h := bind_some h
  obtain ⟨x51, hx, h⟩ := h
  refine awp_loopL hx (fun ((t7, p0_0s) : Int × (List (Int × Int))) => [(0, .ip 0 55), (1, .v (.int .i64 a1)), (2, .v (.int .i64 a2)), (7, .v (.int .i64 t7))]) (fun ((t7, p0_0s) : Int × (List (Int × Int))) => [.box [.sl 2], .dead, .row true (.pairs p0_0s)]) (fun ((t7_1, p0_0s_1) : Int × (List (Int × Int))) => Exit.exit 0) (fun ((t7_1, p0_0s_1) : Int × (List (Int × Int))) => [(1, .v (.int .i64 a1)), (7, .v (.int .i64 t7_1))]) (fun ((t7_1, p0_0s_1) : Int × (List (Int × Int))) => [.box [.sl 2], .dead, .row true (.pairs p0_0s_1)]) ?_ ?_ ?_ ?_
  · rintro ⟨t7_1, p0_0s_1⟩ hy <;> cases hy
  · clear h hx
    exact Red.auto
  · clear h hx
    rintro ⟨t7, p0_0s⟩ r h
    unfold container_heap_down_b0 at h
    try dsimp only at h
    try dsimp only
    refine awp_block ?_
    replace h := chk_some h
    obtain ⟨hp0, h⟩ := h
    replace h := chk_some h
    obtain ⟨hp1, h⟩ := h
    refine awp_reg ftCOk [(0, .ip 0 55), (1, .v (.int .i64 a1)), (2, .v (.int .i64 a2)), (7, .v (.int .i64 t7)), (8, .v (.int .i64 ((2 * t7) + 1)))] [.box [.sl 2], .dead, .row true (.pairs p0_0s)] ?_
    clear hp0 hp1
    refine awp_seq fun K44 hK44 => ?_
    refine awp_reg ftCOk [(0, .ip 0 55), (1, .v (.int .i64 a1)), (2, .v (.int .i64 a2)), (7, .v (.int .i64 t7)), (8, .v (.int .i64 ((2 * t7) + 1))), (21, .v (.bool ((decide (a2 ≤ ((2 * t7) + 1))) || (decide (((2 * t7) + 1) < 0)))))] [.box [.sl 2], .dead, .row true (.pairs p0_0s)] ?_
    refine awp_cond (t := 21) rfl (fun hc45 => ?_) (fun hc45 => ?_)
    · replace h := bite_t h hc45
      refine awp_exit ?_
      (try simp only [Thn, InBlk, ↓reduceIte, Nat.reduceEqDiff])
      obtain rfl := Option.some.inj h
      refine LoopQ.out rfl ?_
      exact Red.auto
    · replace h := bite_f h hc45
      refine awp_skip ?_
      (try simp only [Thn, InBlk, ↓reduceIte, Nat.reduceEqDiff])
      refine hK44 _ _ ?_
      clear hK44
      refine awp_reg ftCOk [(0, .ip 0 55), (1, .v (.int .i64 a1)), (2, .v (.int .i64 a2)), (7, .v (.int .i64 t7)), (8, .v (.int .i64 ((2 * t7) + 1))), (9, .v (.int .i64 ((2 * t7) + 1)))] [.box [.sl 2], .dead, .row true (.pairs p0_0s)] ?_
      refine awp_join h (fun (t9 : Int) => [(0, .ip 0 55), (1, .v (.int .i64 a1)), (2, .v (.int .i64 a2)), (7, .v (.int .i64 t7)), (9, .v (.int .i64 t9))]) (fun (t9 : Int) => [.box [.sl 2], .dead, .row true (.pairs p0_0s)]) ?_ ?_
      · clear h
        intro k h
        try dsimp only at h
        replace h := chk_some h
        obtain ⟨hp0, h⟩ := h
        refine awp_reg ftCOk [(0, .ip 0 55), (1, .v (.int .i64 a1)), (2, .v (.int .i64 a2)), (7, .v (.int .i64 t7)), (8, .v (.int .i64 ((2 * t7) + 1))), (9, .v (.int .i64 ((2 * t7) + 1))), (10, .v (.int .i64 (((2 * t7) + 1) + 1)))] [.box [.sl 2], .dead, .row true (.pairs p0_0s)] ?_
        clear hp0
        replace h := bind_some h
        obtain ⟨y, hr0, h⟩ := h
        try dsimp only at h
        refine awp_to [(0, .ip 0 55), (1, .v (.int .i64 a1)), (2, .v (.int .i64 a2)), (7, .v (.int .i64 t7)), (9, .v (.int .i64 ((2 * t7) + 1))), (10, .v (.int .i64 (((2 * t7) + 1) + 1))), (33, .v (.bool ((decide ((((2 * t7) + 1) + 1) < a2)) && y)))] [.box [.sl 2], .dead, .row true (.pairs p0_0s)] ?_ ?_
        · clear h
          intro K hK
          refine awp_region ftCOk ?_
          simp (maxSteps := 4000000) only [go_sem, Nat.reduceBEq, Nat.reduceLT, Nat.reduceAdd, Nat.reduceLeDiff, Nat.reduceSub, Nat.reduceEqDiff, Int.reduceToNat, reduceCtorEq, ↓reduceIte]
          repeat' (first | refine And.intro ?_ ?_ | intro hg)
          all_goals (try simp (disch := omega) only [wrap_fits])
          all_goals first
            | (refine hK _ _ ?_; exact Red.auto)
            | exact trivial
            | assumption
            | omega
            | exact wrap_fits (by omega) (by omega)
            | (refine wpA_guard rfl rfl ?_
               refine wpA_invA (recv := .tmp 29) (name := "Less") (k_impl_reachedHeap_Less p0_0s (((2 * t7) + 1) + 1) ((2 * t7) + 1) (h := (bite_t hr0 (by first | assumption | (simp only [*, Bool.false_or, Bool.true_or, Bool.or_false, Bool.or_true, Bool.false_and, Bool.true_and, Bool.and_false, Bool.and_true, Bool.not_true, Bool.not_false, beq_self_eq_true]; done) | (simp_all; done))))) [2] [] ⟨0, 55, 59, by rfl, Try.underlying55, .inr ⟨mf55_Less, by rfl, _, Try.underlying59, rfl⟩⟩ ?_
               rintro x Hc' ⟨rfl, rfl⟩ hlen
               refine vcOps_sound ftCOk ?_
               simp (maxSteps := 4000000) only [go_sem, Nat.reduceBEq, Nat.reduceLT, Nat.reduceAdd, Nat.reduceLeDiff, Nat.reduceSub, Nat.reduceEqDiff, Int.reduceToNat, reduceCtorEq, ↓reduceIte]
               repeat' (first | refine And.intro ?_ ?_ | intro hg)
               all_goals (try simp (disch := omega) only [wrap_fits])
               all_goals first
                 | (refine hK _ _ ?_; exact Red.auto)
                 | exact trivial
                 | assumption
                 | omega
                 | exact wrap_fits (by omega) (by omega)
                 | (simp_all; done)
                 | (simp_all; omega))
            | (simp_all; done)
            | (simp_all; omega)
        · clear hr0
          refine awp_cond (t := 33) rfl (fun hc47 => ?_) (fun hc47 => ?_)
          · replace h := bite_t h hc47
            refine awp_regE ftCOk [(0, .ip 0 55), (1, .v (.int .i64 a1)), (2, .v (.int .i64 a2)), (7, .v (.int .i64 t7)), (9, .v (.int .i64 (((2 * t7) + 1) + 1)))] [.box [.sl 2], .dead, .row true (.pairs p0_0s)] ?_
            (try simp only [Thn, InBlk, ↓reduceIte, Nat.reduceEqDiff])
            refine ⟨_, h, ?_⟩
            exact Red.auto
          · replace h := bite_f h hc47
            refine awp_skip ?_
            (try simp only [Thn, InBlk, ↓reduceIte, Nat.reduceEqDiff])
            refine ⟨_, h, ?_⟩
            exact Red.auto
      · clear h
        rintro t9 h
        try dsimp only at h
        try dsimp only
        refine awp_seq fun K49 hK49 => ?_
        replace h := bind_some h
        obtain ⟨y_1, hr0, h⟩ := h
        try dsimp only at h
        refine awp_to [(0, .ip 0 55), (1, .v (.int .i64 a1)), (2, .v (.int .i64 a2)), (7, .v (.int .i64 t7)), (9, .v (.int .i64 t9)), (39, .v (.bool (!y_1)))] [.box [.sl 2], .dead, .row true (.pairs p0_0s)] ?_ ?_
        · clear h
          intro K hK
          refine awp_region ftCOk ?_
          simp (maxSteps := 4000000) only [go_sem, Nat.reduceBEq, Nat.reduceLT, Nat.reduceAdd, Nat.reduceLeDiff, Nat.reduceSub, Nat.reduceEqDiff, Int.reduceToNat, reduceCtorEq, ↓reduceIte]
          repeat' (first | refine And.intro ?_ ?_ | intro hg)
          all_goals (try simp (disch := omega) only [wrap_fits])
          all_goals first
            | (refine hK _ _ ?_; exact Red.auto)
            | exact trivial
            | assumption
            | omega
            | exact wrap_fits (by omega) (by omega)
            | (refine wpA_invA (recv := .tmp 35) (name := "Less") (k_impl_reachedHeap_Less p0_0s t9 t7 (h := hr0)) [2] [] ⟨0, 55, 59, by rfl, Try.underlying55, .inr ⟨mf55_Less, by rfl, _, Try.underlying59, rfl⟩⟩ ?_
               rintro x Hc' ⟨rfl, rfl⟩ hlen
               refine vcOps_sound ftCOk ?_
               simp (maxSteps := 4000000) only [go_sem, Nat.reduceBEq, Nat.reduceLT, Nat.reduceAdd, Nat.reduceLeDiff, Nat.reduceSub, Nat.reduceEqDiff, Int.reduceToNat, reduceCtorEq, ↓reduceIte]
               repeat' (first | refine And.intro ?_ ?_ | intro hg)
               all_goals (try simp (disch := omega) only [wrap_fits])
               all_goals first
                 | (refine hK _ _ ?_; exact Red.auto)
                 | exact trivial
                 | assumption
                 | omega
                 | exact wrap_fits (by omega) (by omega)
                 | (simp_all; done)
                 | (simp_all; omega))
            | (simp_all; done)
            | (simp_all; omega)
        · clear hr0
          refine awp_cond (t := 39) rfl (fun hc50 => ?_) (fun hc50 => ?_)
          · replace h := bite_t h hc50
            refine awp_exit ?_
            (try simp only [Thn, InBlk, ↓reduceIte, Nat.reduceEqDiff])
            obtain rfl := Option.some.inj h
            refine LoopQ.out rfl ?_
            exact Red.auto
          · replace h := bite_f h hc50
            refine awp_skip ?_
            (try simp only [Thn, InBlk, ↓reduceIte, Nat.reduceEqDiff])
            refine hK49 _ _ ?_
            clear hK49
            replace h := bind_some h
            obtain ⟨y_2, hr0, h⟩ := h
            try dsimp only at h
            refine awp_to [(0, .ip 0 55), (1, .v (.int .i64 a1)), (2, .v (.int .i64 a2)), (9, .v (.int .i64 t9))] [.box [.sl 2], .dead, .row true (.pairs y_2)] ?_ ?_
            · clear h
              intro K hK
              refine awp_region ftCOk ?_
              simp (maxSteps := 4000000) only [go_sem, Nat.reduceBEq, Nat.reduceLT, Nat.reduceAdd, Nat.reduceLeDiff, Nat.reduceSub, Nat.reduceEqDiff, Int.reduceToNat, reduceCtorEq, ↓reduceIte]
              repeat' (first | refine And.intro ?_ ?_ | intro hg)
              all_goals (try simp (disch := omega) only [wrap_fits])
              all_goals first
                | (refine hK _ _ ?_; exact Red.auto)
                | exact trivial
                | assumption
                | omega
                | exact wrap_fits (by omega) (by omega)
                | (refine wpA_invA (recv := .tmp 40) (name := "Swap") (k_impl_reachedHeap_Swap p0_0s t7 t9 (h := hr0)) [2] [] ⟨0, 55, 59, by rfl, Try.underlying55, .inr ⟨mf55_Swap, by rfl, _, Try.underlying59, rfl⟩⟩ ?_
                   rintro x Hc' ⟨rfl, rfl⟩ hlen
                   refine vcOps_sound ftCOk ?_
                   simp (maxSteps := 4000000) only [go_sem, Nat.reduceBEq, Nat.reduceLT, Nat.reduceAdd, Nat.reduceLeDiff, Nat.reduceSub, Nat.reduceEqDiff, Int.reduceToNat, reduceCtorEq, ↓reduceIte]
                   repeat' (first | refine And.intro ?_ ?_ | intro hg)
                   all_goals (try simp (disch := omega) only [wrap_fits])
                   all_goals first
                     | (refine hK _ _ ?_; exact Red.auto)
                     | exact trivial
                     | assumption
                     | omega
                     | exact wrap_fits (by omega) (by omega)
                     | (simp_all; done)
                     | (simp_all; omega))
                | (simp_all; done)
                | (simp_all; omega)
            · clear hr0
              refine awp_regE ftCOk [(0, .ip 0 55), (1, .v (.int .i64 a1)), (2, .v (.int .i64 a2)), (7, .v (.int .i64 t9))] [.box [.sl 2], .dead, .row true (.pairs y_2)] ?_
              (try simp only [Thn, InBlk, ↓reduceIte, Nat.reduceEqDiff])
              obtain rfl := Option.some.inj h
              refine LoopQ.next ?_
              exact Red.auto
  · clear hx
    rcases x51 with ⟨t7_1, p0_0s_1⟩
    · try dsimp only [Sum.elim_inl, Sum.elim_inr] at h
      try dsimp only [Sum.elim_inl, Sum.elim_inr]
      (try simp only [Thn, InBlk, ↓reduceIte, Nat.reduceEqDiff])
      (try simp only [Thn, InBlk, ↓reduceIte, Nat.reduceEqDiff])
      (try simp only [Thn, InBlk, ↓reduceIte, Nat.reduceEqDiff])
      refine hK26 _ _ ?_
      clear hK26
      refine awp_reg ftCOk [(6, .v (.bool (decide (a1 < t7_1))))] [.box [.sl 2], .dead, .row true (.pairs p0_0s_1)] ?_
      refine awp_ret ?_
      (try simp only [Thn, InBlk, ↓reduceIte, Nat.reduceEqDiff])
      obtain rfl := Option.some.inj h
      refine ⟨by simp, _, [0, 1, 2], (by simp only [go_sem, Nat.reduceBEq, Nat.reduceLT, Nat.reduceAdd, Nat.reduceLeDiff, Nat.reduceSub, Nat.reduceEqDiff, Int.reduceToNat, reduceCtorEq, ↓reduceIte]; exact rfl), ?_, ?_, ?_, ?_⟩
      · first | exact trivial | exact ⟨trivial, trivial⟩ | exact ⟨trivial, trivial, trivial⟩ | exact ⟨trivial, trivial, trivial, trivial⟩ | (simp only [allP, and_true, true_and]; done) | (simp only [allP, and_true, true_and]; omega)
      · simp [selOk, pos]
      · simp
      · first | exact ⟨rfl, rfl⟩ | (simp only [go_sem, Nat.reduceBEq, Nat.reduceLT, Nat.reduceAdd, Nat.reduceLeDiff, Nat.reduceSub, Nat.reduceEqDiff, Int.reduceToNat, reduceCtorEq, ↓reduceIte]; done) | (simp [go_sem, Nat.reduceBEq, Nat.reduceLT, Nat.reduceAdd, Nat.reduceLeDiff, Nat.reduceSub, Nat.reduceEqDiff, Int.reduceToNat, reduceCtorEq, ↓reduceIte]; done) | (simp only [go_sem, Nat.reduceBEq, Nat.reduceLT, Nat.reduceAdd, Nat.reduceLeDiff, Nat.reduceSub, Nat.reduceEqDiff, Int.reduceToNat, reduceCtorEq, ↓reduceIte]; exact ⟨rfl, rfl⟩) | (simp_all [go_sem, Nat.reduceBEq, Nat.reduceLT, Nat.reduceAdd, Nat.reduceLeDiff, Nat.reduceSub, Nat.reduceEqDiff, Int.reduceToNat, reduceCtorEq, ↓reduceIte]; done)
theorem k_container_heap_Pop (a0_0 : List (Int × Int)) {r : Int × Int × (List (Int × Int))} (h : container_heap_Pop a0_0 = some r) :
    FnA Try.prog 27 [.ip 0 55] [.box [.sl 1], .row true (.pairs a0_0)] [] (fun x H => x = .v (.iface 57 (.agg #[(.int .i64 r.1), (.int .i64 r.2.1)])) ∧ H = [.box [.sl 2], .dead, .row true (.pairs r.2.2)]) := by
  unfold container_heap_Pop at h
  refine FnA.of (N := 15) (pin := [0, 1]) (rs := [.tmp 2]) Try.func27 rfl en27 rfl rfl (by simp) (by simp; try omega) ?_
  refine awp_move 1 [(0, .ip 0 55)] [.box [.sl 2], .dead, .row true (.pairs a0_0)] (by rfl) (by rfl) (by exact rfl) ?_
  refine awp_reg ftCOk [(0, .ip 0 55)] [.box [.sl 2], .dead, .row true (.pairs a0_0)] ?_
  replace h := bind_some h
  obtain ⟨y, hr0, h⟩ := h
  try dsimp only at h
  replace h := chk_some h
  obtain ⟨hp1, h⟩ := h
  have hwhp1 := wrap_fits hp1.1 hp1.2
  refine awp_to [(0, .ip 0 55), (3, .v (.int .i64 (y - 1)))] [.box [.sl 2], .dead, .row true (.pairs a0_0)] ?_ ?_
  · clear h
    intro K hK
    refine awp_region ftCOk ?_
    simp (maxSteps := 4000000) only [go_sem, Nat.reduceBEq, Nat.reduceLT, Nat.reduceAdd, Nat.reduceLeDiff, Nat.reduceSub, Nat.reduceEqDiff, Int.reduceToNat, reduceCtorEq, ↓reduceIte]
    repeat' (first | refine And.intro ?_ ?_ | intro hg)
    all_goals (try simp (disch := omega) only [wrap_fits])
    all_goals first
      | (refine hK _ _ ?_; exact Red.auto)
      | exact trivial
      | assumption
      | omega
      | exact wrap_fits (by omega) (by omega)
      | (refine wpA_invA (recv := .tmp 4) (name := "Len") (k_impl_reachedHeap_Len a0_0 (h := hr0)) [2] [] ⟨0, 55, 59, by rfl, Try.underlying55, .inr ⟨mf55_Len, by rfl, _, Try.underlying59, rfl⟩⟩ ?_
         rintro x Hc' ⟨rfl, rfl⟩ hlen
         refine vcOps_sound ftCOk ?_
         simp (maxSteps := 4000000) only [go_sem, Nat.reduceBEq, Nat.reduceLT, Nat.reduceAdd, Nat.reduceLeDiff, Nat.reduceSub, Nat.reduceEqDiff, Int.reduceToNat, reduceCtorEq, ↓reduceIte]
         repeat' (first | refine And.intro ?_ ?_ | intro hg)
         all_goals (try simp (disch := omega) only [wrap_fits])
         all_goals first
           | (refine hK _ _ ?_; exact Red.auto)
           | exact trivial
           | assumption
           | omega
           | exact wrap_fits (by omega) (by omega)
           | (simp_all; done)
           | (simp_all; omega))
      | (simp_all; done)
      | (simp_all; omega)
  · clear hr0 hp1
    replace h := bind_some h
    obtain ⟨y_1, hr0, h⟩ := h
    try dsimp only at h
    refine awp_to [(0, .ip 0 55), (3, .v (.int .i64 (y - 1)))] [.box [.sl 2], .dead, .row true (.pairs y_1)] ?_ ?_
    · clear h
      intro K hK
      refine awp_region ftCOk ?_
      simp (maxSteps := 4000000) only [go_sem, Nat.reduceBEq, Nat.reduceLT, Nat.reduceAdd, Nat.reduceLeDiff, Nat.reduceSub, Nat.reduceEqDiff, Int.reduceToNat, reduceCtorEq, ↓reduceIte]
      repeat' (first | refine And.intro ?_ ?_ | intro hg)
      all_goals (try simp (disch := omega) only [wrap_fits])
      all_goals first
        | (refine hK _ _ ?_; exact Red.auto)
        | exact trivial
        | assumption
        | omega
        | exact wrap_fits (by omega) (by omega)
        | (refine wpA_invA (recv := .tmp 7) (name := "Swap") (k_impl_reachedHeap_Swap a0_0 0 (y - 1) (h := hr0)) [2] [] ⟨0, 55, 59, by rfl, Try.underlying55, .inr ⟨mf55_Swap, by rfl, _, Try.underlying59, rfl⟩⟩ ?_
           rintro x Hc' ⟨rfl, rfl⟩ hlen
           refine vcOps_sound ftCOk ?_
           simp (maxSteps := 4000000) only [go_sem, Nat.reduceBEq, Nat.reduceLT, Nat.reduceAdd, Nat.reduceLeDiff, Nat.reduceSub, Nat.reduceEqDiff, Int.reduceToNat, reduceCtorEq, ↓reduceIte]
           repeat' (first | refine And.intro ?_ ?_ | intro hg)
           all_goals (try simp (disch := omega) only [wrap_fits])
           all_goals first
             | (refine hK _ _ ?_; exact Red.auto)
             | exact trivial
             | assumption
             | omega
             | exact wrap_fits (by omega) (by omega)
             | (simp_all; done)
             | (simp_all; omega))
        | (simp_all; done)
        | (simp_all; omega)
    · clear hr0
      replace h := bind_some h
      obtain ⟨⟨y_2, y_3⟩, hr0, h⟩ := h
      try dsimp only at h
      refine awp_to [(0, .ip 0 55)] [.box [.sl 3], .dead, .dead, .row true (.pairs y_3)] ?_ ?_
      · clear h
        intro K hK
        refine awp_region ftCOk ?_
        simp (maxSteps := 4000000) only [go_sem, Nat.reduceBEq, Nat.reduceLT, Nat.reduceAdd, Nat.reduceLeDiff, Nat.reduceSub, Nat.reduceEqDiff, Int.reduceToNat, reduceCtorEq, ↓reduceIte]
        repeat' (first | refine And.intro ?_ ?_ | intro hg)
        all_goals (try simp (disch := omega) only [wrap_fits])
        all_goals first
          | (refine hK _ _ ?_; exact Red.auto)
          | exact trivial
          | assumption
          | omega
          | exact wrap_fits (by omega) (by omega)
          | (refine wpA_callA (k_container_heap_down y_1 0 (y - 1) (h := hr0)) [0, 2] [] ?_
             rintro x Hc' ⟨rfl, rfl⟩ hlen
             refine vcOps_sound ftCOk ?_
             simp (maxSteps := 4000000) only [go_sem, Nat.reduceBEq, Nat.reduceLT, Nat.reduceAdd, Nat.reduceLeDiff, Nat.reduceSub, Nat.reduceEqDiff, Int.reduceToNat, reduceCtorEq, ↓reduceIte]
             repeat' (first | refine And.intro ?_ ?_ | intro hg)
             all_goals (try simp (disch := omega) only [wrap_fits])
             all_goals first
               | (refine hK _ _ ?_; exact Red.auto)
               | exact trivial
               | assumption
               | omega
               | exact wrap_fits (by omega) (by omega)
               | (simp_all; done)
               | (simp_all; omega))
          | (simp_all; done)
          | (simp_all; omega)
      · clear hr0
        replace h := bind_some h
        obtain ⟨⟨y_4, y_5, y_6⟩, hr0, h⟩ := h
        try dsimp only at h
        refine awp_to [(2, .v (.iface 57 (.agg #[(.int .i64 y_4), (.int .i64 y_5)])))] [.box [.sl 4], .dead, .dead, .dead, .row true (.pairs y_6)] ?_ ?_
        · clear h
          intro K hK
          refine awp_region ftCOk ?_
          simp (maxSteps := 4000000) only [go_sem, Nat.reduceBEq, Nat.reduceLT, Nat.reduceAdd, Nat.reduceLeDiff, Nat.reduceSub, Nat.reduceEqDiff, Int.reduceToNat, reduceCtorEq, ↓reduceIte]
          repeat' (first | refine And.intro ?_ ?_ | intro hg)
          all_goals (try simp (disch := omega) only [wrap_fits])
          all_goals first
            | (refine hK _ _ ?_; exact Red.auto)
            | exact trivial
            | assumption
            | omega
            | exact wrap_fits (by omega) (by omega)
            | (refine wpA_invA (recv := .tmp 13) (name := "Pop") (k_impl_reachedHeap_Pop y_3 (h := hr0)) [0, 3] [] ⟨0, 55, 59, by rfl, Try.underlying55, .inl ⟨mf55_Pop, rfl⟩⟩ ?_
               rintro x Hc' ⟨rfl, rfl⟩ hlen
               refine vcOps_sound ftCOk ?_
               simp (maxSteps := 4000000) only [go_sem, Nat.reduceBEq, Nat.reduceLT, Nat.reduceAdd, Nat.reduceLeDiff, Nat.reduceSub, Nat.reduceEqDiff, Int.reduceToNat, reduceCtorEq, ↓reduceIte]
               repeat' (first | refine And.intro ?_ ?_ | intro hg)
               all_goals (try simp (disch := omega) only [wrap_fits])
               all_goals first
                 | (refine hK _ _ ?_; exact Red.auto)
                 | exact trivial
                 | assumption
                 | omega
                 | exact wrap_fits (by omega) (by omega)
                 | (simp_all; done)
                 | (simp_all; omega))
            | (simp_all; done)
            | (simp_all; omega)
        · clear hr0
          refine awp_ret ?_
          (try simp only [Thn, InBlk, ↓reduceIte, Nat.reduceEqDiff])
          obtain rfl := Option.some.inj h
          refine ⟨by simp, _, [0, 1, 4], (by simp only [go_sem, Nat.reduceBEq, Nat.reduceLT, Nat.reduceAdd, Nat.reduceLeDiff, Nat.reduceSub, Nat.reduceEqDiff, Int.reduceToNat, reduceCtorEq, ↓reduceIte]; exact rfl), ?_, ?_, ?_, ?_⟩
          · first | exact trivial | exact ⟨trivial, trivial⟩ | exact ⟨trivial, trivial, trivial⟩ | exact ⟨trivial, trivial, trivial, trivial⟩ | (simp only [allP, and_true, true_and]; done) | (simp only [allP, and_true, true_and]; omega)
          · simp [selOk, pos]
          · simp
          · first | exact ⟨rfl, rfl⟩ | (simp only [go_sem, Nat.reduceBEq, Nat.reduceLT, Nat.reduceAdd, Nat.reduceLeDiff, Nat.reduceSub, Nat.reduceEqDiff, Int.reduceToNat, reduceCtorEq, ↓reduceIte]; done) | (simp [go_sem, Nat.reduceBEq, Nat.reduceLT, Nat.reduceAdd, Nat.reduceLeDiff, Nat.reduceSub, Nat.reduceEqDiff, Int.reduceToNat, reduceCtorEq, ↓reduceIte]; done) | (simp only [go_sem, Nat.reduceBEq, Nat.reduceLT, Nat.reduceAdd, Nat.reduceLeDiff, Nat.reduceSub, Nat.reduceEqDiff, Int.reduceToNat, reduceCtorEq, ↓reduceIte]; exact ⟨rfl, rfl⟩) | (simp_all [go_sem, Nat.reduceBEq, Nat.reduceLT, Nat.reduceAdd, Nat.reduceLeDiff, Nat.reduceSub, Nat.reduceEqDiff, Int.reduceToNat, reduceCtorEq, ↓reduceIte]; done)
theorem k_container_heap_up (a0_0 : List (Int × Int)) (a1 : Int) {r : (List (Int × Int))} (h : container_heap_up a0_0 a1 = some r) :
    FnA Try.prog 40 [.ip 0 55, .v (.int .i64 a1)] [.box [.sl 1], .row true (.pairs a0_0)] [] (fun x H => x = .tup [] ∧ H = [.box [.sl 2], .dead, .row true (.pairs r)]) := by
  unfold container_heap_up at h
  refine FnA.of (N := 23) (pin := [0, 1]) (rs := []) Try.func40 rfl en40 rfl rfl (by simp) (by simp; try omega) ?_
  refine awp_move 1 [(0, .ip 0 55), (1, .v (.int .i64 a1))] [.box [.sl 2], .dead, .row true (.pairs a0_0)] (by rfl) (by rfl) (by exact rfl) ?_
  refine awp_block ?_
  replace h := bind_some h
  obtain ⟨p0_0s_1, hx, h⟩ := h
  refine awp_loopL hx (fun ((t1, p0_0s) : Int × (List (Int × Int))) => [(0, .ip 0 55), (1, .v (.int .i64 t1))]) (fun ((t1, p0_0s) : Int × (List (Int × Int))) => [.box [.sl 2], .dead, .row true (.pairs p0_0s)]) (fun (p0_0s_1 : List (Int × Int)) => Exit.exit 0) (fun (p0_0s_1 : List (Int × Int)) => []) (fun (p0_0s_1 : List (Int × Int)) => [.box [.sl 2], .dead, .row true (.pairs p0_0s_1)]) ?_ ?_ ?_ ?_
  · rintro p0_0s_1 hy <;> cases hy
  · clear h hx
    exact Red.auto
  · clear h hx
    rintro ⟨t1, p0_0s⟩ r h
    unfold container_heap_up_b0 at h
    try dsimp only at h
    try dsimp only
    refine awp_block ?_
    replace h := chk_some h
    obtain ⟨hp0, h⟩ := h
    have hwhp0 := wrap_fits hp0.1 hp0.2
    replace h := chk_some h
    obtain ⟨hp1, h⟩ := h
    refine awp_reg ftCOk [(0, .ip 0 55), (1, .v (.int .i64 t1)), (4, .v (.int .i64 ((t1 - 1).tdiv 2)))] [.box [.sl 2], .dead, .row true (.pairs p0_0s)] ?_
    clear hp0 hp1
    refine awp_seq fun K8 hK8 => ?_
    replace h := bind_some h
    obtain ⟨y, hr0, h⟩ := h
    try dsimp only at h
    refine awp_to [(0, .ip 0 55), (1, .v (.int .i64 t1)), (4, .v (.int .i64 ((t1 - 1).tdiv 2))), (17, .v (.bool ((((t1 - 1).tdiv 2) == t1) || (!y))))] [.box [.sl 2], .dead, .row true (.pairs p0_0s)] ?_ ?_
    · clear h
      intro K hK
      refine awp_region ftCOk ?_
      simp (maxSteps := 4000000) only [go_sem, Nat.reduceBEq, Nat.reduceLT, Nat.reduceAdd, Nat.reduceLeDiff, Nat.reduceSub, Nat.reduceEqDiff, Int.reduceToNat, reduceCtorEq, ↓reduceIte]
      repeat' (first | refine And.intro ?_ ?_ | intro hg)
      all_goals (try simp (disch := omega) only [wrap_fits])
      all_goals first
        | (refine hK _ _ ?_; exact Red.auto)
        | exact trivial
        | assumption
        | omega
        | exact wrap_fits (by omega) (by omega)
        | (refine wpA_guard rfl rfl ?_
           refine wpA_invA (recv := .tmp 12) (name := "Less") (k_impl_reachedHeap_Less p0_0s t1 ((t1 - 1).tdiv 2) (h := (bite_t hr0 (by rw [Bool.not_eq_true']; exact (by first | assumption | (simp only [*, Bool.false_or, Bool.true_or, Bool.or_false, Bool.or_true, Bool.false_and, Bool.true_and, Bool.and_false, Bool.and_true, Bool.not_true, Bool.not_false, beq_self_eq_true]; done) | (simp_all; done)))))) [2] [] ⟨0, 55, 59, by rfl, Try.underlying55, .inr ⟨mf55_Less, by rfl, _, Try.underlying59, rfl⟩⟩ ?_
           rintro x Hc' ⟨rfl, rfl⟩ hlen
           refine vcOps_sound ftCOk ?_
           simp (maxSteps := 4000000) only [go_sem, Nat.reduceBEq, Nat.reduceLT, Nat.reduceAdd, Nat.reduceLeDiff, Nat.reduceSub, Nat.reduceEqDiff, Int.reduceToNat, reduceCtorEq, ↓reduceIte]
           repeat' (first | refine And.intro ?_ ?_ | intro hg)
           all_goals (try simp (disch := omega) only [wrap_fits])
           all_goals first
             | (refine hK _ _ ?_; exact Red.auto)
             | exact trivial
             | assumption
             | omega
             | exact wrap_fits (by omega) (by omega)
             | (simp_all; done)
             | (simp_all; omega))
        | (simp_all; done)
        | (simp_all; omega)
    · clear hr0
      refine awp_cond (t := 17) rfl (fun hc9 => ?_) (fun hc9 => ?_)
      · replace h := bite_t h hc9
        refine awp_exit ?_
        (try simp only [Thn, InBlk, ↓reduceIte, Nat.reduceEqDiff])
        obtain rfl := Option.some.inj h
        refine LoopQ.out rfl ?_
        exact Red.auto
      · replace h := bite_f h hc9
        refine awp_skip ?_
        (try simp only [Thn, InBlk, ↓reduceIte, Nat.reduceEqDiff])
        refine hK8 _ _ ?_
        clear hK8
        replace h := bind_some h
        obtain ⟨y_1, hr0, h⟩ := h
        try dsimp only at h
        refine awp_to [(0, .ip 0 55), (4, .v (.int .i64 ((t1 - 1).tdiv 2)))] [.box [.sl 2], .dead, .row true (.pairs y_1)] ?_ ?_
        · clear h
          intro K hK
          refine awp_region ftCOk ?_
          simp (maxSteps := 4000000) only [go_sem, Nat.reduceBEq, Nat.reduceLT, Nat.reduceAdd, Nat.reduceLeDiff, Nat.reduceSub, Nat.reduceEqDiff, Int.reduceToNat, reduceCtorEq, ↓reduceIte]
          repeat' (first | refine And.intro ?_ ?_ | intro hg)
          all_goals (try simp (disch := omega) only [wrap_fits])
          all_goals first
            | (refine hK _ _ ?_; exact Red.auto)
            | exact trivial
            | assumption
            | omega
            | exact wrap_fits (by omega) (by omega)
            | (refine wpA_invA (recv := .tmp 18) (name := "Swap") (k_impl_reachedHeap_Swap p0_0s ((t1 - 1).tdiv 2) t1 (h := hr0)) [2] [] ⟨0, 55, 59, by rfl, Try.underlying55, .inr ⟨mf55_Swap, by rfl, _, Try.underlying59, rfl⟩⟩ ?_
               rintro x Hc' ⟨rfl, rfl⟩ hlen
               refine vcOps_sound ftCOk ?_
               simp (maxSteps := 4000000) only [go_sem, Nat.reduceBEq, Nat.reduceLT, Nat.reduceAdd, Nat.reduceLeDiff, Nat.reduceSub, Nat.reduceEqDiff, Int.reduceToNat, reduceCtorEq, ↓reduceIte]
               repeat' (first | refine And.intro ?_ ?_ | intro hg)
               all_goals (try simp (disch := omega) only [wrap_fits])
               all_goals first
                 | (refine hK _ _ ?_; exact Red.auto)
                 | exact trivial
                 | assumption
                 | omega
                 | exact wrap_fits (by omega) (by omega)
                 | (simp_all; done)
                 | (simp_all; omega))
            | (simp_all; done)
            | (simp_all; omega)
        · clear hr0
          refine awp_regE ftCOk [(0, .ip 0 55), (1, .v (.int .i64 ((t1 - 1).tdiv 2)))] [.box [.sl 2], .dead, .row true (.pairs y_1)] ?_
          (try simp only [Thn, InBlk, ↓reduceIte, Nat.reduceEqDiff])
          obtain rfl := Option.some.inj h
          refine LoopQ.next ?_
          exact Red.auto
  · clear hx
    skip
    · try dsimp only [Sum.elim_inl, Sum.elim_inr] at h
      try dsimp only [Sum.elim_inl, Sum.elim_inr]
      (try simp only [Thn, InBlk, ↓reduceIte, Nat.reduceEqDiff])
      (try simp only [Thn, InBlk, ↓reduceIte, Nat.reduceEqDiff])
      (try simp only [Thn, InBlk, ↓reduceIte, Nat.reduceEqDiff])
      obtain rfl := Option.some.inj h
      refine ⟨by simp, _, [0, 1, 2], (by simp only [go_sem, Nat.reduceBEq, Nat.reduceLT, Nat.reduceAdd, Nat.reduceLeDiff, Nat.reduceSub, Nat.reduceEqDiff, Int.reduceToNat, reduceCtorEq, ↓reduceIte]; exact rfl), ?_, ?_, ?_, ?_⟩
      · first | exact trivial | exact ⟨trivial, trivial⟩ | exact ⟨trivial, trivial, trivial⟩ | exact ⟨trivial, trivial, trivial, trivial⟩ | (simp only [allP, and_true, true_and]; done) | (simp only [allP, and_true, true_and]; omega)
      · simp [selOk, pos]
      · simp
      · first | exact ⟨rfl, rfl⟩ | (simp only [go_sem, Nat.reduceBEq, Nat.reduceLT, Nat.reduceAdd, Nat.reduceLeDiff, Nat.reduceSub, Nat.reduceEqDiff, Int.reduceToNat, reduceCtorEq, ↓reduceIte]; done) | (simp [go_sem, Nat.reduceBEq, Nat.reduceLT, Nat.reduceAdd, Nat.reduceLeDiff, Nat.reduceSub, Nat.reduceEqDiff, Int.reduceToNat, reduceCtorEq, ↓reduceIte]; done) | (simp only [go_sem, Nat.reduceBEq, Nat.reduceLT, Nat.reduceAdd, Nat.reduceLeDiff, Nat.reduceSub, Nat.reduceEqDiff, Int.reduceToNat, reduceCtorEq, ↓reduceIte]; exact ⟨rfl, rfl⟩) | (simp_all [go_sem, Nat.reduceBEq, Nat.reduceLT, Nat.reduceAdd, Nat.reduceLeDiff, Nat.reduceSub, Nat.reduceEqDiff, Int.reduceToNat, reduceCtorEq, ↓reduceIte]; done)
theorem k_container_heap_Push (a0_0 : List (Int × Int)) (a1_0 : Int) (a1_1 : Int) {r : (List (Int × Int))} (h : container_heap_Push a0_0 a1_0 a1_1 = some r) :
    FnA Try.prog 28 [.ip 0 55, .v (.iface 57 (.agg #[(.int .i64 a1_0), (.int .i64 a1_1)]))] [.box [.sl 1], .row true (.pairs a0_0)] [] (fun x H => x = .tup [] ∧ H = [.box [.sl 2], .dead, .row true (.pairs r)]) := by
  unfold container_heap_Push at h
  refine FnA.of (N := 12) (pin := [0, 1]) (rs := []) Try.func28 rfl en28 rfl rfl (by simp) (by simp; try omega) ?_
  refine awp_move 1 [(0, .ip 0 55), (1, .v (.iface 57 (.agg #[(.int .i64 a1_0), (.int .i64 a1_1)])))] [.box [.sl 2], .dead, .row true (.pairs a0_0)] (by rfl) (by rfl) (by exact rfl) ?_
  replace h := bind_some h
  obtain ⟨y, hr0, h⟩ := h
  try dsimp only at h
  refine awp_to [(0, .ip 0 55)] [.box [.sl 3], .dead, .dead, .row true (.pairs y)] ?_ ?_
  · clear h
    intro K hK
    refine awp_region ftCOk ?_
    simp (maxSteps := 4000000) only [go_sem, Nat.reduceBEq, Nat.reduceLT, Nat.reduceAdd, Nat.reduceLeDiff, Nat.reduceSub, Nat.reduceEqDiff, Int.reduceToNat, reduceCtorEq, ↓reduceIte]
    repeat' (first | refine And.intro ?_ ?_ | intro hg)
    all_goals (try simp (disch := omega) only [wrap_fits])
    all_goals first
      | (refine hK _ _ ?_; exact Red.auto)
      | exact trivial
      | assumption
      | omega
      | exact wrap_fits (by omega) (by omega)
      | (refine wpA_invA (recv := .tmp 4) (name := "Push") (k_impl_reachedHeap_Push a0_0 a1_0 a1_1 (h := hr0)) [0, 2] [] ⟨0, 55, 59, by rfl, Try.underlying55, .inl ⟨mf55_Push, rfl⟩⟩ ?_
         rintro x Hc' ⟨rfl, rfl⟩ hlen
         refine vcOps_sound ftCOk ?_
         simp (maxSteps := 4000000) only [go_sem, Nat.reduceBEq, Nat.reduceLT, Nat.reduceAdd, Nat.reduceLeDiff, Nat.reduceSub, Nat.reduceEqDiff, Int.reduceToNat, reduceCtorEq, ↓reduceIte]
         repeat' (first | refine And.intro ?_ ?_ | intro hg)
         all_goals (try simp (disch := omega) only [wrap_fits])
         all_goals first
           | (refine hK _ _ ?_; exact Red.auto)
           | exact trivial
           | assumption
           | omega
           | exact wrap_fits (by omega) (by omega)
           | (simp_all; done)
           | (simp_all; omega))
      | (simp_all; done)
      | (simp_all; omega)
  · clear hr0
    replace h := bind_some h
    obtain ⟨y_1, hr0, h⟩ := h
    try dsimp only at h
    replace h := chk_some h
    obtain ⟨hp1, h⟩ := h
    have hwhp1 := wrap_fits hp1.1 hp1.2
    replace h := bind_some h
    obtain ⟨y_2, hr2, h⟩ := h
    try dsimp only at h
    refine awp_end [] [.box [.sl 4], .dead, .dead, .dead, .row true (.pairs y_2)] ?_ ?_
    · clear h
      intro K hK
      refine awp_region ftCOk ?_
      simp (maxSteps := 4000000) only [go_sem, Nat.reduceBEq, Nat.reduceLT, Nat.reduceAdd, Nat.reduceLeDiff, Nat.reduceSub, Nat.reduceEqDiff, Int.reduceToNat, reduceCtorEq, ↓reduceIte]
      repeat' (first | refine And.intro ?_ ?_ | intro hg)
      all_goals (try simp (disch := omega) only [wrap_fits])
      all_goals first
        | (refine hK _ _ ?_; exact Red.auto)
        | exact trivial
        | assumption
        | omega
        | exact wrap_fits (by omega) (by omega)
        | (refine wpA_invA (recv := .tmp 8) (name := "Len") (k_impl_reachedHeap_Len y (h := hr0)) [3] [] ⟨0, 55, 59, by rfl, Try.underlying55, .inr ⟨mf55_Len, by rfl, _, Try.underlying59, rfl⟩⟩ ?_
           rintro x Hc' ⟨rfl, rfl⟩ hlen
           refine vcOps_sound ftCOk ?_
           simp (maxSteps := 4000000) only [go_sem, Nat.reduceBEq, Nat.reduceLT, Nat.reduceAdd, Nat.reduceLeDiff, Nat.reduceSub, Nat.reduceEqDiff, Int.reduceToNat, reduceCtorEq, ↓reduceIte]
           repeat' (first | refine And.intro ?_ ?_ | intro hg)
           all_goals (try simp (disch := omega) only [wrap_fits])
           all_goals first
             | (refine hK _ _ ?_; exact Red.auto)
             | exact trivial
             | assumption
             | omega
             | exact wrap_fits (by omega) (by omega)
             | (refine wpA_callA (k_container_heap_up y (y_1 - 1) (h := hr2)) [0, 3] [] ?_
                rintro x Hc' ⟨rfl, rfl⟩ hlen
                refine vcOps_sound ftCOk ?_
                simp (maxSteps := 4000000) only [go_sem, Nat.reduceBEq, Nat.reduceLT, Nat.reduceAdd, Nat.reduceLeDiff, Nat.reduceSub, Nat.reduceEqDiff, Int.reduceToNat, reduceCtorEq, ↓reduceIte]
                repeat' (first | refine And.intro ?_ ?_ | intro hg)
                all_goals (try simp (disch := omega) only [wrap_fits])
                all_goals first
                  | (refine hK _ _ ?_; exact Red.auto)
                  | exact trivial
                  | assumption
                  | omega
                  | exact wrap_fits (by omega) (by omega)
                  | (simp_all; done)
                  | (simp_all; omega))
             | (simp_all; done)
             | (simp_all; omega))
        | (simp_all; done)
        | (simp_all; omega)
    · clear hr0 hp1 hr2
      (try simp only [Thn, InBlk, ↓reduceIte, Nat.reduceEqDiff])
      obtain rfl := Option.some.inj h
      refine ⟨by simp, _, [0, 1, 4], (by simp only [go_sem, Nat.reduceBEq, Nat.reduceLT, Nat.reduceAdd, Nat.reduceLeDiff, Nat.reduceSub, Nat.reduceEqDiff, Int.reduceToNat, reduceCtorEq, ↓reduceIte]; exact rfl), ?_, ?_, ?_, ?_⟩
      · first | exact trivial | exact ⟨trivial, trivial⟩ | exact ⟨trivial, trivial, trivial⟩ | exact ⟨trivial, trivial, trivial, trivial⟩ | (simp only [allP, and_true, true_and]; done) | (simp only [allP, and_true, true_and]; omega)
      · simp [selOk, pos]
      · simp
      · first | exact ⟨rfl, rfl⟩ | (simp only [go_sem, Nat.reduceBEq, Nat.reduceLT, Nat.reduceAdd, Nat.reduceLeDiff, Nat.reduceSub, Nat.reduceEqDiff, Int.reduceToNat, reduceCtorEq, ↓reduceIte]; done) | (simp [go_sem, Nat.reduceBEq, Nat.reduceLT, Nat.reduceAdd, Nat.reduceLeDiff, Nat.reduceSub, Nat.reduceEqDiff, Int.reduceToNat, reduceCtorEq, ↓reduceIte]; done) | (simp only [go_sem, Nat.reduceBEq, Nat.reduceLT, Nat.reduceAdd, Nat.reduceLeDiff, Nat.reduceSub, Nat.reduceEqDiff, Int.reduceToNat, reduceCtorEq, ↓reduceIte]; exact ⟨rfl, rfl⟩) | (simp_all [go_sem, Nat.reduceBEq, Nat.reduceLT, Nat.reduceAdd, Nat.reduceLeDiff, Nat.reduceSub, Nat.reduceEqDiff, Int.reduceToNat, reduceCtorEq, ↓reduceIte]; done)
theorem k_impl_leastCosts (a0 : List (List (Int × Int × Int))) (a1 : Int) {r : List Int} (h : impl_leastCosts a0 a1 = some r) :
    FnA Try.prog 14 [.sl 0, .v (.int .i64 a1)] [.row false (.tripss a0)] [] (fun x H => x = .sl 1 ∧ H = [.row false (.tripss a0), .row true (.ints .i64 r)]) := by
  unfold impl_leastCosts at h
  refine FnA.of (N := 76) (pin := [0]) (rs := [.tmp 4]) Try.func14 rfl en14 rfl rfl (by simp) (by simp; try omega) ?_
  refine awp_reg ftCOk [(0, .sl 0), (1, .v (.int .i64 a1))] [.row false (.tripss a0)] ?_
  replace h := bind_some h
  obtain ⟨y, hr0, h⟩ := h
  try dsimp only at h
  refine awp_to [(0, .sl 0), (1, .v (.int .i64 a1)), (5, .sl 1)] [.row false (.tripss a0), .row true (.ints .i64 y)] ?_ ?_
  · clear h
    intro K hK
    refine awp_region ftCOk ?_
    simp (maxSteps := 4000000) only [go_sem, Nat.reduceBEq, Nat.reduceLT, Nat.reduceAdd, Nat.reduceLeDiff, Nat.reduceSub, Nat.reduceEqDiff, Int.reduceToNat, reduceCtorEq, ↓reduceIte]
    repeat' (first | refine And.intro ?_ ?_ | intro hg)
    all_goals (try simp (disch := omega) only [wrap_fits])
    all_goals first
      | (refine hK _ _ ?_; exact Red.auto)
      | exact trivial
      | assumption
      | omega
      | exact wrap_fits (by omega) (by omega)
      | (refine wpA_callA (k_impl_unknowns (a0.length : Int) (h := hr0)) [] [] ?_
         rintro x Hc' ⟨rfl, rfl⟩ hlen
         refine vcOps_sound ftCOk ?_
         simp (maxSteps := 4000000) only [go_sem, Nat.reduceBEq, Nat.reduceLT, Nat.reduceAdd, Nat.reduceLeDiff, Nat.reduceSub, Nat.reduceEqDiff, Int.reduceToNat, reduceCtorEq, ↓reduceIte]
         repeat' (first | refine And.intro ?_ ?_ | intro hg)
         all_goals (try simp (disch := omega) only [wrap_fits])
         all_goals first
           | (refine hK _ _ ?_; exact Red.auto)
           | exact trivial
           | assumption
           | omega
           | exact wrap_fits (by omega) (by omega)
           | (simp_all; done)
           | (simp_all; omega))
      | (simp_all; done)
      | (simp_all; omega)
  · clear hr0
    refine awp_reg ftCOk [(0, .sl 0), (5, .sl 1), (6, .pp 3 0)] [.row false (.tripss a0), .row true (.ints .i64 y), .row true (.pairs [(0, a1)]), .box [.sl 2]] ?_
    refine awp_seq fun K71 hK71 => ?_
    refine awp_block ?_
    replace h := bind_some h
    obtain ⟨t5s_1, hx, h⟩ := h
    refine awp_loopL hx (fun ((t5s, t6_0s) : List Int × (List (Int × Int))) => [(0, .sl 0), (5, .sl 1), (6, .pp 2 0)]) (fun ((t5s, t6_0s) : List Int × (List (Int × Int))) => [.row false (.tripss a0), .row true (.ints .i64 t5s), .box [.sl 3], .row true (.pairs t6_0s)]) (fun (t5s_1 : List Int) => Exit.exit 0) (fun (t5s_1 : List Int) => [(5, .sl 1)]) (fun (t5s_1 : List Int) => [.row false (.tripss a0), .row true (.ints .i64 t5s_1)]) ?_ ?_ ?_ ?_
    · rintro t5s_1 hy <;> cases hy
    · clear h hx
      exact Red.selA [0, 1, 3, 2] Red.auto
    · clear h hx
      rintro ⟨t5s, t6_0s⟩ r h
      unfold impl_leastCosts_b1 at h
      try dsimp only at h
      try dsimp only
      refine awp_seq fun K119 hK119 => ?_
      replace h := bind_some h
      obtain ⟨y_1, hr0, h⟩ := h
      try dsimp only at h
      refine awp_to [(0, .sl 0), (5, .sl 1), (6, .pp 2 0), (22, .v (.bool (decide (0 < y_1))))] [.row false (.tripss a0), .row true (.ints .i64 t5s), .box [.sl 3], .row true (.pairs t6_0s)] ?_ ?_
      · clear h
        intro K hK
        refine awp_region ftCOk ?_
        simp (maxSteps := 4000000) only [go_sem, Nat.reduceBEq, Nat.reduceLT, Nat.reduceAdd, Nat.reduceLeDiff, Nat.reduceSub, Nat.reduceEqDiff, Int.reduceToNat, reduceCtorEq, ↓reduceIte]
        repeat' (first | refine And.intro ?_ ?_ | intro hg)
        all_goals (try simp (disch := omega) only [wrap_fits])
        all_goals first
          | (refine hK _ _ ?_; exact Red.auto)
          | exact trivial
          | assumption
          | omega
          | exact wrap_fits (by omega) (by omega)
          | (refine wpA_callA (k_impl_reachedHeap_Len t6_0s (h := hr0)) [3] [] ?_
             rintro x Hc' ⟨rfl, rfl⟩ hlen
             refine vcOps_sound ftCOk ?_
             simp (maxSteps := 4000000) only [go_sem, Nat.reduceBEq, Nat.reduceLT, Nat.reduceAdd, Nat.reduceLeDiff, Nat.reduceSub, Nat.reduceEqDiff, Int.reduceToNat, reduceCtorEq, ↓reduceIte]
             repeat' (first | refine And.intro ?_ ?_ | intro hg)
             all_goals (try simp (disch := omega) only [wrap_fits])
             all_goals first
               | (refine hK _ _ ?_; exact Red.auto)
               | exact trivial
               | assumption
               | omega
               | exact wrap_fits (by omega) (by omega)
               | (simp_all; done)
               | (simp_all; omega))
          | (simp_all; done)
          | (simp_all; omega)
      · clear hr0
        refine awp_cond (t := 22) rfl (fun hc120 => ?_) (fun hc120 => ?_)
        · replace h := bite_t h hc120
          refine awp_skip ?_
          (try simp only [Thn, InBlk, ↓reduceIte, Nat.reduceEqDiff])
          refine hK119 _ _ ?_
          clear hK119
          refine awp_block ?_
          replace h := bind_some h
          obtain ⟨⟨y_2, y_3, y_4⟩, hr0, h⟩ := h
          try dsimp only at h
          refine awp_to [(0, .sl 0), (5, .sl 1), (6, .pp 2 0), (7, .pp 5 0), (8, .v (.bool true))] [.row false (.tripss a0), .row true (.ints .i64 t5s), .box [.sl 4], .dead, .row true (.pairs y_4), .box [.v (.int .i64 y_2), .v (.int .i64 y_3)]] ?_ ?_
          · clear h
            intro K hK
            refine awp_region ftCOk ?_
            simp (maxSteps := 4000000) only [go_sem, Nat.reduceBEq, Nat.reduceLT, Nat.reduceAdd, Nat.reduceLeDiff, Nat.reduceSub, Nat.reduceEqDiff, Int.reduceToNat, reduceCtorEq, ↓reduceIte]
            repeat' (first | refine And.intro ?_ ?_ | intro hg)
            all_goals (try simp (disch := omega) only [wrap_fits])
            all_goals first
              | (refine hK _ _ ?_; exact Red.auto)
              | exact trivial
              | assumption
              | omega
              | exact wrap_fits (by omega) (by omega)
              | (refine wpA_callA (k_container_heap_Pop t6_0s (h := hr0)) [2, 3] [] ?_
                 rintro x Hc' ⟨rfl, rfl⟩ hlen
                 refine vcOps_sound ftCOk ?_
                 simp (maxSteps := 4000000) only [go_sem, Nat.reduceBEq, Nat.reduceLT, Nat.reduceAdd, Nat.reduceLeDiff, Nat.reduceSub, Nat.reduceEqDiff, Int.reduceToNat, reduceCtorEq, ↓reduceIte]
                 repeat' (first | refine And.intro ?_ ?_ | intro hg)
                 all_goals (try simp (disch := omega) only [wrap_fits])
                 all_goals first
                   | (refine hK _ _ ?_; exact Red.auto)
                   | exact trivial
                   | assumption
                   | omega
                   | exact wrap_fits (by omega) (by omega)
                   | (simp_all; done)
                   | (simp_all; omega))
              | (simp_all; done)
              | (simp_all; omega)
          · clear hr0
            refine awp_seq fun K122 hK122 => ?_
            replace h := chk_some h
            obtain ⟨hp0, h⟩ := h
            refine awp_reg ftCOk [(0, .sl 0), (5, .sl 1), (6, .pp 2 0), (7, .pp 5 0), (39, .v (.bool ((t5s.getD y_3.toNat 0) != (-1))))] [.row false (.tripss a0), .row true (.ints .i64 t5s), .box [.sl 4], .dead, .row true (.pairs y_4), .box [.v (.int .i64 y_2), .v (.int .i64 y_3)]] ?_
            clear hp0
            refine awp_cond (t := 39) rfl (fun hc123 => ?_) (fun hc123 => ?_)
            · replace h := bite_t h hc123
              refine awp_exit ?_
              (try simp only [Thn, InBlk, ↓reduceIte, Nat.reduceEqDiff])
              (try simp only [Thn, InBlk, ↓reduceIte, Nat.reduceEqDiff])
              obtain rfl := Option.some.inj h
              refine LoopQ.next ?_
              exact Red.selA [0, 1, 2, 4] Red.auto
            · replace h := bite_f h hc123
              refine awp_skip ?_
              (try simp only [Thn, InBlk, ↓reduceIte, Nat.reduceEqDiff])
              refine hK122 _ _ ?_
              clear hK122
              replace h := chk_some h
              obtain ⟨hp0, h⟩ := h
              refine awp_reg ftCOk [(0, .sl 0), (5, .sl 1), (6, .pp 2 0), (7, .pp 5 0)] [.row false (.tripss a0), .row true (.ints .i64 (t5s.set y_3.toNat y_2)), .box [.sl 4], .dead, .row true (.pairs y_4), .box [.v (.int .i64 y_2), .v (.int .i64 y_3)]] ?_
              clear hp0
              replace h := chk_some h
              obtain ⟨hpt140, h⟩ := h
              refine awp_take 0 y_3.toNat 0 (by rfl) (by exact hpt140) (by rfl) (by exact rfl) ?_
              clear hpt140
              replace h := chk_some h
              obtain ⟨hp0, h⟩ := h
              refine awp_reg ftCOk [(0, .sl 0), (5, .sl 1), (6, .pp 2 0), (7, .pp 5 0), (50, .sl 6), (51, .v (.int .i64 ((a0.getD y_3.toNat []).length : Int))), (52, .v (.int .i64 0))] [.tak false (.tripss a0) y_3.toNat 0 (some 6), .row true (.ints .i64 (t5s.set y_3.toNat y_2)), .box [.sl 4], .dead, .row true (.pairs y_4), .box [.v (.int .i64 y_2), .v (.int .i64 y_3)], .row false (.trips (a0.getD y_3.toNat []))] ?_
              clear hp0
              refine awp_block ?_
              replace h := bind_some h
              obtain ⟨t6_0s_2, hx, h⟩ := h
              refine awp_loopL hx (fun ((t52, t6_0s_1) : Int × (List (Int × Int))) => [(0, .sl 0), (5, .sl 1), (6, .pp 2 0), (7, .pp 4 0), (50, .sl 5), (51, .v (.int .i64 ((a0.getD y_3.toNat []).length : Int))), (52, .v (.int .i64 t52))]) (fun ((t52, t6_0s_1) : Int × (List (Int × Int))) => [.row false (.tripss a0), .row true (.ints .i64 (t5s.set y_3.toNat y_2)), .box [.sl 3], .row true (.pairs t6_0s_1), .box [.v (.int .i64 y_2), .v (.int .i64 y_3)], .row false (.trips (a0.getD y_3.toNat []))]) (fun (t6_0s_2 : List (Int × Int)) => Exit.exit 2) (fun (t6_0s_2 : List (Int × Int)) => [(0, .sl 0), (5, .sl 1), (6, .pp 2 0)]) (fun (t6_0s_2 : List (Int × Int)) => [.row false (.tripss a0), .row true (.ints .i64 (t5s.set y_3.toNat y_2)), .box [.sl 3], .row true (.pairs t6_0s_2)]) ?_ ?_ ?_ ?_
              · rintro t6_0s_2 hy <;> cases hy
              · clear h hx
                refine Red.trans (Red.put 0 6 (by rfl) (by rfl) (Cont.setChild_self (by rfl))) ?_
                exact Red.selA [0, 1, 2, 4, 5, 6] Red.auto
              · clear h hx
                rintro ⟨t52, t6_0s_1⟩ r h
                unfold impl_leastCosts_b0 at h
                try dsimp only at h
                try dsimp only
                refine awp_reg ftCOk [(0, .sl 0), (5, .sl 1), (6, .pp 2 0), (7, .pp 4 0), (50, .sl 5), (51, .v (.int .i64 ((a0.getD y_3.toNat []).length : Int))), (52, .v (.int .i64 t52)), (53, .v (.bool (decide (t52 < ((a0.getD y_3.toNat []).length : Int)))))] [.row false (.tripss a0), .row true (.ints .i64 (t5s.set y_3.toNat y_2)), .box [.sl 3], .row true (.pairs t6_0s_1), .box [.v (.int .i64 y_2), .v (.int .i64 y_3)], .row false (.trips (a0.getD y_3.toNat []))] ?_
                refine awp_seq fun K135 hK135 => ?_
                refine awp_cond (t := 53) rfl (fun hc136 => ?_) (fun hc136 => ?_)
                · replace h := bite_t h hc136
                  refine awp_skip ?_
                  (try simp only [Thn, InBlk, ↓reduceIte, Nat.reduceEqDiff])
                  refine hK135 _ _ ?_
                  clear hK135
                  refine awp_join h (fun (t6_0s_3 : List (Int × Int)) => [(0, .sl 0), (5, .sl 1), (6, .pp 2 0), (7, .pp 4 0), (50, .sl 5), (51, .v (.int .i64 ((a0.getD y_3.toNat []).length : Int))), (52, .v (.int .i64 t52))]) (fun (t6_0s_3 : List (Int × Int)) => [.row false (.tripss a0), .row true (.ints .i64 (t5s.set y_3.toNat y_2)), .box [.sl 3], .row true (.pairs t6_0s_3), .box [.v (.int .i64 y_2), .v (.int .i64 y_3)], .row false (.trips (a0.getD y_3.toNat []))]) ?_ ?_
                  · clear h
                    intro k h
                    try dsimp only at h
                    refine awp_block ?_
                    replace h := chk_some h
                    obtain ⟨hp0, h⟩ := h
                    refine awp_reg ftCOk [(0, .sl 0), (5, .sl 1), (6, .pp 2 0), (7, .pp 4 0), (10, .pp 6 0), (50, .sl 5), (51, .v (.int .i64 ((a0.getD y_3.toNat []).length : Int))), (52, .v (.int .i64 t52))] [.row false (.tripss a0), .row true (.ints .i64 (t5s.set y_3.toNat y_2)), .box [.sl 3], .row true (.pairs t6_0s_1), .box [.v (.int .i64 y_2), .v (.int .i64 y_3)], .row false (.trips (a0.getD y_3.toNat [])), .box [.v (.int .i64 (((a0.getD y_3.toNat []).getD t52.toNat (0, 0, 0)).1)), .v (.int .i64 (((a0.getD y_3.toNat []).getD t52.toNat (0, 0, 0)).2.1)), .v (.int .i64 (((a0.getD y_3.toNat []).getD t52.toNat (0, 0, 0)).2.2))]] ?_
                    clear hp0
                    replace h := chk_some h
                    obtain ⟨hp0, h⟩ := h
                    refine awp_reg ftCOk [(0, .sl 0), (5, .sl 1), (6, .pp 2 0), (7, .pp 4 0), (10, .pp 6 0), (50, .sl 5), (51, .v (.int .i64 ((a0.getD y_3.toNat []).length : Int))), (52, .v (.int .i64 t52)), (61, .v (.bool (((t5s.set y_3.toNat y_2).getD ((((a0.getD y_3.toNat []).getD t52.toNat (0, 0, 0)).2.1).toNat) 0) == (-1))))] [.row false (.tripss a0), .row true (.ints .i64 (t5s.set y_3.toNat y_2)), .box [.sl 3], .row true (.pairs t6_0s_1), .box [.v (.int .i64 y_2), .v (.int .i64 y_3)], .row false (.trips (a0.getD y_3.toNat [])), .box [.v (.int .i64 (((a0.getD y_3.toNat []).getD t52.toNat (0, 0, 0)).1)), .v (.int .i64 (((a0.getD y_3.toNat []).getD t52.toNat (0, 0, 0)).2.1)), .v (.int .i64 (((a0.getD y_3.toNat []).getD t52.toNat (0, 0, 0)).2.2))]] ?_
                    clear hp0
                    refine awp_cond (t := 61) rfl (fun hc138 => ?_) (fun hc138 => ?_)
                    · replace h := bite_t h hc138
                      replace h := chk_some h
                      obtain ⟨hp0, h⟩ := h
                      replace h := bind_some h
                      obtain ⟨y_5, hr1, h⟩ := h
                      try dsimp only at h
                      refine awp_end [(0, .sl 0), (5, .sl 1), (6, .pp 2 0), (7, .pp 4 0), (50, .sl 5), (51, .v (.int .i64 ((a0.getD y_3.toNat []).length : Int))), (52, .v (.int .i64 t52))] [.row false (.tripss a0), .row true (.ints .i64 (t5s.set y_3.toNat y_2)), .box [.sl 7], .dead, .box [.v (.int .i64 y_2), .v (.int .i64 y_3)], .row false (.trips (a0.getD y_3.toNat [])), .box [.v (.int .i64 (((a0.getD y_3.toNat []).getD t52.toNat (0, 0, 0)).1)), .v (.int .i64 (((a0.getD y_3.toNat []).getD t52.toNat (0, 0, 0)).2.1)), .v (.int .i64 (((a0.getD y_3.toNat []).getD t52.toNat (0, 0, 0)).2.2))], .row true (.pairs y_5)] ?_ ?_
                      · clear h
                        intro K hK
                        refine awp_region ftCOk ?_
                        simp (maxSteps := 4000000) only [go_sem, Nat.reduceBEq, Nat.reduceLT, Nat.reduceAdd, Nat.reduceLeDiff, Nat.reduceSub, Nat.reduceEqDiff, Int.reduceToNat, reduceCtorEq, ↓reduceIte]
                        repeat' (first | refine And.intro ?_ ?_ | intro hg)
                        all_goals (try simp (disch := omega) only [wrap_fits])
                        all_goals first
                          | (refine hK _ _ ?_; exact Red.auto)
                          | exact trivial
                          | assumption
                          | omega
                          | exact wrap_fits (by omega) (by omega)
                          | (refine wpA_callA (k_container_heap_Push t6_0s_1 (y_2 + ((a0.getD y_3.toNat []).getD t52.toNat (0, 0, 0)).2.2) (((a0.getD y_3.toNat []).getD t52.toNat (0, 0, 0)).2.1) (h := hr1)) [2, 3] [] ?_
                             rintro x Hc' ⟨rfl, rfl⟩ hlen
                             refine vcOps_sound ftCOk ?_
                             simp (maxSteps := 4000000) only [go_sem, Nat.reduceBEq, Nat.reduceLT, Nat.reduceAdd, Nat.reduceLeDiff, Nat.reduceSub, Nat.reduceEqDiff, Int.reduceToNat, reduceCtorEq, ↓reduceIte]
                             repeat' (first | refine And.intro ?_ ?_ | intro hg)
                             all_goals (try simp (disch := omega) only [wrap_fits])
                             all_goals first
                               | (refine hK _ _ ?_; exact Red.auto)
                               | exact trivial
                               | assumption
                               | omega
                               | exact wrap_fits (by omega) (by omega)
                               | (simp_all; done)
                               | (simp_all; omega))
                          | (simp_all; done)
                          | (simp_all; omega)
                      · clear hp0 hr1
                        (try simp only [Thn, InBlk, ↓reduceIte, Nat.reduceEqDiff])
                        (try simp only [Thn, InBlk, ↓reduceIte, Nat.reduceEqDiff])
                        refine ⟨_, h, ?_⟩
                        exact Red.selA [0, 1, 2, 7, 4, 5] Red.auto
                    · replace h := bite_f h hc138
                      refine awp_skip ?_
                      (try simp only [Thn, InBlk, ↓reduceIte, Nat.reduceEqDiff])
                      (try simp only [Thn, InBlk, ↓reduceIte, Nat.reduceEqDiff])
                      refine ⟨_, h, ?_⟩
                      exact Red.selA [0, 1, 2, 3, 4, 5] Red.auto
                  · clear h
                    rintro t6_0s_3 h
                    try dsimp only at h
                    try dsimp only
                    replace h := chk_some h
                    obtain ⟨hp0, h⟩ := h
                    refine awp_regE ftCOk [(0, .sl 0), (5, .sl 1), (6, .pp 2 0), (7, .pp 4 0), (50, .sl 5), (51, .v (.int .i64 ((a0.getD y_3.toNat []).length : Int))), (52, .v (.int .i64 (t52 + 1)))] [.row false (.tripss a0), .row true (.ints .i64 (t5s.set y_3.toNat y_2)), .box [.sl 3], .row true (.pairs t6_0s_3), .box [.v (.int .i64 y_2), .v (.int .i64 y_3)], .row false (.trips (a0.getD y_3.toNat []))] ?_
                    clear hp0
                    obtain rfl := Option.some.inj h
                    refine LoopQ.next ?_
                    exact Red.auto
                · replace h := bite_f h hc136
                  refine awp_exit ?_
                  (try simp only [Thn, InBlk, ↓reduceIte, Nat.reduceEqDiff])
                  obtain rfl := Option.some.inj h
                  refine LoopQ.out rfl ?_
                  exact Red.selA [0, 1, 2, 3] Red.auto
              · clear hx
                skip
                · try dsimp only [Sum.elim_inl, Sum.elim_inr] at h
                  try dsimp only [Sum.elim_inl, Sum.elim_inr]
                  (try simp only [Thn, InBlk, ↓reduceIte, Nat.reduceEqDiff])
                  (try simp only [Thn, InBlk, ↓reduceIte, Nat.reduceEqDiff])
                  (try simp only [Thn, InBlk, ↓reduceIte, Nat.reduceEqDiff])
                  obtain rfl := Option.some.inj h
                  refine LoopQ.next ?_
                  exact Red.auto
        · replace h := bite_f h hc120
          refine awp_exit ?_
          (try simp only [Thn, InBlk, ↓reduceIte, Nat.reduceEqDiff])
          obtain rfl := Option.some.inj h
          refine LoopQ.out rfl ?_
          exact Red.selA [0, 1] Red.auto
    · clear hx
      skip
      · try dsimp only [Sum.elim_inl, Sum.elim_inr] at h
        try dsimp only [Sum.elim_inl, Sum.elim_inr]
        (try simp only [Thn, InBlk, ↓reduceIte, Nat.reduceEqDiff])
        (try simp only [Thn, InBlk, ↓reduceIte, Nat.reduceEqDiff])
        (try simp only [Thn, InBlk, ↓reduceIte, Nat.reduceEqDiff])
        refine hK71 _ _ ?_
        clear hK71
        refine awp_reg ftCOk [(4, .sl 1)] [.row false (.tripss a0), .row true (.ints .i64 t5s_1)] ?_
        refine awp_ret ?_
        (try simp only [Thn, InBlk, ↓reduceIte, Nat.reduceEqDiff])
        obtain rfl := Option.some.inj h
        refine ⟨by simp, _, [0, 1], (by simp only [go_sem, Nat.reduceBEq, Nat.reduceLT, Nat.reduceAdd, Nat.reduceLeDiff, Nat.reduceSub, Nat.reduceEqDiff, Int.reduceToNat, reduceCtorEq, ↓reduceIte]; exact rfl), ?_, ?_, ?_, ?_⟩
        · first | exact trivial | exact ⟨trivial, trivial⟩ | exact ⟨trivial, trivial, trivial⟩ | exact ⟨trivial, trivial, trivial, trivial⟩ | (simp only [allP, and_true, true_and]; done) | (simp only [allP, and_true, true_and]; omega)
        · simp [selOk, pos]
        · simp
        · first | exact ⟨rfl, rfl⟩ | (simp only [go_sem, Nat.reduceBEq, Nat.reduceLT, Nat.reduceAdd, Nat.reduceLeDiff, Nat.reduceSub, Nat.reduceEqDiff, Int.reduceToNat, reduceCtorEq, ↓reduceIte]; done) | (simp [go_sem, Nat.reduceBEq, Nat.reduceLT, Nat.reduceAdd, Nat.reduceLeDiff, Nat.reduceSub, Nat.reduceEqDiff, Int.reduceToNat, reduceCtorEq, ↓reduceIte]; done) | (simp only [go_sem, Nat.reduceBEq, Nat.reduceLT, Nat.reduceAdd, Nat.reduceLeDiff, Nat.reduceSub, Nat.reduceEqDiff, Int.reduceToNat, reduceCtorEq, ↓reduceIte]; exact ⟨rfl, rfl⟩) | (simp_all [go_sem, Nat.reduceBEq, Nat.reduceLT, Nat.reduceAdd, Nat.reduceLeDiff, Nat.reduceSub, Nat.reduceEqDiff, Int.reduceToNat, reduceCtorEq, ↓reduceIte]; done)
end Go.Proofs.Ytbdncdmkogbdhaa
