/- The code computes the functions that were taken out of it. -/
import Derived.Test.YtdjckcedpnabpaaDoorLaD
set_option maxRecDepth 100000
set_option maxHeartbeats 4000000
set_option linter.unusedSimpArgs false
set_option linter.unusedVariables false
namespace Go.Proofs.YtdjckcedpnabpaaDoor
open Go Go.Av
attribute [local irreducible] wpA OpK awp
attribute [local go_sem] frs_nil frs_cons pw8_32 pw16_32 pw24_32 pw27_32 eqAgg eqAggV buildQ placesOf buildCells List.toList_toArray vcQg gfind gfree gput un3_agg unI_int unB_bool unK_int guardU skipV resVs resV vcD_nil vcD_cons vcT_fin vcT_free vcT_one vcT_two opS vcD1 roH roOb ftNone ftAdd oneOrTup AV.detup AV.ren AV.ren2 AV.ren1 pos selH AObj.ren fitAll fit fit1 fit1s matchAll matchOb exIds AObj.excl Env.killp pastH setAll upId AObj.past AObj.back AV.killp AV.killp1 AV.killp2 Nat.sub_self Nat.lt_irrefl Bool.or_self vcOps vcOp vcQs vcQ dstOk quiet eff pcall calleeF plain valsOf ev ofConst argEnv List.lookup Nat.add_eq decide_true decide_false Env.put binV wrapTo unV convV loadQ indexQ callQ builtinQ rd rdI globC AObj.globC partAV isAggD isArrayD addrAdd boxE storeE storeCE makeE makeNE buildNE nestZero Cont.child Cont.setChild buildSliceE buildFold appendE appendNE nestApp appendV promoteH sliceE boundAV subObj asCells Value.oneCell' contZero Cont.sets Cont.app Cont.sub Cont.len Cont.esz Cont.cell Cont.cells Cont.flat AV.det AV.det1 guardV AObj.unview AObj.kill Env.kill AV.kill AV.kill1 AV.kill2 fits64 Option.getD_some Option.getD_none Option.map_some Option.map_none Option.bind_some List.map_cons List.map_nil List.getElem?_cons_zero List.getElem?_cons_succ List.getElem?_nil true_and and_true List.getElem?_toArray List.cons_append List.nil_append List.length_cons List.length_nil List.set_cons_zero List.set_cons_succ List.take_succ_cons List.take_zero List.drop_succ_cons List.drop_zero List.drop_nil List.take_nil List.contains_cons List.contains_nil List.elem_cons List.elem_nil Bool.not_true Bool.not_false Bool.false_eq_true Bool.or_false Bool.or_true Bool.and_true Bool.and_false Bool.true_and Bool.false_and List.all_cons List.all_nil List.size_toArray Nat.lt_add_one Nat.zero_lt_succ Nat.one_ne_zero Nat.zero_ne_one and_self List.replicate_succ List.replicate_zero Int.toNat_natCast Int.toNat_zero Value.cells false_implies true_implies forall_const Thn InBlk Nat.zero_add Nat.add_zero Int.zero_add Ele Env.ren Option.some.injEq AV.v.injEq AV.sl.injEq AV.pp.injEq AV.ep.injEq AV.agg.injEq List.cons.injEq Value.int.injEq Value.bool.injEq Value.string.injEq true_or or_true or_false false_or tsz0 tby0 tz0 Tryd.underlying0 tsz1 tby1 tz1 Tryd.underlying1 tsz2 tby2 tz2 Tryd.underlying2 tsz3 tby3 tz3 Tryd.underlying3 tsz4 tby4 tz4 Tryd.underlying4 tsz5 tby5 tz5 Tryd.underlying5 tsz6 tby6 tz6 Tryd.underlying6 tsz7 tby7 tz7 Tryd.underlying7 fo7_0 fo7_1 fo7_2 fo7_3 tsz8 tby8 tz8 Tryd.underlying8 fo8_0 fo8_1 fo8_2 fo8_3 tsz9 tby9 Tryd.underlying9 tsz10 tby10 Tryd.underlying10 tsz12 tby12 tz12 Tryd.underlying12 tsz16 tby16 tz16 Tryd.underlying16 tsz17 tby17 tz17 Tryd.underlying17 tsz20 tby20 tz20 Tryd.underlying20 tsz21 tby21 tz21 Tryd.underlying21 tsz22 tby22 tz22 Tryd.underlying22 tsz23 tby23 tz23 Tryd.underlying23 tsz24 tby24 tz24 Tryd.underlying24 fo24_0 fo24_1 tsz25 tby25 tz25 Tryd.underlying25 fo25_0 fo25_1 tsz30 tby30 tz30 Tryd.underlying30 tsz32 tby32 tz32 Tryd.underlying32 tsz40 tby40 tz40 Tryd.underlying40 tsz44 tby44 tz44 Tryd.underlying44 tsz46 tby46 tz46 Tryd.underlying46 tsz50 tby50 tz50 Tryd.underlying50 peq50 fo50_0 fo50_1 fo50_2 tsz51 tby51 tz51 Tryd.underlying51 peq51 fo51_0 fo51_1 fo51_2 tsz53 tby53 tz53 Tryd.underlying53 tsz54 tby54 tz54 Tryd.underlying54 tsz55 tby55 tz55 Tryd.underlying55 tsz60 tby60 tz60 Tryd.underlying60 tsz69 tby69 tz69 Tryd.underlying69 tsz71 tby71 tz71 Tryd.underlying71 fo71_0 fo71_1 tsz72 tby72 tz72 Tryd.underlying72 fo72_0 fo72_1 tsz77 tby77 tz77 Tryd.underlying77 tsz81 tby81 tz81 Tryd.underlying81 tsz86 tby86 tz86 Tryd.underlying86 tsz87 tby87 tz87 Tryd.underlying87 tsz91 tby91 tz91 Tryd.underlying91 tsz94 tby94 tz94 Tryd.underlying94 tsz95 tby95 tz95 Tryd.underlying95 tsz96 tby96 tz96 Tryd.underlying96 tsz100 tby100 tz100 Tryd.underlying100 tsz102 tby102 tz102 Tryd.underlying102 tsz103 tby103 tz103 Tryd.underlying103 tsz108 tby108 tz108 Tryd.underlying108 tsz109 tby109 tz109 Tryd.underlying109 tsz110 tby110 tz110 Tryd.underlying110 tsz111 tby111 tz111 Tryd.underlying111 tsz112 tby112 tz112 Tryd.underlying112 tsz113 tby113 tz113 Tryd.underlying113 tsz114 tby114 tz114 Tryd.underlying114 tsz115 tby115 tz115 Tryd.underlying115 tsz116 tby116 tz116 Tryd.underlying116 tsz117 tby117 tz117 Tryd.underlying117 fo117_0 fo117_1 fo117_2 fo117_3 fo117_4 fo117_5 fo117_6 fo117_7 fo117_8 fo117_9 fo117_10 tsz118 tby118 tz118 Tryd.underlying118 fo118_0 fo118_1 fo118_2 fo118_3 fo118_4 fo118_5 fo118_6 fo118_7 fo118_8 fo118_9 fo118_10 tsz119 tby119 tz119 Tryd.underlying119 l1InG l4BeforeG isNaNG cmpIntG cmpEndsG ftC
theorem k_spec_l20Rd_pick (a0_0 : List Int) (a0_1 : Int) (a1 : Int) {r : Int × Int} (h : spec_l20Rd_pick a0_0 a0_1 a1 = some r) :
    FnA Tryd.prog 39 [.pp 0 0, .v (.int .i64 a1)] [.box [.sl 1, .v (.int .i64 a0_1)], .row false (.ints .u8 a0_0)] [] (fun x H => x = .v (.int .i64 r.1) ∧ H = [.box [.sl 1, .v (.int .i64 r.2)], .row false (.ints .u8 a0_0)]) := by
  unfold spec_l20Rd_pick at h
  refine FnA.of (N := 99) (pin := [0, 1]) (rs := [.tmp 4]) Tryd.func39 rfl en39 rfl rfl (by simp) (by simp; try omega) ?_
  refine awp_reg ftCOk [(0, .pp 0 0), (1, .v (.int .i64 a1))] [.box [.sl 1, .v (.int .i64 a0_1)], .row false (.ints .u8 a0_0)] ?_
  replace h := chk_some h
  obtain ⟨hp0, h⟩ := h
  refine awp_reg ftCOk [(0, .pp 0 0), (1, .v (.int .i64 a1))] [.box [.sl 1, .v (.int .i64 (a0_1 + 1))], .row false (.ints .u8 a0_0)] ?_
  clear hp0
  refine awp_seq fun K2 hK2 => ?_
  refine awp_reg ftCOk [(0, .pp 0 0), (1, .v (.int .i64 a1)), (24, .v (.bool ((decide (a1 < 1)) || ((a0_0.length : Int) == 0))))] [.box [.sl 1, .v (.int .i64 (a0_1 + 1))], .row false (.ints .u8 a0_0)] ?_
  refine awp_cond (t := 24) rfl (fun hc3 => ?_) (fun hc3 => ?_)
  · replace h := bite_t h hc3
    refine awp_reg ftCOk [(4, .v (.int .i64 0))] [.box [.sl 1, .v (.int .i64 (a0_1 + 1))], .row false (.ints .u8 a0_0)] ?_
    refine awp_ret ?_
    (try simp only [Thn, InBlk, ↓reduceIte, Nat.reduceEqDiff])
    obtain rfl := Option.some.inj h
    refine ⟨by simp, _, [0, 1], (by simp only [go_sem, Nat.reduceBEq, Nat.reduceLT, Nat.reduceAdd, Nat.reduceLeDiff, Nat.reduceSub, Nat.reduceEqDiff, Int.reduceToNat, reduceCtorEq, ↓reduceIte]; exact rfl), ?_, ?_, ?_, ?_⟩
    · first | exact trivial | exact ⟨trivial, trivial⟩ | exact ⟨trivial, trivial, trivial⟩ | exact ⟨trivial, trivial, trivial, trivial⟩ | (simp only [allP, and_true, true_and]; done) | (simp only [allP, and_true, true_and]; omega)
    · simp [selOk, pos]
    · simp
    · first | exact ⟨rfl, rfl⟩ | (simp only [go_sem, Nat.reduceBEq, Nat.reduceLT, Nat.reduceAdd, Nat.reduceLeDiff, Nat.reduceSub, Nat.reduceEqDiff, Int.reduceToNat, reduceCtorEq, ↓reduceIte]; done) | (simp [go_sem, Nat.reduceBEq, Nat.reduceLT, Nat.reduceAdd, Nat.reduceLeDiff, Nat.reduceSub, Nat.reduceEqDiff, Int.reduceToNat, reduceCtorEq, ↓reduceIte]; done) | (simp only [go_sem, Nat.reduceBEq, Nat.reduceLT, Nat.reduceAdd, Nat.reduceLeDiff, Nat.reduceSub, Nat.reduceEqDiff, Int.reduceToNat, reduceCtorEq, ↓reduceIte]; exact ⟨rfl, rfl⟩) | (simp_all [go_sem, Nat.reduceBEq, Nat.reduceLT, Nat.reduceAdd, Nat.reduceLeDiff, Nat.reduceSub, Nat.reduceEqDiff, Int.reduceToNat, reduceCtorEq, ↓reduceIte]; done)
  · replace h := bite_f h hc3
    refine awp_skip ?_
    (try simp only [Thn, InBlk, ↓reduceIte, Nat.reduceEqDiff])
    refine hK2 _ _ ?_
    clear hK2
    replace h := chk_some h
    obtain ⟨hp0, h⟩ := h
    have hwhp0 := wrap_fits hp0.1 hp0.2
    refine awp_reg ftCOk [(0, .pp 0 0), (1, .v (.int .i64 a1)), (5, .v (.int .i64 ((a0_1 + 1) - 1)))] [.box [.sl 1, .v (.int .i64 (a0_1 + 1))], .row false (.ints .u8 a0_0)] ?_
    clear hp0
    refine awp_seq fun K5 hK5 => ?_
    refine awp_reg ftCOk [(0, .pp 0 0), (1, .v (.int .i64 a1)), (5, .v (.int .i64 ((a0_1 + 1) - 1))), (36, .v (.bool (decide (((a0_1 + 1) - 1) < (a0_0.length : Int)))))] [.box [.sl 1, .v (.int .i64 (a0_1 + 1))], .row false (.ints .u8 a0_0)] ?_
    refine awp_cond (t := 36) rfl (fun hc6 => ?_) (fun hc6 => ?_)
    · replace h := bite_t h hc6
      replace h := chk_some h
      obtain ⟨hp0, h⟩ := h
      replace h := chk_some h
      obtain ⟨hp1, h⟩ := h
      replace h := chk_some h
      obtain ⟨hp2, h⟩ := h
      refine awp_reg ftCOk [(4, .v (.int .i64 ((a0_0.getD (((a0_1 + 1) - 1).toNat) 0) % a1)))] [.box [.sl 1, .v (.int .i64 (a0_1 + 1))], .row false (.ints .u8 a0_0)] ?_
      clear hp0 hp1 hp2
      refine awp_ret ?_
      (try simp only [Thn, InBlk, ↓reduceIte, Nat.reduceEqDiff])
      obtain rfl := Option.some.inj h
      refine ⟨by simp, _, [0, 1], (by simp only [go_sem, Nat.reduceBEq, Nat.reduceLT, Nat.reduceAdd, Nat.reduceLeDiff, Nat.reduceSub, Nat.reduceEqDiff, Int.reduceToNat, reduceCtorEq, ↓reduceIte]; exact rfl), ?_, ?_, ?_, ?_⟩
      · first | exact trivial | exact ⟨trivial, trivial⟩ | exact ⟨trivial, trivial, trivial⟩ | exact ⟨trivial, trivial, trivial, trivial⟩ | (simp only [allP, and_true, true_and]; done) | (simp only [allP, and_true, true_and]; omega)
      · simp [selOk, pos]
      · simp
      · first | exact ⟨rfl, rfl⟩ | (simp only [go_sem, Nat.reduceBEq, Nat.reduceLT, Nat.reduceAdd, Nat.reduceLeDiff, Nat.reduceSub, Nat.reduceEqDiff, Int.reduceToNat, reduceCtorEq, ↓reduceIte]; done) | (simp [go_sem, Nat.reduceBEq, Nat.reduceLT, Nat.reduceAdd, Nat.reduceLeDiff, Nat.reduceSub, Nat.reduceEqDiff, Int.reduceToNat, reduceCtorEq, ↓reduceIte]; done) | (simp only [go_sem, Nat.reduceBEq, Nat.reduceLT, Nat.reduceAdd, Nat.reduceLeDiff, Nat.reduceSub, Nat.reduceEqDiff, Int.reduceToNat, reduceCtorEq, ↓reduceIte]; exact ⟨rfl, rfl⟩) | (simp_all [go_sem, Nat.reduceBEq, Nat.reduceLT, Nat.reduceAdd, Nat.reduceLeDiff, Nat.reduceSub, Nat.reduceEqDiff, Int.reduceToNat, reduceCtorEq, ↓reduceIte]; done)
    · replace h := bite_f h hc6
      refine awp_skip ?_
      (try simp only [Thn, InBlk, ↓reduceIte, Nat.reduceEqDiff])
      refine hK5 _ _ ?_
      clear hK5
      replace h := chk_some h
      obtain ⟨hp0, h⟩ := h
      replace h := chk_some h
      obtain ⟨hp1, h⟩ := h
      replace h := chk_some h
      obtain ⟨hp2, h⟩ := h
      replace h := chk_some h
      obtain ⟨hp3, h⟩ := h
      replace h := chk_some h
      obtain ⟨hp4, h⟩ := h
      replace h := chk_some h
      obtain ⟨hp5, h⟩ := h
      replace h := chk_some h
      obtain ⟨hp6, h⟩ := h
      replace h := chk_some h
      obtain ⟨hp7, h⟩ := h
      replace h := chk_some h
      obtain ⟨hp8, h⟩ := h
      replace h := chk_some h
      obtain ⟨hp9, h⟩ := h
      replace h := chk_some h
      obtain ⟨hp10, h⟩ := h
      replace h := chk_some h
      obtain ⟨hp11, h⟩ := h
      replace h := chk_some h
      obtain ⟨hp12, h⟩ := h
      replace h := chk_some h
      obtain ⟨hp13, h⟩ := h
      replace h := chk_some h
      obtain ⟨hp14, h⟩ := h
      replace h := chk_some h
      obtain ⟨hp15, h⟩ := h
      refine awp_regQ mixed ftCOk [(1, .v (.int .i64 a1)), (6, .v (.int .i64 (((((a0_0.getD ((((a0_1 + 1) - 1) % (a0_0.length : Int)).toNat) 0) * 131) + ((a0_0.getD ((((((a0_1 + 1) - 1) * 7) + 3) % (a0_0.length : Int)).toNat) 0) * 1117)) + (((a0_1 + 1) - 1) * 29)) + ((((a0_1 + 1) - 1) / (a0_0.length : Int)) * 53))))] [.box [.sl 1, .v (.int .i64 (a0_1 + 1))], .row false (.ints .u8 a0_0)] ?_
      clear hp0 hp1 hp2 hp3 hp4 hp5 hp6 hp7 hp8 hp9 hp10 hp11 hp12 hp13 hp14 hp15
      replace h := chk_some h
      obtain ⟨hp0, h⟩ := h
      refine awp_reg ftCOk [(1, .v (.int .i64 a1)), (6, .v (.int .i64 (bitsV .xor .i64 (((((a0_0.getD ((((a0_1 + 1) - 1) % (a0_0.length : Int)).toNat) 0) * 131) + ((a0_0.getD ((((((a0_1 + 1) - 1) * 7) + 3) % (a0_0.length : Int)).toNat) 0) * 1117)) + (((a0_1 + 1) - 1) * 29)) + ((((a0_1 + 1) - 1) / (a0_0.length : Int)) * 53)) ((((((a0_0.getD ((((a0_1 + 1) - 1) % (a0_0.length : Int)).toNat) 0) * 131) + ((a0_0.getD ((((((a0_1 + 1) - 1) * 7) + 3) % (a0_0.length : Int)).toNat) 0) * 1117)) + (((a0_1 + 1) - 1) * 29)) + ((((a0_1 + 1) - 1) / (a0_0.length : Int)) * 53)) / 64))))] [.box [.sl 1, .v (.int .i64 (a0_1 + 1))], .row false (.ints .u8 a0_0)] ?_
      clear hp0
      replace h := chk_some h
      obtain ⟨hp0, h⟩ := h
      refine awp_reg ftCOk [(4, .v (.int .i64 ((bitsV .xor .i64 (((((a0_0.getD ((((a0_1 + 1) - 1) % (a0_0.length : Int)).toNat) 0) * 131) + ((a0_0.getD ((((((a0_1 + 1) - 1) * 7) + 3) % (a0_0.length : Int)).toNat) 0) * 1117)) + (((a0_1 + 1) - 1) * 29)) + ((((a0_1 + 1) - 1) / (a0_0.length : Int)) * 53)) ((((((a0_0.getD ((((a0_1 + 1) - 1) % (a0_0.length : Int)).toNat) 0) * 131) + ((a0_0.getD ((((((a0_1 + 1) - 1) * 7) + 3) % (a0_0.length : Int)).toNat) 0) * 1117)) + (((a0_1 + 1) - 1) * 29)) + ((((a0_1 + 1) - 1) / (a0_0.length : Int)) * 53)) / 64)) % a1)))] [.box [.sl 1, .v (.int .i64 (a0_1 + 1))], .row false (.ints .u8 a0_0)] ?_
      clear hp0
      refine awp_ret ?_
      (try simp only [Thn, InBlk, ↓reduceIte, Nat.reduceEqDiff])
      obtain rfl := Option.some.inj h
      refine ⟨by simp, _, [0, 1], (by simp only [go_sem, Nat.reduceBEq, Nat.reduceLT, Nat.reduceAdd, Nat.reduceLeDiff, Nat.reduceSub, Nat.reduceEqDiff, Int.reduceToNat, reduceCtorEq, ↓reduceIte]; exact rfl), ?_, ?_, ?_, ?_⟩
      · first | exact trivial | exact ⟨trivial, trivial⟩ | exact ⟨trivial, trivial, trivial⟩ | exact ⟨trivial, trivial, trivial, trivial⟩ | (simp only [allP, and_true, true_and]; done) | (simp only [allP, and_true, true_and]; omega)
      · simp [selOk, pos]
      · simp
      · first | exact ⟨rfl, rfl⟩ | (simp only [go_sem, Nat.reduceBEq, Nat.reduceLT, Nat.reduceAdd, Nat.reduceLeDiff, Nat.reduceSub, Nat.reduceEqDiff, Int.reduceToNat, reduceCtorEq, ↓reduceIte]; done) | (simp [go_sem, Nat.reduceBEq, Nat.reduceLT, Nat.reduceAdd, Nat.reduceLeDiff, Nat.reduceSub, Nat.reduceEqDiff, Int.reduceToNat, reduceCtorEq, ↓reduceIte]; done) | (simp only [go_sem, Nat.reduceBEq, Nat.reduceLT, Nat.reduceAdd, Nat.reduceLeDiff, Nat.reduceSub, Nat.reduceEqDiff, Int.reduceToNat, reduceCtorEq, ↓reduceIte]; exact ⟨rfl, rfl⟩) | (simp_all [go_sem, Nat.reduceBEq, Nat.reduceLT, Nat.reduceAdd, Nat.reduceLeDiff, Nat.reduceSub, Nat.reduceEqDiff, Int.reduceToNat, reduceCtorEq, ↓reduceIte]; done)
theorem k_spec_l20Edge (a0_0 : List Int) (a0_1 : Int) (a1 : Int) {r : Int × Int × Int × Int} (h : spec_l20Edge a0_0 a0_1 a1 = some r) :
    FnA Tryd.prog 70 [.pp 0 0, .v (.int .i64 a1)] [.box [.sl 1, .v (.int .i64 a0_1)], .row false (.ints .u8 a0_0)] [] (fun x H => x = .agg [.v (.int .i64 r.1), .v (.int .i64 r.2.1), .v (.int .i64 r.2.2.1)] ∧ H = [.box [.sl 1, .v (.int .i64 r.2.2.2)], .row false (.ints .u8 a0_0)]) := by
  unfold spec_l20Edge at h
  refine FnA.of (N := 21) (pin := [0, 1]) (rs := [.cell 4 51]) Tryd.func70 rfl en70 rfl rfl (by simp) (by simp; try omega) ?_
  refine awp_reg ftCOk [(0, .pp 0 0), (1, .v (.int .i64 a1)), (4, .pp 2 0)] [.box [.sl 1, .v (.int .i64 a0_1)], .row false (.ints .u8 a0_0), .box [.v (.int .i64 0), .v (.int .i64 0), .v (.int .i64 0)]] ?_
  replace h := bind_some h
  obtain ⟨⟨y, y_1⟩, hr0, h⟩ := h
  try dsimp only at h
  replace h := bind_some h
  obtain ⟨⟨y_2, y_3⟩, hr1, h⟩ := h
  try dsimp only at h
  replace h := bind_some h
  obtain ⟨⟨y_4, y_5⟩, hr2, h⟩ := h
  try dsimp only at h
  replace h := bind_some h
  obtain ⟨⟨y_6, y_7⟩, hr3, h⟩ := h
  try dsimp only at h
  replace h := chk_some h
  obtain ⟨hp4, h⟩ := h
  refine awp_to [(4, .pp 2 0)] [.box [.sl 1, .v (.int .i64 y_7)], .row false (.ints .u8 a0_0), .box [.v (.int .i64 y), .v (.int .i64 y_2), .v (.int .i64 (([y_4, 0, 1, 20] : List Int).getD y_6.toNat 0))], .row true (.ints .i64 [y_4, 0, 1, 20])] ?_ ?_
  · clear h
    intro K hK
    refine awp_region ftCOk ?_
    simp (maxSteps := 4000000) only [go_sem, Nat.reduceBEq, Nat.reduceLT, Nat.reduceAdd, Nat.reduceLeDiff, Nat.reduceSub, Nat.reduceEqDiff, Int.reduceToNat, reduceCtorEq, ↓reduceIte]
    repeat' (first | refine And.intro ?_ ?_ | intro hg)
    all_goals (try simp (disch := omega) only [wrap_fits])
    all_goals first
      | (refine hK _ _ ?_; exact Red.auto)
      | exact trivial
      | assumption
      | omega
      | exact wrap_fits (by omega) (by omega)
      | (refine wpA_callA (k_spec_l20Rd_pick a0_0 a0_1 (max 1 a1) (h := hr0)) [0, 1] [] ?_
         rintro x Hc' ⟨rfl, rfl⟩ hlen
         refine vcOps_sound ftCOk ?_
         simp (maxSteps := 4000000) only [go_sem, Nat.reduceBEq, Nat.reduceLT, Nat.reduceAdd, Nat.reduceLeDiff, Nat.reduceSub, Nat.reduceEqDiff, Int.reduceToNat, reduceCtorEq, ↓reduceIte]
         repeat' (first | refine And.intro ?_ ?_ | intro hg)
         all_goals (try simp (disch := omega) only [wrap_fits])
         all_goals first
           | (refine hK _ _ ?_; exact Red.auto)
           | exact trivial
           | assumption
           | omega
           | exact wrap_fits (by omega) (by omega)
           | (refine wpA_callA (k_spec_l20Rd_pick a0_0 y_1 (max 1 a1) (h := hr1)) [0, 1] [] ?_
              rintro x Hc' ⟨rfl, rfl⟩ hlen
              refine vcOps_sound ftCOk ?_
              simp (maxSteps := 4000000) only [go_sem, Nat.reduceBEq, Nat.reduceLT, Nat.reduceAdd, Nat.reduceLeDiff, Nat.reduceSub, Nat.reduceEqDiff, Int.reduceToNat, reduceCtorEq, ↓reduceIte]
              repeat' (first | refine And.intro ?_ ?_ | intro hg)
              all_goals (try simp (disch := omega) only [wrap_fits])
              all_goals first
                | (refine hK _ _ ?_; exact Red.auto)
                | exact trivial
                | assumption
                | omega
                | exact wrap_fits (by omega) (by omega)
                | (refine wpA_callA (k_spec_l20Rd_pick a0_0 y_3 6 (h := hr2)) [0, 1] [] ?_
                   rintro x Hc' ⟨rfl, rfl⟩ hlen
                   refine vcOps_sound ftCOk ?_
                   simp (maxSteps := 4000000) only [go_sem, Nat.reduceBEq, Nat.reduceLT, Nat.reduceAdd, Nat.reduceLeDiff, Nat.reduceSub, Nat.reduceEqDiff, Int.reduceToNat, reduceCtorEq, ↓reduceIte]
                   repeat' (first | refine And.intro ?_ ?_ | intro hg)
                   all_goals (try simp (disch := omega) only [wrap_fits])
                   all_goals first
                     | (refine hK _ _ ?_; exact Red.auto)
                     | exact trivial
                     | assumption
                     | omega
                     | exact wrap_fits (by omega) (by omega)
                     | (refine wpA_callA (k_spec_l20Rd_pick a0_0 y_5 4 (h := hr3)) [0, 1] [] ?_
                        rintro x Hc' ⟨rfl, rfl⟩ hlen
                        refine vcOps_sound ftCOk ?_
                        simp (maxSteps := 4000000) only [go_sem, Nat.reduceBEq, Nat.reduceLT, Nat.reduceAdd, Nat.reduceLeDiff, Nat.reduceSub, Nat.reduceEqDiff, Int.reduceToNat, reduceCtorEq, ↓reduceIte]
                        repeat' (first | refine And.intro ?_ ?_ | intro hg)
                        all_goals (try simp (disch := omega) only [wrap_fits])
                        all_goals first
                          | (refine hK _ _ ?_; exact Red.auto)
                          | exact trivial
                          | assumption
                          | omega
                          | exact wrap_fits (by omega) (by omega)
                          | (simp_all; done)
                          | (simp_all; omega))
                     | (simp_all; done)
                     | (simp_all; omega))
                | (simp_all; done)
                | (simp_all; omega))
           | (simp_all; done)
           | (simp_all; omega))
      | (simp_all; done)
      | (simp_all; omega)
  · clear hr0 hr1 hr2 hr3 hp4
    refine awp_ret ?_
    (try simp only [Thn, InBlk, ↓reduceIte, Nat.reduceEqDiff])
    obtain rfl := Option.some.inj h
    refine ⟨by simp, _, [0, 1], (by simp only [go_sem, Nat.reduceBEq, Nat.reduceLT, Nat.reduceAdd, Nat.reduceLeDiff, Nat.reduceSub, Nat.reduceEqDiff, Int.reduceToNat, reduceCtorEq, ↓reduceIte]; exact rfl), ?_, ?_, ?_, ?_⟩
    · first | exact trivial | exact ⟨trivial, trivial⟩ | exact ⟨trivial, trivial, trivial⟩ | exact ⟨trivial, trivial, trivial, trivial⟩ | (simp only [allP, and_true, true_and]; done) | (simp only [allP, and_true, true_and]; omega)
    · simp [selOk, pos]
    · simp
    · first | exact ⟨rfl, rfl⟩ | (simp only [go_sem, Nat.reduceBEq, Nat.reduceLT, Nat.reduceAdd, Nat.reduceLeDiff, Nat.reduceSub, Nat.reduceEqDiff, Int.reduceToNat, reduceCtorEq, ↓reduceIte]; done) | (simp [go_sem, Nat.reduceBEq, Nat.reduceLT, Nat.reduceAdd, Nat.reduceLeDiff, Nat.reduceSub, Nat.reduceEqDiff, Int.reduceToNat, reduceCtorEq, ↓reduceIte]; done) | (simp only [go_sem, Nat.reduceBEq, Nat.reduceLT, Nat.reduceAdd, Nat.reduceLeDiff, Nat.reduceSub, Nat.reduceEqDiff, Int.reduceToNat, reduceCtorEq, ↓reduceIte]; exact ⟨rfl, rfl⟩) | (simp_all [go_sem, Nat.reduceBEq, Nat.reduceLT, Nat.reduceAdd, Nat.reduceLeDiff, Nat.reduceSub, Nat.reduceEqDiff, Int.reduceToNat, reduceCtorEq, ↓reduceIte]; done)
theorem k_spec_l1OwnGraph (a0_0 : Int) (a0_1 : List (Int × Int × Int)) {r : Int × (List (Int × Int × Int))} (h : spec_l1OwnGraph a0_0 a0_1 = some r) :
    FnA Tryd.prog 84 [.agg [.v (.int .i64 a0_0), .sl 0]] [.row false (.trips a0_1)] [] (fun x H => x = .agg [.v (.int .i64 r.1), .sl 1] ∧ H = [.row false (.trips a0_1), .row true (.trips r.2)]) := by
  unfold spec_l1OwnGraph at h
  refine FnA.of (N := 11) (pin := [0]) (rs := [.cell 2 25]) Tryd.func84 rfl en84 rfl rfl (by simp) (by simp; try omega) ?_
  refine awp_reg ftCOk [(1, .pp 1 0), (2, .pp 2 0)] [.row false (.trips a0_1), .box [.v (.int .i64 a0_0), .sl 0], .box [.v (.int .i64 0), .v (.slice none 0 0)]] ?_
  refine awp_freeze 1 (by rfl) (by rfl) (by exact rfl) ?_
  refine awp_reg ftCOk [(1, .pp 1 0), (2, .pp 2 0), (3, .pp 3 0)] [.row false (.trips a0_1), .rbox [.v (.int .i64 a0_0), .sl 0], .box [.v (.int .i64 0), .v (.slice none 0 0)], .box [.v (.int .i64 a0_0), .sl 0]] ?_
  replace h := chk_some h
  obtain ⟨hp0, h⟩ := h
  refine awp_reg ftCOk [(2, .pp 2 0), (3, .pp 3 0)] [.row false (.trips a0_1), .rbox [.v (.int .i64 a0_0), .sl 0], .box [.v (.int .i64 0), .v (.slice none 0 0)], .box [.v (.int .i64 a0_0), .sl 4], .row true (.trips ([] ++ a0_1))] ?_
  clear hp0
  refine awp_reg ftCOk [(2, .pp 2 0)] [.row false (.trips a0_1), .rbox [.v (.int .i64 a0_0), .sl 0], .box [.v (.int .i64 a0_0), .sl 4], .box [.v (.int .i64 a0_0), .sl 4], .row true (.trips ([] ++ a0_1))] ?_
  refine awp_ret ?_
  (try simp only [Thn, InBlk, ↓reduceIte, Nat.reduceEqDiff])
  obtain rfl := Option.some.inj h
  refine ⟨by simp, _, [0, 4], (by simp only [go_sem, Nat.reduceBEq, Nat.reduceLT, Nat.reduceAdd, Nat.reduceLeDiff, Nat.reduceSub, Nat.reduceEqDiff, Int.reduceToNat, reduceCtorEq, ↓reduceIte]; exact rfl), ?_, ?_, ?_, ?_⟩
  · first | exact trivial | exact ⟨trivial, trivial⟩ | exact ⟨trivial, trivial, trivial⟩ | exact ⟨trivial, trivial, trivial, trivial⟩ | (simp only [allP, and_true, true_and]; done) | (simp only [allP, and_true, true_and]; omega)
  · simp [selOk, pos]
  · simp
  · first | exact ⟨rfl, rfl⟩ | (simp only [go_sem, Nat.reduceBEq, Nat.reduceLT, Nat.reduceAdd, Nat.reduceLeDiff, Nat.reduceSub, Nat.reduceEqDiff, Int.reduceToNat, reduceCtorEq, ↓reduceIte]; done) | (simp [go_sem, Nat.reduceBEq, Nat.reduceLT, Nat.reduceAdd, Nat.reduceLeDiff, Nat.reduceSub, Nat.reduceEqDiff, Int.reduceToNat, reduceCtorEq, ↓reduceIte]; done) | (simp only [go_sem, Nat.reduceBEq, Nat.reduceLT, Nat.reduceAdd, Nat.reduceLeDiff, Nat.reduceSub, Nat.reduceEqDiff, Int.reduceToNat, reduceCtorEq, ↓reduceIte]; exact ⟨rfl, rfl⟩) | (simp_all [go_sem, Nat.reduceBEq, Nat.reduceLT, Nat.reduceAdd, Nat.reduceLeDiff, Nat.reduceSub, Nat.reduceEqDiff, Int.reduceToNat, reduceCtorEq, ↓reduceIte]; done)
theorem k_spec_GraphValid (a0_0 : Int) (a0_1 : List (Int × Int × Int)) {r : Bool} (h : spec_GraphValid a0_0 a0_1 = some r) :
    FnA Tryd.prog 33 [.agg [.v (.int .i64 a0_0), .sl 0]] [.row false (.trips a0_1)] [] (fun x H => x = .v (.bool r) ∧ H = [.row false (.trips a0_1)]) := by
  unfold spec_GraphValid at h
  refine FnA.of (N := 70) (pin := [0]) (rs := [.tmp 2]) Tryd.func33 rfl en33 rfl rfl (by simp) (by simp; try omega) ?_
  refine awp_reg ftCOk [(1, .pp 1 0)] [.row false (.trips a0_1), .box [.v (.int .i64 a0_0), .sl 0]] ?_
  refine awp_freeze 1 (by rfl) (by rfl) (by exact rfl) ?_
  refine awp_seq fun K20 hK20 => ?_
  refine awp_reg ftCOk [(1, .pp 1 0), (3, .v (.int .i64 0))] [.row false (.trips a0_1), .rbox [.v (.int .i64 a0_0), .sl 0]] ?_
  refine awp_block ?_
  replace h := bind_some h
  obtain ⟨x39, hx, h⟩ := h
  refine awp_loopL hx (fun (t3 : Int) => [(1, .pp 1 0), (3, .v (.int .i64 t3))]) (fun (t3 : Int) => [.row false (.trips a0_1), .rbox [.v (.int .i64 a0_0), .sl 0]]) (Sum.elim (fun (_ : Unit) => Exit.exit 0) (fun (_ : Unit) => Exit.ret)) (Sum.elim (fun (_ : Unit) => [(1, .pp 1 0)]) (fun (_ : Unit) => [(2, .v (.bool false))])) (Sum.elim (fun (_ : Unit) => [.row false (.trips a0_1), .rbox [.v (.int .i64 a0_0), .sl 0]]) (fun (_ : Unit) => [.row false (.trips a0_1)])) ?_ ?_ ?_ ?_
  · rintro (⟨⟩ | ⟨⟩) hy <;> cases hy
  · clear h hx
    exact Red.auto
  · clear h hx
    rintro t3 r h
    unfold spec_GraphValid_b0 at h
    try dsimp only at h
    try dsimp only
    refine awp_seq fun K34 hK34 => ?_
    refine awp_reg ftCOk [(1, .pp 1 0), (3, .v (.int .i64 t3)), (9, .v (.bool (decide (t3 < (a0_1.length : Int)))))] [.row false (.trips a0_1), .rbox [.v (.int .i64 a0_0), .sl 0]] ?_
    refine awp_cond (t := 9) rfl (fun hc35 => ?_) (fun hc35 => ?_)
    · replace h := bite_t h hc35
      refine awp_skip ?_
      (try simp only [Thn, InBlk, ↓reduceIte, Nat.reduceEqDiff])
      refine hK34 _ _ ?_
      clear hK34
      refine awp_seq fun K37 hK37 => ?_
      refine awp_block ?_
      replace h := chk_some h
      obtain ⟨hp0, h⟩ := h
      refine awp_reg ftCOk [(1, .pp 1 0), (3, .v (.int .i64 t3)), (4, .pp 2 0)] [.row false (.trips a0_1), .rbox [.v (.int .i64 a0_0), .sl 0], .box [.v (.int .i64 ((a0_1.getD t3.toNat (0, 0, 0)).1)), .v (.int .i64 ((a0_1.getD t3.toNat (0, 0, 0)).2.1)), .v (.int .i64 ((a0_1.getD t3.toNat (0, 0, 0)).2.2))]] ?_
      clear hp0
      replace h := chk_some h
      obtain ⟨hp0, h⟩ := h
      have hwhp0 := wrap_fits hp0.1 hp0.2
      replace h := chk_some h
      obtain ⟨hp1, h⟩ := h
      refine awp_to [(1, .pp 1 0), (3, .v (.int .i64 t3)), (60, .v (.bool (((((!(decide (0 ≤ (a0_1.getD t3.toNat (0, 0, 0)).1) && decide ((a0_1.getD t3.toNat (0, 0, 0)).1 ≤ (IntKind.i64.wrap (a0_0 - 1))))) || (!(decide (0 ≤ (a0_1.getD t3.toNat (0, 0, 0)).2.1) && decide ((a0_1.getD t3.toNat (0, 0, 0)).2.1 ≤ (IntKind.i64.wrap (a0_0 - 1)))))) || ((a0_1.getD t3.toNat (0, 0, 0)).1 == (a0_1.getD t3.toNat (0, 0, 0)).2.1)) || (!(decide (0 ≤ (a0_1.getD t3.toNat (0, 0, 0)).2.2) && decide ((a0_1.getD t3.toNat (0, 0, 0)).2.2 ≤ 20)))) || ((decide (0 < t3)) && (!(decide ((a0_1.getD ((t3 - 1).toNat) (0, 0, 0)).1 < (a0_1.getD t3.toNat (0, 0, 0)).1 ∨ (a0_1.getD ((t3 - 1).toNat) (0, 0, 0)).1 = (a0_1.getD t3.toNat (0, 0, 0)).1 ∧ (a0_1.getD ((t3 - 1).toNat) (0, 0, 0)).2.1 < (a0_1.getD t3.toNat (0, 0, 0)).2.1)))))))] [.row false (.trips a0_1), .rbox [.v (.int .i64 a0_0), .sl 0], .box [.v (.int .i64 ((a0_1.getD t3.toNat (0, 0, 0)).1)), .v (.int .i64 ((a0_1.getD t3.toNat (0, 0, 0)).2.1)), .v (.int .i64 ((a0_1.getD t3.toNat (0, 0, 0)).2.2))]] ?_ ?_
      · clear h
        intro K hK
        refine awp_quietg mixed ftCOk (by kernel_rfl) ?_
        simp (maxSteps := 4000000) only [go_sem, Nat.reduceBEq, Nat.reduceLT, Nat.reduceAdd, Nat.reduceLeDiff, Nat.reduceSub, Nat.reduceEqDiff, Int.reduceToNat, reduceCtorEq, ↓reduceIte]
        repeat' (first | refine And.intro ?_ ?_ | intro hg)
        all_goals (try simp (disch := omega) only [wrap_fits])
        all_goals first
          | (refine hK _ _ ?_; exact Red.auto)
          | exact trivial
          | assumption
          | omega
          | exact wrap_fits (by omega) (by omega)
          | (have hq := hp1 (by first | assumption | (simp only [*, Bool.false_or, Bool.true_or, Bool.or_false, Bool.or_true, Bool.false_and, Bool.true_and, Bool.and_false, Bool.and_true, Bool.not_true, Bool.not_false, beq_self_eq_true]; done) | (simp_all; done)) (by first | assumption | (simp only [*, Bool.false_or, Bool.true_or, Bool.or_false, Bool.or_true, Bool.false_and, Bool.true_and, Bool.and_false, Bool.and_true, Bool.not_true, Bool.not_false, beq_self_eq_true]; done) | (simp_all; done)); omega)
          | (simp_all; done)
          | (simp_all; omega)
      · clear hp0 hp1
        refine awp_cond (t := 60) rfl (fun hc38 => ?_) (fun hc38 => ?_)
        · replace h := bite_t h hc38
          refine awp_reg ftCOk [(2, .v (.bool false))] [.row false (.trips a0_1), .rbox [.v (.int .i64 a0_0), .sl 0], .box [.v (.int .i64 ((a0_1.getD t3.toNat (0, 0, 0)).1)), .v (.int .i64 ((a0_1.getD t3.toNat (0, 0, 0)).2.1)), .v (.int .i64 ((a0_1.getD t3.toNat (0, 0, 0)).2.2))]] ?_
          refine awp_ret ?_
          (try simp only [Thn, InBlk, ↓reduceIte, Nat.reduceEqDiff])
          obtain rfl := Option.some.inj h
          refine LoopQ.out rfl ?_
          exact Red.selA [0] Red.auto
        · replace h := bite_f h hc38
          refine awp_skip ?_
          (try simp only [Thn, InBlk, ↓reduceIte, Nat.reduceEqDiff])
          (try simp only [Thn, InBlk, ↓reduceIte, Nat.reduceEqDiff])
          refine hK37 _ _ ?_
          clear hK37
          replace h := chk_some h
          obtain ⟨hp0, h⟩ := h
          refine awp_regE ftCOk [(1, .pp 1 0), (3, .v (.int .i64 (t3 + 1)))] [.row false (.trips a0_1), .rbox [.v (.int .i64 a0_0), .sl 0], .box [.v (.int .i64 ((a0_1.getD t3.toNat (0, 0, 0)).1)), .v (.int .i64 ((a0_1.getD t3.toNat (0, 0, 0)).2.1)), .v (.int .i64 ((a0_1.getD t3.toNat (0, 0, 0)).2.2))]] ?_
          clear hp0
          obtain rfl := Option.some.inj h
          refine LoopQ.next ?_
          exact Red.selA [0, 1] Red.auto
    · replace h := bite_f h hc35
      refine awp_exit ?_
      (try simp only [Thn, InBlk, ↓reduceIte, Nat.reduceEqDiff])
      obtain rfl := Option.some.inj h
      refine LoopQ.out rfl ?_
      exact Red.auto
  · clear hx
    rcases x39 with (⟨⟩ | ⟨⟩)
    · try dsimp only [Sum.elim_inl, Sum.elim_inr] at h
      try dsimp only [Sum.elim_inl, Sum.elim_inr]
      (try simp only [Thn, InBlk, ↓reduceIte, Nat.reduceEqDiff])
      (try simp only [Thn, InBlk, ↓reduceIte, Nat.reduceEqDiff])
      (try simp only [Thn, InBlk, ↓reduceIte, Nat.reduceEqDiff])
      refine hK20 _ _ ?_
      clear hK20
      refine awp_reg ftCOk [(2, .v (.bool ((decide (0 ≤ a0_0) && decide (a0_0 ≤ 16)) && (decide ((a0_1.length : Int) ≤ 40)))))] [.row false (.trips a0_1), .rbox [.v (.int .i64 a0_0), .sl 0]] ?_
      refine awp_ret ?_
      (try simp only [Thn, InBlk, ↓reduceIte, Nat.reduceEqDiff])
      obtain rfl := Option.some.inj h
      refine ⟨by simp, _, [0], (by simp only [go_sem, Nat.reduceBEq, Nat.reduceLT, Nat.reduceAdd, Nat.reduceLeDiff, Nat.reduceSub, Nat.reduceEqDiff, Int.reduceToNat, reduceCtorEq, ↓reduceIte]; exact rfl), ?_, ?_, ?_, ?_⟩
      · first | exact trivial | exact ⟨trivial, trivial⟩ | exact ⟨trivial, trivial, trivial⟩ | exact ⟨trivial, trivial, trivial, trivial⟩ | (simp only [allP, and_true, true_and]; done) | (simp only [allP, and_true, true_and]; omega)
      · simp [selOk, pos]
      · simp
      · first | exact ⟨rfl, rfl⟩ | (simp only [go_sem, Nat.reduceBEq, Nat.reduceLT, Nat.reduceAdd, Nat.reduceLeDiff, Nat.reduceSub, Nat.reduceEqDiff, Int.reduceToNat, reduceCtorEq, ↓reduceIte]; done) | (simp [go_sem, Nat.reduceBEq, Nat.reduceLT, Nat.reduceAdd, Nat.reduceLeDiff, Nat.reduceSub, Nat.reduceEqDiff, Int.reduceToNat, reduceCtorEq, ↓reduceIte]; done) | (simp only [go_sem, Nat.reduceBEq, Nat.reduceLT, Nat.reduceAdd, Nat.reduceLeDiff, Nat.reduceSub, Nat.reduceEqDiff, Int.reduceToNat, reduceCtorEq, ↓reduceIte]; exact ⟨rfl, rfl⟩) | (simp_all [go_sem, Nat.reduceBEq, Nat.reduceLT, Nat.reduceAdd, Nat.reduceLeDiff, Nat.reduceSub, Nat.reduceEqDiff, Int.reduceToNat, reduceCtorEq, ↓reduceIte]; done)
    · try dsimp only [Sum.elim_inl, Sum.elim_inr] at h
      try dsimp only [Sum.elim_inl, Sum.elim_inr]
      (try simp only [Thn, InBlk, ↓reduceIte, Nat.reduceEqDiff])
      obtain rfl := Option.some.inj h
      refine ⟨by simp, _, [0], (by simp only [go_sem, Nat.reduceBEq, Nat.reduceLT, Nat.reduceAdd, Nat.reduceLeDiff, Nat.reduceSub, Nat.reduceEqDiff, Int.reduceToNat, reduceCtorEq, ↓reduceIte]; exact rfl), ?_, ?_, ?_, ?_⟩
      · first | exact trivial | exact ⟨trivial, trivial⟩ | exact ⟨trivial, trivial, trivial⟩ | exact ⟨trivial, trivial, trivial, trivial⟩ | (simp only [allP, and_true, true_and]; done) | (simp only [allP, and_true, true_and]; omega)
      · simp [selOk, pos]
      · simp
      · first | exact ⟨rfl, rfl⟩ | (simp only [go_sem, Nat.reduceBEq, Nat.reduceLT, Nat.reduceAdd, Nat.reduceLeDiff, Nat.reduceSub, Nat.reduceEqDiff, Int.reduceToNat, reduceCtorEq, ↓reduceIte]; done) | (simp [go_sem, Nat.reduceBEq, Nat.reduceLT, Nat.reduceAdd, Nat.reduceLeDiff, Nat.reduceSub, Nat.reduceEqDiff, Int.reduceToNat, reduceCtorEq, ↓reduceIte]; done) | (simp only [go_sem, Nat.reduceBEq, Nat.reduceLT, Nat.reduceAdd, Nat.reduceLeDiff, Nat.reduceSub, Nat.reduceEqDiff, Int.reduceToNat, reduceCtorEq, ↓reduceIte]; exact ⟨rfl, rfl⟩) | (simp_all [go_sem, Nat.reduceBEq, Nat.reduceLT, Nat.reduceAdd, Nat.reduceLeDiff, Nat.reduceSub, Nat.reduceEqDiff, Int.reduceToNat, reduceCtorEq, ↓reduceIte]; done)
theorem k_spec_AddEdge (a0_0 : Int) (a0_1 : List (Int × Int × Int)) (a1_0 : Int) (a1_1 : Int) (a1_2 : Int) {r : Int × (List (Int × Int × Int)) × Bool} (h : spec_AddEdge a0_0 a0_1 a1_0 a1_1 a1_2 = some r) :
    FnA Tryd.prog 69 [.agg [.v (.int .i64 a0_0), .sl 0], .agg [.v (.int .i64 a1_0), .v (.int .i64 a1_1), .v (.int .i64 a1_2)]] [.row false (.trips a0_1)] [] (fun x H => x = .tup [.agg [.v (.int .i64 r.1), .sl 1], .v (.bool r.2.2)] ∧ H = [.row false (.trips a0_1), .row true (.trips r.2.1)]) := by
  unfold spec_AddEdge at h
  refine FnA.of (N := 82) (pin := [0]) (rs := [.cell 4 25, .tmp 5]) Tryd.func69 rfl en69 rfl rfl (by simp) (by simp; try omega) ?_
  refine awp_reg ftCOk [(2, .pp 1 0), (3, .pp 2 0), (4, .pp 3 0)] [.row false (.trips a0_1), .box [.v (.int .i64 a0_0), .sl 0], .box [.v (.int .i64 a1_0), .v (.int .i64 a1_1), .v (.int .i64 a1_2)], .box [.v (.int .i64 0), .v (.slice none 0 0)]] ?_
  refine awp_freeze 3 (by rfl) (by rfl) (by exact rfl) ?_
  replace h := bind_some h
  obtain ⟨⟨y, y_1⟩, hr0, h⟩ := h
  try dsimp only at h
  refine awp_to [(2, .pp 1 0), (3, .pp 2 0), (4, .pp 3 0)] [.row false (.trips a0_1), .box [.v (.int .i64 y), .sl 4], .rbox [.v (.int .i64 a1_0), .v (.int .i64 a1_1), .v (.int .i64 a1_2)], .box [.v (.int .i64 0), .v (.slice none 0 0)], .row true (.trips y_1)] ?_ ?_
  · clear h
    intro K hK
    refine awp_region ftCOk ?_
    simp (maxSteps := 4000000) only [go_sem, Nat.reduceBEq, Nat.reduceLT, Nat.reduceAdd, Nat.reduceLeDiff, Nat.reduceSub, Nat.reduceEqDiff, Int.reduceToNat, reduceCtorEq, ↓reduceIte]
    repeat' (first | refine And.intro ?_ ?_ | intro hg)
    all_goals (try simp (disch := omega) only [wrap_fits])
    all_goals first
      | (refine hK _ _ ?_; exact Red.auto)
      | exact trivial
      | assumption
      | omega
      | exact wrap_fits (by omega) (by omega)
      | (refine wpA_callA (k_spec_l1OwnGraph a0_0 a0_1 (h := hr0)) [0] [] ?_
         rintro x Hc' ⟨rfl, rfl⟩ hlen
         refine vcOps_sound ftCOk ?_
         simp (maxSteps := 4000000) only [go_sem, Nat.reduceBEq, Nat.reduceLT, Nat.reduceAdd, Nat.reduceLeDiff, Nat.reduceSub, Nat.reduceEqDiff, Int.reduceToNat, reduceCtorEq, ↓reduceIte]
         repeat' (first | refine And.intro ?_ ?_ | intro hg)
         all_goals (try simp (disch := omega) only [wrap_fits])
         all_goals first
           | (refine hK _ _ ?_; exact Red.auto)
           | exact trivial
           | assumption
           | omega
           | exact wrap_fits (by omega) (by omega)
           | (simp_all; done)
           | (simp_all; omega))
      | (simp_all; done)
      | (simp_all; omega)
  · clear hr0
    refine awp_seq fun K2 hK2 => ?_
    replace h := bind_some h
    obtain ⟨y_2, hr0, h⟩ := h
    try dsimp only at h
    refine awp_to [(2, .pp 1 0), (3, .pp 2 0), (4, .pp 3 0), (14, .v (.bool (!y_2)))] [.row false (.trips a0_1), .box [.v (.int .i64 y), .sl 4], .rbox [.v (.int .i64 a1_0), .v (.int .i64 a1_1), .v (.int .i64 a1_2)], .box [.v (.int .i64 0), .v (.slice none 0 0)], .row true (.trips y_1)] ?_ ?_
    · clear h
      intro K hK
      refine awp_region ftCOk ?_
      simp (maxSteps := 4000000) only [go_sem, Nat.reduceBEq, Nat.reduceLT, Nat.reduceAdd, Nat.reduceLeDiff, Nat.reduceSub, Nat.reduceEqDiff, Int.reduceToNat, reduceCtorEq, ↓reduceIte]
      repeat' (first | refine And.intro ?_ ?_ | intro hg)
      all_goals (try simp (disch := omega) only [wrap_fits])
      all_goals first
        | (refine hK _ _ ?_; exact Red.auto)
        | exact trivial
        | assumption
        | omega
        | exact wrap_fits (by omega) (by omega)
        | (refine wpA_callA (k_spec_GraphValid y y_1 (h := hr0)) [4] [] ?_
           rintro x Hc' ⟨rfl, rfl⟩ hlen
           refine vcOps_sound ftCOk ?_
           simp (maxSteps := 4000000) only [go_sem, Nat.reduceBEq, Nat.reduceLT, Nat.reduceAdd, Nat.reduceLeDiff, Nat.reduceSub, Nat.reduceEqDiff, Int.reduceToNat, reduceCtorEq, ↓reduceIte]
           repeat' (first | refine And.intro ?_ ?_ | intro hg)
           all_goals (try simp (disch := omega) only [wrap_fits])
           all_goals first
             | (refine hK _ _ ?_; exact Red.auto)
             | exact trivial
             | assumption
             | omega
             | exact wrap_fits (by omega) (by omega)
             | (simp_all; done)
             | (simp_all; omega))
        | (simp_all; done)
        | (simp_all; omega)
    · clear hr0
      refine awp_cond (t := 14) rfl (fun hc3 => ?_) (fun hc3 => ?_)
      · replace h := bite_t h hc3
        refine awp_reg ftCOk [(4, .pp 3 0), (5, .v (.bool false))] [.row false (.trips a0_1), .box [.v (.int .i64 y), .sl 4], .rbox [.v (.int .i64 a1_0), .v (.int .i64 a1_1), .v (.int .i64 a1_2)], .box [.v (.int .i64 0), .v (.slice none 0 0)], .row true (.trips y_1)] ?_
        refine awp_red (Red.nilCell (o := 3) (i := 1) (.trips []) rfl rfl rfl) ?_
        refine awp_ret ?_
        (try simp only [Thn, InBlk, ↓reduceIte, Nat.reduceEqDiff])
        obtain rfl := Option.some.inj h
        refine ⟨by simp, _, [0, 5], (by simp only [go_sem, Nat.reduceBEq, Nat.reduceLT, Nat.reduceAdd, Nat.reduceLeDiff, Nat.reduceSub, Nat.reduceEqDiff, Int.reduceToNat, reduceCtorEq, ↓reduceIte]; exact rfl), ?_, ?_, ?_, ?_⟩
        · first | exact trivial | exact ⟨trivial, trivial⟩ | exact ⟨trivial, trivial, trivial⟩ | exact ⟨trivial, trivial, trivial, trivial⟩ | (simp only [allP, and_true, true_and]; done) | (simp only [allP, and_true, true_and]; omega)
        · simp [selOk, pos]
        · simp
        · first | exact ⟨rfl, rfl⟩ | (simp only [go_sem, Nat.reduceBEq, Nat.reduceLT, Nat.reduceAdd, Nat.reduceLeDiff, Nat.reduceSub, Nat.reduceEqDiff, Int.reduceToNat, reduceCtorEq, ↓reduceIte]; done) | (simp [go_sem, Nat.reduceBEq, Nat.reduceLT, Nat.reduceAdd, Nat.reduceLeDiff, Nat.reduceSub, Nat.reduceEqDiff, Int.reduceToNat, reduceCtorEq, ↓reduceIte]; done) | (simp only [go_sem, Nat.reduceBEq, Nat.reduceLT, Nat.reduceAdd, Nat.reduceLeDiff, Nat.reduceSub, Nat.reduceEqDiff, Int.reduceToNat, reduceCtorEq, ↓reduceIte]; exact ⟨rfl, rfl⟩) | (simp_all [go_sem, Nat.reduceBEq, Nat.reduceLT, Nat.reduceAdd, Nat.reduceLeDiff, Nat.reduceSub, Nat.reduceEqDiff, Int.reduceToNat, reduceCtorEq, ↓reduceIte]; done)
      · replace h := bite_f h hc3
        refine awp_skip ?_
        (try simp only [Thn, InBlk, ↓reduceIte, Nat.reduceEqDiff])
        refine hK2 _ _ ?_
        clear hK2
        refine awp_reg ftCOk [(2, .pp 1 0), (3, .pp 2 0), (4, .pp 3 0), (6, .pp 5 0)] [.row false (.trips a0_1), .box [.v (.int .i64 y), .sl 4], .rbox [.v (.int .i64 a1_0), .v (.int .i64 a1_1), .v (.int .i64 a1_2)], .box [.v (.int .i64 0), .v (.slice none 0 0)], .row true (.trips y_1), .box [.v (.int .i64 y), .v (.slice none 0 0)]] ?_
        refine awp_reg ftCOk [(2, .pp 1 0), (3, .pp 2 0), (4, .pp 3 0), (6, .pp 5 0), (7, .v (.bool false))] [.row false (.trips a0_1), .box [.v (.int .i64 y), .sl 4], .rbox [.v (.int .i64 a1_0), .v (.int .i64 a1_1), .v (.int .i64 a1_2)], .box [.v (.int .i64 0), .v (.slice none 0 0)], .row true (.trips y_1), .box [.v (.int .i64 y), .v (.slice none 0 0)]] ?_
        refine awp_seq fun K49 hK49 => ?_
        refine awp_reg ftCOk [(2, .pp 1 0), (3, .pp 2 0), (4, .pp 3 0), (6, .pp 5 0), (7, .v (.bool false)), (8, .v (.int .i64 0))] [.row false (.trips a0_1), .box [.v (.int .i64 y), .sl 4], .rbox [.v (.int .i64 a1_0), .v (.int .i64 a1_1), .v (.int .i64 a1_2)], .box [.v (.int .i64 0), .v (.slice none 0 0)], .row true (.trips y_1), .box [.v (.int .i64 y), .v (.slice none 0 0)]] ?_
        refine awp_block ?_
        replace h := bind_some h
        obtain ⟨x94, hx, h⟩ := h
        refine awp_loopL hx (fun ((t7, t8, t6_1s) : Bool × Int × (List (Int × Int × Int))) => [(2, .pp 1 0), (3, .pp 3 0), (4, .pp 4 0), (6, .pp 5 0), (7, .v (.bool t7)), (8, .v (.int .i64 t8))]) (fun ((t7, t8, t6_1s) : Bool × Int × (List (Int × Int × Int))) => [.row false (.trips a0_1), .box [.v (.int .i64 y), .sl 2], .row true (.trips y_1), .rbox [.v (.int .i64 a1_0), .v (.int .i64 a1_1), .v (.int .i64 a1_2)], .box [.v (.int .i64 0), .v (.slice none 0 0)], .box [.v (.int .i64 y), .sl 6], .row true (.trips t6_1s)]) (fun ((t7_1, t6_1s_1) : Bool × (List (Int × Int × Int))) => Exit.exit 0) (fun ((t7_1, t6_1s_1) : Bool × (List (Int × Int × Int))) => [(2, .pp 1 0), (3, .pp 3 0), (4, .pp 4 0), (6, .pp 5 0), (7, .v (.bool t7_1))]) (fun ((t7_1, t6_1s_1) : Bool × (List (Int × Int × Int))) => [.row false (.trips a0_1), .box [.v (.int .i64 y), .sl 2], .row true (.trips y_1), .rbox [.v (.int .i64 a1_0), .v (.int .i64 a1_1), .v (.int .i64 a1_2)], .box [.v (.int .i64 0), .v (.slice none 0 0)], .box [.v (.int .i64 y), .sl 6], .row true (.trips t6_1s_1)]) ?_ ?_ ?_ ?_
        · rintro ⟨t7_1, t6_1s_1⟩ hy <;> cases hy
        · clear h hx
          refine Red.trans (Red.nilCell (o := 5) (i := 1) (.trips []) rfl rfl rfl) ?_
          exact Red.selA [0, 1, 4, 2, 3, 5, 6] Red.auto
        · clear h hx
          rintro ⟨t7, t8, t6_1s⟩ r h
          unfold spec_AddEdge_b0 at h
          try dsimp only at h
          try dsimp only
          refine awp_seq fun K84 hK84 => ?_
          refine awp_reg ftCOk [(2, .pp 1 0), (3, .pp 3 0), (4, .pp 4 0), (6, .pp 5 0), (7, .v (.bool t7)), (8, .v (.int .i64 t8)), (23, .v (.bool (decide (t8 < (y_1.length : Int)))))] [.row false (.trips a0_1), .box [.v (.int .i64 y), .sl 2], .row true (.trips y_1), .rbox [.v (.int .i64 a1_0), .v (.int .i64 a1_1), .v (.int .i64 a1_2)], .box [.v (.int .i64 0), .v (.slice none 0 0)], .box [.v (.int .i64 y), .sl 6], .row true (.trips t6_1s)] ?_
          refine awp_cond (t := 23) rfl (fun hc85 => ?_) (fun hc85 => ?_)
          · replace h := bite_t h hc85
            refine awp_skip ?_
            (try simp only [Thn, InBlk, ↓reduceIte, Nat.reduceEqDiff])
            refine hK84 _ _ ?_
            clear hK84
            refine awp_join h (fun ((t7_2, t6_1s_2) : Bool × (List (Int × Int × Int))) => [(2, .pp 1 0), (3, .pp 3 0), (4, .pp 4 0), (6, .pp 5 0), (7, .v (.bool t7_2)), (8, .v (.int .i64 t8))]) (fun ((t7_2, t6_1s_2) : Bool × (List (Int × Int × Int))) => [.row false (.trips a0_1), .box [.v (.int .i64 y), .sl 2], .row true (.trips y_1), .rbox [.v (.int .i64 a1_0), .v (.int .i64 a1_1), .v (.int .i64 a1_2)], .box [.v (.int .i64 0), .v (.slice none 0 0)], .box [.v (.int .i64 y), .sl 6], .row true (.trips t6_1s_2)]) ?_ ?_
            · clear h
              intro k h
              try dsimp only at h
              refine awp_block ?_
              replace h := chk_some h
              obtain ⟨hp0, h⟩ := h
              refine awp_reg ftCOk [(2, .pp 1 0), (3, .pp 3 0), (4, .pp 4 0), (6, .pp 5 0), (7, .v (.bool t7)), (8, .v (.int .i64 t8)), (9, .pp 7 0)] [.row false (.trips a0_1), .box [.v (.int .i64 y), .sl 2], .row true (.trips y_1), .rbox [.v (.int .i64 a1_0), .v (.int .i64 a1_1), .v (.int .i64 a1_2)], .box [.v (.int .i64 0), .v (.slice none 0 0)], .box [.v (.int .i64 y), .sl 6], .row true (.trips t6_1s), .box [.v (.int .i64 ((y_1.getD t8.toNat (0, 0, 0)).1)), .v (.int .i64 ((y_1.getD t8.toNat (0, 0, 0)).2.1)), .v (.int .i64 ((y_1.getD t8.toNat (0, 0, 0)).2.2))]] ?_
              clear hp0
              refine awp_join h (fun ((t7_3, t6_1s_3) : Bool × (List (Int × Int × Int))) => [(2, .pp 1 0), (3, .pp 3 0), (4, .pp 4 0), (6, .pp 5 0), (7, .v (.bool t7_3)), (8, .v (.int .i64 t8)), (9, .pp 7 0)]) (fun ((t7_3, t6_1s_3) : Bool × (List (Int × Int × Int))) => [.row false (.trips a0_1), .box [.v (.int .i64 y), .sl 2], .row true (.trips y_1), .rbox [.v (.int .i64 a1_0), .v (.int .i64 a1_1), .v (.int .i64 a1_2)], .box [.v (.int .i64 0), .v (.slice none 0 0)], .box [.v (.int .i64 y), .sl 6], .row true (.trips t6_1s_3), .box [.v (.int .i64 ((y_1.getD t8.toNat (0, 0, 0)).1)), .v (.int .i64 ((y_1.getD t8.toNat (0, 0, 0)).2.1)), .v (.int .i64 ((y_1.getD t8.toNat (0, 0, 0)).2.2))]]) ?_ ?_
              · clear h
                intro k_1 h
                try dsimp only at h
                refine awp_reg ftCOk [(2, .pp 1 0), (3, .pp 3 0), (4, .pp 4 0), (6, .pp 5 0), (7, .v (.bool t7)), (8, .v (.int .i64 t8)), (9, .pp 7 0), (38, .v (.bool ((!t7) && (!(decide ((y_1.getD t8.toNat (0, 0, 0)).1 < a1_0 ∨ (y_1.getD t8.toNat (0, 0, 0)).1 = a1_0 ∧ (y_1.getD t8.toNat (0, 0, 0)).2.1 < a1_1))))))] [.row false (.trips a0_1), .box [.v (.int .i64 y), .sl 2], .row true (.trips y_1), .rbox [.v (.int .i64 a1_0), .v (.int .i64 a1_1), .v (.int .i64 a1_2)], .box [.v (.int .i64 0), .v (.slice none 0 0)], .box [.v (.int .i64 y), .sl 6], .row true (.trips t6_1s), .box [.v (.int .i64 ((y_1.getD t8.toNat (0, 0, 0)).1)), .v (.int .i64 ((y_1.getD t8.toNat (0, 0, 0)).2.1)), .v (.int .i64 ((y_1.getD t8.toNat (0, 0, 0)).2.2))]] ?_
                refine awp_cond (t := 38) rfl (fun hc92 => ?_) (fun hc92 => ?_)
                · replace h := bite_t h hc92
                  replace h := chk_some h
                  obtain ⟨hp0, h⟩ := h
                  refine awp_reg ftCOk [(2, .pp 1 0), (3, .pp 3 0), (4, .pp 4 0), (6, .pp 5 0), (8, .v (.int .i64 t8)), (9, .pp 7 0)] [.row false (.trips a0_1), .box [.v (.int .i64 y), .sl 2], .row true (.trips y_1), .rbox [.v (.int .i64 a1_0), .v (.int .i64 a1_1), .v (.int .i64 a1_2)], .box [.v (.int .i64 0), .v (.slice none 0 0)], .box [.v (.int .i64 y), .sl 6], .row true (.trips (t6_1s ++ [(a1_0, a1_1, a1_2)])), .box [.v (.int .i64 ((y_1.getD t8.toNat (0, 0, 0)).1)), .v (.int .i64 ((y_1.getD t8.toNat (0, 0, 0)).2.1)), .v (.int .i64 ((y_1.getD t8.toNat (0, 0, 0)).2.2))], .row true (.trips [(a1_0, a1_1, a1_2)])] ?_
                  clear hp0
                  refine awp_reg ftCOk [(2, .pp 1 0), (3, .pp 3 0), (4, .pp 4 0), (6, .pp 5 0), (7, .v (.bool true)), (8, .v (.int .i64 t8)), (9, .pp 7 0)] [.row false (.trips a0_1), .box [.v (.int .i64 y), .sl 2], .row true (.trips y_1), .rbox [.v (.int .i64 a1_0), .v (.int .i64 a1_1), .v (.int .i64 a1_2)], .box [.v (.int .i64 0), .v (.slice none 0 0)], .box [.v (.int .i64 y), .sl 6], .row true (.trips (t6_1s ++ [(a1_0, a1_1, a1_2)])), .box [.v (.int .i64 ((y_1.getD t8.toNat (0, 0, 0)).1)), .v (.int .i64 ((y_1.getD t8.toNat (0, 0, 0)).2.1)), .v (.int .i64 ((y_1.getD t8.toNat (0, 0, 0)).2.2))], .row true (.trips [(a1_0, a1_1, a1_2)])] ?_
                  refine awp_reg ftCOk [(2, .pp 1 0), (3, .pp 3 0), (4, .pp 4 0), (6, .pp 5 0), (7, .v (.bool true)), (8, .v (.int .i64 t8)), (9, .pp 7 0), (56, .v (.bool (((y_1.getD t8.toNat (0, 0, 0)).1 == a1_0) && ((y_1.getD t8.toNat (0, 0, 0)).2.1 == a1_1))))] [.row false (.trips a0_1), .box [.v (.int .i64 y), .sl 2], .row true (.trips y_1), .rbox [.v (.int .i64 a1_0), .v (.int .i64 a1_1), .v (.int .i64 a1_2)], .box [.v (.int .i64 0), .v (.slice none 0 0)], .box [.v (.int .i64 y), .sl 6], .row true (.trips (t6_1s ++ [(a1_0, a1_1, a1_2)])), .box [.v (.int .i64 ((y_1.getD t8.toNat (0, 0, 0)).1)), .v (.int .i64 ((y_1.getD t8.toNat (0, 0, 0)).2.1)), .v (.int .i64 ((y_1.getD t8.toNat (0, 0, 0)).2.2))], .row true (.trips [(a1_0, a1_1, a1_2)])] ?_
                  refine awp_cond (t := 56) rfl (fun hc93 => ?_) (fun hc93 => ?_)
                  · replace h := bite_t h hc93
                    refine awp_exit ?_
                    (try simp only [Thn, InBlk, ↓reduceIte, Nat.reduceEqDiff])
                    (try simp only [Thn, InBlk, ↓reduceIte, Nat.reduceEqDiff])
                    (try simp only [Thn, InBlk, ↓reduceIte, Nat.reduceEqDiff])
                    refine ⟨_, h, ?_⟩
                    exact Red.selA [0, 1, 2, 3, 4, 5, 6] Red.auto
                  · replace h := bite_f h hc93
                    refine awp_skip ?_
                    (try simp only [Thn, InBlk, ↓reduceIte, Nat.reduceEqDiff])
                    refine ⟨_, h, ?_⟩
                    exact Red.selA [0, 1, 2, 3, 4, 5, 6, 7] Red.auto
                · replace h := bite_f h hc92
                  refine awp_skip ?_
                  (try simp only [Thn, InBlk, ↓reduceIte, Nat.reduceEqDiff])
                  refine ⟨_, h, ?_⟩
                  exact Red.auto
              · clear h
                rintro ⟨t7_3, t6_1s_3⟩ h
                try dsimp only at h
                try dsimp only
                replace h := chk_some h
                obtain ⟨hp0, h⟩ := h
                refine awp_regE ftCOk [(2, .pp 1 0), (3, .pp 3 0), (4, .pp 4 0), (6, .pp 5 0), (7, .v (.bool t7_3)), (8, .v (.int .i64 t8))] [.row false (.trips a0_1), .box [.v (.int .i64 y), .sl 2], .row true (.trips y_1), .rbox [.v (.int .i64 a1_0), .v (.int .i64 a1_1), .v (.int .i64 a1_2)], .box [.v (.int .i64 0), .v (.slice none 0 0)], .box [.v (.int .i64 y), .sl 6], .row true (.trips (t6_1s_3 ++ [((y_1.getD t8.toNat (0, 0, 0)).1, (y_1.getD t8.toNat (0, 0, 0)).2.1, (y_1.getD t8.toNat (0, 0, 0)).2.2)])), .box [.v (.int .i64 ((y_1.getD t8.toNat (0, 0, 0)).1)), .v (.int .i64 ((y_1.getD t8.toNat (0, 0, 0)).2.1)), .v (.int .i64 ((y_1.getD t8.toNat (0, 0, 0)).2.2))], .row true (.trips [((y_1.getD t8.toNat (0, 0, 0)).1, (y_1.getD t8.toNat (0, 0, 0)).2.1, (y_1.getD t8.toNat (0, 0, 0)).2.2)])] ?_
                clear hp0
                (try simp only [Thn, InBlk, ↓reduceIte, Nat.reduceEqDiff])
                (try simp only [Thn, InBlk, ↓reduceIte, Nat.reduceEqDiff])
                refine ⟨_, h, ?_⟩
                exact Red.selA [0, 1, 2, 3, 4, 5, 6] Red.auto
            · clear h
              rintro ⟨t7_2, t6_1s_2⟩ h
              try dsimp only at h
              try dsimp only
              replace h := chk_some h
              obtain ⟨hp0, h⟩ := h
              refine awp_regE ftCOk [(2, .pp 1 0), (3, .pp 3 0), (4, .pp 4 0), (6, .pp 5 0), (7, .v (.bool t7_2)), (8, .v (.int .i64 (t8 + 1)))] [.row false (.trips a0_1), .box [.v (.int .i64 y), .sl 2], .row true (.trips y_1), .rbox [.v (.int .i64 a1_0), .v (.int .i64 a1_1), .v (.int .i64 a1_2)], .box [.v (.int .i64 0), .v (.slice none 0 0)], .box [.v (.int .i64 y), .sl 6], .row true (.trips t6_1s_2)] ?_
              clear hp0
              obtain rfl := Option.some.inj h
              refine LoopQ.next ?_
              exact Red.auto
          · replace h := bite_f h hc85
            refine awp_exit ?_
            (try simp only [Thn, InBlk, ↓reduceIte, Nat.reduceEqDiff])
            obtain rfl := Option.some.inj h
            refine LoopQ.out rfl ?_
            exact Red.auto
        · clear hx
          rcases x94 with ⟨t7_1, t6_1s_1⟩
          · try dsimp only [Sum.elim_inl, Sum.elim_inr] at h
            try dsimp only [Sum.elim_inl, Sum.elim_inr]
            (try simp only [Thn, InBlk, ↓reduceIte, Nat.reduceEqDiff])
            (try simp only [Thn, InBlk, ↓reduceIte, Nat.reduceEqDiff])
            (try simp only [Thn, InBlk, ↓reduceIte, Nat.reduceEqDiff])
            refine hK49 _ _ ?_
            clear hK49
            refine awp_join h (fun (t6_1s_4 : List (Int × Int × Int)) => [(2, .pp 1 0), (4, .pp 3 0), (6, .pp 4 0)]) (fun (t6_1s_4 : List (Int × Int × Int)) => [.row false (.trips a0_1), .box [.v (.int .i64 y), .sl 2], .row true (.trips y_1), .box [.v (.int .i64 0), .v (.slice none 0 0)], .box [.v (.int .i64 y), .sl 5], .row true (.trips t6_1s_4)]) ?_ ?_
            · clear h
              intro k_2 h
              try dsimp only at h
              refine awp_reg ftCOk [(2, .pp 1 0), (3, .pp 3 0), (4, .pp 4 0), (6, .pp 5 0), (64, .v (.bool (!t7_1)))] [.row false (.trips a0_1), .box [.v (.int .i64 y), .sl 2], .row true (.trips y_1), .rbox [.v (.int .i64 a1_0), .v (.int .i64 a1_1), .v (.int .i64 a1_2)], .box [.v (.int .i64 0), .v (.slice none 0 0)], .box [.v (.int .i64 y), .sl 6], .row true (.trips t6_1s_1)] ?_
              refine awp_cond (t := 64) rfl (fun hc96 => ?_) (fun hc96 => ?_)
              · replace h := bite_t h hc96
                replace h := chk_some h
                obtain ⟨hp0, h⟩ := h
                refine awp_regE ftCOk [(2, .pp 1 0), (4, .pp 4 0), (6, .pp 5 0)] [.row false (.trips a0_1), .box [.v (.int .i64 y), .sl 2], .row true (.trips y_1), .rbox [.v (.int .i64 a1_0), .v (.int .i64 a1_1), .v (.int .i64 a1_2)], .box [.v (.int .i64 0), .v (.slice none 0 0)], .box [.v (.int .i64 y), .sl 6], .row true (.trips (t6_1s_1 ++ [(a1_0, a1_1, a1_2)])), .row true (.trips [(a1_0, a1_1, a1_2)])] ?_
                clear hp0
                (try simp only [Thn, InBlk, ↓reduceIte, Nat.reduceEqDiff])
                refine ⟨_, h, ?_⟩
                exact Red.selA [0, 1, 2, 4, 5, 6] Red.auto
              · replace h := bite_f h hc96
                refine awp_skip ?_
                (try simp only [Thn, InBlk, ↓reduceIte, Nat.reduceEqDiff])
                refine ⟨_, h, ?_⟩
                exact Red.selA [0, 1, 2, 4, 5, 6] Red.auto
            · clear h
              rintro t6_1s_4 h
              try dsimp only at h
              try dsimp only
              refine awp_seq fun K98 hK98 => ?_
              replace h := bind_some h
              obtain ⟨y_3, hr0, h⟩ := h
              try dsimp only at h
              refine awp_to [(2, .pp 1 0), (4, .pp 3 0), (6, .pp 4 0), (73, .v (.bool (!y_3)))] [.row false (.trips a0_1), .box [.v (.int .i64 y), .sl 2], .row true (.trips y_1), .box [.v (.int .i64 0), .v (.slice none 0 0)], .box [.v (.int .i64 y), .sl 5], .row true (.trips t6_1s_4)] ?_ ?_
              · clear h
                intro K hK
                refine awp_region ftCOk ?_
                simp (maxSteps := 4000000) only [go_sem, Nat.reduceBEq, Nat.reduceLT, Nat.reduceAdd, Nat.reduceLeDiff, Nat.reduceSub, Nat.reduceEqDiff, Int.reduceToNat, reduceCtorEq, ↓reduceIte]
                repeat' (first | refine And.intro ?_ ?_ | intro hg)
                all_goals (try simp (disch := omega) only [wrap_fits])
                all_goals first
                  | (refine hK _ _ ?_; exact Red.auto)
                  | exact trivial
                  | assumption
                  | omega
                  | exact wrap_fits (by omega) (by omega)
                  | (refine wpA_callA (k_spec_GraphValid y t6_1s_4 (h := hr0)) [5] [] ?_
                     rintro x Hc' ⟨rfl, rfl⟩ hlen
                     refine vcOps_sound ftCOk ?_
                     simp (maxSteps := 4000000) only [go_sem, Nat.reduceBEq, Nat.reduceLT, Nat.reduceAdd, Nat.reduceLeDiff, Nat.reduceSub, Nat.reduceEqDiff, Int.reduceToNat, reduceCtorEq, ↓reduceIte]
                     repeat' (first | refine And.intro ?_ ?_ | intro hg)
                     all_goals (try simp (disch := omega) only [wrap_fits])
                     all_goals first
                       | (refine hK _ _ ?_; exact Red.auto)
                       | exact trivial
                       | assumption
                       | omega
                       | exact wrap_fits (by omega) (by omega)
                       | (simp_all; done)
                       | (simp_all; omega))
                  | (simp_all; done)
                  | (simp_all; omega)
              · clear hr0
                refine awp_cond (t := 73) rfl (fun hc99 => ?_) (fun hc99 => ?_)
                · replace h := bite_t h hc99
                  refine awp_freeze 2 (by rfl) (by rfl) (by first | exact rfl | (simp only [List.map_cons, List.map_nil, List.set_cons_succ, List.set_cons_zero, AObj.unview, reduceCtorEq, ↓reduceIte, Nat.reduceEqDiff]; exact rfl)) ?_
                  replace h := chk_some h
                  obtain ⟨hp0, h⟩ := h
                  refine awp_to [(4, .pp 3 0), (5, .v (.bool false))] [.row false (.trips a0_1), .rbox [.v (.int .i64 y), .sl 2], .row true (.trips y_1), .box [.v (.int .i64 y), .sl 6], .box [.v (.int .i64 y), .sl 5], .row true (.trips t6_1s_4), .row true (.trips ([] ++ y_1))] ?_ ?_
                  · clear h
                    intro K hK
                    refine awp_drawT mixed ftCOk (.free 0 (.free 3 (.free 1 (.free 4 (.one 2 (.one 5 (.one 6 (.one 7 (.one 8 .fin))))))))) (by kernel_rfl) (by simp) ?_
                    simp (maxSteps := 4000000) only [go_sem, Nat.reduceBEq, Nat.reduceLT, Nat.reduceAdd, Nat.reduceLeDiff, Nat.reduceSub, Nat.reduceEqDiff, Int.reduceToNat, reduceCtorEq, ↓reduceIte]
                    repeat' (first | refine And.intro ?_ ?_ | intro hg)
                    all_goals (try simp (disch := omega) only [wrap_fits])
                    all_goals first
                      | (refine hK _ _ ?_; exact Red.auto)
                      | exact trivial
                      | assumption
                      | omega
                      | exact wrap_fits (by omega) (by omega)
                      | (simp (maxSteps := 4000000) only [go_sem, Nat.reduceBEq, Nat.reduceLT, Nat.reduceAdd, Nat.reduceLeDiff, Nat.reduceSub, Nat.reduceEqDiff, Int.reduceToNat, reduceCtorEq, ↓reduceIte]
                         repeat' (first | refine And.intro ?_ ?_ | intro hg)
                         all_goals (try simp (disch := omega) only [wrap_fits])
                         all_goals first | (refine hK _ _ ?_; exact Red.auto) | exact trivial | assumption | omega | exact wrap_fits (by omega) (by omega))
                      | (simp_all; done)
                      | (simp_all; omega)
                  · clear hp0
                    refine awp_ret ?_
                    (try simp only [Thn, InBlk, ↓reduceIte, Nat.reduceEqDiff])
                    obtain rfl := Option.some.inj h
                    refine ⟨by simp, _, [0, 6], (by simp only [go_sem, Nat.reduceBEq, Nat.reduceLT, Nat.reduceAdd, Nat.reduceLeDiff, Nat.reduceSub, Nat.reduceEqDiff, Int.reduceToNat, reduceCtorEq, ↓reduceIte]; exact rfl), ?_, ?_, ?_, ?_⟩
                    · first | exact trivial | exact ⟨trivial, trivial⟩ | exact ⟨trivial, trivial, trivial⟩ | exact ⟨trivial, trivial, trivial, trivial⟩ | (simp only [allP, and_true, true_and]; done) | (simp only [allP, and_true, true_and]; omega)
                    · simp [selOk, pos]
                    · simp
                    · first | exact ⟨rfl, rfl⟩ | (simp only [go_sem, Nat.reduceBEq, Nat.reduceLT, Nat.reduceAdd, Nat.reduceLeDiff, Nat.reduceSub, Nat.reduceEqDiff, Int.reduceToNat, reduceCtorEq, ↓reduceIte]; done) | (simp [go_sem, Nat.reduceBEq, Nat.reduceLT, Nat.reduceAdd, Nat.reduceLeDiff, Nat.reduceSub, Nat.reduceEqDiff, Int.reduceToNat, reduceCtorEq, ↓reduceIte]; done) | (simp only [go_sem, Nat.reduceBEq, Nat.reduceLT, Nat.reduceAdd, Nat.reduceLeDiff, Nat.reduceSub, Nat.reduceEqDiff, Int.reduceToNat, reduceCtorEq, ↓reduceIte]; exact ⟨rfl, rfl⟩) | (simp_all [go_sem, Nat.reduceBEq, Nat.reduceLT, Nat.reduceAdd, Nat.reduceLeDiff, Nat.reduceSub, Nat.reduceEqDiff, Int.reduceToNat, reduceCtorEq, ↓reduceIte]; done)
                · replace h := bite_f h hc99
                  refine awp_skip ?_
                  (try simp only [Thn, InBlk, ↓reduceIte, Nat.reduceEqDiff])
                  refine hK98 _ _ ?_
                  clear hK98
                  refine awp_reg ftCOk [(4, .pp 3 0), (5, .v (.bool true))] [.row false (.trips a0_1), .box [.v (.int .i64 y), .sl 2], .row true (.trips y_1), .box [.v (.int .i64 y), .sl 5], .box [.v (.int .i64 y), .sl 5], .row true (.trips t6_1s_4)] ?_
                  refine awp_ret ?_
                  (try simp only [Thn, InBlk, ↓reduceIte, Nat.reduceEqDiff])
                  obtain rfl := Option.some.inj h
                  refine ⟨by simp, _, [0, 5], (by simp only [go_sem, Nat.reduceBEq, Nat.reduceLT, Nat.reduceAdd, Nat.reduceLeDiff, Nat.reduceSub, Nat.reduceEqDiff, Int.reduceToNat, reduceCtorEq, ↓reduceIte]; exact rfl), ?_, ?_, ?_, ?_⟩
                  · first | exact trivial | exact ⟨trivial, trivial⟩ | exact ⟨trivial, trivial, trivial⟩ | exact ⟨trivial, trivial, trivial, trivial⟩ | (simp only [allP, and_true, true_and]; done) | (simp only [allP, and_true, true_and]; omega)
                  · simp [selOk, pos]
                  · simp
                  · first | exact ⟨rfl, rfl⟩ | (simp only [go_sem, Nat.reduceBEq, Nat.reduceLT, Nat.reduceAdd, Nat.reduceLeDiff, Nat.reduceSub, Nat.reduceEqDiff, Int.reduceToNat, reduceCtorEq, ↓reduceIte]; done) | (simp [go_sem, Nat.reduceBEq, Nat.reduceLT, Nat.reduceAdd, Nat.reduceLeDiff, Nat.reduceSub, Nat.reduceEqDiff, Int.reduceToNat, reduceCtorEq, ↓reduceIte]; done) | (simp only [go_sem, Nat.reduceBEq, Nat.reduceLT, Nat.reduceAdd, Nat.reduceLeDiff, Nat.reduceSub, Nat.reduceEqDiff, Int.reduceToNat, reduceCtorEq, ↓reduceIte]; exact ⟨rfl, rfl⟩) | (simp_all [go_sem, Nat.reduceBEq, Nat.reduceLT, Nat.reduceAdd, Nat.reduceLeDiff, Nat.reduceSub, Nat.reduceEqDiff, Int.reduceToNat, reduceCtorEq, ↓reduceIte]; done)
theorem k_spec_l20Rd_odd (a0_0 : List Int) (a0_1 : Int) (a1 : Int) {r : Bool × Int} (h : spec_l20Rd_odd a0_0 a0_1 a1 = some r) :
    FnA Tryd.prog 55 [.pp 0 0, .v (.int .i64 a1)] [.box [.sl 1, .v (.int .i64 a0_1)], .row false (.ints .u8 a0_0)] [] (fun x H => x = .v (.bool r.1) ∧ H = [.box [.sl 1, .v (.int .i64 r.2)], .row false (.ints .u8 a0_0)]) := by
  unfold spec_l20Rd_odd at h
  refine FnA.of (N := 15) (pin := [0, 1]) (rs := [.tmp 4]) Tryd.func55 rfl en55 rfl rfl (by simp) (by simp; try omega) ?_
  refine awp_reg ftCOk [(0, .pp 0 0), (1, .v (.int .i64 a1))] [.box [.sl 1, .v (.int .i64 a0_1)], .row false (.ints .u8 a0_0)] ?_
  replace h := bind_some h
  obtain ⟨⟨y, y_1⟩, hr0, h⟩ := h
  try dsimp only at h
  refine awp_to [(4, .v (.bool ((decide (0 < a1)) && (y == (IntKind.i64.wrap (a1 - 1))))))] [.box [.sl 1, .v (.int .i64 y_1)], .row false (.ints .u8 a0_0)] ?_ ?_
  · clear h
    intro K hK
    refine awp_region ftCOk ?_
    simp (maxSteps := 4000000) only [go_sem, Nat.reduceBEq, Nat.reduceLT, Nat.reduceAdd, Nat.reduceLeDiff, Nat.reduceSub, Nat.reduceEqDiff, Int.reduceToNat, reduceCtorEq, ↓reduceIte]
    repeat' (first | refine And.intro ?_ ?_ | intro hg)
    all_goals (try simp (disch := omega) only [wrap_fits])
    all_goals first
      | (refine hK _ _ ?_; exact Red.auto)
      | exact trivial
      | assumption
      | omega
      | exact wrap_fits (by omega) (by omega)
      | (refine wpA_guard rfl rfl ?_
         refine wpA_callA (k_spec_l20Rd_pick a0_0 a0_1 a1 (h := (bite_t hr0 (by first | assumption | (simp only [*, Bool.false_or, Bool.true_or, Bool.or_false, Bool.or_true, Bool.false_and, Bool.true_and, Bool.and_false, Bool.and_true, Bool.not_true, Bool.not_false, beq_self_eq_true]; done) | (simp_all; done))))) [0, 1] [] ?_
         rintro x Hc' ⟨rfl, rfl⟩ hlen
         refine vcOps_sound ftCOk ?_
         simp (maxSteps := 4000000) only [go_sem, Nat.reduceBEq, Nat.reduceLT, Nat.reduceAdd, Nat.reduceLeDiff, Nat.reduceSub, Nat.reduceEqDiff, Int.reduceToNat, reduceCtorEq, ↓reduceIte]
         repeat' (first | refine And.intro ?_ ?_ | intro hg)
         all_goals (try simp (disch := omega) only [wrap_fits])
         all_goals first
           | (refine hK _ _ ?_; exact Red.auto)
           | exact trivial
           | assumption
           | omega
           | exact wrap_fits (by omega) (by omega)
           | (simp_all; done)
           | (simp_all; omega))
      | (simp_all; done)
      | (simp_all; omega)
  · clear hr0
    refine awp_ret ?_
    (try simp only [Thn, InBlk, ↓reduceIte, Nat.reduceEqDiff])
    obtain rfl := Option.some.inj h
    refine ⟨by simp, _, [0, 1], (by simp only [go_sem, Nat.reduceBEq, Nat.reduceLT, Nat.reduceAdd, Nat.reduceLeDiff, Nat.reduceSub, Nat.reduceEqDiff, Int.reduceToNat, reduceCtorEq, ↓reduceIte]; exact rfl), ?_, ?_, ?_, ?_⟩
    · first | exact trivial | exact ⟨trivial, trivial⟩ | exact ⟨trivial, trivial, trivial⟩ | exact ⟨trivial, trivial, trivial, trivial⟩ | (simp only [allP, and_true, true_and]; done) | (simp only [allP, and_true, true_and]; omega)
    · simp [selOk, pos]
    · simp
    · first | exact ⟨rfl, rfl⟩ | (simp only [go_sem, Nat.reduceBEq, Nat.reduceLT, Nat.reduceAdd, Nat.reduceLeDiff, Nat.reduceSub, Nat.reduceEqDiff, Int.reduceToNat, reduceCtorEq, ↓reduceIte]; done) | (simp [go_sem, Nat.reduceBEq, Nat.reduceLT, Nat.reduceAdd, Nat.reduceLeDiff, Nat.reduceSub, Nat.reduceEqDiff, Int.reduceToNat, reduceCtorEq, ↓reduceIte]; done) | (simp only [go_sem, Nat.reduceBEq, Nat.reduceLT, Nat.reduceAdd, Nat.reduceLeDiff, Nat.reduceSub, Nat.reduceEqDiff, Int.reduceToNat, reduceCtorEq, ↓reduceIte]; exact ⟨rfl, rfl⟩) | (simp_all [go_sem, Nat.reduceBEq, Nat.reduceLT, Nat.reduceAdd, Nat.reduceLeDiff, Nat.reduceSub, Nat.reduceEqDiff, Int.reduceToNat, reduceCtorEq, ↓reduceIte]; done)
theorem k_spec_l20Dense (a0_0 : List Int) (a0_1 : Int) {r : Int × (List (Int × Int × Int)) × Int} (h : spec_l20Dense a0_0 a0_1 = some r) :
    FnA Tryd.prog 56 [.pp 0 0] [.box [.sl 1, .v (.int .i64 a0_1)], .row false (.ints .u8 a0_0)] [] (fun x H => x = .agg [.v (.int .i64 r.1), .sl 2] ∧ H = [.box [.sl 1, .v (.int .i64 r.2.2)], .row false (.ints .u8 a0_0), .row true (.trips r.2.1)]) := by
  unfold spec_l20Dense at h
  refine FnA.of (N := 29) (pin := [0, 1]) (rs := [.cell 2 25]) Tryd.func56 rfl en56 rfl rfl (by simp) (by simp; try omega) ?_
  refine awp_reg ftCOk [(0, .pp 0 0), (2, .pp 2 0)] [.box [.sl 1, .v (.int .i64 a0_1)], .row false (.ints .u8 a0_0), .box [.v (.int .i64 0), .v (.slice none 0 0)]] ?_
  replace h := bind_some h
  obtain ⟨⟨y, y_1⟩, hr0, h⟩ := h
  try dsimp only at h
  replace h := chk_some h
  obtain ⟨hp1, h⟩ := h
  refine awp_to [(0, .pp 0 0), (2, .pp 2 0), (3, .pp 3 0)] [.box [.sl 1, .v (.int .i64 y_1)], .row false (.ints .u8 a0_0), .box [.v (.int .i64 0), .v (.slice none 0 0)], .box [.v (.int .i64 (3 + y)), .v (.slice none 0 0)]] ?_ ?_
  · clear h
    intro K hK
    refine awp_region ftCOk ?_
    simp (maxSteps := 4000000) only [go_sem, Nat.reduceBEq, Nat.reduceLT, Nat.reduceAdd, Nat.reduceLeDiff, Nat.reduceSub, Nat.reduceEqDiff, Int.reduceToNat, reduceCtorEq, ↓reduceIte]
    repeat' (first | refine And.intro ?_ ?_ | intro hg)
    all_goals (try simp (disch := omega) only [wrap_fits])
    all_goals first
      | (refine hK _ _ ?_; exact Red.auto)
      | exact trivial
      | assumption
      | omega
      | exact wrap_fits (by omega) (by omega)
      | (refine wpA_callA (k_spec_l20Rd_pick a0_0 a0_1 5 (h := hr0)) [0, 1] [] ?_
         rintro x Hc' ⟨rfl, rfl⟩ hlen
         refine vcOps_sound ftCOk ?_
         simp (maxSteps := 4000000) only [go_sem, Nat.reduceBEq, Nat.reduceLT, Nat.reduceAdd, Nat.reduceLeDiff, Nat.reduceSub, Nat.reduceEqDiff, Int.reduceToNat, reduceCtorEq, ↓reduceIte]
         repeat' (first | refine And.intro ?_ ?_ | intro hg)
         all_goals (try simp (disch := omega) only [wrap_fits])
         all_goals first
           | (refine hK _ _ ?_; exact Red.auto)
           | exact trivial
           | assumption
           | omega
           | exact wrap_fits (by omega) (by omega)
           | (simp_all; done)
           | (simp_all; omega))
      | (simp_all; done)
      | (simp_all; omega)
  · clear hr0 hp1
    refine awp_seq fun K18 hK18 => ?_
    replace h := bind_some h
    obtain ⟨⟨y_2, y_3⟩, hr0, h⟩ := h
    try dsimp only at h
    replace h := chk_some h
    obtain ⟨hp1, h⟩ := h
    refine awp_to [(0, .pp 0 0), (2, .pp 2 0), (3, .pp 3 0), (4, .v (.int .i64 (6 + y_2)))] [.box [.sl 1, .v (.int .i64 y_3)], .row false (.ints .u8 a0_0), .box [.v (.int .i64 0), .v (.slice none 0 0)], .box [.v (.int .i64 (3 + y)), .v (.slice none 0 0)]] ?_ ?_
    · clear h
      intro K hK
      refine awp_region ftCOk ?_
      simp (maxSteps := 4000000) only [go_sem, Nat.reduceBEq, Nat.reduceLT, Nat.reduceAdd, Nat.reduceLeDiff, Nat.reduceSub, Nat.reduceEqDiff, Int.reduceToNat, reduceCtorEq, ↓reduceIte]
      repeat' (first | refine And.intro ?_ ?_ | intro hg)
      all_goals (try simp (disch := omega) only [wrap_fits])
      all_goals first
        | (refine hK _ _ ?_; exact Red.auto)
        | exact trivial
        | assumption
        | omega
        | exact wrap_fits (by omega) (by omega)
        | (refine wpA_callA (k_spec_l20Rd_pick a0_0 y_1 16 (h := hr0)) [0, 1] [] ?_
           rintro x Hc' ⟨rfl, rfl⟩ hlen
           refine vcOps_sound ftCOk ?_
           simp (maxSteps := 4000000) only [go_sem, Nat.reduceBEq, Nat.reduceLT, Nat.reduceAdd, Nat.reduceLeDiff, Nat.reduceSub, Nat.reduceEqDiff, Int.reduceToNat, reduceCtorEq, ↓reduceIte]
           repeat' (first | refine And.intro ?_ ?_ | intro hg)
           all_goals (try simp (disch := omega) only [wrap_fits])
           all_goals first
             | (refine hK _ _ ?_; exact Red.auto)
             | exact trivial
             | assumption
             | omega
             | exact wrap_fits (by omega) (by omega)
             | (simp_all; done)
             | (simp_all; omega))
        | (simp_all; done)
        | (simp_all; omega)
    · clear hr0 hp1
      refine awp_block ?_
      replace h := bind_some h
      obtain ⟨x35, hx, h⟩ := h
      refine awp_loopL hx (fun ((t4, p0_1, t3_0, t3_1s) : Int × Int × Int × (List (Int × Int × Int))) => [(0, .pp 0 0), (2, .pp 2 0), (3, .pp 4 0), (4, .v (.int .i64 t4))]) (fun ((t4, p0_1, t3_0, t3_1s) : Int × Int × Int × (List (Int × Int × Int))) => [.box [.sl 1, .v (.int .i64 p0_1)], .row false (.ints .u8 a0_0), .box [.v (.int .i64 0), .sl 3], .row true (.trips []), .box [.v (.int .i64 t3_0), .sl 5], .row true (.trips t3_1s)]) (fun ((p0_1_1, t3_0_1, t3_1s_1) : Int × Int × (List (Int × Int × Int))) => Exit.exit 0) (fun ((p0_1_1, t3_0_1, t3_1s_1) : Int × Int × (List (Int × Int × Int))) => [(0, .pp 0 0), (2, .pp 2 0), (3, .pp 4 0)]) (fun ((p0_1_1, t3_0_1, t3_1s_1) : Int × Int × (List (Int × Int × Int))) => [.box [.sl 1, .v (.int .i64 p0_1_1)], .row false (.ints .u8 a0_0), .box [.v (.int .i64 0), .sl 3], .row true (.trips []), .box [.v (.int .i64 t3_0_1), .sl 5], .row true (.trips t3_1s_1)]) ?_ ?_ ?_ ?_
      · rintro ⟨p0_1_1, t3_0_1, t3_1s_1⟩ hy <;> cases hy
      · clear h hx
        refine Red.trans (Red.nilCell (o := 2) (i := 1) (.trips []) rfl rfl rfl) ?_
        refine Red.trans (Red.nilCell (o := 3) (i := 1) (.trips []) rfl rfl rfl) ?_
        exact Red.selA [0, 1, 2, 4, 3, 5] Red.auto
      · clear h hx
        rintro ⟨t4, p0_1, t3_0, t3_1s⟩ r h
        unfold spec_l20Dense_b0 at h
        try dsimp only at h
        try dsimp only
        refine awp_seq fun K32 hK32 => ?_
        refine awp_reg ftCOk [(0, .pp 0 0), (2, .pp 2 0), (3, .pp 4 0), (4, .v (.int .i64 t4)), (13, .v (.bool (decide (0 < t4))))] [.box [.sl 1, .v (.int .i64 p0_1)], .row false (.ints .u8 a0_0), .box [.v (.int .i64 0), .sl 3], .row true (.trips []), .box [.v (.int .i64 t3_0), .sl 5], .row true (.trips t3_1s)] ?_
        refine awp_cond (t := 13) rfl (fun hc33 => ?_) (fun hc33 => ?_)
        · replace h := bite_t h hc33
          refine awp_skip ?_
          (try simp only [Thn, InBlk, ↓reduceIte, Nat.reduceEqDiff])
          refine hK32 _ _ ?_
          clear hK32
          refine awp_seq fun K34 hK34 => ?_
          refine awp_block ?_
          replace h := bind_some h
          obtain ⟨⟨y_4, y_5, y_6, y_7⟩, hr0, h⟩ := h
          try dsimp only at h
          replace h := bind_some h
          obtain ⟨⟨y_8, y_9, y_10⟩, hr1, h⟩ := h
          try dsimp only at h
          refine awp_end [(0, .pp 0 0), (2, .pp 2 0), (3, .pp 4 0), (4, .v (.int .i64 t4))] [.box [.sl 1, .v (.int .i64 y_7)], .row false (.ints .u8 a0_0), .box [.v (.int .i64 0), .sl 3], .row true (.trips []), .box [.v (.int .i64 y_8), .sl 6], .row true (.trips t3_1s), .row true (.trips y_9)] ?_ ?_
          · clear h
            intro K hK
            refine awp_drawT mixed ftCOk (.free 1 (.free 2 (.two 0 3 (.one 3 (.one 4 (.one 5 (.one 6 (.free 7 (.free 8 (.one 9 .fin))))))) (.two 0 4 (.one 4 (.one 5 (.one 6 (.free 7 (.free 8 (.one 9 .fin)))))) (.one 0 (.one 5 (.one 6 (.free 7 (.free 8 (.one 9 .fin)))))))))) (by kernel_rfl) (by simp) ?_
            simp (maxSteps := 4000000) only [go_sem, Nat.reduceBEq, Nat.reduceLT, Nat.reduceAdd, Nat.reduceLeDiff, Nat.reduceSub, Nat.reduceEqDiff, Int.reduceToNat, reduceCtorEq, ↓reduceIte]
            repeat' (first | refine And.intro ?_ ?_ | intro hg)
            all_goals (try simp (disch := omega) only [wrap_fits])
            all_goals first
              | (refine hK _ _ ?_; exact Red.auto)
              | exact trivial
              | assumption
              | omega
              | exact wrap_fits (by omega) (by omega)
              | (refine OpK_callA (k_spec_l20Edge a0_0 p0_1 t3_0 (h := hr0)) [0, 1] [] ?_
                 rintro x Hc' ⟨rfl, rfl⟩ hlen
                 simp (maxSteps := 4000000) only [go_sem, Nat.reduceBEq, Nat.reduceLT, Nat.reduceAdd, Nat.reduceLeDiff, Nat.reduceSub, Nat.reduceEqDiff, Int.reduceToNat, reduceCtorEq, ↓reduceIte]
                 repeat' (first | refine And.intro ?_ ?_ | intro hg)
                 all_goals (try simp (disch := omega) only [wrap_fits])
                 all_goals first
                   | (refine hK _ _ ?_; exact Red.auto)
                   | exact trivial
                   | assumption
                   | omega
                   | exact wrap_fits (by omega) (by omega)
                   | (refine OpK_callA (k_spec_AddEdge t3_0 t3_1s y_4 y_5 y_6 (h := hr1)) [5] [] ?_
                      rintro x Hc' ⟨rfl, rfl⟩ hlen
                      simp (maxSteps := 4000000) only [go_sem, Nat.reduceBEq, Nat.reduceLT, Nat.reduceAdd, Nat.reduceLeDiff, Nat.reduceSub, Nat.reduceEqDiff, Int.reduceToNat, reduceCtorEq, ↓reduceIte]
                      repeat' (first | refine And.intro ?_ ?_ | intro hg)
                      all_goals (try simp (disch := omega) only [wrap_fits])
                      all_goals first
                        | (refine hK _ _ ?_; exact Red.auto)
                        | exact trivial
                        | assumption
                        | omega
                        | exact wrap_fits (by omega) (by omega)
                        | (simp (maxSteps := 4000000) only [go_sem, Nat.reduceBEq, Nat.reduceLT, Nat.reduceAdd, Nat.reduceLeDiff, Nat.reduceSub, Nat.reduceEqDiff, Int.reduceToNat, reduceCtorEq, ↓reduceIte]
                           repeat' (first | refine And.intro ?_ ?_ | intro hg)
                           all_goals (try simp (disch := omega) only [wrap_fits])
                           all_goals first | (refine hK _ _ ?_; exact Red.auto) | exact trivial | assumption | omega | exact wrap_fits (by omega) (by omega))
                        | (simp_all; done)
                        | (simp_all; omega))
                   | (simp_all; done)
                   | (simp_all; omega))
              | (simp_all; done)
              | (simp_all; omega)
          · clear hr0 hr1
            (try simp only [Thn, InBlk, ↓reduceIte, Nat.reduceEqDiff])
            (try simp only [Thn, InBlk, ↓reduceIte, Nat.reduceEqDiff])
            refine hK34 _ _ ?_
            clear hK34
            replace h := chk_some h
            obtain ⟨hp0, h⟩ := h
            have hwhp0 := wrap_fits hp0.1 hp0.2
            refine awp_regE ftCOk [(0, .pp 0 0), (2, .pp 2 0), (3, .pp 4 0), (4, .v (.int .i64 (t4 - 1)))] [.box [.sl 1, .v (.int .i64 y_7)], .row false (.ints .u8 a0_0), .box [.v (.int .i64 0), .sl 3], .row true (.trips []), .box [.v (.int .i64 y_8), .sl 6], .row true (.trips t3_1s), .row true (.trips y_9)] ?_
            clear hp0
            obtain rfl := Option.some.inj h
            refine LoopQ.next ?_
            exact Red.selA [0, 1, 2, 3, 4, 6] Red.auto
        · replace h := bite_f h hc33
          refine awp_exit ?_
          (try simp only [Thn, InBlk, ↓reduceIte, Nat.reduceEqDiff])
          obtain rfl := Option.some.inj h
          refine LoopQ.out rfl ?_
          exact Red.auto
      · clear hx
        rcases x35 with ⟨p0_1_1, t3_0_1, t3_1s_1⟩
        · try dsimp only [Sum.elim_inl, Sum.elim_inr] at h
          try dsimp only [Sum.elim_inl, Sum.elim_inr]
          (try simp only [Thn, InBlk, ↓reduceIte, Nat.reduceEqDiff])
          (try simp only [Thn, InBlk, ↓reduceIte, Nat.reduceEqDiff])
          (try simp only [Thn, InBlk, ↓reduceIte, Nat.reduceEqDiff])
          refine hK18 _ _ ?_
          clear hK18
          refine awp_join h (fun ((p0_1_2, t3_0_2) : Int × Int) => [(2, .pp 2 0), (3, .pp 4 0)]) (fun ((p0_1_2, t3_0_2) : Int × Int) => [.box [.sl 1, .v (.int .i64 p0_1_2)], .row false (.ints .u8 a0_0), .box [.v (.int .i64 0), .sl 3], .row true (.trips []), .box [.v (.int .i64 t3_0_2), .sl 5], .row true (.trips t3_1s_1)]) ?_ ?_
          · clear h
            intro k h
            try dsimp only at h
            replace h := bind_some h
            obtain ⟨⟨y_11, y_12⟩, hr0, h⟩ := h
            try dsimp only at h
            refine awp_to [(2, .pp 2 0), (3, .pp 4 0), (26, .v (.bool y_11))] [.box [.sl 1, .v (.int .i64 y_12)], .row false (.ints .u8 a0_0), .box [.v (.int .i64 0), .sl 3], .row true (.trips []), .box [.v (.int .i64 t3_0_1), .sl 5], .row true (.trips t3_1s_1)] ?_ ?_
            · clear h
              intro K hK
              refine awp_region ftCOk ?_
              simp (maxSteps := 4000000) only [go_sem, Nat.reduceBEq, Nat.reduceLT, Nat.reduceAdd, Nat.reduceLeDiff, Nat.reduceSub, Nat.reduceEqDiff, Int.reduceToNat, reduceCtorEq, ↓reduceIte]
              repeat' (first | refine And.intro ?_ ?_ | intro hg)
              all_goals (try simp (disch := omega) only [wrap_fits])
              all_goals first
                | (refine hK _ _ ?_; exact Red.auto)
                | exact trivial
                | assumption
                | omega
                | exact wrap_fits (by omega) (by omega)
                | (refine wpA_callA (k_spec_l20Rd_odd a0_0 p0_1_1 12 (h := hr0)) [0, 1] [] ?_
                   rintro x Hc' ⟨rfl, rfl⟩ hlen
                   refine vcOps_sound ftCOk ?_
                   simp (maxSteps := 4000000) only [go_sem, Nat.reduceBEq, Nat.reduceLT, Nat.reduceAdd, Nat.reduceLeDiff, Nat.reduceSub, Nat.reduceEqDiff, Int.reduceToNat, reduceCtorEq, ↓reduceIte]
                   repeat' (first | refine And.intro ?_ ?_ | intro hg)
                   all_goals (try simp (disch := omega) only [wrap_fits])
                   all_goals first
                     | (refine hK _ _ ?_; exact Red.auto)
                     | exact trivial
                     | assumption
                     | omega
                     | exact wrap_fits (by omega) (by omega)
                     | (simp_all; done)
                     | (simp_all; omega))
                | (simp_all; done)
                | (simp_all; omega)
            · clear hr0
              refine awp_cond (t := 26) rfl (fun hc37 => ?_) (fun hc37 => ?_)
              · replace h := bite_t h hc37
                refine awp_regE ftCOk [(2, .pp 2 0), (3, .pp 4 0)] [.box [.sl 1, .v (.int .i64 y_12)], .row false (.ints .u8 a0_0), .box [.v (.int .i64 0), .sl 3], .row true (.trips []), .box [.v (.int .i64 1), .sl 5], .row true (.trips t3_1s_1)] ?_
                (try simp only [Thn, InBlk, ↓reduceIte, Nat.reduceEqDiff])
                refine ⟨_, h, ?_⟩
                exact Red.auto
              · replace h := bite_f h hc37
                refine awp_skip ?_
                (try simp only [Thn, InBlk, ↓reduceIte, Nat.reduceEqDiff])
                refine ⟨_, h, ?_⟩
                exact Red.auto
          · clear h
            rintro ⟨p0_1_2, t3_0_2⟩ h
            try dsimp only at h
            try dsimp only
            refine awp_reg ftCOk [(2, .pp 2 0)] [.box [.sl 1, .v (.int .i64 p0_1_2)], .row false (.ints .u8 a0_0), .box [.v (.int .i64 t3_0_2), .sl 5], .row true (.trips []), .box [.v (.int .i64 t3_0_2), .sl 5], .row true (.trips t3_1s_1)] ?_
            refine awp_ret ?_
            (try simp only [Thn, InBlk, ↓reduceIte, Nat.reduceEqDiff])
            obtain rfl := Option.some.inj h
            refine ⟨by simp, _, [0, 1, 5], (by simp only [go_sem, Nat.reduceBEq, Nat.reduceLT, Nat.reduceAdd, Nat.reduceLeDiff, Nat.reduceSub, Nat.reduceEqDiff, Int.reduceToNat, reduceCtorEq, ↓reduceIte]; exact rfl), ?_, ?_, ?_, ?_⟩
            · first | exact trivial | exact ⟨trivial, trivial⟩ | exact ⟨trivial, trivial, trivial⟩ | exact ⟨trivial, trivial, trivial, trivial⟩ | (simp only [allP, and_true, true_and]; done) | (simp only [allP, and_true, true_and]; omega)
            · simp [selOk, pos]
            · simp
            · first | exact ⟨rfl, rfl⟩ | (simp only [go_sem, Nat.reduceBEq, Nat.reduceLT, Nat.reduceAdd, Nat.reduceLeDiff, Nat.reduceSub, Nat.reduceEqDiff, Int.reduceToNat, reduceCtorEq, ↓reduceIte]; done) | (simp [go_sem, Nat.reduceBEq, Nat.reduceLT, Nat.reduceAdd, Nat.reduceLeDiff, Nat.reduceSub, Nat.reduceEqDiff, Int.reduceToNat, reduceCtorEq, ↓reduceIte]; done) | (simp only [go_sem, Nat.reduceBEq, Nat.reduceLT, Nat.reduceAdd, Nat.reduceLeDiff, Nat.reduceSub, Nat.reduceEqDiff, Int.reduceToNat, reduceCtorEq, ↓reduceIte]; exact ⟨rfl, rfl⟩) | (simp_all [go_sem, Nat.reduceBEq, Nat.reduceLT, Nat.reduceAdd, Nat.reduceLeDiff, Nat.reduceSub, Nat.reduceEqDiff, Int.reduceToNat, reduceCtorEq, ↓reduceIte]; done)
theorem k_spec_l20Open_v1 (a0 : List Int) {r : List Int × Int} (h : spec_l20Open_v1 a0 = some r) :
    FnA Tryd.prog 37 [.sl 0] [.row false (.ints .u8 a0), .box [.v (.int .i64 0), .v (.slice none 0 0)]] [] (fun x H => x = .pp 2 0 ∧ H = [.row false (.ints .u8 a0), .box [.v (.int .i64 0), .v (.slice none 0 0)], .box [.sl 3, .v (.int .i64 r.2)], .row false (.ints .u8 r.1)]) := by
  unfold spec_l20Open_v1 at h
  refine FnA.of (N := 11) (pin := [0, 1]) (rs := [.tmp 2]) Tryd.func37 rfl en37 rfl rfl (by simp) (by simp; try omega) ?_
  refine awp_reg ftCOk [(0, .sl 0)] [.row false (.ints .u8 a0), .box [.v (.int .i64 0), .v (.slice none 0 0)]] ?_
  refine awp_join h (fun (t0s : List Int) => [(0, .sl 2)]) (fun (t0s : List Int) => [.row false (.ints .u8 a0), .box [.v (.int .i64 0), .v (.slice none 0 0)], .row false (.ints .u8 t0s)]) ?_ ?_
  · clear h
    intro k h
    try dsimp only at h
    refine awp_reg ftCOk [(0, .sl 0), (5, .v (.bool (decide (2000 < (a0.length : Int)))))] [.row false (.ints .u8 a0), .box [.v (.int .i64 0), .v (.slice none 0 0)]] ?_
    refine awp_cond (t := 5) rfl (fun hc2 => ?_) (fun hc2 => ?_)
    · replace h := bite_t h hc2
      replace h := chk_some h
      obtain ⟨hp0, h⟩ := h
      refine awp_regE ftCOk [(0, .sl 2)] [.row false (.ints .u8 a0), .box [.v (.int .i64 0), .v (.slice none 0 0)], .row false (.ints .u8 ((a0.take 2000).drop 0))] ?_
      clear hp0
      (try simp only [Thn, InBlk, ↓reduceIte, Nat.reduceEqDiff])
      refine ⟨_, h, ?_⟩
      exact Red.auto
    · replace h := bite_f h hc2
      refine awp_skip ?_
      (try simp only [Thn, InBlk, ↓reduceIte, Nat.reduceEqDiff])
      refine ⟨_, h, ?_⟩
      refine Red.trans (Red.dup (t := 0) rfl rfl) ?_
      exact Red.auto
  · clear h
    rintro t0s h
    try dsimp only at h
    try dsimp only
    refine awp_reg ftCOk [(2, .pp 3 0)] [.row false (.ints .u8 a0), .box [.v (.int .i64 0), .v (.slice none 0 0)], .row false (.ints .u8 t0s), .box [.sl 2, .v (.int .i64 0)]] ?_
    refine awp_ret ?_
    (try simp only [Thn, InBlk, ↓reduceIte, Nat.reduceEqDiff])
    obtain rfl := Option.some.inj h
    refine ⟨by simp, _, [0, 1, 3, 2], (by simp only [go_sem, Nat.reduceBEq, Nat.reduceLT, Nat.reduceAdd, Nat.reduceLeDiff, Nat.reduceSub, Nat.reduceEqDiff, Int.reduceToNat, reduceCtorEq, ↓reduceIte]; exact rfl), ?_, ?_, ?_, ?_⟩
    · first | exact trivial | exact ⟨trivial, trivial⟩ | exact ⟨trivial, trivial, trivial⟩ | exact ⟨trivial, trivial, trivial, trivial⟩ | (simp only [allP, and_true, true_and]; done) | (simp only [allP, and_true, true_and]; omega)
    · simp [selOk, pos]
    · simp
    · first | exact ⟨rfl, rfl⟩ | (simp only [go_sem, Nat.reduceBEq, Nat.reduceLT, Nat.reduceAdd, Nat.reduceLeDiff, Nat.reduceSub, Nat.reduceEqDiff, Int.reduceToNat, reduceCtorEq, ↓reduceIte]; done) | (simp [go_sem, Nat.reduceBEq, Nat.reduceLT, Nat.reduceAdd, Nat.reduceLeDiff, Nat.reduceSub, Nat.reduceEqDiff, Int.reduceToNat, reduceCtorEq, ↓reduceIte]; done) | (simp only [go_sem, Nat.reduceBEq, Nat.reduceLT, Nat.reduceAdd, Nat.reduceLeDiff, Nat.reduceSub, Nat.reduceEqDiff, Int.reduceToNat, reduceCtorEq, ↓reduceIte]; exact ⟨rfl, rfl⟩) | (simp_all [go_sem, Nat.reduceBEq, Nat.reduceLT, Nat.reduceAdd, Nat.reduceLeDiff, Nat.reduceSub, Nat.reduceEqDiff, Int.reduceToNat, reduceCtorEq, ↓reduceIte]; done)
theorem k_spec_DrawCoresOf (a0 : List Int) {r : Int × (List (Int × Int × Int))} (h : spec_DrawCoresOf a0 = some r) :
    FnA Tryd.prog 30 [.sl 0] [.row false (.ints .u8 a0)] [] (fun x H => x = .agg [.v (.int .i64 r.1), .sl 1] ∧ H = [.row false (.ints .u8 a0), .row true (.trips r.2)]) := by
  unfold spec_DrawCoresOf at h
  refine FnA.of (N := 6) (pin := [0]) (rs := [.cell 2 25]) Tryd.func30 rfl en30 rfl rfl (by simp) (by simp; try omega) ?_
  refine awp_reg ftCOk [(0, .sl 0), (2, .pp 1 0)] [.row false (.ints .u8 a0), .box [.v (.int .i64 0), .v (.slice none 0 0)]] ?_
  replace h := bind_some h
  obtain ⟨⟨y, y_1⟩, hr0, h⟩ := h
  try dsimp only at h
  replace h := bind_some h
  obtain ⟨⟨y_2, y_3, y_4⟩, hr1, h⟩ := h
  try dsimp only at h
  refine awp_to [(2, .pp 1 0)] [.row false (.ints .u8 a0), .box [.v (.int .i64 y_2), .sl 4], .box [.sl 3, .v (.int .i64 y_4)], .row false (.ints .u8 y), .row true (.trips y_3)] ?_ ?_
  · clear h
    intro K hK
    refine awp_region ftCOk ?_
    simp (maxSteps := 4000000) only [go_sem, Nat.reduceBEq, Nat.reduceLT, Nat.reduceAdd, Nat.reduceLeDiff, Nat.reduceSub, Nat.reduceEqDiff, Int.reduceToNat, reduceCtorEq, ↓reduceIte]
    repeat' (first | refine And.intro ?_ ?_ | intro hg)
    all_goals (try simp (disch := omega) only [wrap_fits])
    all_goals first
      | (refine hK _ _ ?_; exact Red.auto)
      | exact trivial
      | assumption
      | omega
      | exact wrap_fits (by omega) (by omega)
      | (refine wpA_here (k_spec_l20Open_v1 a0 (h := hr0)) ?_
         rintro x Hc' ⟨rfl, rfl⟩ hlen
         refine vcOps_sound ftCOk ?_
         simp (maxSteps := 4000000) only [go_sem, Nat.reduceBEq, Nat.reduceLT, Nat.reduceAdd, Nat.reduceLeDiff, Nat.reduceSub, Nat.reduceEqDiff, Int.reduceToNat, reduceCtorEq, ↓reduceIte]
         repeat' (first | refine And.intro ?_ ?_ | intro hg)
         all_goals (try simp (disch := omega) only [wrap_fits])
         all_goals first
           | (refine hK _ _ ?_; exact Red.auto)
           | exact trivial
           | assumption
           | omega
           | exact wrap_fits (by omega) (by omega)
           | (refine wpA_callA (k_spec_l20Dense y y_1 (h := hr1)) [2, 3] [] ?_
              rintro x Hc' ⟨rfl, rfl⟩ hlen
              refine vcOps_sound ftCOk ?_
              simp (maxSteps := 4000000) only [go_sem, Nat.reduceBEq, Nat.reduceLT, Nat.reduceAdd, Nat.reduceLeDiff, Nat.reduceSub, Nat.reduceEqDiff, Int.reduceToNat, reduceCtorEq, ↓reduceIte]
              repeat' (first | refine And.intro ?_ ?_ | intro hg)
              all_goals (try simp (disch := omega) only [wrap_fits])
              all_goals first
                | (refine hK _ _ ?_; exact Red.auto)
                | exact trivial
                | assumption
                | omega
                | exact wrap_fits (by omega) (by omega)
                | (simp_all; done)
                | (simp_all; omega))
           | (simp_all; done)
           | (simp_all; omega))
      | (simp_all; done)
      | (simp_all; omega)
  · clear hr0 hr1
    refine awp_ret ?_
    (try simp only [Thn, InBlk, ↓reduceIte, Nat.reduceEqDiff])
    obtain rfl := Option.some.inj h
    refine ⟨by simp, _, [0, 4], (by simp only [go_sem, Nat.reduceBEq, Nat.reduceLT, Nat.reduceAdd, Nat.reduceLeDiff, Nat.reduceSub, Nat.reduceEqDiff, Int.reduceToNat, reduceCtorEq, ↓reduceIte]; exact rfl), ?_, ?_, ?_, ?_⟩
    · first | exact trivial | exact ⟨trivial, trivial⟩ | exact ⟨trivial, trivial, trivial⟩ | exact ⟨trivial, trivial, trivial, trivial⟩ | (simp only [allP, and_true, true_and]; done) | (simp only [allP, and_true, true_and]; omega)
    · simp [selOk, pos]
    · simp
    · first | exact ⟨rfl, rfl⟩ | (simp only [go_sem, Nat.reduceBEq, Nat.reduceLT, Nat.reduceAdd, Nat.reduceLeDiff, Nat.reduceSub, Nat.reduceEqDiff, Int.reduceToNat, reduceCtorEq, ↓reduceIte]; done) | (simp [go_sem, Nat.reduceBEq, Nat.reduceLT, Nat.reduceAdd, Nat.reduceLeDiff, Nat.reduceSub, Nat.reduceEqDiff, Int.reduceToNat, reduceCtorEq, ↓reduceIte]; done) | (simp only [go_sem, Nat.reduceBEq, Nat.reduceLT, Nat.reduceAdd, Nat.reduceLeDiff, Nat.reduceSub, Nat.reduceEqDiff, Int.reduceToNat, reduceCtorEq, ↓reduceIte]; exact ⟨rfl, rfl⟩) | (simp_all [go_sem, Nat.reduceBEq, Nat.reduceLT, Nat.reduceAdd, Nat.reduceLeDiff, Nat.reduceSub, Nat.reduceEqDiff, Int.reduceToNat, reduceCtorEq, ↓reduceIte]; done)
theorem k_impl_Graph_has (a0_0 : Int) (a0_1 : List (Int × Int × Int)) (a1 : Int) {r : Bool} (h : impl_Graph_has a0_0 a0_1 a1 = some r) :
    FnA Tryd.prog 40 [.agg [.v (.int .i64 a0_0), .sl 0], .v (.int .i64 a1)] [.row false (.trips a0_1)] [] (fun x H => x = .v (.bool r) ∧ H = [.row false (.trips a0_1)]) := by
  unfold impl_Graph_has at h
  refine FnA.of (N := 13) (pin := [0]) (rs := [.tmp 4]) Tryd.func40 rfl en40 rfl rfl (by simp) (by simp; try omega) ?_
  refine awp_reg ftCOk [(1, .v (.int .i64 a1)), (2, .pp 1 0)] [.row false (.trips a0_1), .box [.v (.int .i64 a0_0), .sl 0]] ?_
  refine awp_freeze 2 (by rfl) (by rfl) (by exact rfl) ?_
  refine awp_reg ftCOk [(4, .v (.bool ((decide (0 ≤ a1)) && (decide (a1 < a0_0)))))] [.row false (.trips a0_1), .rbox [.v (.int .i64 a0_0), .sl 0]] ?_
  refine awp_ret ?_
  (try simp only [Thn, InBlk, ↓reduceIte, Nat.reduceEqDiff])
  obtain rfl := Option.some.inj h
  refine ⟨by simp, _, [0], (by simp only [go_sem, Nat.reduceBEq, Nat.reduceLT, Nat.reduceAdd, Nat.reduceLeDiff, Nat.reduceSub, Nat.reduceEqDiff, Int.reduceToNat, reduceCtorEq, ↓reduceIte]; exact rfl), ?_, ?_, ?_, ?_⟩
  · first | exact trivial | exact ⟨trivial, trivial⟩ | exact ⟨trivial, trivial, trivial⟩ | exact ⟨trivial, trivial, trivial, trivial⟩ | (simp only [allP, and_true, true_and]; done) | (simp only [allP, and_true, true_and]; omega)
  · simp [selOk, pos]
  · simp
  · first | exact ⟨rfl, rfl⟩ | (simp only [go_sem, Nat.reduceBEq, Nat.reduceLT, Nat.reduceAdd, Nat.reduceLeDiff, Nat.reduceSub, Nat.reduceEqDiff, Int.reduceToNat, reduceCtorEq, ↓reduceIte]; done) | (simp [go_sem, Nat.reduceBEq, Nat.reduceLT, Nat.reduceAdd, Nat.reduceLeDiff, Nat.reduceSub, Nat.reduceEqDiff, Int.reduceToNat, reduceCtorEq, ↓reduceIte]; done) | (simp only [go_sem, Nat.reduceBEq, Nat.reduceLT, Nat.reduceAdd, Nat.reduceLeDiff, Nat.reduceSub, Nat.reduceEqDiff, Int.reduceToNat, reduceCtorEq, ↓reduceIte]; exact ⟨rfl, rfl⟩) | (simp_all [go_sem, Nat.reduceBEq, Nat.reduceLT, Nat.reduceAdd, Nat.reduceLeDiff, Nat.reduceSub, Nat.reduceEqDiff, Int.reduceToNat, reduceCtorEq, ↓reduceIte]; done)
theorem k_impl_GraphValid (a0_0 : Int) (a0_1 : List (Int × Int × Int)) {r : Bool} (h : impl_GraphValid a0_0 a0_1 = some r) :
    FnA Tryd.prog 26 [.agg [.v (.int .i64 a0_0), .sl 0]] [.row false (.trips a0_1)] [] (fun x H => x = .v (.bool r) ∧ H = [.row false (.trips a0_1)]) := by
  unfold impl_GraphValid at h
  refine FnA.of (N := 68) (pin := [0]) (rs := [.tmp 2]) Tryd.func26 rfl en26 rfl rfl (by simp) (by simp; try omega) ?_
  refine awp_reg ftCOk [(1, .pp 1 0)] [.row false (.trips a0_1), .box [.v (.int .i64 a0_0), .sl 0]] ?_
  refine awp_freeze 1 (by rfl) (by rfl) (by exact rfl) ?_
  refine awp_seq fun K2 hK2 => ?_
  refine awp_reg ftCOk [(1, .pp 1 0), (18, .v (.bool (((decide (a0_0 < 0)) || (decide (16 < a0_0))) || (decide (40 < (a0_1.length : Int))))))] [.row false (.trips a0_1), .rbox [.v (.int .i64 a0_0), .sl 0]] ?_
  refine awp_cond (t := 18) rfl (fun hc3 => ?_) (fun hc3 => ?_)
  · replace h := bite_t h hc3
    refine awp_reg ftCOk [(2, .v (.bool false))] [.row false (.trips a0_1), .rbox [.v (.int .i64 a0_0), .sl 0]] ?_
    refine awp_ret ?_
    (try simp only [Thn, InBlk, ↓reduceIte, Nat.reduceEqDiff])
    obtain rfl := Option.some.inj h
    refine ⟨by simp, _, [0], (by simp only [go_sem, Nat.reduceBEq, Nat.reduceLT, Nat.reduceAdd, Nat.reduceLeDiff, Nat.reduceSub, Nat.reduceEqDiff, Int.reduceToNat, reduceCtorEq, ↓reduceIte]; exact rfl), ?_, ?_, ?_, ?_⟩
    · first | exact trivial | exact ⟨trivial, trivial⟩ | exact ⟨trivial, trivial, trivial⟩ | exact ⟨trivial, trivial, trivial, trivial⟩ | (simp only [allP, and_true, true_and]; done) | (simp only [allP, and_true, true_and]; omega)
    · simp [selOk, pos]
    · simp
    · first | exact ⟨rfl, rfl⟩ | (simp only [go_sem, Nat.reduceBEq, Nat.reduceLT, Nat.reduceAdd, Nat.reduceLeDiff, Nat.reduceSub, Nat.reduceEqDiff, Int.reduceToNat, reduceCtorEq, ↓reduceIte]; done) | (simp [go_sem, Nat.reduceBEq, Nat.reduceLT, Nat.reduceAdd, Nat.reduceLeDiff, Nat.reduceSub, Nat.reduceEqDiff, Int.reduceToNat, reduceCtorEq, ↓reduceIte]; done) | (simp only [go_sem, Nat.reduceBEq, Nat.reduceLT, Nat.reduceAdd, Nat.reduceLeDiff, Nat.reduceSub, Nat.reduceEqDiff, Int.reduceToNat, reduceCtorEq, ↓reduceIte]; exact ⟨rfl, rfl⟩) | (simp_all [go_sem, Nat.reduceBEq, Nat.reduceLT, Nat.reduceAdd, Nat.reduceLeDiff, Nat.reduceSub, Nat.reduceEqDiff, Int.reduceToNat, reduceCtorEq, ↓reduceIte]; done)
  · replace h := bite_f h hc3
    refine awp_skip ?_
    (try simp only [Thn, InBlk, ↓reduceIte, Nat.reduceEqDiff])
    refine hK2 _ _ ?_
    clear hK2
    refine awp_seq fun K59 hK59 => ?_
    refine awp_reg ftCOk [(1, .pp 1 0), (20, .sl 0), (21, .v (.int .i64 (a0_1.length : Int))), (22, .v (.int .i64 0))] [.row false (.trips a0_1), .rbox [.v (.int .i64 a0_0), .sl 0]] ?_
    refine awp_block ?_
    replace h := bind_some h
    obtain ⟨x114, hx, h⟩ := h
    refine awp_loopL hx (fun (t22 : Int) => [(1, .pp 1 0), (20, .sl 0), (21, .v (.int .i64 (a0_1.length : Int))), (22, .v (.int .i64 t22))]) (fun (t22 : Int) => [.row false (.trips a0_1), .rbox [.v (.int .i64 a0_0), .sl 0]]) (Sum.elim (fun (_ : Unit) => Exit.exit 0) (fun (_ : Unit) => Exit.ret)) (Sum.elim (fun (_ : Unit) => []) (fun (_ : Unit) => [(2, .v (.bool false))])) (Sum.elim (fun (_ : Unit) => [.row false (.trips a0_1)]) (fun (_ : Unit) => [.row false (.trips a0_1)])) ?_ ?_ ?_ ?_
    · rintro (⟨⟩ | ⟨⟩) hy <;> cases hy
    · clear h hx
      exact Red.auto
    · clear h hx
      rintro t22 r h
      unfold impl_GraphValid_b0 at h
      try dsimp only at h
      try dsimp only
      refine awp_reg ftCOk [(1, .pp 1 0), (20, .sl 0), (21, .v (.int .i64 (a0_1.length : Int))), (22, .v (.int .i64 t22)), (23, .v (.bool (decide (t22 < (a0_1.length : Int)))))] [.row false (.trips a0_1), .rbox [.v (.int .i64 a0_0), .sl 0]] ?_
      refine awp_seq fun K97 hK97 => ?_
      refine awp_cond (t := 23) rfl (fun hc98 => ?_) (fun hc98 => ?_)
      · replace h := bite_t h hc98
        refine awp_skip ?_
        (try simp only [Thn, InBlk, ↓reduceIte, Nat.reduceEqDiff])
        refine hK97 _ _ ?_
        clear hK97
        refine awp_seq fun K106 hK106 => ?_
        refine awp_block ?_
        replace h := chk_some h
        obtain ⟨hp0, h⟩ := h
        refine awp_reg ftCOk [(1, .pp 1 0), (3, .v (.int .i64 t22)), (4, .pp 2 0), (20, .sl 0), (21, .v (.int .i64 (a0_1.length : Int))), (22, .v (.int .i64 t22))] [.row false (.trips a0_1), .rbox [.v (.int .i64 a0_0), .sl 0], .box [.v (.int .i64 ((a0_1.getD t22.toNat (0, 0, 0)).1)), .v (.int .i64 ((a0_1.getD t22.toNat (0, 0, 0)).2.1)), .v (.int .i64 ((a0_1.getD t22.toNat (0, 0, 0)).2.2))]] ?_
        clear hp0
        refine awp_seq fun K108 hK108 => ?_
        replace h := bind_some h
        obtain ⟨y, hr0, h⟩ := h
        try dsimp only at h
        replace h := bind_some h
        obtain ⟨y_1, hr1, h⟩ := h
        try dsimp only at h
        refine awp_to [(1, .pp 1 0), (3, .v (.int .i64 t22)), (4, .pp 2 0), (20, .sl 0), (21, .v (.int .i64 (a0_1.length : Int))), (22, .v (.int .i64 t22)), (45, .v (.bool (((!y) || (!y_1)) || ((a0_1.getD t22.toNat (0, 0, 0)).1 == (a0_1.getD t22.toNat (0, 0, 0)).2.1))))] [.row false (.trips a0_1), .rbox [.v (.int .i64 a0_0), .sl 0], .box [.v (.int .i64 ((a0_1.getD t22.toNat (0, 0, 0)).1)), .v (.int .i64 ((a0_1.getD t22.toNat (0, 0, 0)).2.1)), .v (.int .i64 ((a0_1.getD t22.toNat (0, 0, 0)).2.2))]] ?_ ?_
        · clear h
          intro K hK
          refine awp_regionA ?_
          refine wpA_cutAt 12 [(1, .pp 1 0), (3, .v (.int .i64 t22)), (4, .pp 2 0), (20, .sl 0), (21, .v (.int .i64 (a0_1.length : Int))), (22, .v (.int .i64 t22)), (38, .v (.bool ((!y) || (!y_1))))] [.row false (.trips a0_1), .rbox [.v (.int .i64 a0_0), .sl 0], .box [.v (.int .i64 ((a0_1.getD t22.toNat (0, 0, 0)).1)), .v (.int .i64 ((a0_1.getD t22.toNat (0, 0, 0)).2.1)), .v (.int .i64 ((a0_1.getD t22.toNat (0, 0, 0)).2.2))]] ?_ ?_
          · clear hK K
            intro K hK
            refine vcOps_sound ftCOk ?_
            simp (maxSteps := 4000000) only [go_sem, Nat.reduceBEq, Nat.reduceLT, Nat.reduceAdd, Nat.reduceLeDiff, Nat.reduceSub, Nat.reduceEqDiff, Int.reduceToNat, reduceCtorEq, ↓reduceIte]
            repeat' (first | refine And.intro ?_ ?_ | intro hg)
            all_goals (try simp (disch := omega) only [wrap_fits])
            all_goals first
              | (refine hK _ _ ?_; exact Red.auto)
              | exact trivial
              | assumption
              | omega
              | exact wrap_fits (by omega) (by omega)
              | (refine wpA_callA (k_impl_Graph_has a0_0 a0_1 ((a0_1.getD t22.toNat (0, 0, 0)).1) (h := hr0)) [0] [] ?_
                 rintro x Hc' ⟨rfl, rfl⟩ hlen
                 refine vcOps_sound ftCOk ?_
                 simp (maxSteps := 4000000) only [go_sem, Nat.reduceBEq, Nat.reduceLT, Nat.reduceAdd, Nat.reduceLeDiff, Nat.reduceSub, Nat.reduceEqDiff, Int.reduceToNat, reduceCtorEq, ↓reduceIte]
                 repeat' (first | refine And.intro ?_ ?_ | intro hg)
                 all_goals (try simp (disch := omega) only [wrap_fits])
                 all_goals first
                   | (refine hK _ _ ?_; exact Red.auto)
                   | exact trivial
                   | assumption
                   | omega
                   | exact wrap_fits (by omega) (by omega)
                   | (refine wpA_guard rfl rfl ?_
                      refine wpA_callA (k_impl_Graph_has a0_0 a0_1 ((a0_1.getD t22.toNat (0, 0, 0)).2.1) (h := (bite_t hr1 (by rw [Bool.not_eq_true']; exact (by first | assumption | (simp only [*, Bool.false_or, Bool.true_or, Bool.or_false, Bool.or_true, Bool.false_and, Bool.true_and, Bool.and_false, Bool.and_true, Bool.not_true, Bool.not_false, beq_self_eq_true]; done) | (simp_all; done)))))) [0] [] ?_
                      rintro x Hc' ⟨rfl, rfl⟩ hlen
                      refine vcOps_sound ftCOk ?_
                      simp (maxSteps := 4000000) only [go_sem, Nat.reduceBEq, Nat.reduceLT, Nat.reduceAdd, Nat.reduceLeDiff, Nat.reduceSub, Nat.reduceEqDiff, Int.reduceToNat, reduceCtorEq, ↓reduceIte]
                      repeat' (first | refine And.intro ?_ ?_ | intro hg)
                      all_goals (try simp (disch := omega) only [wrap_fits])
                      all_goals first
                        | (refine hK _ _ ?_; exact Red.auto)
                        | exact trivial
                        | assumption
                        | omega
                        | exact wrap_fits (by omega) (by omega)
                        | (simp_all; done)
                        | (simp_all; omega))
                   | (simp_all; done)
                   | (simp_all; omega))
              | (simp_all; done)
              | (simp_all; omega)
          refine vcOps_sound ftCOk ?_
          simp (maxSteps := 4000000) only [go_sem, Nat.reduceBEq, Nat.reduceLT, Nat.reduceAdd, Nat.reduceLeDiff, Nat.reduceSub, Nat.reduceEqDiff, Int.reduceToNat, reduceCtorEq, ↓reduceIte]
          repeat' (first | refine And.intro ?_ ?_ | intro hg)
          all_goals (try simp (disch := omega) only [wrap_fits])
          all_goals first
            | (refine hK _ _ ?_; exact Red.auto)
            | exact trivial
            | assumption
            | omega
            | exact wrap_fits (by omega) (by omega)
            | (simp_all; done)
            | (simp_all; omega)
        · clear hr0 hr1
          refine awp_cond (t := 45) rfl (fun hc109 => ?_) (fun hc109 => ?_)
          · replace h := bite_t h hc109
            refine awp_reg ftCOk [(2, .v (.bool false))] [.row false (.trips a0_1), .rbox [.v (.int .i64 a0_0), .sl 0], .box [.v (.int .i64 ((a0_1.getD t22.toNat (0, 0, 0)).1)), .v (.int .i64 ((a0_1.getD t22.toNat (0, 0, 0)).2.1)), .v (.int .i64 ((a0_1.getD t22.toNat (0, 0, 0)).2.2))]] ?_
            refine awp_ret ?_
            (try simp only [Thn, InBlk, ↓reduceIte, Nat.reduceEqDiff])
            obtain rfl := Option.some.inj h
            refine LoopQ.out rfl ?_
            exact Red.selA [0] Red.auto
          · replace h := bite_f h hc109
            refine awp_skip ?_
            (try simp only [Thn, InBlk, ↓reduceIte, Nat.reduceEqDiff])
            refine hK108 _ _ ?_
            clear hK108
            refine awp_seq fun K111 hK111 => ?_
            refine awp_reg ftCOk [(1, .pp 1 0), (3, .v (.int .i64 t22)), (4, .pp 2 0), (20, .sl 0), (21, .v (.int .i64 (a0_1.length : Int))), (22, .v (.int .i64 t22)), (53, .v (.bool ((decide ((a0_1.getD t22.toNat (0, 0, 0)).2.2 < 0)) || (decide (20 < (a0_1.getD t22.toNat (0, 0, 0)).2.2)))))] [.row false (.trips a0_1), .rbox [.v (.int .i64 a0_0), .sl 0], .box [.v (.int .i64 ((a0_1.getD t22.toNat (0, 0, 0)).1)), .v (.int .i64 ((a0_1.getD t22.toNat (0, 0, 0)).2.1)), .v (.int .i64 ((a0_1.getD t22.toNat (0, 0, 0)).2.2))]] ?_
            refine awp_cond (t := 53) rfl (fun hc112 => ?_) (fun hc112 => ?_)
            · replace h := bite_t h hc112
              refine awp_reg ftCOk [(2, .v (.bool false))] [.row false (.trips a0_1), .rbox [.v (.int .i64 a0_0), .sl 0], .box [.v (.int .i64 ((a0_1.getD t22.toNat (0, 0, 0)).1)), .v (.int .i64 ((a0_1.getD t22.toNat (0, 0, 0)).2.1)), .v (.int .i64 ((a0_1.getD t22.toNat (0, 0, 0)).2.2))]] ?_
              refine awp_ret ?_
              (try simp only [Thn, InBlk, ↓reduceIte, Nat.reduceEqDiff])
              obtain rfl := Option.some.inj h
              refine LoopQ.out rfl ?_
              exact Red.selA [0] Red.auto
            · replace h := bite_f h hc112
              refine awp_skip ?_
              (try simp only [Thn, InBlk, ↓reduceIte, Nat.reduceEqDiff])
              refine hK111 _ _ ?_
              clear hK111
              replace h := chk_some h
              obtain ⟨hp0, h⟩ := h
              have hwhp0 := wrap_fits hp0.1 hp0.2
              replace h := chk_some h
              obtain ⟨hp1, h⟩ := h
              refine awp_to [(1, .pp 1 0), (20, .sl 0), (21, .v (.int .i64 (a0_1.length : Int))), (22, .v (.int .i64 t22)), (66, .v (.bool ((decide (0 < t22)) && (decide (0 ≤ (orF [cmpI (a0_1.getD ((t22 - 1).toNat) (0, 0, 0)).1 (a0_1.getD t22.toNat (0, 0, 0)).1, cmpI (a0_1.getD ((t22 - 1).toNat) (0, 0, 0)).2.1 (a0_1.getD t22.toNat (0, 0, 0)).2.1]))))))] [.row false (.trips a0_1), .rbox [.v (.int .i64 a0_0), .sl 0], .box [.v (.int .i64 ((a0_1.getD t22.toNat (0, 0, 0)).1)), .v (.int .i64 ((a0_1.getD t22.toNat (0, 0, 0)).2.1)), .v (.int .i64 ((a0_1.getD t22.toNat (0, 0, 0)).2.2))]] ?_ ?_
              · clear h
                intro K hK
                refine awp_quietg mixed ftCOk (by kernel_rfl) ?_
                simp (maxSteps := 4000000) only [go_sem, Nat.reduceBEq, Nat.reduceLT, Nat.reduceAdd, Nat.reduceLeDiff, Nat.reduceSub, Nat.reduceEqDiff, Int.reduceToNat, reduceCtorEq, ↓reduceIte]
                repeat' (first | refine And.intro ?_ ?_ | intro hg)
                all_goals (try simp (disch := omega) only [wrap_fits])
                all_goals first
                  | (refine hK _ _ ?_; exact Red.auto)
                  | exact trivial
                  | assumption
                  | omega
                  | exact wrap_fits (by omega) (by omega)
                  | (have hq := hp1 (by first | assumption | (simp only [*, Bool.false_or, Bool.true_or, Bool.or_false, Bool.or_true, Bool.false_and, Bool.true_and, Bool.and_false, Bool.and_true, Bool.not_true, Bool.not_false, beq_self_eq_true]; done) | (simp_all; done)); omega)
                  | (simp_all; done)
                  | (simp_all; omega)
              · clear hp0 hp1
                refine awp_cond (t := 66) rfl (fun hc113 => ?_) (fun hc113 => ?_)
                · replace h := bite_t h hc113
                  refine awp_reg ftCOk [(2, .v (.bool false))] [.row false (.trips a0_1), .rbox [.v (.int .i64 a0_0), .sl 0], .box [.v (.int .i64 ((a0_1.getD t22.toNat (0, 0, 0)).1)), .v (.int .i64 ((a0_1.getD t22.toNat (0, 0, 0)).2.1)), .v (.int .i64 ((a0_1.getD t22.toNat (0, 0, 0)).2.2))]] ?_
                  refine awp_ret ?_
                  (try simp only [Thn, InBlk, ↓reduceIte, Nat.reduceEqDiff])
                  obtain rfl := Option.some.inj h
                  refine LoopQ.out rfl ?_
                  exact Red.selA [0] Red.auto
                · replace h := bite_f h hc113
                  refine awp_skip ?_
                  (try simp only [Thn, InBlk, ↓reduceIte, Nat.reduceEqDiff])
                  (try simp only [Thn, InBlk, ↓reduceIte, Nat.reduceEqDiff])
                  refine hK106 _ _ ?_
                  clear hK106
                  replace h := chk_some h
                  obtain ⟨hp0, h⟩ := h
                  refine awp_regE ftCOk [(1, .pp 1 0), (20, .sl 0), (21, .v (.int .i64 (a0_1.length : Int))), (22, .v (.int .i64 (t22 + 1)))] [.row false (.trips a0_1), .rbox [.v (.int .i64 a0_0), .sl 0], .box [.v (.int .i64 ((a0_1.getD t22.toNat (0, 0, 0)).1)), .v (.int .i64 ((a0_1.getD t22.toNat (0, 0, 0)).2.1)), .v (.int .i64 ((a0_1.getD t22.toNat (0, 0, 0)).2.2))]] ?_
                  clear hp0
                  obtain rfl := Option.some.inj h
                  refine LoopQ.next ?_
                  exact Red.selA [0, 1] Red.auto
      · replace h := bite_f h hc98
        refine awp_exit ?_
        (try simp only [Thn, InBlk, ↓reduceIte, Nat.reduceEqDiff])
        obtain rfl := Option.some.inj h
        refine LoopQ.out rfl ?_
        exact Red.selA [0] Red.auto
    · clear hx
      rcases x114 with (⟨⟩ | ⟨⟩)
      · try dsimp only [Sum.elim_inl, Sum.elim_inr] at h
        try dsimp only [Sum.elim_inl, Sum.elim_inr]
        (try simp only [Thn, InBlk, ↓reduceIte, Nat.reduceEqDiff])
        (try simp only [Thn, InBlk, ↓reduceIte, Nat.reduceEqDiff])
        (try simp only [Thn, InBlk, ↓reduceIte, Nat.reduceEqDiff])
        refine hK59 _ _ ?_
        clear hK59
        refine awp_reg ftCOk [(2, .v (.bool true))] [.row false (.trips a0_1)] ?_
        refine awp_ret ?_
        (try simp only [Thn, InBlk, ↓reduceIte, Nat.reduceEqDiff])
        obtain rfl := Option.some.inj h
        refine ⟨by simp, _, [0], (by simp only [go_sem, Nat.reduceBEq, Nat.reduceLT, Nat.reduceAdd, Nat.reduceLeDiff, Nat.reduceSub, Nat.reduceEqDiff, Int.reduceToNat, reduceCtorEq, ↓reduceIte]; exact rfl), ?_, ?_, ?_, ?_⟩
        · first | exact trivial | exact ⟨trivial, trivial⟩ | exact ⟨trivial, trivial, trivial⟩ | exact ⟨trivial, trivial, trivial, trivial⟩ | (simp only [allP, and_true, true_and]; done) | (simp only [allP, and_true, true_and]; omega)
        · simp [selOk, pos]
        · simp
        · first | exact ⟨rfl, rfl⟩ | (simp only [go_sem, Nat.reduceBEq, Nat.reduceLT, Nat.reduceAdd, Nat.reduceLeDiff, Nat.reduceSub, Nat.reduceEqDiff, Int.reduceToNat, reduceCtorEq, ↓reduceIte]; done) | (simp [go_sem, Nat.reduceBEq, Nat.reduceLT, Nat.reduceAdd, Nat.reduceLeDiff, Nat.reduceSub, Nat.reduceEqDiff, Int.reduceToNat, reduceCtorEq, ↓reduceIte]; done) | (simp only [go_sem, Nat.reduceBEq, Nat.reduceLT, Nat.reduceAdd, Nat.reduceLeDiff, Nat.reduceSub, Nat.reduceEqDiff, Int.reduceToNat, reduceCtorEq, ↓reduceIte]; exact ⟨rfl, rfl⟩) | (simp_all [go_sem, Nat.reduceBEq, Nat.reduceLT, Nat.reduceAdd, Nat.reduceLeDiff, Nat.reduceSub, Nat.reduceEqDiff, Int.reduceToNat, reduceCtorEq, ↓reduceIte]; done)
      · try dsimp only [Sum.elim_inl, Sum.elim_inr] at h
        try dsimp only [Sum.elim_inl, Sum.elim_inr]
        (try simp only [Thn, InBlk, ↓reduceIte, Nat.reduceEqDiff])
        obtain rfl := Option.some.inj h
        refine ⟨by simp, _, [0], (by simp only [go_sem, Nat.reduceBEq, Nat.reduceLT, Nat.reduceAdd, Nat.reduceLeDiff, Nat.reduceSub, Nat.reduceEqDiff, Int.reduceToNat, reduceCtorEq, ↓reduceIte]; exact rfl), ?_, ?_, ?_, ?_⟩
        · first | exact trivial | exact ⟨trivial, trivial⟩ | exact ⟨trivial, trivial, trivial⟩ | exact ⟨trivial, trivial, trivial, trivial⟩ | (simp only [allP, and_true, true_and]; done) | (simp only [allP, and_true, true_and]; omega)
        · simp [selOk, pos]
        · simp
        · first | exact ⟨rfl, rfl⟩ | (simp only [go_sem, Nat.reduceBEq, Nat.reduceLT, Nat.reduceAdd, Nat.reduceLeDiff, Nat.reduceSub, Nat.reduceEqDiff, Int.reduceToNat, reduceCtorEq, ↓reduceIte]; done) | (simp [go_sem, Nat.reduceBEq, Nat.reduceLT, Nat.reduceAdd, Nat.reduceLeDiff, Nat.reduceSub, Nat.reduceEqDiff, Int.reduceToNat, reduceCtorEq, ↓reduceIte]; done) | (simp only [go_sem, Nat.reduceBEq, Nat.reduceLT, Nat.reduceAdd, Nat.reduceLeDiff, Nat.reduceSub, Nat.reduceEqDiff, Int.reduceToNat, reduceCtorEq, ↓reduceIte]; exact ⟨rfl, rfl⟩) | (simp_all [go_sem, Nat.reduceBEq, Nat.reduceLT, Nat.reduceAdd, Nat.reduceLeDiff, Nat.reduceSub, Nat.reduceEqDiff, Int.reduceToNat, reduceCtorEq, ↓reduceIte]; done)
theorem k_impl_maskOf (a0 : Int) {r : Int} (h : impl_maskOf a0 = some r) :
    FnA Tryd.prog 57 [.v (.int .i64 a0)] [] [] (fun x H => x = .v (.int .u32 r) ∧ H = []) := by
  unfold impl_maskOf at h
  refine FnA.of (N := 6) (pin := []) (rs := [.tmp 2]) Tryd.func57 rfl en57 rfl rfl (by simp) (by simp; try omega) ?_
  refine awp_reg ftCOk [(0, .v (.int .i64 a0))] [] ?_
  replace h := chk_some h
  obtain ⟨hp0, h⟩ := h
  refine awp_reg ftCOk [(2, .v (.int .u32 (IntKind.u32.wrap (1 * 2 ^ min (IntKind.u64.wrap a0).toNat IntKind.u32.bits))))] [] ?_
  clear hp0
  refine awp_ret ?_
  (try simp only [Thn, InBlk, ↓reduceIte, Nat.reduceEqDiff])
  obtain rfl := Option.some.inj h
  refine ⟨by simp, _, [], (by simp only [go_sem, Nat.reduceBEq, Nat.reduceLT, Nat.reduceAdd, Nat.reduceLeDiff, Nat.reduceSub, Nat.reduceEqDiff, Int.reduceToNat, reduceCtorEq, ↓reduceIte]; exact rfl), ?_, ?_, ?_, ?_⟩
  · first | exact trivial | exact ⟨trivial, trivial⟩ | exact ⟨trivial, trivial, trivial⟩ | exact ⟨trivial, trivial, trivial, trivial⟩ | (simp only [allP, and_true, true_and]; done) | (simp only [allP, and_true, true_and]; omega)
  · simp [selOk, pos]
  · simp
  · first | exact ⟨rfl, rfl⟩ | (simp only [go_sem, Nat.reduceBEq, Nat.reduceLT, Nat.reduceAdd, Nat.reduceLeDiff, Nat.reduceSub, Nat.reduceEqDiff, Int.reduceToNat, reduceCtorEq, ↓reduceIte]; done) | (simp [go_sem, Nat.reduceBEq, Nat.reduceLT, Nat.reduceAdd, Nat.reduceLeDiff, Nat.reduceSub, Nat.reduceEqDiff, Int.reduceToNat, reduceCtorEq, ↓reduceIte]; done) | (simp only [go_sem, Nat.reduceBEq, Nat.reduceLT, Nat.reduceAdd, Nat.reduceLeDiff, Nat.reduceSub, Nat.reduceEqDiff, Int.reduceToNat, reduceCtorEq, ↓reduceIte]; exact ⟨rfl, rfl⟩) | (simp_all [go_sem, Nat.reduceBEq, Nat.reduceLT, Nat.reduceAdd, Nat.reduceLeDiff, Nat.reduceSub, Nat.reduceEqDiff, Int.reduceToNat, reduceCtorEq, ↓reduceIte]; done)
theorem k_impl_nextMasks (a0_0 : Int) (a0_1 : List (Int × Int × Int)) {r : List Int} (h : impl_nextMasks a0_0 a0_1 = some r) :
    FnA Tryd.prog 41 [.agg [.v (.int .i64 a0_0), .sl 0]] [.row false (.trips a0_1)] [] (fun x H => x = .sl 1 ∧ H = [.row false (.trips a0_1), .row true (.ints .u32 r)]) := by
  unfold impl_nextMasks at h
  refine FnA.of (N := 28) (pin := [0]) (rs := [.tmp 2]) Tryd.func41 rfl en41 rfl rfl (by simp) (by simp; try omega) ?_
  refine awp_reg ftCOk [(1, .pp 1 0)] [.row false (.trips a0_1), .box [.v (.int .i64 a0_0), .sl 0]] ?_
  refine awp_freeze 1 (by rfl) (by rfl) (by exact rfl) ?_
  replace h := chk_some h
  obtain ⟨hp0, h⟩ := h
  refine awp_reg ftCOk [(1, .pp 1 0), (3, .sl 2)] [.row false (.trips a0_1), .rbox [.v (.int .i64 a0_0), .sl 0], .row true (.ints .u32 (List.replicate a0_0.toNat 0))] ?_
  clear hp0
  refine awp_seq fun K14 hK14 => ?_
  refine awp_reg ftCOk [(3, .sl 2), (10, .sl 0), (11, .v (.int .i64 (a0_1.length : Int))), (12, .v (.int .i64 0))] [.row false (.trips a0_1), .rbox [.v (.int .i64 a0_0), .sl 0], .row true (.ints .u32 (List.replicate a0_0.toNat 0))] ?_
  refine awp_block ?_
  replace h := bind_some h
  obtain ⟨t3s_1, hx, h⟩ := h
  refine awp_loopL hx (fun ((t12, t3s) : Int × List Int) => [(3, .sl 1), (10, .sl 0), (11, .v (.int .i64 (a0_1.length : Int))), (12, .v (.int .i64 t12))]) (fun ((t12, t3s) : Int × List Int) => [.row false (.trips a0_1), .row true (.ints .u32 t3s)]) (fun (t3s_1 : List Int) => Exit.exit 0) (fun (t3s_1 : List Int) => [(3, .sl 1)]) (fun (t3s_1 : List Int) => [.row false (.trips a0_1), .row true (.ints .u32 t3s_1)]) ?_ ?_ ?_ ?_
  · rintro t3s_1 hy <;> cases hy
  · clear h hx
    exact Red.selA [0, 2] Red.auto
  · clear h hx
    rintro ⟨t12, t3s⟩ r h
    unfold impl_nextMasks_b0 at h
    try dsimp only at h
    try dsimp only
    refine awp_reg ftCOk [(3, .sl 1), (10, .sl 0), (11, .v (.int .i64 (a0_1.length : Int))), (12, .v (.int .i64 t12)), (13, .v (.bool (decide (t12 < (a0_1.length : Int)))))] [.row false (.trips a0_1), .row true (.ints .u32 t3s)] ?_
    refine awp_seq fun K24 hK24 => ?_
    refine awp_cond (t := 13) rfl (fun hc25 => ?_) (fun hc25 => ?_)
    · replace h := bite_t h hc25
      refine awp_skip ?_
      (try simp only [Thn, InBlk, ↓reduceIte, Nat.reduceEqDiff])
      refine hK24 _ _ ?_
      clear hK24
      refine awp_seq fun K26 hK26 => ?_
      refine awp_block ?_
      replace h := chk_some h
      obtain ⟨hp0, h⟩ := h
      refine awp_reg ftCOk [(3, .sl 1), (5, .pp 2 0), (10, .sl 0), (11, .v (.int .i64 (a0_1.length : Int))), (12, .v (.int .i64 t12))] [.row false (.trips a0_1), .row true (.ints .u32 t3s), .box [.v (.int .i64 ((a0_1.getD t12.toNat (0, 0, 0)).1)), .v (.int .i64 ((a0_1.getD t12.toNat (0, 0, 0)).2.1)), .v (.int .i64 ((a0_1.getD t12.toNat (0, 0, 0)).2.2))]] ?_
      clear hp0
      replace h := chk_some h
      obtain ⟨hp0, h⟩ := h
      replace h := bind_some h
      obtain ⟨y, hr1, h⟩ := h
      try dsimp only at h
      refine awp_end [(3, .sl 1), (10, .sl 0), (11, .v (.int .i64 (a0_1.length : Int))), (12, .v (.int .i64 t12))] [.row false (.trips a0_1), .row true (.ints .u32 (t3s.set (((a0_1.getD t12.toNat (0, 0, 0)).1).toNat) (bitsV .or .u32 (t3s.getD (((a0_1.getD t12.toNat (0, 0, 0)).1).toNat) 0) y))), .box [.v (.int .i64 ((a0_1.getD t12.toNat (0, 0, 0)).1)), .v (.int .i64 ((a0_1.getD t12.toNat (0, 0, 0)).2.1)), .v (.int .i64 ((a0_1.getD t12.toNat (0, 0, 0)).2.2))]] ?_ ?_
      · clear h
        intro K hK
        refine awp_drawT mixed ftCOk (.free 0 (.free 1 (.free 5 (.two 2 6 (.two 3 6 (.two 4 6 (.one 6 (.one 7 (.one 8 (.one 9 (.one 10 .fin))))) (.two 4 7 (.one 7 (.one 8 (.one 9 (.one 10 .fin)))) (.one 4 (.one 8 (.one 9 (.one 10 .fin)))))) (.two 3 7 (.two 4 7 (.one 7 (.one 8 (.one 9 (.one 10 .fin)))) (.one 4 (.one 8 (.one 9 (.one 10 .fin))))) (.one 3 (.one 4 (.one 8 (.one 9 (.one 10 .fin))))))) (.two 2 7 (.two 3 7 (.two 4 7 (.one 7 (.one 8 (.one 9 (.one 10 .fin)))) (.one 4 (.one 8 (.one 9 (.one 10 .fin))))) (.one 3 (.one 4 (.one 8 (.one 9 (.one 10 .fin)))))) (.one 2 (.one 3 (.one 4 (.one 8 (.one 9 (.one 10 .fin))))))))))) (by kernel_rfl) (by simp) ?_
        simp (maxSteps := 4000000) only [go_sem, Nat.reduceBEq, Nat.reduceLT, Nat.reduceAdd, Nat.reduceLeDiff, Nat.reduceSub, Nat.reduceEqDiff, Int.reduceToNat, reduceCtorEq, ↓reduceIte]
        repeat' (first | refine And.intro ?_ ?_ | intro hg)
        all_goals (try simp (disch := omega) only [wrap_fits])
        all_goals first
          | (refine hK _ _ ?_; exact Red.auto)
          | exact trivial
          | assumption
          | omega
          | exact wrap_fits (by omega) (by omega)
          | (refine OpK_callA (k_impl_maskOf ((a0_1.getD t12.toNat (0, 0, 0)).2.1) (h := hr1)) [] [] ?_
             rintro x Hc' ⟨rfl, rfl⟩ hlen
             simp (maxSteps := 4000000) only [go_sem, Nat.reduceBEq, Nat.reduceLT, Nat.reduceAdd, Nat.reduceLeDiff, Nat.reduceSub, Nat.reduceEqDiff, Int.reduceToNat, reduceCtorEq, ↓reduceIte]
             repeat' (first | refine And.intro ?_ ?_ | intro hg)
             all_goals (try simp (disch := omega) only [wrap_fits])
             all_goals first
               | (refine hK _ _ ?_; exact Red.auto)
               | exact trivial
               | assumption
               | omega
               | exact wrap_fits (by omega) (by omega)
               | (simp (maxSteps := 4000000) only [go_sem, Nat.reduceBEq, Nat.reduceLT, Nat.reduceAdd, Nat.reduceLeDiff, Nat.reduceSub, Nat.reduceEqDiff, Int.reduceToNat, reduceCtorEq, ↓reduceIte]
                  repeat' (first | refine And.intro ?_ ?_ | intro hg)
                  all_goals (try simp (disch := omega) only [wrap_fits])
                  all_goals first | (refine hK _ _ ?_; exact Red.auto) | exact trivial | assumption | omega | exact wrap_fits (by omega) (by omega))
               | (simp_all; done)
               | (simp_all; omega))
          | (simp_all; done)
          | (simp_all; omega)
      · clear hp0 hr1
        (try simp only [Thn, InBlk, ↓reduceIte, Nat.reduceEqDiff])
        (try simp only [Thn, InBlk, ↓reduceIte, Nat.reduceEqDiff])
        refine hK26 _ _ ?_
        clear hK26
        replace h := chk_some h
        obtain ⟨hp0, h⟩ := h
        refine awp_regE ftCOk [(3, .sl 1), (10, .sl 0), (11, .v (.int .i64 (a0_1.length : Int))), (12, .v (.int .i64 (t12 + 1)))] [.row false (.trips a0_1), .row true (.ints .u32 (t3s.set (((a0_1.getD t12.toNat (0, 0, 0)).1).toNat) (bitsV .or .u32 (t3s.getD (((a0_1.getD t12.toNat (0, 0, 0)).1).toNat) 0) y))), .box [.v (.int .i64 ((a0_1.getD t12.toNat (0, 0, 0)).1)), .v (.int .i64 ((a0_1.getD t12.toNat (0, 0, 0)).2.1)), .v (.int .i64 ((a0_1.getD t12.toNat (0, 0, 0)).2.2))]] ?_
        clear hp0
        obtain rfl := Option.some.inj h
        refine LoopQ.next ?_
        exact Red.selA [0, 1] Red.auto
    · replace h := bite_f h hc25
      refine awp_exit ?_
      (try simp only [Thn, InBlk, ↓reduceIte, Nat.reduceEqDiff])
      obtain rfl := Option.some.inj h
      refine LoopQ.out rfl ?_
      exact Red.auto
  · clear hx
    skip
    · try dsimp only [Sum.elim_inl, Sum.elim_inr] at h
      try dsimp only [Sum.elim_inl, Sum.elim_inr]
      (try simp only [Thn, InBlk, ↓reduceIte, Nat.reduceEqDiff])
      (try simp only [Thn, InBlk, ↓reduceIte, Nat.reduceEqDiff])
      (try simp only [Thn, InBlk, ↓reduceIte, Nat.reduceEqDiff])
      refine hK14 _ _ ?_
      clear hK14
      refine awp_reg ftCOk [(2, .sl 1)] [.row false (.trips a0_1), .row true (.ints .u32 t3s_1)] ?_
      refine awp_ret ?_
      (try simp only [Thn, InBlk, ↓reduceIte, Nat.reduceEqDiff])
      obtain rfl := Option.some.inj h
      refine ⟨by simp, _, [0, 1], (by simp only [go_sem, Nat.reduceBEq, Nat.reduceLT, Nat.reduceAdd, Nat.reduceLeDiff, Nat.reduceSub, Nat.reduceEqDiff, Int.reduceToNat, reduceCtorEq, ↓reduceIte]; exact rfl), ?_, ?_, ?_, ?_⟩
      · first | exact trivial | exact ⟨trivial, trivial⟩ | exact ⟨trivial, trivial, trivial⟩ | exact ⟨trivial, trivial, trivial, trivial⟩ | (simp only [allP, and_true, true_and]; done) | (simp only [allP, and_true, true_and]; omega)
      · simp [selOk, pos]
      · simp
      · first | exact ⟨rfl, rfl⟩ | (simp only [go_sem, Nat.reduceBEq, Nat.reduceLT, Nat.reduceAdd, Nat.reduceLeDiff, Nat.reduceSub, Nat.reduceEqDiff, Int.reduceToNat, reduceCtorEq, ↓reduceIte]; done) | (simp [go_sem, Nat.reduceBEq, Nat.reduceLT, Nat.reduceAdd, Nat.reduceLeDiff, Nat.reduceSub, Nat.reduceEqDiff, Int.reduceToNat, reduceCtorEq, ↓reduceIte]; done) | (simp only [go_sem, Nat.reduceBEq, Nat.reduceLT, Nat.reduceAdd, Nat.reduceLeDiff, Nat.reduceSub, Nat.reduceEqDiff, Int.reduceToNat, reduceCtorEq, ↓reduceIte]; exact ⟨rfl, rfl⟩) | (simp_all [go_sem, Nat.reduceBEq, Nat.reduceLT, Nat.reduceAdd, Nat.reduceLeDiff, Nat.reduceSub, Nat.reduceEqDiff, Int.reduceToNat, reduceCtorEq, ↓reduceIte]; done)
theorem k_impl_nearMasks (a0_0 : Int) (a0_1 : List (Int × Int × Int)) {r : List Int} (h : impl_nearMasks a0_0 a0_1 = some r) :
    FnA Tryd.prog 47 [.agg [.v (.int .i64 a0_0), .sl 0]] [.row false (.trips a0_1)] [] (fun x H => x = .sl 1 ∧ H = [.row false (.trips a0_1), .row true (.ints .u32 r)]) := by
  unfold impl_nearMasks at h
  refine FnA.of (N := 27) (pin := [0]) (rs := [.tmp 2]) Tryd.func47 rfl en47 rfl rfl (by simp) (by simp; try omega) ?_
  refine awp_reg ftCOk [(1, .pp 1 0)] [.row false (.trips a0_1), .box [.v (.int .i64 a0_0), .sl 0]] ?_
  refine awp_freeze 1 (by rfl) (by rfl) (by exact rfl) ?_
  replace h := bind_some h
  obtain ⟨y, hr0, h⟩ := h
  try dsimp only at h
  refine awp_to [(1, .pp 1 0), (3, .sl 2)] [.row false (.trips a0_1), .rbox [.v (.int .i64 a0_0), .sl 0], .row true (.ints .u32 y)] ?_ ?_
  · clear h
    intro K hK
    refine awp_region ftCOk ?_
    simp (maxSteps := 4000000) only [go_sem, Nat.reduceBEq, Nat.reduceLT, Nat.reduceAdd, Nat.reduceLeDiff, Nat.reduceSub, Nat.reduceEqDiff, Int.reduceToNat, reduceCtorEq, ↓reduceIte]
    repeat' (first | refine And.intro ?_ ?_ | intro hg)
    all_goals (try simp (disch := omega) only [wrap_fits])
    all_goals first
      | (refine hK _ _ ?_; exact Red.auto)
      | exact trivial
      | assumption
      | omega
      | exact wrap_fits (by omega) (by omega)
      | (refine wpA_callA (k_impl_nextMasks a0_0 a0_1 (h := hr0)) [0] [] ?_
         rintro x Hc' ⟨rfl, rfl⟩ hlen
         refine vcOps_sound ftCOk ?_
         simp (maxSteps := 4000000) only [go_sem, Nat.reduceBEq, Nat.reduceLT, Nat.reduceAdd, Nat.reduceLeDiff, Nat.reduceSub, Nat.reduceEqDiff, Int.reduceToNat, reduceCtorEq, ↓reduceIte]
         repeat' (first | refine And.intro ?_ ?_ | intro hg)
         all_goals (try simp (disch := omega) only [wrap_fits])
         all_goals first
           | (refine hK _ _ ?_; exact Red.auto)
           | exact trivial
           | assumption
           | omega
           | exact wrap_fits (by omega) (by omega)
           | (simp_all; done)
           | (simp_all; omega))
      | (simp_all; done)
      | (simp_all; omega)
  · clear hr0
    refine awp_seq fun K14 hK14 => ?_
    refine awp_reg ftCOk [(3, .sl 2), (9, .sl 0), (10, .v (.int .i64 (a0_1.length : Int))), (11, .v (.int .i64 0))] [.row false (.trips a0_1), .rbox [.v (.int .i64 a0_0), .sl 0], .row true (.ints .u32 y)] ?_
    refine awp_block ?_
    replace h := bind_some h
    obtain ⟨t3s_1, hx, h⟩ := h
    refine awp_loopL hx (fun ((t11, t3s) : Int × List Int) => [(3, .sl 1), (9, .sl 0), (10, .v (.int .i64 (a0_1.length : Int))), (11, .v (.int .i64 t11))]) (fun ((t11, t3s) : Int × List Int) => [.row false (.trips a0_1), .row true (.ints .u32 t3s)]) (fun (t3s_1 : List Int) => Exit.exit 0) (fun (t3s_1 : List Int) => [(3, .sl 1)]) (fun (t3s_1 : List Int) => [.row false (.trips a0_1), .row true (.ints .u32 t3s_1)]) ?_ ?_ ?_ ?_
    · rintro t3s_1 hy <;> cases hy
    · clear h hx
      exact Red.selA [0, 2] Red.auto
    · clear h hx
      rintro ⟨t11, t3s⟩ r h
      unfold impl_nearMasks_b0 at h
      try dsimp only at h
      try dsimp only
      refine awp_reg ftCOk [(3, .sl 1), (9, .sl 0), (10, .v (.int .i64 (a0_1.length : Int))), (11, .v (.int .i64 t11)), (12, .v (.bool (decide (t11 < (a0_1.length : Int)))))] [.row false (.trips a0_1), .row true (.ints .u32 t3s)] ?_
      refine awp_seq fun K24 hK24 => ?_
      refine awp_cond (t := 12) rfl (fun hc25 => ?_) (fun hc25 => ?_)
      · replace h := bite_t h hc25
        refine awp_skip ?_
        (try simp only [Thn, InBlk, ↓reduceIte, Nat.reduceEqDiff])
        refine hK24 _ _ ?_
        clear hK24
        refine awp_seq fun K26 hK26 => ?_
        refine awp_block ?_
        replace h := chk_some h
        obtain ⟨hp0, h⟩ := h
        refine awp_reg ftCOk [(3, .sl 1), (5, .pp 2 0), (9, .sl 0), (10, .v (.int .i64 (a0_1.length : Int))), (11, .v (.int .i64 t11))] [.row false (.trips a0_1), .row true (.ints .u32 t3s), .box [.v (.int .i64 ((a0_1.getD t11.toNat (0, 0, 0)).1)), .v (.int .i64 ((a0_1.getD t11.toNat (0, 0, 0)).2.1)), .v (.int .i64 ((a0_1.getD t11.toNat (0, 0, 0)).2.2))]] ?_
        clear hp0
        replace h := chk_some h
        obtain ⟨hp0, h⟩ := h
        replace h := bind_some h
        obtain ⟨y_1, hr1, h⟩ := h
        try dsimp only at h
        refine awp_end [(3, .sl 1), (9, .sl 0), (10, .v (.int .i64 (a0_1.length : Int))), (11, .v (.int .i64 t11))] [.row false (.trips a0_1), .row true (.ints .u32 (t3s.set (((a0_1.getD t11.toNat (0, 0, 0)).2.1).toNat) (bitsV .or .u32 (t3s.getD (((a0_1.getD t11.toNat (0, 0, 0)).2.1).toNat) 0) y_1))), .box [.v (.int .i64 ((a0_1.getD t11.toNat (0, 0, 0)).1)), .v (.int .i64 ((a0_1.getD t11.toNat (0, 0, 0)).2.1)), .v (.int .i64 ((a0_1.getD t11.toNat (0, 0, 0)).2.2))]] ?_ ?_
        · clear h
          intro K hK
          refine awp_drawT mixed ftCOk (.free 0 (.free 1 (.free 5 (.two 2 6 (.two 3 6 (.two 4 6 (.one 6 (.one 7 (.one 8 (.one 9 (.one 10 .fin))))) (.two 4 7 (.one 7 (.one 8 (.one 9 (.one 10 .fin)))) (.one 4 (.one 8 (.one 9 (.one 10 .fin)))))) (.two 3 7 (.two 4 7 (.one 7 (.one 8 (.one 9 (.one 10 .fin)))) (.one 4 (.one 8 (.one 9 (.one 10 .fin))))) (.one 3 (.one 4 (.one 8 (.one 9 (.one 10 .fin))))))) (.two 2 7 (.two 3 7 (.two 4 7 (.one 7 (.one 8 (.one 9 (.one 10 .fin)))) (.one 4 (.one 8 (.one 9 (.one 10 .fin))))) (.one 3 (.one 4 (.one 8 (.one 9 (.one 10 .fin)))))) (.one 2 (.one 3 (.one 4 (.one 8 (.one 9 (.one 10 .fin))))))))))) (by kernel_rfl) (by simp) ?_
          simp (maxSteps := 4000000) only [go_sem, Nat.reduceBEq, Nat.reduceLT, Nat.reduceAdd, Nat.reduceLeDiff, Nat.reduceSub, Nat.reduceEqDiff, Int.reduceToNat, reduceCtorEq, ↓reduceIte]
          repeat' (first | refine And.intro ?_ ?_ | intro hg)
          all_goals (try simp (disch := omega) only [wrap_fits])
          all_goals first
            | (refine hK _ _ ?_; exact Red.auto)
            | exact trivial
            | assumption
            | omega
            | exact wrap_fits (by omega) (by omega)
            | (refine OpK_callA (k_impl_maskOf ((a0_1.getD t11.toNat (0, 0, 0)).1) (h := hr1)) [] [] ?_
               rintro x Hc' ⟨rfl, rfl⟩ hlen
               simp (maxSteps := 4000000) only [go_sem, Nat.reduceBEq, Nat.reduceLT, Nat.reduceAdd, Nat.reduceLeDiff, Nat.reduceSub, Nat.reduceEqDiff, Int.reduceToNat, reduceCtorEq, ↓reduceIte]
               repeat' (first | refine And.intro ?_ ?_ | intro hg)
               all_goals (try simp (disch := omega) only [wrap_fits])
               all_goals first
                 | (refine hK _ _ ?_; exact Red.auto)
                 | exact trivial
                 | assumption
                 | omega
                 | exact wrap_fits (by omega) (by omega)
                 | (simp (maxSteps := 4000000) only [go_sem, Nat.reduceBEq, Nat.reduceLT, Nat.reduceAdd, Nat.reduceLeDiff, Nat.reduceSub, Nat.reduceEqDiff, Int.reduceToNat, reduceCtorEq, ↓reduceIte]
                    repeat' (first | refine And.intro ?_ ?_ | intro hg)
                    all_goals (try simp (disch := omega) only [wrap_fits])
                    all_goals first | (refine hK _ _ ?_; exact Red.auto) | exact trivial | assumption | omega | exact wrap_fits (by omega) (by omega))
                 | (simp_all; done)
                 | (simp_all; omega))
            | (simp_all; done)
            | (simp_all; omega)
        · clear hp0 hr1
          (try simp only [Thn, InBlk, ↓reduceIte, Nat.reduceEqDiff])
          (try simp only [Thn, InBlk, ↓reduceIte, Nat.reduceEqDiff])
          refine hK26 _ _ ?_
          clear hK26
          replace h := chk_some h
          obtain ⟨hp0, h⟩ := h
          refine awp_regE ftCOk [(3, .sl 1), (9, .sl 0), (10, .v (.int .i64 (a0_1.length : Int))), (11, .v (.int .i64 (t11 + 1)))] [.row false (.trips a0_1), .row true (.ints .u32 (t3s.set (((a0_1.getD t11.toNat (0, 0, 0)).2.1).toNat) (bitsV .or .u32 (t3s.getD (((a0_1.getD t11.toNat (0, 0, 0)).2.1).toNat) 0) y_1))), .box [.v (.int .i64 ((a0_1.getD t11.toNat (0, 0, 0)).1)), .v (.int .i64 ((a0_1.getD t11.toNat (0, 0, 0)).2.1)), .v (.int .i64 ((a0_1.getD t11.toNat (0, 0, 0)).2.2))]] ?_
          clear hp0
          obtain rfl := Option.some.inj h
          refine LoopQ.next ?_
          exact Red.selA [0, 1] Red.auto
      · replace h := bite_f h hc25
        refine awp_exit ?_
        (try simp only [Thn, InBlk, ↓reduceIte, Nat.reduceEqDiff])
        obtain rfl := Option.some.inj h
        refine LoopQ.out rfl ?_
        exact Red.auto
    · clear hx
      skip
      · try dsimp only [Sum.elim_inl, Sum.elim_inr] at h
        try dsimp only [Sum.elim_inl, Sum.elim_inr]
        (try simp only [Thn, InBlk, ↓reduceIte, Nat.reduceEqDiff])
        (try simp only [Thn, InBlk, ↓reduceIte, Nat.reduceEqDiff])
        (try simp only [Thn, InBlk, ↓reduceIte, Nat.reduceEqDiff])
        refine hK14 _ _ ?_
        clear hK14
        refine awp_reg ftCOk [(2, .sl 1)] [.row false (.trips a0_1), .row true (.ints .u32 t3s_1)] ?_
        refine awp_ret ?_
        (try simp only [Thn, InBlk, ↓reduceIte, Nat.reduceEqDiff])
        obtain rfl := Option.some.inj h
        refine ⟨by simp, _, [0, 1], (by simp only [go_sem, Nat.reduceBEq, Nat.reduceLT, Nat.reduceAdd, Nat.reduceLeDiff, Nat.reduceSub, Nat.reduceEqDiff, Int.reduceToNat, reduceCtorEq, ↓reduceIte]; exact rfl), ?_, ?_, ?_, ?_⟩
        · first | exact trivial | exact ⟨trivial, trivial⟩ | exact ⟨trivial, trivial, trivial⟩ | exact ⟨trivial, trivial, trivial, trivial⟩ | (simp only [allP, and_true, true_and]; done) | (simp only [allP, and_true, true_and]; omega)
        · simp [selOk, pos]
        · simp
        · first | exact ⟨rfl, rfl⟩ | (simp only [go_sem, Nat.reduceBEq, Nat.reduceLT, Nat.reduceAdd, Nat.reduceLeDiff, Nat.reduceSub, Nat.reduceEqDiff, Int.reduceToNat, reduceCtorEq, ↓reduceIte]; done) | (simp [go_sem, Nat.reduceBEq, Nat.reduceLT, Nat.reduceAdd, Nat.reduceLeDiff, Nat.reduceSub, Nat.reduceEqDiff, Int.reduceToNat, reduceCtorEq, ↓reduceIte]; done) | (simp only [go_sem, Nat.reduceBEq, Nat.reduceLT, Nat.reduceAdd, Nat.reduceLeDiff, Nat.reduceSub, Nat.reduceEqDiff, Int.reduceToNat, reduceCtorEq, ↓reduceIte]; exact ⟨rfl, rfl⟩) | (simp_all [go_sem, Nat.reduceBEq, Nat.reduceLT, Nat.reduceAdd, Nat.reduceLeDiff, Nat.reduceSub, Nat.reduceEqDiff, Int.reduceToNat, reduceCtorEq, ↓reduceIte]; done)
theorem k_math_bits_TrailingZeros32 (a0 : Int) {r : Int} (h : math_bits_TrailingZeros32 a0 = some r) :
    FnA Tryd.prog 72 [.v (.int .u32 a0)] [.glob 0 (.ints .u8 tab0)] [] (fun x H => x = .v (.int .i64 r) ∧ H = [.glob 0 (.ints .u8 tab0)]) := by
  unfold math_bits_TrailingZeros32 at h
  refine FnA.of (N := 14) (pin := [0]) (rs := [.tmp 2]) Tryd.func72 rfl en72 rfl rfl (by simp) (by simp; try omega) ?_
  refine awp_reg ftCOk [(0, .v (.int .u32 a0))] [.glob 0 (.ints .u8 tab0)] ?_
  refine awp_seq fun K2 hK2 => ?_
  refine awp_reg ftCOk [(0, .v (.int .u32 a0)), (4, .v (.bool (a0 == 0)))] [.glob 0 (.ints .u8 tab0)] ?_
  refine awp_cond (t := 4) rfl (fun hc3 => ?_) (fun hc3 => ?_)
  · replace h := bite_t h hc3
    refine awp_reg ftCOk [(2, .v (.int .i64 32))] [.glob 0 (.ints .u8 tab0)] ?_
    refine awp_ret ?_
    (try simp only [Thn, InBlk, ↓reduceIte, Nat.reduceEqDiff])
    obtain rfl := Option.some.inj h
    refine ⟨by simp, _, [0], (by simp only [go_sem, Nat.reduceBEq, Nat.reduceLT, Nat.reduceAdd, Nat.reduceLeDiff, Nat.reduceSub, Nat.reduceEqDiff, Int.reduceToNat, reduceCtorEq, ↓reduceIte]; exact rfl), ?_, ?_, ?_, ?_⟩
    · first | exact trivial | exact ⟨trivial, trivial⟩ | exact ⟨trivial, trivial, trivial⟩ | exact ⟨trivial, trivial, trivial, trivial⟩ | (simp only [allP, and_true, true_and]; done) | (simp only [allP, and_true, true_and]; omega)
    · simp [selOk, pos]
    · simp
    · first | exact ⟨rfl, rfl⟩ | (simp only [go_sem, Nat.reduceBEq, Nat.reduceLT, Nat.reduceAdd, Nat.reduceLeDiff, Nat.reduceSub, Nat.reduceEqDiff, Int.reduceToNat, reduceCtorEq, ↓reduceIte]; done) | (simp [go_sem, Nat.reduceBEq, Nat.reduceLT, Nat.reduceAdd, Nat.reduceLeDiff, Nat.reduceSub, Nat.reduceEqDiff, Int.reduceToNat, reduceCtorEq, ↓reduceIte]; done) | (simp only [go_sem, Nat.reduceBEq, Nat.reduceLT, Nat.reduceAdd, Nat.reduceLeDiff, Nat.reduceSub, Nat.reduceEqDiff, Int.reduceToNat, reduceCtorEq, ↓reduceIte]; exact ⟨rfl, rfl⟩) | (simp_all [go_sem, Nat.reduceBEq, Nat.reduceLT, Nat.reduceAdd, Nat.reduceLeDiff, Nat.reduceSub, Nat.reduceEqDiff, Int.reduceToNat, reduceCtorEq, ↓reduceIte]; done)
  · replace h := bite_f h hc3
    refine awp_skip ?_
    (try simp only [Thn, InBlk, ↓reduceIte, Nat.reduceEqDiff])
    refine hK2 _ _ ?_
    clear hK2
    replace h := chk_some h
    obtain ⟨hp0, h⟩ := h
    replace h := chk_some h
    obtain ⟨hp1, h⟩ := h
    replace h := chk_some h
    obtain ⟨hp2, h⟩ := h
    refine awp_reg ftCOk [(2, .v (.int .i64 (tab0.getD (((IntKind.u32.wrap ((bitsV .and .u32 a0 (IntKind.u32.wrap (-a0))) * 125613361)).fdiv 134217728).toNat) 0)))] [.glob 0 (.ints .u8 tab0)] ?_
    clear hp0 hp1 hp2
    refine awp_ret ?_
    (try simp only [Thn, InBlk, ↓reduceIte, Nat.reduceEqDiff])
    obtain rfl := Option.some.inj h
    refine ⟨by simp, _, [0], (by simp only [go_sem, Nat.reduceBEq, Nat.reduceLT, Nat.reduceAdd, Nat.reduceLeDiff, Nat.reduceSub, Nat.reduceEqDiff, Int.reduceToNat, reduceCtorEq, ↓reduceIte]; exact rfl), ?_, ?_, ?_, ?_⟩
    · first | exact trivial | exact ⟨trivial, trivial⟩ | exact ⟨trivial, trivial, trivial⟩ | exact ⟨trivial, trivial, trivial, trivial⟩ | (simp only [allP, and_true, true_and]; done) | (simp only [allP, and_true, true_and]; omega)
    · simp [selOk, pos]
    · simp
    · first | exact ⟨rfl, rfl⟩ | (simp only [go_sem, Nat.reduceBEq, Nat.reduceLT, Nat.reduceAdd, Nat.reduceLeDiff, Nat.reduceSub, Nat.reduceEqDiff, Int.reduceToNat, reduceCtorEq, ↓reduceIte]; done) | (simp [go_sem, Nat.reduceBEq, Nat.reduceLT, Nat.reduceAdd, Nat.reduceLeDiff, Nat.reduceSub, Nat.reduceEqDiff, Int.reduceToNat, reduceCtorEq, ↓reduceIte]; done) | (simp only [go_sem, Nat.reduceBEq, Nat.reduceLT, Nat.reduceAdd, Nat.reduceLeDiff, Nat.reduceSub, Nat.reduceEqDiff, Int.reduceToNat, reduceCtorEq, ↓reduceIte]; exact ⟨rfl, rfl⟩) | (simp_all [go_sem, Nat.reduceBEq, Nat.reduceLT, Nat.reduceAdd, Nat.reduceLeDiff, Nat.reduceSub, Nat.reduceEqDiff, Int.reduceToNat, reduceCtorEq, ↓reduceIte]; done)
theorem k_impl_vertexMask_least (a0 : Int) {r : Int} (h : impl_vertexMask_least a0 = some r) :
    FnA Tryd.prog 62 [.v (.int .u32 a0)] [.glob 0 (.ints .u8 tab0)] [] (fun x H => x = .v (.int .i64 r) ∧ H = [.glob 0 (.ints .u8 tab0)]) := by
  unfold impl_vertexMask_least at h
  refine FnA.of (N := 5) (pin := [0]) (rs := [.tmp 2]) Tryd.func62 rfl en62 rfl rfl (by simp) (by simp; try omega) ?_
  refine awp_reg ftCOk [(0, .v (.int .u32 a0))] [.glob 0 (.ints .u8 tab0)] ?_
  replace h := bind_some h
  obtain ⟨y, hr0, h⟩ := h
  try dsimp only at h
  refine awp_to [(2, .v (.int .i64 y))] [.glob 0 (.ints .u8 tab0)] ?_ ?_
  · clear h
    intro K hK
    refine awp_region ftCOk ?_
    simp (maxSteps := 4000000) only [go_sem, Nat.reduceBEq, Nat.reduceLT, Nat.reduceAdd, Nat.reduceLeDiff, Nat.reduceSub, Nat.reduceEqDiff, Int.reduceToNat, reduceCtorEq, ↓reduceIte]
    repeat' (first | refine And.intro ?_ ?_ | intro hg)
    all_goals (try simp (disch := omega) only [wrap_fits])
    all_goals first
      | (refine hK _ _ ?_; exact Red.auto)
      | exact trivial
      | assumption
      | omega
      | exact wrap_fits (by omega) (by omega)
      | (refine wpA_callA (k_math_bits_TrailingZeros32 a0 (h := hr0)) [0] [] ?_
         rintro x Hc' ⟨rfl, rfl⟩ hlen
         refine vcOps_sound ftCOk ?_
         simp (maxSteps := 4000000) only [go_sem, Nat.reduceBEq, Nat.reduceLT, Nat.reduceAdd, Nat.reduceLeDiff, Nat.reduceSub, Nat.reduceEqDiff, Int.reduceToNat, reduceCtorEq, ↓reduceIte]
         repeat' (first | refine And.intro ?_ ?_ | intro hg)
         all_goals (try simp (disch := omega) only [wrap_fits])
         all_goals first
           | (refine hK _ _ ?_; exact Red.auto)
           | exact trivial
           | assumption
           | omega
           | exact wrap_fits (by omega) (by omega)
           | (simp_all; done)
           | (simp_all; omega))
      | (simp_all; done)
      | (simp_all; omega)
  · clear hr0
    refine awp_ret ?_
    (try simp only [Thn, InBlk, ↓reduceIte, Nat.reduceEqDiff])
    obtain rfl := Option.some.inj h
    refine ⟨by simp, _, [0], (by simp only [go_sem, Nat.reduceBEq, Nat.reduceLT, Nat.reduceAdd, Nat.reduceLeDiff, Nat.reduceSub, Nat.reduceEqDiff, Int.reduceToNat, reduceCtorEq, ↓reduceIte]; exact rfl), ?_, ?_, ?_, ?_⟩
    · first | exact trivial | exact ⟨trivial, trivial⟩ | exact ⟨trivial, trivial, trivial⟩ | exact ⟨trivial, trivial, trivial, trivial⟩ | (simp only [allP, and_true, true_and]; done) | (simp only [allP, and_true, true_and]; omega)
    · simp [selOk, pos]
    · simp
    · first | exact ⟨rfl, rfl⟩ | (simp only [go_sem, Nat.reduceBEq, Nat.reduceLT, Nat.reduceAdd, Nat.reduceLeDiff, Nat.reduceSub, Nat.reduceEqDiff, Int.reduceToNat, reduceCtorEq, ↓reduceIte]; done) | (simp [go_sem, Nat.reduceBEq, Nat.reduceLT, Nat.reduceAdd, Nat.reduceLeDiff, Nat.reduceSub, Nat.reduceEqDiff, Int.reduceToNat, reduceCtorEq, ↓reduceIte]; done) | (simp only [go_sem, Nat.reduceBEq, Nat.reduceLT, Nat.reduceAdd, Nat.reduceLeDiff, Nat.reduceSub, Nat.reduceEqDiff, Int.reduceToNat, reduceCtorEq, ↓reduceIte]; exact ⟨rfl, rfl⟩) | (simp_all [go_sem, Nat.reduceBEq, Nat.reduceLT, Nat.reduceAdd, Nat.reduceLeDiff, Nat.reduceSub, Nat.reduceEqDiff, Int.reduceToNat, reduceCtorEq, ↓reduceIte]; done)
theorem k_impl_vertexMask_list (a0 : Int) {r : List Int} (h : impl_vertexMask_list a0 = some r) :
    FnA Tryd.prog 42 [.v (.int .u32 a0)] [.glob 0 (.ints .u8 tab0)] [] (fun x H => x = .sl 1 ∧ H = [.glob 0 (.ints .u8 tab0), .row true (.ints .i64 r)]) := by
  unfold impl_vertexMask_list at h
  refine FnA.of (N := 16) (pin := [0]) (rs := [.tmp 2]) Tryd.func42 rfl en42 rfl rfl (by simp) (by simp; try omega) ?_
  refine awp_reg ftCOk [(0, .v (.int .u32 a0))] [.glob 0 (.ints .u8 tab0)] ?_
  refine awp_reg ftCOk [(0, .v (.int .u32 a0)), (3, .v (.slice none 0 0))] [.glob 0 (.ints .u8 tab0)] ?_
  refine awp_seq fun K18 hK18 => ?_
  refine awp_block ?_
  replace h := bind_some h
  obtain ⟨t3s_1, hx, h⟩ := h
  refine awp_loopL hx (fun ((t0, t3s) : Int × List Int) => [(0, .v (.int .u32 t0)), (3, .sl 1)]) (fun ((t0, t3s) : Int × List Int) => [.glob 0 (.ints .u8 tab0), .row true (.ints .i64 t3s)]) (fun (t3s_1 : List Int) => Exit.exit 0) (fun (t3s_1 : List Int) => [(3, .sl 1)]) (fun (t3s_1 : List Int) => [.glob 0 (.ints .u8 tab0), .row true (.ints .i64 t3s_1)]) ?_ ?_ ?_ ?_
  · rintro t3s_1 hy <;> cases hy
  · clear h hx
    refine Red.trans (Red.nil (t := 3) (.ints .i64 []) rfl rfl) ?_
    exact Red.auto
  · clear h hx
    rintro ⟨t0, t3s⟩ r h
    unfold impl_vertexMask_list_b0 at h
    try dsimp only at h
    try dsimp only
    refine awp_seq fun K32 hK32 => ?_
    refine awp_reg ftCOk [(0, .v (.int .u32 t0)), (3, .sl 1), (5, .v (.bool (t0 != 0)))] [.glob 0 (.ints .u8 tab0), .row true (.ints .i64 t3s)] ?_
    refine awp_cond (t := 5) rfl (fun hc33 => ?_) (fun hc33 => ?_)
    · replace h := bite_t h hc33
      refine awp_skip ?_
      (try simp only [Thn, InBlk, ↓reduceIte, Nat.reduceEqDiff])
      refine hK32 _ _ ?_
      clear hK32
      refine awp_seq fun K34 hK34 => ?_
      refine awp_block ?_
      replace h := bind_some h
      obtain ⟨y, hr0, h⟩ := h
      try dsimp only at h
      replace h := chk_some h
      obtain ⟨hp1, h⟩ := h
      refine awp_end [(0, .v (.int .u32 t0)), (3, .sl 1)] [.glob 0 (.ints .u8 tab0), .row true (.ints .i64 (t3s ++ [y])), .row true (.ints .i64 [y])] ?_ ?_
      · clear h
        intro K hK
        refine awp_region ftCOk ?_
        simp (maxSteps := 4000000) only [go_sem, Nat.reduceBEq, Nat.reduceLT, Nat.reduceAdd, Nat.reduceLeDiff, Nat.reduceSub, Nat.reduceEqDiff, Int.reduceToNat, reduceCtorEq, ↓reduceIte]
        repeat' (first | refine And.intro ?_ ?_ | intro hg)
        all_goals (try simp (disch := omega) only [wrap_fits])
        all_goals first
          | (refine hK _ _ ?_; exact Red.auto)
          | exact trivial
          | assumption
          | omega
          | exact wrap_fits (by omega) (by omega)
          | (refine wpA_callA (k_impl_vertexMask_least t0 (h := hr0)) [0] [] ?_
             rintro x Hc' ⟨rfl, rfl⟩ hlen
             refine vcOps_sound ftCOk ?_
             simp (maxSteps := 4000000) only [go_sem, Nat.reduceBEq, Nat.reduceLT, Nat.reduceAdd, Nat.reduceLeDiff, Nat.reduceSub, Nat.reduceEqDiff, Int.reduceToNat, reduceCtorEq, ↓reduceIte]
             repeat' (first | refine And.intro ?_ ?_ | intro hg)
             all_goals (try simp (disch := omega) only [wrap_fits])
             all_goals first
               | (refine hK _ _ ?_; exact Red.auto)
               | exact trivial
               | assumption
               | omega
               | exact wrap_fits (by omega) (by omega)
               | (simp_all; done)
               | (simp_all; omega))
          | (simp_all; done)
          | (simp_all; omega)
      · clear hr0 hp1
        (try simp only [Thn, InBlk, ↓reduceIte, Nat.reduceEqDiff])
        (try simp only [Thn, InBlk, ↓reduceIte, Nat.reduceEqDiff])
        refine hK34 _ _ ?_
        clear hK34
        refine awp_regE ftCOk [(0, .v (.int .u32 (bitsV .and .u32 t0 (IntKind.u32.wrap (t0 - 1))))), (3, .sl 1)] [.glob 0 (.ints .u8 tab0), .row true (.ints .i64 (t3s ++ [y])), .row true (.ints .i64 [y])] ?_
        obtain rfl := Option.some.inj h
        refine LoopQ.next ?_
        exact Red.selA [0, 1] Red.auto
    · replace h := bite_f h hc33
      refine awp_exit ?_
      (try simp only [Thn, InBlk, ↓reduceIte, Nat.reduceEqDiff])
      obtain rfl := Option.some.inj h
      refine LoopQ.out rfl ?_
      exact Red.auto
  · clear hx
    skip
    · try dsimp only [Sum.elim_inl, Sum.elim_inr] at h
      try dsimp only [Sum.elim_inl, Sum.elim_inr]
      (try simp only [Thn, InBlk, ↓reduceIte, Nat.reduceEqDiff])
      (try simp only [Thn, InBlk, ↓reduceIte, Nat.reduceEqDiff])
      (try simp only [Thn, InBlk, ↓reduceIte, Nat.reduceEqDiff])
      refine hK18 _ _ ?_
      clear hK18
      refine awp_reg ftCOk [(2, .sl 1)] [.glob 0 (.ints .u8 tab0), .row true (.ints .i64 t3s_1)] ?_
      refine awp_ret ?_
      (try simp only [Thn, InBlk, ↓reduceIte, Nat.reduceEqDiff])
      obtain rfl := Option.some.inj h
      refine ⟨by simp, _, [0, 1], (by simp only [go_sem, Nat.reduceBEq, Nat.reduceLT, Nat.reduceAdd, Nat.reduceLeDiff, Nat.reduceSub, Nat.reduceEqDiff, Int.reduceToNat, reduceCtorEq, ↓reduceIte]; exact rfl), ?_, ?_, ?_, ?_⟩
      · first | exact trivial | exact ⟨trivial, trivial⟩ | exact ⟨trivial, trivial, trivial⟩ | exact ⟨trivial, trivial, trivial, trivial⟩ | (simp only [allP, and_true, true_and]; done) | (simp only [allP, and_true, true_and]; omega)
      · simp [selOk, pos]
      · simp
      · first | exact ⟨rfl, rfl⟩ | (simp only [go_sem, Nat.reduceBEq, Nat.reduceLT, Nat.reduceAdd, Nat.reduceLeDiff, Nat.reduceSub, Nat.reduceEqDiff, Int.reduceToNat, reduceCtorEq, ↓reduceIte]; done) | (simp [go_sem, Nat.reduceBEq, Nat.reduceLT, Nat.reduceAdd, Nat.reduceLeDiff, Nat.reduceSub, Nat.reduceEqDiff, Int.reduceToNat, reduceCtorEq, ↓reduceIte]; done) | (simp only [go_sem, Nat.reduceBEq, Nat.reduceLT, Nat.reduceAdd, Nat.reduceLeDiff, Nat.reduceSub, Nat.reduceEqDiff, Int.reduceToNat, reduceCtorEq, ↓reduceIte]; exact ⟨rfl, rfl⟩) | (simp_all [go_sem, Nat.reduceBEq, Nat.reduceLT, Nat.reduceAdd, Nat.reduceLeDiff, Nat.reduceSub, Nat.reduceEqDiff, Int.reduceToNat, reduceCtorEq, ↓reduceIte]; done)
theorem k_math_bits_OnesCount32 (a0 : Int) {r : Int} (h : math_bits_OnesCount32 a0 = some r) :
    FnA Tryd.prog 71 [.v (.int .u32 a0)] [] [] (fun x H => x = .v (.int .i64 r) ∧ H = []) := by
  unfold math_bits_OnesCount32 at h
  refine FnA.of (N := 21) (pin := []) (rs := [.tmp 2]) Tryd.func71 rfl en71 rfl rfl (by simp) (by simp; try omega) ?_
  simp only [pop8_fold]
  refine awp_reg ftCOk [(0, .v (.int .u32 a0))] [] ?_
  replace h := chk_some h
  obtain ⟨hp0, h⟩ := h
  replace h := chk_some h
  obtain ⟨hp1, h⟩ := h
  replace h := chk_some h
  obtain ⟨hp2, h⟩ := h
  replace h := chk_some h
  obtain ⟨hp3, h⟩ := h
  replace h := chk_some h
  obtain ⟨hp4, h⟩ := h
  refine awp_regQ mixed ftCOk [(2, .v (.int .i64 (IntKind.u8.wrap ((IntKind.u8.wrap ((IntKind.u8.wrap (((Lib.pop8tab.data.toList.getD ((a0.fdiv 16777216).toNat) 0).toNat : Int) + ((Lib.pop8tab.data.toList.getD ((bitsV .and .u32 (a0.fdiv 65536) 255).toNat) 0).toNat : Int))) + ((Lib.pop8tab.data.toList.getD ((bitsV .and .u32 (a0.fdiv 256) 255).toNat) 0).toNat : Int))) + ((Lib.pop8tab.data.toList.getD ((bitsV .and .u32 a0 255).toNat) 0).toNat : Int)))))] [] ?_
  clear hp0 hp1 hp2 hp3 hp4
  refine awp_ret ?_
  (try simp only [Thn, InBlk, ↓reduceIte, Nat.reduceEqDiff])
  obtain rfl := Option.some.inj h
  refine ⟨by simp, _, [], (by simp only [go_sem, Nat.reduceBEq, Nat.reduceLT, Nat.reduceAdd, Nat.reduceLeDiff, Nat.reduceSub, Nat.reduceEqDiff, Int.reduceToNat, reduceCtorEq, ↓reduceIte]; exact rfl), ?_, ?_, ?_, ?_⟩
  · first | exact trivial | exact ⟨trivial, trivial⟩ | exact ⟨trivial, trivial, trivial⟩ | exact ⟨trivial, trivial, trivial, trivial⟩ | (simp only [allP, and_true, true_and]; done) | (simp only [allP, and_true, true_and]; omega)
  · simp [selOk, pos]
  · simp
  · first | exact ⟨rfl, rfl⟩ | (simp only [go_sem, Nat.reduceBEq, Nat.reduceLT, Nat.reduceAdd, Nat.reduceLeDiff, Nat.reduceSub, Nat.reduceEqDiff, Int.reduceToNat, reduceCtorEq, ↓reduceIte]; done) | (simp [go_sem, Nat.reduceBEq, Nat.reduceLT, Nat.reduceAdd, Nat.reduceLeDiff, Nat.reduceSub, Nat.reduceEqDiff, Int.reduceToNat, reduceCtorEq, ↓reduceIte]; done) | (simp only [go_sem, Nat.reduceBEq, Nat.reduceLT, Nat.reduceAdd, Nat.reduceLeDiff, Nat.reduceSub, Nat.reduceEqDiff, Int.reduceToNat, reduceCtorEq, ↓reduceIte]; exact ⟨rfl, rfl⟩) | (simp_all [go_sem, Nat.reduceBEq, Nat.reduceLT, Nat.reduceAdd, Nat.reduceLeDiff, Nat.reduceSub, Nat.reduceEqDiff, Int.reduceToNat, reduceCtorEq, ↓reduceIte]; done)
theorem k_impl_vertexMask_size (a0 : Int) {r : Int} (h : impl_vertexMask_size a0 = some r) :
    FnA Tryd.prog 58 [.v (.int .u32 a0)] [] [] (fun x H => x = .v (.int .i64 r) ∧ H = []) := by
  unfold impl_vertexMask_size at h
  refine FnA.of (N := 5) (pin := []) (rs := [.tmp 2]) Tryd.func58 rfl en58 rfl rfl (by simp) (by simp; try omega) ?_
  refine awp_reg ftCOk [(0, .v (.int .u32 a0))] [] ?_
  replace h := bind_some h
  obtain ⟨y, hr0, h⟩ := h
  try dsimp only at h
  refine awp_to [(2, .v (.int .i64 y))] [] ?_ ?_
  · clear h
    intro K hK
    refine awp_region ftCOk ?_
    simp (maxSteps := 4000000) only [go_sem, Nat.reduceBEq, Nat.reduceLT, Nat.reduceAdd, Nat.reduceLeDiff, Nat.reduceSub, Nat.reduceEqDiff, Int.reduceToNat, reduceCtorEq, ↓reduceIte]
    repeat' (first | refine And.intro ?_ ?_ | intro hg)
    all_goals (try simp (disch := omega) only [wrap_fits])
    all_goals first
      | (refine hK _ _ ?_; exact Red.auto)
      | exact trivial
      | assumption
      | omega
      | exact wrap_fits (by omega) (by omega)
      | (refine wpA_callA (k_math_bits_OnesCount32 a0 (h := hr0)) [] [] ?_
         rintro x Hc' ⟨rfl, rfl⟩ hlen
         refine vcOps_sound ftCOk ?_
         simp (maxSteps := 4000000) only [go_sem, Nat.reduceBEq, Nat.reduceLT, Nat.reduceAdd, Nat.reduceLeDiff, Nat.reduceSub, Nat.reduceEqDiff, Int.reduceToNat, reduceCtorEq, ↓reduceIte]
         repeat' (first | refine And.intro ?_ ?_ | intro hg)
         all_goals (try simp (disch := omega) only [wrap_fits])
         all_goals first
           | (refine hK _ _ ?_; exact Red.auto)
           | exact trivial
           | assumption
           | omega
           | exact wrap_fits (by omega) (by omega)
           | (simp_all; done)
           | (simp_all; omega))
      | (simp_all; done)
      | (simp_all; omega)
  · clear hr0
    refine awp_ret ?_
    (try simp only [Thn, InBlk, ↓reduceIte, Nat.reduceEqDiff])
    obtain rfl := Option.some.inj h
    refine ⟨by simp, _, [], (by simp only [go_sem, Nat.reduceBEq, Nat.reduceLT, Nat.reduceAdd, Nat.reduceLeDiff, Nat.reduceSub, Nat.reduceEqDiff, Int.reduceToNat, reduceCtorEq, ↓reduceIte]; exact rfl), ?_, ?_, ?_, ?_⟩
    · first | exact trivial | exact ⟨trivial, trivial⟩ | exact ⟨trivial, trivial, trivial⟩ | exact ⟨trivial, trivial, trivial, trivial⟩ | (simp only [allP, and_true, true_and]; done) | (simp only [allP, and_true, true_and]; omega)
    · simp [selOk, pos]
    · simp
    · first | exact ⟨rfl, rfl⟩ | (simp only [go_sem, Nat.reduceBEq, Nat.reduceLT, Nat.reduceAdd, Nat.reduceLeDiff, Nat.reduceSub, Nat.reduceEqDiff, Int.reduceToNat, reduceCtorEq, ↓reduceIte]; done) | (simp [go_sem, Nat.reduceBEq, Nat.reduceLT, Nat.reduceAdd, Nat.reduceLeDiff, Nat.reduceSub, Nat.reduceEqDiff, Int.reduceToNat, reduceCtorEq, ↓reduceIte]; done) | (simp only [go_sem, Nat.reduceBEq, Nat.reduceLT, Nat.reduceAdd, Nat.reduceLeDiff, Nat.reduceSub, Nat.reduceEqDiff, Int.reduceToNat, reduceCtorEq, ↓reduceIte]; exact ⟨rfl, rfl⟩) | (simp_all [go_sem, Nat.reduceBEq, Nat.reduceLT, Nat.reduceAdd, Nat.reduceLeDiff, Nat.reduceSub, Nat.reduceEqDiff, Int.reduceToNat, reduceCtorEq, ↓reduceIte]; done)
theorem k_impl_CoresOf (a0_0 : Int) (a0_1 : List (Int × Int × Int)) {r : List Int} (h : impl_CoresOf a0_0 a0_1 = some r) :
    FnA Tryd.prog 31 [.agg [.v (.int .i64 a0_0), .sl 0]] [.row false (.trips a0_1), .glob 0 (.ints .u8 tab0)] [] (fun x H => x = .sl 2 ∧ H = [.row false (.trips a0_1), .glob 0 (.ints .u8 tab0), .row true (.ints .i64 r)]) := by
  unfold impl_CoresOf at h
  refine FnA.of (N := 63) (pin := [0, 1]) (rs := [.tmp 2]) Tryd.func31 rfl en31 rfl rfl (by simp) (by simp; try omega) ?_
  refine awp_reg ftCOk [(1, .pp 2 0)] [.row false (.trips a0_1), .glob 0 (.ints .u8 tab0), .box [.v (.int .i64 a0_0), .sl 0]] ?_
  refine awp_freeze 1 (by rfl) (by rfl) (by exact rfl) ?_
  refine awp_seq fun K2 hK2 => ?_
  replace h := bind_some h
  obtain ⟨y, hr0, h⟩ := h
  try dsimp only at h
  refine awp_to [(1, .pp 2 0), (14, .v (.bool (!y)))] [.row false (.trips a0_1), .glob 0 (.ints .u8 tab0), .rbox [.v (.int .i64 a0_0), .sl 0]] ?_ ?_
  · clear h
    intro K hK
    refine awp_region ftCOk ?_
    simp (maxSteps := 4000000) only [go_sem, Nat.reduceBEq, Nat.reduceLT, Nat.reduceAdd, Nat.reduceLeDiff, Nat.reduceSub, Nat.reduceEqDiff, Int.reduceToNat, reduceCtorEq, ↓reduceIte]
    repeat' (first | refine And.intro ?_ ?_ | intro hg)
    all_goals (try simp (disch := omega) only [wrap_fits])
    all_goals first
      | (refine hK _ _ ?_; exact Red.auto)
      | exact trivial
      | assumption
      | omega
      | exact wrap_fits (by omega) (by omega)
      | (refine wpA_callA (k_impl_GraphValid a0_0 a0_1 (h := hr0)) [0] [] ?_
         rintro x Hc' ⟨rfl, rfl⟩ hlen
         refine vcOps_sound ftCOk ?_
         simp (maxSteps := 4000000) only [go_sem, Nat.reduceBEq, Nat.reduceLT, Nat.reduceAdd, Nat.reduceLeDiff, Nat.reduceSub, Nat.reduceEqDiff, Int.reduceToNat, reduceCtorEq, ↓reduceIte]
         repeat' (first | refine And.intro ?_ ?_ | intro hg)
         all_goals (try simp (disch := omega) only [wrap_fits])
         all_goals first
           | (refine hK _ _ ?_; exact Red.auto)
           | exact trivial
           | assumption
           | omega
           | exact wrap_fits (by omega) (by omega)
           | (simp_all; done)
           | (simp_all; omega))
      | (simp_all; done)
      | (simp_all; omega)
  · clear hr0
    refine awp_cond (t := 14) rfl (fun hc3 => ?_) (fun hc3 => ?_)
    · replace h := bite_t h hc3
      refine awp_reg ftCOk [(2, .v (.slice none 0 0))] [.row false (.trips a0_1), .glob 0 (.ints .u8 tab0), .rbox [.v (.int .i64 a0_0), .sl 0]] ?_
      refine awp_red (Red.nil (t := 2) (.ints .i64 []) rfl rfl) ?_
      refine awp_ret ?_
      (try simp only [Thn, InBlk, ↓reduceIte, Nat.reduceEqDiff])
      obtain rfl := Option.some.inj h
      refine ⟨by simp, _, [0, 1, 3], (by simp only [go_sem, Nat.reduceBEq, Nat.reduceLT, Nat.reduceAdd, Nat.reduceLeDiff, Nat.reduceSub, Nat.reduceEqDiff, Int.reduceToNat, reduceCtorEq, ↓reduceIte]; exact rfl), ?_, ?_, ?_, ?_⟩
      · first | exact trivial | exact ⟨trivial, trivial⟩ | exact ⟨trivial, trivial, trivial⟩ | exact ⟨trivial, trivial, trivial, trivial⟩ | (simp only [allP, and_true, true_and]; done) | (simp only [allP, and_true, true_and]; omega)
      · simp [selOk, pos]
      · simp
      · first | exact ⟨rfl, rfl⟩ | (simp only [go_sem, Nat.reduceBEq, Nat.reduceLT, Nat.reduceAdd, Nat.reduceLeDiff, Nat.reduceSub, Nat.reduceEqDiff, Int.reduceToNat, reduceCtorEq, ↓reduceIte]; done) | (simp [go_sem, Nat.reduceBEq, Nat.reduceLT, Nat.reduceAdd, Nat.reduceLeDiff, Nat.reduceSub, Nat.reduceEqDiff, Int.reduceToNat, reduceCtorEq, ↓reduceIte]; done) | (simp only [go_sem, Nat.reduceBEq, Nat.reduceLT, Nat.reduceAdd, Nat.reduceLeDiff, Nat.reduceSub, Nat.reduceEqDiff, Int.reduceToNat, reduceCtorEq, ↓reduceIte]; exact ⟨rfl, rfl⟩) | (simp_all [go_sem, Nat.reduceBEq, Nat.reduceLT, Nat.reduceAdd, Nat.reduceLeDiff, Nat.reduceSub, Nat.reduceEqDiff, Int.reduceToNat, reduceCtorEq, ↓reduceIte]; done)
    · replace h := bite_f h hc3
      refine awp_skip ?_
      (try simp only [Thn, InBlk, ↓reduceIte, Nat.reduceEqDiff])
      refine hK2 _ _ ?_
      clear hK2
      replace h := bind_some h
      obtain ⟨y_1, hr0, h⟩ := h
      try dsimp only at h
      refine awp_to [(1, .pp 2 0), (3, .sl 3)] [.row false (.trips a0_1), .glob 0 (.ints .u8 tab0), .rbox [.v (.int .i64 a0_0), .sl 0], .row true (.ints .u32 y_1)] ?_ ?_
      · clear h
        intro K hK
        refine awp_region ftCOk ?_
        simp (maxSteps := 4000000) only [go_sem, Nat.reduceBEq, Nat.reduceLT, Nat.reduceAdd, Nat.reduceLeDiff, Nat.reduceSub, Nat.reduceEqDiff, Int.reduceToNat, reduceCtorEq, ↓reduceIte]
        repeat' (first | refine And.intro ?_ ?_ | intro hg)
        all_goals (try simp (disch := omega) only [wrap_fits])
        all_goals first
          | (refine hK _ _ ?_; exact Red.auto)
          | exact trivial
          | assumption
          | omega
          | exact wrap_fits (by omega) (by omega)
          | (refine wpA_callA (k_impl_nearMasks a0_0 a0_1 (h := hr0)) [0] [] ?_
             rintro x Hc' ⟨rfl, rfl⟩ hlen
             refine vcOps_sound ftCOk ?_
             simp (maxSteps := 4000000) only [go_sem, Nat.reduceBEq, Nat.reduceLT, Nat.reduceAdd, Nat.reduceLeDiff, Nat.reduceSub, Nat.reduceEqDiff, Int.reduceToNat, reduceCtorEq, ↓reduceIte]
             repeat' (first | refine And.intro ?_ ?_ | intro hg)
             all_goals (try simp (disch := omega) only [wrap_fits])
             all_goals first
               | (refine hK _ _ ?_; exact Red.auto)
               | exact trivial
               | assumption
               | omega
               | exact wrap_fits (by omega) (by omega)
               | (simp_all; done)
               | (simp_all; omega))
          | (simp_all; done)
          | (simp_all; omega)
      · clear hr0
        replace h := chk_some h
        obtain ⟨hp0, h⟩ := h
        refine awp_reg ftCOk [(1, .pp 2 0), (3, .sl 3), (4, .sl 4)] [.row false (.trips a0_1), .glob 0 (.ints .u8 tab0), .rbox [.v (.int .i64 a0_0), .sl 0], .row true (.ints .u32 y_1), .row true (.ints .i64 (List.replicate a0_0.toNat 0))] ?_
        clear hp0
        replace h := bind_some h
        obtain ⟨y_2, hr0, h⟩ := h
        try dsimp only at h
        refine awp_to [(3, .sl 3), (4, .sl 4), (5, .v (.int .u32 (IntKind.u32.wrap (y_2 - 1))))] [.row false (.trips a0_1), .glob 0 (.ints .u8 tab0), .rbox [.v (.int .i64 a0_0), .sl 0], .row true (.ints .u32 y_1), .row true (.ints .i64 (List.replicate a0_0.toNat 0))] ?_ ?_
        · clear h
          intro K hK
          refine awp_region ftCOk ?_
          simp (maxSteps := 4000000) only [go_sem, Nat.reduceBEq, Nat.reduceLT, Nat.reduceAdd, Nat.reduceLeDiff, Nat.reduceSub, Nat.reduceEqDiff, Int.reduceToNat, reduceCtorEq, ↓reduceIte]
          repeat' (first | refine And.intro ?_ ?_ | intro hg)
          all_goals (try simp (disch := omega) only [wrap_fits])
          all_goals first
            | (refine hK _ _ ?_; exact Red.auto)
            | exact trivial
            | assumption
            | omega
            | exact wrap_fits (by omega) (by omega)
            | (refine wpA_callA (k_impl_maskOf a0_0 (h := hr0)) [] [] ?_
               rintro x Hc' ⟨rfl, rfl⟩ hlen
               refine vcOps_sound ftCOk ?_
               simp (maxSteps := 4000000) only [go_sem, Nat.reduceBEq, Nat.reduceLT, Nat.reduceAdd, Nat.reduceLeDiff, Nat.reduceSub, Nat.reduceEqDiff, Int.reduceToNat, reduceCtorEq, ↓reduceIte]
               repeat' (first | refine And.intro ?_ ?_ | intro hg)
               all_goals (try simp (disch := omega) only [wrap_fits])
               all_goals first
                 | (refine hK _ _ ?_; exact Red.auto)
                 | exact trivial
                 | assumption
                 | omega
                 | exact wrap_fits (by omega) (by omega)
                 | (simp_all; done)
                 | (simp_all; omega))
            | (simp_all; done)
            | (simp_all; omega)
        · clear hr0
          refine awp_seq fun K773 hK773 => ?_
          refine awp_reg ftCOk [(3, .sl 3), (4, .sl 4), (5, .v (.int .u32 (IntKind.u32.wrap (y_2 - 1)))), (6, .v (.int .i64 1))] [.row false (.trips a0_1), .glob 0 (.ints .u8 tab0), .rbox [.v (.int .i64 a0_0), .sl 0], .row true (.ints .u32 y_1), .row true (.ints .i64 (List.replicate a0_0.toNat 0))] ?_
          refine awp_block ?_
          replace h := bind_some h
          obtain ⟨t4s_1, hx, h⟩ := h
          refine awp_loopL hx (fun ((t5, t6, t4s) : Int × Int × List Int) => [(3, .sl 2), (4, .sl 3), (5, .v (.int .u32 t5)), (6, .v (.int .i64 t6))]) (fun ((t5, t6, t4s) : Int × Int × List Int) => [.row false (.trips a0_1), .glob 0 (.ints .u8 tab0), .row true (.ints .u32 y_1), .row true (.ints .i64 t4s)]) (fun (t4s_1 : List Int) => Exit.exit 0) (fun (t4s_1 : List Int) => [(4, .sl 2)]) (fun (t4s_1 : List Int) => [.row false (.trips a0_1), .glob 0 (.ints .u8 tab0), .row true (.ints .i64 t4s_1)]) ?_ ?_ ?_ ?_
          · rintro t4s_1 hy <;> cases hy
          · clear h hx
            exact Red.selA [0, 1, 3, 4] Red.auto
          · clear h hx
            rintro ⟨t5, t6, t4s⟩ r h
            unfold impl_CoresOf_b3 at h
            try dsimp only at h
            try dsimp only
            refine awp_seq fun K1287 hK1287 => ?_
            refine awp_reg ftCOk [(3, .sl 2), (4, .sl 3), (5, .v (.int .u32 t5)), (6, .v (.int .i64 t6)), (25, .v (.bool (t5 != 0)))] [.row false (.trips a0_1), .glob 0 (.ints .u8 tab0), .row true (.ints .u32 y_1), .row true (.ints .i64 t4s)] ?_
            refine awp_cond (t := 25) rfl (fun hc1288 => ?_) (fun hc1288 => ?_)
            · replace h := bite_t h hc1288
              refine awp_skip ?_
              (try simp only [Thn, InBlk, ↓reduceIte, Nat.reduceEqDiff])
              refine hK1287 _ _ ?_
              clear hK1287
              refine awp_seq fun K1415 hK1415 => ?_
              refine awp_block ?_
              refine awp_seq fun K1472 hK1472 => ?_
              refine awp_reg ftCOk [(3, .sl 2), (4, .sl 3), (5, .v (.int .u32 t5)), (6, .v (.int .i64 t6)), (7, .v (.bool true))] [.row false (.trips a0_1), .glob 0 (.ints .u8 tab0), .row true (.ints .u32 y_1), .row true (.ints .i64 t4s)] ?_
              refine awp_block ?_
              replace h := bind_some h
              obtain ⟨t5_2, hx, h⟩ := h
              refine awp_loopL hx (fun ((t5_1, t7) : Int × Bool) => [(3, .sl 2), (4, .sl 3), (5, .v (.int .u32 t5_1)), (6, .v (.int .i64 t6)), (7, .v (.bool t7))]) (fun ((t5_1, t7) : Int × Bool) => [.row false (.trips a0_1), .glob 0 (.ints .u8 tab0), .row true (.ints .u32 y_1), .row true (.ints .i64 t4s)]) (fun (t5_2 : Int) => Exit.exit 2) (fun (t5_2 : Int) => [(3, .sl 2), (4, .sl 3), (5, .v (.int .u32 t5_2)), (6, .v (.int .i64 t6))]) (fun (t5_2 : Int) => [.row false (.trips a0_1), .glob 0 (.ints .u8 tab0), .row true (.ints .u32 y_1), .row true (.ints .i64 t4s)]) ?_ ?_ ?_ ?_
              · rintro t5_2 hy <;> cases hy
              · clear h hx
                exact Red.auto
              · clear h hx
                rintro ⟨t5_1, t7⟩ r h
                unfold impl_CoresOf_b1 at h
                try dsimp only at h
                try dsimp only
                refine awp_seq fun K1510 hK1510 => ?_
                refine awp_reg ftCOk [(3, .sl 2), (4, .sl 3), (5, .v (.int .u32 t5_1)), (6, .v (.int .i64 t6)), (28, .v (.bool t7))] [.row false (.trips a0_1), .glob 0 (.ints .u8 tab0), .row true (.ints .u32 y_1), .row true (.ints .i64 t4s)] ?_
                refine awp_cond (t := 28) rfl (fun hc1511 => ?_) (fun hc1511 => ?_)
                · replace h := bite_t h hc1511
                  refine awp_skip ?_
                  (try simp only [Thn, InBlk, ↓reduceIte, Nat.reduceEqDiff])
                  refine hK1510 _ _ ?_
                  clear hK1510
                  refine awp_block ?_
                  refine awp_reg ftCOk [(3, .sl 2), (4, .sl 3), (5, .v (.int .u32 t5_1)), (6, .v (.int .i64 t6)), (7, .v (.bool false))] [.row false (.trips a0_1), .glob 0 (.ints .u8 tab0), .row true (.ints .u32 y_1), .row true (.ints .i64 t4s)] ?_
                  replace h := bind_some h
                  obtain ⟨y_3, hr0, h⟩ := h
                  try dsimp only at h
                  refine awp_to [(3, .sl 2), (4, .sl 3), (5, .v (.int .u32 t5_1)), (6, .v (.int .i64 t6)), (7, .v (.bool false)), (30, .sl 4), (31, .v (.int .i64 (y_3.length : Int))), (32, .v (.int .i64 0))] [.row false (.trips a0_1), .glob 0 (.ints .u8 tab0), .row true (.ints .u32 y_1), .row true (.ints .i64 t4s), .row true (.ints .i64 y_3)] ?_ ?_
                  · clear h
                    intro K hK
                    refine awp_region ftCOk ?_
                    simp (maxSteps := 4000000) only [go_sem, Nat.reduceBEq, Nat.reduceLT, Nat.reduceAdd, Nat.reduceLeDiff, Nat.reduceSub, Nat.reduceEqDiff, Int.reduceToNat, reduceCtorEq, ↓reduceIte]
                    repeat' (first | refine And.intro ?_ ?_ | intro hg)
                    all_goals (try simp (disch := omega) only [wrap_fits])
                    all_goals first
                      | (refine hK _ _ ?_; exact Red.auto)
                      | exact trivial
                      | assumption
                      | omega
                      | exact wrap_fits (by omega) (by omega)
                      | (refine wpA_callA (k_impl_vertexMask_list t5_1 (h := hr0)) [1] [] ?_
                         rintro x Hc' ⟨rfl, rfl⟩ hlen
                         refine vcOps_sound ftCOk ?_
                         simp (maxSteps := 4000000) only [go_sem, Nat.reduceBEq, Nat.reduceLT, Nat.reduceAdd, Nat.reduceLeDiff, Nat.reduceSub, Nat.reduceEqDiff, Int.reduceToNat, reduceCtorEq, ↓reduceIte]
                         repeat' (first | refine And.intro ?_ ?_ | intro hg)
                         all_goals (try simp (disch := omega) only [wrap_fits])
                         all_goals first
                           | (refine hK _ _ ?_; exact Red.auto)
                           | exact trivial
                           | assumption
                           | omega
                           | exact wrap_fits (by omega) (by omega)
                           | (simp_all; done)
                           | (simp_all; omega))
                      | (simp_all; done)
                      | (simp_all; omega)
                  · clear hr0
                    refine awp_block ?_
                    replace h := bind_some h
                    obtain ⟨x1527, hx, h⟩ := h
                    refine awp_loopL hx (fun ((t5_3, t7_1, t32) : Int × Bool × Int) => [(3, .sl 2), (4, .sl 3), (5, .v (.int .u32 t5_3)), (6, .v (.int .i64 t6)), (7, .v (.bool t7_1)), (30, .sl 4), (31, .v (.int .i64 (y_3.length : Int))), (32, .v (.int .i64 t32))]) (fun ((t5_3, t7_1, t32) : Int × Bool × Int) => [.row false (.trips a0_1), .glob 0 (.ints .u8 tab0), .row true (.ints .u32 y_1), .row true (.ints .i64 t4s), .row true (.ints .i64 y_3)]) (fun ((t5_4, t7_2) : Int × Bool) => Exit.exit 4) (fun ((t5_4, t7_2) : Int × Bool) => [(3, .sl 2), (4, .sl 3), (5, .v (.int .u32 t5_4)), (6, .v (.int .i64 t6)), (7, .v (.bool t7_2))]) (fun ((t5_4, t7_2) : Int × Bool) => [.row false (.trips a0_1), .glob 0 (.ints .u8 tab0), .row true (.ints .u32 y_1), .row true (.ints .i64 t4s)]) ?_ ?_ ?_ ?_
                    · rintro ⟨t5_4, t7_2⟩ hy <;> cases hy
                    · clear h hx
                      exact Red.auto
                    · clear h hx
                      rintro ⟨t5_3, t7_1, t32⟩ r h
                      unfold impl_CoresOf_b0 at h
                      try dsimp only at h
                      try dsimp only
                      refine awp_reg ftCOk [(3, .sl 2), (4, .sl 3), (5, .v (.int .u32 t5_3)), (6, .v (.int .i64 t6)), (7, .v (.bool t7_1)), (30, .sl 4), (31, .v (.int .i64 (y_3.length : Int))), (32, .v (.int .i64 t32)), (33, .v (.bool (decide (t32 < (y_3.length : Int)))))] [.row false (.trips a0_1), .glob 0 (.ints .u8 tab0), .row true (.ints .u32 y_1), .row true (.ints .i64 t4s), .row true (.ints .i64 y_3)] ?_
                      refine awp_seq fun K1523 hK1523 => ?_
                      refine awp_cond (t := 33) rfl (fun hc1524 => ?_) (fun hc1524 => ?_)
                      · replace h := bite_t h hc1524
                        refine awp_skip ?_
                        (try simp only [Thn, InBlk, ↓reduceIte, Nat.reduceEqDiff])
                        refine hK1523 _ _ ?_
                        clear hK1523
                        refine awp_join h (fun ((t5_5, t7_3) : Int × Bool) => [(3, .sl 2), (4, .sl 3), (5, .v (.int .u32 t5_5)), (6, .v (.int .i64 t6)), (7, .v (.bool t7_3)), (30, .sl 4), (31, .v (.int .i64 (y_3.length : Int))), (32, .v (.int .i64 t32))]) (fun ((t5_5, t7_3) : Int × Bool) => [.row false (.trips a0_1), .glob 0 (.ints .u8 tab0), .row true (.ints .u32 y_1), .row true (.ints .i64 t4s), .row true (.ints .i64 y_3)]) ?_ ?_
                        · clear h
                          intro k h
                          try dsimp only at h
                          refine awp_block ?_
                          replace h := chk_some h
                          obtain ⟨hp0, h⟩ := h
                          refine awp_reg ftCOk [(3, .sl 2), (4, .sl 3), (5, .v (.int .u32 t5_3)), (6, .v (.int .i64 t6)), (7, .v (.bool t7_1)), (9, .v (.int .i64 (y_3.getD t32.toNat 0))), (30, .sl 4), (31, .v (.int .i64 (y_3.length : Int))), (32, .v (.int .i64 t32))] [.row false (.trips a0_1), .glob 0 (.ints .u8 tab0), .row true (.ints .u32 y_1), .row true (.ints .i64 t4s), .row true (.ints .i64 y_3)] ?_
                          clear hp0
                          replace h := chk_some h
                          obtain ⟨hp0, h⟩ := h
                          replace h := bind_some h
                          obtain ⟨y_4, hr1, h⟩ := h
                          try dsimp only at h
                          refine awp_to [(3, .sl 2), (4, .sl 3), (5, .v (.int .u32 t5_3)), (6, .v (.int .i64 t6)), (7, .v (.bool t7_1)), (9, .v (.int .i64 (y_3.getD t32.toNat 0))), (30, .sl 4), (31, .v (.int .i64 (y_3.length : Int))), (32, .v (.int .i64 t32)), (44, .v (.bool (decide (y_4 < t6))))] [.row false (.trips a0_1), .glob 0 (.ints .u8 tab0), .row true (.ints .u32 y_1), .row true (.ints .i64 t4s), .row true (.ints .i64 y_3)] ?_ ?_
                          · clear h
                            intro K hK
                            refine awp_region ftCOk ?_
                            simp (maxSteps := 4000000) only [go_sem, Nat.reduceBEq, Nat.reduceLT, Nat.reduceAdd, Nat.reduceLeDiff, Nat.reduceSub, Nat.reduceEqDiff, Int.reduceToNat, reduceCtorEq, ↓reduceIte]
                            repeat' (first | refine And.intro ?_ ?_ | intro hg)
                            all_goals (try simp (disch := omega) only [wrap_fits])
                            all_goals first
                              | (refine hK _ _ ?_; exact Red.auto)
                              | exact trivial
                              | assumption
                              | omega
                              | exact wrap_fits (by omega) (by omega)
                              | (refine wpA_callA (k_impl_vertexMask_size (bitsV .and .u32 (y_1.getD ((y_3.getD t32.toNat 0).toNat) 0) t5_3) (h := hr1)) [] [] ?_
                                 rintro x Hc' ⟨rfl, rfl⟩ hlen
                                 refine vcOps_sound ftCOk ?_
                                 simp (maxSteps := 4000000) only [go_sem, Nat.reduceBEq, Nat.reduceLT, Nat.reduceAdd, Nat.reduceLeDiff, Nat.reduceSub, Nat.reduceEqDiff, Int.reduceToNat, reduceCtorEq, ↓reduceIte]
                                 repeat' (first | refine And.intro ?_ ?_ | intro hg)
                                 all_goals (try simp (disch := omega) only [wrap_fits])
                                 all_goals first
                                   | (refine hK _ _ ?_; exact Red.auto)
                                   | exact trivial
                                   | assumption
                                   | omega
                                   | exact wrap_fits (by omega) (by omega)
                                   | (simp_all; done)
                                   | (simp_all; omega))
                              | (simp_all; done)
                              | (simp_all; omega)
                          · clear hp0 hr1
                            refine awp_cond (t := 44) rfl (fun hc1526 => ?_) (fun hc1526 => ?_)
                            · replace h := bite_t h hc1526
                              replace h := bind_some h
                              obtain ⟨y_5, hr0, h⟩ := h
                              try dsimp only at h
                              refine awp_to [(3, .sl 2), (4, .sl 3), (5, .v (.int .u32 (bitsV .andNot .u32 t5_3 y_5))), (6, .v (.int .i64 t6)), (30, .sl 4), (31, .v (.int .i64 (y_3.length : Int))), (32, .v (.int .i64 t32))] [.row false (.trips a0_1), .glob 0 (.ints .u8 tab0), .row true (.ints .u32 y_1), .row true (.ints .i64 t4s), .row true (.ints .i64 y_3)] ?_ ?_
                              · clear h
                                intro K hK
                                refine awp_region ftCOk ?_
                                simp (maxSteps := 4000000) only [go_sem, Nat.reduceBEq, Nat.reduceLT, Nat.reduceAdd, Nat.reduceLeDiff, Nat.reduceSub, Nat.reduceEqDiff, Int.reduceToNat, reduceCtorEq, ↓reduceIte]
                                repeat' (first | refine And.intro ?_ ?_ | intro hg)
                                all_goals (try simp (disch := omega) only [wrap_fits])
                                all_goals first
                                  | (refine hK _ _ ?_; exact Red.auto)
                                  | exact trivial
                                  | assumption
                                  | omega
                                  | exact wrap_fits (by omega) (by omega)
                                  | (refine wpA_callA (k_impl_maskOf (y_3.getD t32.toNat 0) (h := hr0)) [] [] ?_
                                     rintro x Hc' ⟨rfl, rfl⟩ hlen
                                     refine vcOps_sound ftCOk ?_
                                     simp (maxSteps := 4000000) only [go_sem, Nat.reduceBEq, Nat.reduceLT, Nat.reduceAdd, Nat.reduceLeDiff, Nat.reduceSub, Nat.reduceEqDiff, Int.reduceToNat, reduceCtorEq, ↓reduceIte]
                                     repeat' (first | refine And.intro ?_ ?_ | intro hg)
                                     all_goals (try simp (disch := omega) only [wrap_fits])
                                     all_goals first
                                       | (refine hK _ _ ?_; exact Red.auto)
                                       | exact trivial
                                       | assumption
                                       | omega
                                       | exact wrap_fits (by omega) (by omega)
                                       | (simp_all; done)
                                       | (simp_all; omega))
                                  | (simp_all; done)
                                  | (simp_all; omega)
                              · clear hr0
                                refine awp_regE ftCOk [(3, .sl 2), (4, .sl 3), (5, .v (.int .u32 (bitsV .andNot .u32 t5_3 y_5))), (6, .v (.int .i64 t6)), (7, .v (.bool true)), (30, .sl 4), (31, .v (.int .i64 (y_3.length : Int))), (32, .v (.int .i64 t32))] [.row false (.trips a0_1), .glob 0 (.ints .u8 tab0), .row true (.ints .u32 y_1), .row true (.ints .i64 t4s), .row true (.ints .i64 y_3)] ?_
                                (try simp only [Thn, InBlk, ↓reduceIte, Nat.reduceEqDiff])
                                (try simp only [Thn, InBlk, ↓reduceIte, Nat.reduceEqDiff])
                                refine ⟨_, h, ?_⟩
                                exact Red.auto
                            · replace h := bite_f h hc1526
                              refine awp_skip ?_
                              (try simp only [Thn, InBlk, ↓reduceIte, Nat.reduceEqDiff])
                              (try simp only [Thn, InBlk, ↓reduceIte, Nat.reduceEqDiff])
                              refine ⟨_, h, ?_⟩
                              exact Red.auto
                        · clear h
                          rintro ⟨t5_5, t7_3⟩ h
                          try dsimp only at h
                          try dsimp only
                          replace h := chk_some h
                          obtain ⟨hp0, h⟩ := h
                          refine awp_regE ftCOk [(3, .sl 2), (4, .sl 3), (5, .v (.int .u32 t5_5)), (6, .v (.int .i64 t6)), (7, .v (.bool t7_3)), (30, .sl 4), (31, .v (.int .i64 (y_3.length : Int))), (32, .v (.int .i64 (t32 + 1)))] [.row false (.trips a0_1), .glob 0 (.ints .u8 tab0), .row true (.ints .u32 y_1), .row true (.ints .i64 t4s), .row true (.ints .i64 y_3)] ?_
                          clear hp0
                          obtain rfl := Option.some.inj h
                          refine LoopQ.next ?_
                          exact Red.auto
                      · replace h := bite_f h hc1524
                        refine awp_exit ?_
                        (try simp only [Thn, InBlk, ↓reduceIte, Nat.reduceEqDiff])
                        obtain rfl := Option.some.inj h
                        refine LoopQ.out rfl ?_
                        exact Red.selA [0, 1, 2, 3] Red.auto
                    · clear hx
                      rcases x1527 with ⟨t5_4, t7_2⟩
                      · try dsimp only [Sum.elim_inl, Sum.elim_inr] at h
                        try dsimp only [Sum.elim_inl, Sum.elim_inr]
                        (try simp only [Thn, InBlk, ↓reduceIte, Nat.reduceEqDiff])
                        (try simp only [Thn, InBlk, ↓reduceIte, Nat.reduceEqDiff])
                        (try simp only [Thn, InBlk, ↓reduceIte, Nat.reduceEqDiff])
                        obtain rfl := Option.some.inj h
                        refine LoopQ.next ?_
                        exact Red.auto
                · replace h := bite_f h hc1511
                  refine awp_exit ?_
                  (try simp only [Thn, InBlk, ↓reduceIte, Nat.reduceEqDiff])
                  obtain rfl := Option.some.inj h
                  refine LoopQ.out rfl ?_
                  exact Red.auto
              · clear hx
                skip
                · try dsimp only [Sum.elim_inl, Sum.elim_inr] at h
                  try dsimp only [Sum.elim_inl, Sum.elim_inr]
                  (try simp only [Thn, InBlk, ↓reduceIte, Nat.reduceEqDiff])
                  (try simp only [Thn, InBlk, ↓reduceIte, Nat.reduceEqDiff])
                  (try simp only [Thn, InBlk, ↓reduceIte, Nat.reduceEqDiff])
                  refine hK1472 _ _ ?_
                  clear hK1472
                  replace h := bind_some h
                  obtain ⟨y_6, hr0, h⟩ := h
                  try dsimp only at h
                  refine awp_to [(3, .sl 2), (4, .sl 3), (5, .v (.int .u32 t5_2)), (6, .v (.int .i64 t6)), (51, .sl 4), (52, .v (.int .i64 (y_6.length : Int))), (53, .v (.int .i64 0))] [.row false (.trips a0_1), .glob 0 (.ints .u8 tab0), .row true (.ints .u32 y_1), .row true (.ints .i64 t4s), .row true (.ints .i64 y_6)] ?_ ?_
                  · clear h
                    intro K hK
                    refine awp_region ftCOk ?_
                    simp (maxSteps := 4000000) only [go_sem, Nat.reduceBEq, Nat.reduceLT, Nat.reduceAdd, Nat.reduceLeDiff, Nat.reduceSub, Nat.reduceEqDiff, Int.reduceToNat, reduceCtorEq, ↓reduceIte]
                    repeat' (first | refine And.intro ?_ ?_ | intro hg)
                    all_goals (try simp (disch := omega) only [wrap_fits])
                    all_goals first
                      | (refine hK _ _ ?_; exact Red.auto)
                      | exact trivial
                      | assumption
                      | omega
                      | exact wrap_fits (by omega) (by omega)
                      | (refine wpA_callA (k_impl_vertexMask_list t5_2 (h := hr0)) [1] [] ?_
                         rintro x Hc' ⟨rfl, rfl⟩ hlen
                         refine vcOps_sound ftCOk ?_
                         simp (maxSteps := 4000000) only [go_sem, Nat.reduceBEq, Nat.reduceLT, Nat.reduceAdd, Nat.reduceLeDiff, Nat.reduceSub, Nat.reduceEqDiff, Int.reduceToNat, reduceCtorEq, ↓reduceIte]
                         repeat' (first | refine And.intro ?_ ?_ | intro hg)
                         all_goals (try simp (disch := omega) only [wrap_fits])
                         all_goals first
                           | (refine hK _ _ ?_; exact Red.auto)
                           | exact trivial
                           | assumption
                           | omega
                           | exact wrap_fits (by omega) (by omega)
                           | (simp_all; done)
                           | (simp_all; omega))
                      | (simp_all; done)
                      | (simp_all; omega)
                  · clear hr0
                    refine awp_block ?_
                    replace h := bind_some h
                    obtain ⟨t4s_3, hx, h⟩ := h
                    refine awp_loopL hx (fun ((t53, t4s_2) : Int × List Int) => [(3, .sl 2), (4, .sl 3), (5, .v (.int .u32 t5_2)), (6, .v (.int .i64 t6)), (51, .sl 4), (52, .v (.int .i64 (y_6.length : Int))), (53, .v (.int .i64 t53))]) (fun ((t53, t4s_2) : Int × List Int) => [.row false (.trips a0_1), .glob 0 (.ints .u8 tab0), .row true (.ints .u32 y_1), .row true (.ints .i64 t4s_2), .row true (.ints .i64 y_6)]) (fun (t4s_3 : List Int) => Exit.exit 6) (fun (t4s_3 : List Int) => [(3, .sl 2), (4, .sl 3), (5, .v (.int .u32 t5_2)), (6, .v (.int .i64 t6))]) (fun (t4s_3 : List Int) => [.row false (.trips a0_1), .glob 0 (.ints .u8 tab0), .row true (.ints .u32 y_1), .row true (.ints .i64 t4s_3)]) ?_ ?_ ?_ ?_
                    · rintro t4s_3 hy <;> cases hy
                    · clear h hx
                      exact Red.auto
                    · clear h hx
                      rintro ⟨t53, t4s_2⟩ r h
                      unfold impl_CoresOf_b2 at h
                      try dsimp only at h
                      try dsimp only
                      refine awp_reg ftCOk [(3, .sl 2), (4, .sl 3), (5, .v (.int .u32 t5_2)), (6, .v (.int .i64 t6)), (51, .sl 4), (52, .v (.int .i64 (y_6.length : Int))), (53, .v (.int .i64 t53)), (54, .v (.bool (decide (t53 < (y_6.length : Int)))))] [.row false (.trips a0_1), .glob 0 (.ints .u8 tab0), .row true (.ints .u32 y_1), .row true (.ints .i64 t4s_2), .row true (.ints .i64 y_6)] ?_
                      refine awp_seq fun K1538 hK1538 => ?_
                      refine awp_cond (t := 54) rfl (fun hc1539 => ?_) (fun hc1539 => ?_)
                      · replace h := bite_t h hc1539
                        refine awp_skip ?_
                        (try simp only [Thn, InBlk, ↓reduceIte, Nat.reduceEqDiff])
                        refine hK1538 _ _ ?_
                        clear hK1538
                        refine awp_seq fun K1540 hK1540 => ?_
                        refine awp_block ?_
                        replace h := chk_some h
                        obtain ⟨hp0, h⟩ := h
                        refine awp_reg ftCOk [(3, .sl 2), (4, .sl 3), (5, .v (.int .u32 t5_2)), (6, .v (.int .i64 t6)), (11, .v (.int .i64 (y_6.getD t53.toNat 0))), (51, .sl 4), (52, .v (.int .i64 (y_6.length : Int))), (53, .v (.int .i64 t53))] [.row false (.trips a0_1), .glob 0 (.ints .u8 tab0), .row true (.ints .u32 y_1), .row true (.ints .i64 t4s_2), .row true (.ints .i64 y_6)] ?_
                        clear hp0
                        replace h := chk_some h
                        obtain ⟨hp0, h⟩ := h
                        refine awp_regE ftCOk [(3, .sl 2), (4, .sl 3), (5, .v (.int .u32 t5_2)), (6, .v (.int .i64 t6)), (51, .sl 4), (52, .v (.int .i64 (y_6.length : Int))), (53, .v (.int .i64 t53))] [.row false (.trips a0_1), .glob 0 (.ints .u8 tab0), .row true (.ints .u32 y_1), .row true (.ints .i64 (t4s_2.set ((y_6.getD t53.toNat 0).toNat) t6)), .row true (.ints .i64 y_6)] ?_
                        clear hp0
                        (try simp only [Thn, InBlk, ↓reduceIte, Nat.reduceEqDiff])
                        (try simp only [Thn, InBlk, ↓reduceIte, Nat.reduceEqDiff])
                        refine hK1540 _ _ ?_
                        clear hK1540
                        replace h := chk_some h
                        obtain ⟨hp0, h⟩ := h
                        refine awp_regE ftCOk [(3, .sl 2), (4, .sl 3), (5, .v (.int .u32 t5_2)), (6, .v (.int .i64 t6)), (51, .sl 4), (52, .v (.int .i64 (y_6.length : Int))), (53, .v (.int .i64 (t53 + 1)))] [.row false (.trips a0_1), .glob 0 (.ints .u8 tab0), .row true (.ints .u32 y_1), .row true (.ints .i64 (t4s_2.set ((y_6.getD t53.toNat 0).toNat) t6)), .row true (.ints .i64 y_6)] ?_
                        clear hp0
                        obtain rfl := Option.some.inj h
                        refine LoopQ.next ?_
                        exact Red.auto
                      · replace h := bite_f h hc1539
                        refine awp_exit ?_
                        (try simp only [Thn, InBlk, ↓reduceIte, Nat.reduceEqDiff])
                        obtain rfl := Option.some.inj h
                        refine LoopQ.out rfl ?_
                        exact Red.selA [0, 1, 2, 3] Red.auto
                    · clear hx
                      skip
                      · try dsimp only [Sum.elim_inl, Sum.elim_inr] at h
                        try dsimp only [Sum.elim_inl, Sum.elim_inr]
                        (try simp only [Thn, InBlk, ↓reduceIte, Nat.reduceEqDiff])
                        (try simp only [Thn, InBlk, ↓reduceIte, Nat.reduceEqDiff])
                        (try simp only [Thn, InBlk, ↓reduceIte, Nat.reduceEqDiff])
                        (try simp only [Thn, InBlk, ↓reduceIte, Nat.reduceEqDiff])
                        refine hK1415 _ _ ?_
                        clear hK1415
                        replace h := chk_some h
                        obtain ⟨hp0, h⟩ := h
                        refine awp_regE ftCOk [(3, .sl 2), (4, .sl 3), (5, .v (.int .u32 t5_2)), (6, .v (.int .i64 (t6 + 1)))] [.row false (.trips a0_1), .glob 0 (.ints .u8 tab0), .row true (.ints .u32 y_1), .row true (.ints .i64 t4s_3)] ?_
                        clear hp0
                        obtain rfl := Option.some.inj h
                        refine LoopQ.next ?_
                        exact Red.auto
            · replace h := bite_f h hc1288
              refine awp_exit ?_
              (try simp only [Thn, InBlk, ↓reduceIte, Nat.reduceEqDiff])
              obtain rfl := Option.some.inj h
              refine LoopQ.out rfl ?_
              exact Red.selA [0, 1, 3] Red.auto
          · clear hx
            skip
            · try dsimp only [Sum.elim_inl, Sum.elim_inr] at h
              try dsimp only [Sum.elim_inl, Sum.elim_inr]
              (try simp only [Thn, InBlk, ↓reduceIte, Nat.reduceEqDiff])
              (try simp only [Thn, InBlk, ↓reduceIte, Nat.reduceEqDiff])
              (try simp only [Thn, InBlk, ↓reduceIte, Nat.reduceEqDiff])
              refine hK773 _ _ ?_
              clear hK773
              refine awp_reg ftCOk [(2, .sl 2)] [.row false (.trips a0_1), .glob 0 (.ints .u8 tab0), .row true (.ints .i64 t4s_1)] ?_
              refine awp_ret ?_
              (try simp only [Thn, InBlk, ↓reduceIte, Nat.reduceEqDiff])
              obtain rfl := Option.some.inj h
              refine ⟨by simp, _, [0, 1, 2], (by simp only [go_sem, Nat.reduceBEq, Nat.reduceLT, Nat.reduceAdd, Nat.reduceLeDiff, Nat.reduceSub, Nat.reduceEqDiff, Int.reduceToNat, reduceCtorEq, ↓reduceIte]; exact rfl), ?_, ?_, ?_, ?_⟩
              · first | exact trivial | exact ⟨trivial, trivial⟩ | exact ⟨trivial, trivial, trivial⟩ | exact ⟨trivial, trivial, trivial, trivial⟩ | (simp only [allP, and_true, true_and]; done) | (simp only [allP, and_true, true_and]; omega)
              · simp [selOk, pos]
              · simp
              · first | exact ⟨rfl, rfl⟩ | (simp only [go_sem, Nat.reduceBEq, Nat.reduceLT, Nat.reduceAdd, Nat.reduceLeDiff, Nat.reduceSub, Nat.reduceEqDiff, Int.reduceToNat, reduceCtorEq, ↓reduceIte]; done) | (simp [go_sem, Nat.reduceBEq, Nat.reduceLT, Nat.reduceAdd, Nat.reduceLeDiff, Nat.reduceSub, Nat.reduceEqDiff, Int.reduceToNat, reduceCtorEq, ↓reduceIte]; done) | (simp only [go_sem, Nat.reduceBEq, Nat.reduceLT, Nat.reduceAdd, Nat.reduceLeDiff, Nat.reduceSub, Nat.reduceEqDiff, Int.reduceToNat, reduceCtorEq, ↓reduceIte]; exact ⟨rfl, rfl⟩) | (simp_all [go_sem, Nat.reduceBEq, Nat.reduceLT, Nat.reduceAdd, Nat.reduceLeDiff, Nat.reduceSub, Nat.reduceEqDiff, Int.reduceToNat, reduceCtorEq, ↓reduceIte]; done)
theorem k_spec_l8Fill (a0 : Int) (a1 : Int) {r : List Int} (h : spec_l8Fill a0 a1 = some r) :
    FnA Tryd.prog 50 [.v (.int .i64 a0), .v (.int .i64 a1)] [] [] (fun x H => x = .sl 0 ∧ H = [.row true (.ints .i64 r)]) := by
  unfold spec_l8Fill at h
  refine FnA.of (N := 18) (pin := []) (rs := [.tmp 4]) Tryd.func50 rfl en50 rfl rfl (by simp) (by simp; try omega) ?_
  refine awp_reg ftCOk [(0, .v (.int .i64 a0)), (1, .v (.int .i64 a1))] [] ?_
  refine awp_reg ftCOk [(0, .v (.int .i64 a0)), (1, .v (.int .i64 a1)), (5, .sl 0)] [.row true (.ints .i64 [])] ?_
  refine awp_seq fun K14 hK14 => ?_
  refine awp_reg ftCOk [(0, .v (.int .i64 a0)), (1, .v (.int .i64 a1)), (5, .sl 0), (6, .v (.int .i64 0))] [.row true (.ints .i64 [])] ?_
  refine awp_block ?_
  replace h := bind_some h
  obtain ⟨t5s_1, hx, h⟩ := h
  refine awp_loopL hx (fun ((t6, t5s) : Int × List Int) => [(0, .v (.int .i64 a0)), (1, .v (.int .i64 a1)), (5, .sl 0), (6, .v (.int .i64 t6))]) (fun ((t6, t5s) : Int × List Int) => [.row true (.ints .i64 t5s)]) (fun (t5s_1 : List Int) => Exit.exit 0) (fun (t5s_1 : List Int) => [(5, .sl 0)]) (fun (t5s_1 : List Int) => [.row true (.ints .i64 t5s_1)]) ?_ ?_ ?_ ?_
  · rintro t5s_1 hy <;> cases hy
  · clear h hx
    exact Red.auto
  · clear h hx
    rintro ⟨t6, t5s⟩ r h
    unfold spec_l8Fill_b0 at h
    try dsimp only at h
    try dsimp only
    refine awp_seq fun K24 hK24 => ?_
    refine awp_reg ftCOk [(0, .v (.int .i64 a0)), (1, .v (.int .i64 a1)), (5, .sl 0), (6, .v (.int .i64 t6)), (10, .v (.bool (decide (t6 < a0))))] [.row true (.ints .i64 t5s)] ?_
    refine awp_cond (t := 10) rfl (fun hc25 => ?_) (fun hc25 => ?_)
    · replace h := bite_t h hc25
      refine awp_skip ?_
      (try simp only [Thn, InBlk, ↓reduceIte, Nat.reduceEqDiff])
      refine hK24 _ _ ?_
      clear hK24
      refine awp_seq fun K26 hK26 => ?_
      refine awp_block ?_
      replace h := chk_some h
      obtain ⟨hp0, h⟩ := h
      refine awp_regE ftCOk [(0, .v (.int .i64 a0)), (1, .v (.int .i64 a1)), (5, .sl 0), (6, .v (.int .i64 t6))] [.row true (.ints .i64 (t5s ++ [a1])), .row true (.ints .i64 [a1])] ?_
      clear hp0
      (try simp only [Thn, InBlk, ↓reduceIte, Nat.reduceEqDiff])
      (try simp only [Thn, InBlk, ↓reduceIte, Nat.reduceEqDiff])
      refine hK26 _ _ ?_
      clear hK26
      replace h := chk_some h
      obtain ⟨hp0, h⟩ := h
      refine awp_regE ftCOk [(0, .v (.int .i64 a0)), (1, .v (.int .i64 a1)), (5, .sl 0), (6, .v (.int .i64 (t6 + 1)))] [.row true (.ints .i64 (t5s ++ [a1])), .row true (.ints .i64 [a1])] ?_
      clear hp0
      obtain rfl := Option.some.inj h
      refine LoopQ.next ?_
      exact Red.selA [0] Red.auto
    · replace h := bite_f h hc25
      refine awp_exit ?_
      (try simp only [Thn, InBlk, ↓reduceIte, Nat.reduceEqDiff])
      obtain rfl := Option.some.inj h
      refine LoopQ.out rfl ?_
      exact Red.auto
  · clear hx
    skip
    · try dsimp only [Sum.elim_inl, Sum.elim_inr] at h
      try dsimp only [Sum.elim_inl, Sum.elim_inr]
      (try simp only [Thn, InBlk, ↓reduceIte, Nat.reduceEqDiff])
      (try simp only [Thn, InBlk, ↓reduceIte, Nat.reduceEqDiff])
      (try simp only [Thn, InBlk, ↓reduceIte, Nat.reduceEqDiff])
      refine hK14 _ _ ?_
      clear hK14
      refine awp_reg ftCOk [(4, .sl 0)] [.row true (.ints .i64 t5s_1)] ?_
      refine awp_ret ?_
      (try simp only [Thn, InBlk, ↓reduceIte, Nat.reduceEqDiff])
      obtain rfl := Option.some.inj h
      refine ⟨by simp, _, [0], (by simp only [go_sem, Nat.reduceBEq, Nat.reduceLT, Nat.reduceAdd, Nat.reduceLeDiff, Nat.reduceSub, Nat.reduceEqDiff, Int.reduceToNat, reduceCtorEq, ↓reduceIte]; exact rfl), ?_, ?_, ?_, ?_⟩
      · first | exact trivial | exact ⟨trivial, trivial⟩ | exact ⟨trivial, trivial, trivial⟩ | exact ⟨trivial, trivial, trivial, trivial⟩ | (simp only [allP, and_true, true_and]; done) | (simp only [allP, and_true, true_and]; omega)
      · simp [selOk, pos]
      · simp
      · first | exact ⟨rfl, rfl⟩ | (simp only [go_sem, Nat.reduceBEq, Nat.reduceLT, Nat.reduceAdd, Nat.reduceLeDiff, Nat.reduceSub, Nat.reduceEqDiff, Int.reduceToNat, reduceCtorEq, ↓reduceIte]; done) | (simp [go_sem, Nat.reduceBEq, Nat.reduceLT, Nat.reduceAdd, Nat.reduceLeDiff, Nat.reduceSub, Nat.reduceEqDiff, Int.reduceToNat, reduceCtorEq, ↓reduceIte]; done) | (simp only [go_sem, Nat.reduceBEq, Nat.reduceLT, Nat.reduceAdd, Nat.reduceLeDiff, Nat.reduceSub, Nat.reduceEqDiff, Int.reduceToNat, reduceCtorEq, ↓reduceIte]; exact ⟨rfl, rfl⟩) | (simp_all [go_sem, Nat.reduceBEq, Nat.reduceLT, Nat.reduceAdd, Nat.reduceLeDiff, Nat.reduceSub, Nat.reduceEqDiff, Int.reduceToNat, reduceCtorEq, ↓reduceIte]; done)
theorem k_spec_NearOf (a0_0 : Int) (a0_1 : List (Int × Int × Int)) (a1 : Int) {r : List Int} (h : spec_NearOf a0_0 a0_1 a1 = some r) :
    FnA Tryd.prog 19 [.agg [.v (.int .i64 a0_0), .sl 0], .v (.int .i64 a1)] [.row false (.trips a0_1)] [] (fun x H => x = .sl 1 ∧ H = [.row false (.trips a0_1), .row true (.ints .i64 r)]) := by
  unfold spec_NearOf at h
  refine FnA.of (N := 64) (pin := [0]) (rs := [.tmp 4]) Tryd.func19 rfl en19 rfl rfl (by simp) (by simp; try omega) ?_
  refine awp_reg ftCOk [(1, .v (.int .i64 a1)), (2, .pp 1 0)] [.row false (.trips a0_1), .box [.v (.int .i64 a0_0), .sl 0]] ?_
  refine awp_freeze 2 (by rfl) (by rfl) (by exact rfl) ?_
  refine awp_reg ftCOk [(1, .v (.int .i64 a1)), (2, .pp 1 0), (5, .sl 2)] [.row false (.trips a0_1), .rbox [.v (.int .i64 a0_0), .sl 0], .row true (.ints .i64 [])] ?_
  refine awp_seq fun K179 hK179 => ?_
  refine awp_reg ftCOk [(1, .v (.int .i64 a1)), (2, .pp 1 0), (5, .sl 2), (6, .v (.int .i64 0))] [.row false (.trips a0_1), .rbox [.v (.int .i64 a0_0), .sl 0], .row true (.ints .i64 [])] ?_
  refine awp_block ?_
  replace h := bind_some h
  obtain ⟨t5s_1, hx, h⟩ := h
  refine awp_loopL hx (fun ((t6, t5s) : Int × List Int) => [(1, .v (.int .i64 a1)), (2, .pp 1 0), (5, .sl 2), (6, .v (.int .i64 t6))]) (fun ((t6, t5s) : Int × List Int) => [.row false (.trips a0_1), .rbox [.v (.int .i64 a0_0), .sl 0], .row true (.ints .i64 t5s)]) (fun (t5s_1 : List Int) => Exit.exit 0) (fun (t5s_1 : List Int) => [(5, .sl 1)]) (fun (t5s_1 : List Int) => [.row false (.trips a0_1), .row true (.ints .i64 t5s_1)]) ?_ ?_ ?_ ?_
  · rintro t5s_1 hy <;> cases hy
  · clear h hx
    exact Red.auto
  · clear h hx
    rintro ⟨t6, t5s⟩ r h
    unfold spec_NearOf_b1 at h
    try dsimp only at h
    try dsimp only
    refine awp_seq fun K299 hK299 => ?_
    replace h := bind_some h
    obtain ⟨y, hr0, h⟩ := h
    try dsimp only at h
    refine awp_to [(1, .v (.int .i64 a1)), (2, .pp 1 0), (5, .sl 2), (6, .v (.int .i64 t6)), (18, .v (.bool ((decide (t6 < a0_0)) && y)))] [.row false (.trips a0_1), .rbox [.v (.int .i64 a0_0), .sl 0], .row true (.ints .i64 t5s)] ?_ ?_
    · clear h
      intro K hK
      refine awp_region ftCOk ?_
      simp (maxSteps := 4000000) only [go_sem, Nat.reduceBEq, Nat.reduceLT, Nat.reduceAdd, Nat.reduceLeDiff, Nat.reduceSub, Nat.reduceEqDiff, Int.reduceToNat, reduceCtorEq, ↓reduceIte]
      repeat' (first | refine And.intro ?_ ?_ | intro hg)
      all_goals (try simp (disch := omega) only [wrap_fits])
      all_goals first
        | (refine hK _ _ ?_; exact Red.auto)
        | exact trivial
        | assumption
        | omega
        | exact wrap_fits (by omega) (by omega)
        | (refine wpA_guard rfl rfl ?_
           refine wpA_callA (k_spec_GraphValid a0_0 a0_1 (h := (bite_t hr0 (by first | assumption | (simp only [*, Bool.false_or, Bool.true_or, Bool.or_false, Bool.or_true, Bool.false_and, Bool.true_and, Bool.and_false, Bool.and_true, Bool.not_true, Bool.not_false, beq_self_eq_true]; done) | (simp_all; done))))) [0] [] ?_
           rintro x Hc' ⟨rfl, rfl⟩ hlen
           refine vcOps_sound ftCOk ?_
           simp (maxSteps := 4000000) only [go_sem, Nat.reduceBEq, Nat.reduceLT, Nat.reduceAdd, Nat.reduceLeDiff, Nat.reduceSub, Nat.reduceEqDiff, Int.reduceToNat, reduceCtorEq, ↓reduceIte]
           repeat' (first | refine And.intro ?_ ?_ | intro hg)
           all_goals (try simp (disch := omega) only [wrap_fits])
           all_goals first
             | (refine hK _ _ ?_; exact Red.auto)
             | exact trivial
             | assumption
             | omega
             | exact wrap_fits (by omega) (by omega)
             | (simp_all; done)
             | (simp_all; omega))
        | (simp_all; done)
        | (simp_all; omega)
    · clear hr0
      refine awp_cond (t := 18) rfl (fun hc300 => ?_) (fun hc300 => ?_)
      · replace h := bite_t h hc300
        refine awp_skip ?_
        (try simp only [Thn, InBlk, ↓reduceIte, Nat.reduceEqDiff])
        refine hK299 _ _ ?_
        clear hK299
        refine awp_join h (fun (t5s_2 : List Int) => [(1, .v (.int .i64 a1)), (2, .pp 1 0), (5, .sl 2), (6, .v (.int .i64 t6))]) (fun (t5s_2 : List Int) => [.row false (.trips a0_1), .rbox [.v (.int .i64 a0_0), .sl 0], .row true (.ints .i64 t5s_2)]) ?_ ?_
        · clear h
          intro k h
          try dsimp only at h
          refine awp_block ?_
          refine awp_reg ftCOk [(1, .v (.int .i64 a1)), (2, .pp 1 0), (5, .sl 2), (6, .v (.int .i64 t6)), (7, .v (.bool false))] [.row false (.trips a0_1), .rbox [.v (.int .i64 a0_0), .sl 0], .row true (.ints .i64 t5s)] ?_
          refine awp_seq fun K342 hK342 => ?_
          refine awp_reg ftCOk [(1, .v (.int .i64 a1)), (2, .pp 1 0), (5, .sl 2), (6, .v (.int .i64 t6)), (7, .v (.bool false)), (8, .v (.int .i64 0))] [.row false (.trips a0_1), .rbox [.v (.int .i64 a0_0), .sl 0], .row true (.ints .i64 t5s)] ?_
          refine awp_block ?_
          replace h := bind_some h
          obtain ⟨t7_1, hx, h⟩ := h
          refine awp_loopL hx (fun ((t7, t8) : Bool × Int) => [(1, .v (.int .i64 a1)), (2, .pp 1 0), (5, .sl 2), (6, .v (.int .i64 t6)), (7, .v (.bool t7)), (8, .v (.int .i64 t8))]) (fun ((t7, t8) : Bool × Int) => [.row false (.trips a0_1), .rbox [.v (.int .i64 a0_0), .sl 0], .row true (.ints .i64 t5s)]) (fun (t7_1 : Bool) => Exit.exit 2) (fun (t7_1 : Bool) => [(1, .v (.int .i64 a1)), (2, .pp 1 0), (5, .sl 2), (6, .v (.int .i64 t6)), (7, .v (.bool t7_1))]) (fun (t7_1 : Bool) => [.row false (.trips a0_1), .rbox [.v (.int .i64 a0_0), .sl 0], .row true (.ints .i64 t5s)]) ?_ ?_ ?_ ?_
          · rintro t7_1 hy <;> cases hy
          · clear h hx
            exact Red.auto
          · clear h hx
            rintro ⟨t7, t8⟩ r h
            unfold spec_NearOf_b0 at h
            try dsimp only at h
            try dsimp only
            refine awp_seq fun K352 hK352 => ?_
            refine awp_reg ftCOk [(1, .v (.int .i64 a1)), (2, .pp 1 0), (5, .sl 2), (6, .v (.int .i64 t6)), (7, .v (.bool t7)), (8, .v (.int .i64 t8)), (25, .v (.bool (decide (t8 < (a0_1.length : Int)))))] [.row false (.trips a0_1), .rbox [.v (.int .i64 a0_0), .sl 0], .row true (.ints .i64 t5s)] ?_
            refine awp_cond (t := 25) rfl (fun hc353 => ?_) (fun hc353 => ?_)
            · replace h := bite_t h hc353
              refine awp_skip ?_
              (try simp only [Thn, InBlk, ↓reduceIte, Nat.reduceEqDiff])
              refine hK352 _ _ ?_
              clear hK352
              refine awp_seq fun K354 hK354 => ?_
              refine awp_block ?_
              replace h := chk_some h
              obtain ⟨hp0, h⟩ := h
              refine awp_reg ftCOk [(1, .v (.int .i64 a1)), (2, .pp 1 0), (5, .sl 2), (6, .v (.int .i64 t6)), (7, .v (.bool t7)), (8, .v (.int .i64 t8)), (9, .pp 3 0)] [.row false (.trips a0_1), .rbox [.v (.int .i64 a0_0), .sl 0], .row true (.ints .i64 t5s), .box [.v (.int .i64 ((a0_1.getD t8.toNat (0, 0, 0)).1)), .v (.int .i64 ((a0_1.getD t8.toNat (0, 0, 0)).2.1)), .v (.int .i64 ((a0_1.getD t8.toNat (0, 0, 0)).2.2))]] ?_
              clear hp0
              refine awp_regE ftCOk [(1, .v (.int .i64 a1)), (2, .pp 1 0), (5, .sl 2), (6, .v (.int .i64 t6)), (7, .v (.bool ((t7 || (((a0_1.getD t8.toNat (0, 0, 0)).1 == a1) && ((a0_1.getD t8.toNat (0, 0, 0)).2.1 == t6))) || (((a0_1.getD t8.toNat (0, 0, 0)).1 == t6) && ((a0_1.getD t8.toNat (0, 0, 0)).2.1 == a1))))), (8, .v (.int .i64 t8))] [.row false (.trips a0_1), .rbox [.v (.int .i64 a0_0), .sl 0], .row true (.ints .i64 t5s), .box [.v (.int .i64 ((a0_1.getD t8.toNat (0, 0, 0)).1)), .v (.int .i64 ((a0_1.getD t8.toNat (0, 0, 0)).2.1)), .v (.int .i64 ((a0_1.getD t8.toNat (0, 0, 0)).2.2))]] ?_
              (try simp only [Thn, InBlk, ↓reduceIte, Nat.reduceEqDiff])
              (try simp only [Thn, InBlk, ↓reduceIte, Nat.reduceEqDiff])
              refine hK354 _ _ ?_
              clear hK354
              replace h := chk_some h
              obtain ⟨hp0, h⟩ := h
              refine awp_regE ftCOk [(1, .v (.int .i64 a1)), (2, .pp 1 0), (5, .sl 2), (6, .v (.int .i64 t6)), (7, .v (.bool ((t7 || (((a0_1.getD t8.toNat (0, 0, 0)).1 == a1) && ((a0_1.getD t8.toNat (0, 0, 0)).2.1 == t6))) || (((a0_1.getD t8.toNat (0, 0, 0)).1 == t6) && ((a0_1.getD t8.toNat (0, 0, 0)).2.1 == a1))))), (8, .v (.int .i64 (t8 + 1)))] [.row false (.trips a0_1), .rbox [.v (.int .i64 a0_0), .sl 0], .row true (.ints .i64 t5s), .box [.v (.int .i64 ((a0_1.getD t8.toNat (0, 0, 0)).1)), .v (.int .i64 ((a0_1.getD t8.toNat (0, 0, 0)).2.1)), .v (.int .i64 ((a0_1.getD t8.toNat (0, 0, 0)).2.2))]] ?_
              clear hp0
              obtain rfl := Option.some.inj h
              refine LoopQ.next ?_
              exact Red.selA [0, 1, 2] Red.auto
            · replace h := bite_f h hc353
              refine awp_exit ?_
              (try simp only [Thn, InBlk, ↓reduceIte, Nat.reduceEqDiff])
              obtain rfl := Option.some.inj h
              refine LoopQ.out rfl ?_
              exact Red.auto
          · clear hx
            skip
            · try dsimp only [Sum.elim_inl, Sum.elim_inr] at h
              try dsimp only [Sum.elim_inl, Sum.elim_inr]
              (try simp only [Thn, InBlk, ↓reduceIte, Nat.reduceEqDiff])
              (try simp only [Thn, InBlk, ↓reduceIte, Nat.reduceEqDiff])
              (try simp only [Thn, InBlk, ↓reduceIte, Nat.reduceEqDiff])
              refine hK342 _ _ ?_
              clear hK342
              refine awp_reg ftCOk [(1, .v (.int .i64 a1)), (2, .pp 1 0), (5, .sl 2), (6, .v (.int .i64 t6)), (58, .v (.bool t7_1))] [.row false (.trips a0_1), .rbox [.v (.int .i64 a0_0), .sl 0], .row true (.ints .i64 t5s)] ?_
              refine awp_cond (t := 58) rfl (fun hc356 => ?_) (fun hc356 => ?_)
              · replace h := bite_t h hc356
                replace h := chk_some h
                obtain ⟨hp0, h⟩ := h
                refine awp_regE ftCOk [(1, .v (.int .i64 a1)), (2, .pp 1 0), (5, .sl 2), (6, .v (.int .i64 t6))] [.row false (.trips a0_1), .rbox [.v (.int .i64 a0_0), .sl 0], .row true (.ints .i64 (t5s ++ [t6])), .row true (.ints .i64 [t6])] ?_
                clear hp0
                (try simp only [Thn, InBlk, ↓reduceIte, Nat.reduceEqDiff])
                (try simp only [Thn, InBlk, ↓reduceIte, Nat.reduceEqDiff])
                refine ⟨_, h, ?_⟩
                exact Red.selA [0, 1, 2] Red.auto
              · replace h := bite_f h hc356
                refine awp_skip ?_
                (try simp only [Thn, InBlk, ↓reduceIte, Nat.reduceEqDiff])
                (try simp only [Thn, InBlk, ↓reduceIte, Nat.reduceEqDiff])
                refine ⟨_, h, ?_⟩
                exact Red.auto
        · clear h
          rintro t5s_2 h
          try dsimp only at h
          try dsimp only
          replace h := chk_some h
          obtain ⟨hp0, h⟩ := h
          refine awp_regE ftCOk [(1, .v (.int .i64 a1)), (2, .pp 1 0), (5, .sl 2), (6, .v (.int .i64 (t6 + 1)))] [.row false (.trips a0_1), .rbox [.v (.int .i64 a0_0), .sl 0], .row true (.ints .i64 t5s_2)] ?_
          clear hp0
          obtain rfl := Option.some.inj h
          refine LoopQ.next ?_
          exact Red.auto
      · replace h := bite_f h hc300
        refine awp_exit ?_
        (try simp only [Thn, InBlk, ↓reduceIte, Nat.reduceEqDiff])
        obtain rfl := Option.some.inj h
        refine LoopQ.out rfl ?_
        exact Red.selA [0, 2] Red.auto
  · clear hx
    skip
    · try dsimp only [Sum.elim_inl, Sum.elim_inr] at h
      try dsimp only [Sum.elim_inl, Sum.elim_inr]
      (try simp only [Thn, InBlk, ↓reduceIte, Nat.reduceEqDiff])
      (try simp only [Thn, InBlk, ↓reduceIte, Nat.reduceEqDiff])
      (try simp only [Thn, InBlk, ↓reduceIte, Nat.reduceEqDiff])
      refine hK179 _ _ ?_
      clear hK179
      refine awp_reg ftCOk [(4, .sl 1)] [.row false (.trips a0_1), .row true (.ints .i64 t5s_1)] ?_
      refine awp_ret ?_
      (try simp only [Thn, InBlk, ↓reduceIte, Nat.reduceEqDiff])
      obtain rfl := Option.some.inj h
      refine ⟨by simp, _, [0, 1], (by simp only [go_sem, Nat.reduceBEq, Nat.reduceLT, Nat.reduceAdd, Nat.reduceLeDiff, Nat.reduceSub, Nat.reduceEqDiff, Int.reduceToNat, reduceCtorEq, ↓reduceIte]; exact rfl), ?_, ?_, ?_, ?_⟩
      · first | exact trivial | exact ⟨trivial, trivial⟩ | exact ⟨trivial, trivial, trivial⟩ | exact ⟨trivial, trivial, trivial, trivial⟩ | (simp only [allP, and_true, true_and]; done) | (simp only [allP, and_true, true_and]; omega)
      · simp [selOk, pos]
      · simp
      · first | exact ⟨rfl, rfl⟩ | (simp only [go_sem, Nat.reduceBEq, Nat.reduceLT, Nat.reduceAdd, Nat.reduceLeDiff, Nat.reduceSub, Nat.reduceEqDiff, Int.reduceToNat, reduceCtorEq, ↓reduceIte]; done) | (simp [go_sem, Nat.reduceBEq, Nat.reduceLT, Nat.reduceAdd, Nat.reduceLeDiff, Nat.reduceSub, Nat.reduceEqDiff, Int.reduceToNat, reduceCtorEq, ↓reduceIte]; done) | (simp only [go_sem, Nat.reduceBEq, Nat.reduceLT, Nat.reduceAdd, Nat.reduceLeDiff, Nat.reduceSub, Nat.reduceEqDiff, Int.reduceToNat, reduceCtorEq, ↓reduceIte]; exact ⟨rfl, rfl⟩) | (simp_all [go_sem, Nat.reduceBEq, Nat.reduceLT, Nat.reduceAdd, Nat.reduceLeDiff, Nat.reduceSub, Nat.reduceEqDiff, Int.reduceToNat, reduceCtorEq, ↓reduceIte]; done)
end Go.Proofs.YtdjckcedpnabpaaDoor
