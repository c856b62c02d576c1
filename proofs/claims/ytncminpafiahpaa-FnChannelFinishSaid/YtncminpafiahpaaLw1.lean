/- The code computes the functions that were taken out of it. -/
import Derived.Test.YtncminpafiahpaaLaD
set_option maxRecDepth 100000
set_option maxHeartbeats 4000000
set_option linter.unusedSimpArgs false
set_option linter.unusedVariables false
namespace Go.Proofs.Ytncminpafiahpaa
open Go Go.Av
attribute [local irreducible] wpA OpK awp
attribute [local go_sem] frs_nil frs_cons pw8_32 pw16_32 pw24_32 pw27_32 eqAgg eqAggV buildQ placesOf buildCells List.toList_toArray vcQg gfind gfree gput un3_agg unI_int unB_bool unK_int guardU skipV resVs resV vcD_nil vcD_cons vcT_fin vcT_free vcT_one vcT_two opS vcD1 roH roOb ftNone ftAdd oneOrTup AV.detup AV.ren AV.ren2 AV.ren1 pos selH AObj.ren fitAll fit fit1 fit1s matchAll matchOb exIds AObj.excl Env.killp pastH setAll upId AObj.past AObj.back AV.killp AV.killp1 AV.killp2 Nat.sub_self Nat.lt_irrefl Bool.or_self vcOps vcOp vcQs vcQ dstOk quiet eff pcall plain valsOf ev ofConst argEnv List.lookup Nat.add_eq decide_true decide_false Env.put binV wrapTo unV convV loadQ indexQ callQ builtinQ rd rdI globC AObj.globC partAV isAggD isArrayD addrAdd boxE storeE storeCE makeE makeNE buildNE nestZero Cont.child Cont.setChild buildSliceE buildFold appendE appendNE nestApp appendV promoteH sliceE boundAV subObj asCells Value.oneCell' contZero Cont.sets Cont.app Cont.sub Cont.len Cont.esz Cont.cell Cont.cells Cont.flat AV.det AV.det1 guardV AObj.unview AObj.kill Env.kill AV.kill AV.kill1 AV.kill2 fits64 Option.getD_some Option.getD_none Option.map_some Option.map_none Option.bind_some List.map_cons List.map_nil List.getElem?_cons_zero List.getElem?_cons_succ List.getElem?_nil true_and and_true List.getElem?_toArray List.cons_append List.nil_append List.length_cons List.length_nil List.set_cons_zero List.set_cons_succ List.take_succ_cons List.take_zero List.drop_succ_cons List.drop_zero List.drop_nil List.take_nil List.contains_cons List.contains_nil List.elem_cons List.elem_nil Bool.not_true Bool.not_false Bool.false_eq_true Bool.or_false Bool.or_true Bool.and_true Bool.and_false Bool.true_and Bool.false_and List.all_cons List.all_nil List.size_toArray Nat.lt_add_one Nat.zero_lt_succ Nat.one_ne_zero Nat.zero_ne_one and_self List.replicate_succ List.replicate_zero Int.toNat_natCast Int.toNat_zero Value.cells false_implies true_implies forall_const Thn InBlk Nat.zero_add Nat.add_zero Int.zero_add Ele Env.ren Option.some.injEq AV.v.injEq AV.sl.injEq AV.pp.injEq AV.ep.injEq AV.agg.injEq List.cons.injEq Value.int.injEq Value.bool.injEq Value.string.injEq true_or or_true or_false false_or tsz0 tby0 tz0 Try.underlying0 tsz1 tby1 tz1 Try.underlying1 tsz2 tby2 tz2 Try.underlying2 tsz3 tby3 tz3 Try.underlying3 tsz4 tby4 tz4 Try.underlying4 tsz5 tby5 tz5 Try.underlying5 tsz6 tby6 tz6 Try.underlying6 tsz7 tby7 tz7 Try.underlying7 fo7_0 fo7_1 fo7_2 fo7_3 tsz8 tby8 tz8 Try.underlying8 fo8_0 fo8_1 fo8_2 fo8_3 tsz9 tby9 Try.underlying9 tsz10 tby10 Try.underlying10 tsz12 tby12 tz12 Try.underlying12 tsz16 tby16 tz16 Try.underlying16 tsz17 tby17 tz17 Try.underlying17 tsz20 tby20 tz20 Try.underlying20 tsz21 tby21 tz21 Try.underlying21 tsz22 tby22 tz22 Try.underlying22 tsz23 tby23 tz23 Try.underlying23 fo23_0 fo23_1 tsz24 tby24 tz24 Try.underlying24 fo24_0 fo24_1 tsz26 tby26 tz26 Try.underlying26 tsz32 tby32 tz32 Try.underlying32 tsz37 tby37 tz37 Try.underlying37 tsz38 tby38 tz38 Try.underlying38 tsz39 tby39 tz39 Try.underlying39 fo39_0 fo39_1 fo39_2 fo39_3 fo39_4 tsz40 tby40 tz40 Try.underlying40 fo40_0 fo40_1 fo40_2 fo40_3 fo40_4 tsz42 tby42 tz42 Try.underlying42 tsz44 tby44 tz44 Try.underlying44 tsz48 tby48 tz48 Try.underlying48 tsz49 tby49 tz49 Try.underlying49 fo49_0 fo49_1 fo49_2 fo49_3 fo49_4 tsz50 tby50 tz50 Try.underlying50 fo50_0 fo50_1 fo50_2 fo50_3 fo50_4 tsz52 tby52 tz52 Try.underlying52 tsz56 tby56 tz56 Try.underlying56 tsz68 tby68 tz68 Try.underlying68 peq68 fo68_0 fo68_1 fo68_2 tsz75 tby75 tz75 Try.underlying75 tsz80 tby80 tz80 Try.underlying80 tsz93 tby93 tz93 Try.underlying93 tsz97 tby97 tz97 Try.underlying97 peq97 fo97_0 fo97_1 tsz98 tby98 tz98 Try.underlying98 peq98 fo98_0 fo98_1 tsz116 tby116 tz116 Try.underlying116 tsz119 tby119 tz119 Try.underlying119 peq119 fo119_0 fo119_1 fo119_2 tsz123 tby123 tz123 Try.underlying123 fo123_0 fo123_1 tsz124 tby124 tz124 Try.underlying124 fo124_0 fo124_1 tsz127 tby127 tz127 Try.underlying127 tsz129 tby129 tz129 Try.underlying129 peq129 fo129_0 fo129_1 tsz148 tby148 tz148 Try.underlying148 tsz149 tby149 tz149 Try.underlying149 tsz150 tby150 tz150 Try.underlying150 tsz152 tby152 tz152 Try.underlying152 tsz153 tby153 tz153 Try.underlying153 tsz154 tby154 tz154 Try.underlying154 tsz155 tby155 tz155 Try.underlying155 tsz156 tby156 tz156 Try.underlying156 tsz157 tby157 tz157 Try.underlying157 tsz158 tby158 tz158 Try.underlying158 fo158_0 fo158_1 fo158_2 fo158_3 fo158_4 fo158_5 fo158_6 fo158_7 fo158_8 fo158_9 fo158_10 tsz159 tby159 tz159 Try.underlying159 fo159_0 fo159_1 fo159_2 fo159_3 fo159_4 fo159_5 fo159_6 fo159_7 fo159_8 fo159_9 fo159_10 tsz160 tby160 tz160 Try.underlying160 l1InG ftC
theorem k_spec_l20Rd_pick (a0_0 : List Int) (a0_1 : Int) (a1 : Int) {r : Int × Int} (h : spec_l20Rd_pick a0_0 a0_1 a1 = some r) :
    FnA Try.prog 93 [.pp 0 0, .v (.int .i64 a1)] [.box [.sl 1, .v (.int .i64 a0_1)], .row false (.ints .u8 a0_0)] [] (fun x H => x = .v (.int .i64 r.1) ∧ H = [.box [.sl 1, .v (.int .i64 r.2)], .row false (.ints .u8 a0_0)]) := by
  unfold spec_l20Rd_pick at h
  refine FnA.of (N := 99) (pin := [0, 1]) (rs := [.tmp 4]) Try.func93 rfl en93 rfl rfl (by simp) (by simp; try omega) ?_
  refine awp_reg ftCOk [(0, .pp 0 0), (1, .v (.int .i64 a1))] [.box [.sl 1, .v (.int .i64 a0_1)], .row false (.ints .u8 a0_0)] ?_
  replace h := chk_some h
  obtain ⟨hp0, h⟩ := h
  refine awp_reg ftCOk [(0, .pp 0 0), (1, .v (.int .i64 a1))] [.box [.sl 1, .v (.int .i64 (a0_1 + 1))], .row false (.ints .u8 a0_0)] ?_
  clear hp0
  refine awp_seq fun K2 hK2 => ?_
  refine awp_reg ftCOk [(0, .pp 0 0), (1, .v (.int .i64 a1)), (24, .v (.bool ((decide (a1 < 1)) || ((a0_0.length : Int) == 0))))] [.box [.sl 1, .v (.int .i64 (a0_1 + 1))], .row false (.ints .u8 a0_0)] ?_
  refine awp_cond (t := 24) rfl (fun hc3 => ?_) (fun hc3 => ?_)
  · replace h := bite_t h hc3
    refine awp_reg ftCOk [(4, .v (.int .i64 0))] [.box [.sl 1, .v (.int .i64 (a0_1 + 1))], .row false (.ints .u8 a0_0)] ?_
    refine awp_ret ?_
    (try simp only [Thn, InBlk, ↓reduceIte, Nat.reduceEqDiff])
    obtain rfl := Option.some.inj h
    refine ⟨by simp, _, [0, 1], (by simp only [go_sem, Nat.reduceBEq, Nat.reduceLT, Nat.reduceAdd, Nat.reduceLeDiff, Nat.reduceSub, Nat.reduceEqDiff, Int.reduceToNat, reduceCtorEq, ↓reduceIte]; exact rfl), ?_, ?_, ?_, ?_⟩
    · first | exact trivial | exact ⟨trivial, trivial⟩ | exact ⟨trivial, trivial, trivial⟩ | exact ⟨trivial, trivial, trivial, trivial⟩ | (simp only [allP, and_true, true_and]; done) | (simp only [allP, and_true, true_and]; omega)
    · simp [selOk, pos]
    · simp
    · first | exact ⟨rfl, rfl⟩ | (simp only [go_sem, Nat.reduceBEq, Nat.reduceLT, Nat.reduceAdd, Nat.reduceLeDiff, Nat.reduceSub, Nat.reduceEqDiff, Int.reduceToNat, reduceCtorEq, ↓reduceIte]; done) | (simp [go_sem, Nat.reduceBEq, Nat.reduceLT, Nat.reduceAdd, Nat.reduceLeDiff, Nat.reduceSub, Nat.reduceEqDiff, Int.reduceToNat, reduceCtorEq, ↓reduceIte]; done) | (simp only [go_sem, Nat.reduceBEq, Nat.reduceLT, Nat.reduceAdd, Nat.reduceLeDiff, Nat.reduceSub, Nat.reduceEqDiff, Int.reduceToNat, reduceCtorEq, ↓reduceIte]; exact ⟨rfl, rfl⟩) | (simp_all [go_sem, Nat.reduceBEq, Nat.reduceLT, Nat.reduceAdd, Nat.reduceLeDiff, Nat.reduceSub, Nat.reduceEqDiff, Int.reduceToNat, reduceCtorEq, ↓reduceIte]; done)
  · replace h := bite_f h hc3
    refine awp_skip ?_
    (try simp only [Thn, InBlk, ↓reduceIte, Nat.reduceEqDiff])
    refine hK2 _ _ ?_
    clear hK2
    replace h := chk_some h
    obtain ⟨hp0, h⟩ := h
    have hwhp0 := wrap_fits hp0.1 hp0.2
    refine awp_reg ftCOk [(0, .pp 0 0), (1, .v (.int .i64 a1)), (5, .v (.int .i64 ((a0_1 + 1) - 1)))] [.box [.sl 1, .v (.int .i64 (a0_1 + 1))], .row false (.ints .u8 a0_0)] ?_
    clear hp0
    refine awp_seq fun K5 hK5 => ?_
    refine awp_reg ftCOk [(0, .pp 0 0), (1, .v (.int .i64 a1)), (5, .v (.int .i64 ((a0_1 + 1) - 1))), (36, .v (.bool (decide (((a0_1 + 1) - 1) < (a0_0.length : Int)))))] [.box [.sl 1, .v (.int .i64 (a0_1 + 1))], .row false (.ints .u8 a0_0)] ?_
    refine awp_cond (t := 36) rfl (fun hc6 => ?_) (fun hc6 => ?_)
    · replace h := bite_t h hc6
      replace h := chk_some h
      obtain ⟨hp0, h⟩ := h
      replace h := chk_some h
      obtain ⟨hp1, h⟩ := h
      replace h := chk_some h
      obtain ⟨hp2, h⟩ := h
      refine awp_reg ftCOk [(4, .v (.int .i64 ((a0_0.getD (((a0_1 + 1) - 1).toNat) 0) % a1)))] [.box [.sl 1, .v (.int .i64 (a0_1 + 1))], .row false (.ints .u8 a0_0)] ?_
      clear hp0 hp1 hp2
      refine awp_ret ?_
      (try simp only [Thn, InBlk, ↓reduceIte, Nat.reduceEqDiff])
      obtain rfl := Option.some.inj h
      refine ⟨by simp, _, [0, 1], (by simp only [go_sem, Nat.reduceBEq, Nat.reduceLT, Nat.reduceAdd, Nat.reduceLeDiff, Nat.reduceSub, Nat.reduceEqDiff, Int.reduceToNat, reduceCtorEq, ↓reduceIte]; exact rfl), ?_, ?_, ?_, ?_⟩
      · first | exact trivial | exact ⟨trivial, trivial⟩ | exact ⟨trivial, trivial, trivial⟩ | exact ⟨trivial, trivial, trivial, trivial⟩ | (simp only [allP, and_true, true_and]; done) | (simp only [allP, and_true, true_and]; omega)
      · simp [selOk, pos]
      · simp
      · first | exact ⟨rfl, rfl⟩ | (simp only [go_sem, Nat.reduceBEq, Nat.reduceLT, Nat.reduceAdd, Nat.reduceLeDiff, Nat.reduceSub, Nat.reduceEqDiff, Int.reduceToNat, reduceCtorEq, ↓reduceIte]; done) | (simp [go_sem, Nat.reduceBEq, Nat.reduceLT, Nat.reduceAdd, Nat.reduceLeDiff, Nat.reduceSub, Nat.reduceEqDiff, Int.reduceToNat, reduceCtorEq, ↓reduceIte]; done) | (simp only [go_sem, Nat.reduceBEq, Nat.reduceLT, Nat.reduceAdd, Nat.reduceLeDiff, Nat.reduceSub, Nat.reduceEqDiff, Int.reduceToNat, reduceCtorEq, ↓reduceIte]; exact ⟨rfl, rfl⟩) | (simp_all [go_sem, Nat.reduceBEq, Nat.reduceLT, Nat.reduceAdd, Nat.reduceLeDiff, Nat.reduceSub, Nat.reduceEqDiff, Int.reduceToNat, reduceCtorEq, ↓reduceIte]; done)
    · replace h := bite_f h hc6
      refine awp_skip ?_
      (try simp only [Thn, InBlk, ↓reduceIte, Nat.reduceEqDiff])
      refine hK5 _ _ ?_
      clear hK5
      replace h := chk_some h
      obtain ⟨hp0, h⟩ := h
      replace h := chk_some h
      obtain ⟨hp1, h⟩ := h
      replace h := chk_some h
      obtain ⟨hp2, h⟩ := h
      replace h := chk_some h
      obtain ⟨hp3, h⟩ := h
      replace h := chk_some h
      obtain ⟨hp4, h⟩ := h
      replace h := chk_some h
      obtain ⟨hp5, h⟩ := h
      replace h := chk_some h
      obtain ⟨hp6, h⟩ := h
      replace h := chk_some h
      obtain ⟨hp7, h⟩ := h
      replace h := chk_some h
      obtain ⟨hp8, h⟩ := h
      replace h := chk_some h
      obtain ⟨hp9, h⟩ := h
      replace h := chk_some h
      obtain ⟨hp10, h⟩ := h
      replace h := chk_some h
      obtain ⟨hp11, h⟩ := h
      replace h := chk_some h
      obtain ⟨hp12, h⟩ := h
      replace h := chk_some h
      obtain ⟨hp13, h⟩ := h
      replace h := chk_some h
      obtain ⟨hp14, h⟩ := h
      replace h := chk_some h
      obtain ⟨hp15, h⟩ := h
      refine awp_regQ mixed ftCOk [(1, .v (.int .i64 a1)), (6, .v (.int .i64 (((((a0_0.getD ((((a0_1 + 1) - 1) % (a0_0.length : Int)).toNat) 0) * 131) + ((a0_0.getD ((((((a0_1 + 1) - 1) * 7) + 3) % (a0_0.length : Int)).toNat) 0) * 1117)) + (((a0_1 + 1) - 1) * 29)) + ((((a0_1 + 1) - 1) / (a0_0.length : Int)) * 53))))] [.box [.sl 1, .v (.int .i64 (a0_1 + 1))], .row false (.ints .u8 a0_0)] ?_
      clear hp0 hp1 hp2 hp3 hp4 hp5 hp6 hp7 hp8 hp9 hp10 hp11 hp12 hp13 hp14 hp15
      replace h := chk_some h
      obtain ⟨hp0, h⟩ := h
      refine awp_reg ftCOk [(1, .v (.int .i64 a1)), (6, .v (.int .i64 (bitsV .xor .i64 (((((a0_0.getD ((((a0_1 + 1) - 1) % (a0_0.length : Int)).toNat) 0) * 131) + ((a0_0.getD ((((((a0_1 + 1) - 1) * 7) + 3) % (a0_0.length : Int)).toNat) 0) * 1117)) + (((a0_1 + 1) - 1) * 29)) + ((((a0_1 + 1) - 1) / (a0_0.length : Int)) * 53)) ((((((a0_0.getD ((((a0_1 + 1) - 1) % (a0_0.length : Int)).toNat) 0) * 131) + ((a0_0.getD ((((((a0_1 + 1) - 1) * 7) + 3) % (a0_0.length : Int)).toNat) 0) * 1117)) + (((a0_1 + 1) - 1) * 29)) + ((((a0_1 + 1) - 1) / (a0_0.length : Int)) * 53)) / 64))))] [.box [.sl 1, .v (.int .i64 (a0_1 + 1))], .row false (.ints .u8 a0_0)] ?_
      clear hp0
      replace h := chk_some h
      obtain ⟨hp0, h⟩ := h
      refine awp_reg ftCOk [(4, .v (.int .i64 ((bitsV .xor .i64 (((((a0_0.getD ((((a0_1 + 1) - 1) % (a0_0.length : Int)).toNat) 0) * 131) + ((a0_0.getD ((((((a0_1 + 1) - 1) * 7) + 3) % (a0_0.length : Int)).toNat) 0) * 1117)) + (((a0_1 + 1) - 1) * 29)) + ((((a0_1 + 1) - 1) / (a0_0.length : Int)) * 53)) ((((((a0_0.getD ((((a0_1 + 1) - 1) % (a0_0.length : Int)).toNat) 0) * 131) + ((a0_0.getD ((((((a0_1 + 1) - 1) * 7) + 3) % (a0_0.length : Int)).toNat) 0) * 1117)) + (((a0_1 + 1) - 1) * 29)) + ((((a0_1 + 1) - 1) / (a0_0.length : Int)) * 53)) / 64)) % a1)))] [.box [.sl 1, .v (.int .i64 (a0_1 + 1))], .row false (.ints .u8 a0_0)] ?_
      clear hp0
      refine awp_ret ?_
      (try simp only [Thn, InBlk, ↓reduceIte, Nat.reduceEqDiff])
      obtain rfl := Option.some.inj h
      refine ⟨by simp, _, [0, 1], (by simp only [go_sem, Nat.reduceBEq, Nat.reduceLT, Nat.reduceAdd, Nat.reduceLeDiff, Nat.reduceSub, Nat.reduceEqDiff, Int.reduceToNat, reduceCtorEq, ↓reduceIte]; exact rfl), ?_, ?_, ?_, ?_⟩
      · first | exact trivial | exact ⟨trivial, trivial⟩ | exact ⟨trivial, trivial, trivial⟩ | exact ⟨trivial, trivial, trivial, trivial⟩ | (simp only [allP, and_true, true_and]; done) | (simp only [allP, and_true, true_and]; omega)
      · simp [selOk, pos]
      · simp
      · first | exact ⟨rfl, rfl⟩ | (simp only [go_sem, Nat.reduceBEq, Nat.reduceLT, Nat.reduceAdd, Nat.reduceLeDiff, Nat.reduceSub, Nat.reduceEqDiff, Int.reduceToNat, reduceCtorEq, ↓reduceIte]; done) | (simp [go_sem, Nat.reduceBEq, Nat.reduceLT, Nat.reduceAdd, Nat.reduceLeDiff, Nat.reduceSub, Nat.reduceEqDiff, Int.reduceToNat, reduceCtorEq, ↓reduceIte]; done) | (simp only [go_sem, Nat.reduceBEq, Nat.reduceLT, Nat.reduceAdd, Nat.reduceLeDiff, Nat.reduceSub, Nat.reduceEqDiff, Int.reduceToNat, reduceCtorEq, ↓reduceIte]; exact ⟨rfl, rfl⟩) | (simp_all [go_sem, Nat.reduceBEq, Nat.reduceLT, Nat.reduceAdd, Nat.reduceLeDiff, Nat.reduceSub, Nat.reduceEqDiff, Int.reduceToNat, reduceCtorEq, ↓reduceIte]; done)
theorem k_spec_l20Ints (a0_0 : List Int) (a0_1 : Int) (a1 : Int) {r : List Int × Int} (h : spec_l20Ints a0_0 a0_1 a1 = some r) :
    FnA Try.prog 115 [.pp 0 0, .v (.int .i64 a1)] [.box [.sl 1, .v (.int .i64 a0_1)], .row false (.ints .u8 a0_0)] [] (fun x H => x = .sl 2 ∧ H = [.box [.sl 1, .v (.int .i64 r.2)], .row false (.ints .u8 a0_0), .row true (.ints .i64 r.1)]) := by
  unfold spec_l20Ints at h
  refine FnA.of (N := 25) (pin := [0, 1]) (rs := [.tmp 4]) Try.func115 rfl en115 rfl rfl (by simp) (by simp; try omega) ?_
  refine awp_reg ftCOk [(0, .pp 0 0), (1, .v (.int .i64 a1))] [.box [.sl 1, .v (.int .i64 a0_1)], .row false (.ints .u8 a0_0)] ?_
  refine awp_reg ftCOk [(0, .pp 0 0), (1, .v (.int .i64 a1)), (5, .sl 2)] [.box [.sl 1, .v (.int .i64 a0_1)], .row false (.ints .u8 a0_0), .row true (.ints .i64 [])] ?_
  refine awp_seq fun K14 hK14 => ?_
  replace h := bind_some h
  obtain ⟨⟨y, y_1⟩, hr0, h⟩ := h
  try dsimp only at h
  refine awp_to [(0, .pp 0 0), (1, .v (.int .i64 a1)), (5, .sl 2), (6, .v (.int .i64 y))] [.box [.sl 1, .v (.int .i64 y_1)], .row false (.ints .u8 a0_0), .row true (.ints .i64 [])] ?_ ?_
  · clear h
    intro K hK
    refine awp_region ftCOk ?_
    simp (maxSteps := 4000000) only [go_sem, Nat.reduceBEq, Nat.reduceLT, Nat.reduceAdd, Nat.reduceLeDiff, Nat.reduceSub, Nat.reduceEqDiff, Int.reduceToNat, reduceCtorEq, ↓reduceIte]
    repeat' (first | refine And.intro ?_ ?_ | intro hg)
    all_goals (try simp (disch := omega) only [wrap_fits])
    all_goals first
      | (refine hK _ _ ?_; exact Red.auto)
      | exact trivial
      | assumption
      | omega
      | exact wrap_fits (by omega) (by omega)
      | (refine wpA_callA (k_spec_l20Rd_pick a0_0 a0_1 9 (h := hr0)) [0, 1] [] ?_
         rintro x Hc' ⟨rfl, rfl⟩ hlen
         refine vcOps_sound ftCOk ?_
         simp (maxSteps := 4000000) only [go_sem, Nat.reduceBEq, Nat.reduceLT, Nat.reduceAdd, Nat.reduceLeDiff, Nat.reduceSub, Nat.reduceEqDiff, Int.reduceToNat, reduceCtorEq, ↓reduceIte]
         repeat' (first | refine And.intro ?_ ?_ | intro hg)
         all_goals (try simp (disch := omega) only [wrap_fits])
         all_goals first
           | (refine hK _ _ ?_; exact Red.auto)
           | exact trivial
           | assumption
           | omega
           | exact wrap_fits (by omega) (by omega)
           | (simp_all; done)
           | (simp_all; omega))
      | (simp_all; done)
      | (simp_all; omega)
  · clear hr0
    refine awp_block ?_
    replace h := bind_some h
    obtain ⟨x27, hx, h⟩ := h
    refine awp_loopL hx (fun ((t6, p0_1, t5s) : Int × Int × List Int) => [(0, .pp 0 0), (1, .v (.int .i64 a1)), (5, .sl 2), (6, .v (.int .i64 t6))]) (fun ((t6, p0_1, t5s) : Int × Int × List Int) => [.box [.sl 1, .v (.int .i64 p0_1)], .row false (.ints .u8 a0_0), .row true (.ints .i64 t5s)]) (fun ((p0_1_1, t5s_1) : Int × List Int) => Exit.exit 0) (fun ((p0_1_1, t5s_1) : Int × List Int) => [(5, .sl 2)]) (fun ((p0_1_1, t5s_1) : Int × List Int) => [.box [.sl 1, .v (.int .i64 p0_1_1)], .row false (.ints .u8 a0_0), .row true (.ints .i64 t5s_1)]) ?_ ?_ ?_ ?_
    · rintro ⟨p0_1_1, t5s_1⟩ hy <;> cases hy
    · clear h hx
      exact Red.auto
    · clear h hx
      rintro ⟨t6, p0_1, t5s⟩ r h
      unfold spec_l20Ints_b0 at h
      try dsimp only at h
      try dsimp only
      refine awp_seq fun K24 hK24 => ?_
      refine awp_reg ftCOk [(0, .pp 0 0), (1, .v (.int .i64 a1)), (5, .sl 2), (6, .v (.int .i64 t6)), (11, .v (.bool (decide (0 < t6))))] [.box [.sl 1, .v (.int .i64 p0_1)], .row false (.ints .u8 a0_0), .row true (.ints .i64 t5s)] ?_
      refine awp_cond (t := 11) rfl (fun hc25 => ?_) (fun hc25 => ?_)
      · replace h := bite_t h hc25
        refine awp_skip ?_
        (try simp only [Thn, InBlk, ↓reduceIte, Nat.reduceEqDiff])
        refine hK24 _ _ ?_
        clear hK24
        refine awp_seq fun K26 hK26 => ?_
        refine awp_block ?_
        replace h := bind_some h
        obtain ⟨⟨y_2, y_3⟩, hr0, h⟩ := h
        try dsimp only at h
        replace h := bind_some h
        obtain ⟨⟨y_4, y_5⟩, hr1, h⟩ := h
        try dsimp only at h
        replace h := chk_some h
        obtain ⟨hp2, h⟩ := h
        replace h := chk_some h
        obtain ⟨hp3, h⟩ := h
        have hwhp3 := wrap_fits hp3.1 hp3.2
        replace h := chk_some h
        obtain ⟨hp4, h⟩ := h
        refine awp_end [(0, .pp 0 0), (1, .v (.int .i64 a1)), (5, .sl 2), (6, .v (.int .i64 t6))] [.box [.sl 1, .v (.int .i64 y_5)], .row false (.ints .u8 a0_0), .row true (.ints .i64 (t5s ++ [(y_2 - (y_4 / 8))])), .row true (.ints .i64 [(y_2 - (y_4 / 8))])] ?_ ?_
        · clear h
          intro K hK
          refine awp_region ftCOk ?_
          simp (maxSteps := 4000000) only [go_sem, Nat.reduceBEq, Nat.reduceLT, Nat.reduceAdd, Nat.reduceLeDiff, Nat.reduceSub, Nat.reduceEqDiff, Int.reduceToNat, reduceCtorEq, ↓reduceIte]
          repeat' (first | refine And.intro ?_ ?_ | intro hg)
          all_goals (try simp (disch := omega) only [wrap_fits])
          all_goals first
            | (refine hK _ _ ?_; exact Red.auto)
            | exact trivial
            | assumption
            | omega
            | exact wrap_fits (by omega) (by omega)
            | (refine wpA_callA (k_spec_l20Rd_pick a0_0 p0_1 a1 (h := hr0)) [0, 1] [] ?_
               rintro x Hc' ⟨rfl, rfl⟩ hlen
               refine vcOps_sound ftCOk ?_
               simp (maxSteps := 4000000) only [go_sem, Nat.reduceBEq, Nat.reduceLT, Nat.reduceAdd, Nat.reduceLeDiff, Nat.reduceSub, Nat.reduceEqDiff, Int.reduceToNat, reduceCtorEq, ↓reduceIte]
               repeat' (first | refine And.intro ?_ ?_ | intro hg)
               all_goals (try simp (disch := omega) only [wrap_fits])
               all_goals first
                 | (refine hK _ _ ?_; exact Red.auto)
                 | exact trivial
                 | assumption
                 | omega
                 | exact wrap_fits (by omega) (by omega)
                 | (refine wpA_callA (k_spec_l20Rd_pick a0_0 y_3 9 (h := hr1)) [0, 1] [] ?_
                    rintro x Hc' ⟨rfl, rfl⟩ hlen
                    refine vcOps_sound ftCOk ?_
                    simp (maxSteps := 4000000) only [go_sem, Nat.reduceBEq, Nat.reduceLT, Nat.reduceAdd, Nat.reduceLeDiff, Nat.reduceSub, Nat.reduceEqDiff, Int.reduceToNat, reduceCtorEq, ↓reduceIte]
                    repeat' (first | refine And.intro ?_ ?_ | intro hg)
                    all_goals (try simp (disch := omega) only [wrap_fits])
                    all_goals first
                      | (refine hK _ _ ?_; exact Red.auto)
                      | exact trivial
                      | assumption
                      | omega
                      | exact wrap_fits (by omega) (by omega)
                      | (simp_all; done)
                      | (simp_all; omega))
                 | (simp_all; done)
                 | (simp_all; omega))
            | (simp_all; done)
            | (simp_all; omega)
        · clear hr0 hr1 hp2 hp3 hp4
          (try simp only [Thn, InBlk, ↓reduceIte, Nat.reduceEqDiff])
          (try simp only [Thn, InBlk, ↓reduceIte, Nat.reduceEqDiff])
          refine hK26 _ _ ?_
          clear hK26
          replace h := chk_some h
          obtain ⟨hp0, h⟩ := h
          have hwhp0 := wrap_fits hp0.1 hp0.2
          refine awp_regE ftCOk [(0, .pp 0 0), (1, .v (.int .i64 a1)), (5, .sl 2), (6, .v (.int .i64 (t6 - 1)))] [.box [.sl 1, .v (.int .i64 y_5)], .row false (.ints .u8 a0_0), .row true (.ints .i64 (t5s ++ [(y_2 - (y_4 / 8))])), .row true (.ints .i64 [(y_2 - (y_4 / 8))])] ?_
          clear hp0
          obtain rfl := Option.some.inj h
          refine LoopQ.next ?_
          exact Red.selA [0, 1, 2] Red.auto
      · replace h := bite_f h hc25
        refine awp_exit ?_
        (try simp only [Thn, InBlk, ↓reduceIte, Nat.reduceEqDiff])
        obtain rfl := Option.some.inj h
        refine LoopQ.out rfl ?_
        exact Red.auto
    · clear hx
      rcases x27 with ⟨p0_1_1, t5s_1⟩
      · try dsimp only [Sum.elim_inl, Sum.elim_inr] at h
        try dsimp only [Sum.elim_inl, Sum.elim_inr]
        (try simp only [Thn, InBlk, ↓reduceIte, Nat.reduceEqDiff])
        (try simp only [Thn, InBlk, ↓reduceIte, Nat.reduceEqDiff])
        (try simp only [Thn, InBlk, ↓reduceIte, Nat.reduceEqDiff])
        refine hK14 _ _ ?_
        clear hK14
        refine awp_reg ftCOk [(4, .sl 2)] [.box [.sl 1, .v (.int .i64 p0_1_1)], .row false (.ints .u8 a0_0), .row true (.ints .i64 t5s_1)] ?_
        refine awp_ret ?_
        (try simp only [Thn, InBlk, ↓reduceIte, Nat.reduceEqDiff])
        obtain rfl := Option.some.inj h
        refine ⟨by simp, _, [0, 1, 2], (by simp only [go_sem, Nat.reduceBEq, Nat.reduceLT, Nat.reduceAdd, Nat.reduceLeDiff, Nat.reduceSub, Nat.reduceEqDiff, Int.reduceToNat, reduceCtorEq, ↓reduceIte]; exact rfl), ?_, ?_, ?_, ?_⟩
        · first | exact trivial | exact ⟨trivial, trivial⟩ | exact ⟨trivial, trivial, trivial⟩ | exact ⟨trivial, trivial, trivial, trivial⟩ | (simp only [allP, and_true, true_and]; done) | (simp only [allP, and_true, true_and]; omega)
        · simp [selOk, pos]
        · simp
        · first | exact ⟨rfl, rfl⟩ | (simp only [go_sem, Nat.reduceBEq, Nat.reduceLT, Nat.reduceAdd, Nat.reduceLeDiff, Nat.reduceSub, Nat.reduceEqDiff, Int.reduceToNat, reduceCtorEq, ↓reduceIte]; done) | (simp [go_sem, Nat.reduceBEq, Nat.reduceLT, Nat.reduceAdd, Nat.reduceLeDiff, Nat.reduceSub, Nat.reduceEqDiff, Int.reduceToNat, reduceCtorEq, ↓reduceIte]; done) | (simp only [go_sem, Nat.reduceBEq, Nat.reduceLT, Nat.reduceAdd, Nat.reduceLeDiff, Nat.reduceSub, Nat.reduceEqDiff, Int.reduceToNat, reduceCtorEq, ↓reduceIte]; exact ⟨rfl, rfl⟩) | (simp_all [go_sem, Nat.reduceBEq, Nat.reduceLT, Nat.reduceAdd, Nat.reduceLeDiff, Nat.reduceSub, Nat.reduceEqDiff, Int.reduceToNat, reduceCtorEq, ↓reduceIte]; done)
theorem k_spec_ChannelValid (a0_0 : List Int) (a0_1 : Int) (a0_2 : List Int) (a0_3 : List (Int × Int)) (a0_4 : List Int) {r : Bool} (h : spec_ChannelValid a0_0 a0_1 a0_2 a0_3 a0_4 = some r) :
    FnA Try.prog 80 [.agg [.sl 0, .v (.int .i64 a0_1), .sl 1, .sl 2, .sl 3]] [.row false (.ints .i64 a0_0), .row false (.ints .i64 a0_2), .row false (.pairs a0_3), .row false (.ints .i64 a0_4)] [] (fun x H => x = .v (.bool r) ∧ H = [.row false (.ints .i64 a0_0), .row false (.ints .i64 a0_2), .row false (.pairs a0_3), .row false (.ints .i64 a0_4)]) := by
  unfold spec_ChannelValid at h
  refine FnA.of (N := 128) (pin := [0, 1, 2, 3]) (rs := [.tmp 2]) Try.func80 rfl en80 rfl rfl (by simp) (by simp; try omega) ?_
  refine awp_reg ftCOk [(1, .pp 4 0)] [.row false (.ints .i64 a0_0), .row false (.ints .i64 a0_2), .row false (.pairs a0_3), .row false (.ints .i64 a0_4), .box [.sl 0, .v (.int .i64 a0_1), .sl 1, .sl 2, .sl 3]] ?_
  refine awp_freeze 1 (by rfl) (by rfl) (by exact rfl) ?_
  refine awp_seq fun K20 hK20 => ?_
  refine awp_reg ftCOk [(1, .pp 4 0), (3, .v (.int .i64 0))] [.row false (.ints .i64 a0_0), .row false (.ints .i64 a0_2), .row false (.pairs a0_3), .row false (.ints .i64 a0_4), .rbox [.sl 0, .v (.int .i64 a0_1), .sl 1, .sl 2, .sl 3]] ?_
  refine awp_block ?_
  replace h := bind_some h
  obtain ⟨x39, hx, h⟩ := h
  refine awp_loopL hx (fun (t3 : Int) => [(1, .pp 4 0), (3, .v (.int .i64 t3))]) (fun (t3 : Int) => [.row false (.ints .i64 a0_0), .row false (.ints .i64 a0_2), .row false (.pairs a0_3), .row false (.ints .i64 a0_4), .rbox [.sl 0, .v (.int .i64 a0_1), .sl 1, .sl 2, .sl 3]]) (Sum.elim (fun (_ : Unit) => Exit.exit 0) (fun (_ : Unit) => Exit.ret)) (Sum.elim (fun (_ : Unit) => [(1, .pp 4 0)]) (fun (_ : Unit) => [(2, .v (.bool false))])) (Sum.elim (fun (_ : Unit) => [.row false (.ints .i64 a0_0), .row false (.ints .i64 a0_2), .row false (.pairs a0_3), .row false (.ints .i64 a0_4), .rbox [.sl 0, .v (.int .i64 a0_1), .sl 1, .sl 2, .sl 3]]) (fun (_ : Unit) => [.row false (.ints .i64 a0_0), .row false (.ints .i64 a0_2), .row false (.pairs a0_3), .row false (.ints .i64 a0_4)])) ?_ ?_ ?_ ?_
  · rintro (⟨⟩ | ⟨⟩) hy <;> cases hy
  · clear h hx
    exact Red.auto
  · clear h hx
    rintro t3 r h
    unfold spec_ChannelValid_b0 at h
    try dsimp only at h
    try dsimp only
    refine awp_seq fun K34 hK34 => ?_
    refine awp_reg ftCOk [(1, .pp 4 0), (3, .v (.int .i64 t3)), (11, .v (.bool (decide (t3 < (a0_0.length : Int)))))] [.row false (.ints .i64 a0_0), .row false (.ints .i64 a0_2), .row false (.pairs a0_3), .row false (.ints .i64 a0_4), .rbox [.sl 0, .v (.int .i64 a0_1), .sl 1, .sl 2, .sl 3]] ?_
    refine awp_cond (t := 11) rfl (fun hc35 => ?_) (fun hc35 => ?_)
    · replace h := bite_t h hc35
      refine awp_skip ?_
      (try simp only [Thn, InBlk, ↓reduceIte, Nat.reduceEqDiff])
      refine hK34 _ _ ?_
      clear hK34
      refine awp_seq fun K37 hK37 => ?_
      refine awp_block ?_
      replace h := chk_some h
      obtain ⟨hp0, h⟩ := h
      refine awp_reg ftCOk [(1, .pp 4 0), (3, .v (.int .i64 t3)), (20, .v (.bool (!(decide (0 ≤ (a0_0.getD t3.toNat 0)) && decide ((a0_0.getD t3.toNat 0) ≤ 1000000)))))] [.row false (.ints .i64 a0_0), .row false (.ints .i64 a0_2), .row false (.pairs a0_3), .row false (.ints .i64 a0_4), .rbox [.sl 0, .v (.int .i64 a0_1), .sl 1, .sl 2, .sl 3]] ?_
      clear hp0
      refine awp_cond (t := 20) rfl (fun hc38 => ?_) (fun hc38 => ?_)
      · replace h := bite_t h hc38
        refine awp_reg ftCOk [(2, .v (.bool false))] [.row false (.ints .i64 a0_0), .row false (.ints .i64 a0_2), .row false (.pairs a0_3), .row false (.ints .i64 a0_4), .rbox [.sl 0, .v (.int .i64 a0_1), .sl 1, .sl 2, .sl 3]] ?_
        refine awp_ret ?_
        (try simp only [Thn, InBlk, ↓reduceIte, Nat.reduceEqDiff])
        obtain rfl := Option.some.inj h
        refine LoopQ.out rfl ?_
        exact Red.selA [0, 1, 2, 3] Red.auto
      · replace h := bite_f h hc38
        refine awp_skip ?_
        (try simp only [Thn, InBlk, ↓reduceIte, Nat.reduceEqDiff])
        (try simp only [Thn, InBlk, ↓reduceIte, Nat.reduceEqDiff])
        refine hK37 _ _ ?_
        clear hK37
        replace h := chk_some h
        obtain ⟨hp0, h⟩ := h
        refine awp_regE ftCOk [(1, .pp 4 0), (3, .v (.int .i64 (t3 + 1)))] [.row false (.ints .i64 a0_0), .row false (.ints .i64 a0_2), .row false (.pairs a0_3), .row false (.ints .i64 a0_4), .rbox [.sl 0, .v (.int .i64 a0_1), .sl 1, .sl 2, .sl 3]] ?_
        clear hp0
        obtain rfl := Option.some.inj h
        refine LoopQ.next ?_
        exact Red.auto
    · replace h := bite_f h hc35
      refine awp_exit ?_
      (try simp only [Thn, InBlk, ↓reduceIte, Nat.reduceEqDiff])
      obtain rfl := Option.some.inj h
      refine LoopQ.out rfl ?_
      exact Red.auto
  · clear hx
    rcases x39 with (⟨⟩ | ⟨⟩)
    · try dsimp only [Sum.elim_inl, Sum.elim_inr] at h
      try dsimp only [Sum.elim_inl, Sum.elim_inr]
      (try simp only [Thn, InBlk, ↓reduceIte, Nat.reduceEqDiff])
      (try simp only [Thn, InBlk, ↓reduceIte, Nat.reduceEqDiff])
      (try simp only [Thn, InBlk, ↓reduceIte, Nat.reduceEqDiff])
      refine hK20 _ _ ?_
      clear hK20
      refine awp_seq fun K41 hK41 => ?_
      refine awp_to [(1, .pp 4 0), (54, .v (.bool (((((decide (20 < (a0_0.length : Int))) || (decide ((a0_0.length : Int) < (a0_2.length : Int)))) || (!(decide (0 ≤ a0_1) && decide (a0_1 ≤ (a0_2.length : Int))))) || (decide (100 < (a0_3.length : Int)))) || (decide (100 < (a0_4.length : Int))))))] [.row false (.ints .i64 a0_0), .row false (.ints .i64 a0_2), .row false (.pairs a0_3), .row false (.ints .i64 a0_4), .rbox [.sl 0, .v (.int .i64 a0_1), .sl 1, .sl 2, .sl 3]] ?_ ?_
      · clear h
        intro K hK
        refine awp_regionA ?_
        refine wpA_cutAt 13 [(1, .pp 4 0), (33, .v (.bool ((decide (20 < (a0_0.length : Int))) || (decide ((a0_0.length : Int) < (a0_2.length : Int))))))] [.row false (.ints .i64 a0_0), .row false (.ints .i64 a0_2), .row false (.pairs a0_3), .row false (.ints .i64 a0_4), .rbox [.sl 0, .v (.int .i64 a0_1), .sl 1, .sl 2, .sl 3]] ?_ ?_
        · clear hK K
          intro K hK
          refine vcOps_sound ftCOk ?_
          simp (maxSteps := 4000000) only [go_sem, Nat.reduceBEq, Nat.reduceLT, Nat.reduceAdd, Nat.reduceLeDiff, Nat.reduceSub, Nat.reduceEqDiff, Int.reduceToNat, reduceCtorEq, ↓reduceIte]
          repeat' (first | refine And.intro ?_ ?_ | intro hg)
          all_goals (try simp (disch := omega) only [wrap_fits])
          all_goals first
            | (refine hK _ _ ?_; exact Red.auto)
            | exact trivial
            | assumption
            | omega
            | exact wrap_fits (by omega) (by omega)
            | (simp_all; done)
            | (simp_all; omega)
        refine wpA_cutAt 9 [(1, .pp 4 0), (42, .v (.bool (((decide (20 < (a0_0.length : Int))) || (decide ((a0_0.length : Int) < (a0_2.length : Int)))) || (!(decide (0 ≤ a0_1) && decide (a0_1 ≤ (a0_2.length : Int)))))))] [.row false (.ints .i64 a0_0), .row false (.ints .i64 a0_2), .row false (.pairs a0_3), .row false (.ints .i64 a0_4), .rbox [.sl 0, .v (.int .i64 a0_1), .sl 1, .sl 2, .sl 3]] ?_ ?_
        · clear hK K
          intro K hK
          refine vcOps_sound ftCOk ?_
          simp (maxSteps := 4000000) only [go_sem, Nat.reduceBEq, Nat.reduceLT, Nat.reduceAdd, Nat.reduceLeDiff, Nat.reduceSub, Nat.reduceEqDiff, Int.reduceToNat, reduceCtorEq, ↓reduceIte]
          repeat' (first | refine And.intro ?_ ?_ | intro hg)
          all_goals (try simp (disch := omega) only [wrap_fits])
          all_goals first
            | (refine hK _ _ ?_; exact Red.auto)
            | exact trivial
            | assumption
            | omega
            | exact wrap_fits (by omega) (by omega)
            | (simp_all; done)
            | (simp_all; omega)
        refine wpA_cutAt 6 [(1, .pp 4 0), (48, .v (.bool ((((decide (20 < (a0_0.length : Int))) || (decide ((a0_0.length : Int) < (a0_2.length : Int)))) || (!(decide (0 ≤ a0_1) && decide (a0_1 ≤ (a0_2.length : Int))))) || (decide (100 < (a0_3.length : Int))))))] [.row false (.ints .i64 a0_0), .row false (.ints .i64 a0_2), .row false (.pairs a0_3), .row false (.ints .i64 a0_4), .rbox [.sl 0, .v (.int .i64 a0_1), .sl 1, .sl 2, .sl 3]] ?_ ?_
        · clear hK K
          intro K hK
          refine vcOps_sound ftCOk ?_
          simp (maxSteps := 4000000) only [go_sem, Nat.reduceBEq, Nat.reduceLT, Nat.reduceAdd, Nat.reduceLeDiff, Nat.reduceSub, Nat.reduceEqDiff, Int.reduceToNat, reduceCtorEq, ↓reduceIte]
          repeat' (first | refine And.intro ?_ ?_ | intro hg)
          all_goals (try simp (disch := omega) only [wrap_fits])
          all_goals first
            | (refine hK _ _ ?_; exact Red.auto)
            | exact trivial
            | assumption
            | omega
            | exact wrap_fits (by omega) (by omega)
            | (simp_all; done)
            | (simp_all; omega)
        refine vcOps_sound ftCOk ?_
        simp (maxSteps := 4000000) only [go_sem, Nat.reduceBEq, Nat.reduceLT, Nat.reduceAdd, Nat.reduceLeDiff, Nat.reduceSub, Nat.reduceEqDiff, Int.reduceToNat, reduceCtorEq, ↓reduceIte]
        repeat' (first | refine And.intro ?_ ?_ | intro hg)
        all_goals (try simp (disch := omega) only [wrap_fits])
        all_goals first
          | (refine hK _ _ ?_; exact Red.auto)
          | exact trivial
          | assumption
          | omega
          | exact wrap_fits (by omega) (by omega)
          | (simp_all; done)
          | (simp_all; omega)
      · refine awp_cond (t := 54) rfl (fun hc42 => ?_) (fun hc42 => ?_)
        · replace h := bite_t h hc42
          refine awp_reg ftCOk [(2, .v (.bool false))] [.row false (.ints .i64 a0_0), .row false (.ints .i64 a0_2), .row false (.pairs a0_3), .row false (.ints .i64 a0_4), .rbox [.sl 0, .v (.int .i64 a0_1), .sl 1, .sl 2, .sl 3]] ?_
          refine awp_ret ?_
          (try simp only [Thn, InBlk, ↓reduceIte, Nat.reduceEqDiff])
          obtain rfl := Option.some.inj h
          refine ⟨by simp, _, [0, 1, 2, 3], (by simp only [go_sem, Nat.reduceBEq, Nat.reduceLT, Nat.reduceAdd, Nat.reduceLeDiff, Nat.reduceSub, Nat.reduceEqDiff, Int.reduceToNat, reduceCtorEq, ↓reduceIte]; exact rfl), ?_, ?_, ?_, ?_⟩
          · first | exact trivial | exact ⟨trivial, trivial⟩ | exact ⟨trivial, trivial, trivial⟩ | exact ⟨trivial, trivial, trivial, trivial⟩ | (simp only [allP, and_true, true_and]; done) | (simp only [allP, and_true, true_and]; omega)
          · simp [selOk, pos]
          · simp
          · first | exact ⟨rfl, rfl⟩ | (simp only [go_sem, Nat.reduceBEq, Nat.reduceLT, Nat.reduceAdd, Nat.reduceLeDiff, Nat.reduceSub, Nat.reduceEqDiff, Int.reduceToNat, reduceCtorEq, ↓reduceIte]; done) | (simp [go_sem, Nat.reduceBEq, Nat.reduceLT, Nat.reduceAdd, Nat.reduceLeDiff, Nat.reduceSub, Nat.reduceEqDiff, Int.reduceToNat, reduceCtorEq, ↓reduceIte]; done) | (simp only [go_sem, Nat.reduceBEq, Nat.reduceLT, Nat.reduceAdd, Nat.reduceLeDiff, Nat.reduceSub, Nat.reduceEqDiff, Int.reduceToNat, reduceCtorEq, ↓reduceIte]; exact ⟨rfl, rfl⟩) | (simp_all [go_sem, Nat.reduceBEq, Nat.reduceLT, Nat.reduceAdd, Nat.reduceLeDiff, Nat.reduceSub, Nat.reduceEqDiff, Int.reduceToNat, reduceCtorEq, ↓reduceIte]; done)
        · replace h := bite_f h hc42
          refine awp_skip ?_
          (try simp only [Thn, InBlk, ↓reduceIte, Nat.reduceEqDiff])
          refine hK41 _ _ ?_
          clear hK41
          refine awp_seq fun K62 hK62 => ?_
          refine awp_reg ftCOk [(1, .pp 4 0), (4, .v (.int .i64 0))] [.row false (.ints .i64 a0_0), .row false (.ints .i64 a0_2), .row false (.pairs a0_3), .row false (.ints .i64 a0_4), .rbox [.sl 0, .v (.int .i64 a0_1), .sl 1, .sl 2, .sl 3]] ?_
          refine awp_block ?_
          replace h := bind_some h
          obtain ⟨x81, hx, h⟩ := h
          refine awp_loopL hx (fun (t4 : Int) => [(1, .pp 4 0), (4, .v (.int .i64 t4))]) (fun (t4 : Int) => [.row false (.ints .i64 a0_0), .row false (.ints .i64 a0_2), .row false (.pairs a0_3), .row false (.ints .i64 a0_4), .rbox [.sl 0, .v (.int .i64 a0_1), .sl 1, .sl 2, .sl 3]]) (Sum.elim (fun (_ : Unit) => Exit.exit 2) (fun (_ : Unit) => Exit.ret)) (Sum.elim (fun (_ : Unit) => [(1, .pp 4 0)]) (fun (_ : Unit) => [(2, .v (.bool false))])) (Sum.elim (fun (_ : Unit) => [.row false (.ints .i64 a0_0), .row false (.ints .i64 a0_2), .row false (.pairs a0_3), .row false (.ints .i64 a0_4), .rbox [.sl 0, .v (.int .i64 a0_1), .sl 1, .sl 2, .sl 3]]) (fun (_ : Unit) => [.row false (.ints .i64 a0_0), .row false (.ints .i64 a0_2), .row false (.pairs a0_3), .row false (.ints .i64 a0_4)])) ?_ ?_ ?_ ?_
          · rintro (⟨⟩ | ⟨⟩) hy <;> cases hy
          · clear h hx
            exact Red.auto
          · clear h hx
            rintro t4 r h
            unfold spec_ChannelValid_b1 at h
            try dsimp only at h
            try dsimp only
            refine awp_seq fun K76 hK76 => ?_
            refine awp_reg ftCOk [(1, .pp 4 0), (4, .v (.int .i64 t4)), (59, .v (.bool (decide (t4 < (a0_2.length : Int)))))] [.row false (.ints .i64 a0_0), .row false (.ints .i64 a0_2), .row false (.pairs a0_3), .row false (.ints .i64 a0_4), .rbox [.sl 0, .v (.int .i64 a0_1), .sl 1, .sl 2, .sl 3]] ?_
            refine awp_cond (t := 59) rfl (fun hc77 => ?_) (fun hc77 => ?_)
            · replace h := bite_t h hc77
              refine awp_skip ?_
              (try simp only [Thn, InBlk, ↓reduceIte, Nat.reduceEqDiff])
              refine hK76 _ _ ?_
              clear hK76
              refine awp_seq fun K79 hK79 => ?_
              refine awp_block ?_
              replace h := chk_some h
              obtain ⟨hp0, h⟩ := h
              replace h := chk_some h
              obtain ⟨hp1, h⟩ := h
              refine awp_regQ mixed ftCOk [(1, .pp 4 0), (4, .v (.int .i64 t4)), (72, .v (.bool ((a0_2.getD t4.toNat 0) != (a0_0.getD t4.toNat 0))))] [.row false (.ints .i64 a0_0), .row false (.ints .i64 a0_2), .row false (.pairs a0_3), .row false (.ints .i64 a0_4), .rbox [.sl 0, .v (.int .i64 a0_1), .sl 1, .sl 2, .sl 3]] ?_
              clear hp0 hp1
              refine awp_cond (t := 72) rfl (fun hc80 => ?_) (fun hc80 => ?_)
              · replace h := bite_t h hc80
                refine awp_reg ftCOk [(2, .v (.bool false))] [.row false (.ints .i64 a0_0), .row false (.ints .i64 a0_2), .row false (.pairs a0_3), .row false (.ints .i64 a0_4), .rbox [.sl 0, .v (.int .i64 a0_1), .sl 1, .sl 2, .sl 3]] ?_
                refine awp_ret ?_
                (try simp only [Thn, InBlk, ↓reduceIte, Nat.reduceEqDiff])
                obtain rfl := Option.some.inj h
                refine LoopQ.out rfl ?_
                exact Red.selA [0, 1, 2, 3] Red.auto
              · replace h := bite_f h hc80
                refine awp_skip ?_
                (try simp only [Thn, InBlk, ↓reduceIte, Nat.reduceEqDiff])
                (try simp only [Thn, InBlk, ↓reduceIte, Nat.reduceEqDiff])
                refine hK79 _ _ ?_
                clear hK79
                replace h := chk_some h
                obtain ⟨hp0, h⟩ := h
                refine awp_regE ftCOk [(1, .pp 4 0), (4, .v (.int .i64 (t4 + 1)))] [.row false (.ints .i64 a0_0), .row false (.ints .i64 a0_2), .row false (.pairs a0_3), .row false (.ints .i64 a0_4), .rbox [.sl 0, .v (.int .i64 a0_1), .sl 1, .sl 2, .sl 3]] ?_
                clear hp0
                obtain rfl := Option.some.inj h
                refine LoopQ.next ?_
                exact Red.auto
            · replace h := bite_f h hc77
              refine awp_exit ?_
              (try simp only [Thn, InBlk, ↓reduceIte, Nat.reduceEqDiff])
              obtain rfl := Option.some.inj h
              refine LoopQ.out rfl ?_
              exact Red.auto
          · clear hx
            rcases x81 with (⟨⟩ | ⟨⟩)
            · try dsimp only [Sum.elim_inl, Sum.elim_inr] at h
              try dsimp only [Sum.elim_inl, Sum.elim_inr]
              (try simp only [Thn, InBlk, ↓reduceIte, Nat.reduceEqDiff])
              (try simp only [Thn, InBlk, ↓reduceIte, Nat.reduceEqDiff])
              (try simp only [Thn, InBlk, ↓reduceIte, Nat.reduceEqDiff])
              refine hK62 _ _ ?_
              clear hK62
              refine awp_seq fun K101 hK101 => ?_
              refine awp_reg ftCOk [(1, .pp 4 0), (5, .v (.int .i64 0))] [.row false (.ints .i64 a0_0), .row false (.ints .i64 a0_2), .row false (.pairs a0_3), .row false (.ints .i64 a0_4), .rbox [.sl 0, .v (.int .i64 a0_1), .sl 1, .sl 2, .sl 3]] ?_
              refine awp_block ?_
              replace h := bind_some h
              obtain ⟨x120, hx, h⟩ := h
              refine awp_loopL hx (fun (t5 : Int) => [(1, .pp 4 0), (5, .v (.int .i64 t5))]) (fun (t5 : Int) => [.row false (.ints .i64 a0_0), .row false (.ints .i64 a0_2), .row false (.pairs a0_3), .row false (.ints .i64 a0_4), .rbox [.sl 0, .v (.int .i64 a0_1), .sl 1, .sl 2, .sl 3]]) (Sum.elim (fun (_ : Unit) => Exit.exit 4) (fun (_ : Unit) => Exit.ret)) (Sum.elim (fun (_ : Unit) => [(1, .pp 4 0)]) (fun (_ : Unit) => [(2, .v (.bool false))])) (Sum.elim (fun (_ : Unit) => [.row false (.ints .i64 a0_0), .row false (.ints .i64 a0_2), .row false (.pairs a0_3), .row false (.ints .i64 a0_4), .rbox [.sl 0, .v (.int .i64 a0_1), .sl 1, .sl 2, .sl 3]]) (fun (_ : Unit) => [.row false (.ints .i64 a0_0), .row false (.ints .i64 a0_2), .row false (.pairs a0_3), .row false (.ints .i64 a0_4)])) ?_ ?_ ?_ ?_
              · rintro (⟨⟩ | ⟨⟩) hy <;> cases hy
              · clear h hx
                exact Red.auto
              · clear h hx
                rintro t5 r h
                unfold spec_ChannelValid_b2 at h
                try dsimp only at h
                try dsimp only
                refine awp_seq fun K115 hK115 => ?_
                refine awp_reg ftCOk [(1, .pp 4 0), (5, .v (.int .i64 t5)), (77, .v (.bool (decide (t5 < (a0_3.length : Int)))))] [.row false (.ints .i64 a0_0), .row false (.ints .i64 a0_2), .row false (.pairs a0_3), .row false (.ints .i64 a0_4), .rbox [.sl 0, .v (.int .i64 a0_1), .sl 1, .sl 2, .sl 3]] ?_
                refine awp_cond (t := 77) rfl (fun hc116 => ?_) (fun hc116 => ?_)
                · replace h := bite_t h hc116
                  refine awp_skip ?_
                  (try simp only [Thn, InBlk, ↓reduceIte, Nat.reduceEqDiff])
                  refine hK115 _ _ ?_
                  clear hK115
                  refine awp_seq fun K118 hK118 => ?_
                  refine awp_block ?_
                  replace h := chk_some h
                  obtain ⟨hp0, h⟩ := h
                  replace h := chk_some h
                  obtain ⟨hp1, h⟩ := h
                  have hwhp1 := wrap_fits hp1.1 hp1.2
                  replace h := chk_some h
                  obtain ⟨hp2, h⟩ := h
                  replace h := chk_some h
                  obtain ⟨hp3, h⟩ := h
                  refine awp_to [(1, .pp 4 0), (5, .v (.int .i64 t5)), (110, .v (.bool ((!(decide (0 ≤ (a0_3.getD t5.toNat (0, 0)).1) && decide ((a0_3.getD t5.toNat (0, 0)).1 ≤ ((a0_0.length : Int) - 1)))) || ((a0_3.getD t5.toNat (0, 0)).2 != (a0_0.getD (((a0_3.getD t5.toNat (0, 0)).1).toNat) 0)))))] [.row false (.ints .i64 a0_0), .row false (.ints .i64 a0_2), .row false (.pairs a0_3), .row false (.ints .i64 a0_4), .rbox [.sl 0, .v (.int .i64 a0_1), .sl 1, .sl 2, .sl 3]] ?_ ?_
                  · clear h
                    intro K hK
                    refine awp_quietg mixed ftCOk (by kernel_rfl) ?_
                    simp (maxSteps := 4000000) only [go_sem, Nat.reduceBEq, Nat.reduceLT, Nat.reduceAdd, Nat.reduceLeDiff, Nat.reduceSub, Nat.reduceEqDiff, Int.reduceToNat, reduceCtorEq, ↓reduceIte]
                    repeat' (first | refine And.intro ?_ ?_ | intro hg)
                    all_goals (try simp (disch := omega) only [wrap_fits])
                    all_goals first
                      | (refine hK _ _ ?_; exact Red.auto)
                      | exact trivial
                      | assumption
                      | omega
                      | exact wrap_fits (by omega) (by omega)
                      | (have hq := hp2 (by first | assumption | (simp only [*, Bool.false_or, Bool.true_or, Bool.or_false, Bool.or_true, Bool.false_and, Bool.true_and, Bool.and_false, Bool.and_true, Bool.not_true, Bool.not_false, beq_self_eq_true]; done) | (simp_all; done)); omega)
                      | (have hq := hp3 (by first | assumption | (simp only [*, Bool.false_or, Bool.true_or, Bool.or_false, Bool.or_true, Bool.false_and, Bool.true_and, Bool.and_false, Bool.and_true, Bool.not_true, Bool.not_false, beq_self_eq_true]; done) | (simp_all; done)); omega)
                      | (simp_all; done)
                      | (simp_all; omega)
                  · clear hp0 hp1 hp2 hp3
                    refine awp_cond (t := 110) rfl (fun hc119 => ?_) (fun hc119 => ?_)
                    · replace h := bite_t h hc119
                      refine awp_reg ftCOk [(2, .v (.bool false))] [.row false (.ints .i64 a0_0), .row false (.ints .i64 a0_2), .row false (.pairs a0_3), .row false (.ints .i64 a0_4), .rbox [.sl 0, .v (.int .i64 a0_1), .sl 1, .sl 2, .sl 3]] ?_
                      refine awp_ret ?_
                      (try simp only [Thn, InBlk, ↓reduceIte, Nat.reduceEqDiff])
                      obtain rfl := Option.some.inj h
                      refine LoopQ.out rfl ?_
                      exact Red.selA [0, 1, 2, 3] Red.auto
                    · replace h := bite_f h hc119
                      refine awp_skip ?_
                      (try simp only [Thn, InBlk, ↓reduceIte, Nat.reduceEqDiff])
                      (try simp only [Thn, InBlk, ↓reduceIte, Nat.reduceEqDiff])
                      refine hK118 _ _ ?_
                      clear hK118
                      replace h := chk_some h
                      obtain ⟨hp0, h⟩ := h
                      refine awp_regE ftCOk [(1, .pp 4 0), (5, .v (.int .i64 (t5 + 1)))] [.row false (.ints .i64 a0_0), .row false (.ints .i64 a0_2), .row false (.pairs a0_3), .row false (.ints .i64 a0_4), .rbox [.sl 0, .v (.int .i64 a0_1), .sl 1, .sl 2, .sl 3]] ?_
                      clear hp0
                      obtain rfl := Option.some.inj h
                      refine LoopQ.next ?_
                      exact Red.auto
                · replace h := bite_f h hc116
                  refine awp_exit ?_
                  (try simp only [Thn, InBlk, ↓reduceIte, Nat.reduceEqDiff])
                  obtain rfl := Option.some.inj h
                  refine LoopQ.out rfl ?_
                  exact Red.auto
              · clear hx
                rcases x120 with (⟨⟩ | ⟨⟩)
                · try dsimp only [Sum.elim_inl, Sum.elim_inr] at h
                  try dsimp only [Sum.elim_inl, Sum.elim_inr]
                  (try simp only [Thn, InBlk, ↓reduceIte, Nat.reduceEqDiff])
                  (try simp only [Thn, InBlk, ↓reduceIte, Nat.reduceEqDiff])
                  (try simp only [Thn, InBlk, ↓reduceIte, Nat.reduceEqDiff])
                  refine hK101 _ _ ?_
                  clear hK101
                  refine awp_seq fun K140 hK140 => ?_
                  refine awp_reg ftCOk [(1, .pp 4 0), (6, .v (.int .i64 0))] [.row false (.ints .i64 a0_0), .row false (.ints .i64 a0_2), .row false (.pairs a0_3), .row false (.ints .i64 a0_4), .rbox [.sl 0, .v (.int .i64 a0_1), .sl 1, .sl 2, .sl 3]] ?_
                  refine awp_block ?_
                  replace h := bind_some h
                  obtain ⟨x159, hx, h⟩ := h
                  refine awp_loopL hx (fun (t6 : Int) => [(1, .pp 4 0), (6, .v (.int .i64 t6))]) (fun (t6 : Int) => [.row false (.ints .i64 a0_0), .row false (.ints .i64 a0_2), .row false (.pairs a0_3), .row false (.ints .i64 a0_4), .rbox [.sl 0, .v (.int .i64 a0_1), .sl 1, .sl 2, .sl 3]]) (Sum.elim (fun (_ : Unit) => Exit.exit 6) (fun (_ : Unit) => Exit.ret)) (Sum.elim (fun (_ : Unit) => []) (fun (_ : Unit) => [(2, .v (.bool false))])) (Sum.elim (fun (_ : Unit) => [.row false (.ints .i64 a0_0), .row false (.ints .i64 a0_2), .row false (.pairs a0_3), .row false (.ints .i64 a0_4)]) (fun (_ : Unit) => [.row false (.ints .i64 a0_0), .row false (.ints .i64 a0_2), .row false (.pairs a0_3), .row false (.ints .i64 a0_4)])) ?_ ?_ ?_ ?_
                  · rintro (⟨⟩ | ⟨⟩) hy <;> cases hy
                  · clear h hx
                    exact Red.auto
                  · clear h hx
                    rintro t6 r h
                    unfold spec_ChannelValid_b3 at h
                    try dsimp only at h
                    try dsimp only
                    refine awp_seq fun K154 hK154 => ?_
                    refine awp_reg ftCOk [(1, .pp 4 0), (6, .v (.int .i64 t6)), (115, .v (.bool (decide (t6 < (a0_4.length : Int)))))] [.row false (.ints .i64 a0_0), .row false (.ints .i64 a0_2), .row false (.pairs a0_3), .row false (.ints .i64 a0_4), .rbox [.sl 0, .v (.int .i64 a0_1), .sl 1, .sl 2, .sl 3]] ?_
                    refine awp_cond (t := 115) rfl (fun hc155 => ?_) (fun hc155 => ?_)
                    · replace h := bite_t h hc155
                      refine awp_skip ?_
                      (try simp only [Thn, InBlk, ↓reduceIte, Nat.reduceEqDiff])
                      refine hK154 _ _ ?_
                      clear hK154
                      refine awp_seq fun K157 hK157 => ?_
                      refine awp_block ?_
                      replace h := chk_some h
                      obtain ⟨hp0, h⟩ := h
                      refine awp_regQ mixed ftCOk [(1, .pp 4 0), (6, .v (.int .i64 t6)), (127, .v (.bool (!(decide (0 ≤ (a0_4.getD t6.toNat 0)) && decide ((a0_4.getD t6.toNat 0) ≤ (a0_2.length : Int))))))] [.row false (.ints .i64 a0_0), .row false (.ints .i64 a0_2), .row false (.pairs a0_3), .row false (.ints .i64 a0_4), .rbox [.sl 0, .v (.int .i64 a0_1), .sl 1, .sl 2, .sl 3]] ?_
                      clear hp0
                      refine awp_cond (t := 127) rfl (fun hc158 => ?_) (fun hc158 => ?_)
                      · replace h := bite_t h hc158
                        refine awp_reg ftCOk [(2, .v (.bool false))] [.row false (.ints .i64 a0_0), .row false (.ints .i64 a0_2), .row false (.pairs a0_3), .row false (.ints .i64 a0_4), .rbox [.sl 0, .v (.int .i64 a0_1), .sl 1, .sl 2, .sl 3]] ?_
                        refine awp_ret ?_
                        (try simp only [Thn, InBlk, ↓reduceIte, Nat.reduceEqDiff])
                        obtain rfl := Option.some.inj h
                        refine LoopQ.out rfl ?_
                        exact Red.selA [0, 1, 2, 3] Red.auto
                      · replace h := bite_f h hc158
                        refine awp_skip ?_
                        (try simp only [Thn, InBlk, ↓reduceIte, Nat.reduceEqDiff])
                        (try simp only [Thn, InBlk, ↓reduceIte, Nat.reduceEqDiff])
                        refine hK157 _ _ ?_
                        clear hK157
                        replace h := chk_some h
                        obtain ⟨hp0, h⟩ := h
                        refine awp_regE ftCOk [(1, .pp 4 0), (6, .v (.int .i64 (t6 + 1)))] [.row false (.ints .i64 a0_0), .row false (.ints .i64 a0_2), .row false (.pairs a0_3), .row false (.ints .i64 a0_4), .rbox [.sl 0, .v (.int .i64 a0_1), .sl 1, .sl 2, .sl 3]] ?_
                        clear hp0
                        obtain rfl := Option.some.inj h
                        refine LoopQ.next ?_
                        exact Red.auto
                    · replace h := bite_f h hc155
                      refine awp_exit ?_
                      (try simp only [Thn, InBlk, ↓reduceIte, Nat.reduceEqDiff])
                      obtain rfl := Option.some.inj h
                      refine LoopQ.out rfl ?_
                      exact Red.selA [0, 1, 2, 3] Red.auto
                  · clear hx
                    rcases x159 with (⟨⟩ | ⟨⟩)
                    · try dsimp only [Sum.elim_inl, Sum.elim_inr] at h
                      try dsimp only [Sum.elim_inl, Sum.elim_inr]
                      (try simp only [Thn, InBlk, ↓reduceIte, Nat.reduceEqDiff])
                      (try simp only [Thn, InBlk, ↓reduceIte, Nat.reduceEqDiff])
                      (try simp only [Thn, InBlk, ↓reduceIte, Nat.reduceEqDiff])
                      refine hK140 _ _ ?_
                      clear hK140
                      refine awp_reg ftCOk [(2, .v (.bool true))] [.row false (.ints .i64 a0_0), .row false (.ints .i64 a0_2), .row false (.pairs a0_3), .row false (.ints .i64 a0_4)] ?_
                      refine awp_ret ?_
                      (try simp only [Thn, InBlk, ↓reduceIte, Nat.reduceEqDiff])
                      obtain rfl := Option.some.inj h
                      refine ⟨by simp, _, [0, 1, 2, 3], (by simp only [go_sem, Nat.reduceBEq, Nat.reduceLT, Nat.reduceAdd, Nat.reduceLeDiff, Nat.reduceSub, Nat.reduceEqDiff, Int.reduceToNat, reduceCtorEq, ↓reduceIte]; exact rfl), ?_, ?_, ?_, ?_⟩
                      · first | exact trivial | exact ⟨trivial, trivial⟩ | exact ⟨trivial, trivial, trivial⟩ | exact ⟨trivial, trivial, trivial, trivial⟩ | (simp only [allP, and_true, true_and]; done) | (simp only [allP, and_true, true_and]; omega)
                      · simp [selOk, pos]
                      · simp
                      · first | exact ⟨rfl, rfl⟩ | (simp only [go_sem, Nat.reduceBEq, Nat.reduceLT, Nat.reduceAdd, Nat.reduceLeDiff, Nat.reduceSub, Nat.reduceEqDiff, Int.reduceToNat, reduceCtorEq, ↓reduceIte]; done) | (simp [go_sem, Nat.reduceBEq, Nat.reduceLT, Nat.reduceAdd, Nat.reduceLeDiff, Nat.reduceSub, Nat.reduceEqDiff, Int.reduceToNat, reduceCtorEq, ↓reduceIte]; done) | (simp only [go_sem, Nat.reduceBEq, Nat.reduceLT, Nat.reduceAdd, Nat.reduceLeDiff, Nat.reduceSub, Nat.reduceEqDiff, Int.reduceToNat, reduceCtorEq, ↓reduceIte]; exact ⟨rfl, rfl⟩) | (simp_all [go_sem, Nat.reduceBEq, Nat.reduceLT, Nat.reduceAdd, Nat.reduceLeDiff, Nat.reduceSub, Nat.reduceEqDiff, Int.reduceToNat, reduceCtorEq, ↓reduceIte]; done)
                    · try dsimp only [Sum.elim_inl, Sum.elim_inr] at h
                      try dsimp only [Sum.elim_inl, Sum.elim_inr]
                      (try simp only [Thn, InBlk, ↓reduceIte, Nat.reduceEqDiff])
                      obtain rfl := Option.some.inj h
                      refine ⟨by simp, _, [0, 1, 2, 3], (by simp only [go_sem, Nat.reduceBEq, Nat.reduceLT, Nat.reduceAdd, Nat.reduceLeDiff, Nat.reduceSub, Nat.reduceEqDiff, Int.reduceToNat, reduceCtorEq, ↓reduceIte]; exact rfl), ?_, ?_, ?_, ?_⟩
                      · first | exact trivial | exact ⟨trivial, trivial⟩ | exact ⟨trivial, trivial, trivial⟩ | exact ⟨trivial, trivial, trivial, trivial⟩ | (simp only [allP, and_true, true_and]; done) | (simp only [allP, and_true, true_and]; omega)
                      · simp [selOk, pos]
                      · simp
                      · first | exact ⟨rfl, rfl⟩ | (simp only [go_sem, Nat.reduceBEq, Nat.reduceLT, Nat.reduceAdd, Nat.reduceLeDiff, Nat.reduceSub, Nat.reduceEqDiff, Int.reduceToNat, reduceCtorEq, ↓reduceIte]; done) | (simp [go_sem, Nat.reduceBEq, Nat.reduceLT, Nat.reduceAdd, Nat.reduceLeDiff, Nat.reduceSub, Nat.reduceEqDiff, Int.reduceToNat, reduceCtorEq, ↓reduceIte]; done) | (simp only [go_sem, Nat.reduceBEq, Nat.reduceLT, Nat.reduceAdd, Nat.reduceLeDiff, Nat.reduceSub, Nat.reduceEqDiff, Int.reduceToNat, reduceCtorEq, ↓reduceIte]; exact ⟨rfl, rfl⟩) | (simp_all [go_sem, Nat.reduceBEq, Nat.reduceLT, Nat.reduceAdd, Nat.reduceLeDiff, Nat.reduceSub, Nat.reduceEqDiff, Int.reduceToNat, reduceCtorEq, ↓reduceIte]; done)
                · try dsimp only [Sum.elim_inl, Sum.elim_inr] at h
                  try dsimp only [Sum.elim_inl, Sum.elim_inr]
                  (try simp only [Thn, InBlk, ↓reduceIte, Nat.reduceEqDiff])
                  obtain rfl := Option.some.inj h
                  refine ⟨by simp, _, [0, 1, 2, 3], (by simp only [go_sem, Nat.reduceBEq, Nat.reduceLT, Nat.reduceAdd, Nat.reduceLeDiff, Nat.reduceSub, Nat.reduceEqDiff, Int.reduceToNat, reduceCtorEq, ↓reduceIte]; exact rfl), ?_, ?_, ?_, ?_⟩
                  · first | exact trivial | exact ⟨trivial, trivial⟩ | exact ⟨trivial, trivial, trivial⟩ | exact ⟨trivial, trivial, trivial, trivial⟩ | (simp only [allP, and_true, true_and]; done) | (simp only [allP, and_true, true_and]; omega)
                  · simp [selOk, pos]
                  · simp
                  · first | exact ⟨rfl, rfl⟩ | (simp only [go_sem, Nat.reduceBEq, Nat.reduceLT, Nat.reduceAdd, Nat.reduceLeDiff, Nat.reduceSub, Nat.reduceEqDiff, Int.reduceToNat, reduceCtorEq, ↓reduceIte]; done) | (simp [go_sem, Nat.reduceBEq, Nat.reduceLT, Nat.reduceAdd, Nat.reduceLeDiff, Nat.reduceSub, Nat.reduceEqDiff, Int.reduceToNat, reduceCtorEq, ↓reduceIte]; done) | (simp only [go_sem, Nat.reduceBEq, Nat.reduceLT, Nat.reduceAdd, Nat.reduceLeDiff, Nat.reduceSub, Nat.reduceEqDiff, Int.reduceToNat, reduceCtorEq, ↓reduceIte]; exact ⟨rfl, rfl⟩) | (simp_all [go_sem, Nat.reduceBEq, Nat.reduceLT, Nat.reduceAdd, Nat.reduceLeDiff, Nat.reduceSub, Nat.reduceEqDiff, Int.reduceToNat, reduceCtorEq, ↓reduceIte]; done)
            · try dsimp only [Sum.elim_inl, Sum.elim_inr] at h
              try dsimp only [Sum.elim_inl, Sum.elim_inr]
              (try simp only [Thn, InBlk, ↓reduceIte, Nat.reduceEqDiff])
              obtain rfl := Option.some.inj h
              refine ⟨by simp, _, [0, 1, 2, 3], (by simp only [go_sem, Nat.reduceBEq, Nat.reduceLT, Nat.reduceAdd, Nat.reduceLeDiff, Nat.reduceSub, Nat.reduceEqDiff, Int.reduceToNat, reduceCtorEq, ↓reduceIte]; exact rfl), ?_, ?_, ?_, ?_⟩
              · first | exact trivial | exact ⟨trivial, trivial⟩ | exact ⟨trivial, trivial, trivial⟩ | exact ⟨trivial, trivial, trivial, trivial⟩ | (simp only [allP, and_true, true_and]; done) | (simp only [allP, and_true, true_and]; omega)
              · simp [selOk, pos]
              · simp
              · first | exact ⟨rfl, rfl⟩ | (simp only [go_sem, Nat.reduceBEq, Nat.reduceLT, Nat.reduceAdd, Nat.reduceLeDiff, Nat.reduceSub, Nat.reduceEqDiff, Int.reduceToNat, reduceCtorEq, ↓reduceIte]; done) | (simp [go_sem, Nat.reduceBEq, Nat.reduceLT, Nat.reduceAdd, Nat.reduceLeDiff, Nat.reduceSub, Nat.reduceEqDiff, Int.reduceToNat, reduceCtorEq, ↓reduceIte]; done) | (simp only [go_sem, Nat.reduceBEq, Nat.reduceLT, Nat.reduceAdd, Nat.reduceLeDiff, Nat.reduceSub, Nat.reduceEqDiff, Int.reduceToNat, reduceCtorEq, ↓reduceIte]; exact ⟨rfl, rfl⟩) | (simp_all [go_sem, Nat.reduceBEq, Nat.reduceLT, Nat.reduceAdd, Nat.reduceLeDiff, Nat.reduceSub, Nat.reduceEqDiff, Int.reduceToNat, reduceCtorEq, ↓reduceIte]; done)
    · try dsimp only [Sum.elim_inl, Sum.elim_inr] at h
      try dsimp only [Sum.elim_inl, Sum.elim_inr]
      (try simp only [Thn, InBlk, ↓reduceIte, Nat.reduceEqDiff])
      obtain rfl := Option.some.inj h
      refine ⟨by simp, _, [0, 1, 2, 3], (by simp only [go_sem, Nat.reduceBEq, Nat.reduceLT, Nat.reduceAdd, Nat.reduceLeDiff, Nat.reduceSub, Nat.reduceEqDiff, Int.reduceToNat, reduceCtorEq, ↓reduceIte]; exact rfl), ?_, ?_, ?_, ?_⟩
      · first | exact trivial | exact ⟨trivial, trivial⟩ | exact ⟨trivial, trivial, trivial⟩ | exact ⟨trivial, trivial, trivial, trivial⟩ | (simp only [allP, and_true, true_and]; done) | (simp only [allP, and_true, true_and]; omega)
      · simp [selOk, pos]
      · simp
      · first | exact ⟨rfl, rfl⟩ | (simp only [go_sem, Nat.reduceBEq, Nat.reduceLT, Nat.reduceAdd, Nat.reduceLeDiff, Nat.reduceSub, Nat.reduceEqDiff, Int.reduceToNat, reduceCtorEq, ↓reduceIte]; done) | (simp [go_sem, Nat.reduceBEq, Nat.reduceLT, Nat.reduceAdd, Nat.reduceLeDiff, Nat.reduceSub, Nat.reduceEqDiff, Int.reduceToNat, reduceCtorEq, ↓reduceIte]; done) | (simp only [go_sem, Nat.reduceBEq, Nat.reduceLT, Nat.reduceAdd, Nat.reduceLeDiff, Nat.reduceSub, Nat.reduceEqDiff, Int.reduceToNat, reduceCtorEq, ↓reduceIte]; exact ⟨rfl, rfl⟩) | (simp_all [go_sem, Nat.reduceBEq, Nat.reduceLT, Nat.reduceAdd, Nat.reduceLeDiff, Nat.reduceSub, Nat.reduceEqDiff, Int.reduceToNat, reduceCtorEq, ↓reduceIte]; done)
theorem k_spec_ChannelOf (a0 : List Int) {r : List Int × Int × List Int × (List (Int × Int)) × List Int} (h : spec_ChannelOf a0 = some r) :
    FnA Try.prog 114 [.sl 0] [.row false (.ints .i64 a0)] [] (fun x H => x = .agg [.sl 1, .v (.int .i64 r.2.1), .sl 2, .sl 3, .sl 4] ∧ H = [.row false (.ints .i64 a0), .row true (.ints .i64 r.1), .row true (.ints .i64 r.2.2.1), .row true (.pairs r.2.2.2.1), .row true (.ints .i64 r.2.2.2.2)]) := by
  unfold spec_ChannelOf at h
  refine FnA.of (N := 13) (pin := [0]) (rs := [.cell 2 40]) Try.func114 rfl en114 rfl rfl (by simp) (by simp; try omega) ?_
  refine awp_reg ftCOk [(0, .sl 0), (2, .pp 1 0)] [.row false (.ints .i64 a0), .box [.v (.slice none 0 0), .v (.int .i64 0), .v (.slice none 0 0), .v (.slice none 0 0), .v (.slice none 0 0)]] ?_
  replace h := chk_some h
  obtain ⟨hp0, h⟩ := h
  refine awp_reg ftCOk [(2, .pp 1 0), (3, .pp 3 0)] [.row false (.ints .i64 a0), .box [.v (.slice none 0 0), .v (.int .i64 0), .v (.slice none 0 0), .v (.slice none 0 0), .v (.slice none 0 0)], .row true (.ints .i64 ([] ++ a0)), .box [.sl 2, .v (.int .i64 0), .v (.slice none 0 0), .v (.slice none 0 0), .v (.slice none 0 0)]] ?_
  clear hp0
  refine awp_seq fun K2 hK2 => ?_
  refine awp_red (Red.nilCell (o := 1) (i := 0) (.ints .i64 []) rfl rfl rfl) ?_
  refine awp_red (Red.nilCell (o := 1) (i := 2) (.ints .i64 []) rfl rfl rfl) ?_
  refine awp_red (Red.nilCell (o := 1) (i := 3) (.pairs []) rfl rfl rfl) ?_
  refine awp_red (Red.nilCell (o := 1) (i := 4) (.ints .i64 []) rfl rfl rfl) ?_
  refine awp_red (Red.nilCell (o := 3) (i := 2) (.ints .i64 []) rfl rfl rfl) ?_
  refine awp_red (Red.nilCell (o := 3) (i := 3) (.pairs []) rfl rfl rfl) ?_
  refine awp_red (Red.nilCell (o := 3) (i := 4) (.ints .i64 []) rfl rfl rfl) ?_
  replace h := bind_some h
  obtain ⟨y, hr0, h⟩ := h
  try dsimp only at h
  refine awp_to [(2, .pp 1 0), (3, .pp 3 0), (10, .v (.bool (!y)))] [.row false (.ints .i64 a0), .box [.sl 4, .v (.int .i64 0), .sl 5, .sl 6, .sl 7], .row true (.ints .i64 ([] ++ a0)), .box [.sl 2, .v (.int .i64 0), .sl 8, .sl 9, .sl 10], .row true (.ints .i64 []), .row true (.ints .i64 []), .row true (.pairs []), .row true (.ints .i64 []), .row true (.ints .i64 []), .row true (.pairs []), .row true (.ints .i64 [])] ?_ ?_
  · clear h
    intro K hK
    refine awp_region ftCOk ?_
    simp (maxSteps := 4000000) only [go_sem, Nat.reduceBEq, Nat.reduceLT, Nat.reduceAdd, Nat.reduceLeDiff, Nat.reduceSub, Nat.reduceEqDiff, Int.reduceToNat, reduceCtorEq, ↓reduceIte]
    repeat' (first | refine And.intro ?_ ?_ | intro hg)
    all_goals (try simp (disch := omega) only [wrap_fits])
    all_goals first
      | (refine hK _ _ ?_; exact Red.auto)
      | exact trivial
      | assumption
      | omega
      | exact wrap_fits (by omega) (by omega)
      | (refine wpA_callA (k_spec_ChannelValid ([] ++ a0) 0 [] [] [] (h := hr0)) [2, 8, 9, 10] [] ?_
         rintro x Hc' ⟨rfl, rfl⟩ hlen
         refine vcOps_sound ftCOk ?_
         simp (maxSteps := 4000000) only [go_sem, Nat.reduceBEq, Nat.reduceLT, Nat.reduceAdd, Nat.reduceLeDiff, Nat.reduceSub, Nat.reduceEqDiff, Int.reduceToNat, reduceCtorEq, ↓reduceIte]
         repeat' (first | refine And.intro ?_ ?_ | intro hg)
         all_goals (try simp (disch := omega) only [wrap_fits])
         all_goals first
           | (refine hK _ _ ?_; exact Red.auto)
           | exact trivial
           | assumption
           | omega
           | exact wrap_fits (by omega) (by omega)
           | (simp_all; done)
           | (simp_all; omega))
      | (simp_all; done)
      | (simp_all; omega)
  · clear hr0
    refine awp_cond (t := 10) rfl (fun hc3 => ?_) (fun hc3 => ?_)
    · replace h := bite_t h hc3
      refine awp_reg ftCOk [(2, .pp 1 0)] [.row false (.ints .i64 a0), .box [.v (.slice none 0 0), .v (.int .i64 0), .v (.slice none 0 0), .v (.slice none 0 0), .v (.slice none 0 0)], .row true (.ints .i64 ([] ++ a0)), .box [.sl 2, .v (.int .i64 0), .sl 8, .sl 9, .sl 10], .row true (.ints .i64 []), .row true (.ints .i64 []), .row true (.pairs []), .row true (.ints .i64 []), .row true (.ints .i64 []), .row true (.pairs []), .row true (.ints .i64 [])] ?_
      refine awp_red (Red.nilCell (o := 1) (i := 0) (.ints .i64 []) rfl rfl rfl) ?_
      refine awp_red (Red.nilCell (o := 1) (i := 2) (.ints .i64 []) rfl rfl rfl) ?_
      refine awp_red (Red.nilCell (o := 1) (i := 3) (.pairs []) rfl rfl rfl) ?_
      refine awp_red (Red.nilCell (o := 1) (i := 4) (.ints .i64 []) rfl rfl rfl) ?_
      refine awp_ret ?_
      (try simp only [Thn, InBlk, ↓reduceIte, Nat.reduceEqDiff])
      obtain rfl := Option.some.inj h
      refine ⟨by simp, _, [0, 11, 12, 13, 14], (by simp only [go_sem, Nat.reduceBEq, Nat.reduceLT, Nat.reduceAdd, Nat.reduceLeDiff, Nat.reduceSub, Nat.reduceEqDiff, Int.reduceToNat, reduceCtorEq, ↓reduceIte]; exact rfl), ?_, ?_, ?_, ?_⟩
      · first | exact trivial | exact ⟨trivial, trivial⟩ | exact ⟨trivial, trivial, trivial⟩ | exact ⟨trivial, trivial, trivial, trivial⟩ | (simp only [allP, and_true, true_and]; done) | (simp only [allP, and_true, true_and]; omega)
      · simp [selOk, pos]
      · simp
      · first | exact ⟨rfl, rfl⟩ | (simp only [go_sem, Nat.reduceBEq, Nat.reduceLT, Nat.reduceAdd, Nat.reduceLeDiff, Nat.reduceSub, Nat.reduceEqDiff, Int.reduceToNat, reduceCtorEq, ↓reduceIte]; done) | (simp [go_sem, Nat.reduceBEq, Nat.reduceLT, Nat.reduceAdd, Nat.reduceLeDiff, Nat.reduceSub, Nat.reduceEqDiff, Int.reduceToNat, reduceCtorEq, ↓reduceIte]; done) | (simp only [go_sem, Nat.reduceBEq, Nat.reduceLT, Nat.reduceAdd, Nat.reduceLeDiff, Nat.reduceSub, Nat.reduceEqDiff, Int.reduceToNat, reduceCtorEq, ↓reduceIte]; exact ⟨rfl, rfl⟩) | (simp_all [go_sem, Nat.reduceBEq, Nat.reduceLT, Nat.reduceAdd, Nat.reduceLeDiff, Nat.reduceSub, Nat.reduceEqDiff, Int.reduceToNat, reduceCtorEq, ↓reduceIte]; done)
    · replace h := bite_f h hc3
      refine awp_skip ?_
      (try simp only [Thn, InBlk, ↓reduceIte, Nat.reduceEqDiff])
      refine hK2 _ _ ?_
      clear hK2
      refine awp_reg ftCOk [(2, .pp 1 0)] [.row false (.ints .i64 a0), .box [.sl 2, .v (.int .i64 0), .sl 8, .sl 9, .sl 10], .row true (.ints .i64 ([] ++ a0)), .box [.sl 2, .v (.int .i64 0), .sl 8, .sl 9, .sl 10], .row true (.ints .i64 []), .row true (.ints .i64 []), .row true (.pairs []), .row true (.ints .i64 []), .row true (.ints .i64 []), .row true (.pairs []), .row true (.ints .i64 [])] ?_
      refine awp_ret ?_
      (try simp only [Thn, InBlk, ↓reduceIte, Nat.reduceEqDiff])
      obtain rfl := Option.some.inj h
      refine ⟨by simp, _, [0, 2, 8, 9, 10], (by simp only [go_sem, Nat.reduceBEq, Nat.reduceLT, Nat.reduceAdd, Nat.reduceLeDiff, Nat.reduceSub, Nat.reduceEqDiff, Int.reduceToNat, reduceCtorEq, ↓reduceIte]; exact rfl), ?_, ?_, ?_, ?_⟩
      · first | exact trivial | exact ⟨trivial, trivial⟩ | exact ⟨trivial, trivial, trivial⟩ | exact ⟨trivial, trivial, trivial, trivial⟩ | (simp only [allP, and_true, true_and]; done) | (simp only [allP, and_true, true_and]; omega)
      · simp [selOk, pos]
      · simp
      · first | exact ⟨rfl, rfl⟩ | (simp only [go_sem, Nat.reduceBEq, Nat.reduceLT, Nat.reduceAdd, Nat.reduceLeDiff, Nat.reduceSub, Nat.reduceEqDiff, Int.reduceToNat, reduceCtorEq, ↓reduceIte]; done) | (simp [go_sem, Nat.reduceBEq, Nat.reduceLT, Nat.reduceAdd, Nat.reduceLeDiff, Nat.reduceSub, Nat.reduceEqDiff, Int.reduceToNat, reduceCtorEq, ↓reduceIte]; done) | (simp only [go_sem, Nat.reduceBEq, Nat.reduceLT, Nat.reduceAdd, Nat.reduceLeDiff, Nat.reduceSub, Nat.reduceEqDiff, Int.reduceToNat, reduceCtorEq, ↓reduceIte]; exact ⟨rfl, rfl⟩) | (simp_all [go_sem, Nat.reduceBEq, Nat.reduceLT, Nat.reduceAdd, Nat.reduceLeDiff, Nat.reduceSub, Nat.reduceEqDiff, Int.reduceToNat, reduceCtorEq, ↓reduceIte]; done)
theorem k_spec_l16Copy (a0_0 : List Int) (a0_1 : Int) (a0_2 : List Int) (a0_3 : List (Int × Int)) (a0_4 : List Int) {r : List Int × Int × List Int × (List (Int × Int)) × List Int} (h : spec_l16Copy a0_0 a0_1 a0_2 a0_3 a0_4 = some r) :
    FnA Try.prog 85 [.agg [.sl 0, .v (.int .i64 a0_1), .sl 1, .sl 2, .sl 3]] [.row false (.ints .i64 a0_0), .row false (.ints .i64 a0_2), .row false (.pairs a0_3), .row false (.ints .i64 a0_4)] [] (fun x H => x = .agg [.sl 4, .v (.int .i64 r.2.1), .sl 5, .sl 6, .sl 7] ∧ H = [.row false (.ints .i64 a0_0), .row false (.ints .i64 a0_2), .row false (.pairs a0_3), .row false (.ints .i64 a0_4), .row true (.ints .i64 r.1), .row true (.ints .i64 r.2.2.1), .row true (.pairs r.2.2.2.1), .row true (.ints .i64 r.2.2.2.2)]) := by
  unfold spec_l16Copy at h
  refine FnA.of (N := 22) (pin := [0, 1, 2, 3]) (rs := [.cell 2 40]) Try.func85 rfl en85 rfl rfl (by simp) (by simp; try omega) ?_
  refine awp_reg ftCOk [(1, .pp 4 0), (2, .pp 5 0)] [.row false (.ints .i64 a0_0), .row false (.ints .i64 a0_2), .row false (.pairs a0_3), .row false (.ints .i64 a0_4), .box [.sl 0, .v (.int .i64 a0_1), .sl 1, .sl 2, .sl 3], .box [.v (.slice none 0 0), .v (.int .i64 0), .v (.slice none 0 0), .v (.slice none 0 0), .v (.slice none 0 0)]] ?_
  refine awp_freeze 1 (by rfl) (by rfl) (by exact rfl) ?_
  replace h := chk_some h
  obtain ⟨hp0, h⟩ := h
  replace h := chk_some h
  obtain ⟨hp1, h⟩ := h
  replace h := chk_some h
  obtain ⟨hp2, h⟩ := h
  replace h := chk_some h
  obtain ⟨hp3, h⟩ := h
  refine awp_to [(2, .pp 5 0)] [.row false (.ints .i64 a0_0), .row false (.ints .i64 a0_2), .row false (.pairs a0_3), .row false (.ints .i64 a0_4), .rbox [.sl 0, .v (.int .i64 a0_1), .sl 1, .sl 2, .sl 3], .box [.sl 6, .v (.int .i64 a0_1), .sl 7, .sl 8, .sl 9], .row true (.ints .i64 ([] ++ a0_0)), .row true (.ints .i64 ([] ++ a0_2)), .row true (.pairs ([] ++ a0_3)), .row true (.ints .i64 ([] ++ a0_4))] ?_ ?_
  · clear h
    intro K hK
    refine awp_drawL [0, 1, 2, 3, 4, 5] [1, 4, 7, 11, 15, 2, 5, 8, 12, 16] 10 #[false, true, true, false, true, true, false, true, true, false, false, true, true, false, false, true, true, false, false, false] mixed ftCOk (by kernel_rfl) (by first | rfl | kernel_rfl) (by rfl) (by simp) fun L hL => ?_
    have n9 : L 0 #[true, true, true, true, true, true, true, true, true, true, true, true, true, true, true, true, true, true, true, true] [(1, .pp 4 0), (2, .pp 5 0), (4, .pp 4 0), (5, .sl 0), (6, .sl 6), (7, .pp 4 1), (8, .v (.int .i64 a0_1)), (10, .pp 4 2), (11, .sl 1), (12, .sl 7), (14, .pp 4 3), (15, .sl 2), (16, .sl 8), (18, .pp 4 4), (19, .sl 3), (20, .sl 9), (21, .agg [.sl 6, .v (.int .i64 a0_1), .sl 7, .sl 8, .sl 9])] [.row false (.ints .i64 a0_0), .row false (.ints .i64 a0_2), .row false (.pairs a0_3), .row false (.ints .i64 a0_4), .rbox [.sl 0, .v (.int .i64 a0_1), .sl 1, .sl 2, .sl 3], .box [.sl 6, .v (.int .i64 a0_1), .sl 7, .sl 8, .sl 9], .row true (.ints .i64 ([] ++ a0_0)), .row true (.ints .i64 ([] ++ a0_2)), .row true (.pairs ([] ++ a0_3)), .row true (.ints .i64 ([] ++ a0_4))] := by
      exact hL.fin (by kernel_rfl) (hK _ _ Red.auto)
    have n8 : L 1 #[true, true, true, true, true, true, true, true, true, true, true, true, true, true, true, true, true, true, true, false] [(1, .pp 4 0), (2, .pp 5 0), (4, .pp 4 0), (5, .sl 0), (6, .sl 6), (7, .pp 4 1), (8, .v (.int .i64 a0_1)), (10, .pp 4 2), (11, .sl 1), (12, .sl 7), (14, .pp 4 3), (15, .sl 2), (16, .sl 8), (18, .pp 4 4), (19, .sl 3), (20, .sl 9), (21, .agg [.sl 6, .v (.int .i64 a0_1), .sl 7, .sl 8, .sl 9])] [.row false (.ints .i64 a0_0), .row false (.ints .i64 a0_2), .row false (.pairs a0_3), .row false (.ints .i64 a0_4), .rbox [.sl 0, .v (.int .i64 a0_1), .sl 1, .sl 2, .sl 3], .box [.v (.slice none 0 0), .v (.int .i64 0), .v (.slice none 0 0), .v (.slice none 0 0), .v (.slice none 0 0)], .row true (.ints .i64 ([] ++ a0_0)), .row true (.ints .i64 ([] ++ a0_2)), .row true (.pairs ([] ++ a0_3)), .row true (.ints .i64 ([] ++ a0_4))] := by
      refine hL.step [(19, [], 0, #[true, true, true, true, true, true, true, true, true, true, true, true, true, true, true, true, true, true, true, true])] (by kernel_rfl) ⟨?_, trivial⟩
      · exact hL.edge n9
    have n7 : L 3 #[true, true, true, true, true, true, true, true, true, true, true, true, true, true, true, true, true, false, false, false] [(1, .pp 4 0), (2, .pp 5 0), (4, .pp 4 0), (5, .sl 0), (6, .sl 6), (7, .pp 4 1), (8, .v (.int .i64 a0_1)), (10, .pp 4 2), (11, .sl 1), (12, .sl 7), (14, .pp 4 3), (15, .sl 2), (16, .sl 8), (17, .sl 9), (18, .pp 4 4), (19, .sl 3)] [.row false (.ints .i64 a0_0), .row false (.ints .i64 a0_2), .row false (.pairs a0_3), .row false (.ints .i64 a0_4), .rbox [.sl 0, .v (.int .i64 a0_1), .sl 1, .sl 2, .sl 3], .box [.v (.slice none 0 0), .v (.int .i64 0), .v (.slice none 0 0), .v (.slice none 0 0), .v (.slice none 0 0)], .row true (.ints .i64 ([] ++ a0_0)), .row true (.ints .i64 ([] ++ a0_2)), .row true (.pairs ([] ++ a0_3)), .row true (.ints .i64 [])] := by
      refine hL.step [(17, [18], 1, #[true, true, true, true, true, true, true, true, true, true, true, true, true, true, true, true, true, true, true, false])] (by kernel_rfl) ⟨?_, trivial⟩
      · exact hL.edge n8
    have n6 : L 4 #[true, true, true, true, true, true, true, true, true, true, true, true, true, true, false, true, true, false, false, false] [(1, .pp 4 0), (2, .pp 5 0), (4, .pp 4 0), (5, .sl 0), (6, .sl 6), (7, .pp 4 1), (8, .v (.int .i64 a0_1)), (10, .pp 4 2), (11, .sl 1), (12, .sl 7), (14, .pp 4 3), (15, .sl 2), (16, .sl 8), (18, .pp 4 4), (19, .sl 3)] [.row false (.ints .i64 a0_0), .row false (.ints .i64 a0_2), .row false (.pairs a0_3), .row false (.ints .i64 a0_4), .rbox [.sl 0, .v (.int .i64 a0_1), .sl 1, .sl 2, .sl 3], .box [.v (.slice none 0 0), .v (.int .i64 0), .v (.slice none 0 0), .v (.slice none 0 0), .v (.slice none 0 0)], .row true (.ints .i64 ([] ++ a0_0)), .row true (.ints .i64 ([] ++ a0_2)), .row true (.pairs ([] ++ a0_3))] := by
      refine hL.step [(14, [], 3, #[true, true, true, true, true, true, true, true, true, true, true, true, true, true, true, true, true, false, false, false])] (by kernel_rfl) ⟨?_, trivial⟩
      · exact hL.edge n7
    have n10 : L 4 #[true, true, true, true, true, true, true, true, true, true, true, true, true, false, true, true, true, false, false, false] [(1, .pp 4 0), (2, .pp 5 0), (4, .pp 4 0), (5, .sl 0), (6, .sl 6), (7, .pp 4 1), (8, .v (.int .i64 a0_1)), (10, .pp 4 2), (11, .sl 1), (12, .sl 7), (13, .sl 8), (14, .pp 4 3), (15, .sl 2), (17, .sl 9), (18, .pp 4 4), (19, .sl 3)] [.row false (.ints .i64 a0_0), .row false (.ints .i64 a0_2), .row false (.pairs a0_3), .row false (.ints .i64 a0_4), .rbox [.sl 0, .v (.int .i64 a0_1), .sl 1, .sl 2, .sl 3], .box [.v (.slice none 0 0), .v (.int .i64 0), .v (.slice none 0 0), .v (.slice none 0 0), .v (.slice none 0 0)], .row true (.ints .i64 ([] ++ a0_0)), .row true (.ints .i64 ([] ++ a0_2)), .row true (.pairs []), .row true (.ints .i64 [])] := by
      refine hL.step [(13, [], 3, #[true, true, true, true, true, true, true, true, true, true, true, true, true, true, true, true, true, false, false, false])] (by kernel_rfl) ⟨?_, trivial⟩
      · exact hL.edge n7
    have n5 : L 5 #[true, true, true, true, true, true, true, true, true, true, true, true, true, false, false, true, true, false, false, false] [(1, .pp 4 0), (2, .pp 5 0), (4, .pp 4 0), (5, .sl 0), (6, .sl 6), (7, .pp 4 1), (8, .v (.int .i64 a0_1)), (10, .pp 4 2), (11, .sl 1), (12, .sl 7), (13, .sl 8), (14, .pp 4 3), (15, .sl 2), (18, .pp 4 4), (19, .sl 3)] [.row false (.ints .i64 a0_0), .row false (.ints .i64 a0_2), .row false (.pairs a0_3), .row false (.ints .i64 a0_4), .rbox [.sl 0, .v (.int .i64 a0_1), .sl 1, .sl 2, .sl 3], .box [.v (.slice none 0 0), .v (.int .i64 0), .v (.slice none 0 0), .v (.slice none 0 0), .v (.slice none 0 0)], .row true (.ints .i64 ([] ++ a0_0)), .row true (.ints .i64 ([] ++ a0_2)), .row true (.pairs [])] := by
      refine hL.step [(13, [], 4, #[true, true, true, true, true, true, true, true, true, true, true, true, true, true, false, true, true, false, false, false]), (14, [], 4, #[true, true, true, true, true, true, true, true, true, true, true, true, true, false, true, true, true, false, false, false])] (by kernel_rfl) ⟨?_, ?_, trivial⟩
      · exact hL.edge n6
      · exact hL.edge n10
    have n11 : L 5 #[true, true, true, true, true, true, true, true, true, true, false, true, true, false, true, true, true, false, false, false] [(1, .pp 4 0), (2, .pp 5 0), (4, .pp 4 0), (5, .sl 0), (6, .sl 6), (7, .pp 4 1), (8, .v (.int .i64 a0_1)), (10, .pp 4 2), (11, .sl 1), (12, .sl 7), (14, .pp 4 3), (15, .sl 2), (17, .sl 8), (18, .pp 4 4), (19, .sl 3)] [.row false (.ints .i64 a0_0), .row false (.ints .i64 a0_2), .row false (.pairs a0_3), .row false (.ints .i64 a0_4), .rbox [.sl 0, .v (.int .i64 a0_1), .sl 1, .sl 2, .sl 3], .box [.v (.slice none 0 0), .v (.int .i64 0), .v (.slice none 0 0), .v (.slice none 0 0), .v (.slice none 0 0)], .row true (.ints .i64 ([] ++ a0_0)), .row true (.ints .i64 ([] ++ a0_2)), .row true (.ints .i64 [])] := by
      refine hL.step [(10, [], 4, #[true, true, true, true, true, true, true, true, true, true, true, true, true, false, true, true, true, false, false, false])] (by kernel_rfl) ⟨?_, trivial⟩
      · exact hL.edgeS [0, 1, 2, 3, 4, 5, 6, 7, 9, 8] n10
    have n4 : L 6 #[true, true, true, true, true, true, true, true, true, true, false, true, true, false, false, true, true, false, false, false] [(1, .pp 4 0), (2, .pp 5 0), (4, .pp 4 0), (5, .sl 0), (6, .sl 6), (7, .pp 4 1), (8, .v (.int .i64 a0_1)), (10, .pp 4 2), (11, .sl 1), (12, .sl 7), (14, .pp 4 3), (15, .sl 2), (18, .pp 4 4), (19, .sl 3)] [.row false (.ints .i64 a0_0), .row false (.ints .i64 a0_2), .row false (.pairs a0_3), .row false (.ints .i64 a0_4), .rbox [.sl 0, .v (.int .i64 a0_1), .sl 1, .sl 2, .sl 3], .box [.v (.slice none 0 0), .v (.int .i64 0), .v (.slice none 0 0), .v (.slice none 0 0), .v (.slice none 0 0)], .row true (.ints .i64 ([] ++ a0_0)), .row true (.ints .i64 ([] ++ a0_2))] := by
      refine hL.step [(10, [], 5, #[true, true, true, true, true, true, true, true, true, true, true, true, true, false, false, true, true, false, false, false]), (14, [], 5, #[true, true, true, true, true, true, true, true, true, true, false, true, true, false, true, true, true, false, false, false])] (by kernel_rfl) ⟨?_, ?_, trivial⟩
      · exact hL.edge n5
      · exact hL.edge n11
    have n13 : L 5 #[true, true, true, true, true, true, true, true, true, false, true, true, true, false, true, true, true, false, false, false] [(1, .pp 4 0), (2, .pp 5 0), (4, .pp 4 0), (5, .sl 0), (6, .sl 6), (7, .pp 4 1), (8, .v (.int .i64 a0_1)), (9, .sl 7), (10, .pp 4 2), (11, .sl 1), (13, .sl 8), (14, .pp 4 3), (15, .sl 2), (17, .sl 9), (18, .pp 4 4), (19, .sl 3)] [.row false (.ints .i64 a0_0), .row false (.ints .i64 a0_2), .row false (.pairs a0_3), .row false (.ints .i64 a0_4), .rbox [.sl 0, .v (.int .i64 a0_1), .sl 1, .sl 2, .sl 3], .box [.v (.slice none 0 0), .v (.int .i64 0), .v (.slice none 0 0), .v (.slice none 0 0), .v (.slice none 0 0)], .row true (.ints .i64 ([] ++ a0_0)), .row true (.ints .i64 []), .row true (.pairs []), .row true (.ints .i64 [])] := by
      refine hL.step [(9, [], 4, #[true, true, true, true, true, true, true, true, true, true, true, true, true, false, true, true, true, false, false, false])] (by kernel_rfl) ⟨?_, trivial⟩
      · exact hL.edge n10
    have n12 : L 6 #[true, true, true, true, true, true, true, true, true, false, true, true, true, false, false, true, true, false, false, false] [(1, .pp 4 0), (2, .pp 5 0), (4, .pp 4 0), (5, .sl 0), (6, .sl 6), (7, .pp 4 1), (8, .v (.int .i64 a0_1)), (9, .sl 7), (10, .pp 4 2), (11, .sl 1), (13, .sl 8), (14, .pp 4 3), (15, .sl 2), (18, .pp 4 4), (19, .sl 3)] [.row false (.ints .i64 a0_0), .row false (.ints .i64 a0_2), .row false (.pairs a0_3), .row false (.ints .i64 a0_4), .rbox [.sl 0, .v (.int .i64 a0_1), .sl 1, .sl 2, .sl 3], .box [.v (.slice none 0 0), .v (.int .i64 0), .v (.slice none 0 0), .v (.slice none 0 0), .v (.slice none 0 0)], .row true (.ints .i64 ([] ++ a0_0)), .row true (.ints .i64 []), .row true (.pairs [])] := by
      refine hL.step [(9, [], 5, #[true, true, true, true, true, true, true, true, true, true, true, true, true, false, false, true, true, false, false, false]), (14, [], 5, #[true, true, true, true, true, true, true, true, true, false, true, true, true, false, true, true, true, false, false, false])] (by kernel_rfl) ⟨?_, ?_, trivial⟩
      · exact hL.edge n5
      · exact hL.edge n13
    have n14 : L 6 #[true, true, true, true, true, true, true, true, true, false, false, true, true, false, true, true, true, false, false, false] [(1, .pp 4 0), (2, .pp 5 0), (4, .pp 4 0), (5, .sl 0), (6, .sl 6), (7, .pp 4 1), (8, .v (.int .i64 a0_1)), (9, .sl 7), (10, .pp 4 2), (11, .sl 1), (14, .pp 4 3), (15, .sl 2), (17, .sl 8), (18, .pp 4 4), (19, .sl 3)] [.row false (.ints .i64 a0_0), .row false (.ints .i64 a0_2), .row false (.pairs a0_3), .row false (.ints .i64 a0_4), .rbox [.sl 0, .v (.int .i64 a0_1), .sl 1, .sl 2, .sl 3], .box [.v (.slice none 0 0), .v (.int .i64 0), .v (.slice none 0 0), .v (.slice none 0 0), .v (.slice none 0 0)], .row true (.ints .i64 ([] ++ a0_0)), .row true (.ints .i64 []), .row true (.ints .i64 [])] := by
      refine hL.step [(9, [], 5, #[true, true, true, true, true, true, true, true, true, true, false, true, true, false, true, true, true, false, false, false]), (10, [], 5, #[true, true, true, true, true, true, true, true, true, false, true, true, true, false, true, true, true, false, false, false])] (by kernel_rfl) ⟨?_, ?_, trivial⟩
      · exact hL.edge n11
      · exact hL.edgeS [0, 1, 2, 3, 4, 5, 6, 7, 9, 8] n13
    have n3 : L 7 #[true, true, true, true, true, true, true, true, true, false, false, true, true, false, false, true, true, false, false, false] [(1, .pp 4 0), (2, .pp 5 0), (4, .pp 4 0), (5, .sl 0), (6, .sl 6), (7, .pp 4 1), (8, .v (.int .i64 a0_1)), (9, .sl 7), (10, .pp 4 2), (11, .sl 1), (14, .pp 4 3), (15, .sl 2), (18, .pp 4 4), (19, .sl 3)] [.row false (.ints .i64 a0_0), .row false (.ints .i64 a0_2), .row false (.pairs a0_3), .row false (.ints .i64 a0_4), .rbox [.sl 0, .v (.int .i64 a0_1), .sl 1, .sl 2, .sl 3], .box [.v (.slice none 0 0), .v (.int .i64 0), .v (.slice none 0 0), .v (.slice none 0 0), .v (.slice none 0 0)], .row true (.ints .i64 ([] ++ a0_0)), .row true (.ints .i64 [])] := by
      refine hL.step [(9, [], 6, #[true, true, true, true, true, true, true, true, true, true, false, true, true, false, false, true, true, false, false, false]), (10, [], 6, #[true, true, true, true, true, true, true, true, true, false, true, true, true, false, false, true, true, false, false, false]), (14, [], 6, #[true, true, true, true, true, true, true, true, true, false, false, true, true, false, true, true, true, false, false, false])] (by kernel_rfl) ⟨?_, ?_, ?_, trivial⟩
      · exact hL.edge n4
      · exact hL.edge n12
      · exact hL.edge n14
    have n16 : L 6 #[true, true, true, true, true, true, false, true, true, false, true, true, true, false, true, true, true, false, false, false] [(1, .pp 4 0), (2, .pp 5 0), (4, .pp 4 0), (5, .sl 0), (6, .sl 6), (7, .pp 4 1), (8, .v (.int .i64 a0_1)), (10, .pp 4 2), (11, .sl 1), (13, .sl 7), (14, .pp 4 3), (15, .sl 2), (17, .sl 8), (18, .pp 4 4), (19, .sl 3)] [.row false (.ints .i64 a0_0), .row false (.ints .i64 a0_2), .row false (.pairs a0_3), .row false (.ints .i64 a0_4), .rbox [.sl 0, .v (.int .i64 a0_1), .sl 1, .sl 2, .sl 3], .box [.v (.slice none 0 0), .v (.int .i64 0), .v (.slice none 0 0), .v (.slice none 0 0), .v (.slice none 0 0)], .row true (.ints .i64 ([] ++ a0_0)), .row true (.pairs []), .row true (.ints .i64 [])] := by
      refine hL.step [(6, [], 5, #[true, true, true, true, true, true, true, true, true, false, true, true, true, false, true, true, true, false, false, false])] (by kernel_rfl) ⟨?_, trivial⟩
      · exact hL.edgeS [0, 1, 2, 3, 4, 5, 6, 9, 7, 8] n13
    have n15 : L 7 #[true, true, true, true, true, true, false, true, true, false, true, true, true, false, false, true, true, false, false, false] [(1, .pp 4 0), (2, .pp 5 0), (4, .pp 4 0), (5, .sl 0), (6, .sl 6), (7, .pp 4 1), (8, .v (.int .i64 a0_1)), (10, .pp 4 2), (11, .sl 1), (13, .sl 7), (14, .pp 4 3), (15, .sl 2), (18, .pp 4 4), (19, .sl 3)] [.row false (.ints .i64 a0_0), .row false (.ints .i64 a0_2), .row false (.pairs a0_3), .row false (.ints .i64 a0_4), .rbox [.sl 0, .v (.int .i64 a0_1), .sl 1, .sl 2, .sl 3], .box [.v (.slice none 0 0), .v (.int .i64 0), .v (.slice none 0 0), .v (.slice none 0 0), .v (.slice none 0 0)], .row true (.ints .i64 ([] ++ a0_0)), .row true (.pairs [])] := by
      refine hL.step [(6, [], 6, #[true, true, true, true, true, true, true, true, true, false, true, true, true, false, false, true, true, false, false, false]), (14, [], 6, #[true, true, true, true, true, true, false, true, true, false, true, true, true, false, true, true, true, false, false, false])] (by kernel_rfl) ⟨?_, ?_, trivial⟩
      · exact hL.edgeS [0, 1, 2, 3, 4, 5, 6, 8, 7] n12
      · exact hL.edge n16
    have n17 : L 7 #[true, true, true, true, true, true, false, true, true, false, false, true, true, false, true, true, true, false, false, false] [(1, .pp 4 0), (2, .pp 5 0), (4, .pp 4 0), (5, .sl 0), (6, .sl 6), (7, .pp 4 1), (8, .v (.int .i64 a0_1)), (10, .pp 4 2), (11, .sl 1), (14, .pp 4 3), (15, .sl 2), (17, .sl 7), (18, .pp 4 4), (19, .sl 3)] [.row false (.ints .i64 a0_0), .row false (.ints .i64 a0_2), .row false (.pairs a0_3), .row false (.ints .i64 a0_4), .rbox [.sl 0, .v (.int .i64 a0_1), .sl 1, .sl 2, .sl 3], .box [.v (.slice none 0 0), .v (.int .i64 0), .v (.slice none 0 0), .v (.slice none 0 0), .v (.slice none 0 0)], .row true (.ints .i64 ([] ++ a0_0)), .row true (.ints .i64 [])] := by
      refine hL.step [(6, [], 6, #[true, true, true, true, true, true, true, true, true, false, false, true, true, false, true, true, true, false, false, false]), (10, [], 6, #[true, true, true, true, true, true, false, true, true, false, true, true, true, false, true, true, true, false, false, false])] (by kernel_rfl) ⟨?_, ?_, trivial⟩
      · exact hL.edgeS [0, 1, 2, 3, 4, 5, 6, 8, 7] n14
      · exact hL.edgeS [0, 1, 2, 3, 4, 5, 6, 8, 7] n16
    have n2 : L 8 #[true, true, true, true, true, true, false, true, true, false, false, true, true, false, false, true, true, false, false, false] [(1, .pp 4 0), (2, .pp 5 0), (4, .pp 4 0), (5, .sl 0), (6, .sl 6), (7, .pp 4 1), (8, .v (.int .i64 a0_1)), (10, .pp 4 2), (11, .sl 1), (14, .pp 4 3), (15, .sl 2), (18, .pp 4 4), (19, .sl 3)] [.row false (.ints .i64 a0_0), .row false (.ints .i64 a0_2), .row false (.pairs a0_3), .row false (.ints .i64 a0_4), .rbox [.sl 0, .v (.int .i64 a0_1), .sl 1, .sl 2, .sl 3], .box [.v (.slice none 0 0), .v (.int .i64 0), .v (.slice none 0 0), .v (.slice none 0 0), .v (.slice none 0 0)], .row true (.ints .i64 ([] ++ a0_0))] := by
      refine hL.step [(6, [], 7, #[true, true, true, true, true, true, true, true, true, false, false, true, true, false, false, true, true, false, false, false]), (10, [], 7, #[true, true, true, true, true, true, false, true, true, false, true, true, true, false, false, true, true, false, false, false]), (14, [], 7, #[true, true, true, true, true, true, false, true, true, false, false, true, true, false, true, true, true, false, false, false])] (by kernel_rfl) ⟨?_, ?_, ?_, trivial⟩
      · exact hL.edge n3
      · exact hL.edge n15
      · exact hL.edge n17
    have n20 : L 6 #[true, true, true, false, true, true, true, true, true, false, true, true, true, false, true, true, true, false, false, false] [(1, .pp 4 0), (2, .pp 5 0), (3, .sl 6), (4, .pp 4 0), (5, .sl 0), (7, .pp 4 1), (8, .v (.int .i64 a0_1)), (9, .sl 7), (10, .pp 4 2), (11, .sl 1), (13, .sl 8), (14, .pp 4 3), (15, .sl 2), (17, .sl 9), (18, .pp 4 4), (19, .sl 3)] [.row false (.ints .i64 a0_0), .row false (.ints .i64 a0_2), .row false (.pairs a0_3), .row false (.ints .i64 a0_4), .rbox [.sl 0, .v (.int .i64 a0_1), .sl 1, .sl 2, .sl 3], .box [.v (.slice none 0 0), .v (.int .i64 0), .v (.slice none 0 0), .v (.slice none 0 0), .v (.slice none 0 0)], .row true (.ints .i64 []), .row true (.ints .i64 []), .row true (.pairs []), .row true (.ints .i64 [])] := by
      refine hL.step [(3, [], 5, #[true, true, true, true, true, true, true, true, true, false, true, true, true, false, true, true, true, false, false, false])] (by kernel_rfl) ⟨?_, trivial⟩
      · exact hL.edge n13
    have n19 : L 7 #[true, true, true, false, true, true, true, true, true, false, true, true, true, false, false, true, true, false, false, false] [(1, .pp 4 0), (2, .pp 5 0), (3, .sl 6), (4, .pp 4 0), (5, .sl 0), (7, .pp 4 1), (8, .v (.int .i64 a0_1)), (9, .sl 7), (10, .pp 4 2), (11, .sl 1), (13, .sl 8), (14, .pp 4 3), (15, .sl 2), (18, .pp 4 4), (19, .sl 3)] [.row false (.ints .i64 a0_0), .row false (.ints .i64 a0_2), .row false (.pairs a0_3), .row false (.ints .i64 a0_4), .rbox [.sl 0, .v (.int .i64 a0_1), .sl 1, .sl 2, .sl 3], .box [.v (.slice none 0 0), .v (.int .i64 0), .v (.slice none 0 0), .v (.slice none 0 0), .v (.slice none 0 0)], .row true (.ints .i64 []), .row true (.ints .i64 []), .row true (.pairs [])] := by
      refine hL.step [(3, [], 6, #[true, true, true, true, true, true, true, true, true, false, true, true, true, false, false, true, true, false, false, false]), (14, [], 6, #[true, true, true, false, true, true, true, true, true, false, true, true, true, false, true, true, true, false, false, false])] (by kernel_rfl) ⟨?_, ?_, trivial⟩
      · exact hL.edge n12
      · exact hL.edge n20
    have n21 : L 7 #[true, true, true, false, true, true, true, true, true, false, false, true, true, false, true, true, true, false, false, false] [(1, .pp 4 0), (2, .pp 5 0), (3, .sl 6), (4, .pp 4 0), (5, .sl 0), (7, .pp 4 1), (8, .v (.int .i64 a0_1)), (9, .sl 7), (10, .pp 4 2), (11, .sl 1), (14, .pp 4 3), (15, .sl 2), (17, .sl 8), (18, .pp 4 4), (19, .sl 3)] [.row false (.ints .i64 a0_0), .row false (.ints .i64 a0_2), .row false (.pairs a0_3), .row false (.ints .i64 a0_4), .rbox [.sl 0, .v (.int .i64 a0_1), .sl 1, .sl 2, .sl 3], .box [.v (.slice none 0 0), .v (.int .i64 0), .v (.slice none 0 0), .v (.slice none 0 0), .v (.slice none 0 0)], .row true (.ints .i64 []), .row true (.ints .i64 []), .row true (.ints .i64 [])] := by
      refine hL.step [(3, [], 6, #[true, true, true, true, true, true, true, true, true, false, false, true, true, false, true, true, true, false, false, false]), (10, [], 6, #[true, true, true, false, true, true, true, true, true, false, true, true, true, false, true, true, true, false, false, false])] (by kernel_rfl) ⟨?_, ?_, trivial⟩
      · exact hL.edge n14
      · exact hL.edgeS [0, 1, 2, 3, 4, 5, 6, 7, 9, 8] n20
    have n18 : L 8 #[true, true, true, false, true, true, true, true, true, false, false, true, true, false, false, true, true, false, false, false] [(1, .pp 4 0), (2, .pp 5 0), (3, .sl 6), (4, .pp 4 0), (5, .sl 0), (7, .pp 4 1), (8, .v (.int .i64 a0_1)), (9, .sl 7), (10, .pp 4 2), (11, .sl 1), (14, .pp 4 3), (15, .sl 2), (18, .pp 4 4), (19, .sl 3)] [.row false (.ints .i64 a0_0), .row false (.ints .i64 a0_2), .row false (.pairs a0_3), .row false (.ints .i64 a0_4), .rbox [.sl 0, .v (.int .i64 a0_1), .sl 1, .sl 2, .sl 3], .box [.v (.slice none 0 0), .v (.int .i64 0), .v (.slice none 0 0), .v (.slice none 0 0), .v (.slice none 0 0)], .row true (.ints .i64 []), .row true (.ints .i64 [])] := by
      refine hL.step [(3, [], 7, #[true, true, true, true, true, true, true, true, true, false, false, true, true, false, false, true, true, false, false, false]), (10, [], 7, #[true, true, true, false, true, true, true, true, true, false, true, true, true, false, false, true, true, false, false, false]), (14, [], 7, #[true, true, true, false, true, true, true, true, true, false, false, true, true, false, true, true, true, false, false, false])] (by kernel_rfl) ⟨?_, ?_, ?_, trivial⟩
      · exact hL.edge n3
      · exact hL.edge n19
      · exact hL.edge n21
    have n23 : L 7 #[true, true, true, false, true, true, false, true, true, false, true, true, true, false, true, true, true, false, false, false] [(1, .pp 4 0), (2, .pp 5 0), (3, .sl 6), (4, .pp 4 0), (5, .sl 0), (7, .pp 4 1), (8, .v (.int .i64 a0_1)), (10, .pp 4 2), (11, .sl 1), (13, .sl 7), (14, .pp 4 3), (15, .sl 2), (17, .sl 8), (18, .pp 4 4), (19, .sl 3)] [.row false (.ints .i64 a0_0), .row false (.ints .i64 a0_2), .row false (.pairs a0_3), .row false (.ints .i64 a0_4), .rbox [.sl 0, .v (.int .i64 a0_1), .sl 1, .sl 2, .sl 3], .box [.v (.slice none 0 0), .v (.int .i64 0), .v (.slice none 0 0), .v (.slice none 0 0), .v (.slice none 0 0)], .row true (.ints .i64 []), .row true (.pairs []), .row true (.ints .i64 [])] := by
      refine hL.step [(3, [], 6, #[true, true, true, true, true, true, false, true, true, false, true, true, true, false, true, true, true, false, false, false]), (6, [], 6, #[true, true, true, false, true, true, true, true, true, false, true, true, true, false, true, true, true, false, false, false])] (by kernel_rfl) ⟨?_, ?_, trivial⟩
      · exact hL.edge n16
      · exact hL.edgeS [0, 1, 2, 3, 4, 5, 6, 9, 7, 8] n20
    have n22 : L 8 #[true, true, true, false, true, true, false, true, true, false, true, true, true, false, false, true, true, false, false, false] [(1, .pp 4 0), (2, .pp 5 0), (3, .sl 6), (4, .pp 4 0), (5, .sl 0), (7, .pp 4 1), (8, .v (.int .i64 a0_1)), (10, .pp 4 2), (11, .sl 1), (13, .sl 7), (14, .pp 4 3), (15, .sl 2), (18, .pp 4 4), (19, .sl 3)] [.row false (.ints .i64 a0_0), .row false (.ints .i64 a0_2), .row false (.pairs a0_3), .row false (.ints .i64 a0_4), .rbox [.sl 0, .v (.int .i64 a0_1), .sl 1, .sl 2, .sl 3], .box [.v (.slice none 0 0), .v (.int .i64 0), .v (.slice none 0 0), .v (.slice none 0 0), .v (.slice none 0 0)], .row true (.ints .i64 []), .row true (.pairs [])] := by
      refine hL.step [(3, [], 7, #[true, true, true, true, true, true, false, true, true, false, true, true, true, false, false, true, true, false, false, false]), (6, [], 7, #[true, true, true, false, true, true, true, true, true, false, true, true, true, false, false, true, true, false, false, false]), (14, [], 7, #[true, true, true, false, true, true, false, true, true, false, true, true, true, false, true, true, true, false, false, false])] (by kernel_rfl) ⟨?_, ?_, ?_, trivial⟩
      · exact hL.edge n15
      · exact hL.edgeS [0, 1, 2, 3, 4, 5, 6, 8, 7] n19
      · exact hL.edge n23
    have n24 : L 8 #[true, true, true, false, true, true, false, true, true, false, false, true, true, false, true, true, true, false, false, false] [(1, .pp 4 0), (2, .pp 5 0), (3, .sl 6), (4, .pp 4 0), (5, .sl 0), (7, .pp 4 1), (8, .v (.int .i64 a0_1)), (10, .pp 4 2), (11, .sl 1), (14, .pp 4 3), (15, .sl 2), (17, .sl 7), (18, .pp 4 4), (19, .sl 3)] [.row false (.ints .i64 a0_0), .row false (.ints .i64 a0_2), .row false (.pairs a0_3), .row false (.ints .i64 a0_4), .rbox [.sl 0, .v (.int .i64 a0_1), .sl 1, .sl 2, .sl 3], .box [.v (.slice none 0 0), .v (.int .i64 0), .v (.slice none 0 0), .v (.slice none 0 0), .v (.slice none 0 0)], .row true (.ints .i64 []), .row true (.ints .i64 [])] := by
      refine hL.step [(3, [], 7, #[true, true, true, true, true, true, false, true, true, false, false, true, true, false, true, true, true, false, false, false]), (6, [], 7, #[true, true, true, false, true, true, true, true, true, false, false, true, true, false, true, true, true, false, false, false]), (10, [], 7, #[true, true, true, false, true, true, false, true, true, false, true, true, true, false, true, true, true, false, false, false])] (by kernel_rfl) ⟨?_, ?_, ?_, trivial⟩
      · exact hL.edge n17
      · exact hL.edgeS [0, 1, 2, 3, 4, 5, 6, 8, 7] n21
      · exact hL.edgeS [0, 1, 2, 3, 4, 5, 6, 8, 7] n23
    have n1 : L 9 #[true, true, true, false, true, true, false, true, true, false, false, true, true, false, false, true, true, false, false, false] [(1, .pp 4 0), (2, .pp 5 0), (3, .sl 6), (4, .pp 4 0), (5, .sl 0), (7, .pp 4 1), (8, .v (.int .i64 a0_1)), (10, .pp 4 2), (11, .sl 1), (14, .pp 4 3), (15, .sl 2), (18, .pp 4 4), (19, .sl 3)] [.row false (.ints .i64 a0_0), .row false (.ints .i64 a0_2), .row false (.pairs a0_3), .row false (.ints .i64 a0_4), .rbox [.sl 0, .v (.int .i64 a0_1), .sl 1, .sl 2, .sl 3], .box [.v (.slice none 0 0), .v (.int .i64 0), .v (.slice none 0 0), .v (.slice none 0 0), .v (.slice none 0 0)], .row true (.ints .i64 [])] := by
      refine hL.step [(3, [], 8, #[true, true, true, true, true, true, false, true, true, false, false, true, true, false, false, true, true, false, false, false]), (6, [], 8, #[true, true, true, false, true, true, true, true, true, false, false, true, true, false, false, true, true, false, false, false]), (10, [], 8, #[true, true, true, false, true, true, false, true, true, false, true, true, true, false, false, true, true, false, false, false]), (14, [], 8, #[true, true, true, false, true, true, false, true, true, false, false, true, true, false, true, true, true, false, false, false])] (by kernel_rfl) ⟨?_, ?_, ?_, ?_, trivial⟩
      · exact hL.edge n2
      · exact hL.edge n18
      · exact hL.edge n22
      · exact hL.edge n24
    have n27 : L 7 #[false, true, true, false, true, true, true, true, true, false, true, true, true, false, true, true, true, false, false, false] [(1, .pp 4 0), (2, .pp 5 0), (4, .pp 4 0), (5, .sl 0), (7, .pp 4 1), (8, .v (.int .i64 a0_1)), (9, .sl 6), (10, .pp 4 2), (11, .sl 1), (13, .sl 7), (14, .pp 4 3), (15, .sl 2), (17, .sl 8), (18, .pp 4 4), (19, .sl 3)] [.row false (.ints .i64 a0_0), .row false (.ints .i64 a0_2), .row false (.pairs a0_3), .row false (.ints .i64 a0_4), .rbox [.sl 0, .v (.int .i64 a0_1), .sl 1, .sl 2, .sl 3], .box [.v (.slice none 0 0), .v (.int .i64 0), .v (.slice none 0 0), .v (.slice none 0 0), .v (.slice none 0 0)], .row true (.ints .i64 []), .row true (.pairs []), .row true (.ints .i64 [])] := by
      refine hL.step [(0, [], 6, #[true, true, true, false, true, true, true, true, true, false, true, true, true, false, true, true, true, false, false, false])] (by kernel_rfl) ⟨?_, trivial⟩
      · exact hL.edgeS [0, 1, 2, 3, 4, 5, 9, 6, 7, 8] n20
    have n26 : L 8 #[false, true, true, false, true, true, true, true, true, false, true, true, true, false, false, true, true, false, false, false] [(1, .pp 4 0), (2, .pp 5 0), (4, .pp 4 0), (5, .sl 0), (7, .pp 4 1), (8, .v (.int .i64 a0_1)), (9, .sl 6), (10, .pp 4 2), (11, .sl 1), (13, .sl 7), (14, .pp 4 3), (15, .sl 2), (18, .pp 4 4), (19, .sl 3)] [.row false (.ints .i64 a0_0), .row false (.ints .i64 a0_2), .row false (.pairs a0_3), .row false (.ints .i64 a0_4), .rbox [.sl 0, .v (.int .i64 a0_1), .sl 1, .sl 2, .sl 3], .box [.v (.slice none 0 0), .v (.int .i64 0), .v (.slice none 0 0), .v (.slice none 0 0), .v (.slice none 0 0)], .row true (.ints .i64 []), .row true (.pairs [])] := by
      refine hL.step [(0, [], 7, #[true, true, true, false, true, true, true, true, true, false, true, true, true, false, false, true, true, false, false, false]), (14, [], 7, #[false, true, true, false, true, true, true, true, true, false, true, true, true, false, true, true, true, false, false, false])] (by kernel_rfl) ⟨?_, ?_, trivial⟩
      · exact hL.edgeS [0, 1, 2, 3, 4, 5, 8, 6, 7] n19
      · exact hL.edge n27
    have n28 : L 8 #[false, true, true, false, true, true, true, true, true, false, false, true, true, false, true, true, true, false, false, false] [(1, .pp 4 0), (2, .pp 5 0), (4, .pp 4 0), (5, .sl 0), (7, .pp 4 1), (8, .v (.int .i64 a0_1)), (9, .sl 6), (10, .pp 4 2), (11, .sl 1), (14, .pp 4 3), (15, .sl 2), (17, .sl 7), (18, .pp 4 4), (19, .sl 3)] [.row false (.ints .i64 a0_0), .row false (.ints .i64 a0_2), .row false (.pairs a0_3), .row false (.ints .i64 a0_4), .rbox [.sl 0, .v (.int .i64 a0_1), .sl 1, .sl 2, .sl 3], .box [.v (.slice none 0 0), .v (.int .i64 0), .v (.slice none 0 0), .v (.slice none 0 0), .v (.slice none 0 0)], .row true (.ints .i64 []), .row true (.ints .i64 [])] := by
      refine hL.step [(0, [], 7, #[true, true, true, false, true, true, true, true, true, false, false, true, true, false, true, true, true, false, false, false]), (10, [], 7, #[false, true, true, false, true, true, true, true, true, false, true, true, true, false, true, true, true, false, false, false])] (by kernel_rfl) ⟨?_, ?_, trivial⟩
      · exact hL.edgeS [0, 1, 2, 3, 4, 5, 8, 6, 7] n21
      · exact hL.edgeS [0, 1, 2, 3, 4, 5, 6, 8, 7] n27
    have n25 : L 9 #[false, true, true, false, true, true, true, true, true, false, false, true, true, false, false, true, true, false, false, false] [(1, .pp 4 0), (2, .pp 5 0), (4, .pp 4 0), (5, .sl 0), (7, .pp 4 1), (8, .v (.int .i64 a0_1)), (9, .sl 6), (10, .pp 4 2), (11, .sl 1), (14, .pp 4 3), (15, .sl 2), (18, .pp 4 4), (19, .sl 3)] [.row false (.ints .i64 a0_0), .row false (.ints .i64 a0_2), .row false (.pairs a0_3), .row false (.ints .i64 a0_4), .rbox [.sl 0, .v (.int .i64 a0_1), .sl 1, .sl 2, .sl 3], .box [.v (.slice none 0 0), .v (.int .i64 0), .v (.slice none 0 0), .v (.slice none 0 0), .v (.slice none 0 0)], .row true (.ints .i64 [])] := by
      refine hL.step [(0, [], 8, #[true, true, true, false, true, true, true, true, true, false, false, true, true, false, false, true, true, false, false, false]), (10, [], 8, #[false, true, true, false, true, true, true, true, true, false, true, true, true, false, false, true, true, false, false, false]), (14, [], 8, #[false, true, true, false, true, true, true, true, true, false, false, true, true, false, true, true, true, false, false, false])] (by kernel_rfl) ⟨?_, ?_, ?_, trivial⟩
      · exact hL.edgeS [0, 1, 2, 3, 4, 5, 7, 6] n18
      · exact hL.edge n26
      · exact hL.edge n28
    have n30 : L 8 #[false, true, true, false, true, true, false, true, true, false, true, true, true, false, true, true, true, false, false, false] [(1, .pp 4 0), (2, .pp 5 0), (4, .pp 4 0), (5, .sl 0), (7, .pp 4 1), (8, .v (.int .i64 a0_1)), (10, .pp 4 2), (11, .sl 1), (13, .sl 6), (14, .pp 4 3), (15, .sl 2), (17, .sl 7), (18, .pp 4 4), (19, .sl 3)] [.row false (.ints .i64 a0_0), .row false (.ints .i64 a0_2), .row false (.pairs a0_3), .row false (.ints .i64 a0_4), .rbox [.sl 0, .v (.int .i64 a0_1), .sl 1, .sl 2, .sl 3], .box [.v (.slice none 0 0), .v (.int .i64 0), .v (.slice none 0 0), .v (.slice none 0 0), .v (.slice none 0 0)], .row true (.pairs []), .row true (.ints .i64 [])] := by
      refine hL.step [(0, [], 7, #[true, true, true, false, true, true, false, true, true, false, true, true, true, false, true, true, true, false, false, false]), (6, [], 7, #[false, true, true, false, true, true, true, true, true, false, true, true, true, false, true, true, true, false, false, false])] (by kernel_rfl) ⟨?_, ?_, trivial⟩
      · exact hL.edgeS [0, 1, 2, 3, 4, 5, 8, 6, 7] n23
      · exact hL.edgeS [0, 1, 2, 3, 4, 5, 8, 6, 7] n27
    have n29 : L 9 #[false, true, true, false, true, true, false, true, true, false, true, true, true, false, false, true, true, false, false, false] [(1, .pp 4 0), (2, .pp 5 0), (4, .pp 4 0), (5, .sl 0), (7, .pp 4 1), (8, .v (.int .i64 a0_1)), (10, .pp 4 2), (11, .sl 1), (13, .sl 6), (14, .pp 4 3), (15, .sl 2), (18, .pp 4 4), (19, .sl 3)] [.row false (.ints .i64 a0_0), .row false (.ints .i64 a0_2), .row false (.pairs a0_3), .row false (.ints .i64 a0_4), .rbox [.sl 0, .v (.int .i64 a0_1), .sl 1, .sl 2, .sl 3], .box [.v (.slice none 0 0), .v (.int .i64 0), .v (.slice none 0 0), .v (.slice none 0 0), .v (.slice none 0 0)], .row true (.pairs [])] := by
      refine hL.step [(0, [], 8, #[true, true, true, false, true, true, false, true, true, false, true, true, true, false, false, true, true, false, false, false]), (6, [], 8, #[false, true, true, false, true, true, true, true, true, false, true, true, true, false, false, true, true, false, false, false]), (14, [], 8, #[false, true, true, false, true, true, false, true, true, false, true, true, true, false, true, true, true, false, false, false])] (by kernel_rfl) ⟨?_, ?_, ?_, trivial⟩
      · exact hL.edgeS [0, 1, 2, 3, 4, 5, 7, 6] n22
      · exact hL.edgeS [0, 1, 2, 3, 4, 5, 7, 6] n26
      · exact hL.edge n30
    have n31 : L 9 #[false, true, true, false, true, true, false, true, true, false, false, true, true, false, true, true, true, false, false, false] [(1, .pp 4 0), (2, .pp 5 0), (4, .pp 4 0), (5, .sl 0), (7, .pp 4 1), (8, .v (.int .i64 a0_1)), (10, .pp 4 2), (11, .sl 1), (14, .pp 4 3), (15, .sl 2), (17, .sl 6), (18, .pp 4 4), (19, .sl 3)] [.row false (.ints .i64 a0_0), .row false (.ints .i64 a0_2), .row false (.pairs a0_3), .row false (.ints .i64 a0_4), .rbox [.sl 0, .v (.int .i64 a0_1), .sl 1, .sl 2, .sl 3], .box [.v (.slice none 0 0), .v (.int .i64 0), .v (.slice none 0 0), .v (.slice none 0 0), .v (.slice none 0 0)], .row true (.ints .i64 [])] := by
      refine hL.step [(0, [], 8, #[true, true, true, false, true, true, false, true, true, false, false, true, true, false, true, true, true, false, false, false]), (6, [], 8, #[false, true, true, false, true, true, true, true, true, false, false, true, true, false, true, true, true, false, false, false]), (10, [], 8, #[false, true, true, false, true, true, false, true, true, false, true, true, true, false, true, true, true, false, false, false])] (by kernel_rfl) ⟨?_, ?_, ?_, trivial⟩
      · exact hL.edgeS [0, 1, 2, 3, 4, 5, 7, 6] n24
      · exact hL.edgeS [0, 1, 2, 3, 4, 5, 7, 6] n28
      · exact hL.edgeS [0, 1, 2, 3, 4, 5, 7, 6] n30
    have n0 : L 10 #[false, true, true, false, true, true, false, true, true, false, false, true, true, false, false, true, true, false, false, false] [(1, .pp 4 0), (2, .pp 5 0), (4, .pp 4 0), (5, .sl 0), (7, .pp 4 1), (8, .v (.int .i64 a0_1)), (10, .pp 4 2), (11, .sl 1), (14, .pp 4 3), (15, .sl 2), (18, .pp 4 4), (19, .sl 3)] [.row false (.ints .i64 a0_0), .row false (.ints .i64 a0_2), .row false (.pairs a0_3), .row false (.ints .i64 a0_4), .rbox [.sl 0, .v (.int .i64 a0_1), .sl 1, .sl 2, .sl 3], .box [.v (.slice none 0 0), .v (.int .i64 0), .v (.slice none 0 0), .v (.slice none 0 0), .v (.slice none 0 0)]] := by
      refine hL.step [(0, [], 9, #[true, true, true, false, true, true, false, true, true, false, false, true, true, false, false, true, true, false, false, false]), (6, [], 9, #[false, true, true, false, true, true, true, true, true, false, false, true, true, false, false, true, true, false, false, false]), (10, [], 9, #[false, true, true, false, true, true, false, true, true, false, true, true, true, false, false, true, true, false, false, false]), (14, [], 9, #[false, true, true, false, true, true, false, true, true, false, false, true, true, false, true, true, true, false, false, false])] (by kernel_rfl) ⟨?_, ?_, ?_, ?_, trivial⟩
      · exact hL.edge n1
      · exact hL.edge n25
      · exact hL.edge n29
      · exact hL.edge n31
    simp (maxSteps := 4000000) only [go_sem, Nat.reduceBEq, Nat.reduceLT, Nat.reduceAdd, Nat.reduceLeDiff, Nat.reduceSub, Nat.reduceEqDiff, Int.reduceToNat, reduceCtorEq, ↓reduceIte]
    repeat' (first | refine And.intro ?_ ?_ | intro hg)
    all_goals (try simp (disch := omega) only [wrap_fits])
    all_goals first
      | (refine hL.red ?_ n0; exact Red.auto)
      | exact trivial
      | assumption
      | omega
      | exact wrap_fits (by omega) (by omega)
      | (simp (maxSteps := 4000000) only [go_sem, Nat.reduceBEq, Nat.reduceLT, Nat.reduceAdd, Nat.reduceLeDiff, Nat.reduceSub, Nat.reduceEqDiff, Int.reduceToNat, reduceCtorEq, ↓reduceIte]
         repeat' (first | refine And.intro ?_ ?_ | intro hg)
         all_goals (try simp (disch := omega) only [wrap_fits])
         all_goals first | (refine hL.red ?_ n0; exact Red.auto) | exact trivial | assumption | omega | exact wrap_fits (by omega) (by omega))
      | (simp_all; done)
      | (simp_all; omega)
  · clear hp0 hp1 hp2 hp3
    refine awp_ret ?_
    (try simp only [Thn, InBlk, ↓reduceIte, Nat.reduceEqDiff])
    obtain rfl := Option.some.inj h
    refine ⟨by simp, _, [0, 1, 2, 3, 6, 7, 8, 9], (by simp only [go_sem, Nat.reduceBEq, Nat.reduceLT, Nat.reduceAdd, Nat.reduceLeDiff, Nat.reduceSub, Nat.reduceEqDiff, Int.reduceToNat, reduceCtorEq, ↓reduceIte]; exact rfl), ?_, ?_, ?_, ?_⟩
    · first | exact trivial | exact ⟨trivial, trivial⟩ | exact ⟨trivial, trivial, trivial⟩ | exact ⟨trivial, trivial, trivial, trivial⟩ | (simp only [allP, and_true, true_and]; done) | (simp only [allP, and_true, true_and]; omega)
    · simp [selOk, pos]
    · simp
    · first | exact ⟨rfl, rfl⟩ | (simp only [go_sem, Nat.reduceBEq, Nat.reduceLT, Nat.reduceAdd, Nat.reduceLeDiff, Nat.reduceSub, Nat.reduceEqDiff, Int.reduceToNat, reduceCtorEq, ↓reduceIte]; done) | (simp [go_sem, Nat.reduceBEq, Nat.reduceLT, Nat.reduceAdd, Nat.reduceLeDiff, Nat.reduceSub, Nat.reduceEqDiff, Int.reduceToNat, reduceCtorEq, ↓reduceIte]; done) | (simp only [go_sem, Nat.reduceBEq, Nat.reduceLT, Nat.reduceAdd, Nat.reduceLeDiff, Nat.reduceSub, Nat.reduceEqDiff, Int.reduceToNat, reduceCtorEq, ↓reduceIte]; exact ⟨rfl, rfl⟩) | (simp_all [go_sem, Nat.reduceBEq, Nat.reduceLT, Nat.reduceAdd, Nat.reduceLeDiff, Nat.reduceSub, Nat.reduceEqDiff, Int.reduceToNat, reduceCtorEq, ↓reduceIte]; done)
theorem k_spec_ChannelStep (a0_0 : List Int) (a0_1 : Int) (a0_2 : List Int) (a0_3 : List (Int × Int)) (a0_4 : List Int) (a1 : Int) {r : List Int × Int × List Int × (List (Int × Int)) × List Int × Bool} (h : spec_ChannelStep a0_0 a0_1 a0_2 a0_3 a0_4 a1 = some r) :
    FnA Try.prog 31 [.agg [.sl 0, .v (.int .i64 a0_1), .sl 1, .sl 2, .sl 3], .v (.int .i64 a1)] [.row false (.ints .i64 a0_0), .row false (.ints .i64 a0_2), .row false (.pairs a0_3), .row false (.ints .i64 a0_4)] [] (fun x H => x = .tup [.agg [.sl 4, .v (.int .i64 r.2.1), .sl 5, .sl 6, .sl 7], .v (.bool r.2.2.2.2.2)] ∧ H = [.row false (.ints .i64 a0_0), .row false (.ints .i64 a0_2), .row false (.pairs a0_3), .row false (.ints .i64 a0_4), .row true (.ints .i64 r.1), .row true (.ints .i64 r.2.2.1), .row true (.pairs r.2.2.2.1), .row true (.ints .i64 r.2.2.2.2.1)]) := by
  unfold spec_ChannelStep at h
  refine FnA.of (N := 175) (pin := [0, 1, 2, 3]) (rs := [.cell 4 40, .tmp 5]) Try.func31 rfl en31 rfl rfl (by simp) (by simp; try omega) ?_
  refine awp_reg ftCOk [(1, .v (.int .i64 a1)), (2, .pp 4 0), (4, .pp 5 0)] [.row false (.ints .i64 a0_0), .row false (.ints .i64 a0_2), .row false (.pairs a0_3), .row false (.ints .i64 a0_4), .box [.sl 0, .v (.int .i64 a0_1), .sl 1, .sl 2, .sl 3], .box [.v (.slice none 0 0), .v (.int .i64 0), .v (.slice none 0 0), .v (.slice none 0 0), .v (.slice none 0 0)]] ?_
  refine awp_freeze 2 (by rfl) (by rfl) (by exact rfl) ?_
  refine awp_seq fun K2 hK2 => ?_
  replace h := bind_some h
  obtain ⟨y, hr0, h⟩ := h
  try dsimp only at h
  refine awp_to [(1, .v (.int .i64 a1)), (2, .pp 4 0), (4, .pp 5 0), (10, .v (.bool (!y)))] [.row false (.ints .i64 a0_0), .row false (.ints .i64 a0_2), .row false (.pairs a0_3), .row false (.ints .i64 a0_4), .rbox [.sl 0, .v (.int .i64 a0_1), .sl 1, .sl 2, .sl 3], .box [.v (.slice none 0 0), .v (.int .i64 0), .v (.slice none 0 0), .v (.slice none 0 0), .v (.slice none 0 0)]] ?_ ?_
  · clear h
    intro K hK
    refine awp_region ftCOk ?_
    simp (maxSteps := 4000000) only [go_sem, Nat.reduceBEq, Nat.reduceLT, Nat.reduceAdd, Nat.reduceLeDiff, Nat.reduceSub, Nat.reduceEqDiff, Int.reduceToNat, reduceCtorEq, ↓reduceIte]
    repeat' (first | refine And.intro ?_ ?_ | intro hg)
    all_goals (try simp (disch := omega) only [wrap_fits])
    all_goals first
      | (refine hK _ _ ?_; exact Red.auto)
      | exact trivial
      | assumption
      | omega
      | exact wrap_fits (by omega) (by omega)
      | (refine wpA_callA (k_spec_ChannelValid a0_0 a0_1 a0_2 a0_3 a0_4 (h := hr0)) [0, 1, 2, 3] [] ?_
         rintro x Hc' ⟨rfl, rfl⟩ hlen
         refine vcOps_sound ftCOk ?_
         simp (maxSteps := 4000000) only [go_sem, Nat.reduceBEq, Nat.reduceLT, Nat.reduceAdd, Nat.reduceLeDiff, Nat.reduceSub, Nat.reduceEqDiff, Int.reduceToNat, reduceCtorEq, ↓reduceIte]
         repeat' (first | refine And.intro ?_ ?_ | intro hg)
         all_goals (try simp (disch := omega) only [wrap_fits])
         all_goals first
           | (refine hK _ _ ?_; exact Red.auto)
           | exact trivial
           | assumption
           | omega
           | exact wrap_fits (by omega) (by omega)
           | (simp_all; done)
           | (simp_all; omega))
      | (simp_all; done)
      | (simp_all; omega)
  · clear hr0
    refine awp_cond (t := 10) rfl (fun hc3 => ?_) (fun hc3 => ?_)
    · replace h := bite_t h hc3
      refine awp_reg ftCOk [(4, .pp 5 0), (5, .v (.bool false))] [.row false (.ints .i64 a0_0), .row false (.ints .i64 a0_2), .row false (.pairs a0_3), .row false (.ints .i64 a0_4), .rbox [.sl 0, .v (.int .i64 a0_1), .sl 1, .sl 2, .sl 3], .box [.v (.slice none 0 0), .v (.int .i64 0), .v (.slice none 0 0), .v (.slice none 0 0), .v (.slice none 0 0)]] ?_
      refine awp_red (Red.nilCell (o := 5) (i := 0) (.ints .i64 []) rfl rfl rfl) ?_
      refine awp_red (Red.nilCell (o := 5) (i := 2) (.ints .i64 []) rfl rfl rfl) ?_
      refine awp_red (Red.nilCell (o := 5) (i := 3) (.pairs []) rfl rfl rfl) ?_
      refine awp_red (Red.nilCell (o := 5) (i := 4) (.ints .i64 []) rfl rfl rfl) ?_
      refine awp_ret ?_
      (try simp only [Thn, InBlk, ↓reduceIte, Nat.reduceEqDiff])
      obtain rfl := Option.some.inj h
      refine ⟨by simp, _, [0, 1, 2, 3, 6, 7, 8, 9], (by simp only [go_sem, Nat.reduceBEq, Nat.reduceLT, Nat.reduceAdd, Nat.reduceLeDiff, Nat.reduceSub, Nat.reduceEqDiff, Int.reduceToNat, reduceCtorEq, ↓reduceIte]; exact rfl), ?_, ?_, ?_, ?_⟩
      · first | exact trivial | exact ⟨trivial, trivial⟩ | exact ⟨trivial, trivial, trivial⟩ | exact ⟨trivial, trivial, trivial, trivial⟩ | (simp only [allP, and_true, true_and]; done) | (simp only [allP, and_true, true_and]; omega)
      · simp [selOk, pos]
      · simp
      · first | exact ⟨rfl, rfl⟩ | (simp only [go_sem, Nat.reduceBEq, Nat.reduceLT, Nat.reduceAdd, Nat.reduceLeDiff, Nat.reduceSub, Nat.reduceEqDiff, Int.reduceToNat, reduceCtorEq, ↓reduceIte]; done) | (simp [go_sem, Nat.reduceBEq, Nat.reduceLT, Nat.reduceAdd, Nat.reduceLeDiff, Nat.reduceSub, Nat.reduceEqDiff, Int.reduceToNat, reduceCtorEq, ↓reduceIte]; done) | (simp only [go_sem, Nat.reduceBEq, Nat.reduceLT, Nat.reduceAdd, Nat.reduceLeDiff, Nat.reduceSub, Nat.reduceEqDiff, Int.reduceToNat, reduceCtorEq, ↓reduceIte]; exact ⟨rfl, rfl⟩) | (simp_all [go_sem, Nat.reduceBEq, Nat.reduceLT, Nat.reduceAdd, Nat.reduceLeDiff, Nat.reduceSub, Nat.reduceEqDiff, Int.reduceToNat, reduceCtorEq, ↓reduceIte]; done)
    · replace h := bite_f h hc3
      refine awp_skip ?_
      (try simp only [Thn, InBlk, ↓reduceIte, Nat.reduceEqDiff])
      refine hK2 _ _ ?_
      clear hK2
      replace h := bind_some h
      obtain ⟨⟨y_1, y_2, y_3, y_4, y_5⟩, hr0, h⟩ := h
      try dsimp only at h
      refine awp_to [(1, .v (.int .i64 a1)), (2, .pp 4 0), (4, .pp 5 0), (6, .pp 10 0)] [.row false (.ints .i64 a0_0), .row false (.ints .i64 a0_2), .row false (.pairs a0_3), .row false (.ints .i64 a0_4), .rbox [.sl 0, .v (.int .i64 a0_1), .sl 1, .sl 2, .sl 3], .box [.v (.slice none 0 0), .v (.int .i64 0), .v (.slice none 0 0), .v (.slice none 0 0), .v (.slice none 0 0)], .row true (.ints .i64 y_1), .row true (.ints .i64 y_3), .row true (.pairs y_4), .row true (.ints .i64 y_5), .box [.sl 6, .v (.int .i64 y_2), .sl 7, .sl 8, .sl 9]] ?_ ?_
      · clear h
        intro K hK
        refine awp_region ftCOk ?_
        simp (maxSteps := 4000000) only [go_sem, Nat.reduceBEq, Nat.reduceLT, Nat.reduceAdd, Nat.reduceLeDiff, Nat.reduceSub, Nat.reduceEqDiff, Int.reduceToNat, reduceCtorEq, ↓reduceIte]
        repeat' (first | refine And.intro ?_ ?_ | intro hg)
        all_goals (try simp (disch := omega) only [wrap_fits])
        all_goals first
          | (refine hK _ _ ?_; exact Red.auto)
          | exact trivial
          | assumption
          | omega
          | exact wrap_fits (by omega) (by omega)
          | (refine wpA_callA (k_spec_l16Copy a0_0 a0_1 a0_2 a0_3 a0_4 (h := hr0)) [0, 1, 2, 3] [] ?_
             rintro x Hc' ⟨rfl, rfl⟩ hlen
             refine vcOps_sound ftCOk ?_
             simp (maxSteps := 4000000) only [go_sem, Nat.reduceBEq, Nat.reduceLT, Nat.reduceAdd, Nat.reduceLeDiff, Nat.reduceSub, Nat.reduceEqDiff, Int.reduceToNat, reduceCtorEq, ↓reduceIte]
             repeat' (first | refine And.intro ?_ ?_ | intro hg)
             all_goals (try simp (disch := omega) only [wrap_fits])
             all_goals first
               | (refine hK _ _ ?_; exact Red.auto)
               | exact trivial
               | assumption
               | omega
               | exact wrap_fits (by omega) (by omega)
               | (simp_all; done)
               | (simp_all; omega))
          | (simp_all; done)
          | (simp_all; omega)
      · clear hr0
        refine awp_seq fun K5 hK5 => ?_
        refine awp_reg ftCOk [(1, .v (.int .i64 a1)), (2, .pp 4 0), (4, .pp 5 0), (6, .pp 10 0), (31, .v (.bool (((decide (1 ≤ a1) && decide (a1 ≤ 4)) && ((a0_3.length : Int) == 0)) || ((decide (6 ≤ a1) && decide (a1 ≤ 7)) && ((a0_4.length : Int) == 0)))))] [.row false (.ints .i64 a0_0), .row false (.ints .i64 a0_2), .row false (.pairs a0_3), .row false (.ints .i64 a0_4), .rbox [.sl 0, .v (.int .i64 a0_1), .sl 1, .sl 2, .sl 3], .box [.v (.slice none 0 0), .v (.int .i64 0), .v (.slice none 0 0), .v (.slice none 0 0), .v (.slice none 0 0)], .row true (.ints .i64 y_1), .row true (.ints .i64 y_3), .row true (.pairs y_4), .row true (.ints .i64 y_5), .box [.sl 6, .v (.int .i64 y_2), .sl 7, .sl 8, .sl 9]] ?_
        refine awp_cond (t := 31) rfl (fun hc6 => ?_) (fun hc6 => ?_)
        · replace h := bite_t h hc6
          refine awp_reg ftCOk [(4, .pp 5 0), (5, .v (.bool false))] [.row false (.ints .i64 a0_0), .row false (.ints .i64 a0_2), .row false (.pairs a0_3), .row false (.ints .i64 a0_4), .rbox [.sl 0, .v (.int .i64 a0_1), .sl 1, .sl 2, .sl 3], .box [.sl 6, .v (.int .i64 y_2), .sl 7, .sl 8, .sl 9], .row true (.ints .i64 y_1), .row true (.ints .i64 y_3), .row true (.pairs y_4), .row true (.ints .i64 y_5), .box [.sl 6, .v (.int .i64 y_2), .sl 7, .sl 8, .sl 9]] ?_
          refine awp_ret ?_
          (try simp only [Thn, InBlk, ↓reduceIte, Nat.reduceEqDiff])
          obtain rfl := Option.some.inj h
          refine ⟨by simp, _, [0, 1, 2, 3, 6, 7, 8, 9], (by simp only [go_sem, Nat.reduceBEq, Nat.reduceLT, Nat.reduceAdd, Nat.reduceLeDiff, Nat.reduceSub, Nat.reduceEqDiff, Int.reduceToNat, reduceCtorEq, ↓reduceIte]; exact rfl), ?_, ?_, ?_, ?_⟩
          · first | exact trivial | exact ⟨trivial, trivial⟩ | exact ⟨trivial, trivial, trivial⟩ | exact ⟨trivial, trivial, trivial, trivial⟩ | (simp only [allP, and_true, true_and]; done) | (simp only [allP, and_true, true_and]; omega)
          · simp [selOk, pos]
          · simp
          · first | exact ⟨rfl, rfl⟩ | (simp only [go_sem, Nat.reduceBEq, Nat.reduceLT, Nat.reduceAdd, Nat.reduceLeDiff, Nat.reduceSub, Nat.reduceEqDiff, Int.reduceToNat, reduceCtorEq, ↓reduceIte]; done) | (simp [go_sem, Nat.reduceBEq, Nat.reduceLT, Nat.reduceAdd, Nat.reduceLeDiff, Nat.reduceSub, Nat.reduceEqDiff, Int.reduceToNat, reduceCtorEq, ↓reduceIte]; done) | (simp only [go_sem, Nat.reduceBEq, Nat.reduceLT, Nat.reduceAdd, Nat.reduceLeDiff, Nat.reduceSub, Nat.reduceEqDiff, Int.reduceToNat, reduceCtorEq, ↓reduceIte]; exact ⟨rfl, rfl⟩) | (simp_all [go_sem, Nat.reduceBEq, Nat.reduceLT, Nat.reduceAdd, Nat.reduceLeDiff, Nat.reduceSub, Nat.reduceEqDiff, Int.reduceToNat, reduceCtorEq, ↓reduceIte]; done)
        · replace h := bite_f h hc6
          refine awp_skip ?_
          (try simp only [Thn, InBlk, ↓reduceIte, Nat.reduceEqDiff])
          refine hK5 _ _ ?_
          clear hK5
          refine awp_join h (fun ((t6_1, t6_2s, t6_3s, t6_4s) : Int × List Int × (List (Int × Int)) × List Int) => [(4, .pp 4 0), (6, .pp 5 0)]) (fun ((t6_1, t6_2s, t6_3s, t6_4s) : Int × List Int × (List (Int × Int)) × List Int) => [.row false (.ints .i64 a0_0), .row false (.ints .i64 a0_2), .row false (.pairs a0_3), .row false (.ints .i64 a0_4), .box [.v (.slice none 0 0), .v (.int .i64 0), .v (.slice none 0 0), .v (.slice none 0 0), .v (.slice none 0 0)], .box [.sl 6, .v (.int .i64 t6_1), .sl 7, .sl 8, .sl 9], .row true (.ints .i64 y_1), .row true (.ints .i64 t6_2s), .row true (.pairs t6_3s), .row true (.ints .i64 t6_4s)]) ?_ ?_
          · clear h
            intro k h
            try dsimp only at h
            refine awp_reg ftCOk [(2, .pp 4 0), (4, .pp 5 0), (6, .pp 10 0), (33, .v (.int .i64 a1))] [.row false (.ints .i64 a0_0), .row false (.ints .i64 a0_2), .row false (.pairs a0_3), .row false (.ints .i64 a0_4), .rbox [.sl 0, .v (.int .i64 a0_1), .sl 1, .sl 2, .sl 3], .box [.v (.slice none 0 0), .v (.int .i64 0), .v (.slice none 0 0), .v (.slice none 0 0), .v (.slice none 0 0)], .row true (.ints .i64 y_1), .row true (.ints .i64 y_3), .row true (.pairs y_4), .row true (.ints .i64 y_5), .box [.sl 6, .v (.int .i64 y_2), .sl 7, .sl 8, .sl 9]] ?_
            refine awp_block ?_
            refine awp_reg ftCOk [(2, .pp 4 0), (4, .pp 5 0), (6, .pp 10 0), (33, .v (.int .i64 a1)), (35, .v (.bool (a1 == 0)))] [.row false (.ints .i64 a0_0), .row false (.ints .i64 a0_2), .row false (.pairs a0_3), .row false (.ints .i64 a0_4), .rbox [.sl 0, .v (.int .i64 a0_1), .sl 1, .sl 2, .sl 3], .box [.v (.slice none 0 0), .v (.int .i64 0), .v (.slice none 0 0), .v (.slice none 0 0), .v (.slice none 0 0)], .row true (.ints .i64 y_1), .row true (.ints .i64 y_3), .row true (.pairs y_4), .row true (.ints .i64 y_5), .box [.sl 6, .v (.int .i64 y_2), .sl 7, .sl 8, .sl 9]] ?_
            refine awp_cond (t := 35) rfl (fun hc51 => ?_) (fun hc51 => ?_)
            · replace h := bite_t h hc51
              refine awp_seq fun K65 hK65 => ?_
              refine awp_reg ftCOk [(2, .pp 4 0), (4, .pp 5 0), (6, .pp 10 0), (7, .v (.int .i64 a0_1))] [.row false (.ints .i64 a0_0), .row false (.ints .i64 a0_2), .row false (.pairs a0_3), .row false (.ints .i64 a0_4), .rbox [.sl 0, .v (.int .i64 a0_1), .sl 1, .sl 2, .sl 3], .box [.v (.slice none 0 0), .v (.int .i64 0), .v (.slice none 0 0), .v (.slice none 0 0), .v (.slice none 0 0)], .row true (.ints .i64 y_1), .row true (.ints .i64 y_3), .row true (.pairs y_4), .row true (.ints .i64 y_5), .box [.sl 6, .v (.int .i64 y_2), .sl 7, .sl 8, .sl 9]] ?_
              refine awp_block ?_
              replace h := bind_some h
              obtain ⟨t6_3s_2, hx, h⟩ := h
              refine awp_loopL hx (fun ((t7, t6_3s_1) : Int × (List (Int × Int))) => [(2, .pp 4 0), (4, .pp 5 0), (6, .pp 6 0), (7, .v (.int .i64 t7))]) (fun ((t7, t6_3s_1) : Int × (List (Int × Int))) => [.row false (.ints .i64 a0_0), .row false (.ints .i64 a0_2), .row false (.pairs a0_3), .row false (.ints .i64 a0_4), .rbox [.sl 0, .v (.int .i64 a0_1), .sl 1, .sl 2, .sl 3], .box [.v (.slice none 0 0), .v (.int .i64 0), .v (.slice none 0 0), .v (.slice none 0 0), .v (.slice none 0 0)], .box [.sl 7, .v (.int .i64 y_2), .sl 8, .sl 9, .sl 10], .row true (.ints .i64 y_1), .row true (.ints .i64 y_3), .row true (.pairs t6_3s_1), .row true (.ints .i64 y_5)]) (fun (t6_3s_2 : List (Int × Int)) => Exit.exit 1) (fun (t6_3s_2 : List (Int × Int)) => [(2, .pp 4 0), (4, .pp 5 0), (6, .pp 6 0)]) (fun (t6_3s_2 : List (Int × Int)) => [.row false (.ints .i64 a0_0), .row false (.ints .i64 a0_2), .row false (.pairs a0_3), .row false (.ints .i64 a0_4), .rbox [.sl 0, .v (.int .i64 a0_1), .sl 1, .sl 2, .sl 3], .box [.v (.slice none 0 0), .v (.int .i64 0), .v (.slice none 0 0), .v (.slice none 0 0), .v (.slice none 0 0)], .box [.sl 7, .v (.int .i64 y_2), .sl 8, .sl 9, .sl 10], .row true (.ints .i64 y_1), .row true (.ints .i64 y_3), .row true (.pairs t6_3s_2), .row true (.ints .i64 y_5)]) ?_ ?_ ?_ ?_
              · rintro t6_3s_2 hy <;> cases hy
              · clear h hx
                exact Red.selA [0, 1, 2, 3, 4, 5, 10, 6, 7, 8, 9] Red.auto
              · clear h hx
                rintro ⟨t7, t6_3s_1⟩ r h
                unfold spec_ChannelStep_b0 at h
                try dsimp only at h
                try dsimp only
                refine awp_seq fun K75 hK75 => ?_
                replace h := chk_some h
                obtain ⟨hp0, h⟩ := h
                refine awp_to [(2, .pp 4 0), (4, .pp 5 0), (6, .pp 6 0), (7, .v (.int .i64 t7)), (50, .v (.bool ((decide (t7 < (a0_0.length : Int))) && (decide (t7 < (a0_1 + 3))))))] [.row false (.ints .i64 a0_0), .row false (.ints .i64 a0_2), .row false (.pairs a0_3), .row false (.ints .i64 a0_4), .rbox [.sl 0, .v (.int .i64 a0_1), .sl 1, .sl 2, .sl 3], .box [.v (.slice none 0 0), .v (.int .i64 0), .v (.slice none 0 0), .v (.slice none 0 0), .v (.slice none 0 0)], .box [.sl 7, .v (.int .i64 y_2), .sl 8, .sl 9, .sl 10], .row true (.ints .i64 y_1), .row true (.ints .i64 y_3), .row true (.pairs t6_3s_1), .row true (.ints .i64 y_5)] ?_ ?_
                · clear h
                  intro K hK
                  refine awp_region ftCOk ?_
                  simp (maxSteps := 4000000) only [go_sem, Nat.reduceBEq, Nat.reduceLT, Nat.reduceAdd, Nat.reduceLeDiff, Nat.reduceSub, Nat.reduceEqDiff, Int.reduceToNat, reduceCtorEq, ↓reduceIte]
                  repeat' (first | refine And.intro ?_ ?_ | intro hg)
                  all_goals (try simp (disch := omega) only [wrap_fits])
                  all_goals first
                    | (refine hK _ _ ?_; exact Red.auto)
                    | exact trivial
                    | assumption
                    | omega
                    | exact wrap_fits (by omega) (by omega)
                    | (have hq := hp0 (by first | assumption | (simp only [*, Bool.false_or, Bool.true_or, Bool.or_false, Bool.or_true, Bool.false_and, Bool.true_and, Bool.and_false, Bool.and_true, Bool.not_true, Bool.not_false, beq_self_eq_true]; done) | (simp_all; done)); omega)
                    | (simp_all; done)
                    | (simp_all; omega)
                · clear hp0
                  refine awp_cond (t := 50) rfl (fun hc76 => ?_) (fun hc76 => ?_)
                  · replace h := bite_t h hc76
                    refine awp_skip ?_
                    (try simp only [Thn, InBlk, ↓reduceIte, Nat.reduceEqDiff])
                    refine hK75 _ _ ?_
                    clear hK75
                    refine awp_seq fun K77 hK77 => ?_
                    refine awp_block ?_
                    replace h := chk_some h
                    obtain ⟨hp0, h⟩ := h
                    replace h := chk_some h
                    obtain ⟨hp1, h⟩ := h
                    refine awp_end [(2, .pp 4 0), (4, .pp 5 0), (6, .pp 6 0), (7, .v (.int .i64 t7))] [.row false (.ints .i64 a0_0), .row false (.ints .i64 a0_2), .row false (.pairs a0_3), .row false (.ints .i64 a0_4), .rbox [.sl 0, .v (.int .i64 a0_1), .sl 1, .sl 2, .sl 3], .box [.v (.slice none 0 0), .v (.int .i64 0), .v (.slice none 0 0), .v (.slice none 0 0), .v (.slice none 0 0)], .box [.sl 7, .v (.int .i64 y_2), .sl 8, .sl 9, .sl 10], .row true (.ints .i64 y_1), .row true (.ints .i64 y_3), .row true (.pairs (t6_3s_1 ++ [(t7, (a0_0.getD t7.toNat 0))])), .row true (.ints .i64 y_5), .row true (.pairs [(t7, (a0_0.getD t7.toNat 0))])] ?_ ?_
                    · clear h
                      intro K hK
                      refine awp_drawP [0, 1, 2, 3, 4, 5, 6, 7, 8, 10] (by first | rfl | kernel_rfl) (by rfl) mixed ftCOk (.free 0 (.free 2 (.free 3 (.free 5 (.free 4 (.free 6 (.free 7 (.free 8 (.two 1 9 (.one 9 (.one 10 (.one 11 (.one 12 .fin)))) (.one 1 (.one 10 (.one 11 (.one 12 .fin))))))))))))) (by kernel_rfl) (by simp) ?_
                      simp (maxSteps := 4000000) only [go_sem, Nat.reduceBEq, Nat.reduceLT, Nat.reduceAdd, Nat.reduceLeDiff, Nat.reduceSub, Nat.reduceEqDiff, Int.reduceToNat, reduceCtorEq, ↓reduceIte]
                      repeat' (first | refine And.intro ?_ ?_ | intro hg)
                      all_goals (try simp (disch := omega) only [wrap_fits])
                      all_goals first
                        | (refine hK _ _ ?_; exact Red.auto)
                        | exact trivial
                        | assumption
                        | omega
                        | exact wrap_fits (by omega) (by omega)
                        | (simp (maxSteps := 4000000) only [go_sem, Nat.reduceBEq, Nat.reduceLT, Nat.reduceAdd, Nat.reduceLeDiff, Nat.reduceSub, Nat.reduceEqDiff, Int.reduceToNat, reduceCtorEq, ↓reduceIte]
                           repeat' (first | refine And.intro ?_ ?_ | intro hg)
                           all_goals (try simp (disch := omega) only [wrap_fits])
                           all_goals first | (refine hK _ _ ?_; exact Red.auto) | exact trivial | assumption | omega | exact wrap_fits (by omega) (by omega))
                        | (simp_all; done)
                        | (simp_all; omega)
                    · clear hp0 hp1
                      (try simp only [Thn, InBlk, ↓reduceIte, Nat.reduceEqDiff])
                      (try simp only [Thn, InBlk, ↓reduceIte, Nat.reduceEqDiff])
                      refine hK77 _ _ ?_
                      clear hK77
                      replace h := chk_some h
                      obtain ⟨hp0, h⟩ := h
                      refine awp_regE ftCOk [(2, .pp 4 0), (4, .pp 5 0), (6, .pp 6 0), (7, .v (.int .i64 (t7 + 1)))] [.row false (.ints .i64 a0_0), .row false (.ints .i64 a0_2), .row false (.pairs a0_3), .row false (.ints .i64 a0_4), .rbox [.sl 0, .v (.int .i64 a0_1), .sl 1, .sl 2, .sl 3], .box [.v (.slice none 0 0), .v (.int .i64 0), .v (.slice none 0 0), .v (.slice none 0 0), .v (.slice none 0 0)], .box [.sl 7, .v (.int .i64 y_2), .sl 8, .sl 9, .sl 10], .row true (.ints .i64 y_1), .row true (.ints .i64 y_3), .row true (.pairs (t6_3s_1 ++ [(t7, (a0_0.getD t7.toNat 0))])), .row true (.ints .i64 y_5), .row true (.pairs [(t7, (a0_0.getD t7.toNat 0))])] ?_
                      clear hp0
                      obtain rfl := Option.some.inj h
                      refine LoopQ.next ?_
                      exact Red.selA [0, 1, 2, 3, 4, 5, 6, 7, 8, 9, 10] Red.auto
                  · replace h := bite_f h hc76
                    refine awp_exit ?_
                    (try simp only [Thn, InBlk, ↓reduceIte, Nat.reduceEqDiff])
                    obtain rfl := Option.some.inj h
                    refine LoopQ.out rfl ?_
                    exact Red.auto
              · clear hx
                skip
                · try dsimp only [Sum.elim_inl, Sum.elim_inr] at h
                  try dsimp only [Sum.elim_inl, Sum.elim_inr]
                  (try simp only [Thn, InBlk, ↓reduceIte, Nat.reduceEqDiff])
                  (try simp only [Thn, InBlk, ↓reduceIte, Nat.reduceEqDiff])
                  (try simp only [Thn, InBlk, ↓reduceIte, Nat.reduceEqDiff])
                  refine hK65 _ _ ?_
                  clear hK65
                  refine awp_reg ftCOk [(2, .pp 4 0), (4, .pp 5 0), (6, .pp 6 0), (77, .v (.bool (((t6_3s_2.length : Int) == (a0_3.length : Int)) || (decide (100 < (t6_3s_2.length : Int))))))] [.row false (.ints .i64 a0_0), .row false (.ints .i64 a0_2), .row false (.pairs a0_3), .row false (.ints .i64 a0_4), .rbox [.sl 0, .v (.int .i64 a0_1), .sl 1, .sl 2, .sl 3], .box [.v (.slice none 0 0), .v (.int .i64 0), .v (.slice none 0 0), .v (.slice none 0 0), .v (.slice none 0 0)], .box [.sl 7, .v (.int .i64 y_2), .sl 8, .sl 9, .sl 10], .row true (.ints .i64 y_1), .row true (.ints .i64 y_3), .row true (.pairs t6_3s_2), .row true (.ints .i64 y_5)] ?_
                  refine awp_cond (t := 77) rfl (fun hc79 => ?_) (fun hc79 => ?_)
                  · replace h := bite_t h hc79
                    replace h := bind_some h
                    obtain ⟨⟨y_6, y_7, y_8, y_9, y_10⟩, hr0, h⟩ := h
                    try dsimp only at h
                    refine awp_to [(4, .pp 5 0), (5, .v (.bool false))] [.row false (.ints .i64 a0_0), .row false (.ints .i64 a0_2), .row false (.pairs a0_3), .row false (.ints .i64 a0_4), .rbox [.sl 0, .v (.int .i64 a0_1), .sl 1, .sl 2, .sl 3], .box [.sl 11, .v (.int .i64 y_7), .sl 12, .sl 13, .sl 14], .box [.sl 7, .v (.int .i64 y_2), .sl 8, .sl 9, .sl 10], .row true (.ints .i64 y_1), .row true (.ints .i64 y_3), .row true (.pairs t6_3s_2), .row true (.ints .i64 y_5), .row true (.ints .i64 y_6), .row true (.ints .i64 y_8), .row true (.pairs y_9), .row true (.ints .i64 y_10)] ?_ ?_
                    · clear h
                      intro K hK
                      refine awp_region ftCOk ?_
                      simp (maxSteps := 4000000) only [go_sem, Nat.reduceBEq, Nat.reduceLT, Nat.reduceAdd, Nat.reduceLeDiff, Nat.reduceSub, Nat.reduceEqDiff, Int.reduceToNat, reduceCtorEq, ↓reduceIte]
                      repeat' (first | refine And.intro ?_ ?_ | intro hg)
                      all_goals (try simp (disch := omega) only [wrap_fits])
                      all_goals first
                        | (refine hK _ _ ?_; exact Red.auto)
                        | exact trivial
                        | assumption
                        | omega
                        | exact wrap_fits (by omega) (by omega)
                        | (refine wpA_callA (k_spec_l16Copy a0_0 a0_1 a0_2 a0_3 a0_4 (h := hr0)) [0, 1, 2, 3] [] ?_
                           rintro x Hc' ⟨rfl, rfl⟩ hlen
                           refine vcOps_sound ftCOk ?_
                           simp (maxSteps := 4000000) only [go_sem, Nat.reduceBEq, Nat.reduceLT, Nat.reduceAdd, Nat.reduceLeDiff, Nat.reduceSub, Nat.reduceEqDiff, Int.reduceToNat, reduceCtorEq, ↓reduceIte]
                           repeat' (first | refine And.intro ?_ ?_ | intro hg)
                           all_goals (try simp (disch := omega) only [wrap_fits])
                           all_goals first
                             | (refine hK _ _ ?_; exact Red.auto)
                             | exact trivial
                             | assumption
                             | omega
                             | exact wrap_fits (by omega) (by omega)
                             | (simp_all; done)
                             | (simp_all; omega))
                        | (simp_all; done)
                        | (simp_all; omega)
                    · clear hr0
                      refine awp_ret ?_
                      (try simp only [Thn, InBlk, ↓reduceIte, Nat.reduceEqDiff])
                      obtain rfl := Option.some.inj h
                      refine ⟨by simp, _, [0, 1, 2, 3, 11, 12, 13, 14], (by simp only [go_sem, Nat.reduceBEq, Nat.reduceLT, Nat.reduceAdd, Nat.reduceLeDiff, Nat.reduceSub, Nat.reduceEqDiff, Int.reduceToNat, reduceCtorEq, ↓reduceIte]; exact rfl), ?_, ?_, ?_, ?_⟩
                      · first | exact trivial | exact ⟨trivial, trivial⟩ | exact ⟨trivial, trivial, trivial⟩ | exact ⟨trivial, trivial, trivial, trivial⟩ | (simp only [allP, and_true, true_and]; done) | (simp only [allP, and_true, true_and]; omega)
                      · simp [selOk, pos]
                      · simp
                      · first | exact ⟨rfl, rfl⟩ | (simp only [go_sem, Nat.reduceBEq, Nat.reduceLT, Nat.reduceAdd, Nat.reduceLeDiff, Nat.reduceSub, Nat.reduceEqDiff, Int.reduceToNat, reduceCtorEq, ↓reduceIte]; done) | (simp [go_sem, Nat.reduceBEq, Nat.reduceLT, Nat.reduceAdd, Nat.reduceLeDiff, Nat.reduceSub, Nat.reduceEqDiff, Int.reduceToNat, reduceCtorEq, ↓reduceIte]; done) | (simp only [go_sem, Nat.reduceBEq, Nat.reduceLT, Nat.reduceAdd, Nat.reduceLeDiff, Nat.reduceSub, Nat.reduceEqDiff, Int.reduceToNat, reduceCtorEq, ↓reduceIte]; exact ⟨rfl, rfl⟩) | (simp_all [go_sem, Nat.reduceBEq, Nat.reduceLT, Nat.reduceAdd, Nat.reduceLeDiff, Nat.reduceSub, Nat.reduceEqDiff, Int.reduceToNat, reduceCtorEq, ↓reduceIte]; done)
                  · replace h := bite_f h hc79
                    refine awp_skip ?_
                    (try simp only [Thn, InBlk, ↓reduceIte, Nat.reduceEqDiff])
                    (try simp only [Thn, InBlk, ↓reduceIte, Nat.reduceEqDiff])
                    refine ⟨_, h, ?_⟩
                    exact Red.selA [0, 1, 2, 3, 5, 6, 7, 8, 9, 10] Red.auto
            · replace h := bite_f h hc51
              refine awp_reg ftCOk [(2, .pp 4 0), (4, .pp 5 0), (6, .pp 10 0), (33, .v (.int .i64 a1)), (80, .v (.bool (a1 == 1)))] [.row false (.ints .i64 a0_0), .row false (.ints .i64 a0_2), .row false (.pairs a0_3), .row false (.ints .i64 a0_4), .rbox [.sl 0, .v (.int .i64 a0_1), .sl 1, .sl 2, .sl 3], .box [.v (.slice none 0 0), .v (.int .i64 0), .v (.slice none 0 0), .v (.slice none 0 0), .v (.slice none 0 0)], .row true (.ints .i64 y_1), .row true (.ints .i64 y_3), .row true (.pairs y_4), .row true (.ints .i64 y_5), .box [.sl 6, .v (.int .i64 y_2), .sl 7, .sl 8, .sl 9]] ?_
              refine awp_cond (t := 80) rfl (fun hc80 => ?_) (fun hc80 => ?_)
              · replace h := bite_t h hc80
                refine awp_join h (fun (t6_2s_1 : List Int) => [(4, .pp 4 0), (6, .pp 5 0)]) (fun (t6_2s_1 : List Int) => [.row false (.ints .i64 a0_0), .row false (.ints .i64 a0_2), .row false (.pairs a0_3), .row false (.ints .i64 a0_4), .box [.v (.slice none 0 0), .v (.int .i64 0), .v (.slice none 0 0), .v (.slice none 0 0), .v (.slice none 0 0)], .box [.sl 6, .v (.int .i64 y_2), .sl 7, .sl 8, .sl 9], .row true (.ints .i64 y_1), .row true (.ints .i64 t6_2s_1), .row true (.pairs y_4), .row true (.ints .i64 y_5)]) ?_ ?_
                · clear h
                  intro k_1 h
                  try dsimp only at h
                  replace h := chk_some h
                  obtain ⟨hp0, h⟩ := h
                  refine awp_regQ mixed ftCOk [(2, .pp 4 0), (4, .pp 5 0), (6, .pp 10 0), (90, .v (.bool ((a0_3.getD 0 (0, 0)).1 == (a0_2.length : Int))))] [.row false (.ints .i64 a0_0), .row false (.ints .i64 a0_2), .row false (.pairs a0_3), .row false (.ints .i64 a0_4), .rbox [.sl 0, .v (.int .i64 a0_1), .sl 1, .sl 2, .sl 3], .box [.v (.slice none 0 0), .v (.int .i64 0), .v (.slice none 0 0), .v (.slice none 0 0), .v (.slice none 0 0)], .row true (.ints .i64 y_1), .row true (.ints .i64 y_3), .row true (.pairs y_4), .row true (.ints .i64 y_5), .box [.sl 6, .v (.int .i64 y_2), .sl 7, .sl 8, .sl 9]] ?_
                  clear hp0
                  refine awp_cond (t := 90) rfl (fun hc82 => ?_) (fun hc82 => ?_)
                  · replace h := bite_t h hc82
                    replace h := chk_some h
                    obtain ⟨hp0, h⟩ := h
                    replace h := chk_some h
                    obtain ⟨hp1, h⟩ := h
                    refine awp_end [(4, .pp 5 0), (6, .pp 10 0)] [.row false (.ints .i64 a0_0), .row false (.ints .i64 a0_2), .row false (.pairs a0_3), .row false (.ints .i64 a0_4), .rbox [.sl 0, .v (.int .i64 a0_1), .sl 1, .sl 2, .sl 3], .box [.v (.slice none 0 0), .v (.int .i64 0), .v (.slice none 0 0), .v (.slice none 0 0), .v (.slice none 0 0)], .row true (.ints .i64 y_1), .row true (.ints .i64 (y_3 ++ [(a0_3.getD 0 (0, 0)).2])), .row true (.pairs y_4), .row true (.ints .i64 y_5), .box [.sl 6, .v (.int .i64 y_2), .sl 7, .sl 8, .sl 9], .row true (.ints .i64 [(a0_3.getD 0 (0, 0)).2])] ?_ ?_
                    · clear h
                      intro K hK
                      refine awp_drawP [0, 1, 2, 3, 4, 5, 6, 8, 9, 10] (by first | rfl | kernel_rfl) (by rfl) mixed ftCOk (.free 0 (.free 2 (.free 3 (.free 4 (.free 5 (.free 6 (.two 1 7 (.one 7 (.one 8 (.one 9 (.one 10 .fin)))) (.one 1 (.one 8 (.one 9 (.one 10 .fin))))))))))) (by kernel_rfl) (by simp) ?_
                      simp (maxSteps := 4000000) only [go_sem, Nat.reduceBEq, Nat.reduceLT, Nat.reduceAdd, Nat.reduceLeDiff, Nat.reduceSub, Nat.reduceEqDiff, Int.reduceToNat, reduceCtorEq, ↓reduceIte]
                      repeat' (first | refine And.intro ?_ ?_ | intro hg)
                      all_goals (try simp (disch := omega) only [wrap_fits])
                      all_goals first
                        | (refine hK _ _ ?_; exact Red.auto)
                        | exact trivial
                        | assumption
                        | omega
                        | exact wrap_fits (by omega) (by omega)
                        | (simp (maxSteps := 4000000) only [go_sem, Nat.reduceBEq, Nat.reduceLT, Nat.reduceAdd, Nat.reduceLeDiff, Nat.reduceSub, Nat.reduceEqDiff, Int.reduceToNat, reduceCtorEq, ↓reduceIte]
                           repeat' (first | refine And.intro ?_ ?_ | intro hg)
                           all_goals (try simp (disch := omega) only [wrap_fits])
                           all_goals first | (refine hK _ _ ?_; exact Red.auto) | exact trivial | assumption | omega | exact wrap_fits (by omega) (by omega))
                        | (simp_all; done)
                        | (simp_all; omega)
                    · clear hp0 hp1
                      (try simp only [Thn, InBlk, ↓reduceIte, Nat.reduceEqDiff])
                      refine ⟨_, h, ?_⟩
                      exact Red.selA [0, 1, 2, 3, 5, 10, 6, 7, 8, 9] Red.auto
                  · replace h := bite_f h hc82
                    refine awp_skip ?_
                    (try simp only [Thn, InBlk, ↓reduceIte, Nat.reduceEqDiff])
                    refine ⟨_, h, ?_⟩
                    exact Red.selA [0, 1, 2, 3, 5, 10, 6, 7, 8, 9] Red.auto
                · clear h
                  rintro t6_2s_1 h
                  try dsimp only at h
                  try dsimp only
                  replace h := chk_some h
                  obtain ⟨hp0, h⟩ := h
                  refine awp_regE ftCOk [(4, .pp 4 0), (6, .pp 5 0)] [.row false (.ints .i64 a0_0), .row false (.ints .i64 a0_2), .row false (.pairs a0_3), .row false (.ints .i64 a0_4), .box [.v (.slice none 0 0), .v (.int .i64 0), .v (.slice none 0 0), .v (.slice none 0 0), .v (.slice none 0 0)], .box [.sl 6, .v (.int .i64 y_2), .sl 7, .sl 10, .sl 9], .row true (.ints .i64 y_1), .row true (.ints .i64 t6_2s_1), .row true (.pairs y_4), .row true (.ints .i64 y_5), .view 8 (.pairs ((y_4.take y_4.length).drop 1))] ?_
                  clear hp0
                  (try simp only [Thn, InBlk, ↓reduceIte, Nat.reduceEqDiff])
                  (try simp only [Thn, InBlk, ↓reduceIte, Nat.reduceEqDiff])
                  refine ⟨_, h, ?_⟩
                  refine Red.trans (Red.promote 8 10 (by rfl) (by rfl)) ?_
                  exact Red.selA [0, 1, 2, 3, 4, 5, 6, 7, 10, 9] Red.auto
              · replace h := bite_f h hc80
                refine awp_reg ftCOk [(2, .pp 4 0), (4, .pp 5 0), (6, .pp 10 0), (33, .v (.int .i64 a1)), (105, .v (.bool (a1 == 2)))] [.row false (.ints .i64 a0_0), .row false (.ints .i64 a0_2), .row false (.pairs a0_3), .row false (.ints .i64 a0_4), .rbox [.sl 0, .v (.int .i64 a0_1), .sl 1, .sl 2, .sl 3], .box [.v (.slice none 0 0), .v (.int .i64 0), .v (.slice none 0 0), .v (.slice none 0 0), .v (.slice none 0 0)], .row true (.ints .i64 y_1), .row true (.ints .i64 y_3), .row true (.pairs y_4), .row true (.ints .i64 y_5), .box [.sl 6, .v (.int .i64 y_2), .sl 7, .sl 8, .sl 9]] ?_
                refine awp_cond (t := 105) rfl (fun hc83 => ?_) (fun hc83 => ?_)
                · replace h := bite_t h hc83
                  replace h := chk_some h
                  obtain ⟨hp0, h⟩ := h
                  refine awp_regE ftCOk [(4, .pp 5 0), (6, .pp 10 0)] [.row false (.ints .i64 a0_0), .row false (.ints .i64 a0_2), .row false (.pairs a0_3), .row false (.ints .i64 a0_4), .rbox [.sl 0, .v (.int .i64 a0_1), .sl 1, .sl 2, .sl 3], .box [.v (.slice none 0 0), .v (.int .i64 0), .v (.slice none 0 0), .v (.slice none 0 0), .v (.slice none 0 0)], .row true (.ints .i64 y_1), .row true (.ints .i64 y_3), .row true (.pairs y_4), .row true (.ints .i64 y_5), .box [.sl 6, .v (.int .i64 y_2), .sl 7, .sl 11, .sl 9], .view 8 (.pairs ((y_4.take y_4.length).drop 1))] ?_
                  clear hp0
                  (try simp only [Thn, InBlk, ↓reduceIte, Nat.reduceEqDiff])
                  (try simp only [Thn, InBlk, ↓reduceIte, Nat.reduceEqDiff])
                  refine ⟨_, h, ?_⟩
                  refine Red.trans (Red.promote 8 11 (by rfl) (by rfl)) ?_
                  exact Red.selA [0, 1, 2, 3, 5, 10, 6, 7, 11, 9] Red.auto
                · replace h := bite_f h hc83
                  refine awp_reg ftCOk [(2, .pp 4 0), (4, .pp 5 0), (6, .pp 10 0), (33, .v (.int .i64 a1)), (111, .v (.bool (a1 == 3)))] [.row false (.ints .i64 a0_0), .row false (.ints .i64 a0_2), .row false (.pairs a0_3), .row false (.ints .i64 a0_4), .rbox [.sl 0, .v (.int .i64 a0_1), .sl 1, .sl 2, .sl 3], .box [.v (.slice none 0 0), .v (.int .i64 0), .v (.slice none 0 0), .v (.slice none 0 0), .v (.slice none 0 0)], .row true (.ints .i64 y_1), .row true (.ints .i64 y_3), .row true (.pairs y_4), .row true (.ints .i64 y_5), .box [.sl 6, .v (.int .i64 y_2), .sl 7, .sl 8, .sl 9]] ?_
                  refine awp_cond (t := 111) rfl (fun hc84 => ?_) (fun hc84 => ?_)
                  · replace h := bite_t h hc84
                    refine awp_seq fun K86 hK86 => ?_
                    refine awp_reg ftCOk [(2, .pp 4 0), (4, .pp 5 0), (6, .pp 10 0), (116, .v (.bool ((a0_3.length : Int) == 100)))] [.row false (.ints .i64 a0_0), .row false (.ints .i64 a0_2), .row false (.pairs a0_3), .row false (.ints .i64 a0_4), .rbox [.sl 0, .v (.int .i64 a0_1), .sl 1, .sl 2, .sl 3], .box [.v (.slice none 0 0), .v (.int .i64 0), .v (.slice none 0 0), .v (.slice none 0 0), .v (.slice none 0 0)], .row true (.ints .i64 y_1), .row true (.ints .i64 y_3), .row true (.pairs y_4), .row true (.ints .i64 y_5), .box [.sl 6, .v (.int .i64 y_2), .sl 7, .sl 8, .sl 9]] ?_
                    refine awp_cond (t := 116) rfl (fun hc87 => ?_) (fun hc87 => ?_)
                    · replace h := bite_t h hc87
                      refine awp_reg ftCOk [(4, .pp 5 0), (5, .v (.bool false))] [.row false (.ints .i64 a0_0), .row false (.ints .i64 a0_2), .row false (.pairs a0_3), .row false (.ints .i64 a0_4), .rbox [.sl 0, .v (.int .i64 a0_1), .sl 1, .sl 2, .sl 3], .box [.sl 6, .v (.int .i64 y_2), .sl 7, .sl 8, .sl 9], .row true (.ints .i64 y_1), .row true (.ints .i64 y_3), .row true (.pairs y_4), .row true (.ints .i64 y_5), .box [.sl 6, .v (.int .i64 y_2), .sl 7, .sl 8, .sl 9]] ?_
                      refine awp_ret ?_
                      (try simp only [Thn, InBlk, ↓reduceIte, Nat.reduceEqDiff])
                      obtain rfl := Option.some.inj h
                      refine ⟨by simp, _, [0, 1, 2, 3, 6, 7, 8, 9], (by simp only [go_sem, Nat.reduceBEq, Nat.reduceLT, Nat.reduceAdd, Nat.reduceLeDiff, Nat.reduceSub, Nat.reduceEqDiff, Int.reduceToNat, reduceCtorEq, ↓reduceIte]; exact rfl), ?_, ?_, ?_, ?_⟩
                      · first | exact trivial | exact ⟨trivial, trivial⟩ | exact ⟨trivial, trivial, trivial⟩ | exact ⟨trivial, trivial, trivial, trivial⟩ | (simp only [allP, and_true, true_and]; done) | (simp only [allP, and_true, true_and]; omega)
                      · simp [selOk, pos]
                      · simp
                      · first | exact ⟨rfl, rfl⟩ | (simp only [go_sem, Nat.reduceBEq, Nat.reduceLT, Nat.reduceAdd, Nat.reduceLeDiff, Nat.reduceSub, Nat.reduceEqDiff, Int.reduceToNat, reduceCtorEq, ↓reduceIte]; done) | (simp [go_sem, Nat.reduceBEq, Nat.reduceLT, Nat.reduceAdd, Nat.reduceLeDiff, Nat.reduceSub, Nat.reduceEqDiff, Int.reduceToNat, reduceCtorEq, ↓reduceIte]; done) | (simp only [go_sem, Nat.reduceBEq, Nat.reduceLT, Nat.reduceAdd, Nat.reduceLeDiff, Nat.reduceSub, Nat.reduceEqDiff, Int.reduceToNat, reduceCtorEq, ↓reduceIte]; exact ⟨rfl, rfl⟩) | (simp_all [go_sem, Nat.reduceBEq, Nat.reduceLT, Nat.reduceAdd, Nat.reduceLeDiff, Nat.reduceSub, Nat.reduceEqDiff, Int.reduceToNat, reduceCtorEq, ↓reduceIte]; done)
                    · replace h := bite_f h hc87
                      refine awp_skip ?_
                      (try simp only [Thn, InBlk, ↓reduceIte, Nat.reduceEqDiff])
                      refine hK86 _ _ ?_
                      clear hK86
                      replace h := chk_some h
                      obtain ⟨hp0, h⟩ := h
                      replace h := chk_some h
                      obtain ⟨hp1, h⟩ := h
                      refine awp_end [(4, .pp 5 0), (6, .pp 10 0)] [.row false (.ints .i64 a0_0), .row false (.ints .i64 a0_2), .row false (.pairs a0_3), .row false (.ints .i64 a0_4), .rbox [.sl 0, .v (.int .i64 a0_1), .sl 1, .sl 2, .sl 3], .box [.v (.slice none 0 0), .v (.int .i64 0), .v (.slice none 0 0), .v (.slice none 0 0), .v (.slice none 0 0)], .row true (.ints .i64 y_1), .row true (.ints .i64 y_3), .row true (.pairs (y_4 ++ [((a0_3.getD 0 (0, 0)).1, (a0_3.getD 0 (0, 0)).2)])), .row true (.ints .i64 y_5), .box [.sl 6, .v (.int .i64 y_2), .sl 7, .sl 8, .sl 9], .row true (.pairs [((a0_3.getD 0 (0, 0)).1, (a0_3.getD 0 (0, 0)).2)])] ?_ ?_
                      · clear h
                        intro K hK
                        refine awp_drawP [0, 1, 2, 3, 4, 5, 6, 7, 9, 10] (by first | rfl | kernel_rfl) (by rfl) mixed ftCOk (.free 0 (.free 2 (.free 3 (.free 4 (.free 5 (.two 1 6 (.one 6 (.one 7 (.one 8 (.one 9 .fin)))) (.one 1 (.one 7 (.one 8 (.one 9 .fin)))))))))) (by kernel_rfl) (by simp) ?_
                        simp (maxSteps := 4000000) only [go_sem, Nat.reduceBEq, Nat.reduceLT, Nat.reduceAdd, Nat.reduceLeDiff, Nat.reduceSub, Nat.reduceEqDiff, Int.reduceToNat, reduceCtorEq, ↓reduceIte]
                        repeat' (first | refine And.intro ?_ ?_ | intro hg)
                        all_goals (try simp (disch := omega) only [wrap_fits])
                        all_goals first
                          | (refine hK _ _ ?_; exact Red.auto)
                          | exact trivial
                          | assumption
                          | omega
                          | exact wrap_fits (by omega) (by omega)
                          | (simp (maxSteps := 4000000) only [go_sem, Nat.reduceBEq, Nat.reduceLT, Nat.reduceAdd, Nat.reduceLeDiff, Nat.reduceSub, Nat.reduceEqDiff, Int.reduceToNat, reduceCtorEq, ↓reduceIte]
                             repeat' (first | refine And.intro ?_ ?_ | intro hg)
                             all_goals (try simp (disch := omega) only [wrap_fits])
                             all_goals first | (refine hK _ _ ?_; exact Red.auto) | exact trivial | assumption | omega | exact wrap_fits (by omega) (by omega))
                          | (simp_all; done)
                          | (simp_all; omega)
                      · clear hp0 hp1
                        (try simp only [Thn, InBlk, ↓reduceIte, Nat.reduceEqDiff])
                        (try simp only [Thn, InBlk, ↓reduceIte, Nat.reduceEqDiff])
                        refine ⟨_, h, ?_⟩
                        exact Red.selA [0, 1, 2, 3, 5, 10, 6, 7, 8, 9] Red.auto
                  · replace h := bite_f h hc84
                    refine awp_reg ftCOk [(2, .pp 4 0), (4, .pp 5 0), (6, .pp 10 0), (33, .v (.int .i64 a1)), (127, .v (.bool (a1 == 4)))] [.row false (.ints .i64 a0_0), .row false (.ints .i64 a0_2), .row false (.pairs a0_3), .row false (.ints .i64 a0_4), .rbox [.sl 0, .v (.int .i64 a0_1), .sl 1, .sl 2, .sl 3], .box [.v (.slice none 0 0), .v (.int .i64 0), .v (.slice none 0 0), .v (.slice none 0 0), .v (.slice none 0 0)], .row true (.ints .i64 y_1), .row true (.ints .i64 y_3), .row true (.pairs y_4), .row true (.ints .i64 y_5), .box [.sl 6, .v (.int .i64 y_2), .sl 7, .sl 8, .sl 9]] ?_
                    refine awp_cond (t := 127) rfl (fun hc88 => ?_) (fun hc88 => ?_)
                    · replace h := bite_t h hc88
                      replace h := chk_some h
                      obtain ⟨hp0, h⟩ := h
                      replace h := chk_some h
                      obtain ⟨hp1, h⟩ := h
                      replace h := chk_some h
                      obtain ⟨hp2, h⟩ := h
                      refine awp_end [(4, .pp 5 0), (6, .pp 10 0)] [.row false (.ints .i64 a0_0), .row false (.ints .i64 a0_2), .row false (.pairs a0_3), .row false (.ints .i64 a0_4), .rbox [.sl 0, .v (.int .i64 a0_1), .sl 1, .sl 2, .sl 3], .box [.v (.slice none 0 0), .v (.int .i64 0), .v (.slice none 0 0), .v (.slice none 0 0), .v (.slice none 0 0)], .row true (.ints .i64 y_1), .row true (.ints .i64 y_3), .dead, .row true (.ints .i64 y_5), .box [.sl 6, .v (.int .i64 y_2), .sl 7, .sl 11, .sl 9], .row true (.pairs (((y_4.take y_4.length).drop 1) ++ [((a0_3.getD 0 (0, 0)).1, (a0_3.getD 0 (0, 0)).2)])), .row true (.pairs [((a0_3.getD 0 (0, 0)).1, (a0_3.getD 0 (0, 0)).2)])] ?_ ?_
                      · clear h
                        intro K hK
                        refine awp_drawL [0, 1, 2, 3, 4, 5, 6, 7, 8, 9, 10] [0, 3, 4, 5, 6] 6 #[true, false, false, true, true, true, true, false, false, false, false] mixed ftCOk (by kernel_rfl) (by first | rfl | kernel_rfl) (by rfl) (by simp) fun L hL => ?_
                        have n5 : L 0 #[true, true, true, true, true, true, true, true, true, true, true] [(2, .pp 4 0), (4, .pp 5 0), (6, .pp 10 0), (33, .v (.int .i64 a1)), (127, .v (.bool (a1 == 4))), (129, .pp 10 3), (130, .sl 8), (132, .pp 4 3), (133, .sl 2), (134, .ep 2 0 2 0), (135, .agg [.v (.int .i64 ((a0_3.getD 0 (0, 0)).1)), .v (.int .i64 ((a0_3.getD 0 (0, 0)).2))]), (136, .sl 12), (137, .sl 11), (138, .pp 10 3)] [.row false (.ints .i64 a0_0), .row false (.ints .i64 a0_2), .row false (.pairs a0_3), .row false (.ints .i64 a0_4), .rbox [.sl 0, .v (.int .i64 a0_1), .sl 1, .sl 2, .sl 3], .box [.v (.slice none 0 0), .v (.int .i64 0), .v (.slice none 0 0), .v (.slice none 0 0), .v (.slice none 0 0)], .row true (.ints .i64 y_1), .row true (.ints .i64 y_3), .dead, .row true (.ints .i64 y_5), .box [.sl 6, .v (.int .i64 y_2), .sl 7, .sl 11, .sl 9], .row true (.pairs (((y_4.take y_4.length).drop 1) ++ [((a0_3.getD 0 (0, 0)).1, (a0_3.getD 0 (0, 0)).2)])), .row true (.pairs [((a0_3.getD 0 (0, 0)).1, (a0_3.getD 0 (0, 0)).2)])] := by
                          exact hL.fin (by kernel_rfl) (hK _ _ Red.auto)
                        have n4 : L 1 #[true, true, true, true, true, true, true, true, true, true, false] [(2, .pp 4 0), (4, .pp 5 0), (6, .pp 10 0), (33, .v (.int .i64 a1)), (127, .v (.bool (a1 == 4))), (129, .pp 10 3), (130, .sl 8), (132, .pp 4 3), (133, .sl 2), (134, .ep 2 0 2 0), (135, .agg [.v (.int .i64 ((a0_3.getD 0 (0, 0)).1)), .v (.int .i64 ((a0_3.getD 0 (0, 0)).2))]), (136, .sl 12), (137, .sl 11), (138, .pp 10 3)] [.row false (.ints .i64 a0_0), .row false (.ints .i64 a0_2), .row false (.pairs a0_3), .row false (.ints .i64 a0_4), .rbox [.sl 0, .v (.int .i64 a0_1), .sl 1, .sl 2, .sl 3], .box [.v (.slice none 0 0), .v (.int .i64 0), .v (.slice none 0 0), .v (.slice none 0 0), .v (.slice none 0 0)], .row true (.ints .i64 y_1), .row true (.ints .i64 y_3), .dead, .row true (.ints .i64 y_5), .box [.sl 6, .v (.int .i64 y_2), .sl 7, .sl 8, .sl 9], .row true (.pairs (((y_4.take y_4.length).drop 1) ++ [((a0_3.getD 0 (0, 0)).1, (a0_3.getD 0 (0, 0)).2)])), .row true (.pairs [((a0_3.getD 0 (0, 0)).1, (a0_3.getD 0 (0, 0)).2)])] := by
                          refine hL.step [(10, [], 0, #[true, true, true, true, true, true, true, true, true, true, true])] (by kernel_rfl) ⟨?_, trivial⟩
                          · exact hL.edge n5
                        have n3 : L 3 #[true, true, true, true, true, true, true, true, false, false, false] [(2, .pp 4 0), (4, .pp 5 0), (6, .pp 10 0), (33, .v (.int .i64 a1)), (127, .v (.bool (a1 == 4))), (129, .pp 10 3), (130, .sl 8), (131, .sl 11), (132, .pp 4 3), (133, .sl 2), (134, .ep 2 0 2 0), (135, .agg [.v (.int .i64 ((a0_3.getD 0 (0, 0)).1)), .v (.int .i64 ((a0_3.getD 0 (0, 0)).2))]), (136, .sl 12)] [.row false (.ints .i64 a0_0), .row false (.ints .i64 a0_2), .row false (.pairs a0_3), .row false (.ints .i64 a0_4), .rbox [.sl 0, .v (.int .i64 a0_1), .sl 1, .sl 2, .sl 3], .box [.v (.slice none 0 0), .v (.int .i64 0), .v (.slice none 0 0), .v (.slice none 0 0), .v (.slice none 0 0)], .row true (.ints .i64 y_1), .row true (.ints .i64 y_3), .row true (.pairs y_4), .row true (.ints .i64 y_5), .box [.sl 6, .v (.int .i64 y_2), .sl 7, .sl 8, .sl 9], .view 8 (.pairs ((y_4.take y_4.length).drop 1)), .row true (.pairs [((a0_3.getD 0 (0, 0)).1, (a0_3.getD 0 (0, 0)).2)])] := by
                          refine hL.step [(8, [9], 1, #[true, true, true, true, true, true, true, true, true, true, false])] (by kernel_rfl) ⟨?_, trivial⟩
                          · exact hL.edge n4
                        have n2 : L 4 #[true, true, true, true, true, true, true, false, false, false, false] [(2, .pp 4 0), (4, .pp 5 0), (6, .pp 10 0), (33, .v (.int .i64 a1)), (127, .v (.bool (a1 == 4))), (129, .pp 10 3), (130, .sl 8), (131, .sl 11), (132, .pp 4 3), (133, .sl 2), (134, .ep 2 0 2 0), (135, .agg [.v (.int .i64 ((a0_3.getD 0 (0, 0)).1)), .v (.int .i64 ((a0_3.getD 0 (0, 0)).2))])] [.row false (.ints .i64 a0_0), .row false (.ints .i64 a0_2), .row false (.pairs a0_3), .row false (.ints .i64 a0_4), .rbox [.sl 0, .v (.int .i64 a0_1), .sl 1, .sl 2, .sl 3], .box [.v (.slice none 0 0), .v (.int .i64 0), .v (.slice none 0 0), .v (.slice none 0 0), .v (.slice none 0 0)], .row true (.ints .i64 y_1), .row true (.ints .i64 y_3), .row true (.pairs y_4), .row true (.ints .i64 y_5), .box [.sl 6, .v (.int .i64 y_2), .sl 7, .sl 8, .sl 9], .view 8 (.pairs ((y_4.take y_4.length).drop 1))] := by
                          refine hL.step [(7, [], 3, #[true, true, true, true, true, true, true, true, false, false, false])] (by kernel_rfl) ⟨?_, trivial⟩
                          · exact hL.edge n3
                        have n6 : L 4 #[true, true, false, true, true, true, true, true, false, false, false] [(2, .pp 4 0), (4, .pp 5 0), (6, .pp 10 0), (33, .v (.int .i64 a1)), (127, .v (.bool (a1 == 4))), (129, .pp 10 3), (130, .sl 8), (132, .pp 4 3), (133, .sl 2), (134, .ep 2 0 2 0), (135, .agg [.v (.int .i64 ((a0_3.getD 0 (0, 0)).1)), .v (.int .i64 ((a0_3.getD 0 (0, 0)).2))]), (136, .sl 11)] [.row false (.ints .i64 a0_0), .row false (.ints .i64 a0_2), .row false (.pairs a0_3), .row false (.ints .i64 a0_4), .rbox [.sl 0, .v (.int .i64 a0_1), .sl 1, .sl 2, .sl 3], .box [.v (.slice none 0 0), .v (.int .i64 0), .v (.slice none 0 0), .v (.slice none 0 0), .v (.slice none 0 0)], .row true (.ints .i64 y_1), .row true (.ints .i64 y_3), .row true (.pairs y_4), .row true (.ints .i64 y_5), .box [.sl 6, .v (.int .i64 y_2), .sl 7, .sl 8, .sl 9], .row true (.pairs [((a0_3.getD 0 (0, 0)).1, (a0_3.getD 0 (0, 0)).2)])] := by
                          refine hL.step [(2, [], 3, #[true, true, true, true, true, true, true, true, false, false, false])] (by kernel_rfl) ⟨?_, trivial⟩
                          · exact hL.edgeS [0, 1, 2, 3, 4, 5, 6, 7, 8, 9, 10, 12, 11] n3
                        have n1 : L 5 #[true, true, false, true, true, true, true, false, false, false, false] [(2, .pp 4 0), (4, .pp 5 0), (6, .pp 10 0), (33, .v (.int .i64 a1)), (127, .v (.bool (a1 == 4))), (129, .pp 10 3), (130, .sl 8), (132, .pp 4 3), (133, .sl 2), (134, .ep 2 0 2 0), (135, .agg [.v (.int .i64 ((a0_3.getD 0 (0, 0)).1)), .v (.int .i64 ((a0_3.getD 0 (0, 0)).2))])] [.row false (.ints .i64 a0_0), .row false (.ints .i64 a0_2), .row false (.pairs a0_3), .row false (.ints .i64 a0_4), .rbox [.sl 0, .v (.int .i64 a0_1), .sl 1, .sl 2, .sl 3], .box [.v (.slice none 0 0), .v (.int .i64 0), .v (.slice none 0 0), .v (.slice none 0 0), .v (.slice none 0 0)], .row true (.ints .i64 y_1), .row true (.ints .i64 y_3), .row true (.pairs y_4), .row true (.ints .i64 y_5), .box [.sl 6, .v (.int .i64 y_2), .sl 7, .sl 8, .sl 9]] := by
                          refine hL.step [(2, [], 4, #[true, true, true, true, true, true, true, false, false, false, false]), (7, [], 4, #[true, true, false, true, true, true, true, true, false, false, false])] (by kernel_rfl) ⟨?_, ?_, trivial⟩
                          · exact hL.edge n2
                          · exact hL.edge n6
                        have n7 : L 5 #[true, false, false, true, true, true, true, true, false, false, false] [(2, .pp 4 0), (4, .pp 5 0), (6, .pp 10 0), (33, .v (.int .i64 a1)), (127, .v (.bool (a1 == 4))), (129, .pp 10 3), (132, .pp 4 3), (133, .sl 2), (134, .ep 2 0 2 0), (135, .agg [.v (.int .i64 ((a0_3.getD 0 (0, 0)).1)), .v (.int .i64 ((a0_3.getD 0 (0, 0)).2))]), (136, .sl 11)] [.row false (.ints .i64 a0_0), .row false (.ints .i64 a0_2), .row false (.pairs a0_3), .row false (.ints .i64 a0_4), .rbox [.sl 0, .v (.int .i64 a0_1), .sl 1, .sl 2, .sl 3], .box [.v (.slice none 0 0), .v (.int .i64 0), .v (.slice none 0 0), .v (.slice none 0 0), .v (.slice none 0 0)], .row true (.ints .i64 y_1), .row true (.ints .i64 y_3), .row true (.pairs y_4), .row true (.ints .i64 y_5), .box [.sl 6, .v (.int .i64 y_2), .sl 7, .sl 8, .sl 9], .row true (.pairs [((a0_3.getD 0 (0, 0)).1, (a0_3.getD 0 (0, 0)).2)])] := by
                          refine hL.step [(1, [], 4, #[true, true, false, true, true, true, true, true, false, false, false])] (by kernel_rfl) ⟨?_, trivial⟩
                          · exact hL.edge n6
                        have n0 : L 6 #[true, false, false, true, true, true, true, false, false, false, false] [(2, .pp 4 0), (4, .pp 5 0), (6, .pp 10 0), (33, .v (.int .i64 a1)), (127, .v (.bool (a1 == 4))), (129, .pp 10 3), (132, .pp 4 3), (133, .sl 2), (134, .ep 2 0 2 0), (135, .agg [.v (.int .i64 ((a0_3.getD 0 (0, 0)).1)), .v (.int .i64 ((a0_3.getD 0 (0, 0)).2))])] [.row false (.ints .i64 a0_0), .row false (.ints .i64 a0_2), .row false (.pairs a0_3), .row false (.ints .i64 a0_4), .rbox [.sl 0, .v (.int .i64 a0_1), .sl 1, .sl 2, .sl 3], .box [.v (.slice none 0 0), .v (.int .i64 0), .v (.slice none 0 0), .v (.slice none 0 0), .v (.slice none 0 0)], .row true (.ints .i64 y_1), .row true (.ints .i64 y_3), .row true (.pairs y_4), .row true (.ints .i64 y_5), .box [.sl 6, .v (.int .i64 y_2), .sl 7, .sl 8, .sl 9]] := by
                          refine hL.step [(1, [], 5, #[true, true, false, true, true, true, true, false, false, false, false]), (7, [], 5, #[true, false, false, true, true, true, true, true, false, false, false])] (by kernel_rfl) ⟨?_, ?_, trivial⟩
                          · exact hL.edge n1
                          · exact hL.edge n7
                        simp (maxSteps := 4000000) only [go_sem, Nat.reduceBEq, Nat.reduceLT, Nat.reduceAdd, Nat.reduceLeDiff, Nat.reduceSub, Nat.reduceEqDiff, Int.reduceToNat, reduceCtorEq, ↓reduceIte]
                        repeat' (first | refine And.intro ?_ ?_ | intro hg)
                        all_goals (try simp (disch := omega) only [wrap_fits])
                        all_goals first
                          | (refine hL.red ?_ n0; exact Red.auto)
                          | exact trivial
                          | assumption
                          | omega
                          | exact wrap_fits (by omega) (by omega)
                          | (simp (maxSteps := 4000000) only [go_sem, Nat.reduceBEq, Nat.reduceLT, Nat.reduceAdd, Nat.reduceLeDiff, Nat.reduceSub, Nat.reduceEqDiff, Int.reduceToNat, reduceCtorEq, ↓reduceIte]
                             repeat' (first | refine And.intro ?_ ?_ | intro hg)
                             all_goals (try simp (disch := omega) only [wrap_fits])
                             all_goals first | (refine hL.red ?_ n0; exact Red.auto) | exact trivial | assumption | omega | exact wrap_fits (by omega) (by omega))
                          | (simp_all; done)
                          | (simp_all; omega)
                      · clear hp0 hp1 hp2
                        (try simp only [Thn, InBlk, ↓reduceIte, Nat.reduceEqDiff])
                        (try simp only [Thn, InBlk, ↓reduceIte, Nat.reduceEqDiff])
                        refine ⟨_, h, ?_⟩
                        exact Red.selA [0, 1, 2, 3, 5, 10, 6, 7, 11, 9] Red.auto
                    · replace h := bite_f h hc88
                      refine awp_reg ftCOk [(2, .pp 4 0), (4, .pp 5 0), (6, .pp 10 0), (33, .v (.int .i64 a1)), (139, .v (.bool (a1 == 5)))] [.row false (.ints .i64 a0_0), .row false (.ints .i64 a0_2), .row false (.pairs a0_3), .row false (.ints .i64 a0_4), .rbox [.sl 0, .v (.int .i64 a0_1), .sl 1, .sl 2, .sl 3], .box [.v (.slice none 0 0), .v (.int .i64 0), .v (.slice none 0 0), .v (.slice none 0 0), .v (.slice none 0 0)], .row true (.ints .i64 y_1), .row true (.ints .i64 y_3), .row true (.pairs y_4), .row true (.ints .i64 y_5), .box [.sl 6, .v (.int .i64 y_2), .sl 7, .sl 8, .sl 9]] ?_
                      refine awp_cond (t := 139) rfl (fun hc89 => ?_) (fun hc89 => ?_)
                      · replace h := bite_t h hc89
                        refine awp_seq fun K91 hK91 => ?_
                        refine awp_reg ftCOk [(2, .pp 4 0), (4, .pp 5 0), (6, .pp 10 0), (144, .v (.bool ((a0_4.length : Int) == 100)))] [.row false (.ints .i64 a0_0), .row false (.ints .i64 a0_2), .row false (.pairs a0_3), .row false (.ints .i64 a0_4), .rbox [.sl 0, .v (.int .i64 a0_1), .sl 1, .sl 2, .sl 3], .box [.v (.slice none 0 0), .v (.int .i64 0), .v (.slice none 0 0), .v (.slice none 0 0), .v (.slice none 0 0)], .row true (.ints .i64 y_1), .row true (.ints .i64 y_3), .row true (.pairs y_4), .row true (.ints .i64 y_5), .box [.sl 6, .v (.int .i64 y_2), .sl 7, .sl 8, .sl 9]] ?_
                        refine awp_cond (t := 144) rfl (fun hc92 => ?_) (fun hc92 => ?_)
                        · replace h := bite_t h hc92
                          refine awp_reg ftCOk [(4, .pp 5 0), (5, .v (.bool false))] [.row false (.ints .i64 a0_0), .row false (.ints .i64 a0_2), .row false (.pairs a0_3), .row false (.ints .i64 a0_4), .rbox [.sl 0, .v (.int .i64 a0_1), .sl 1, .sl 2, .sl 3], .box [.sl 6, .v (.int .i64 y_2), .sl 7, .sl 8, .sl 9], .row true (.ints .i64 y_1), .row true (.ints .i64 y_3), .row true (.pairs y_4), .row true (.ints .i64 y_5), .box [.sl 6, .v (.int .i64 y_2), .sl 7, .sl 8, .sl 9]] ?_
                          refine awp_ret ?_
                          (try simp only [Thn, InBlk, ↓reduceIte, Nat.reduceEqDiff])
                          obtain rfl := Option.some.inj h
                          refine ⟨by simp, _, [0, 1, 2, 3, 6, 7, 8, 9], (by simp only [go_sem, Nat.reduceBEq, Nat.reduceLT, Nat.reduceAdd, Nat.reduceLeDiff, Nat.reduceSub, Nat.reduceEqDiff, Int.reduceToNat, reduceCtorEq, ↓reduceIte]; exact rfl), ?_, ?_, ?_, ?_⟩
                          · first | exact trivial | exact ⟨trivial, trivial⟩ | exact ⟨trivial, trivial, trivial⟩ | exact ⟨trivial, trivial, trivial, trivial⟩ | (simp only [allP, and_true, true_and]; done) | (simp only [allP, and_true, true_and]; omega)
                          · simp [selOk, pos]
                          · simp
                          · first | exact ⟨rfl, rfl⟩ | (simp only [go_sem, Nat.reduceBEq, Nat.reduceLT, Nat.reduceAdd, Nat.reduceLeDiff, Nat.reduceSub, Nat.reduceEqDiff, Int.reduceToNat, reduceCtorEq, ↓reduceIte]; done) | (simp [go_sem, Nat.reduceBEq, Nat.reduceLT, Nat.reduceAdd, Nat.reduceLeDiff, Nat.reduceSub, Nat.reduceEqDiff, Int.reduceToNat, reduceCtorEq, ↓reduceIte]; done) | (simp only [go_sem, Nat.reduceBEq, Nat.reduceLT, Nat.reduceAdd, Nat.reduceLeDiff, Nat.reduceSub, Nat.reduceEqDiff, Int.reduceToNat, reduceCtorEq, ↓reduceIte]; exact ⟨rfl, rfl⟩) | (simp_all [go_sem, Nat.reduceBEq, Nat.reduceLT, Nat.reduceAdd, Nat.reduceLeDiff, Nat.reduceSub, Nat.reduceEqDiff, Int.reduceToNat, reduceCtorEq, ↓reduceIte]; done)
                        · replace h := bite_f h hc92
                          refine awp_skip ?_
                          (try simp only [Thn, InBlk, ↓reduceIte, Nat.reduceEqDiff])
                          refine hK91 _ _ ?_
                          clear hK91
                          replace h := chk_some h
                          obtain ⟨hp0, h⟩ := h
                          refine awp_regE ftCOk [(4, .pp 5 0), (6, .pp 10 0)] [.row false (.ints .i64 a0_0), .row false (.ints .i64 a0_2), .row false (.pairs a0_3), .row false (.ints .i64 a0_4), .rbox [.sl 0, .v (.int .i64 a0_1), .sl 1, .sl 2, .sl 3], .box [.v (.slice none 0 0), .v (.int .i64 0), .v (.slice none 0 0), .v (.slice none 0 0), .v (.slice none 0 0)], .row true (.ints .i64 y_1), .row true (.ints .i64 y_3), .row true (.pairs y_4), .row true (.ints .i64 (y_5 ++ [(a0_2.length : Int)])), .box [.sl 6, .v (.int .i64 y_2), .sl 7, .sl 8, .sl 9], .row true (.ints .i64 [(a0_2.length : Int)])] ?_
                          clear hp0
                          (try simp only [Thn, InBlk, ↓reduceIte, Nat.reduceEqDiff])
                          (try simp only [Thn, InBlk, ↓reduceIte, Nat.reduceEqDiff])
                          refine ⟨_, h, ?_⟩
                          exact Red.selA [0, 1, 2, 3, 5, 10, 6, 7, 8, 9] Red.auto
                      · replace h := bite_f h hc89
                        refine awp_reg ftCOk [(2, .pp 4 0), (4, .pp 5 0), (6, .pp 10 0), (33, .v (.int .i64 a1)), (154, .v (.bool (a1 == 6)))] [.row false (.ints .i64 a0_0), .row false (.ints .i64 a0_2), .row false (.pairs a0_3), .row false (.ints .i64 a0_4), .rbox [.sl 0, .v (.int .i64 a0_1), .sl 1, .sl 2, .sl 3], .box [.v (.slice none 0 0), .v (.int .i64 0), .v (.slice none 0 0), .v (.slice none 0 0), .v (.slice none 0 0)], .row true (.ints .i64 y_1), .row true (.ints .i64 y_3), .row true (.pairs y_4), .row true (.ints .i64 y_5), .box [.sl 6, .v (.int .i64 y_2), .sl 7, .sl 8, .sl 9]] ?_
                        refine awp_cond (t := 154) rfl (fun hc93 => ?_) (fun hc93 => ?_)
                        · replace h := bite_t h hc93
                          replace h := chk_some h
                          obtain ⟨hp0, h⟩ := h
                          refine awp_to [(4, .pp 5 0), (6, .pp 10 0)] [.row false (.ints .i64 a0_0), .row false (.ints .i64 a0_2), .row false (.pairs a0_3), .row false (.ints .i64 a0_4), .rbox [.sl 0, .v (.int .i64 a0_1), .sl 1, .sl 2, .sl 3], .box [.v (.slice none 0 0), .v (.int .i64 0), .v (.slice none 0 0), .v (.slice none 0 0), .v (.slice none 0 0)], .row true (.ints .i64 y_1), .row true (.ints .i64 y_3), .row true (.pairs y_4), .row true (.ints .i64 y_5), .box [.sl 6, .v (.int .i64 (max a0_1 (a0_4.getD 0 0))), .sl 7, .sl 8, .sl 9]] ?_ ?_
                          · clear h
                            intro K hK
                            refine awp_drawT mixed ftCOk (.free 0 (.free 2 (.free 1 (.one 3 (.one 4 (.one 5 (.one 6 (.one 7 (.one 8 .fin))))))))) (by kernel_rfl) (by simp) ?_
                            simp (maxSteps := 4000000) only [go_sem, Nat.reduceBEq, Nat.reduceLT, Nat.reduceAdd, Nat.reduceLeDiff, Nat.reduceSub, Nat.reduceEqDiff, Int.reduceToNat, reduceCtorEq, ↓reduceIte]
                            repeat' (first | refine And.intro ?_ ?_ | intro hg)
                            all_goals (try simp (disch := omega) only [wrap_fits])
                            all_goals first
                              | (refine hK _ _ ?_; exact Red.auto)
                              | exact trivial
                              | assumption
                              | omega
                              | exact wrap_fits (by omega) (by omega)
                              | (simp (maxSteps := 4000000) only [go_sem, Nat.reduceBEq, Nat.reduceLT, Nat.reduceAdd, Nat.reduceLeDiff, Nat.reduceSub, Nat.reduceEqDiff, Int.reduceToNat, reduceCtorEq, ↓reduceIte]
                                 repeat' (first | refine And.intro ?_ ?_ | intro hg)
                                 all_goals (try simp (disch := omega) only [wrap_fits])
                                 all_goals first | (refine hK _ _ ?_; exact Red.auto) | exact trivial | assumption | omega | exact wrap_fits (by omega) (by omega))
                              | (simp_all; done)
                              | (simp_all; omega)
                          · clear hp0
                            replace h := chk_some h
                            obtain ⟨hp0, h⟩ := h
                            refine awp_regE ftCOk [(4, .pp 5 0), (6, .pp 10 0)] [.row false (.ints .i64 a0_0), .row false (.ints .i64 a0_2), .row false (.pairs a0_3), .row false (.ints .i64 a0_4), .rbox [.sl 0, .v (.int .i64 a0_1), .sl 1, .sl 2, .sl 3], .box [.v (.slice none 0 0), .v (.int .i64 0), .v (.slice none 0 0), .v (.slice none 0 0), .v (.slice none 0 0)], .row true (.ints .i64 y_1), .row true (.ints .i64 y_3), .row true (.pairs y_4), .row true (.ints .i64 y_5), .box [.sl 6, .v (.int .i64 (max a0_1 (a0_4.getD 0 0))), .sl 7, .sl 8, .sl 11], .view 9 (.ints .i64 ((y_5.take y_5.length).drop 1))] ?_
                            clear hp0
                            (try simp only [Thn, InBlk, ↓reduceIte, Nat.reduceEqDiff])
                            (try simp only [Thn, InBlk, ↓reduceIte, Nat.reduceEqDiff])
                            refine ⟨_, h, ?_⟩
                            refine Red.trans (Red.promote 9 11 (by rfl) (by rfl)) ?_
                            exact Red.selA [0, 1, 2, 3, 5, 10, 6, 7, 8, 11] Red.auto
                        · replace h := bite_f h hc93
                          refine awp_reg ftCOk [(4, .pp 5 0), (6, .pp 10 0), (168, .v (.bool (a1 == 7)))] [.row false (.ints .i64 a0_0), .row false (.ints .i64 a0_2), .row false (.pairs a0_3), .row false (.ints .i64 a0_4), .rbox [.sl 0, .v (.int .i64 a0_1), .sl 1, .sl 2, .sl 3], .box [.v (.slice none 0 0), .v (.int .i64 0), .v (.slice none 0 0), .v (.slice none 0 0), .v (.slice none 0 0)], .row true (.ints .i64 y_1), .row true (.ints .i64 y_3), .row true (.pairs y_4), .row true (.ints .i64 y_5), .box [.sl 6, .v (.int .i64 y_2), .sl 7, .sl 8, .sl 9]] ?_
                          refine awp_cond (t := 168) rfl (fun hc94 => ?_) (fun hc94 => ?_)
                          · replace h := bite_t h hc94
                            replace h := chk_some h
                            obtain ⟨hp0, h⟩ := h
                            refine awp_regE ftCOk [(4, .pp 5 0), (6, .pp 10 0)] [.row false (.ints .i64 a0_0), .row false (.ints .i64 a0_2), .row false (.pairs a0_3), .row false (.ints .i64 a0_4), .rbox [.sl 0, .v (.int .i64 a0_1), .sl 1, .sl 2, .sl 3], .box [.v (.slice none 0 0), .v (.int .i64 0), .v (.slice none 0 0), .v (.slice none 0 0), .v (.slice none 0 0)], .row true (.ints .i64 y_1), .row true (.ints .i64 y_3), .row true (.pairs y_4), .row true (.ints .i64 y_5), .box [.sl 6, .v (.int .i64 y_2), .sl 7, .sl 8, .sl 11], .view 9 (.ints .i64 ((y_5.take y_5.length).drop 1))] ?_
                            clear hp0
                            (try simp only [Thn, InBlk, ↓reduceIte, Nat.reduceEqDiff])
                            (try simp only [Thn, InBlk, ↓reduceIte, Nat.reduceEqDiff])
                            refine ⟨_, h, ?_⟩
                            refine Red.trans (Red.promote 9 11 (by rfl) (by rfl)) ?_
                            exact Red.selA [0, 1, 2, 3, 5, 10, 6, 7, 8, 11] Red.auto
                          · replace h := bite_f h hc94
                            refine awp_reg ftCOk [(4, .pp 5 0), (5, .v (.bool false))] [.row false (.ints .i64 a0_0), .row false (.ints .i64 a0_2), .row false (.pairs a0_3), .row false (.ints .i64 a0_4), .rbox [.sl 0, .v (.int .i64 a0_1), .sl 1, .sl 2, .sl 3], .box [.sl 6, .v (.int .i64 y_2), .sl 7, .sl 8, .sl 9], .row true (.ints .i64 y_1), .row true (.ints .i64 y_3), .row true (.pairs y_4), .row true (.ints .i64 y_5), .box [.sl 6, .v (.int .i64 y_2), .sl 7, .sl 8, .sl 9]] ?_
                            refine awp_ret ?_
                            (try simp only [Thn, InBlk, ↓reduceIte, Nat.reduceEqDiff])
                            obtain rfl := Option.some.inj h
                            refine ⟨by simp, _, [0, 1, 2, 3, 6, 7, 8, 9], (by simp only [go_sem, Nat.reduceBEq, Nat.reduceLT, Nat.reduceAdd, Nat.reduceLeDiff, Nat.reduceSub, Nat.reduceEqDiff, Int.reduceToNat, reduceCtorEq, ↓reduceIte]; exact rfl), ?_, ?_, ?_, ?_⟩
                            · first | exact trivial | exact ⟨trivial, trivial⟩ | exact ⟨trivial, trivial, trivial⟩ | exact ⟨trivial, trivial, trivial, trivial⟩ | (simp only [allP, and_true, true_and]; done) | (simp only [allP, and_true, true_and]; omega)
                            · simp [selOk, pos]
                            · simp
                            · first | exact ⟨rfl, rfl⟩ | (simp only [go_sem, Nat.reduceBEq, Nat.reduceLT, Nat.reduceAdd, Nat.reduceLeDiff, Nat.reduceSub, Nat.reduceEqDiff, Int.reduceToNat, reduceCtorEq, ↓reduceIte]; done) | (simp [go_sem, Nat.reduceBEq, Nat.reduceLT, Nat.reduceAdd, Nat.reduceLeDiff, Nat.reduceSub, Nat.reduceEqDiff, Int.reduceToNat, reduceCtorEq, ↓reduceIte]; done) | (simp only [go_sem, Nat.reduceBEq, Nat.reduceLT, Nat.reduceAdd, Nat.reduceLeDiff, Nat.reduceSub, Nat.reduceEqDiff, Int.reduceToNat, reduceCtorEq, ↓reduceIte]; exact ⟨rfl, rfl⟩) | (simp_all [go_sem, Nat.reduceBEq, Nat.reduceLT, Nat.reduceAdd, Nat.reduceLeDiff, Nat.reduceSub, Nat.reduceEqDiff, Int.reduceToNat, reduceCtorEq, ↓reduceIte]; done)
          · clear h
            rintro ⟨t6_1, t6_2s, t6_3s, t6_4s⟩ h
            try dsimp only at h
            try dsimp only
            refine awp_reg ftCOk [(4, .pp 4 0), (5, .v (.bool true))] [.row false (.ints .i64 a0_0), .row false (.ints .i64 a0_2), .row false (.pairs a0_3), .row false (.ints .i64 a0_4), .box [.sl 6, .v (.int .i64 t6_1), .sl 7, .sl 8, .sl 9], .box [.sl 6, .v (.int .i64 t6_1), .sl 7, .sl 8, .sl 9], .row true (.ints .i64 y_1), .row true (.ints .i64 t6_2s), .row true (.pairs t6_3s), .row true (.ints .i64 t6_4s)] ?_
            refine awp_ret ?_
            (try simp only [Thn, InBlk, ↓reduceIte, Nat.reduceEqDiff])
            obtain rfl := Option.some.inj h
            refine ⟨by simp, _, [0, 1, 2, 3, 6, 7, 8, 9], (by simp only [go_sem, Nat.reduceBEq, Nat.reduceLT, Nat.reduceAdd, Nat.reduceLeDiff, Nat.reduceSub, Nat.reduceEqDiff, Int.reduceToNat, reduceCtorEq, ↓reduceIte]; exact rfl), ?_, ?_, ?_, ?_⟩
            · first | exact trivial | exact ⟨trivial, trivial⟩ | exact ⟨trivial, trivial, trivial⟩ | exact ⟨trivial, trivial, trivial, trivial⟩ | (simp only [allP, and_true, true_and]; done) | (simp only [allP, and_true, true_and]; omega)
            · simp [selOk, pos]
            · simp
            · first | exact ⟨rfl, rfl⟩ | (simp only [go_sem, Nat.reduceBEq, Nat.reduceLT, Nat.reduceAdd, Nat.reduceLeDiff, Nat.reduceSub, Nat.reduceEqDiff, Int.reduceToNat, reduceCtorEq, ↓reduceIte]; done) | (simp [go_sem, Nat.reduceBEq, Nat.reduceLT, Nat.reduceAdd, Nat.reduceLeDiff, Nat.reduceSub, Nat.reduceEqDiff, Int.reduceToNat, reduceCtorEq, ↓reduceIte]; done) | (simp only [go_sem, Nat.reduceBEq, Nat.reduceLT, Nat.reduceAdd, Nat.reduceLeDiff, Nat.reduceSub, Nat.reduceEqDiff, Int.reduceToNat, reduceCtorEq, ↓reduceIte]; exact ⟨rfl, rfl⟩) | (simp_all [go_sem, Nat.reduceBEq, Nat.reduceLT, Nat.reduceAdd, Nat.reduceLeDiff, Nat.reduceSub, Nat.reduceEqDiff, Int.reduceToNat, reduceCtorEq, ↓reduceIte]; done)
theorem k_spec_l20Rd_odd (a0_0 : List Int) (a0_1 : Int) (a1 : Int) {r : Bool × Int} (h : spec_l20Rd_odd a0_0 a0_1 a1 = some r) :
    FnA Try.prog 102 [.pp 0 0, .v (.int .i64 a1)] [.box [.sl 1, .v (.int .i64 a0_1)], .row false (.ints .u8 a0_0)] [] (fun x H => x = .v (.bool r.1) ∧ H = [.box [.sl 1, .v (.int .i64 r.2)], .row false (.ints .u8 a0_0)]) := by
  unfold spec_l20Rd_odd at h
  refine FnA.of (N := 15) (pin := [0, 1]) (rs := [.tmp 4]) Try.func102 rfl en102 rfl rfl (by simp) (by simp; try omega) ?_
  refine awp_reg ftCOk [(0, .pp 0 0), (1, .v (.int .i64 a1))] [.box [.sl 1, .v (.int .i64 a0_1)], .row false (.ints .u8 a0_0)] ?_
  replace h := bind_some h
  obtain ⟨⟨y, y_1⟩, hr0, h⟩ := h
  try dsimp only at h
  refine awp_to [(4, .v (.bool ((decide (0 < a1)) && (y == (IntKind.i64.wrap (a1 - 1))))))] [.box [.sl 1, .v (.int .i64 y_1)], .row false (.ints .u8 a0_0)] ?_ ?_
  · clear h
    intro K hK
    refine awp_region ftCOk ?_
    simp (maxSteps := 4000000) only [go_sem, Nat.reduceBEq, Nat.reduceLT, Nat.reduceAdd, Nat.reduceLeDiff, Nat.reduceSub, Nat.reduceEqDiff, Int.reduceToNat, reduceCtorEq, ↓reduceIte]
    repeat' (first | refine And.intro ?_ ?_ | intro hg)
    all_goals (try simp (disch := omega) only [wrap_fits])
    all_goals first
      | (refine hK _ _ ?_; exact Red.auto)
      | exact trivial
      | assumption
      | omega
      | exact wrap_fits (by omega) (by omega)
      | (refine wpA_guard rfl rfl ?_
         refine wpA_callA (k_spec_l20Rd_pick a0_0 a0_1 a1 (h := (bite_t hr0 (by first | assumption | (simp only [*, Bool.false_or, Bool.true_or, Bool.or_false, Bool.or_true, Bool.false_and, Bool.true_and, Bool.and_false, Bool.and_true, Bool.not_true, Bool.not_false, beq_self_eq_true]; done) | (simp_all; done))))) [0, 1] [] ?_
         rintro x Hc' ⟨rfl, rfl⟩ hlen
         refine vcOps_sound ftCOk ?_
         simp (maxSteps := 4000000) only [go_sem, Nat.reduceBEq, Nat.reduceLT, Nat.reduceAdd, Nat.reduceLeDiff, Nat.reduceSub, Nat.reduceEqDiff, Int.reduceToNat, reduceCtorEq, ↓reduceIte]
         repeat' (first | refine And.intro ?_ ?_ | intro hg)
         all_goals (try simp (disch := omega) only [wrap_fits])
         all_goals first
           | (refine hK _ _ ?_; exact Red.auto)
           | exact trivial
           | assumption
           | omega
           | exact wrap_fits (by omega) (by omega)
           | (simp_all; done)
           | (simp_all; omega))
      | (simp_all; done)
      | (simp_all; omega)
  · clear hr0
    refine awp_ret ?_
    (try simp only [Thn, InBlk, ↓reduceIte, Nat.reduceEqDiff])
    obtain rfl := Option.some.inj h
    refine ⟨by simp, _, [0, 1], (by simp only [go_sem, Nat.reduceBEq, Nat.reduceLT, Nat.reduceAdd, Nat.reduceLeDiff, Nat.reduceSub, Nat.reduceEqDiff, Int.reduceToNat, reduceCtorEq, ↓reduceIte]; exact rfl), ?_, ?_, ?_, ?_⟩
    · first | exact trivial | exact ⟨trivial, trivial⟩ | exact ⟨trivial, trivial, trivial⟩ | exact ⟨trivial, trivial, trivial, trivial⟩ | (simp only [allP, and_true, true_and]; done) | (simp only [allP, and_true, true_and]; omega)
    · simp [selOk, pos]
    · simp
    · first | exact ⟨rfl, rfl⟩ | (simp only [go_sem, Nat.reduceBEq, Nat.reduceLT, Nat.reduceAdd, Nat.reduceLeDiff, Nat.reduceSub, Nat.reduceEqDiff, Int.reduceToNat, reduceCtorEq, ↓reduceIte]; done) | (simp [go_sem, Nat.reduceBEq, Nat.reduceLT, Nat.reduceAdd, Nat.reduceLeDiff, Nat.reduceSub, Nat.reduceEqDiff, Int.reduceToNat, reduceCtorEq, ↓reduceIte]; done) | (simp only [go_sem, Nat.reduceBEq, Nat.reduceLT, Nat.reduceAdd, Nat.reduceLeDiff, Nat.reduceSub, Nat.reduceEqDiff, Int.reduceToNat, reduceCtorEq, ↓reduceIte]; exact ⟨rfl, rfl⟩) | (simp_all [go_sem, Nat.reduceBEq, Nat.reduceLT, Nat.reduceAdd, Nat.reduceLeDiff, Nat.reduceSub, Nat.reduceEqDiff, Int.reduceToNat, reduceCtorEq, ↓reduceIte]; done)
end Go.Proofs.Ytncminpafiahpaa
