/- The code computes the functions that were taken out of it. -/
import Derived.Test.YtlpkjcmiohppcaaLaD
set_option maxRecDepth 100000
set_option maxHeartbeats 4000000
set_option linter.unusedSimpArgs false
set_option linter.unusedVariables false
namespace Go.Proofs.Ytlpkjcmiohppcaa
open Go Go.Av
attribute [local irreducible] wpA OpK awp
attribute [local go_sem] frs_nil frs_cons pw8_32 pw16_32 pw24_32 pw27_32 eqAgg eqAggV buildQ placesOf buildCells List.toList_toArray vcQg gfind gfree gput un3_agg unI_int unB_bool unK_int guardU skipV resVs resV vcD_nil vcD_cons vcT_fin vcT_free vcT_one vcT_two opS vcD1 roH roOb ftNone ftAdd oneOrTup AV.detup AV.ren AV.ren2 AV.ren1 pos selH AObj.ren fitAll fit fit1 fit1s matchAll matchOb exIds AObj.excl Env.killp pastH setAll upId AObj.past AObj.back AV.killp AV.killp1 AV.killp2 Nat.sub_self Nat.lt_irrefl Bool.or_self vcOps vcOp vcQs vcQ dstOk quiet eff pcall plain valsOf ev ofConst argEnv List.lookup Nat.add_eq decide_true decide_false Env.put binV wrapTo unV convV loadQ indexQ callQ builtinQ rd rdI globC AObj.globC partAV isAggD isArrayD addrAdd boxE storeE storeCE makeE makeNE buildNE nestZero Cont.child Cont.setChild buildSliceE buildFold appendE appendNE nestApp appendV promoteH sliceE boundAV subObj asCells Value.oneCell' contZero Cont.sets Cont.app Cont.sub Cont.len Cont.esz Cont.cell Cont.cells Cont.flat AV.det AV.det1 guardV AObj.unview AObj.kill Env.kill AV.kill AV.kill1 AV.kill2 fits64 Option.getD_some Option.getD_none Option.map_some Option.map_none Option.bind_some List.map_cons List.map_nil List.getElem?_cons_zero List.getElem?_cons_succ List.getElem?_nil true_and and_true List.getElem?_toArray List.cons_append List.nil_append List.length_cons List.length_nil List.set_cons_zero List.set_cons_succ List.take_succ_cons List.take_zero List.drop_succ_cons List.drop_zero List.drop_nil List.take_nil List.contains_cons List.contains_nil List.elem_cons List.elem_nil Bool.not_true Bool.not_false Bool.false_eq_true Bool.or_false Bool.or_true Bool.and_true Bool.and_false Bool.true_and Bool.false_and List.all_cons List.all_nil List.size_toArray Nat.lt_add_one Nat.zero_lt_succ Nat.one_ne_zero Nat.zero_ne_one and_self List.replicate_succ List.replicate_zero Int.toNat_natCast Int.toNat_zero Value.cells false_implies true_implies forall_const Thn InBlk Nat.zero_add Nat.add_zero Int.zero_add Ele Env.ren Option.some.injEq AV.v.injEq AV.sl.injEq AV.pp.injEq AV.ep.injEq AV.agg.injEq List.cons.injEq Value.int.injEq Value.bool.injEq Value.string.injEq true_or or_true or_false false_or tsz0 tby0 tz0 Try.underlying0 tsz1 tby1 tz1 Try.underlying1 tsz2 tby2 tz2 Try.underlying2 tsz3 tby3 tz3 Try.underlying3 tsz4 tby4 tz4 Try.underlying4 tsz5 tby5 tz5 Try.underlying5 tsz6 tby6 tz6 Try.underlying6 tsz7 tby7 tz7 Try.underlying7 fo7_0 fo7_1 fo7_2 fo7_3 tsz8 tby8 tz8 Try.underlying8 fo8_0 fo8_1 fo8_2 fo8_3 tsz9 tby9 Try.underlying9 tsz10 tby10 Try.underlying10 tsz12 tby12 tz12 Try.underlying12 tsz16 tby16 tz16 Try.underlying16 tsz17 tby17 tz17 Try.underlying17 tsz20 tby20 tz20 Try.underlying20 tsz21 tby21 tz21 Try.underlying21 tsz22 tby22 tz22 Try.underlying22 tsz23 tby23 tz23 Try.underlying23 tsz24 tby24 tz24 Try.underlying24 tsz27 tby27 tz27 Try.underlying27 tsz32 tby32 tz32 Try.underlying32 tsz36 tby36 tz36 Try.underlying36 tsz37 tby37 tz37 Try.underlying37 fo37_0 fo37_1 tsz38 tby38 tz38 Try.underlying38 fo38_0 fo38_1 tsz40 tby40 tz40 Try.underlying40 tsz42 tby42 tz42 Try.underlying42 tsz43 tby43 tz43 Try.underlying43 fo43_0 fo43_1 tsz44 tby44 tz44 Try.underlying44 fo44_0 fo44_1 tsz63 tby63 tz63 Try.underlying63 tsz70 tby70 tz70 Try.underlying70 peq70 fo70_0 fo70_1 fo70_2 tsz71 tby71 tz71 Try.underlying71 peq71 fo71_0 fo71_1 fo71_2 tsz84 tby84 tz84 Try.underlying84 tsz88 tby88 tz88 Try.underlying88 fo88_0 fo88_1 tsz89 tby89 tz89 Try.underlying89 fo89_0 fo89_1 tsz92 tby92 tz92 Try.underlying92 peq92 fo92_0 fo92_1 fo92_2 tsz106 tby106 tz106 Try.underlying106 tsz107 tby107 tz107 Try.underlying107 tsz108 tby108 tz108 Try.underlying108 tsz110 tby110 tz110 Try.underlying110 tsz111 tby111 tz111 Try.underlying111 tsz112 tby112 tz112 Try.underlying112 tsz113 tby113 tz113 Try.underlying113 tsz114 tby114 tz114 Try.underlying114 tsz115 tby115 tz115 Try.underlying115 tsz116 tby116 tz116 Try.underlying116 fo116_0 fo116_1 fo116_2 fo116_3 fo116_4 fo116_5 fo116_6 fo116_7 fo116_8 fo116_9 fo116_10 tsz117 tby117 tz117 Try.underlying117 fo117_0 fo117_1 fo117_2 fo117_3 fo117_4 fo117_5 fo117_6 fo117_7 fo117_8 fo117_9 fo117_10 tsz118 tby118 tz118 Try.underlying118 l1InG ftC
theorem k_spec_l20Rd_pick (a0_0 : List Int) (a0_1 : Int) (a1 : Int) {r : Int × Int} (h : spec_l20Rd_pick a0_0 a0_1 a1 = some r) :
    FnA Try.prog 52 [.pp 0 0, .v (.int .i64 a1)] [.box [.sl 1, .v (.int .i64 a0_1)], .row false (.ints .u8 a0_0)] [] (fun x H => x = .v (.int .i64 r.1) ∧ H = [.box [.sl 1, .v (.int .i64 r.2)], .row false (.ints .u8 a0_0)]) := by
  unfold spec_l20Rd_pick at h
  refine FnA.of (N := 99) (pin := [0, 1]) (rs := [.tmp 4]) Try.func52 rfl en52 rfl rfl (by simp) (by simp; try omega) ?_
  refine awp_reg ftCOk [(0, .pp 0 0), (1, .v (.int .i64 a1))] [.box [.sl 1, .v (.int .i64 a0_1)], .row false (.ints .u8 a0_0)] ?_
  replace h := chk_some h
  obtain ⟨hp0, h⟩ := h
  refine awp_reg ftCOk [(0, .pp 0 0), (1, .v (.int .i64 a1))] [.box [.sl 1, .v (.int .i64 (a0_1 + 1))], .row false (.ints .u8 a0_0)] ?_
  clear hp0
  refine awp_seq fun K2 hK2 => ?_
  refine awp_reg ftCOk [(0, .pp 0 0), (1, .v (.int .i64 a1)), (24, .v (.bool ((decide (a1 < 1)) || ((a0_0.length : Int) == 0))))] [.box [.sl 1, .v (.int .i64 (a0_1 + 1))], .row false (.ints .u8 a0_0)] ?_
  refine awp_cond (t := 24) rfl (fun hc3 => ?_) (fun hc3 => ?_)
  · replace h := bite_t h hc3
    refine awp_reg ftCOk [(4, .v (.int .i64 0))] [.box [.sl 1, .v (.int .i64 (a0_1 + 1))], .row false (.ints .u8 a0_0)] ?_
    refine awp_ret ?_
    (try simp only [Thn, InBlk, ↓reduceIte, Nat.reduceEqDiff])
    obtain rfl := Option.some.inj h
    refine ⟨by simp, _, [0, 1], (by simp only [go_sem, Nat.reduceBEq, Nat.reduceLT, Nat.reduceAdd, Nat.reduceLeDiff, Nat.reduceSub, Nat.reduceEqDiff, Int.reduceToNat, reduceCtorEq, ↓reduceIte]; exact rfl), ?_, ?_, ?_, ?_⟩
    · first | exact trivial | exact ⟨trivial, trivial⟩ | exact ⟨trivial, trivial, trivial⟩ | exact ⟨trivial, trivial, trivial, trivial⟩ | (simp only [allP, and_true, true_and]; done) | (simp only [allP, and_true, true_and]; omega)
    · simp [selOk, pos]
    · simp
    · first | exact ⟨rfl, rfl⟩ | (simp only [go_sem, Nat.reduceBEq, Nat.reduceLT, Nat.reduceAdd, Nat.reduceLeDiff, Nat.reduceSub, Nat.reduceEqDiff, Int.reduceToNat, reduceCtorEq, ↓reduceIte]; done) | (simp [go_sem, Nat.reduceBEq, Nat.reduceLT, Nat.reduceAdd, Nat.reduceLeDiff, Nat.reduceSub, Nat.reduceEqDiff, Int.reduceToNat, reduceCtorEq, ↓reduceIte]; done) | (simp only [go_sem, Nat.reduceBEq, Nat.reduceLT, Nat.reduceAdd, Nat.reduceLeDiff, Nat.reduceSub, Nat.reduceEqDiff, Int.reduceToNat, reduceCtorEq, ↓reduceIte]; exact ⟨rfl, rfl⟩) | (simp_all [go_sem, Nat.reduceBEq, Nat.reduceLT, Nat.reduceAdd, Nat.reduceLeDiff, Nat.reduceSub, Nat.reduceEqDiff, Int.reduceToNat, reduceCtorEq, ↓reduceIte]; done)
  · replace h := bite_f h hc3
    refine awp_skip ?_
    (try simp only [Thn, InBlk, ↓reduceIte, Nat.reduceEqDiff])
    refine hK2 _ _ ?_
    clear hK2
    replace h := chk_some h
    obtain ⟨hp0, h⟩ := h
    have hwhp0 := wrap_fits hp0.1 hp0.2
    refine awp_reg ftCOk [(0, .pp 0 0), (1, .v (.int .i64 a1)), (5, .v (.int .i64 ((a0_1 + 1) - 1)))] [.box [.sl 1, .v (.int .i64 (a0_1 + 1))], .row false (.ints .u8 a0_0)] ?_
    clear hp0
    refine awp_seq fun K5 hK5 => ?_
    refine awp_reg ftCOk [(0, .pp 0 0), (1, .v (.int .i64 a1)), (5, .v (.int .i64 ((a0_1 + 1) - 1))), (36, .v (.bool (decide (((a0_1 + 1) - 1) < (a0_0.length : Int)))))] [.box [.sl 1, .v (.int .i64 (a0_1 + 1))], .row false (.ints .u8 a0_0)] ?_
    refine awp_cond (t := 36) rfl (fun hc6 => ?_) (fun hc6 => ?_)
    · replace h := bite_t h hc6
      replace h := chk_some h
      obtain ⟨hp0, h⟩ := h
      replace h := chk_some h
      obtain ⟨hp1, h⟩ := h
      replace h := chk_some h
      obtain ⟨hp2, h⟩ := h
      refine awp_reg ftCOk [(4, .v (.int .i64 ((a0_0.getD (((a0_1 + 1) - 1).toNat) 0) % a1)))] [.box [.sl 1, .v (.int .i64 (a0_1 + 1))], .row false (.ints .u8 a0_0)] ?_
      clear hp0 hp1 hp2
      refine awp_ret ?_
      (try simp only [Thn, InBlk, ↓reduceIte, Nat.reduceEqDiff])
      obtain rfl := Option.some.inj h
      refine ⟨by simp, _, [0, 1], (by simp only [go_sem, Nat.reduceBEq, Nat.reduceLT, Nat.reduceAdd, Nat.reduceLeDiff, Nat.reduceSub, Nat.reduceEqDiff, Int.reduceToNat, reduceCtorEq, ↓reduceIte]; exact rfl), ?_, ?_, ?_, ?_⟩
      · first | exact trivial | exact ⟨trivial, trivial⟩ | exact ⟨trivial, trivial, trivial⟩ | exact ⟨trivial, trivial, trivial, trivial⟩ | (simp only [allP, and_true, true_and]; done) | (simp only [allP, and_true, true_and]; omega)
      · simp [selOk, pos]
      · simp
      · first | exact ⟨rfl, rfl⟩ | (simp only [go_sem, Nat.reduceBEq, Nat.reduceLT, Nat.reduceAdd, Nat.reduceLeDiff, Nat.reduceSub, Nat.reduceEqDiff, Int.reduceToNat, reduceCtorEq, ↓reduceIte]; done) | (simp [go_sem, Nat.reduceBEq, Nat.reduceLT, Nat.reduceAdd, Nat.reduceLeDiff, Nat.reduceSub, Nat.reduceEqDiff, Int.reduceToNat, reduceCtorEq, ↓reduceIte]; done) | (simp only [go_sem, Nat.reduceBEq, Nat.reduceLT, Nat.reduceAdd, Nat.reduceLeDiff, Nat.reduceSub, Nat.reduceEqDiff, Int.reduceToNat, reduceCtorEq, ↓reduceIte]; exact ⟨rfl, rfl⟩) | (simp_all [go_sem, Nat.reduceBEq, Nat.reduceLT, Nat.reduceAdd, Nat.reduceLeDiff, Nat.reduceSub, Nat.reduceEqDiff, Int.reduceToNat, reduceCtorEq, ↓reduceIte]; done)
    · replace h := bite_f h hc6
      refine awp_skip ?_
      (try simp only [Thn, InBlk, ↓reduceIte, Nat.reduceEqDiff])
      refine hK5 _ _ ?_
      clear hK5
      replace h := chk_some h
      obtain ⟨hp0, h⟩ := h
      replace h := chk_some h
      obtain ⟨hp1, h⟩ := h
      replace h := chk_some h
      obtain ⟨hp2, h⟩ := h
      replace h := chk_some h
      obtain ⟨hp3, h⟩ := h
      replace h := chk_some h
      obtain ⟨hp4, h⟩ := h
      replace h := chk_some h
      obtain ⟨hp5, h⟩ := h
      replace h := chk_some h
      obtain ⟨hp6, h⟩ := h
      replace h := chk_some h
      obtain ⟨hp7, h⟩ := h
      replace h := chk_some h
      obtain ⟨hp8, h⟩ := h
      replace h := chk_some h
      obtain ⟨hp9, h⟩ := h
      replace h := chk_some h
      obtain ⟨hp10, h⟩ := h
      replace h := chk_some h
      obtain ⟨hp11, h⟩ := h
      replace h := chk_some h
      obtain ⟨hp12, h⟩ := h
      replace h := chk_some h
      obtain ⟨hp13, h⟩ := h
      replace h := chk_some h
      obtain ⟨hp14, h⟩ := h
      replace h := chk_some h
      obtain ⟨hp15, h⟩ := h
      refine awp_regQ mixed ftCOk [(1, .v (.int .i64 a1)), (6, .v (.int .i64 (((((a0_0.getD ((((a0_1 + 1) - 1) % (a0_0.length : Int)).toNat) 0) * 131) + ((a0_0.getD ((((((a0_1 + 1) - 1) * 7) + 3) % (a0_0.length : Int)).toNat) 0) * 1117)) + (((a0_1 + 1) - 1) * 29)) + ((((a0_1 + 1) - 1) / (a0_0.length : Int)) * 53))))] [.box [.sl 1, .v (.int .i64 (a0_1 + 1))], .row false (.ints .u8 a0_0)] ?_
      clear hp0 hp1 hp2 hp3 hp4 hp5 hp6 hp7 hp8 hp9 hp10 hp11 hp12 hp13 hp14 hp15
      replace h := chk_some h
      obtain ⟨hp0, h⟩ := h
      refine awp_reg ftCOk [(1, .v (.int .i64 a1)), (6, .v (.int .i64 (bitsV .xor .i64 (((((a0_0.getD ((((a0_1 + 1) - 1) % (a0_0.length : Int)).toNat) 0) * 131) + ((a0_0.getD ((((((a0_1 + 1) - 1) * 7) + 3) % (a0_0.length : Int)).toNat) 0) * 1117)) + (((a0_1 + 1) - 1) * 29)) + ((((a0_1 + 1) - 1) / (a0_0.length : Int)) * 53)) ((((((a0_0.getD ((((a0_1 + 1) - 1) % (a0_0.length : Int)).toNat) 0) * 131) + ((a0_0.getD ((((((a0_1 + 1) - 1) * 7) + 3) % (a0_0.length : Int)).toNat) 0) * 1117)) + (((a0_1 + 1) - 1) * 29)) + ((((a0_1 + 1) - 1) / (a0_0.length : Int)) * 53)) / 64))))] [.box [.sl 1, .v (.int .i64 (a0_1 + 1))], .row false (.ints .u8 a0_0)] ?_
      clear hp0
      replace h := chk_some h
      obtain ⟨hp0, h⟩ := h
      refine awp_reg ftCOk [(4, .v (.int .i64 ((bitsV .xor .i64 (((((a0_0.getD ((((a0_1 + 1) - 1) % (a0_0.length : Int)).toNat) 0) * 131) + ((a0_0.getD ((((((a0_1 + 1) - 1) * 7) + 3) % (a0_0.length : Int)).toNat) 0) * 1117)) + (((a0_1 + 1) - 1) * 29)) + ((((a0_1 + 1) - 1) / (a0_0.length : Int)) * 53)) ((((((a0_0.getD ((((a0_1 + 1) - 1) % (a0_0.length : Int)).toNat) 0) * 131) + ((a0_0.getD ((((((a0_1 + 1) - 1) * 7) + 3) % (a0_0.length : Int)).toNat) 0) * 1117)) + (((a0_1 + 1) - 1) * 29)) + ((((a0_1 + 1) - 1) / (a0_0.length : Int)) * 53)) / 64)) % a1)))] [.box [.sl 1, .v (.int .i64 (a0_1 + 1))], .row false (.ints .u8 a0_0)] ?_
      clear hp0
      refine awp_ret ?_
      (try simp only [Thn, InBlk, ↓reduceIte, Nat.reduceEqDiff])
      obtain rfl := Option.some.inj h
      refine ⟨by simp, _, [0, 1], (by simp only [go_sem, Nat.reduceBEq, Nat.reduceLT, Nat.reduceAdd, Nat.reduceLeDiff, Nat.reduceSub, Nat.reduceEqDiff, Int.reduceToNat, reduceCtorEq, ↓reduceIte]; exact rfl), ?_, ?_, ?_, ?_⟩
      · first | exact trivial | exact ⟨trivial, trivial⟩ | exact ⟨trivial, trivial, trivial⟩ | exact ⟨trivial, trivial, trivial, trivial⟩ | (simp only [allP, and_true, true_and]; done) | (simp only [allP, and_true, true_and]; omega)
      · simp [selOk, pos]
      · simp
      · first | exact ⟨rfl, rfl⟩ | (simp only [go_sem, Nat.reduceBEq, Nat.reduceLT, Nat.reduceAdd, Nat.reduceLeDiff, Nat.reduceSub, Nat.reduceEqDiff, Int.reduceToNat, reduceCtorEq, ↓reduceIte]; done) | (simp [go_sem, Nat.reduceBEq, Nat.reduceLT, Nat.reduceAdd, Nat.reduceLeDiff, Nat.reduceSub, Nat.reduceEqDiff, Int.reduceToNat, reduceCtorEq, ↓reduceIte]; done) | (simp only [go_sem, Nat.reduceBEq, Nat.reduceLT, Nat.reduceAdd, Nat.reduceLeDiff, Nat.reduceSub, Nat.reduceEqDiff, Int.reduceToNat, reduceCtorEq, ↓reduceIte]; exact ⟨rfl, rfl⟩) | (simp_all [go_sem, Nat.reduceBEq, Nat.reduceLT, Nat.reduceAdd, Nat.reduceLeDiff, Nat.reduceSub, Nat.reduceEqDiff, Int.reduceToNat, reduceCtorEq, ↓reduceIte]; done)
theorem k_spec_l20Rd_odd (a0_0 : List Int) (a0_1 : Int) (a1 : Int) {r : Bool × Int} (h : spec_l20Rd_odd a0_0 a0_1 a1 = some r) :
    FnA Try.prog 53 [.pp 0 0, .v (.int .i64 a1)] [.box [.sl 1, .v (.int .i64 a0_1)], .row false (.ints .u8 a0_0)] [] (fun x H => x = .v (.bool r.1) ∧ H = [.box [.sl 1, .v (.int .i64 r.2)], .row false (.ints .u8 a0_0)]) := by
  unfold spec_l20Rd_odd at h
  refine FnA.of (N := 15) (pin := [0, 1]) (rs := [.tmp 4]) Try.func53 rfl en53 rfl rfl (by simp) (by simp; try omega) ?_
  refine awp_reg ftCOk [(0, .pp 0 0), (1, .v (.int .i64 a1))] [.box [.sl 1, .v (.int .i64 a0_1)], .row false (.ints .u8 a0_0)] ?_
  replace h := bind_some h
  obtain ⟨⟨y, y_1⟩, hr0, h⟩ := h
  try dsimp only at h
  refine awp_to [(4, .v (.bool ((decide (0 < a1)) && (y == (IntKind.i64.wrap (a1 - 1))))))] [.box [.sl 1, .v (.int .i64 y_1)], .row false (.ints .u8 a0_0)] ?_ ?_
  · clear h
    intro K hK
    refine awp_region ftCOk ?_
    simp (maxSteps := 4000000) only [go_sem, Nat.reduceBEq, Nat.reduceLT, Nat.reduceAdd, Nat.reduceLeDiff, Nat.reduceSub, Nat.reduceEqDiff, Int.reduceToNat, reduceCtorEq, ↓reduceIte]
    repeat' (first | refine And.intro ?_ ?_ | intro hg)
    all_goals (try simp (disch := omega) only [wrap_fits])
    all_goals first
      | (refine hK _ _ ?_; exact Red.auto)
      | exact trivial
      | assumption
      | omega
      | exact wrap_fits (by omega) (by omega)
      | (refine wpA_guard rfl rfl ?_
         refine wpA_callA (k_spec_l20Rd_pick a0_0 a0_1 a1 (h := (bite_t hr0 (by first | assumption | (simp only [*, Bool.false_or, Bool.true_or, Bool.or_false, Bool.or_true, Bool.false_and, Bool.true_and, Bool.and_false, Bool.and_true, Bool.not_true, Bool.not_false, beq_self_eq_true]; done) | (simp_all; done))))) [0, 1] [] ?_
         rintro x Hc' ⟨rfl, rfl⟩ hlen
         refine vcOps_sound ftCOk ?_
         simp (maxSteps := 4000000) only [go_sem, Nat.reduceBEq, Nat.reduceLT, Nat.reduceAdd, Nat.reduceLeDiff, Nat.reduceSub, Nat.reduceEqDiff, Int.reduceToNat, reduceCtorEq, ↓reduceIte]
         repeat' (first | refine And.intro ?_ ?_ | intro hg)
         all_goals (try simp (disch := omega) only [wrap_fits])
         all_goals first
           | (refine hK _ _ ?_; exact Red.auto)
           | exact trivial
           | assumption
           | omega
           | exact wrap_fits (by omega) (by omega)
           | (simp_all; done)
           | (simp_all; omega))
      | (simp_all; done)
      | (simp_all; omega)
  · clear hr0
    refine awp_ret ?_
    (try simp only [Thn, InBlk, ↓reduceIte, Nat.reduceEqDiff])
    obtain rfl := Option.some.inj h
    refine ⟨by simp, _, [0, 1], (by simp only [go_sem, Nat.reduceBEq, Nat.reduceLT, Nat.reduceAdd, Nat.reduceLeDiff, Nat.reduceSub, Nat.reduceEqDiff, Int.reduceToNat, reduceCtorEq, ↓reduceIte]; exact rfl), ?_, ?_, ?_, ?_⟩
    · first | exact trivial | exact ⟨trivial, trivial⟩ | exact ⟨trivial, trivial, trivial⟩ | exact ⟨trivial, trivial, trivial, trivial⟩ | (simp only [allP, and_true, true_and]; done) | (simp only [allP, and_true, true_and]; omega)
    · simp [selOk, pos]
    · simp
    · first | exact ⟨rfl, rfl⟩ | (simp only [go_sem, Nat.reduceBEq, Nat.reduceLT, Nat.reduceAdd, Nat.reduceLeDiff, Nat.reduceSub, Nat.reduceEqDiff, Int.reduceToNat, reduceCtorEq, ↓reduceIte]; done) | (simp [go_sem, Nat.reduceBEq, Nat.reduceLT, Nat.reduceAdd, Nat.reduceLeDiff, Nat.reduceSub, Nat.reduceEqDiff, Int.reduceToNat, reduceCtorEq, ↓reduceIte]; done) | (simp only [go_sem, Nat.reduceBEq, Nat.reduceLT, Nat.reduceAdd, Nat.reduceLeDiff, Nat.reduceSub, Nat.reduceEqDiff, Int.reduceToNat, reduceCtorEq, ↓reduceIte]; exact ⟨rfl, rfl⟩) | (simp_all [go_sem, Nat.reduceBEq, Nat.reduceLT, Nat.reduceAdd, Nat.reduceLeDiff, Nat.reduceSub, Nat.reduceEqDiff, Int.reduceToNat, reduceCtorEq, ↓reduceIte]; done)
theorem k_spec_l20Open_v1 (a0 : List Int) {r : List Int × Int} (h : spec_l20Open_v1 a0 = some r) :
    FnA Try.prog 51 [.sl 0] [.row false (.ints .u8 a0)] [] (fun x H => x = .pp 1 0 ∧ H = [.row false (.ints .u8 a0), .box [.sl 2, .v (.int .i64 r.2)], .row false (.ints .u8 r.1)]) := by
  unfold spec_l20Open_v1 at h
  refine FnA.of (N := 11) (pin := [0]) (rs := [.tmp 2]) Try.func51 rfl en51 rfl rfl (by simp) (by simp; try omega) ?_
  refine awp_reg ftCOk [(0, .sl 0)] [.row false (.ints .u8 a0)] ?_
  refine awp_join h (fun (t0s : List Int) => [(0, .sl 1)]) (fun (t0s : List Int) => [.row false (.ints .u8 a0), .row false (.ints .u8 t0s)]) ?_ ?_
  · clear h
    intro k h
    try dsimp only at h
    refine awp_reg ftCOk [(0, .sl 0), (5, .v (.bool (decide (2000 < (a0.length : Int)))))] [.row false (.ints .u8 a0)] ?_
    refine awp_cond (t := 5) rfl (fun hc2 => ?_) (fun hc2 => ?_)
    · replace h := bite_t h hc2
      replace h := chk_some h
      obtain ⟨hp0, h⟩ := h
      refine awp_regE ftCOk [(0, .sl 1)] [.row false (.ints .u8 a0), .row false (.ints .u8 ((a0.take 2000).drop 0))] ?_
      clear hp0
      (try simp only [Thn, InBlk, ↓reduceIte, Nat.reduceEqDiff])
      refine ⟨_, h, ?_⟩
      exact Red.auto
    · replace h := bite_f h hc2
      refine awp_skip ?_
      (try simp only [Thn, InBlk, ↓reduceIte, Nat.reduceEqDiff])
      refine ⟨_, h, ?_⟩
      refine Red.trans (Red.dup (t := 0) rfl rfl) ?_
      exact Red.auto
  · clear h
    rintro t0s h
    try dsimp only at h
    try dsimp only
    refine awp_reg ftCOk [(2, .pp 2 0)] [.row false (.ints .u8 a0), .row false (.ints .u8 t0s), .box [.sl 1, .v (.int .i64 0)]] ?_
    refine awp_ret ?_
    (try simp only [Thn, InBlk, ↓reduceIte, Nat.reduceEqDiff])
    obtain rfl := Option.some.inj h
    refine ⟨by simp, _, [0, 2, 1], (by simp only [go_sem, Nat.reduceBEq, Nat.reduceLT, Nat.reduceAdd, Nat.reduceLeDiff, Nat.reduceSub, Nat.reduceEqDiff, Int.reduceToNat, reduceCtorEq, ↓reduceIte]; exact rfl), ?_, ?_, ?_, ?_⟩
    · first | exact trivial | exact ⟨trivial, trivial⟩ | exact ⟨trivial, trivial, trivial⟩ | exact ⟨trivial, trivial, trivial, trivial⟩ | (simp only [allP, and_true, true_and]; done) | (simp only [allP, and_true, true_and]; omega)
    · simp [selOk, pos]
    · simp
    · first | exact ⟨rfl, rfl⟩ | (simp only [go_sem, Nat.reduceBEq, Nat.reduceLT, Nat.reduceAdd, Nat.reduceLeDiff, Nat.reduceSub, Nat.reduceEqDiff, Int.reduceToNat, reduceCtorEq, ↓reduceIte]; done) | (simp [go_sem, Nat.reduceBEq, Nat.reduceLT, Nat.reduceAdd, Nat.reduceLeDiff, Nat.reduceSub, Nat.reduceEqDiff, Int.reduceToNat, reduceCtorEq, ↓reduceIte]; done) | (simp only [go_sem, Nat.reduceBEq, Nat.reduceLT, Nat.reduceAdd, Nat.reduceLeDiff, Nat.reduceSub, Nat.reduceEqDiff, Int.reduceToNat, reduceCtorEq, ↓reduceIte]; exact ⟨rfl, rfl⟩) | (simp_all [go_sem, Nat.reduceBEq, Nat.reduceLT, Nat.reduceAdd, Nat.reduceLeDiff, Nat.reduceSub, Nat.reduceEqDiff, Int.reduceToNat, reduceCtorEq, ↓reduceIte]; done)
theorem k_spec_DrawColorGroups (a0 : List Int) {r : List Int} (h : spec_DrawColorGroups a0 = some r) :
    FnA Try.prog 25 [.sl 0] [.row false (.ints .u8 a0)] [] (fun x H => x = .sl 1 ∧ H = [.row false (.ints .u8 a0), .row true (.ints .i64 r)]) := by
  unfold spec_DrawColorGroups at h
  refine FnA.of (N := 32) (pin := [0]) (rs := [.tmp 2]) Try.func25 rfl en25 rfl rfl (by simp) (by simp; try omega) ?_
  refine awp_reg ftCOk [(0, .sl 0)] [.row false (.ints .u8 a0)] ?_
  replace h := bind_some h
  obtain ⟨⟨y, y_1⟩, hr0, h⟩ := h
  try dsimp only at h
  refine awp_to [(3, .pp 1 0)] [.row false (.ints .u8 a0), .box [.sl 2, .v (.int .i64 y_1)], .row false (.ints .u8 y)] ?_ ?_
  · clear h
    intro K hK
    refine awp_region ftCOk ?_
    simp (maxSteps := 4000000) only [go_sem, Nat.reduceBEq, Nat.reduceLT, Nat.reduceAdd, Nat.reduceLeDiff, Nat.reduceSub, Nat.reduceEqDiff, Int.reduceToNat, reduceCtorEq, ↓reduceIte]
    repeat' (first | refine And.intro ?_ ?_ | intro hg)
    all_goals (try simp (disch := omega) only [wrap_fits])
    all_goals first
      | (refine hK _ _ ?_; exact Red.auto)
      | exact trivial
      | assumption
      | omega
      | exact wrap_fits (by omega) (by omega)
      | (refine wpA_here (k_spec_l20Open_v1 a0 (h := hr0)) ?_
         rintro x Hc' ⟨rfl, rfl⟩ hlen
         refine vcOps_sound ftCOk ?_
         simp (maxSteps := 4000000) only [go_sem, Nat.reduceBEq, Nat.reduceLT, Nat.reduceAdd, Nat.reduceLeDiff, Nat.reduceSub, Nat.reduceEqDiff, Int.reduceToNat, reduceCtorEq, ↓reduceIte]
         repeat' (first | refine And.intro ?_ ?_ | intro hg)
         all_goals (try simp (disch := omega) only [wrap_fits])
         all_goals first
           | (refine hK _ _ ?_; exact Red.auto)
           | exact trivial
           | assumption
           | omega
           | exact wrap_fits (by omega) (by omega)
           | (simp_all; done)
           | (simp_all; omega))
      | (simp_all; done)
      | (simp_all; omega)
  · clear hr0
    refine awp_reg ftCOk [(3, .pp 1 0), (4, .sl 3)] [.row false (.ints .u8 a0), .box [.sl 2, .v (.int .i64 y_1)], .row false (.ints .u8 y), .row true (.ints .i64 [])] ?_
    refine awp_seq fun K14 hK14 => ?_
    replace h := bind_some h
    obtain ⟨⟨y_2, y_3⟩, hr0, h⟩ := h
    try dsimp only at h
    refine awp_to [(3, .pp 1 0), (4, .sl 3), (5, .v (.int .i64 y_2))] [.row false (.ints .u8 a0), .box [.sl 2, .v (.int .i64 y_3)], .row false (.ints .u8 y), .row true (.ints .i64 [])] ?_ ?_
    · clear h
      intro K hK
      refine awp_region ftCOk ?_
      simp (maxSteps := 4000000) only [go_sem, Nat.reduceBEq, Nat.reduceLT, Nat.reduceAdd, Nat.reduceLeDiff, Nat.reduceSub, Nat.reduceEqDiff, Int.reduceToNat, reduceCtorEq, ↓reduceIte]
      repeat' (first | refine And.intro ?_ ?_ | intro hg)
      all_goals (try simp (disch := omega) only [wrap_fits])
      all_goals first
        | (refine hK _ _ ?_; exact Red.auto)
        | exact trivial
        | assumption
        | omega
        | exact wrap_fits (by omega) (by omega)
        | (refine wpA_callA (k_spec_l20Rd_pick y y_1 12 (h := hr0)) [1, 2] [] ?_
           rintro x Hc' ⟨rfl, rfl⟩ hlen
           refine vcOps_sound ftCOk ?_
           simp (maxSteps := 4000000) only [go_sem, Nat.reduceBEq, Nat.reduceLT, Nat.reduceAdd, Nat.reduceLeDiff, Nat.reduceSub, Nat.reduceEqDiff, Int.reduceToNat, reduceCtorEq, ↓reduceIte]
           repeat' (first | refine And.intro ?_ ?_ | intro hg)
           all_goals (try simp (disch := omega) only [wrap_fits])
           all_goals first
             | (refine hK _ _ ?_; exact Red.auto)
             | exact trivial
             | assumption
             | omega
             | exact wrap_fits (by omega) (by omega)
             | (simp_all; done)
             | (simp_all; omega))
        | (simp_all; done)
        | (simp_all; omega)
    · clear hr0
      refine awp_block ?_
      replace h := bind_some h
      obtain ⟨x27, hx, h⟩ := h
      refine awp_loopL hx (fun ((t5, t3_1, t4s) : Int × Int × List Int) => [(3, .pp 1 0), (4, .sl 3), (5, .v (.int .i64 t5))]) (fun ((t5, t3_1, t4s) : Int × Int × List Int) => [.row false (.ints .u8 a0), .box [.sl 2, .v (.int .i64 t3_1)], .row false (.ints .u8 y), .row true (.ints .i64 t4s)]) (fun ((t3_1_1, t4s_1) : Int × List Int) => Exit.exit 0) (fun ((t3_1_1, t4s_1) : Int × List Int) => [(3, .pp 1 0), (4, .sl 3)]) (fun ((t3_1_1, t4s_1) : Int × List Int) => [.row false (.ints .u8 a0), .box [.sl 2, .v (.int .i64 t3_1_1)], .row false (.ints .u8 y), .row true (.ints .i64 t4s_1)]) ?_ ?_ ?_ ?_
      · rintro ⟨t3_1_1, t4s_1⟩ hy <;> cases hy
      · clear h hx
        exact Red.auto
      · clear h hx
        rintro ⟨t5, t3_1, t4s⟩ r h
        unfold spec_DrawColorGroups_b0 at h
        try dsimp only at h
        try dsimp only
        refine awp_seq fun K24 hK24 => ?_
        refine awp_reg ftCOk [(3, .pp 1 0), (4, .sl 3), (5, .v (.int .i64 t5)), (12, .v (.bool (decide (0 < t5))))] [.row false (.ints .u8 a0), .box [.sl 2, .v (.int .i64 t3_1)], .row false (.ints .u8 y), .row true (.ints .i64 t4s)] ?_
        refine awp_cond (t := 12) rfl (fun hc25 => ?_) (fun hc25 => ?_)
        · replace h := bite_t h hc25
          refine awp_skip ?_
          (try simp only [Thn, InBlk, ↓reduceIte, Nat.reduceEqDiff])
          refine hK24 _ _ ?_
          clear hK24
          refine awp_seq fun K26 hK26 => ?_
          refine awp_block ?_
          replace h := bind_some h
          obtain ⟨⟨y_4, y_5⟩, hr0, h⟩ := h
          try dsimp only at h
          replace h := bind_some h
          obtain ⟨⟨y_6, y_7⟩, hr1, h⟩ := h
          try dsimp only at h
          replace h := chk_some h
          obtain ⟨hp2, h⟩ := h
          replace h := chk_some h
          obtain ⟨hp3, h⟩ := h
          replace h := chk_some h
          obtain ⟨hp4, h⟩ := h
          refine awp_end [(3, .pp 1 0), (4, .sl 3), (5, .v (.int .i64 t5))] [.row false (.ints .u8 a0), .box [.sl 2, .v (.int .i64 y_7)], .row false (.ints .u8 y), .row true (.ints .i64 (t4s ++ [(([y_4, 16, 17, (-1)] : List Int).getD ((([0, 0, 0, 0, 0, 0, 0, 1, 2, 3] : List Int).getD y_6.toNat 0).toNat) 0)])), .row true (.ints .i64 [y_4, 16, 17, (-1)]), .row true (.ints .i64 [0, 0, 0, 0, 0, 0, 0, 1, 2, 3]), .row true (.ints .i64 [(([y_4, 16, 17, (-1)] : List Int).getD ((([0, 0, 0, 0, 0, 0, 0, 1, 2, 3] : List Int).getD y_6.toNat 0).toNat) 0)])] ?_ ?_
          · clear h
            intro K hK
            refine awp_region ftCOk ?_
            simp (maxSteps := 4000000) only [go_sem, Nat.reduceBEq, Nat.reduceLT, Nat.reduceAdd, Nat.reduceLeDiff, Nat.reduceSub, Nat.reduceEqDiff, Int.reduceToNat, reduceCtorEq, ↓reduceIte]
            repeat' (first | refine And.intro ?_ ?_ | intro hg)
            all_goals (try simp (disch := omega) only [wrap_fits])
            all_goals first
              | (refine hK _ _ ?_; exact Red.auto)
              | exact trivial
              | assumption
              | omega
              | exact wrap_fits (by omega) (by omega)
              | (refine wpA_callA (k_spec_l20Rd_pick y t3_1 4 (h := hr0)) [1, 2] [] ?_
                 rintro x Hc' ⟨rfl, rfl⟩ hlen
                 refine vcOps_sound ftCOk ?_
                 simp (maxSteps := 4000000) only [go_sem, Nat.reduceBEq, Nat.reduceLT, Nat.reduceAdd, Nat.reduceLeDiff, Nat.reduceSub, Nat.reduceEqDiff, Int.reduceToNat, reduceCtorEq, ↓reduceIte]
                 repeat' (first | refine And.intro ?_ ?_ | intro hg)
                 all_goals (try simp (disch := omega) only [wrap_fits])
                 all_goals first
                   | (refine hK _ _ ?_; exact Red.auto)
                   | exact trivial
                   | assumption
                   | omega
                   | exact wrap_fits (by omega) (by omega)
                   | (refine wpA_callA (k_spec_l20Rd_pick y y_5 10 (h := hr1)) [1, 2] [] ?_
                      rintro x Hc' ⟨rfl, rfl⟩ hlen
                      refine vcOps_sound ftCOk ?_
                      simp (maxSteps := 4000000) only [go_sem, Nat.reduceBEq, Nat.reduceLT, Nat.reduceAdd, Nat.reduceLeDiff, Nat.reduceSub, Nat.reduceEqDiff, Int.reduceToNat, reduceCtorEq, ↓reduceIte]
                      repeat' (first | refine And.intro ?_ ?_ | intro hg)
                      all_goals (try simp (disch := omega) only [wrap_fits])
                      all_goals first
                        | (refine hK _ _ ?_; exact Red.auto)
                        | exact trivial
                        | assumption
                        | omega
                        | exact wrap_fits (by omega) (by omega)
                        | (simp_all; done)
                        | (simp_all; omega))
                   | (simp_all; done)
                   | (simp_all; omega))
              | (simp_all; done)
              | (simp_all; omega)
          · clear hr0 hr1 hp2 hp3 hp4
            (try simp only [Thn, InBlk, ↓reduceIte, Nat.reduceEqDiff])
            (try simp only [Thn, InBlk, ↓reduceIte, Nat.reduceEqDiff])
            refine hK26 _ _ ?_
            clear hK26
            replace h := chk_some h
            obtain ⟨hp0, h⟩ := h
            have hwhp0 := wrap_fits hp0.1 hp0.2
            refine awp_regE ftCOk [(3, .pp 1 0), (4, .sl 3), (5, .v (.int .i64 (t5 - 1)))] [.row false (.ints .u8 a0), .box [.sl 2, .v (.int .i64 y_7)], .row false (.ints .u8 y), .row true (.ints .i64 (t4s ++ [(([y_4, 16, 17, (-1)] : List Int).getD ((([0, 0, 0, 0, 0, 0, 0, 1, 2, 3] : List Int).getD y_6.toNat 0).toNat) 0)])), .row true (.ints .i64 [y_4, 16, 17, (-1)]), .row true (.ints .i64 [0, 0, 0, 0, 0, 0, 0, 1, 2, 3]), .row true (.ints .i64 [(([y_4, 16, 17, (-1)] : List Int).getD ((([0, 0, 0, 0, 0, 0, 0, 1, 2, 3] : List Int).getD y_6.toNat 0).toNat) 0)])] ?_
            clear hp0
            obtain rfl := Option.some.inj h
            refine LoopQ.next ?_
            exact Red.selA [0, 1, 2, 3] Red.auto
        · replace h := bite_f h hc25
          refine awp_exit ?_
          (try simp only [Thn, InBlk, ↓reduceIte, Nat.reduceEqDiff])
          obtain rfl := Option.some.inj h
          refine LoopQ.out rfl ?_
          exact Red.auto
      · clear hx
        rcases x27 with ⟨t3_1_1, t4s_1⟩
        · try dsimp only [Sum.elim_inl, Sum.elim_inr] at h
          try dsimp only [Sum.elim_inl, Sum.elim_inr]
          (try simp only [Thn, InBlk, ↓reduceIte, Nat.reduceEqDiff])
          (try simp only [Thn, InBlk, ↓reduceIte, Nat.reduceEqDiff])
          (try simp only [Thn, InBlk, ↓reduceIte, Nat.reduceEqDiff])
          refine hK14 _ _ ?_
          clear hK14
          refine awp_join h (fun (t4s_2 : List Int) => [(4, .sl 1)]) (fun (t4s_2 : List Int) => [.row false (.ints .u8 a0), .row true (.ints .i64 t4s_2)]) ?_ ?_
          · clear h
            intro k h
            try dsimp only at h
            replace h := bind_some h
            obtain ⟨⟨y_8, y_9⟩, hr0, h⟩ := h
            try dsimp only at h
            refine awp_to [(4, .sl 3), (29, .v (.bool y_8))] [.row false (.ints .u8 a0), .box [.sl 2, .v (.int .i64 y_9)], .row false (.ints .u8 y), .row true (.ints .i64 t4s_1)] ?_ ?_
            · clear h
              intro K hK
              refine awp_region ftCOk ?_
              simp (maxSteps := 4000000) only [go_sem, Nat.reduceBEq, Nat.reduceLT, Nat.reduceAdd, Nat.reduceLeDiff, Nat.reduceSub, Nat.reduceEqDiff, Int.reduceToNat, reduceCtorEq, ↓reduceIte]
              repeat' (first | refine And.intro ?_ ?_ | intro hg)
              all_goals (try simp (disch := omega) only [wrap_fits])
              all_goals first
                | (refine hK _ _ ?_; exact Red.auto)
                | exact trivial
                | assumption
                | omega
                | exact wrap_fits (by omega) (by omega)
                | (refine wpA_callA (k_spec_l20Rd_odd y t3_1_1 24 (h := hr0)) [1, 2] [] ?_
                   rintro x Hc' ⟨rfl, rfl⟩ hlen
                   refine vcOps_sound ftCOk ?_
                   simp (maxSteps := 4000000) only [go_sem, Nat.reduceBEq, Nat.reduceLT, Nat.reduceAdd, Nat.reduceLeDiff, Nat.reduceSub, Nat.reduceEqDiff, Int.reduceToNat, reduceCtorEq, ↓reduceIte]
                   repeat' (first | refine And.intro ?_ ?_ | intro hg)
                   all_goals (try simp (disch := omega) only [wrap_fits])
                   all_goals first
                     | (refine hK _ _ ?_; exact Red.auto)
                     | exact trivial
                     | assumption
                     | omega
                     | exact wrap_fits (by omega) (by omega)
                     | (simp_all; done)
                     | (simp_all; omega))
                | (simp_all; done)
                | (simp_all; omega)
            · clear hr0
              refine awp_cond (t := 29) rfl (fun hc29 => ?_) (fun hc29 => ?_)
              · replace h := bite_t h hc29
                replace h := chk_some h
                obtain ⟨hp0, h⟩ := h
                refine awp_regE ftCOk [(4, .sl 4)] [.row false (.ints .u8 a0), .box [.sl 2, .v (.int .i64 y_9)], .row false (.ints .u8 y), .row true (.ints .i64 t4s_1), .row true (.ints .i64 (List.replicate 17 0))] ?_
                clear hp0
                (try simp only [Thn, InBlk, ↓reduceIte, Nat.reduceEqDiff])
                refine ⟨_, h, ?_⟩
                exact Red.selA [0, 4] Red.auto
              · replace h := bite_f h hc29
                refine awp_skip ?_
                (try simp only [Thn, InBlk, ↓reduceIte, Nat.reduceEqDiff])
                refine ⟨_, h, ?_⟩
                exact Red.selA [0, 3] Red.auto
          · clear h
            rintro t4s_2 h
            try dsimp only at h
            try dsimp only
            refine awp_reg ftCOk [(2, .sl 1)] [.row false (.ints .u8 a0), .row true (.ints .i64 t4s_2)] ?_
            refine awp_ret ?_
            (try simp only [Thn, InBlk, ↓reduceIte, Nat.reduceEqDiff])
            obtain rfl := Option.some.inj h
            refine ⟨by simp, _, [0, 1], (by simp only [go_sem, Nat.reduceBEq, Nat.reduceLT, Nat.reduceAdd, Nat.reduceLeDiff, Nat.reduceSub, Nat.reduceEqDiff, Int.reduceToNat, reduceCtorEq, ↓reduceIte]; exact rfl), ?_, ?_, ?_, ?_⟩
            · first | exact trivial | exact ⟨trivial, trivial⟩ | exact ⟨trivial, trivial, trivial⟩ | exact ⟨trivial, trivial, trivial, trivial⟩ | (simp only [allP, and_true, true_and]; done) | (simp only [allP, and_true, true_and]; omega)
            · simp [selOk, pos]
            · simp
            · first | exact ⟨rfl, rfl⟩ | (simp only [go_sem, Nat.reduceBEq, Nat.reduceLT, Nat.reduceAdd, Nat.reduceLeDiff, Nat.reduceSub, Nat.reduceEqDiff, Int.reduceToNat, reduceCtorEq, ↓reduceIte]; done) | (simp [go_sem, Nat.reduceBEq, Nat.reduceLT, Nat.reduceAdd, Nat.reduceLeDiff, Nat.reduceSub, Nat.reduceEqDiff, Int.reduceToNat, reduceCtorEq, ↓reduceIte]; done) | (simp only [go_sem, Nat.reduceBEq, Nat.reduceLT, Nat.reduceAdd, Nat.reduceLeDiff, Nat.reduceSub, Nat.reduceEqDiff, Int.reduceToNat, reduceCtorEq, ↓reduceIte]; exact ⟨rfl, rfl⟩) | (simp_all [go_sem, Nat.reduceBEq, Nat.reduceLT, Nat.reduceAdd, Nat.reduceLeDiff, Nat.reduceSub, Nat.reduceEqDiff, Int.reduceToNat, reduceCtorEq, ↓reduceIte]; done)
theorem k_impl_ColorGroups (a0 : List Int) {r : List (List Int)} (h : impl_ColorGroups a0 = some r) :
    FnA Try.prog 20 [.sl 0] [.row false (.ints .i64 a0)] [] (fun x H => x = .sl 1 ∧ H = [.row false (.ints .i64 a0), .row true (.intss .i64 r)]) := by
  unfold impl_ColorGroups at h
  refine FnA.of (N := 50) (pin := [0]) (rs := [.tmp 2]) Try.func20 rfl en20 rfl rfl (by simp) (by simp; try omega) ?_
  refine awp_reg ftCOk [(0, .sl 0)] [.row false (.ints .i64 a0)] ?_
  refine awp_seq fun K2 hK2 => ?_
  refine awp_reg ftCOk [(0, .sl 0), (11, .v (.bool (decide (16 < (a0.length : Int)))))] [.row false (.ints .i64 a0)] ?_
  refine awp_cond (t := 11) rfl (fun hc3 => ?_) (fun hc3 => ?_)
  · replace h := bite_t h hc3
    refine awp_reg ftCOk [(2, .v (.slice none 0 0))] [.row false (.ints .i64 a0)] ?_
    refine awp_red (Red.nil (t := 2) (.intss .i64 []) rfl rfl) ?_
    refine awp_ret ?_
    (try simp only [Thn, InBlk, ↓reduceIte, Nat.reduceEqDiff])
    obtain rfl := Option.some.inj h
    refine ⟨by simp, _, [0, 1], (by simp only [go_sem, Nat.reduceBEq, Nat.reduceLT, Nat.reduceAdd, Nat.reduceLeDiff, Nat.reduceSub, Nat.reduceEqDiff, Int.reduceToNat, reduceCtorEq, ↓reduceIte]; exact rfl), ?_, ?_, ?_, ?_⟩
    · first | exact trivial | exact ⟨trivial, trivial⟩ | exact ⟨trivial, trivial, trivial⟩ | exact ⟨trivial, trivial, trivial, trivial⟩ | (simp only [allP, and_true, true_and]; done) | (simp only [allP, and_true, true_and]; omega)
    · simp [selOk, pos]
    · simp
    · first | exact ⟨rfl, rfl⟩ | (simp only [go_sem, Nat.reduceBEq, Nat.reduceLT, Nat.reduceAdd, Nat.reduceLeDiff, Nat.reduceSub, Nat.reduceEqDiff, Int.reduceToNat, reduceCtorEq, ↓reduceIte]; done) | (simp [go_sem, Nat.reduceBEq, Nat.reduceLT, Nat.reduceAdd, Nat.reduceLeDiff, Nat.reduceSub, Nat.reduceEqDiff, Int.reduceToNat, reduceCtorEq, ↓reduceIte]; done) | (simp only [go_sem, Nat.reduceBEq, Nat.reduceLT, Nat.reduceAdd, Nat.reduceLeDiff, Nat.reduceSub, Nat.reduceEqDiff, Int.reduceToNat, reduceCtorEq, ↓reduceIte]; exact ⟨rfl, rfl⟩) | (simp_all [go_sem, Nat.reduceBEq, Nat.reduceLT, Nat.reduceAdd, Nat.reduceLeDiff, Nat.reduceSub, Nat.reduceEqDiff, Int.reduceToNat, reduceCtorEq, ↓reduceIte]; done)
  · replace h := bite_f h hc3
    refine awp_skip ?_
    (try simp only [Thn, InBlk, ↓reduceIte, Nat.reduceEqDiff])
    refine hK2 _ _ ?_
    clear hK2
    refine awp_reg ftCOk [(0, .sl 0), (3, .v (.int .i64 0))] [.row false (.ints .i64 a0)] ?_
    refine awp_seq fun K35 hK35 => ?_
    refine awp_reg ftCOk [(0, .sl 0), (3, .v (.int .i64 0)), (12, .sl 0), (13, .v (.int .i64 (a0.length : Int))), (14, .v (.int .i64 0))] [.row false (.ints .i64 a0)] ?_
    refine awp_block ?_
    replace h := bind_some h
    obtain ⟨x66, hx, h⟩ := h
    refine awp_loopL hx (fun ((t3, t14) : Int × Int) => [(0, .sl 0), (3, .v (.int .i64 t3)), (12, .sl 0), (13, .v (.int .i64 (a0.length : Int))), (14, .v (.int .i64 t14))]) (fun ((t3, t14) : Int × Int) => [.row false (.ints .i64 a0)]) (Sum.elim (fun (t3_1 : Int) => Exit.exit 0) (fun (_ : Unit) => Exit.ret)) (Sum.elim (fun (t3_1 : Int) => [(0, .sl 0), (3, .v (.int .i64 t3_1))]) (fun (_ : Unit) => [(2, .sl 1)])) (Sum.elim (fun (t3_1 : Int) => [.row false (.ints .i64 a0)]) (fun (_ : Unit) => [.row false (.ints .i64 a0), .row true (.intss .i64 [])])) ?_ ?_ ?_ ?_
    · rintro (t3_1 | ⟨⟩) hy <;> cases hy
    · clear h hx
      exact Red.auto
    · clear h hx
      rintro ⟨t3, t14⟩ r h
      unfold impl_ColorGroups_b0 at h
      try dsimp only at h
      try dsimp only
      refine awp_reg ftCOk [(0, .sl 0), (3, .v (.int .i64 t3)), (12, .sl 0), (13, .v (.int .i64 (a0.length : Int))), (14, .v (.int .i64 t14)), (15, .v (.bool (decide (t14 < (a0.length : Int)))))] [.row false (.ints .i64 a0)] ?_
      refine awp_seq fun K57 hK57 => ?_
      refine awp_cond (t := 15) rfl (fun hc58 => ?_) (fun hc58 => ?_)
      · replace h := bite_t h hc58
        refine awp_skip ?_
        (try simp only [Thn, InBlk, ↓reduceIte, Nat.reduceEqDiff])
        refine hK57 _ _ ?_
        clear hK57
        refine awp_seq fun K62 hK62 => ?_
        refine awp_block ?_
        replace h := chk_some h
        obtain ⟨hp0, h⟩ := h
        refine awp_reg ftCOk [(0, .sl 0), (3, .v (.int .i64 t3)), (5, .v (.int .i64 (a0.getD t14.toNat 0))), (12, .sl 0), (13, .v (.int .i64 (a0.length : Int))), (14, .v (.int .i64 t14))] [.row false (.ints .i64 a0)] ?_
        clear hp0
        refine awp_seq fun K64 hK64 => ?_
        refine awp_reg ftCOk [(0, .sl 0), (3, .v (.int .i64 t3)), (5, .v (.int .i64 (a0.getD t14.toNat 0))), (12, .sl 0), (13, .v (.int .i64 (a0.length : Int))), (14, .v (.int .i64 t14)), (23, .v (.bool ((decide ((a0.getD t14.toNat 0) < 0)) || (decide (16 < (a0.getD t14.toNat 0))))))] [.row false (.ints .i64 a0)] ?_
        refine awp_cond (t := 23) rfl (fun hc65 => ?_) (fun hc65 => ?_)
        · replace h := bite_t h hc65
          refine awp_reg ftCOk [(2, .v (.slice none 0 0))] [.row false (.ints .i64 a0)] ?_
          refine awp_ret ?_
          (try simp only [Thn, InBlk, ↓reduceIte, Nat.reduceEqDiff])
          obtain rfl := Option.some.inj h
          refine LoopQ.out rfl ?_
          refine Red.trans (Red.nil (t := 2) (.intss .i64 []) rfl rfl) ?_
          exact Red.auto
        · replace h := bite_f h hc65
          refine awp_skip ?_
          (try simp only [Thn, InBlk, ↓reduceIte, Nat.reduceEqDiff])
          refine hK64 _ _ ?_
          clear hK64
          replace h := chk_some h
          obtain ⟨hp0, h⟩ := h
          refine awp_regE ftCOk [(0, .sl 0), (3, .v (.int .i64 (max t3 ((a0.getD t14.toNat 0) + 1)))), (12, .sl 0), (13, .v (.int .i64 (a0.length : Int))), (14, .v (.int .i64 t14))] [.row false (.ints .i64 a0)] ?_
          clear hp0
          (try simp only [Thn, InBlk, ↓reduceIte, Nat.reduceEqDiff])
          (try simp only [Thn, InBlk, ↓reduceIte, Nat.reduceEqDiff])
          refine hK62 _ _ ?_
          clear hK62
          replace h := chk_some h
          obtain ⟨hp0, h⟩ := h
          refine awp_regE ftCOk [(0, .sl 0), (3, .v (.int .i64 (max t3 ((a0.getD t14.toNat 0) + 1)))), (12, .sl 0), (13, .v (.int .i64 (a0.length : Int))), (14, .v (.int .i64 (t14 + 1)))] [.row false (.ints .i64 a0)] ?_
          clear hp0
          obtain rfl := Option.some.inj h
          refine LoopQ.next ?_
          exact Red.auto
      · replace h := bite_f h hc58
        refine awp_exit ?_
        (try simp only [Thn, InBlk, ↓reduceIte, Nat.reduceEqDiff])
        obtain rfl := Option.some.inj h
        refine LoopQ.out rfl ?_
        exact Red.auto
    · clear hx
      rcases x66 with (t3_1 | ⟨⟩)
      · try dsimp only [Sum.elim_inl, Sum.elim_inr] at h
        try dsimp only [Sum.elim_inl, Sum.elim_inr]
        (try simp only [Thn, InBlk, ↓reduceIte, Nat.reduceEqDiff])
        (try simp only [Thn, InBlk, ↓reduceIte, Nat.reduceEqDiff])
        (try simp only [Thn, InBlk, ↓reduceIte, Nat.reduceEqDiff])
        refine hK35 _ _ ?_
        clear hK35
        replace h := chk_some h
        obtain ⟨hp0, h⟩ := h
        refine awp_reg ftCOk [(0, .sl 0), (6, .sl 1)] [.row false (.ints .i64 a0), .row true (.intss .i64 (List.replicate t3_1.toNat []))] ?_
        clear hp0
        refine awp_seq fun K86 hK86 => ?_
        refine awp_reg ftCOk [(6, .sl 1), (31, .sl 0), (32, .v (.int .i64 (a0.length : Int))), (33, .v (.int .i64 0))] [.row false (.ints .i64 a0), .row true (.intss .i64 (List.replicate t3_1.toNat []))] ?_
        refine awp_block ?_
        replace h := bind_some h
        obtain ⟨t6s_1, hx, h⟩ := h
        refine awp_loopL hx (fun ((t33, t6s) : Int × List (List Int)) => [(6, .sl 1), (31, .sl 0), (32, .v (.int .i64 (a0.length : Int))), (33, .v (.int .i64 t33))]) (fun ((t33, t6s) : Int × List (List Int)) => [.row false (.ints .i64 a0), .row true (.intss .i64 t6s)]) (fun (t6s_1 : List (List Int)) => Exit.exit 2) (fun (t6s_1 : List (List Int)) => [(6, .sl 1)]) (fun (t6s_1 : List (List Int)) => [.row false (.ints .i64 a0), .row true (.intss .i64 t6s_1)]) ?_ ?_ ?_ ?_
        · rintro t6s_1 hy <;> cases hy
        · clear h hx
          exact Red.auto
        · clear h hx
          rintro ⟨t33, t6s⟩ r h
          unfold impl_ColorGroups_b1 at h
          try dsimp only at h
          try dsimp only
          refine awp_reg ftCOk [(6, .sl 1), (31, .sl 0), (32, .v (.int .i64 (a0.length : Int))), (33, .v (.int .i64 t33)), (34, .v (.bool (decide (t33 < (a0.length : Int)))))] [.row false (.ints .i64 a0), .row true (.intss .i64 t6s)] ?_
          refine awp_seq fun K100 hK100 => ?_
          refine awp_cond (t := 34) rfl (fun hc101 => ?_) (fun hc101 => ?_)
          · replace h := bite_t h hc101
            refine awp_skip ?_
            (try simp only [Thn, InBlk, ↓reduceIte, Nat.reduceEqDiff])
            refine hK100 _ _ ?_
            clear hK100
            refine awp_seq fun K103 hK103 => ?_
            refine awp_block ?_
            replace h := chk_some h
            obtain ⟨hp0, h⟩ := h
            refine awp_reg ftCOk [(6, .sl 1), (7, .v (.int .i64 t33)), (8, .v (.int .i64 (a0.getD t33.toNat 0))), (31, .sl 0), (32, .v (.int .i64 (a0.length : Int))), (33, .v (.int .i64 t33))] [.row false (.ints .i64 a0), .row true (.intss .i64 t6s)] ?_
            clear hp0
            replace h := chk_some h
            obtain ⟨hpt104, h⟩ := h
            refine awp_take 1 ((a0.getD t33.toNat 0).toNat) 0 (by rfl) (by exact hpt104) (by rfl) (by exact rfl) ?_
            clear hpt104
            replace h := chk_some h
            obtain ⟨hp0, h⟩ := h
            replace h := chk_some h
            obtain ⟨hp1, h⟩ := h
            refine awp_regE ftCOk [(6, .sl 1), (31, .sl 0), (32, .v (.int .i64 (a0.length : Int))), (33, .v (.int .i64 t33))] [.row false (.ints .i64 a0), .row true (.intss .i64 (t6s.set ((a0.getD t33.toNat 0).toNat) ((t6s.getD ((a0.getD t33.toNat 0).toNat) []) ++ [t33]))), .view 1 (.ints .i64 ((t6s.getD ((a0.getD t33.toNat 0).toNat) []) ++ [t33])), .row true (.ints .i64 [t33])] ?_
            clear hp0 hp1
            (try simp only [Thn, InBlk, ↓reduceIte, Nat.reduceEqDiff])
            (try simp only [Thn, InBlk, ↓reduceIte, Nat.reduceEqDiff])
            refine hK103 _ _ ?_
            clear hK103
            replace h := chk_some h
            obtain ⟨hp0, h⟩ := h
            refine awp_regE ftCOk [(6, .sl 1), (31, .sl 0), (32, .v (.int .i64 (a0.length : Int))), (33, .v (.int .i64 (t33 + 1)))] [.row false (.ints .i64 a0), .row true (.intss .i64 (t6s.set ((a0.getD t33.toNat 0).toNat) ((t6s.getD ((a0.getD t33.toNat 0).toNat) []) ++ [t33]))), .view 1 (.ints .i64 ((t6s.getD ((a0.getD t33.toNat 0).toNat) []) ++ [t33])), .row true (.ints .i64 [t33])] ?_
            clear hp0
            obtain rfl := Option.some.inj h
            refine LoopQ.next ?_
            exact Red.selA [0, 1] Red.auto
          · replace h := bite_f h hc101
            refine awp_exit ?_
            (try simp only [Thn, InBlk, ↓reduceIte, Nat.reduceEqDiff])
            obtain rfl := Option.some.inj h
            refine LoopQ.out rfl ?_
            exact Red.auto
        · clear hx
          skip
          · try dsimp only [Sum.elim_inl, Sum.elim_inr] at h
            try dsimp only [Sum.elim_inl, Sum.elim_inr]
            (try simp only [Thn, InBlk, ↓reduceIte, Nat.reduceEqDiff])
            (try simp only [Thn, InBlk, ↓reduceIte, Nat.reduceEqDiff])
            (try simp only [Thn, InBlk, ↓reduceIte, Nat.reduceEqDiff])
            refine hK86 _ _ ?_
            clear hK86
            refine awp_reg ftCOk [(2, .sl 1)] [.row false (.ints .i64 a0), .row true (.intss .i64 t6s_1)] ?_
            refine awp_ret ?_
            (try simp only [Thn, InBlk, ↓reduceIte, Nat.reduceEqDiff])
            obtain rfl := Option.some.inj h
            refine ⟨by simp, _, [0, 1], (by simp only [go_sem, Nat.reduceBEq, Nat.reduceLT, Nat.reduceAdd, Nat.reduceLeDiff, Nat.reduceSub, Nat.reduceEqDiff, Int.reduceToNat, reduceCtorEq, ↓reduceIte]; exact rfl), ?_, ?_, ?_, ?_⟩
            · first | exact trivial | exact ⟨trivial, trivial⟩ | exact ⟨trivial, trivial, trivial⟩ | exact ⟨trivial, trivial, trivial, trivial⟩ | (simp only [allP, and_true, true_and]; done) | (simp only [allP, and_true, true_and]; omega)
            · simp [selOk, pos]
            · simp
            · first | exact ⟨rfl, rfl⟩ | (simp only [go_sem, Nat.reduceBEq, Nat.reduceLT, Nat.reduceAdd, Nat.reduceLeDiff, Nat.reduceSub, Nat.reduceEqDiff, Int.reduceToNat, reduceCtorEq, ↓reduceIte]; done) | (simp [go_sem, Nat.reduceBEq, Nat.reduceLT, Nat.reduceAdd, Nat.reduceLeDiff, Nat.reduceSub, Nat.reduceEqDiff, Int.reduceToNat, reduceCtorEq, ↓reduceIte]; done) | (simp only [go_sem, Nat.reduceBEq, Nat.reduceLT, Nat.reduceAdd, Nat.reduceLeDiff, Nat.reduceSub, Nat.reduceEqDiff, Int.reduceToNat, reduceCtorEq, ↓reduceIte]; exact ⟨rfl, rfl⟩) | (simp_all [go_sem, Nat.reduceBEq, Nat.reduceLT, Nat.reduceAdd, Nat.reduceLeDiff, Nat.reduceSub, Nat.reduceEqDiff, Int.reduceToNat, reduceCtorEq, ↓reduceIte]; done)
      · try dsimp only [Sum.elim_inl, Sum.elim_inr] at h
        try dsimp only [Sum.elim_inl, Sum.elim_inr]
        (try simp only [Thn, InBlk, ↓reduceIte, Nat.reduceEqDiff])
        obtain rfl := Option.some.inj h
        refine ⟨by simp, _, [0, 1], (by simp only [go_sem, Nat.reduceBEq, Nat.reduceLT, Nat.reduceAdd, Nat.reduceLeDiff, Nat.reduceSub, Nat.reduceEqDiff, Int.reduceToNat, reduceCtorEq, ↓reduceIte]; exact rfl), ?_, ?_, ?_, ?_⟩
        · first | exact trivial | exact ⟨trivial, trivial⟩ | exact ⟨trivial, trivial, trivial⟩ | exact ⟨trivial, trivial, trivial, trivial⟩ | (simp only [allP, and_true, true_and]; done) | (simp only [allP, and_true, true_and]; omega)
        · simp [selOk, pos]
        · simp
        · first | exact ⟨rfl, rfl⟩ | (simp only [go_sem, Nat.reduceBEq, Nat.reduceLT, Nat.reduceAdd, Nat.reduceLeDiff, Nat.reduceSub, Nat.reduceEqDiff, Int.reduceToNat, reduceCtorEq, ↓reduceIte]; done) | (simp [go_sem, Nat.reduceBEq, Nat.reduceLT, Nat.reduceAdd, Nat.reduceLeDiff, Nat.reduceSub, Nat.reduceEqDiff, Int.reduceToNat, reduceCtorEq, ↓reduceIte]; done) | (simp only [go_sem, Nat.reduceBEq, Nat.reduceLT, Nat.reduceAdd, Nat.reduceLeDiff, Nat.reduceSub, Nat.reduceEqDiff, Int.reduceToNat, reduceCtorEq, ↓reduceIte]; exact ⟨rfl, rfl⟩) | (simp_all [go_sem, Nat.reduceBEq, Nat.reduceLT, Nat.reduceAdd, Nat.reduceLeDiff, Nat.reduceSub, Nat.reduceEqDiff, Int.reduceToNat, reduceCtorEq, ↓reduceIte]; done)
theorem k_spec_ColorGroups (a0 : List Int) {r : List (List Int)} (h : spec_ColorGroups a0 = some r) :
    FnA Try.prog 19 [.sl 0] [.row false (.ints .i64 a0)] [] (fun x H => x = .sl 1 ∧ H = [.row false (.ints .i64 a0), .row true (.intss .i64 r)]) := by
  unfold spec_ColorGroups at h
  refine FnA.of (N := 52) (pin := [0]) (rs := [.tmp 2]) Try.func19 rfl en19 rfl rfl (by simp) (by simp; try omega) ?_
  refine awp_reg ftCOk [(0, .sl 0)] [.row false (.ints .i64 a0)] ?_
  refine awp_reg ftCOk [(0, .sl 0), (3, .sl 1)] [.row false (.ints .i64 a0), .row true (.intss .i64 [])] ?_
  refine awp_seq fun K164 hK164 => ?_
  refine awp_reg ftCOk [(0, .sl 0), (3, .sl 1), (4, .v (.int .i64 0))] [.row false (.ints .i64 a0), .row true (.intss .i64 [])] ?_
  refine awp_block ?_
  replace h := bind_some h
  obtain ⟨x327, hx, h⟩ := h
  refine awp_loopL hx (fun ((t4, t3s) : Int × List (List Int)) => [(0, .sl 0), (3, .sl 1), (4, .v (.int .i64 t4))]) (fun ((t4, t3s) : Int × List (List Int)) => [.row false (.ints .i64 a0), .row true (.intss .i64 t3s)]) (Sum.elim (fun (t3s_1 : List (List Int)) => Exit.exit 0) (fun (_ : Unit) => Exit.ret)) (Sum.elim (fun (t3s_1 : List (List Int)) => [(3, .sl 1)]) (fun (_ : Unit) => [(2, .sl 1)])) (Sum.elim (fun (t3s_1 : List (List Int)) => [.row false (.ints .i64 a0), .row true (.intss .i64 t3s_1)]) (fun (_ : Unit) => [.row false (.ints .i64 a0), .row true (.intss .i64 [])])) ?_ ?_ ?_ ?_
  · rintro (t3s_1 | ⟨⟩) hy <;> cases hy
  · clear h hx
    exact Red.auto
  · clear h hx
    rintro ⟨t4, t3s⟩ r h
    unfold spec_ColorGroups_b1 at h
    try dsimp only at h
    try dsimp only
    refine awp_seq fun K274 hK274 => ?_
    refine awp_reg ftCOk [(0, .sl 0), (3, .sl 1), (4, .v (.int .i64 t4)), (9, .v (.bool (decide (t4 < (a0.length : Int)))))] [.row false (.ints .i64 a0), .row true (.intss .i64 t3s)] ?_
    refine awp_cond (t := 9) rfl (fun hc275 => ?_) (fun hc275 => ?_)
    · replace h := bite_t h hc275
      refine awp_skip ?_
      (try simp only [Thn, InBlk, ↓reduceIte, Nat.reduceEqDiff])
      refine hK274 _ _ ?_
      clear hK274
      refine awp_seq fun K301 hK301 => ?_
      refine awp_block ?_
      refine awp_seq fun K303 hK303 => ?_
      replace h := chk_some h
      obtain ⟨hp0, h⟩ := h
      refine awp_reg ftCOk [(0, .sl 0), (3, .sl 1), (4, .v (.int .i64 t4)), (22, .v (.bool ((!(decide (0 ≤ (a0.getD t4.toNat 0)) && decide ((a0.getD t4.toNat 0) ≤ 16))) || (decide (16 < (a0.length : Int))))))] [.row false (.ints .i64 a0), .row true (.intss .i64 t3s)] ?_
      clear hp0
      refine awp_cond (t := 22) rfl (fun hc304 => ?_) (fun hc304 => ?_)
      · replace h := bite_t h hc304
        refine awp_reg ftCOk [(2, .sl 2)] [.row false (.ints .i64 a0), .row true (.intss .i64 t3s), .row true (.intss .i64 [])] ?_
        refine awp_ret ?_
        (try simp only [Thn, InBlk, ↓reduceIte, Nat.reduceEqDiff])
        obtain rfl := Option.some.inj h
        refine LoopQ.out rfl ?_
        exact Red.selA [0, 2] Red.auto
      · replace h := bite_f h hc304
        refine awp_skip ?_
        (try simp only [Thn, InBlk, ↓reduceIte, Nat.reduceEqDiff])
        refine hK303 _ _ ?_
        clear hK303
        refine awp_seq fun K315 hK315 => ?_
        refine awp_block ?_
        replace h := bind_some h
        obtain ⟨t3s_3, hx, h⟩ := h
        refine awp_loopL hx (fun (t3s_2 : List (List Int)) => [(0, .sl 0), (3, .sl 1), (4, .v (.int .i64 t4))]) (fun (t3s_2 : List (List Int)) => [.row false (.ints .i64 a0), .row true (.intss .i64 t3s_2)]) (fun (t3s_3 : List (List Int)) => Exit.exit 2) (fun (t3s_3 : List (List Int)) => [(0, .sl 0), (3, .sl 1), (4, .v (.int .i64 t4))]) (fun (t3s_3 : List (List Int)) => [.row false (.ints .i64 a0), .row true (.intss .i64 t3s_3)]) ?_ ?_ ?_ ?_
        · rintro t3s_3 hy <;> cases hy
        · clear h hx
          exact Red.auto
        · clear h hx
          rintro t3s_2 r h
          unfold spec_ColorGroups_b0 at h
          try dsimp only at h
          try dsimp only
          refine awp_seq fun K323 hK323 => ?_
          replace h := chk_some h
          obtain ⟨hp0, h⟩ := h
          refine awp_reg ftCOk [(0, .sl 0), (3, .sl 1), (4, .v (.int .i64 t4)), (30, .v (.bool (decide ((t3s_2.length : Int) ≤ (a0.getD t4.toNat 0)))))] [.row false (.ints .i64 a0), .row true (.intss .i64 t3s_2)] ?_
          clear hp0
          refine awp_cond (t := 30) rfl (fun hc324 => ?_) (fun hc324 => ?_)
          · replace h := bite_t h hc324
            refine awp_skip ?_
            (try simp only [Thn, InBlk, ↓reduceIte, Nat.reduceEqDiff])
            refine hK323 _ _ ?_
            clear hK323
            refine awp_block ?_
            replace h := chk_some h
            obtain ⟨hp0, h⟩ := h
            refine awp_regE ftCOk [(0, .sl 0), (3, .sl 1), (4, .v (.int .i64 t4))] [.row false (.ints .i64 a0), .tak true (.intss .i64 (t3s_2 ++ [[]])) t3s_2.length 0 (some 2), .row true (.ints .i64 []), .tak true (.intss .i64 [[]]) 0 0 (some 2)] ?_
            clear hp0
            (try simp only [Thn, InBlk, ↓reduceIte, Nat.reduceEqDiff])
            obtain rfl := Option.some.inj h
            refine LoopQ.next ?_
            refine Red.trans (Red.put 1 2 (by rfl) (by rfl) (by rfl)) ?_
            exact Red.selA [0, 1] Red.auto
          · replace h := bite_f h hc324
            refine awp_exit ?_
            (try simp only [Thn, InBlk, ↓reduceIte, Nat.reduceEqDiff])
            obtain rfl := Option.some.inj h
            refine LoopQ.out rfl ?_
            exact Red.auto
        · clear hx
          skip
          · try dsimp only [Sum.elim_inl, Sum.elim_inr] at h
            try dsimp only [Sum.elim_inl, Sum.elim_inr]
            (try simp only [Thn, InBlk, ↓reduceIte, Nat.reduceEqDiff])
            (try simp only [Thn, InBlk, ↓reduceIte, Nat.reduceEqDiff])
            (try simp only [Thn, InBlk, ↓reduceIte, Nat.reduceEqDiff])
            refine hK315 _ _ ?_
            clear hK315
            replace h := chk_some h
            obtain ⟨hpt326, h⟩ := h
            refine awp_take 1 ((a0.getD t4.toNat 0).toNat) 0 (by rfl) (by exact hpt326) (by rfl) (by exact rfl) ?_
            clear hpt326
            replace h := chk_some h
            obtain ⟨hp0, h⟩ := h
            replace h := chk_some h
            obtain ⟨hp1, h⟩ := h
            replace h := chk_some h
            obtain ⟨hp2, h⟩ := h
            refine awp_end [(0, .sl 0), (3, .sl 1), (4, .v (.int .i64 t4))] [.row false (.ints .i64 a0), .row true (.intss .i64 (t3s_3.set ((a0.getD t4.toNat 0).toNat) ((t3s_3.getD ((a0.getD t4.toNat 0).toNat) []) ++ [t4]))), .view 1 (.ints .i64 ((t3s_3.getD ((a0.getD t4.toNat 0).toNat) []) ++ [t4])), .row true (.ints .i64 [t4])] ?_ ?_
            · clear h
              intro K hK
              refine awp_drawP [0, 1] (by first | rfl | kernel_rfl) (by rfl) mixed ftCOk (.free 0 (.free 1 (.free 2 (.free 3 (.free 5 (.free 6 (.free 7 (.free 8 (.free 12 (.free 4 (.free 9 (.two 10 13 (.two 11 13 (.one 13 (.one 14 (.one 15 (.one 16 .fin)))) (.one 11 (.one 14 (.one 15 (.one 16 .fin))))) (.one 10 (.one 11 (.one 14 (.one 15 (.one 16 .fin))))))))))))))))) (by kernel_rfl) (by simp) ?_
              simp (maxSteps := 4000000) only [go_sem, Nat.reduceBEq, Nat.reduceLT, Nat.reduceAdd, Nat.reduceLeDiff, Nat.reduceSub, Nat.reduceEqDiff, Int.reduceToNat, reduceCtorEq, ↓reduceIte]
              repeat' (first | refine And.intro ?_ ?_ | intro hg)
              all_goals (try simp (disch := omega) only [wrap_fits])
              all_goals first
                | (refine hK _ _ ?_; exact Red.auto)
                | exact trivial
                | assumption
                | omega
                | exact wrap_fits (by omega) (by omega)
                | (simp (maxSteps := 4000000) only [go_sem, Nat.reduceBEq, Nat.reduceLT, Nat.reduceAdd, Nat.reduceLeDiff, Nat.reduceSub, Nat.reduceEqDiff, Int.reduceToNat, reduceCtorEq, ↓reduceIte]
                   repeat' (first | refine And.intro ?_ ?_ | intro hg)
                   all_goals (try simp (disch := omega) only [wrap_fits])
                   all_goals first | (refine hK _ _ ?_; exact Red.auto) | exact trivial | assumption | omega | exact wrap_fits (by omega) (by omega))
                | (simp_all; done)
                | (simp_all; omega)
            · clear hp0 hp1 hp2
              (try simp only [Thn, InBlk, ↓reduceIte, Nat.reduceEqDiff])
              (try simp only [Thn, InBlk, ↓reduceIte, Nat.reduceEqDiff])
              refine hK301 _ _ ?_
              clear hK301
              replace h := chk_some h
              obtain ⟨hp0, h⟩ := h
              refine awp_regE ftCOk [(0, .sl 0), (3, .sl 1), (4, .v (.int .i64 (t4 + 1)))] [.row false (.ints .i64 a0), .row true (.intss .i64 (t3s_3.set ((a0.getD t4.toNat 0).toNat) ((t3s_3.getD ((a0.getD t4.toNat 0).toNat) []) ++ [t4]))), .view 1 (.ints .i64 ((t3s_3.getD ((a0.getD t4.toNat 0).toNat) []) ++ [t4])), .row true (.ints .i64 [t4])] ?_
              clear hp0
              obtain rfl := Option.some.inj h
              refine LoopQ.next ?_
              exact Red.selA [0, 1] Red.auto
    · replace h := bite_f h hc275
      refine awp_exit ?_
      (try simp only [Thn, InBlk, ↓reduceIte, Nat.reduceEqDiff])
      obtain rfl := Option.some.inj h
      refine LoopQ.out rfl ?_
      exact Red.auto
  · clear hx
    rcases x327 with (t3s_1 | ⟨⟩)
    · try dsimp only [Sum.elim_inl, Sum.elim_inr] at h
      try dsimp only [Sum.elim_inl, Sum.elim_inr]
      (try simp only [Thn, InBlk, ↓reduceIte, Nat.reduceEqDiff])
      (try simp only [Thn, InBlk, ↓reduceIte, Nat.reduceEqDiff])
      (try simp only [Thn, InBlk, ↓reduceIte, Nat.reduceEqDiff])
      refine hK164 _ _ ?_
      clear hK164
      refine awp_reg ftCOk [(2, .sl 1)] [.row false (.ints .i64 a0), .row true (.intss .i64 t3s_1)] ?_
      refine awp_ret ?_
      (try simp only [Thn, InBlk, ↓reduceIte, Nat.reduceEqDiff])
      obtain rfl := Option.some.inj h
      refine ⟨by simp, _, [0, 1], (by simp only [go_sem, Nat.reduceBEq, Nat.reduceLT, Nat.reduceAdd, Nat.reduceLeDiff, Nat.reduceSub, Nat.reduceEqDiff, Int.reduceToNat, reduceCtorEq, ↓reduceIte]; exact rfl), ?_, ?_, ?_, ?_⟩
      · first | exact trivial | exact ⟨trivial, trivial⟩ | exact ⟨trivial, trivial, trivial⟩ | exact ⟨trivial, trivial, trivial, trivial⟩ | (simp only [allP, and_true, true_and]; done) | (simp only [allP, and_true, true_and]; omega)
      · simp [selOk, pos]
      · simp
      · first | exact ⟨rfl, rfl⟩ | (simp only [go_sem, Nat.reduceBEq, Nat.reduceLT, Nat.reduceAdd, Nat.reduceLeDiff, Nat.reduceSub, Nat.reduceEqDiff, Int.reduceToNat, reduceCtorEq, ↓reduceIte]; done) | (simp [go_sem, Nat.reduceBEq, Nat.reduceLT, Nat.reduceAdd, Nat.reduceLeDiff, Nat.reduceSub, Nat.reduceEqDiff, Int.reduceToNat, reduceCtorEq, ↓reduceIte]; done) | (simp only [go_sem, Nat.reduceBEq, Nat.reduceLT, Nat.reduceAdd, Nat.reduceLeDiff, Nat.reduceSub, Nat.reduceEqDiff, Int.reduceToNat, reduceCtorEq, ↓reduceIte]; exact ⟨rfl, rfl⟩) | (simp_all [go_sem, Nat.reduceBEq, Nat.reduceLT, Nat.reduceAdd, Nat.reduceLeDiff, Nat.reduceSub, Nat.reduceEqDiff, Int.reduceToNat, reduceCtorEq, ↓reduceIte]; done)
    · try dsimp only [Sum.elim_inl, Sum.elim_inr] at h
      try dsimp only [Sum.elim_inl, Sum.elim_inr]
      (try simp only [Thn, InBlk, ↓reduceIte, Nat.reduceEqDiff])
      obtain rfl := Option.some.inj h
      refine ⟨by simp, _, [0, 1], (by simp only [go_sem, Nat.reduceBEq, Nat.reduceLT, Nat.reduceAdd, Nat.reduceLeDiff, Nat.reduceSub, Nat.reduceEqDiff, Int.reduceToNat, reduceCtorEq, ↓reduceIte]; exact rfl), ?_, ?_, ?_, ?_⟩
      · first | exact trivial | exact ⟨trivial, trivial⟩ | exact ⟨trivial, trivial, trivial⟩ | exact ⟨trivial, trivial, trivial, trivial⟩ | (simp only [allP, and_true, true_and]; done) | (simp only [allP, and_true, true_and]; omega)
      · simp [selOk, pos]
      · simp
      · first | exact ⟨rfl, rfl⟩ | (simp only [go_sem, Nat.reduceBEq, Nat.reduceLT, Nat.reduceAdd, Nat.reduceLeDiff, Nat.reduceSub, Nat.reduceEqDiff, Int.reduceToNat, reduceCtorEq, ↓reduceIte]; done) | (simp [go_sem, Nat.reduceBEq, Nat.reduceLT, Nat.reduceAdd, Nat.reduceLeDiff, Nat.reduceSub, Nat.reduceEqDiff, Int.reduceToNat, reduceCtorEq, ↓reduceIte]; done) | (simp only [go_sem, Nat.reduceBEq, Nat.reduceLT, Nat.reduceAdd, Nat.reduceLeDiff, Nat.reduceSub, Nat.reduceEqDiff, Int.reduceToNat, reduceCtorEq, ↓reduceIte]; exact ⟨rfl, rfl⟩) | (simp_all [go_sem, Nat.reduceBEq, Nat.reduceLT, Nat.reduceAdd, Nat.reduceLeDiff, Nat.reduceSub, Nat.reduceEqDiff, Int.reduceToNat, reduceCtorEq, ↓reduceIte]; done)
theorem k_laws_sameInts (a0 : List Int) (a1 : List Int) {r : Bool} (h : laws_sameInts a0 a1 = some r) :
    FnA Try.prog 54 [.sl 0, .sl 1] [.row false (.ints .i64 a0), .row false (.ints .i64 a1)] [] (fun x H => x = .v (.bool r) ∧ H = [.row false (.ints .i64 a0), .row false (.ints .i64 a1)]) := by
  unfold laws_sameInts at h
  refine FnA.of (N := 26) (pin := [0, 1]) (rs := [.tmp 4]) Try.func54 rfl en54 rfl rfl (by simp) (by simp; try omega) ?_
  refine awp_reg ftCOk [(0, .sl 0), (1, .sl 1)] [.row false (.ints .i64 a0), .row false (.ints .i64 a1)] ?_
  refine awp_seq fun K2 hK2 => ?_
  refine awp_reg ftCOk [(0, .sl 0), (1, .sl 1), (10, .v (.bool ((a0.length : Int) != (a1.length : Int))))] [.row false (.ints .i64 a0), .row false (.ints .i64 a1)] ?_
  refine awp_cond (t := 10) rfl (fun hc3 => ?_) (fun hc3 => ?_)
  · replace h := bite_t h hc3
    refine awp_reg ftCOk [(4, .v (.bool false))] [.row false (.ints .i64 a0), .row false (.ints .i64 a1)] ?_
    refine awp_ret ?_
    (try simp only [Thn, InBlk, ↓reduceIte, Nat.reduceEqDiff])
    obtain rfl := Option.some.inj h
    refine ⟨by simp, _, [0, 1], (by simp only [go_sem, Nat.reduceBEq, Nat.reduceLT, Nat.reduceAdd, Nat.reduceLeDiff, Nat.reduceSub, Nat.reduceEqDiff, Int.reduceToNat, reduceCtorEq, ↓reduceIte]; exact rfl), ?_, ?_, ?_, ?_⟩
    · first | exact trivial | exact ⟨trivial, trivial⟩ | exact ⟨trivial, trivial, trivial⟩ | exact ⟨trivial, trivial, trivial, trivial⟩ | (simp only [allP, and_true, true_and]; done) | (simp only [allP, and_true, true_and]; omega)
    · simp [selOk, pos]
    · simp
    · first | exact ⟨rfl, rfl⟩ | (simp only [go_sem, Nat.reduceBEq, Nat.reduceLT, Nat.reduceAdd, Nat.reduceLeDiff, Nat.reduceSub, Nat.reduceEqDiff, Int.reduceToNat, reduceCtorEq, ↓reduceIte]; done) | (simp [go_sem, Nat.reduceBEq, Nat.reduceLT, Nat.reduceAdd, Nat.reduceLeDiff, Nat.reduceSub, Nat.reduceEqDiff, Int.reduceToNat, reduceCtorEq, ↓reduceIte]; done) | (simp only [go_sem, Nat.reduceBEq, Nat.reduceLT, Nat.reduceAdd, Nat.reduceLeDiff, Nat.reduceSub, Nat.reduceEqDiff, Int.reduceToNat, reduceCtorEq, ↓reduceIte]; exact ⟨rfl, rfl⟩) | (simp_all [go_sem, Nat.reduceBEq, Nat.reduceLT, Nat.reduceAdd, Nat.reduceLeDiff, Nat.reduceSub, Nat.reduceEqDiff, Int.reduceToNat, reduceCtorEq, ↓reduceIte]; done)
  · replace h := bite_f h hc3
    refine awp_skip ?_
    (try simp only [Thn, InBlk, ↓reduceIte, Nat.reduceEqDiff])
    refine hK2 _ _ ?_
    clear hK2
    refine awp_seq fun K23 hK23 => ?_
    refine awp_reg ftCOk [(0, .sl 0), (1, .sl 1), (5, .v (.int .i64 0))] [.row false (.ints .i64 a0), .row false (.ints .i64 a1)] ?_
    refine awp_block ?_
    replace h := bind_some h
    obtain ⟨x42, hx, h⟩ := h
    refine awp_loopL hx (fun (t5 : Int) => [(0, .sl 0), (1, .sl 1), (5, .v (.int .i64 t5))]) (fun (t5 : Int) => [.row false (.ints .i64 a0), .row false (.ints .i64 a1)]) (Sum.elim (fun (_ : Unit) => Exit.exit 0) (fun (_ : Unit) => Exit.ret)) (Sum.elim (fun (_ : Unit) => []) (fun (_ : Unit) => [(4, .v (.bool false))])) (Sum.elim (fun (_ : Unit) => [.row false (.ints .i64 a0), .row false (.ints .i64 a1)]) (fun (_ : Unit) => [.row false (.ints .i64 a0), .row false (.ints .i64 a1)])) ?_ ?_ ?_ ?_
    · rintro (⟨⟩ | ⟨⟩) hy <;> cases hy
    · clear h hx
      exact Red.auto
    · clear h hx
      rintro t5 r h
      unfold laws_sameInts_b0 at h
      try dsimp only at h
      try dsimp only
      refine awp_seq fun K37 hK37 => ?_
      refine awp_reg ftCOk [(0, .sl 0), (1, .sl 1), (5, .v (.int .i64 t5)), (14, .v (.bool (decide (t5 < (a0.length : Int)))))] [.row false (.ints .i64 a0), .row false (.ints .i64 a1)] ?_
      refine awp_cond (t := 14) rfl (fun hc38 => ?_) (fun hc38 => ?_)
      · replace h := bite_t h hc38
        refine awp_skip ?_
        (try simp only [Thn, InBlk, ↓reduceIte, Nat.reduceEqDiff])
        refine hK37 _ _ ?_
        clear hK37
        refine awp_seq fun K40 hK40 => ?_
        refine awp_block ?_
        replace h := chk_some h
        obtain ⟨hp0, h⟩ := h
        replace h := chk_some h
        obtain ⟨hp1, h⟩ := h
        refine awp_regQ mixed ftCOk [(0, .sl 0), (1, .sl 1), (5, .v (.int .i64 t5)), (25, .v (.bool ((a0.getD t5.toNat 0) != (a1.getD t5.toNat 0))))] [.row false (.ints .i64 a0), .row false (.ints .i64 a1)] ?_
        clear hp0 hp1
        refine awp_cond (t := 25) rfl (fun hc41 => ?_) (fun hc41 => ?_)
        · replace h := bite_t h hc41
          refine awp_reg ftCOk [(4, .v (.bool false))] [.row false (.ints .i64 a0), .row false (.ints .i64 a1)] ?_
          refine awp_ret ?_
          (try simp only [Thn, InBlk, ↓reduceIte, Nat.reduceEqDiff])
          obtain rfl := Option.some.inj h
          refine LoopQ.out rfl ?_
          exact Red.auto
        · replace h := bite_f h hc41
          refine awp_skip ?_
          (try simp only [Thn, InBlk, ↓reduceIte, Nat.reduceEqDiff])
          (try simp only [Thn, InBlk, ↓reduceIte, Nat.reduceEqDiff])
          refine hK40 _ _ ?_
          clear hK40
          replace h := chk_some h
          obtain ⟨hp0, h⟩ := h
          refine awp_regE ftCOk [(0, .sl 0), (1, .sl 1), (5, .v (.int .i64 (t5 + 1)))] [.row false (.ints .i64 a0), .row false (.ints .i64 a1)] ?_
          clear hp0
          obtain rfl := Option.some.inj h
          refine LoopQ.next ?_
          exact Red.auto
      · replace h := bite_f h hc38
        refine awp_exit ?_
        (try simp only [Thn, InBlk, ↓reduceIte, Nat.reduceEqDiff])
        obtain rfl := Option.some.inj h
        refine LoopQ.out rfl ?_
        exact Red.auto
    · clear hx
      rcases x42 with (⟨⟩ | ⟨⟩)
      · try dsimp only [Sum.elim_inl, Sum.elim_inr] at h
        try dsimp only [Sum.elim_inl, Sum.elim_inr]
        (try simp only [Thn, InBlk, ↓reduceIte, Nat.reduceEqDiff])
        (try simp only [Thn, InBlk, ↓reduceIte, Nat.reduceEqDiff])
        (try simp only [Thn, InBlk, ↓reduceIte, Nat.reduceEqDiff])
        refine hK23 _ _ ?_
        clear hK23
        refine awp_reg ftCOk [(4, .v (.bool true))] [.row false (.ints .i64 a0), .row false (.ints .i64 a1)] ?_
        refine awp_ret ?_
        (try simp only [Thn, InBlk, ↓reduceIte, Nat.reduceEqDiff])
        obtain rfl := Option.some.inj h
        refine ⟨by simp, _, [0, 1], (by simp only [go_sem, Nat.reduceBEq, Nat.reduceLT, Nat.reduceAdd, Nat.reduceLeDiff, Nat.reduceSub, Nat.reduceEqDiff, Int.reduceToNat, reduceCtorEq, ↓reduceIte]; exact rfl), ?_, ?_, ?_, ?_⟩
        · first | exact trivial | exact ⟨trivial, trivial⟩ | exact ⟨trivial, trivial, trivial⟩ | exact ⟨trivial, trivial, trivial, trivial⟩ | (simp only [allP, and_true, true_and]; done) | (simp only [allP, and_true, true_and]; omega)
        · simp [selOk, pos]
        · simp
        · first | exact ⟨rfl, rfl⟩ | (simp only [go_sem, Nat.reduceBEq, Nat.reduceLT, Nat.reduceAdd, Nat.reduceLeDiff, Nat.reduceSub, Nat.reduceEqDiff, Int.reduceToNat, reduceCtorEq, ↓reduceIte]; done) | (simp [go_sem, Nat.reduceBEq, Nat.reduceLT, Nat.reduceAdd, Nat.reduceLeDiff, Nat.reduceSub, Nat.reduceEqDiff, Int.reduceToNat, reduceCtorEq, ↓reduceIte]; done) | (simp only [go_sem, Nat.reduceBEq, Nat.reduceLT, Nat.reduceAdd, Nat.reduceLeDiff, Nat.reduceSub, Nat.reduceEqDiff, Int.reduceToNat, reduceCtorEq, ↓reduceIte]; exact ⟨rfl, rfl⟩) | (simp_all [go_sem, Nat.reduceBEq, Nat.reduceLT, Nat.reduceAdd, Nat.reduceLeDiff, Nat.reduceSub, Nat.reduceEqDiff, Int.reduceToNat, reduceCtorEq, ↓reduceIte]; done)
      · try dsimp only [Sum.elim_inl, Sum.elim_inr] at h
        try dsimp only [Sum.elim_inl, Sum.elim_inr]
        (try simp only [Thn, InBlk, ↓reduceIte, Nat.reduceEqDiff])
        obtain rfl := Option.some.inj h
        refine ⟨by simp, _, [0, 1], (by simp only [go_sem, Nat.reduceBEq, Nat.reduceLT, Nat.reduceAdd, Nat.reduceLeDiff, Nat.reduceSub, Nat.reduceEqDiff, Int.reduceToNat, reduceCtorEq, ↓reduceIte]; exact rfl), ?_, ?_, ?_, ?_⟩
        · first | exact trivial | exact ⟨trivial, trivial⟩ | exact ⟨trivial, trivial, trivial⟩ | exact ⟨trivial, trivial, trivial, trivial⟩ | (simp only [allP, and_true, true_and]; done) | (simp only [allP, and_true, true_and]; omega)
        · simp [selOk, pos]
        · simp
        · first | exact ⟨rfl, rfl⟩ | (simp only [go_sem, Nat.reduceBEq, Nat.reduceLT, Nat.reduceAdd, Nat.reduceLeDiff, Nat.reduceSub, Nat.reduceEqDiff, Int.reduceToNat, reduceCtorEq, ↓reduceIte]; done) | (simp [go_sem, Nat.reduceBEq, Nat.reduceLT, Nat.reduceAdd, Nat.reduceLeDiff, Nat.reduceSub, Nat.reduceEqDiff, Int.reduceToNat, reduceCtorEq, ↓reduceIte]; done) | (simp only [go_sem, Nat.reduceBEq, Nat.reduceLT, Nat.reduceAdd, Nat.reduceLeDiff, Nat.reduceSub, Nat.reduceEqDiff, Int.reduceToNat, reduceCtorEq, ↓reduceIte]; exact ⟨rfl, rfl⟩) | (simp_all [go_sem, Nat.reduceBEq, Nat.reduceLT, Nat.reduceAdd, Nat.reduceLeDiff, Nat.reduceSub, Nat.reduceEqDiff, Int.reduceToNat, reduceCtorEq, ↓reduceIte]; done)
theorem k_laws_sameRecords (a0 : List (List Int)) (a1 : List (List Int)) {r : Bool} (h : laws_sameRecords a0 a1 = some r) :
    FnA Try.prog 26 [.sl 0, .sl 1] [.row false (.intss .i64 a0), .row false (.intss .i64 a1)] [] (fun x H => x = .v (.bool r) ∧ H = [.row false (.intss .i64 a0), .row false (.intss .i64 a1)]) := by
  unfold laws_sameRecords at h
  refine FnA.of (N := 27) (pin := [0, 1]) (rs := [.tmp 4]) Try.func26 rfl en26 rfl rfl (by simp) (by simp; try omega) ?_
  refine awp_reg ftCOk [(0, .sl 0), (1, .sl 1)] [.row false (.intss .i64 a0), .row false (.intss .i64 a1)] ?_
  refine awp_seq fun K2 hK2 => ?_
  refine awp_reg ftCOk [(0, .sl 0), (1, .sl 1), (10, .v (.bool ((a0.length : Int) != (a1.length : Int))))] [.row false (.intss .i64 a0), .row false (.intss .i64 a1)] ?_
  refine awp_cond (t := 10) rfl (fun hc3 => ?_) (fun hc3 => ?_)
  · replace h := bite_t h hc3
    refine awp_reg ftCOk [(4, .v (.bool false))] [.row false (.intss .i64 a0), .row false (.intss .i64 a1)] ?_
    refine awp_ret ?_
    (try simp only [Thn, InBlk, ↓reduceIte, Nat.reduceEqDiff])
    obtain rfl := Option.some.inj h
    refine ⟨by simp, _, [0, 1], (by simp only [go_sem, Nat.reduceBEq, Nat.reduceLT, Nat.reduceAdd, Nat.reduceLeDiff, Nat.reduceSub, Nat.reduceEqDiff, Int.reduceToNat, reduceCtorEq, ↓reduceIte]; exact rfl), ?_, ?_, ?_, ?_⟩
    · first | exact trivial | exact ⟨trivial, trivial⟩ | exact ⟨trivial, trivial, trivial⟩ | exact ⟨trivial, trivial, trivial, trivial⟩ | (simp only [allP, and_true, true_and]; done) | (simp only [allP, and_true, true_and]; omega)
    · simp [selOk, pos]
    · simp
    · first | exact ⟨rfl, rfl⟩ | (simp only [go_sem, Nat.reduceBEq, Nat.reduceLT, Nat.reduceAdd, Nat.reduceLeDiff, Nat.reduceSub, Nat.reduceEqDiff, Int.reduceToNat, reduceCtorEq, ↓reduceIte]; done) | (simp [go_sem, Nat.reduceBEq, Nat.reduceLT, Nat.reduceAdd, Nat.reduceLeDiff, Nat.reduceSub, Nat.reduceEqDiff, Int.reduceToNat, reduceCtorEq, ↓reduceIte]; done) | (simp only [go_sem, Nat.reduceBEq, Nat.reduceLT, Nat.reduceAdd, Nat.reduceLeDiff, Nat.reduceSub, Nat.reduceEqDiff, Int.reduceToNat, reduceCtorEq, ↓reduceIte]; exact ⟨rfl, rfl⟩) | (simp_all [go_sem, Nat.reduceBEq, Nat.reduceLT, Nat.reduceAdd, Nat.reduceLeDiff, Nat.reduceSub, Nat.reduceEqDiff, Int.reduceToNat, reduceCtorEq, ↓reduceIte]; done)
  · replace h := bite_f h hc3
    refine awp_skip ?_
    (try simp only [Thn, InBlk, ↓reduceIte, Nat.reduceEqDiff])
    refine hK2 _ _ ?_
    clear hK2
    refine awp_seq fun K35 hK35 => ?_
    refine awp_reg ftCOk [(0, .sl 0), (1, .sl 1), (5, .v (.int .i64 0))] [.row false (.intss .i64 a0), .row false (.intss .i64 a1)] ?_
    refine awp_block ?_
    replace h := bind_some h
    obtain ⟨x66, hx, h⟩ := h
    refine awp_loopL hx (fun (t5 : Int) => [(0, .sl 0), (1, .sl 1), (5, .v (.int .i64 t5))]) (fun (t5 : Int) => [.row false (.intss .i64 a0), .row false (.intss .i64 a1)]) (Sum.elim (fun (_ : Unit) => Exit.exit 0) (fun (_ : Unit) => Exit.ret)) (Sum.elim (fun (_ : Unit) => []) (fun (_ : Unit) => [(4, .v (.bool false))])) (Sum.elim (fun (_ : Unit) => [.row false (.intss .i64 a0), .row false (.intss .i64 a1)]) (fun (_ : Unit) => [.row false (.intss .i64 a0), .row false (.intss .i64 a1)])) ?_ ?_ ?_ ?_
    · rintro (⟨⟩ | ⟨⟩) hy <;> cases hy
    · clear h hx
      exact Red.auto
    · clear h hx
      rintro t5 r h
      unfold laws_sameRecords_b0 at h
      try dsimp only at h
      try dsimp only
      refine awp_seq fun K57 hK57 => ?_
      refine awp_reg ftCOk [(0, .sl 0), (1, .sl 1), (5, .v (.int .i64 t5)), (14, .v (.bool (decide (t5 < (a0.length : Int)))))] [.row false (.intss .i64 a0), .row false (.intss .i64 a1)] ?_
      refine awp_cond (t := 14) rfl (fun hc58 => ?_) (fun hc58 => ?_)
      · replace h := bite_t h hc58
        refine awp_skip ?_
        (try simp only [Thn, InBlk, ↓reduceIte, Nat.reduceEqDiff])
        refine hK57 _ _ ?_
        clear hK57
        refine awp_seq fun K62 hK62 => ?_
        refine awp_block ?_
        replace h := chk_some h
        obtain ⟨hpt65, h⟩ := h
        refine awp_take 0 t5.toNat 0 (by rfl) (by exact hpt65) (by rfl) (by exact rfl) ?_
        clear hpt65
        replace h := chk_some h
        obtain ⟨hpt64, h⟩ := h
        refine awp_take 1 t5.toNat 0 (by rfl) (by exact hpt64) (by rfl) (by exact rfl) ?_
        clear hpt64
        replace h := chk_some h
        obtain ⟨hp0, h⟩ := h
        replace h := chk_some h
        obtain ⟨hp1, h⟩ := h
        replace h := bind_some h
        obtain ⟨y, hr2, h⟩ := h
        try dsimp only at h
        refine awp_to [(0, .sl 0), (1, .sl 1), (5, .v (.int .i64 t5)), (26, .v (.bool (!y)))] [.tak false (.intss .i64 a0) t5.toNat 0 (some 2), .tak false (.intss .i64 a1) t5.toNat 0 (some 3), .row false (.ints .i64 (a0.getD t5.toNat [])), .row false (.ints .i64 (a1.getD t5.toNat []))] ?_ ?_
        · clear h
          intro K hK
          refine awp_drawT mixed ftCOk (.free 0 (.free 1 (.free 4 (.free 5 (.two 2 6 (.two 3 6 (.one 6 (.one 7 (.one 8 (.one 9 .fin)))) (.two 3 7 (.one 7 (.one 8 (.one 9 .fin))) (.one 3 (.one 8 (.one 9 .fin))))) (.two 2 7 (.two 3 7 (.one 7 (.one 8 (.one 9 .fin))) (.one 3 (.one 8 (.one 9 .fin)))) (.one 2 (.one 3 (.one 8 (.one 9 .fin)))))))))) (by kernel_rfl) (by simp) ?_
          simp (maxSteps := 4000000) only [go_sem, Nat.reduceBEq, Nat.reduceLT, Nat.reduceAdd, Nat.reduceLeDiff, Nat.reduceSub, Nat.reduceEqDiff, Int.reduceToNat, reduceCtorEq, ↓reduceIte]
          repeat' (first | refine And.intro ?_ ?_ | intro hg)
          all_goals (try simp (disch := omega) only [wrap_fits])
          all_goals first
            | (refine hK _ _ ?_; exact Red.auto)
            | exact trivial
            | assumption
            | omega
            | exact wrap_fits (by omega) (by omega)
            | (refine OpK_callA (k_laws_sameInts (a0.getD t5.toNat []) (a1.getD t5.toNat []) (h := hr2)) [2, 3] [] ?_
               rintro x Hc' ⟨rfl, rfl⟩ hlen
               simp (maxSteps := 4000000) only [go_sem, Nat.reduceBEq, Nat.reduceLT, Nat.reduceAdd, Nat.reduceLeDiff, Nat.reduceSub, Nat.reduceEqDiff, Int.reduceToNat, reduceCtorEq, ↓reduceIte]
               repeat' (first | refine And.intro ?_ ?_ | intro hg)
               all_goals (try simp (disch := omega) only [wrap_fits])
               all_goals first
                 | (refine hK _ _ ?_; exact Red.auto)
                 | exact trivial
                 | assumption
                 | omega
                 | exact wrap_fits (by omega) (by omega)
                 | (simp (maxSteps := 4000000) only [go_sem, Nat.reduceBEq, Nat.reduceLT, Nat.reduceAdd, Nat.reduceLeDiff, Nat.reduceSub, Nat.reduceEqDiff, Int.reduceToNat, reduceCtorEq, ↓reduceIte]
                    repeat' (first | refine And.intro ?_ ?_ | intro hg)
                    all_goals (try simp (disch := omega) only [wrap_fits])
                    all_goals first | (refine hK _ _ ?_; exact Red.auto) | exact trivial | assumption | omega | exact wrap_fits (by omega) (by omega))
                 | (simp_all; done)
                 | (simp_all; omega))
            | (simp_all; done)
            | (simp_all; omega)
        · clear hp0 hp1 hr2
          refine awp_cond (t := 26) rfl (fun hc63 => ?_) (fun hc63 => ?_)
          · replace h := bite_t h hc63
            refine awp_put 0 2 (by rfl) (by rfl) (Cont.setChild_self (by rfl)) (by exact rfl) ?_
            refine awp_put 1 3 (by rfl) (by rfl) (Cont.setChild_self (by rfl)) (by exact rfl) ?_
            refine awp_reg ftCOk [(4, .v (.bool false))] [.row false (.intss .i64 a0), .row false (.intss .i64 a1), .row false (.ints .i64 (a0.getD t5.toNat [])), .row false (.ints .i64 (a1.getD t5.toNat []))] ?_
            refine awp_ret ?_
            (try simp only [Thn, InBlk, ↓reduceIte, Nat.reduceEqDiff])
            obtain rfl := Option.some.inj h
            refine LoopQ.out rfl ?_
            exact Red.selA [0, 1] Red.auto
          · replace h := bite_f h hc63
            refine awp_skip ?_
            (try simp only [Thn, InBlk, ↓reduceIte, Nat.reduceEqDiff])
            (try simp only [Thn, InBlk, ↓reduceIte, Nat.reduceEqDiff])
            refine hK62 _ _ ?_
            clear hK62
            refine awp_put 0 2 (by rfl) (by rfl) (Cont.setChild_self (by rfl)) (by exact rfl) ?_
            refine awp_put 1 3 (by rfl) (by rfl) (Cont.setChild_self (by rfl)) (by exact rfl) ?_
            replace h := chk_some h
            obtain ⟨hp0, h⟩ := h
            refine awp_regE ftCOk [(0, .sl 0), (1, .sl 1), (5, .v (.int .i64 (t5 + 1)))] [.row false (.intss .i64 a0), .row false (.intss .i64 a1), .row false (.ints .i64 (a0.getD t5.toNat [])), .row false (.ints .i64 (a1.getD t5.toNat []))] ?_
            clear hp0
            obtain rfl := Option.some.inj h
            refine LoopQ.next ?_
            exact Red.selA [0, 1] Red.auto
      · replace h := bite_f h hc58
        refine awp_exit ?_
        (try simp only [Thn, InBlk, ↓reduceIte, Nat.reduceEqDiff])
        obtain rfl := Option.some.inj h
        refine LoopQ.out rfl ?_
        exact Red.auto
    · clear hx
      rcases x66 with (⟨⟩ | ⟨⟩)
      · try dsimp only [Sum.elim_inl, Sum.elim_inr] at h
        try dsimp only [Sum.elim_inl, Sum.elim_inr]
        (try simp only [Thn, InBlk, ↓reduceIte, Nat.reduceEqDiff])
        (try simp only [Thn, InBlk, ↓reduceIte, Nat.reduceEqDiff])
        (try simp only [Thn, InBlk, ↓reduceIte, Nat.reduceEqDiff])
        refine hK35 _ _ ?_
        clear hK35
        refine awp_reg ftCOk [(4, .v (.bool true))] [.row false (.intss .i64 a0), .row false (.intss .i64 a1)] ?_
        refine awp_ret ?_
        (try simp only [Thn, InBlk, ↓reduceIte, Nat.reduceEqDiff])
        obtain rfl := Option.some.inj h
        refine ⟨by simp, _, [0, 1], (by simp only [go_sem, Nat.reduceBEq, Nat.reduceLT, Nat.reduceAdd, Nat.reduceLeDiff, Nat.reduceSub, Nat.reduceEqDiff, Int.reduceToNat, reduceCtorEq, ↓reduceIte]; exact rfl), ?_, ?_, ?_, ?_⟩
        · first | exact trivial | exact ⟨trivial, trivial⟩ | exact ⟨trivial, trivial, trivial⟩ | exact ⟨trivial, trivial, trivial, trivial⟩ | (simp only [allP, and_true, true_and]; done) | (simp only [allP, and_true, true_and]; omega)
        · simp [selOk, pos]
        · simp
        · first | exact ⟨rfl, rfl⟩ | (simp only [go_sem, Nat.reduceBEq, Nat.reduceLT, Nat.reduceAdd, Nat.reduceLeDiff, Nat.reduceSub, Nat.reduceEqDiff, Int.reduceToNat, reduceCtorEq, ↓reduceIte]; done) | (simp [go_sem, Nat.reduceBEq, Nat.reduceLT, Nat.reduceAdd, Nat.reduceLeDiff, Nat.reduceSub, Nat.reduceEqDiff, Int.reduceToNat, reduceCtorEq, ↓reduceIte]; done) | (simp only [go_sem, Nat.reduceBEq, Nat.reduceLT, Nat.reduceAdd, Nat.reduceLeDiff, Nat.reduceSub, Nat.reduceEqDiff, Int.reduceToNat, reduceCtorEq, ↓reduceIte]; exact ⟨rfl, rfl⟩) | (simp_all [go_sem, Nat.reduceBEq, Nat.reduceLT, Nat.reduceAdd, Nat.reduceLeDiff, Nat.reduceSub, Nat.reduceEqDiff, Int.reduceToNat, reduceCtorEq, ↓reduceIte]; done)
      · try dsimp only [Sum.elim_inl, Sum.elim_inr] at h
        try dsimp only [Sum.elim_inl, Sum.elim_inr]
        (try simp only [Thn, InBlk, ↓reduceIte, Nat.reduceEqDiff])
        obtain rfl := Option.some.inj h
        refine ⟨by simp, _, [0, 1], (by simp only [go_sem, Nat.reduceBEq, Nat.reduceLT, Nat.reduceAdd, Nat.reduceLeDiff, Nat.reduceSub, Nat.reduceEqDiff, Int.reduceToNat, reduceCtorEq, ↓reduceIte]; exact rfl), ?_, ?_, ?_, ?_⟩
        · first | exact trivial | exact ⟨trivial, trivial⟩ | exact ⟨trivial, trivial, trivial⟩ | exact ⟨trivial, trivial, trivial, trivial⟩ | (simp only [allP, and_true, true_and]; done) | (simp only [allP, and_true, true_and]; omega)
        · simp [selOk, pos]
        · simp
        · first | exact ⟨rfl, rfl⟩ | (simp only [go_sem, Nat.reduceBEq, Nat.reduceLT, Nat.reduceAdd, Nat.reduceLeDiff, Nat.reduceSub, Nat.reduceEqDiff, Int.reduceToNat, reduceCtorEq, ↓reduceIte]; done) | (simp [go_sem, Nat.reduceBEq, Nat.reduceLT, Nat.reduceAdd, Nat.reduceLeDiff, Nat.reduceSub, Nat.reduceEqDiff, Int.reduceToNat, reduceCtorEq, ↓reduceIte]; done) | (simp only [go_sem, Nat.reduceBEq, Nat.reduceLT, Nat.reduceAdd, Nat.reduceLeDiff, Nat.reduceSub, Nat.reduceEqDiff, Int.reduceToNat, reduceCtorEq, ↓reduceIte]; exact ⟨rfl, rfl⟩) | (simp_all [go_sem, Nat.reduceBEq, Nat.reduceLT, Nat.reduceAdd, Nat.reduceLeDiff, Nat.reduceSub, Nat.reduceEqDiff, Int.reduceToNat, reduceCtorEq, ↓reduceIte]; done)
theorem k_impl_BytesValid (a0 : List Int) {r : Bool} (h : impl_BytesValid a0 = some r) :
    FnA Try.prog 74 [.sl 0] [.row false (.ints .i64 a0)] [] (fun x H => x = .v (.bool r) ∧ H = [.row false (.ints .i64 a0)]) := by
  unfold impl_BytesValid at h
  refine FnA.of (N := 21) (pin := [0]) (rs := [.tmp 2]) Try.func74 rfl en74 rfl rfl (by simp) (by simp; try omega) ?_
  refine awp_reg ftCOk [(0, .sl 0)] [.row false (.ints .i64 a0)] ?_
  refine awp_seq fun K2 hK2 => ?_
  refine awp_reg ftCOk [(0, .sl 0), (7, .v (.bool (decide (2000 < (a0.length : Int)))))] [.row false (.ints .i64 a0)] ?_
  refine awp_cond (t := 7) rfl (fun hc3 => ?_) (fun hc3 => ?_)
  · replace h := bite_t h hc3
    refine awp_reg ftCOk [(2, .v (.bool false))] [.row false (.ints .i64 a0)] ?_
    refine awp_ret ?_
    (try simp only [Thn, InBlk, ↓reduceIte, Nat.reduceEqDiff])
    obtain rfl := Option.some.inj h
    refine ⟨by simp, _, [0], (by simp only [go_sem, Nat.reduceBEq, Nat.reduceLT, Nat.reduceAdd, Nat.reduceLeDiff, Nat.reduceSub, Nat.reduceEqDiff, Int.reduceToNat, reduceCtorEq, ↓reduceIte]; exact rfl), ?_, ?_, ?_, ?_⟩
    · first | exact trivial | exact ⟨trivial, trivial⟩ | exact ⟨trivial, trivial, trivial⟩ | exact ⟨trivial, trivial, trivial, trivial⟩ | (simp only [allP, and_true, true_and]; done) | (simp only [allP, and_true, true_and]; omega)
    · simp [selOk, pos]
    · simp
    · first | exact ⟨rfl, rfl⟩ | (simp only [go_sem, Nat.reduceBEq, Nat.reduceLT, Nat.reduceAdd, Nat.reduceLeDiff, Nat.reduceSub, Nat.reduceEqDiff, Int.reduceToNat, reduceCtorEq, ↓reduceIte]; done) | (simp [go_sem, Nat.reduceBEq, Nat.reduceLT, Nat.reduceAdd, Nat.reduceLeDiff, Nat.reduceSub, Nat.reduceEqDiff, Int.reduceToNat, reduceCtorEq, ↓reduceIte]; done) | (simp only [go_sem, Nat.reduceBEq, Nat.reduceLT, Nat.reduceAdd, Nat.reduceLeDiff, Nat.reduceSub, Nat.reduceEqDiff, Int.reduceToNat, reduceCtorEq, ↓reduceIte]; exact ⟨rfl, rfl⟩) | (simp_all [go_sem, Nat.reduceBEq, Nat.reduceLT, Nat.reduceAdd, Nat.reduceLeDiff, Nat.reduceSub, Nat.reduceEqDiff, Int.reduceToNat, reduceCtorEq, ↓reduceIte]; done)
  · replace h := bite_f h hc3
    refine awp_skip ?_
    (try simp only [Thn, InBlk, ↓reduceIte, Nat.reduceEqDiff])
    refine hK2 _ _ ?_
    clear hK2
    refine awp_seq fun K23 hK23 => ?_
    refine awp_reg ftCOk [(8, .sl 0), (9, .v (.int .i64 (a0.length : Int))), (10, .v (.int .i64 0))] [.row false (.ints .i64 a0)] ?_
    refine awp_block ?_
    replace h := bind_some h
    obtain ⟨x42, hx, h⟩ := h
    refine awp_loopL hx (fun (t10 : Int) => [(8, .sl 0), (9, .v (.int .i64 (a0.length : Int))), (10, .v (.int .i64 t10))]) (fun (t10 : Int) => [.row false (.ints .i64 a0)]) (Sum.elim (fun (_ : Unit) => Exit.exit 0) (fun (_ : Unit) => Exit.ret)) (Sum.elim (fun (_ : Unit) => []) (fun (_ : Unit) => [(2, .v (.bool false))])) (Sum.elim (fun (_ : Unit) => [.row false (.ints .i64 a0)]) (fun (_ : Unit) => [.row false (.ints .i64 a0)])) ?_ ?_ ?_ ?_
    · rintro (⟨⟩ | ⟨⟩) hy <;> cases hy
    · clear h hx
      exact Red.auto
    · clear h hx
      rintro t10 r h
      unfold impl_BytesValid_b0 at h
      try dsimp only at h
      try dsimp only
      refine awp_reg ftCOk [(8, .sl 0), (9, .v (.int .i64 (a0.length : Int))), (10, .v (.int .i64 t10)), (11, .v (.bool (decide (t10 < (a0.length : Int)))))] [.row false (.ints .i64 a0)] ?_
      refine awp_seq fun K37 hK37 => ?_
      refine awp_cond (t := 11) rfl (fun hc38 => ?_) (fun hc38 => ?_)
      · replace h := bite_t h hc38
        refine awp_skip ?_
        (try simp only [Thn, InBlk, ↓reduceIte, Nat.reduceEqDiff])
        refine hK37 _ _ ?_
        clear hK37
        refine awp_seq fun K40 hK40 => ?_
        refine awp_block ?_
        replace h := chk_some h
        obtain ⟨hp0, h⟩ := h
        refine awp_reg ftCOk [(4, .v (.int .i64 (a0.getD t10.toNat 0))), (8, .sl 0), (9, .v (.int .i64 (a0.length : Int))), (10, .v (.int .i64 t10))] [.row false (.ints .i64 a0)] ?_
        clear hp0
        refine awp_reg ftCOk [(8, .sl 0), (9, .v (.int .i64 (a0.length : Int))), (10, .v (.int .i64 t10)), (19, .v (.bool ((decide ((a0.getD t10.toNat 0) < 0)) || (decide (255 < (a0.getD t10.toNat 0))))))] [.row false (.ints .i64 a0)] ?_
        refine awp_cond (t := 19) rfl (fun hc41 => ?_) (fun hc41 => ?_)
        · replace h := bite_t h hc41
          refine awp_reg ftCOk [(2, .v (.bool false))] [.row false (.ints .i64 a0)] ?_
          refine awp_ret ?_
          (try simp only [Thn, InBlk, ↓reduceIte, Nat.reduceEqDiff])
          obtain rfl := Option.some.inj h
          refine LoopQ.out rfl ?_
          exact Red.auto
        · replace h := bite_f h hc41
          refine awp_skip ?_
          (try simp only [Thn, InBlk, ↓reduceIte, Nat.reduceEqDiff])
          (try simp only [Thn, InBlk, ↓reduceIte, Nat.reduceEqDiff])
          refine hK40 _ _ ?_
          clear hK40
          replace h := chk_some h
          obtain ⟨hp0, h⟩ := h
          refine awp_regE ftCOk [(8, .sl 0), (9, .v (.int .i64 (a0.length : Int))), (10, .v (.int .i64 (t10 + 1)))] [.row false (.ints .i64 a0)] ?_
          clear hp0
          obtain rfl := Option.some.inj h
          refine LoopQ.next ?_
          exact Red.auto
      · replace h := bite_f h hc38
        refine awp_exit ?_
        (try simp only [Thn, InBlk, ↓reduceIte, Nat.reduceEqDiff])
        obtain rfl := Option.some.inj h
        refine LoopQ.out rfl ?_
        exact Red.auto
    · clear hx
      rcases x42 with (⟨⟩ | ⟨⟩)
      · try dsimp only [Sum.elim_inl, Sum.elim_inr] at h
        try dsimp only [Sum.elim_inl, Sum.elim_inr]
        (try simp only [Thn, InBlk, ↓reduceIte, Nat.reduceEqDiff])
        (try simp only [Thn, InBlk, ↓reduceIte, Nat.reduceEqDiff])
        (try simp only [Thn, InBlk, ↓reduceIte, Nat.reduceEqDiff])
        refine hK23 _ _ ?_
        clear hK23
        refine awp_reg ftCOk [(2, .v (.bool true))] [.row false (.ints .i64 a0)] ?_
        refine awp_ret ?_
        (try simp only [Thn, InBlk, ↓reduceIte, Nat.reduceEqDiff])
        obtain rfl := Option.some.inj h
        refine ⟨by simp, _, [0], (by simp only [go_sem, Nat.reduceBEq, Nat.reduceLT, Nat.reduceAdd, Nat.reduceLeDiff, Nat.reduceSub, Nat.reduceEqDiff, Int.reduceToNat, reduceCtorEq, ↓reduceIte]; exact rfl), ?_, ?_, ?_, ?_⟩
        · first | exact trivial | exact ⟨trivial, trivial⟩ | exact ⟨trivial, trivial, trivial⟩ | exact ⟨trivial, trivial, trivial, trivial⟩ | (simp only [allP, and_true, true_and]; done) | (simp only [allP, and_true, true_and]; omega)
        · simp [selOk, pos]
        · simp
        · first | exact ⟨rfl, rfl⟩ | (simp only [go_sem, Nat.reduceBEq, Nat.reduceLT, Nat.reduceAdd, Nat.reduceLeDiff, Nat.reduceSub, Nat.reduceEqDiff, Int.reduceToNat, reduceCtorEq, ↓reduceIte]; done) | (simp [go_sem, Nat.reduceBEq, Nat.reduceLT, Nat.reduceAdd, Nat.reduceLeDiff, Nat.reduceSub, Nat.reduceEqDiff, Int.reduceToNat, reduceCtorEq, ↓reduceIte]; done) | (simp only [go_sem, Nat.reduceBEq, Nat.reduceLT, Nat.reduceAdd, Nat.reduceLeDiff, Nat.reduceSub, Nat.reduceEqDiff, Int.reduceToNat, reduceCtorEq, ↓reduceIte]; exact ⟨rfl, rfl⟩) | (simp_all [go_sem, Nat.reduceBEq, Nat.reduceLT, Nat.reduceAdd, Nat.reduceLeDiff, Nat.reduceSub, Nat.reduceEqDiff, Int.reduceToNat, reduceCtorEq, ↓reduceIte]; done)
      · try dsimp only [Sum.elim_inl, Sum.elim_inr] at h
        try dsimp only [Sum.elim_inl, Sum.elim_inr]
        (try simp only [Thn, InBlk, ↓reduceIte, Nat.reduceEqDiff])
        obtain rfl := Option.some.inj h
        refine ⟨by simp, _, [0], (by simp only [go_sem, Nat.reduceBEq, Nat.reduceLT, Nat.reduceAdd, Nat.reduceLeDiff, Nat.reduceSub, Nat.reduceEqDiff, Int.reduceToNat, reduceCtorEq, ↓reduceIte]; exact rfl), ?_, ?_, ?_, ?_⟩
        · first | exact trivial | exact ⟨trivial, trivial⟩ | exact ⟨trivial, trivial, trivial⟩ | exact ⟨trivial, trivial, trivial, trivial⟩ | (simp only [allP, and_true, true_and]; done) | (simp only [allP, and_true, true_and]; omega)
        · simp [selOk, pos]
        · simp
        · first | exact ⟨rfl, rfl⟩ | (simp only [go_sem, Nat.reduceBEq, Nat.reduceLT, Nat.reduceAdd, Nat.reduceLeDiff, Nat.reduceSub, Nat.reduceEqDiff, Int.reduceToNat, reduceCtorEq, ↓reduceIte]; done) | (simp [go_sem, Nat.reduceBEq, Nat.reduceLT, Nat.reduceAdd, Nat.reduceLeDiff, Nat.reduceSub, Nat.reduceEqDiff, Int.reduceToNat, reduceCtorEq, ↓reduceIte]; done) | (simp only [go_sem, Nat.reduceBEq, Nat.reduceLT, Nat.reduceAdd, Nat.reduceLeDiff, Nat.reduceSub, Nat.reduceEqDiff, Int.reduceToNat, reduceCtorEq, ↓reduceIte]; exact ⟨rfl, rfl⟩) | (simp_all [go_sem, Nat.reduceBEq, Nat.reduceLT, Nat.reduceAdd, Nat.reduceLeDiff, Nat.reduceSub, Nat.reduceEqDiff, Int.reduceToNat, reduceCtorEq, ↓reduceIte]; done)
theorem k_impl_CheckSum (a0 : List Int) {r : Int} (h : impl_CheckSum a0 = some r) :
    FnA Try.prog 55 [.sl 0] [.row false (.ints .i64 a0)] [] (fun x H => x = .v (.int .i64 r) ∧ H = [.row false (.ints .i64 a0)]) := by
  unfold impl_CheckSum at h
  refine FnA.of (N := 23) (pin := [0]) (rs := [.tmp 2]) Try.func55 rfl en55 rfl rfl (by simp) (by simp; try omega) ?_
  refine awp_reg ftCOk [(0, .sl 0)] [.row false (.ints .i64 a0)] ?_
  refine awp_seq fun K2 hK2 => ?_
  replace h := bind_some h
  obtain ⟨y, hr0, h⟩ := h
  try dsimp only at h
  refine awp_to [(0, .sl 0), (8, .v (.bool (!y)))] [.row false (.ints .i64 a0)] ?_ ?_
  · clear h
    intro K hK
    refine awp_region ftCOk ?_
    simp (maxSteps := 4000000) only [go_sem, Nat.reduceBEq, Nat.reduceLT, Nat.reduceAdd, Nat.reduceLeDiff, Nat.reduceSub, Nat.reduceEqDiff, Int.reduceToNat, reduceCtorEq, ↓reduceIte]
    repeat' (first | refine And.intro ?_ ?_ | intro hg)
    all_goals (try simp (disch := omega) only [wrap_fits])
    all_goals first
      | (refine hK _ _ ?_; exact Red.auto)
      | exact trivial
      | assumption
      | omega
      | exact wrap_fits (by omega) (by omega)
      | (refine wpA_callA (k_impl_BytesValid a0 (h := hr0)) [0] [] ?_
         rintro x Hc' ⟨rfl, rfl⟩ hlen
         refine vcOps_sound ftCOk ?_
         simp (maxSteps := 4000000) only [go_sem, Nat.reduceBEq, Nat.reduceLT, Nat.reduceAdd, Nat.reduceLeDiff, Nat.reduceSub, Nat.reduceEqDiff, Int.reduceToNat, reduceCtorEq, ↓reduceIte]
         repeat' (first | refine And.intro ?_ ?_ | intro hg)
         all_goals (try simp (disch := omega) only [wrap_fits])
         all_goals first
           | (refine hK _ _ ?_; exact Red.auto)
           | exact trivial
           | assumption
           | omega
           | exact wrap_fits (by omega) (by omega)
           | (simp_all; done)
           | (simp_all; omega))
      | (simp_all; done)
      | (simp_all; omega)
  · clear hr0
    refine awp_cond (t := 8) rfl (fun hc3 => ?_) (fun hc3 => ?_)
    · replace h := bite_t h hc3
      refine awp_reg ftCOk [(2, .v (.int .i64 (-1)))] [.row false (.ints .i64 a0)] ?_
      refine awp_ret ?_
      (try simp only [Thn, InBlk, ↓reduceIte, Nat.reduceEqDiff])
      obtain rfl := Option.some.inj h
      refine ⟨by simp, _, [0], (by simp only [go_sem, Nat.reduceBEq, Nat.reduceLT, Nat.reduceAdd, Nat.reduceLeDiff, Nat.reduceSub, Nat.reduceEqDiff, Int.reduceToNat, reduceCtorEq, ↓reduceIte]; exact rfl), ?_, ?_, ?_, ?_⟩
      · first | exact trivial | exact ⟨trivial, trivial⟩ | exact ⟨trivial, trivial, trivial⟩ | exact ⟨trivial, trivial, trivial, trivial⟩ | (simp only [allP, and_true, true_and]; done) | (simp only [allP, and_true, true_and]; omega)
      · simp [selOk, pos]
      · simp
      · first | exact ⟨rfl, rfl⟩ | (simp only [go_sem, Nat.reduceBEq, Nat.reduceLT, Nat.reduceAdd, Nat.reduceLeDiff, Nat.reduceSub, Nat.reduceEqDiff, Int.reduceToNat, reduceCtorEq, ↓reduceIte]; done) | (simp [go_sem, Nat.reduceBEq, Nat.reduceLT, Nat.reduceAdd, Nat.reduceLeDiff, Nat.reduceSub, Nat.reduceEqDiff, Int.reduceToNat, reduceCtorEq, ↓reduceIte]; done) | (simp only [go_sem, Nat.reduceBEq, Nat.reduceLT, Nat.reduceAdd, Nat.reduceLeDiff, Nat.reduceSub, Nat.reduceEqDiff, Int.reduceToNat, reduceCtorEq, ↓reduceIte]; exact ⟨rfl, rfl⟩) | (simp_all [go_sem, Nat.reduceBEq, Nat.reduceLT, Nat.reduceAdd, Nat.reduceLeDiff, Nat.reduceSub, Nat.reduceEqDiff, Int.reduceToNat, reduceCtorEq, ↓reduceIte]; done)
    · replace h := bite_f h hc3
      refine awp_skip ?_
      (try simp only [Thn, InBlk, ↓reduceIte, Nat.reduceEqDiff])
      refine hK2 _ _ ?_
      clear hK2
      refine awp_reg ftCOk [(0, .sl 0), (3, .v (.int .i64 7))] [.row false (.ints .i64 a0)] ?_
      refine awp_seq fun K17 hK17 => ?_
      refine awp_reg ftCOk [(3, .v (.int .i64 7)), (9, .sl 0), (10, .v (.int .i64 (a0.length : Int))), (11, .v (.int .i64 0))] [.row false (.ints .i64 a0)] ?_
      refine awp_block ?_
      replace h := bind_some h
      obtain ⟨t3_1, hx, h⟩ := h
      refine awp_loopL hx (fun ((t3, t11) : Int × Int) => [(3, .v (.int .i64 t3)), (9, .sl 0), (10, .v (.int .i64 (a0.length : Int))), (11, .v (.int .i64 t11))]) (fun ((t3, t11) : Int × Int) => [.row false (.ints .i64 a0)]) (fun (t3_1 : Int) => Exit.exit 0) (fun (t3_1 : Int) => [(3, .v (.int .i64 t3_1))]) (fun (t3_1 : Int) => [.row false (.ints .i64 a0)]) ?_ ?_ ?_ ?_
      · rintro t3_1 hy <;> cases hy
      · clear h hx
        exact Red.auto
      · clear h hx
        rintro ⟨t3, t11⟩ r h
        unfold impl_CheckSum_b0 at h
        try dsimp only at h
        try dsimp only
        refine awp_reg ftCOk [(3, .v (.int .i64 t3)), (9, .sl 0), (10, .v (.int .i64 (a0.length : Int))), (11, .v (.int .i64 t11)), (12, .v (.bool (decide (t11 < (a0.length : Int)))))] [.row false (.ints .i64 a0)] ?_
        refine awp_seq fun K27 hK27 => ?_
        refine awp_cond (t := 12) rfl (fun hc28 => ?_) (fun hc28 => ?_)
        · replace h := bite_t h hc28
          refine awp_skip ?_
          (try simp only [Thn, InBlk, ↓reduceIte, Nat.reduceEqDiff])
          refine hK27 _ _ ?_
          clear hK27
          refine awp_seq fun K29 hK29 => ?_
          refine awp_block ?_
          replace h := chk_some h
          obtain ⟨hp0, h⟩ := h
          refine awp_reg ftCOk [(3, .v (.int .i64 t3)), (5, .v (.int .i64 (a0.getD t11.toNat 0))), (9, .sl 0), (10, .v (.int .i64 (a0.length : Int))), (11, .v (.int .i64 t11))] [.row false (.ints .i64 a0)] ?_
          clear hp0
          replace h := chk_some h
          obtain ⟨hp0, h⟩ := h
          replace h := chk_some h
          obtain ⟨hp1, h⟩ := h
          replace h := chk_some h
          obtain ⟨hp2, h⟩ := h
          replace h := chk_some h
          obtain ⟨hp3, h⟩ := h
          refine awp_regE ftCOk [(3, .v (.int .i64 ((((31 * t3) + (a0.getD t11.toNat 0)) + 1) % 251))), (9, .sl 0), (10, .v (.int .i64 (a0.length : Int))), (11, .v (.int .i64 t11))] [.row false (.ints .i64 a0)] ?_
          clear hp0 hp1 hp2 hp3
          (try simp only [Thn, InBlk, ↓reduceIte, Nat.reduceEqDiff])
          (try simp only [Thn, InBlk, ↓reduceIte, Nat.reduceEqDiff])
          refine hK29 _ _ ?_
          clear hK29
          replace h := chk_some h
          obtain ⟨hp0, h⟩ := h
          refine awp_regE ftCOk [(3, .v (.int .i64 ((((31 * t3) + (a0.getD t11.toNat 0)) + 1) % 251))), (9, .sl 0), (10, .v (.int .i64 (a0.length : Int))), (11, .v (.int .i64 (t11 + 1)))] [.row false (.ints .i64 a0)] ?_
          clear hp0
          obtain rfl := Option.some.inj h
          refine LoopQ.next ?_
          exact Red.auto
        · replace h := bite_f h hc28
          refine awp_exit ?_
          (try simp only [Thn, InBlk, ↓reduceIte, Nat.reduceEqDiff])
          obtain rfl := Option.some.inj h
          refine LoopQ.out rfl ?_
          exact Red.auto
      · clear hx
        skip
        · try dsimp only [Sum.elim_inl, Sum.elim_inr] at h
          try dsimp only [Sum.elim_inl, Sum.elim_inr]
          (try simp only [Thn, InBlk, ↓reduceIte, Nat.reduceEqDiff])
          (try simp only [Thn, InBlk, ↓reduceIte, Nat.reduceEqDiff])
          (try simp only [Thn, InBlk, ↓reduceIte, Nat.reduceEqDiff])
          refine hK17 _ _ ?_
          clear hK17
          refine awp_reg ftCOk [(2, .v (.int .i64 t3_1))] [.row false (.ints .i64 a0)] ?_
          refine awp_ret ?_
          (try simp only [Thn, InBlk, ↓reduceIte, Nat.reduceEqDiff])
          obtain rfl := Option.some.inj h
          refine ⟨by simp, _, [0], (by simp only [go_sem, Nat.reduceBEq, Nat.reduceLT, Nat.reduceAdd, Nat.reduceLeDiff, Nat.reduceSub, Nat.reduceEqDiff, Int.reduceToNat, reduceCtorEq, ↓reduceIte]; exact rfl), ?_, ?_, ?_, ?_⟩
          · first | exact trivial | exact ⟨trivial, trivial⟩ | exact ⟨trivial, trivial, trivial⟩ | exact ⟨trivial, trivial, trivial, trivial⟩ | (simp only [allP, and_true, true_and]; done) | (simp only [allP, and_true, true_and]; omega)
          · simp [selOk, pos]
          · simp
          · first | exact ⟨rfl, rfl⟩ | (simp only [go_sem, Nat.reduceBEq, Nat.reduceLT, Nat.reduceAdd, Nat.reduceLeDiff, Nat.reduceSub, Nat.reduceEqDiff, Int.reduceToNat, reduceCtorEq, ↓reduceIte]; done) | (simp [go_sem, Nat.reduceBEq, Nat.reduceLT, Nat.reduceAdd, Nat.reduceLeDiff, Nat.reduceSub, Nat.reduceEqDiff, Int.reduceToNat, reduceCtorEq, ↓reduceIte]; done) | (simp only [go_sem, Nat.reduceBEq, Nat.reduceLT, Nat.reduceAdd, Nat.reduceLeDiff, Nat.reduceSub, Nat.reduceEqDiff, Int.reduceToNat, reduceCtorEq, ↓reduceIte]; exact ⟨rfl, rfl⟩) | (simp_all [go_sem, Nat.reduceBEq, Nat.reduceLT, Nat.reduceAdd, Nat.reduceLeDiff, Nat.reduceSub, Nat.reduceEqDiff, Int.reduceToNat, reduceCtorEq, ↓reduceIte]; done)
theorem k_laws_alive {r : Bool} (h : laws_alive = some r) :
    FnA Try.prog 27 [] [] [] (fun x H => x = .v (.bool r) ∧ H = []) := by
  unfold laws_alive at h
  refine FnA.of (N := 4) (pin := []) (rs := [.tmp 0]) Try.func27 rfl en27 rfl rfl (by simp) (by simp; try omega) ?_
  refine awp_reg ftCOk [] [] ?_
  replace h := bind_some h
  obtain ⟨y, hr0, h⟩ := h
  try dsimp only at h
  refine awp_to [(0, .v (.bool (y == 7)))] [.row true (.ints .i64 [])] ?_ ?_
  · clear h
    intro K hK
    refine awp_region ftCOk ?_
    simp (maxSteps := 4000000) only [go_sem, Nat.reduceBEq, Nat.reduceLT, Nat.reduceAdd, Nat.reduceLeDiff, Nat.reduceSub, Nat.reduceEqDiff, Int.reduceToNat, reduceCtorEq, ↓reduceIte]
    repeat' (first | refine And.intro ?_ ?_ | intro hg)
    all_goals (try simp (disch := omega) only [wrap_fits])
    all_goals first
      | (refine hK _ _ ?_; exact Red.auto)
      | exact trivial
      | assumption
      | omega
      | exact wrap_fits (by omega) (by omega)
      | (refine wpA_callA (k_impl_CheckSum [] (h := hr0)) [0] [] ?_
         rintro x Hc' ⟨rfl, rfl⟩ hlen
         refine vcOps_sound ftCOk ?_
         simp (maxSteps := 4000000) only [go_sem, Nat.reduceBEq, Nat.reduceLT, Nat.reduceAdd, Nat.reduceLeDiff, Nat.reduceSub, Nat.reduceEqDiff, Int.reduceToNat, reduceCtorEq, ↓reduceIte]
         repeat' (first | refine And.intro ?_ ?_ | intro hg)
         all_goals (try simp (disch := omega) only [wrap_fits])
         all_goals first
           | (refine hK _ _ ?_; exact Red.auto)
           | exact trivial
           | assumption
           | omega
           | exact wrap_fits (by omega) (by omega)
           | (simp_all; done)
           | (simp_all; omega))
      | (simp_all; done)
      | (simp_all; omega)
  · clear hr0
    refine awp_ret ?_
    (try simp only [Thn, InBlk, ↓reduceIte, Nat.reduceEqDiff])
    obtain rfl := Option.some.inj h
    refine ⟨by simp, _, [], (by simp only [go_sem, Nat.reduceBEq, Nat.reduceLT, Nat.reduceAdd, Nat.reduceLeDiff, Nat.reduceSub, Nat.reduceEqDiff, Int.reduceToNat, reduceCtorEq, ↓reduceIte]; exact rfl), ?_, ?_, ?_, ?_⟩
    · first | exact trivial | exact ⟨trivial, trivial⟩ | exact ⟨trivial, trivial, trivial⟩ | exact ⟨trivial, trivial, trivial, trivial⟩ | (simp only [allP, and_true, true_and]; done) | (simp only [allP, and_true, true_and]; omega)
    · simp [selOk, pos]
    · simp
    · first | exact ⟨rfl, rfl⟩ | (simp only [go_sem, Nat.reduceBEq, Nat.reduceLT, Nat.reduceAdd, Nat.reduceLeDiff, Nat.reduceSub, Nat.reduceEqDiff, Int.reduceToNat, reduceCtorEq, ↓reduceIte]; done) | (simp [go_sem, Nat.reduceBEq, Nat.reduceLT, Nat.reduceAdd, Nat.reduceLeDiff, Nat.reduceSub, Nat.reduceEqDiff, Int.reduceToNat, reduceCtorEq, ↓reduceIte]; done) | (simp only [go_sem, Nat.reduceBEq, Nat.reduceLT, Nat.reduceAdd, Nat.reduceLeDiff, Nat.reduceSub, Nat.reduceEqDiff, Int.reduceToNat, reduceCtorEq, ↓reduceIte]; exact ⟨rfl, rfl⟩) | (simp_all [go_sem, Nat.reduceBEq, Nat.reduceLT, Nat.reduceAdd, Nat.reduceLeDiff, Nat.reduceSub, Nat.reduceEqDiff, Int.reduceToNat, reduceCtorEq, ↓reduceIte]; done)
theorem k_laws_FnColorGroups (a0 : List Int) {r : Bool} (h : laws_FnColorGroups a0 = some r) :
    FnA Try.prog 5 [.sl 0] [.row false (.ints .u8 a0)] [] (fun x H => x = .v (.bool r) ∧ H = [.row false (.ints .u8 a0)]) := by
  unfold laws_FnColorGroups at h
  refine FnA.of (N := 106) (pin := [0]) (rs := [.tmp 2]) Try.func5 rfl en5 rfl rfl (by simp) (by simp; try omega) ?_
  refine awp_reg ftCOk [(0, .sl 0)] [.row false (.ints .u8 a0)] ?_
  refine awp_seq fun K2 hK2 => ?_
  refine awp_reg ftCOk [(0, .sl 0), (10, .v (.bool (decide (1048576 < (a0.length : Int)))))] [.row false (.ints .u8 a0)] ?_
  refine awp_cond (t := 10) rfl (fun hc3 => ?_) (fun hc3 => ?_)
  · replace h := bite_t h hc3
    refine awp_reg ftCOk [(2, .v (.bool true))] [.row false (.ints .u8 a0)] ?_
    refine awp_ret ?_
    (try simp only [Thn, InBlk, ↓reduceIte, Nat.reduceEqDiff])
    obtain rfl := Option.some.inj h
    refine ⟨by simp, _, [0], (by simp only [go_sem, Nat.reduceBEq, Nat.reduceLT, Nat.reduceAdd, Nat.reduceLeDiff, Nat.reduceSub, Nat.reduceEqDiff, Int.reduceToNat, reduceCtorEq, ↓reduceIte]; exact rfl), ?_, ?_, ?_, ?_⟩
    · first | exact trivial | exact ⟨trivial, trivial⟩ | exact ⟨trivial, trivial, trivial⟩ | exact ⟨trivial, trivial, trivial, trivial⟩ | (simp only [allP, and_true, true_and]; done) | (simp only [allP, and_true, true_and]; omega)
    · simp [selOk, pos]
    · simp
    · first | exact ⟨rfl, rfl⟩ | (simp only [go_sem, Nat.reduceBEq, Nat.reduceLT, Nat.reduceAdd, Nat.reduceLeDiff, Nat.reduceSub, Nat.reduceEqDiff, Int.reduceToNat, reduceCtorEq, ↓reduceIte]; done) | (simp [go_sem, Nat.reduceBEq, Nat.reduceLT, Nat.reduceAdd, Nat.reduceLeDiff, Nat.reduceSub, Nat.reduceEqDiff, Int.reduceToNat, reduceCtorEq, ↓reduceIte]; done) | (simp only [go_sem, Nat.reduceBEq, Nat.reduceLT, Nat.reduceAdd, Nat.reduceLeDiff, Nat.reduceSub, Nat.reduceEqDiff, Int.reduceToNat, reduceCtorEq, ↓reduceIte]; exact ⟨rfl, rfl⟩) | (simp_all [go_sem, Nat.reduceBEq, Nat.reduceLT, Nat.reduceAdd, Nat.reduceLeDiff, Nat.reduceSub, Nat.reduceEqDiff, Int.reduceToNat, reduceCtorEq, ↓reduceIte]; done)
  · replace h := bite_f h hc3
    refine awp_skip ?_
    (try simp only [Thn, InBlk, ↓reduceIte, Nat.reduceEqDiff])
    refine hK2 _ _ ?_
    clear hK2
    replace h := bind_some h
    obtain ⟨y, hr0, h⟩ := h
    try dsimp only at h
    refine awp_to [(3, .sl 1)] [.row false (.ints .u8 a0), .row true (.ints .i64 y)] ?_ ?_
    · clear h
      intro K hK
      refine awp_region ftCOk ?_
      simp (maxSteps := 4000000) only [go_sem, Nat.reduceBEq, Nat.reduceLT, Nat.reduceAdd, Nat.reduceLeDiff, Nat.reduceSub, Nat.reduceEqDiff, Int.reduceToNat, reduceCtorEq, ↓reduceIte]
      repeat' (first | refine And.intro ?_ ?_ | intro hg)
      all_goals (try simp (disch := omega) only [wrap_fits])
      all_goals first
        | (refine hK _ _ ?_; exact Red.auto)
        | exact trivial
        | assumption
        | omega
        | exact wrap_fits (by omega) (by omega)
        | (refine wpA_callA (k_spec_DrawColorGroups a0 (h := hr0)) [0] [] ?_
           rintro x Hc' ⟨rfl, rfl⟩ hlen
           refine vcOps_sound ftCOk ?_
           simp (maxSteps := 4000000) only [go_sem, Nat.reduceBEq, Nat.reduceLT, Nat.reduceAdd, Nat.reduceLeDiff, Nat.reduceSub, Nat.reduceEqDiff, Int.reduceToNat, reduceCtorEq, ↓reduceIte]
           repeat' (first | refine And.intro ?_ ?_ | intro hg)
           all_goals (try simp (disch := omega) only [wrap_fits])
           all_goals first
             | (refine hK _ _ ?_; exact Red.auto)
             | exact trivial
             | assumption
             | omega
             | exact wrap_fits (by omega) (by omega)
             | (simp_all; done)
             | (simp_all; omega))
        | (simp_all; done)
        | (simp_all; omega)
    · clear hr0
      replace h := bind_some h
      obtain ⟨y_1, hr0, h⟩ := h
      try dsimp only at h
      refine awp_to [(3, .sl 1), (4, .sl 2)] [.row false (.ints .u8 a0), .row true (.ints .i64 y), .row true (.intss .i64 y_1)] ?_ ?_
      · clear h
        intro K hK
        refine awp_region ftCOk ?_
        simp (maxSteps := 4000000) only [go_sem, Nat.reduceBEq, Nat.reduceLT, Nat.reduceAdd, Nat.reduceLeDiff, Nat.reduceSub, Nat.reduceEqDiff, Int.reduceToNat, reduceCtorEq, ↓reduceIte]
        repeat' (first | refine And.intro ?_ ?_ | intro hg)
        all_goals (try simp (disch := omega) only [wrap_fits])
        all_goals first
          | (refine hK _ _ ?_; exact Red.auto)
          | exact trivial
          | assumption
          | omega
          | exact wrap_fits (by omega) (by omega)
          | (refine wpA_callA (k_impl_ColorGroups y (h := hr0)) [1] [] ?_
             rintro x Hc' ⟨rfl, rfl⟩ hlen
             refine vcOps_sound ftCOk ?_
             simp (maxSteps := 4000000) only [go_sem, Nat.reduceBEq, Nat.reduceLT, Nat.reduceAdd, Nat.reduceLeDiff, Nat.reduceSub, Nat.reduceEqDiff, Int.reduceToNat, reduceCtorEq, ↓reduceIte]
             repeat' (first | refine And.intro ?_ ?_ | intro hg)
             all_goals (try simp (disch := omega) only [wrap_fits])
             all_goals first
               | (refine hK _ _ ?_; exact Red.auto)
               | exact trivial
               | assumption
               | omega
               | exact wrap_fits (by omega) (by omega)
               | (simp_all; done)
               | (simp_all; omega))
          | (simp_all; done)
          | (simp_all; omega)
      · clear hr0
        refine awp_seq fun K5 hK5 => ?_
        replace h := bind_some h
        obtain ⟨y_2, hr0, h⟩ := h
        try dsimp only at h
        replace h := bind_some h
        obtain ⟨y_3, hr1, h⟩ := h
        try dsimp only at h
        refine awp_to [(3, .sl 1), (4, .sl 2), (19, .v (.bool (!y_3)))] [.row false (.ints .u8 a0), .row true (.ints .i64 y), .row true (.intss .i64 y_1), .row true (.intss .i64 y_2)] ?_ ?_
        · clear h
          intro K hK
          refine awp_region ftCOk ?_
          simp (maxSteps := 4000000) only [go_sem, Nat.reduceBEq, Nat.reduceLT, Nat.reduceAdd, Nat.reduceLeDiff, Nat.reduceSub, Nat.reduceEqDiff, Int.reduceToNat, reduceCtorEq, ↓reduceIte]
          repeat' (first | refine And.intro ?_ ?_ | intro hg)
          all_goals (try simp (disch := omega) only [wrap_fits])
          all_goals first
            | (refine hK _ _ ?_; exact Red.auto)
            | exact trivial
            | assumption
            | omega
            | exact wrap_fits (by omega) (by omega)
            | (refine wpA_callA (k_spec_ColorGroups y (h := hr0)) [1] [] ?_
               rintro x Hc' ⟨rfl, rfl⟩ hlen
               refine vcOps_sound ftCOk ?_
               simp (maxSteps := 4000000) only [go_sem, Nat.reduceBEq, Nat.reduceLT, Nat.reduceAdd, Nat.reduceLeDiff, Nat.reduceSub, Nat.reduceEqDiff, Int.reduceToNat, reduceCtorEq, ↓reduceIte]
               repeat' (first | refine And.intro ?_ ?_ | intro hg)
               all_goals (try simp (disch := omega) only [wrap_fits])
               all_goals first
                 | (refine hK _ _ ?_; exact Red.auto)
                 | exact trivial
                 | assumption
                 | omega
                 | exact wrap_fits (by omega) (by omega)
                 | (refine wpA_callA (k_laws_sameRecords y_1 y_2 (h := hr1)) [2, 3] [] ?_
                    rintro x Hc' ⟨rfl, rfl⟩ hlen
                    refine vcOps_sound ftCOk ?_
                    simp (maxSteps := 4000000) only [go_sem, Nat.reduceBEq, Nat.reduceLT, Nat.reduceAdd, Nat.reduceLeDiff, Nat.reduceSub, Nat.reduceEqDiff, Int.reduceToNat, reduceCtorEq, ↓reduceIte]
                    repeat' (first | refine And.intro ?_ ?_ | intro hg)
                    all_goals (try simp (disch := omega) only [wrap_fits])
                    all_goals first
                      | (refine hK _ _ ?_; exact Red.auto)
                      | exact trivial
                      | assumption
                      | omega
                      | exact wrap_fits (by omega) (by omega)
                      | (simp_all; done)
                      | (simp_all; omega))
                 | (simp_all; done)
                 | (simp_all; omega))
            | (simp_all; done)
            | (simp_all; omega)
        · clear hr0 hr1
          refine awp_cond (t := 19) rfl (fun hc6 => ?_) (fun hc6 => ?_)
          · replace h := bite_t h hc6
            refine awp_reg ftCOk [(2, .v (.bool false))] [.row false (.ints .u8 a0), .row true (.ints .i64 y), .row true (.intss .i64 y_1), .row true (.intss .i64 y_2)] ?_
            refine awp_ret ?_
            (try simp only [Thn, InBlk, ↓reduceIte, Nat.reduceEqDiff])
            obtain rfl := Option.some.inj h
            refine ⟨by simp, _, [0], (by simp only [go_sem, Nat.reduceBEq, Nat.reduceLT, Nat.reduceAdd, Nat.reduceLeDiff, Nat.reduceSub, Nat.reduceEqDiff, Int.reduceToNat, reduceCtorEq, ↓reduceIte]; exact rfl), ?_, ?_, ?_, ?_⟩
            · first | exact trivial | exact ⟨trivial, trivial⟩ | exact ⟨trivial, trivial, trivial⟩ | exact ⟨trivial, trivial, trivial, trivial⟩ | (simp only [allP, and_true, true_and]; done) | (simp only [allP, and_true, true_and]; omega)
            · simp [selOk, pos]
            · simp
            · first | exact ⟨rfl, rfl⟩ | (simp only [go_sem, Nat.reduceBEq, Nat.reduceLT, Nat.reduceAdd, Nat.reduceLeDiff, Nat.reduceSub, Nat.reduceEqDiff, Int.reduceToNat, reduceCtorEq, ↓reduceIte]; done) | (simp [go_sem, Nat.reduceBEq, Nat.reduceLT, Nat.reduceAdd, Nat.reduceLeDiff, Nat.reduceSub, Nat.reduceEqDiff, Int.reduceToNat, reduceCtorEq, ↓reduceIte]; done) | (simp only [go_sem, Nat.reduceBEq, Nat.reduceLT, Nat.reduceAdd, Nat.reduceLeDiff, Nat.reduceSub, Nat.reduceEqDiff, Int.reduceToNat, reduceCtorEq, ↓reduceIte]; exact ⟨rfl, rfl⟩) | (simp_all [go_sem, Nat.reduceBEq, Nat.reduceLT, Nat.reduceAdd, Nat.reduceLeDiff, Nat.reduceSub, Nat.reduceEqDiff, Int.reduceToNat, reduceCtorEq, ↓reduceIte]; done)
          · replace h := bite_f h hc6
            refine awp_skip ?_
            (try simp only [Thn, InBlk, ↓reduceIte, Nat.reduceEqDiff])
            refine hK5 _ _ ?_
            clear hK5
            refine awp_seq fun K8 hK8 => ?_
            refine awp_reg ftCOk [(3, .sl 1), (4, .sl 2), (22, .v (.bool ((y_1.length : Int) == 0)))] [.row false (.ints .u8 a0), .row true (.ints .i64 y), .row true (.intss .i64 y_1), .row true (.intss .i64 y_2)] ?_
            refine awp_cond (t := 22) rfl (fun hc9 => ?_) (fun hc9 => ?_)
            · replace h := bite_t h hc9
              replace h := bind_some h
              obtain ⟨y_4, hr0, h⟩ := h
              try dsimp only at h
              refine awp_to [(2, .v (.bool y_4))] [.row false (.ints .u8 a0), .row true (.ints .i64 y), .row true (.intss .i64 y_1), .row true (.intss .i64 y_2)] ?_ ?_
              · clear h
                intro K hK
                refine awp_region ftCOk ?_
                simp (maxSteps := 4000000) only [go_sem, Nat.reduceBEq, Nat.reduceLT, Nat.reduceAdd, Nat.reduceLeDiff, Nat.reduceSub, Nat.reduceEqDiff, Int.reduceToNat, reduceCtorEq, ↓reduceIte]
                repeat' (first | refine And.intro ?_ ?_ | intro hg)
                all_goals (try simp (disch := omega) only [wrap_fits])
                all_goals first
                  | (refine hK _ _ ?_; exact Red.auto)
                  | exact trivial
                  | assumption
                  | omega
                  | exact wrap_fits (by omega) (by omega)
                  | (refine wpA_callA (k_laws_alive  (h := hr0)) [] [] ?_
                     rintro x Hc' ⟨rfl, rfl⟩ hlen
                     refine vcOps_sound ftCOk ?_
                     simp (maxSteps := 4000000) only [go_sem, Nat.reduceBEq, Nat.reduceLT, Nat.reduceAdd, Nat.reduceLeDiff, Nat.reduceSub, Nat.reduceEqDiff, Int.reduceToNat, reduceCtorEq, ↓reduceIte]
                     repeat' (first | refine And.intro ?_ ?_ | intro hg)
                     all_goals (try simp (disch := omega) only [wrap_fits])
                     all_goals first
                       | (refine hK _ _ ?_; exact Red.auto)
                       | exact trivial
                       | assumption
                       | omega
                       | exact wrap_fits (by omega) (by omega)
                       | (simp_all; done)
                       | (simp_all; omega))
                  | (simp_all; done)
                  | (simp_all; omega)
              · clear hr0
                refine awp_ret ?_
                (try simp only [Thn, InBlk, ↓reduceIte, Nat.reduceEqDiff])
                obtain rfl := Option.some.inj h
                refine ⟨by simp, _, [0], (by simp only [go_sem, Nat.reduceBEq, Nat.reduceLT, Nat.reduceAdd, Nat.reduceLeDiff, Nat.reduceSub, Nat.reduceEqDiff, Int.reduceToNat, reduceCtorEq, ↓reduceIte]; exact rfl), ?_, ?_, ?_, ?_⟩
                · first | exact trivial | exact ⟨trivial, trivial⟩ | exact ⟨trivial, trivial, trivial⟩ | exact ⟨trivial, trivial, trivial, trivial⟩ | (simp only [allP, and_true, true_and]; done) | (simp only [allP, and_true, true_and]; omega)
                · simp [selOk, pos]
                · simp
                · first | exact ⟨rfl, rfl⟩ | (simp only [go_sem, Nat.reduceBEq, Nat.reduceLT, Nat.reduceAdd, Nat.reduceLeDiff, Nat.reduceSub, Nat.reduceEqDiff, Int.reduceToNat, reduceCtorEq, ↓reduceIte]; done) | (simp [go_sem, Nat.reduceBEq, Nat.reduceLT, Nat.reduceAdd, Nat.reduceLeDiff, Nat.reduceSub, Nat.reduceEqDiff, Int.reduceToNat, reduceCtorEq, ↓reduceIte]; done) | (simp only [go_sem, Nat.reduceBEq, Nat.reduceLT, Nat.reduceAdd, Nat.reduceLeDiff, Nat.reduceSub, Nat.reduceEqDiff, Int.reduceToNat, reduceCtorEq, ↓reduceIte]; exact ⟨rfl, rfl⟩) | (simp_all [go_sem, Nat.reduceBEq, Nat.reduceLT, Nat.reduceAdd, Nat.reduceLeDiff, Nat.reduceSub, Nat.reduceEqDiff, Int.reduceToNat, reduceCtorEq, ↓reduceIte]; done)
            · replace h := bite_f h hc9
              refine awp_skip ?_
              (try simp only [Thn, InBlk, ↓reduceIte, Nat.reduceEqDiff])
              refine hK8 _ _ ?_
              clear hK8
              refine awp_reg ftCOk [(3, .sl 1), (4, .sl 2), (5, .v (.int .i64 0))] [.row false (.ints .u8 a0), .row true (.ints .i64 y), .row true (.intss .i64 y_1), .row true (.intss .i64 y_2)] ?_
              refine awp_seq fun K215 hK215 => ?_
              refine awp_reg ftCOk [(3, .sl 1), (4, .sl 2), (5, .v (.int .i64 0)), (6, .v (.int .i64 0))] [.row false (.ints .u8 a0), .row true (.ints .i64 y), .row true (.intss .i64 y_1), .row true (.intss .i64 y_2)] ?_
              refine awp_block ?_
              replace h := bind_some h
              obtain ⟨x420, hx, h⟩ := h
              refine awp_loopL hx (fun ((t5, t6) : Int × Int) => [(3, .sl 1), (4, .sl 2), (5, .v (.int .i64 t5)), (6, .v (.int .i64 t6))]) (fun ((t5, t6) : Int × Int) => [.row false (.ints .u8 a0), .row true (.ints .i64 y), .row true (.intss .i64 y_1)]) (Sum.elim (fun (t5_1 : Int) => Exit.exit 0) (fun (_ : Unit) => Exit.ret)) (Sum.elim (fun (t5_1 : Int) => [(3, .sl 1), (5, .v (.int .i64 t5_1))]) (fun (_ : Unit) => [(2, .v (.bool false))])) (Sum.elim (fun (t5_1 : Int) => [.row false (.ints .u8 a0), .row true (.ints .i64 y)]) (fun (_ : Unit) => [.row false (.ints .u8 a0)])) ?_ ?_ ?_ ?_
              · rintro (t5_1 | ⟨⟩) hy <;> cases hy
              · clear h hx
                exact Red.selA [0, 1, 2] Red.auto
              · clear h hx
                rintro ⟨t5, t6⟩ r h
                unfold laws_FnColorGroups_b1 at h
                try dsimp only at h
                try dsimp only
                refine awp_seq fun K353 hK353 => ?_
                refine awp_reg ftCOk [(3, .sl 1), (4, .sl 2), (5, .v (.int .i64 t5)), (6, .v (.int .i64 t6)), (27, .v (.bool (decide (t6 < (y_1.length : Int)))))] [.row false (.ints .u8 a0), .row true (.ints .i64 y), .row true (.intss .i64 y_1)] ?_
                refine awp_cond (t := 27) rfl (fun hc354 => ?_) (fun hc354 => ?_)
                · replace h := bite_t h hc354
                  refine awp_skip ?_
                  (try simp only [Thn, InBlk, ↓reduceIte, Nat.reduceEqDiff])
                  refine hK353 _ _ ?_
                  clear hK353
                  refine awp_seq fun K387 hK387 => ?_
                  refine awp_block ?_
                  replace h := chk_some h
                  obtain ⟨hpt419, h⟩ := h
                  refine awp_take 2 t6.toNat 0 (by rfl) (by exact hpt419) (by rfl) (by exact rfl) ?_
                  clear hpt419
                  replace h := chk_some h
                  obtain ⟨hp0, h⟩ := h
                  replace h := chk_some h
                  obtain ⟨hp1, h⟩ := h
                  refine awp_reg ftCOk [(3, .sl 1), (4, .sl 2), (5, .v (.int .i64 (t5 + ((y_1.getD t6.toNat []).length : Int)))), (6, .v (.int .i64 t6))] [.row false (.ints .u8 a0), .row true (.ints .i64 y), .tak true (.intss .i64 y_1) t6.toNat 0 (some 3), .row true (.ints .i64 (y_1.getD t6.toNat []))] ?_
                  clear hp0 hp1
                  refine awp_put 2 3 (by rfl) (by rfl) (Cont.setChild_self (by rfl)) (by exact rfl) ?_
                  refine awp_reg ftCOk [(3, .sl 1), (4, .sl 2), (5, .v (.int .i64 (t5 + ((y_1.getD t6.toNat []).length : Int)))), (6, .v (.int .i64 t6)), (7, .v (.int .i64 0))] [.row false (.ints .u8 a0), .row true (.ints .i64 y), .row true (.intss .i64 y_1), .view 2 (.ints .i64 (y_1.getD t6.toNat []))] ?_
                  refine awp_block ?_
                  replace h := bind_some h
                  obtain ⟨x418, hx, h⟩ := h
                  refine awp_loopL hx (fun (t7 : Int) => [(3, .sl 1), (4, .sl 2), (5, .v (.int .i64 (t5 + ((y_1.getD t6.toNat []).length : Int)))), (6, .v (.int .i64 t6)), (7, .v (.int .i64 t7))]) (fun (t7 : Int) => [.row false (.ints .u8 a0), .row true (.ints .i64 y), .row true (.intss .i64 y_1)]) (Sum.elim (fun (_ : Unit) => Exit.exit 2) (fun (_ : Unit) => Exit.ret)) (Sum.elim (fun (_ : Unit) => [(3, .sl 1), (4, .sl 2), (5, .v (.int .i64 (t5 + ((y_1.getD t6.toNat []).length : Int)))), (6, .v (.int .i64 t6))]) (fun (_ : Unit) => [(2, .v (.bool false))])) (Sum.elim (fun (_ : Unit) => [.row false (.ints .u8 a0), .row true (.ints .i64 y), .row true (.intss .i64 y_1)]) (fun (_ : Unit) => [.row false (.ints .u8 a0)])) ?_ ?_ ?_ ?_
                  · rintro (⟨⟩ | ⟨⟩) hy <;> cases hy
                  · clear h hx
                    exact Red.selA [0, 1, 2] Red.auto
                  · clear h hx
                    rintro t7 r h
                    unfold laws_FnColorGroups_b0 at h
                    try dsimp only at h
                    try dsimp only
                    refine awp_seq fun K410 hK410 => ?_
                    replace h := chk_some h
                    obtain ⟨hpt417, h⟩ := h
                    refine awp_take 2 t6.toNat 0 (by rfl) (by exact hpt417) (by rfl) (by exact rfl) ?_
                    clear hpt417
                    replace h := chk_some h
                    obtain ⟨hp0, h⟩ := h
                    refine awp_reg ftCOk [(3, .sl 1), (4, .sl 2), (5, .v (.int .i64 (t5 + ((y_1.getD t6.toNat []).length : Int)))), (6, .v (.int .i64 t6)), (7, .v (.int .i64 t7)), (43, .v (.bool (decide (t7 < ((y_1.getD t6.toNat []).length : Int)))))] [.row false (.ints .u8 a0), .row true (.ints .i64 y), .tak true (.intss .i64 y_1) t6.toNat 0 (some 3), .row true (.ints .i64 (y_1.getD t6.toNat []))] ?_
                    clear hp0
                    refine awp_cond (t := 43) rfl (fun hc411 => ?_) (fun hc411 => ?_)
                    · replace h := bite_t h hc411
                      refine awp_skip ?_
                      (try simp only [Thn, InBlk, ↓reduceIte, Nat.reduceEqDiff])
                      refine hK410 _ _ ?_
                      clear hK410
                      refine awp_seq fun K414 hK414 => ?_
                      refine awp_block ?_
                      refine awp_put 2 3 (by rfl) (by rfl) (Cont.setChild_self (by rfl)) (by exact rfl) ?_
                      replace h := chk_some h
                      obtain ⟨hpt416, h⟩ := h
                      refine awp_take 2 t6.toNat 0 (by rfl) (by exact hpt416) (by rfl) (by exact rfl) ?_
                      clear hpt416
                      replace h := chk_some h
                      obtain ⟨hp0, h⟩ := h
                      replace h := chk_some h
                      obtain ⟨hp1, h⟩ := h
                      replace h := chk_some h
                      obtain ⟨hp2, h⟩ := h
                      replace h := chk_some h
                      obtain ⟨hp3, h⟩ := h
                      replace h := chk_some h
                      obtain ⟨hp4, h⟩ := h
                      replace h := chk_some h
                      obtain ⟨hp5, h⟩ := h
                      replace h := chk_some h
                      obtain ⟨hp6, h⟩ := h
                      replace h := chk_some h
                      obtain ⟨hp7, h⟩ := h
                      replace h := chk_some h
                      obtain ⟨hp8, h⟩ := h
                      replace h := chk_some h
                      obtain ⟨hp9, h⟩ := h
                      have hwhp9 := wrap_fits hp9.1 hp9.2
                      replace h := chk_some h
                      obtain ⟨hp10, h⟩ := h
                      refine awp_to [(3, .sl 1), (4, .sl 2), (5, .v (.int .i64 (t5 + ((y_1.getD t6.toNat []).length : Int)))), (6, .v (.int .i64 t6)), (7, .v (.int .i64 t7)), (101, .v (.bool ((((decide (((y_1.getD t6.toNat []).getD t7.toNat 0) < 0)) || (decide ((y.length : Int) ≤ ((y_1.getD t6.toNat []).getD t7.toNat 0)))) || ((y.getD (((y_1.getD t6.toNat []).getD t7.toNat 0).toNat) 0) != t6)) || ((decide (0 < t7)) && (decide (((y_1.getD t6.toNat []).getD t7.toNat 0) ≤ ((y_1.getD t6.toNat []).getD ((t7 - 1).toNat) 0)))))))] [.row false (.ints .u8 a0), .row true (.ints .i64 y), .tak true (.intss .i64 y_1) t6.toNat 0 (some 4), .dead, .row true (.ints .i64 (y_1.getD t6.toNat []))] ?_ ?_
                      · clear h
                        intro K hK
                        refine awp_quietg mixed ftCOk (by kernel_rfl) ?_
                        simp (maxSteps := 4000000) only [go_sem, Nat.reduceBEq, Nat.reduceLT, Nat.reduceAdd, Nat.reduceLeDiff, Nat.reduceSub, Nat.reduceEqDiff, Int.reduceToNat, reduceCtorEq, ↓reduceIte]
                        repeat' (first | refine And.intro ?_ ?_ | intro hg)
                        all_goals (try simp (disch := omega) only [wrap_fits])
                        all_goals first
                          | (refine hK _ _ ?_; exact Red.auto)
                          | exact trivial
                          | assumption
                          | omega
                          | exact wrap_fits (by omega) (by omega)
                          | (have hq := hp2 (by first | assumption | (simp only [*, Bool.false_or, Bool.true_or, Bool.or_false, Bool.or_true, Bool.false_and, Bool.true_and, Bool.and_false, Bool.and_true, Bool.not_true, Bool.not_false, beq_self_eq_true]; done) | (simp_all; done)); omega)
                          | (have hq := hp3 (by first | assumption | (simp only [*, Bool.false_or, Bool.true_or, Bool.or_false, Bool.or_true, Bool.false_and, Bool.true_and, Bool.and_false, Bool.and_true, Bool.not_true, Bool.not_false, beq_self_eq_true]; done) | (simp_all; done)); omega)
                          | (have hq := hp4 (by first | assumption | (simp only [*, Bool.false_or, Bool.true_or, Bool.or_false, Bool.or_true, Bool.false_and, Bool.true_and, Bool.and_false, Bool.and_true, Bool.not_true, Bool.not_false, beq_self_eq_true]; done) | (simp_all; done)); omega)
                          | (have hq := hp5 (by first | assumption | (simp only [*, Bool.false_or, Bool.true_or, Bool.or_false, Bool.or_true, Bool.false_and, Bool.true_and, Bool.and_false, Bool.and_true, Bool.not_true, Bool.not_false, beq_self_eq_true]; done) | (simp_all; done)); omega)
                          | (have hq := hp6 (by first | assumption | (simp only [*, Bool.false_or, Bool.true_or, Bool.or_false, Bool.or_true, Bool.false_and, Bool.true_and, Bool.and_false, Bool.and_true, Bool.not_true, Bool.not_false, beq_self_eq_true]; done) | (simp_all; done)); omega)
                          | (have hq := hp7 (by first | assumption | (simp only [*, Bool.false_or, Bool.true_or, Bool.or_false, Bool.or_true, Bool.false_and, Bool.true_and, Bool.and_false, Bool.and_true, Bool.not_true, Bool.not_false, beq_self_eq_true]; done) | (simp_all; done)) (by first | assumption | (simp only [*, Bool.false_or, Bool.true_or, Bool.or_false, Bool.or_true, Bool.false_and, Bool.true_and, Bool.and_false, Bool.and_true, Bool.not_true, Bool.not_false, beq_self_eq_true]; done) | (simp_all; done)); omega)
                          | (have hq := hp8 (by first | assumption | (simp only [*, Bool.false_or, Bool.true_or, Bool.or_false, Bool.or_true, Bool.false_and, Bool.true_and, Bool.and_false, Bool.and_true, Bool.not_true, Bool.not_false, beq_self_eq_true]; done) | (simp_all; done)) (by first | assumption | (simp only [*, Bool.false_or, Bool.true_or, Bool.or_false, Bool.or_true, Bool.false_and, Bool.true_and, Bool.and_false, Bool.and_true, Bool.not_true, Bool.not_false, beq_self_eq_true]; done) | (simp_all; done)); omega)
                          | (have hq := hp10 (by first | assumption | (simp only [*, Bool.false_or, Bool.true_or, Bool.or_false, Bool.or_true, Bool.false_and, Bool.true_and, Bool.and_false, Bool.and_true, Bool.not_true, Bool.not_false, beq_self_eq_true]; done) | (simp_all; done)) (by first | assumption | (simp only [*, Bool.false_or, Bool.true_or, Bool.or_false, Bool.or_true, Bool.false_and, Bool.true_and, Bool.and_false, Bool.and_true, Bool.not_true, Bool.not_false, beq_self_eq_true]; done) | (simp_all; done)); omega)
                          | (simp_all; done)
                          | (simp_all; omega)
                      · clear hp0 hp1 hp2 hp3 hp4 hp5 hp6 hp7 hp8 hp9 hp10
                        refine awp_cond (t := 101) rfl (fun hc415 => ?_) (fun hc415 => ?_)
                        · replace h := bite_t h hc415
                          refine awp_put 2 4 (by rfl) (by rfl) (Cont.setChild_self (by rfl)) (by exact rfl) ?_
                          refine awp_reg ftCOk [(2, .v (.bool false))] [.row false (.ints .u8 a0), .row true (.ints .i64 y), .row true (.intss .i64 y_1), .dead, .view 2 (.ints .i64 (y_1.getD t6.toNat []))] ?_
                          refine awp_ret ?_
                          (try simp only [Thn, InBlk, ↓reduceIte, Nat.reduceEqDiff])
                          obtain rfl := Option.some.inj h
                          refine LoopQ.out rfl ?_
                          exact Red.selA [0] Red.auto
                        · replace h := bite_f h hc415
                          refine awp_skip ?_
                          (try simp only [Thn, InBlk, ↓reduceIte, Nat.reduceEqDiff])
                          (try simp only [Thn, InBlk, ↓reduceIte, Nat.reduceEqDiff])
                          refine hK414 _ _ ?_
                          clear hK414
                          refine awp_put 2 4 (by rfl) (by rfl) (Cont.setChild_self (by rfl)) (by exact rfl) ?_
                          replace h := chk_some h
                          obtain ⟨hp0, h⟩ := h
                          refine awp_regE ftCOk [(3, .sl 1), (4, .sl 2), (5, .v (.int .i64 (t5 + ((y_1.getD t6.toNat []).length : Int)))), (6, .v (.int .i64 t6)), (7, .v (.int .i64 (t7 + 1)))] [.row false (.ints .u8 a0), .row true (.ints .i64 y), .row true (.intss .i64 y_1), .dead, .view 2 (.ints .i64 (y_1.getD t6.toNat []))] ?_
                          clear hp0
                          obtain rfl := Option.some.inj h
                          refine LoopQ.next ?_
                          exact Red.selA [0, 1, 2] Red.auto
                    · replace h := bite_f h hc411
                      refine awp_exit ?_
                      (try simp only [Thn, InBlk, ↓reduceIte, Nat.reduceEqDiff])
                      obtain rfl := Option.some.inj h
                      refine LoopQ.out rfl ?_
                      refine Red.trans (Red.put 2 3 (by rfl) (by rfl) (Cont.setChild_self (by rfl))) ?_
                      exact Red.selA [0, 1, 2] Red.auto
                  · clear hx
                    rcases x418 with (⟨⟩ | ⟨⟩)
                    · try dsimp only [Sum.elim_inl, Sum.elim_inr] at h
                      try dsimp only [Sum.elim_inl, Sum.elim_inr]
                      (try simp only [Thn, InBlk, ↓reduceIte, Nat.reduceEqDiff])
                      (try simp only [Thn, InBlk, ↓reduceIte, Nat.reduceEqDiff])
                      (try simp only [Thn, InBlk, ↓reduceIte, Nat.reduceEqDiff])
                      (try simp only [Thn, InBlk, ↓reduceIte, Nat.reduceEqDiff])
                      refine hK387 _ _ ?_
                      clear hK387
                      replace h := chk_some h
                      obtain ⟨hp0, h⟩ := h
                      refine awp_regE ftCOk [(3, .sl 1), (4, .sl 2), (5, .v (.int .i64 (t5 + ((y_1.getD t6.toNat []).length : Int)))), (6, .v (.int .i64 (t6 + 1)))] [.row false (.ints .u8 a0), .row true (.ints .i64 y), .row true (.intss .i64 y_1)] ?_
                      clear hp0
                      obtain rfl := Option.some.inj h
                      refine LoopQ.next ?_
                      exact Red.auto
                    · try dsimp only [Sum.elim_inl, Sum.elim_inr] at h
                      try dsimp only [Sum.elim_inl, Sum.elim_inr]
                      (try simp only [Thn, InBlk, ↓reduceIte, Nat.reduceEqDiff])
                      obtain rfl := Option.some.inj h
                      refine LoopQ.out rfl ?_
                      exact Red.auto
                · replace h := bite_f h hc354
                  refine awp_exit ?_
                  (try simp only [Thn, InBlk, ↓reduceIte, Nat.reduceEqDiff])
                  obtain rfl := Option.some.inj h
                  refine LoopQ.out rfl ?_
                  exact Red.selA [0, 1] Red.auto
              · clear hx
                rcases x420 with (t5_1 | ⟨⟩)
                · try dsimp only [Sum.elim_inl, Sum.elim_inr] at h
                  try dsimp only [Sum.elim_inl, Sum.elim_inr]
                  (try simp only [Thn, InBlk, ↓reduceIte, Nat.reduceEqDiff])
                  (try simp only [Thn, InBlk, ↓reduceIte, Nat.reduceEqDiff])
                  (try simp only [Thn, InBlk, ↓reduceIte, Nat.reduceEqDiff])
                  refine hK215 _ _ ?_
                  clear hK215
                  refine awp_reg ftCOk [(2, .v (.bool (t5_1 == (y.length : Int))))] [.row false (.ints .u8 a0), .row true (.ints .i64 y)] ?_
                  refine awp_ret ?_
                  (try simp only [Thn, InBlk, ↓reduceIte, Nat.reduceEqDiff])
                  obtain rfl := Option.some.inj h
                  refine ⟨by simp, _, [0], (by simp only [go_sem, Nat.reduceBEq, Nat.reduceLT, Nat.reduceAdd, Nat.reduceLeDiff, Nat.reduceSub, Nat.reduceEqDiff, Int.reduceToNat, reduceCtorEq, ↓reduceIte]; exact rfl), ?_, ?_, ?_, ?_⟩
                  · first | exact trivial | exact ⟨trivial, trivial⟩ | exact ⟨trivial, trivial, trivial⟩ | exact ⟨trivial, trivial, trivial, trivial⟩ | (simp only [allP, and_true, true_and]; done) | (simp only [allP, and_true, true_and]; omega)
                  · simp [selOk, pos]
                  · simp
                  · first | exact ⟨rfl, rfl⟩ | (simp only [go_sem, Nat.reduceBEq, Nat.reduceLT, Nat.reduceAdd, Nat.reduceLeDiff, Nat.reduceSub, Nat.reduceEqDiff, Int.reduceToNat, reduceCtorEq, ↓reduceIte]; done) | (simp [go_sem, Nat.reduceBEq, Nat.reduceLT, Nat.reduceAdd, Nat.reduceLeDiff, Nat.reduceSub, Nat.reduceEqDiff, Int.reduceToNat, reduceCtorEq, ↓reduceIte]; done) | (simp only [go_sem, Nat.reduceBEq, Nat.reduceLT, Nat.reduceAdd, Nat.reduceLeDiff, Nat.reduceSub, Nat.reduceEqDiff, Int.reduceToNat, reduceCtorEq, ↓reduceIte]; exact ⟨rfl, rfl⟩) | (simp_all [go_sem, Nat.reduceBEq, Nat.reduceLT, Nat.reduceAdd, Nat.reduceLeDiff, Nat.reduceSub, Nat.reduceEqDiff, Int.reduceToNat, reduceCtorEq, ↓reduceIte]; done)
                · try dsimp only [Sum.elim_inl, Sum.elim_inr] at h
                  try dsimp only [Sum.elim_inl, Sum.elim_inr]
                  (try simp only [Thn, InBlk, ↓reduceIte, Nat.reduceEqDiff])
                  obtain rfl := Option.some.inj h
                  refine ⟨by simp, _, [0], (by simp only [go_sem, Nat.reduceBEq, Nat.reduceLT, Nat.reduceAdd, Nat.reduceLeDiff, Nat.reduceSub, Nat.reduceEqDiff, Int.reduceToNat, reduceCtorEq, ↓reduceIte]; exact rfl), ?_, ?_, ?_, ?_⟩
                  · first | exact trivial | exact ⟨trivial, trivial⟩ | exact ⟨trivial, trivial, trivial⟩ | exact ⟨trivial, trivial, trivial, trivial⟩ | (simp only [allP, and_true, true_and]; done) | (simp only [allP, and_true, true_and]; omega)
                  · simp [selOk, pos]
                  · simp
                  · first | exact ⟨rfl, rfl⟩ | (simp only [go_sem, Nat.reduceBEq, Nat.reduceLT, Nat.reduceAdd, Nat.reduceLeDiff, Nat.reduceSub, Nat.reduceEqDiff, Int.reduceToNat, reduceCtorEq, ↓reduceIte]; done) | (simp [go_sem, Nat.reduceBEq, Nat.reduceLT, Nat.reduceAdd, Nat.reduceLeDiff, Nat.reduceSub, Nat.reduceEqDiff, Int.reduceToNat, reduceCtorEq, ↓reduceIte]; done) | (simp only [go_sem, Nat.reduceBEq, Nat.reduceLT, Nat.reduceAdd, Nat.reduceLeDiff, Nat.reduceSub, Nat.reduceEqDiff, Int.reduceToNat, reduceCtorEq, ↓reduceIte]; exact ⟨rfl, rfl⟩) | (simp_all [go_sem, Nat.reduceBEq, Nat.reduceLT, Nat.reduceAdd, Nat.reduceLeDiff, Nat.reduceSub, Nat.reduceEqDiff, Int.reduceToNat, reduceCtorEq, ↓reduceIte]; done)
end Go.Proofs.Ytlpkjcmiohppcaa
