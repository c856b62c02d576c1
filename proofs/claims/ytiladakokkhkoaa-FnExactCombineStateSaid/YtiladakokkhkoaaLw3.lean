/- The code computes the functions that were taken out of it. -/
import Derived.Test.YtiladakokkhkoaaLw2
set_option maxRecDepth 100000
set_option maxHeartbeats 4000000
set_option linter.unusedSimpArgs false
set_option linter.unusedVariables false
namespace Go.Proofs.Ytiladakokkhkoaa
open Go Go.Av
attribute [local irreducible] wpA OpK awp
attribute [local go_sem] frs_nil frs_cons pw8_32 pw16_32 pw24_32 pw27_32 eqAgg eqAggV buildQ placesOf buildCells List.toList_toArray vcQg gfind gfree gput un3_agg unI_int unB_bool unK_int guardU skipV resVs resV vcD_nil vcD_cons vcT_fin vcT_free vcT_one vcT_two opS vcD1 roH roOb ftNone ftAdd oneOrTup AV.detup AV.ren AV.ren2 AV.ren1 pos selH AObj.ren fitAll fit fit1 fit1s matchAll matchOb exIds AObj.excl Env.killp pastH setAll upId AObj.past AObj.back AV.killp AV.killp1 AV.killp2 Nat.sub_self Nat.lt_irrefl Bool.or_self vcOps vcOp vcQs vcQ dstOk quiet eff pcall calleeF plain valsOf ev ofConst argEnv List.lookup Nat.add_eq decide_true decide_false Env.put binV quoC isTwo_2 isTwo_1 isTwo_3 isTwo_4 isTwo_5 isTwo_6 isTwo_7 isTwo_8 isTwo_9 isTwo_10 isTwo_11 isTwo_12 isTwo_13 isTwo_14 isTwo_15 isTwo_16 isTwo_17 isTwo_20 isTwo_24 isTwo_32 isTwo_60 isTwo_64 isTwo_100 isTwo_128 isTwo_256 isTwo_1000 wrapTo unV convV loadQ indexQ callQ builtinQ rd rdI globC AObj.globC partAV isAggD isArrayD addrAdd boxE storeE storeXE storeCE storeGE storeFE storeAE storeHE allocAE buildME appendME lookupQ mapUpE plainVs isIfaceD ifaceQ assertQ List.all_cons aggQ arrD arrL arrL_map arrV makeE makeXE makeNE makeGE buildXE buildNE buildGE nestZero Cont.child Cont.setChild buildSliceE buildFold appendE appendXE appendNE appendGE Cont.setG nestApp appendV promoteH sliceE boundAV subObj asCells Value.oneCell' contZero Cont.sets Cont.app Cont.sub Cont.len Cont.esz Cont.cell Cont.cells Cont.flat AV.det AV.det1 guardV AObj.unview AObj.kill Env.kill AV.kill AV.kill1 AV.kill2 fits64 Option.getD_some Option.getD_none Option.map_some Option.map_none Option.bind_some List.map_cons List.map_nil List.getElem?_cons_zero List.getElem?_cons_succ List.getElem?_nil true_and and_true and_false false_and List.getElem?_toArray List.cons_append List.nil_append List.length_cons List.length_nil List.set_cons_zero List.set_cons_succ List.take_succ_cons List.take_zero List.drop_succ_cons List.drop_zero List.drop_nil List.take_nil List.contains_cons List.contains_nil List.elem_cons List.elem_nil Bool.not_true Bool.not_false Bool.false_eq_true Bool.or_false Bool.or_true Bool.and_true Bool.and_false Bool.true_and Bool.false_and List.all_cons List.all_nil List.size_toArray Nat.lt_add_one Nat.zero_lt_succ Nat.one_ne_zero Nat.zero_ne_one and_self List.replicate_succ List.replicate_zero Int.toNat_natCast Int.toNat_zero Value.cells false_implies true_implies forall_const Thn InBlk Nat.zero_add Nat.add_zero Int.zero_add Ele Env.ren Option.some.injEq AV.v.injEq AV.sl.injEq AV.pp.injEq AV.ep.injEq AV.agg.injEq List.cons.injEq Value.int.injEq Value.bool.injEq Value.string.injEq true_or or_true or_false false_or tsz0 tby0 tz0 Try.underlying0 tsz1 tby1 tz1 Try.underlying1 tsz2 tby2 tz2 Try.underlying2 tsz3 tby3 tz3 Try.underlying3 tsz4 tby4 tz4 Try.underlying4 tsz5 tby5 tz5 Try.underlying5 tsz6 tby6 tz6 Try.underlying6 tsz7 tby7 tz7 Try.underlying7 fo7_0 fo7_1 fo7_2 fo7_3 tsz8 tby8 tz8 Try.underlying8 fo8_0 fo8_1 fo8_2 fo8_3 tsz9 tby9 Try.underlying9 tsz10 tby10 Try.underlying10 tsz12 tby12 tz12 Try.underlying12 tsz16 tby16 tz16 Try.underlying16 tsz17 tby17 tz17 Try.underlying17 tsz20 tby20 tz20 Try.underlying20 tsz21 tby21 tz21 Try.underlying21 tsz22 tby22 tz22 Try.underlying22 peq22 fo22_0 fo22_1 fo22_2 tsz23 tby23 tz23 Try.underlying23 peq23 fo23_0 fo23_1 fo23_2 tsz24 tby24 tz24 Try.underlying24 tsz25 tby25 tz25 Try.underlying25 tsz26 tby26 tz26 Try.underlying26 tsz27 tby27 tz27 Try.underlying27 fo27_0 fo27_1 fo27_2 fo27_3 tsz28 tby28 tz28 Try.underlying28 fo28_0 fo28_1 fo28_2 fo28_3 tsz30 tby30 tz30 Try.underlying30 tsz31 tby31 tz31 Try.underlying31 fo31_0 fo31_1 fo31_2 fo31_3 tsz32 tby32 tz32 Try.underlying32 fo32_0 fo32_1 fo32_2 fo32_3 tsz34 tby34 tz34 Try.underlying34 peq34 fo34_0 fo34_1 fo34_2 tsz40 tby40 tz40 Try.underlying40 tsz44 tby44 tz44 Try.underlying44 tsz56 tby56 tz56 Try.underlying56 tsz58 tby58 tz58 Try.underlying58 peq58 fo58_0 fo58_1 fo58_2 tsz59 tby59 tz59 Try.underlying59 peq59 fo59_0 fo59_1 fo59_2 tsz63 tby63 tz63 Try.underlying63 peq63 fo63_0 fo63_1 fo63_2 tsz67 tby67 tz67 Try.underlying67 tsz70 tby70 tz70 Try.underlying70 tsz74 tby74 tz74 Try.underlying74 tsz79 tby79 tz79 Try.underlying79 tsz80 tby80 tz80 Try.underlying80 tsz85 tby85 tz85 Try.underlying85 tsz88 tby88 tz88 Try.underlying88 tsz90 tby90 tz90 Try.underlying90 tsz96 tby96 tz96 Try.underlying96 tsz100 tby100 tz100 Try.underlying100 tsz104 tby104 tz104 Try.underlying104 tsz105 tby105 tz105 Try.underlying105 tsz111 tby111 tz111 Try.underlying111 tsz112 tby112 tz112 Try.underlying112 tsz113 tby113 tz113 Try.underlying113 tsz115 tby115 tz115 Try.underlying115 tsz116 tby116 tz116 Try.underlying116 tsz117 tby117 tz117 Try.underlying117 tsz118 tby118 tz118 Try.underlying118 tsz119 tby119 tz119 Try.underlying119 tsz120 tby120 tz120 Try.underlying120 tsz121 tby121 tz121 Try.underlying121 fo121_0 fo121_1 fo121_2 fo121_3 fo121_4 fo121_5 fo121_6 fo121_7 fo121_8 fo121_9 fo121_10 tsz122 tby122 tz122 Try.underlying122 fo122_0 fo122_1 fo122_2 fo122_3 fo122_4 fo122_5 fo122_6 fo122_7 fo122_8 fo122_9 fo122_10 tsz123 tby123 tz123 Try.underlying123 l1InG isNaNG cmpIntG cmpMsgG ftC
theorem k_impl_leastOnly (a0 : List (Int × Int × Int)) {r : (List (Int × Int × Int))} (h : impl_leastOnly a0 = some r) :
    FnA Try.prog 47 [.sl 0] [.row false (.trips a0)] [] (fun x H => x = .sl 1 ∧ H = [.row false (.trips a0), .row true (.trips r)]) := by
  unfold impl_leastOnly at h
  refine FnA.of (N := 32) (pin := [0]) (rs := [.tmp 2]) Try.func47 rfl en47 rfl rfl (by simp) (by simp; try omega) ?_
  refine awp_reg ftCOk [(0, .sl 0)] [.row false (.trips a0)] ?_
  refine awp_reg ftCOk [(0, .sl 0), (3, .v (.slice none 0 0))] [.row false (.trips a0)] ?_
  refine awp_seq fun K22 hK22 => ?_
  refine awp_reg ftCOk [(0, .sl 0), (3, .v (.slice none 0 0)), (6, .sl 0), (7, .v (.int .i64 (a0.length : Int))), (8, .v (.int .i64 0))] [.row false (.trips a0)] ?_
  refine awp_block ?_
  replace h := bind_some h
  obtain ⟨t3s_1, hx, h⟩ := h
  refine awp_loopL hx (fun ((t8, t3s) : Int × (List (Int × Int × Int))) => [(0, .sl 0), (3, .sl 1), (6, .sl 0), (7, .v (.int .i64 (a0.length : Int))), (8, .v (.int .i64 t8))]) (fun ((t8, t3s) : Int × (List (Int × Int × Int))) => [.row false (.trips a0), .row true (.trips t3s)]) (fun (t3s_1 : List (Int × Int × Int)) => Exit.exit 0) (fun (t3s_1 : List (Int × Int × Int)) => [(3, .sl 1)]) (fun (t3s_1 : List (Int × Int × Int)) => [.row false (.trips a0), .row true (.trips t3s_1)]) ?_ ?_ ?_ ?_
  · rintro t3s_1 hy <;> cases hy
  · clear h hx
    refine Red.trans (Red.nil (t := 3) (.trips []) rfl rfl) ?_
    exact Red.auto
  · clear h hx
    rintro ⟨t8, t3s⟩ r h
    unfold impl_leastOnly_b0 at h
    try dsimp only at h
    try dsimp only
    refine awp_reg ftCOk [(0, .sl 0), (3, .sl 1), (6, .sl 0), (7, .v (.int .i64 (a0.length : Int))), (8, .v (.int .i64 t8)), (9, .v (.bool (decide (t8 < (a0.length : Int)))))] [.row false (.trips a0), .row true (.trips t3s)] ?_
    refine awp_seq fun K39 hK39 => ?_
    refine awp_cond (t := 9) rfl (fun hc40 => ?_) (fun hc40 => ?_)
    · replace h := bite_t h hc40
      refine awp_skip ?_
      (try simp only [Thn, InBlk, ↓reduceIte, Nat.reduceEqDiff])
      refine hK39 _ _ ?_
      clear hK39
      refine awp_join h (fun (t3s_2 : List (Int × Int × Int)) => [(0, .sl 0), (3, .sl 1), (6, .sl 0), (7, .v (.int .i64 (a0.length : Int))), (8, .v (.int .i64 t8))]) (fun (t3s_2 : List (Int × Int × Int)) => [.row false (.trips a0), .row true (.trips t3s_2)]) ?_ ?_
      · clear h
        intro k h
        try dsimp only at h
        refine awp_block ?_
        replace h := chk_some h
        obtain ⟨hp0, h⟩ := h
        refine awp_reg ftCOk [(0, .sl 0), (3, .sl 1), (4, .v (.int .i64 t8)), (5, .pp 2 0), (6, .sl 0), (7, .v (.int .i64 (a0.length : Int))), (8, .v (.int .i64 t8))] [.row false (.trips a0), .row true (.trips t3s), .box [.v (.int .i64 ((a0.getD t8.toNat (0, 0, 0)).1)), .v (.int .i64 ((a0.getD t8.toNat (0, 0, 0)).2.1)), .v (.int .i64 ((a0.getD t8.toNat (0, 0, 0)).2.2))]] ?_
        clear hp0
        replace h := chk_some h
        obtain ⟨hp0, h⟩ := h
        have hwhp0 := wrap_fits hp0.1 hp0.2
        replace h := chk_some h
        obtain ⟨hp1, h⟩ := h
        refine awp_to [(0, .sl 0), (3, .sl 1), (5, .pp 2 0), (6, .sl 0), (7, .v (.int .i64 (a0.length : Int))), (8, .v (.int .i64 t8)), (25, .v (.bool ((t8 == 0) || ((a0.getD ((t8 - 1).toNat) (0, 0, 0)).1 != (a0.getD t8.toNat (0, 0, 0)).1))))] [.row false (.trips a0), .row true (.trips t3s), .box [.v (.int .i64 ((a0.getD t8.toNat (0, 0, 0)).1)), .v (.int .i64 ((a0.getD t8.toNat (0, 0, 0)).2.1)), .v (.int .i64 ((a0.getD t8.toNat (0, 0, 0)).2.2))]] ?_ ?_
        · clear h
          intro K hK
          refine awp_quietg mixed ftCOk (by kernel_rfl) ?_
          simp (maxSteps := 4000000) only [go_sem, Nat.reduceBEq, Nat.reduceLT, Nat.reduceAdd, Nat.reduceLeDiff, Nat.reduceSub, Nat.reduceEqDiff, Int.reduceToNat, reduceCtorEq, ↓reduceIte]
          repeat' (first | refine And.intro ?_ ?_ | intro hg)
          all_goals (try simp (disch := omega) only [wrap_fits])
          all_goals first
            | (refine hK _ _ ?_; exact Red.auto)
            | exact trivial
            | assumption
            | omega
            | exact wrap_fits (by omega) (by omega)
            | (have hq := hp1 (by first | assumption | (simp only [*, Bool.false_or, Bool.true_or, Bool.or_false, Bool.or_true, Bool.false_and, Bool.true_and, Bool.and_false, Bool.and_true, Bool.not_true, Bool.not_false, beq_self_eq_true]; done) | (simp_all; done)); omega)
            | (simp_all; done)
            | (simp_all; omega)
        · clear hp0 hp1
          refine awp_cond (t := 25) rfl (fun hc42 => ?_) (fun hc42 => ?_)
          · replace h := bite_t h hc42
            replace h := chk_some h
            obtain ⟨hp0, h⟩ := h
            refine awp_regE ftCOk [(0, .sl 0), (3, .sl 1), (6, .sl 0), (7, .v (.int .i64 (a0.length : Int))), (8, .v (.int .i64 t8))] [.row false (.trips a0), .row true (.trips (t3s ++ [((a0.getD t8.toNat (0, 0, 0)).1, (a0.getD t8.toNat (0, 0, 0)).2.1, (a0.getD t8.toNat (0, 0, 0)).2.2)])), .box [.v (.int .i64 ((a0.getD t8.toNat (0, 0, 0)).1)), .v (.int .i64 ((a0.getD t8.toNat (0, 0, 0)).2.1)), .v (.int .i64 ((a0.getD t8.toNat (0, 0, 0)).2.2))], .row true (.trips [((a0.getD t8.toNat (0, 0, 0)).1, (a0.getD t8.toNat (0, 0, 0)).2.1, (a0.getD t8.toNat (0, 0, 0)).2.2)])] ?_
            clear hp0
            (try simp only [Thn, InBlk, ↓reduceIte, Nat.reduceEqDiff])
            (try simp only [Thn, InBlk, ↓reduceIte, Nat.reduceEqDiff])
            refine ⟨_, h, ?_⟩
            exact Red.selA [0, 1] Red.auto
          · replace h := bite_f h hc42
            refine awp_skip ?_
            (try simp only [Thn, InBlk, ↓reduceIte, Nat.reduceEqDiff])
            (try simp only [Thn, InBlk, ↓reduceIte, Nat.reduceEqDiff])
            refine ⟨_, h, ?_⟩
            exact Red.selA [0, 1] Red.auto
      · clear h
        rintro t3s_2 h
        try dsimp only at h
        try dsimp only
        replace h := chk_some h
        obtain ⟨hp0, h⟩ := h
        refine awp_regE ftCOk [(0, .sl 0), (3, .sl 1), (6, .sl 0), (7, .v (.int .i64 (a0.length : Int))), (8, .v (.int .i64 (t8 + 1)))] [.row false (.trips a0), .row true (.trips t3s_2)] ?_
        clear hp0
        obtain rfl := Option.some.inj h
        refine LoopQ.next ?_
        exact Red.auto
    · replace h := bite_f h hc40
      refine awp_exit ?_
      (try simp only [Thn, InBlk, ↓reduceIte, Nat.reduceEqDiff])
      obtain rfl := Option.some.inj h
      refine LoopQ.out rfl ?_
      exact Red.auto
  · clear hx
    skip
    · try dsimp only [Sum.elim_inl, Sum.elim_inr] at h
      try dsimp only [Sum.elim_inl, Sum.elim_inr]
      (try simp only [Thn, InBlk, ↓reduceIte, Nat.reduceEqDiff])
      (try simp only [Thn, InBlk, ↓reduceIte, Nat.reduceEqDiff])
      (try simp only [Thn, InBlk, ↓reduceIte, Nat.reduceEqDiff])
      refine hK22 _ _ ?_
      clear hK22
      refine awp_reg ftCOk [(2, .sl 1)] [.row false (.trips a0), .row true (.trips t3s_1)] ?_
      refine awp_ret ?_
      (try simp only [Thn, InBlk, ↓reduceIte, Nat.reduceEqDiff])
      obtain rfl := Option.some.inj h
      refine ⟨by simp, _, [0, 1], (by simp only [go_sem, Nat.reduceBEq, Nat.reduceLT, Nat.reduceAdd, Nat.reduceLeDiff, Nat.reduceSub, Nat.reduceEqDiff, Int.reduceToNat, reduceCtorEq, ↓reduceIte]; exact rfl), ?_, ?_, ?_, ?_⟩
      · exact fin1
      · simp [selOk, pos]
      · simp
      · exact fin4
theorem k_impl_CombineMessages (a0_0 : Int) (a0_1 : Int) (a0_2 : Int) (a1 : List (Int × Int × Int)) {r : (List (Int × Int × Int))} (h : impl_CombineMessages a0_0 a0_1 a0_2 a1 = some r) :
    FnA Try.prog 25 [.agg [.v (.int .i64 a0_0), .v (.int .i64 a0_1), .v (.int .i64 a0_2)], .sl 0] [.row false (.trips a1)] [] (fun x H => x = .sl 1 ∧ H = [.row false (.trips a1), .row true (.trips r)]) := by
  unfold impl_CombineMessages at h
  refine FnA.of (N := 21) (pin := [0]) (rs := [.tmp 4]) Try.func25 rfl en25 rfl rfl (by simp) (by simp; try omega) ?_
  refine awp_reg ftCOk [(1, .sl 0), (2, .pp 1 0)] [.row false (.trips a1), .box [.v (.int .i64 a0_0), .v (.int .i64 a0_1), .v (.int .i64 a0_2)]] ?_
  refine awp_freeze 2 (by rfl) (by rfl) (by exact rfl) ?_
  refine awp_seq fun K2 hK2 => ?_
  replace h := bind_some h
  obtain ⟨y, hr0, h⟩ := h
  try dsimp only at h
  refine awp_to [(1, .sl 0), (2, .pp 1 0), (13, .v (.bool ((!y) || (decide (2000 < (a1.length : Int))))))] [.row false (.trips a1), .rbox [.v (.int .i64 a0_0), .v (.int .i64 a0_1), .v (.int .i64 a0_2)]] ?_ ?_
  · clear h
    intro K hK
    refine awp_region ftCOk ?_
    simp (maxSteps := 4000000) only [go_sem, Nat.reduceBEq, Nat.reduceLT, Nat.reduceAdd, Nat.reduceLeDiff, Nat.reduceSub, Nat.reduceEqDiff, Int.reduceToNat, reduceCtorEq, ↓reduceIte]
    repeat' (first | refine And.intro ?_ ?_ | intro hg)
    all_goals (try simp (disch := omega) only [wrap_fits])
    all_goals first
      | (refine hK _ _ ?_; exact Red.auto)
      | exact trivial
      | assumption
      | omega
      | exact wrap_fits (by omega) (by omega)
      | (refine wpA_callA (k_impl_ProgramValid a0_0 a0_1 a0_2 (h := hr0)) [] [] ?_
         rintro x Hc' ⟨rfl, rfl⟩ hlen
         refine vcOps_sound ftCOk ?_
         simp (maxSteps := 4000000) only [go_sem, Nat.reduceBEq, Nat.reduceLT, Nat.reduceAdd, Nat.reduceLeDiff, Nat.reduceSub, Nat.reduceEqDiff, Int.reduceToNat, reduceCtorEq, ↓reduceIte]
         repeat' (first | refine And.intro ?_ ?_ | intro hg)
         all_goals (try simp (disch := omega) only [wrap_fits])
         all_goals first
           | (refine hK _ _ ?_; exact Red.auto)
           | exact trivial
           | assumption
           | omega
           | exact wrap_fits (by omega) (by omega)
           | (simp_all; done)
           | (simp_all; omega))
      | (simp_all; done)
      | (simp_all; omega)
  · clear hr0
    refine awp_cond (t := 13) rfl (fun hc3 => ?_) (fun hc3 => ?_)
    · replace h := bite_t h hc3
      refine awp_reg ftCOk [(4, .v (.slice none 0 0))] [.row false (.trips a1), .rbox [.v (.int .i64 a0_0), .v (.int .i64 a0_1), .v (.int .i64 a0_2)]] ?_
      refine awp_red (Red.nil (t := 4) (.trips []) rfl rfl) ?_
      refine awp_ret ?_
      (try simp only [Thn, InBlk, ↓reduceIte, Nat.reduceEqDiff])
      obtain rfl := Option.some.inj h
      refine ⟨by simp, _, [0, 2], (by simp only [go_sem, Nat.reduceBEq, Nat.reduceLT, Nat.reduceAdd, Nat.reduceLeDiff, Nat.reduceSub, Nat.reduceEqDiff, Int.reduceToNat, reduceCtorEq, ↓reduceIte]; exact rfl), ?_, ?_, ?_, ?_⟩
      · exact fin1
      · simp [selOk, pos]
      · simp
      · exact fin4
    · replace h := bite_f h hc3
      refine awp_skip ?_
      (try simp only [Thn, InBlk, ↓reduceIte, Nat.reduceEqDiff])
      refine hK2 _ _ ?_
      clear hK2
      replace h := bind_some h
      obtain ⟨y_1, hr0, h⟩ := h
      try dsimp only at h
      refine awp_to [(2, .pp 1 0), (5, .sl 2)] [.row false (.trips a1), .rbox [.v (.int .i64 a0_0), .v (.int .i64 a0_1), .v (.int .i64 a0_2)], .row true (.trips y_1)] ?_ ?_
      · clear h
        intro K hK
        refine awp_region ftCOk ?_
        simp (maxSteps := 4000000) only [go_sem, Nat.reduceBEq, Nat.reduceLT, Nat.reduceAdd, Nat.reduceLeDiff, Nat.reduceSub, Nat.reduceEqDiff, Int.reduceToNat, reduceCtorEq, ↓reduceIte]
        repeat' (first | refine And.intro ?_ ?_ | intro hg)
        all_goals (try simp (disch := omega) only [wrap_fits])
        all_goals first
          | (refine hK _ _ ?_; exact Red.auto)
          | exact trivial
          | assumption
          | omega
          | exact wrap_fits (by omega) (by omega)
          | (refine wpA_callA (k_impl_inOrder a1 (h := hr0)) [0] [] ?_
             rintro x Hc' ⟨rfl, rfl⟩ hlen
             refine vcOps_sound ftCOk ?_
             simp (maxSteps := 4000000) only [go_sem, Nat.reduceBEq, Nat.reduceLT, Nat.reduceAdd, Nat.reduceLeDiff, Nat.reduceSub, Nat.reduceEqDiff, Int.reduceToNat, reduceCtorEq, ↓reduceIte]
             repeat' (first | refine And.intro ?_ ?_ | intro hg)
             all_goals (try simp (disch := omega) only [wrap_fits])
             all_goals first
               | (refine hK _ _ ?_; exact Red.auto)
               | exact trivial
               | assumption
               | omega
               | exact wrap_fits (by omega) (by omega)
               | (simp_all; done)
               | (simp_all; omega))
          | (simp_all; done)
          | (simp_all; omega)
      · clear hr0
        refine awp_seq fun K5 hK5 => ?_
        replace h := bind_some h
        obtain ⟨y_2, hr0, h⟩ := h
        try dsimp only at h
        refine awp_to [(5, .sl 2), (17, .v (.bool y_2))] [.row false (.trips a1), .rbox [.v (.int .i64 a0_0), .v (.int .i64 a0_1), .v (.int .i64 a0_2)], .row true (.trips y_1)] ?_ ?_
        · clear h
          intro K hK
          refine awp_region ftCOk ?_
          simp (maxSteps := 4000000) only [go_sem, Nat.reduceBEq, Nat.reduceLT, Nat.reduceAdd, Nat.reduceLeDiff, Nat.reduceSub, Nat.reduceEqDiff, Int.reduceToNat, reduceCtorEq, ↓reduceIte]
          repeat' (first | refine And.intro ?_ ?_ | intro hg)
          all_goals (try simp (disch := omega) only [wrap_fits])
          all_goals first
            | (refine hK _ _ ?_; exact Red.auto)
            | exact trivial
            | assumption
            | omega
            | exact wrap_fits (by omega) (by omega)
            | (refine wpA_callA (k_impl_CanCombine a0_0 a0_1 a0_2 (h := hr0)) [] [] ?_
               rintro x Hc' ⟨rfl, rfl⟩ hlen
               refine vcOps_sound ftCOk ?_
               simp (maxSteps := 4000000) only [go_sem, Nat.reduceBEq, Nat.reduceLT, Nat.reduceAdd, Nat.reduceLeDiff, Nat.reduceSub, Nat.reduceEqDiff, Int.reduceToNat, reduceCtorEq, ↓reduceIte]
               repeat' (first | refine And.intro ?_ ?_ | intro hg)
               all_goals (try simp (disch := omega) only [wrap_fits])
               all_goals first
                 | (refine hK _ _ ?_; exact Red.auto)
                 | exact trivial
                 | assumption
                 | omega
                 | exact wrap_fits (by omega) (by omega)
                 | (simp_all; done)
                 | (simp_all; omega))
            | (simp_all; done)
            | (simp_all; omega)
        · clear hr0
          refine awp_cond (t := 17) rfl (fun hc6 => ?_) (fun hc6 => ?_)
          · replace h := bite_t h hc6
            replace h := bind_some h
            obtain ⟨y_3, hr0, h⟩ := h
            try dsimp only at h
            refine awp_to [(4, .sl 3)] [.row false (.trips a1), .rbox [.v (.int .i64 a0_0), .v (.int .i64 a0_1), .v (.int .i64 a0_2)], .row true (.trips y_1), .row true (.trips y_3)] ?_ ?_
            · clear h
              intro K hK
              refine awp_region ftCOk ?_
              simp (maxSteps := 4000000) only [go_sem, Nat.reduceBEq, Nat.reduceLT, Nat.reduceAdd, Nat.reduceLeDiff, Nat.reduceSub, Nat.reduceEqDiff, Int.reduceToNat, reduceCtorEq, ↓reduceIte]
              repeat' (first | refine And.intro ?_ ?_ | intro hg)
              all_goals (try simp (disch := omega) only [wrap_fits])
              all_goals first
                | (refine hK _ _ ?_; exact Red.auto)
                | exact trivial
                | assumption
                | omega
                | exact wrap_fits (by omega) (by omega)
                | (refine wpA_callA (k_impl_leastOnly y_1 (h := hr0)) [2] [] ?_
                   rintro x Hc' ⟨rfl, rfl⟩ hlen
                   refine vcOps_sound ftCOk ?_
                   simp (maxSteps := 4000000) only [go_sem, Nat.reduceBEq, Nat.reduceLT, Nat.reduceAdd, Nat.reduceLeDiff, Nat.reduceSub, Nat.reduceEqDiff, Int.reduceToNat, reduceCtorEq, ↓reduceIte]
                   repeat' (first | refine And.intro ?_ ?_ | intro hg)
                   all_goals (try simp (disch := omega) only [wrap_fits])
                   all_goals first
                     | (refine hK _ _ ?_; exact Red.auto)
                     | exact trivial
                     | assumption
                     | omega
                     | exact wrap_fits (by omega) (by omega)
                     | (simp_all; done)
                     | (simp_all; omega))
                | (simp_all; done)
                | (simp_all; omega)
            · clear hr0
              refine awp_ret ?_
              (try simp only [Thn, InBlk, ↓reduceIte, Nat.reduceEqDiff])
              obtain rfl := Option.some.inj h
              refine ⟨by simp, _, [0, 3], (by simp only [go_sem, Nat.reduceBEq, Nat.reduceLT, Nat.reduceAdd, Nat.reduceLeDiff, Nat.reduceSub, Nat.reduceEqDiff, Int.reduceToNat, reduceCtorEq, ↓reduceIte]; exact rfl), ?_, ?_, ?_, ?_⟩
              · exact fin1
              · simp [selOk, pos]
              · simp
              · exact fin4
          · replace h := bite_f h hc6
            refine awp_skip ?_
            (try simp only [Thn, InBlk, ↓reduceIte, Nat.reduceEqDiff])
            refine hK5 _ _ ?_
            clear hK5
            refine awp_reg ftCOk [(4, .sl 2)] [.row false (.trips a1), .rbox [.v (.int .i64 a0_0), .v (.int .i64 a0_1), .v (.int .i64 a0_2)], .row true (.trips y_1)] ?_
            refine awp_ret ?_
            (try simp only [Thn, InBlk, ↓reduceIte, Nat.reduceEqDiff])
            obtain rfl := Option.some.inj h
            refine ⟨by simp, _, [0, 2], (by simp only [go_sem, Nat.reduceBEq, Nat.reduceLT, Nat.reduceAdd, Nat.reduceLeDiff, Nat.reduceSub, Nat.reduceEqDiff, Int.reduceToNat, reduceCtorEq, ↓reduceIte]; exact rfl), ?_, ?_, ?_, ?_⟩
            · exact fin1
            · simp [selOk, pos]
            · simp
            · exact fin4
theorem k_impl_CombineState (a0_0 : Int) (a0_1 : Int) (a0_2 : Int) (a1_0 : Int) (a1_1 : List Int) (a1_2 : List Bool) (a1_3 : List (Int × Int × Int)) {r : Int × List Int × List Bool × (List (Int × Int × Int))} (h : impl_CombineState a0_0 a0_1 a0_2 a1_0 a1_1 a1_2 a1_3 = some r) :
    FnA Try.prog 8 [.agg [.v (.int .i64 a0_0), .v (.int .i64 a0_1), .v (.int .i64 a0_2)], .agg [.v (.int .i64 a1_0), .sl 0, .sl 1, .sl 2]] [.row false (.ints .i64 a1_1), .row false (.bools a1_2), .row false (.trips a1_3)] [] (fun x H => x = .agg [.v (.int .i64 r.1), .sl 3, .sl 4, .sl 5] ∧ H = [.row false (.ints .i64 a1_1), .row false (.bools a1_2), .row false (.trips a1_3), .row true (.ints .i64 r.2.1), .row true (.bools r.2.2.1), .row true (.trips r.2.2.2)]) := by
  unfold impl_CombineState at h
  refine FnA.of (N := 23) (pin := [0, 1, 2]) (rs := [.cell 4 32]) Try.func8 rfl en8 rfl rfl (by simp) (by simp; try omega) ?_
  refine awp_reg ftCOk [(2, .pp 3 0), (3, .pp 4 0), (4, .pp 5 0)] [.row false (.ints .i64 a1_1), .row false (.bools a1_2), .row false (.trips a1_3), .box [.v (.int .i64 a0_0), .v (.int .i64 a0_1), .v (.int .i64 a0_2)], .box [.v (.int .i64 a1_0), .sl 0, .sl 1, .sl 2], .box [.v (.int .i64 0), .v (.slice none 0 0), .v (.slice none 0 0), .v (.slice none 0 0)]] ?_
  refine awp_freeze 2 (by rfl) (by rfl) (by exact rfl) ?_
  refine awp_freeze 3 (by rfl) (by rfl) (by exact rfl) ?_
  refine awp_seq fun K2 hK2 => ?_
  replace h := bind_some h
  obtain ⟨y, hr0, h⟩ := h
  try dsimp only at h
  replace h := bind_some h
  obtain ⟨y_1, hr1, h⟩ := h
  try dsimp only at h
  refine awp_to [(2, .pp 3 0), (3, .pp 4 0), (4, .pp 5 0), (13, .v (.bool ((!y) || (!y_1))))] [.row false (.ints .i64 a1_1), .row false (.bools a1_2), .row false (.trips a1_3), .rbox [.v (.int .i64 a0_0), .v (.int .i64 a0_1), .v (.int .i64 a0_2)], .rbox [.v (.int .i64 a1_0), .sl 0, .sl 1, .sl 2], .box [.v (.int .i64 0), .v (.slice none 0 0), .v (.slice none 0 0), .v (.slice none 0 0)]] ?_ ?_
  · clear h
    intro K hK
    refine awp_region ftCOk ?_
    simp (maxSteps := 4000000) only [go_sem, Nat.reduceBEq, Nat.reduceLT, Nat.reduceAdd, Nat.reduceLeDiff, Nat.reduceSub, Nat.reduceEqDiff, Int.reduceToNat, reduceCtorEq, ↓reduceIte]
    repeat' (first | refine And.intro ?_ ?_ | intro hg)
    all_goals (try simp (disch := omega) only [wrap_fits])
    all_goals first
      | (refine hK _ _ ?_; exact Red.auto)
      | exact trivial
      | assumption
      | omega
      | exact wrap_fits (by omega) (by omega)
      | (refine wpA_callA (k_impl_ProgramValid a0_0 a0_1 a0_2 (h := hr0)) [] [] ?_
         rintro x Hc' ⟨rfl, rfl⟩ hlen
         refine vcOps_sound ftCOk ?_
         simp (maxSteps := 4000000) only [go_sem, Nat.reduceBEq, Nat.reduceLT, Nat.reduceAdd, Nat.reduceLeDiff, Nat.reduceSub, Nat.reduceEqDiff, Int.reduceToNat, reduceCtorEq, ↓reduceIte]
         repeat' (first | refine And.intro ?_ ?_ | intro hg)
         all_goals (try simp (disch := omega) only [wrap_fits])
         all_goals first
           | (refine hK _ _ ?_; exact Red.auto)
           | exact trivial
           | assumption
           | omega
           | exact wrap_fits (by omega) (by omega)
           | (refine wpA_guard rfl rfl ?_
              refine wpA_callA (k_impl_State_ownValid a1_0 a1_1 a1_2 a1_3 (h := (bite_t hr1 (by rw [Bool.not_eq_true']; exact (by first | assumption | (simp only [*, Bool.false_or, Bool.true_or, Bool.or_false, Bool.or_true, Bool.false_and, Bool.true_and, Bool.and_false, Bool.and_true, Bool.not_true, Bool.not_false, beq_self_eq_true]; done) | (simp_all; done)))))) [0, 1, 2] [] ?_
              rintro x Hc' ⟨rfl, rfl⟩ hlen
              refine vcOps_sound ftCOk ?_
              simp (maxSteps := 4000000) only [go_sem, Nat.reduceBEq, Nat.reduceLT, Nat.reduceAdd, Nat.reduceLeDiff, Nat.reduceSub, Nat.reduceEqDiff, Int.reduceToNat, reduceCtorEq, ↓reduceIte]
              repeat' (first | refine And.intro ?_ ?_ | intro hg)
              all_goals (try simp (disch := omega) only [wrap_fits])
              all_goals first
                | (refine hK _ _ ?_; exact Red.auto)
                | exact trivial
                | assumption
                | omega
                | exact wrap_fits (by omega) (by omega)
                | (simp_all; done)
                | (simp_all; omega))
           | (simp_all; done)
           | (simp_all; omega))
      | (simp_all; done)
      | (simp_all; omega)
  · clear hr0 hr1
    refine awp_cond (t := 13) rfl (fun hc3 => ?_) (fun hc3 => ?_)
    · replace h := bite_t h hc3
      refine awp_reg ftCOk [(4, .pp 5 0)] [.row false (.ints .i64 a1_1), .row false (.bools a1_2), .row false (.trips a1_3), .rbox [.v (.int .i64 a0_0), .v (.int .i64 a0_1), .v (.int .i64 a0_2)], .rbox [.v (.int .i64 a1_0), .sl 0, .sl 1, .sl 2], .box [.v (.int .i64 0), .v (.slice none 0 0), .v (.slice none 0 0), .v (.slice none 0 0)]] ?_
      refine awp_red (Red.nilCell (o := 5) (i := 1) (.ints .i64 []) rfl rfl rfl) ?_
      refine awp_red (Red.nilCell (o := 5) (i := 2) (.bools []) rfl rfl rfl) ?_
      refine awp_red (Red.nilCell (o := 5) (i := 3) (.trips []) rfl rfl rfl) ?_
      refine awp_ret ?_
      (try simp only [Thn, InBlk, ↓reduceIte, Nat.reduceEqDiff])
      obtain rfl := Option.some.inj h
      refine ⟨by simp, _, [0, 1, 2, 6, 7, 8], (by simp only [go_sem, Nat.reduceBEq, Nat.reduceLT, Nat.reduceAdd, Nat.reduceLeDiff, Nat.reduceSub, Nat.reduceEqDiff, Int.reduceToNat, reduceCtorEq, ↓reduceIte]; exact rfl), ?_, ?_, ?_, ?_⟩
      · exact fin1
      · simp [selOk, pos]
      · simp
      · exact fin4
    · replace h := bite_f h hc3
      refine awp_skip ?_
      (try simp only [Thn, InBlk, ↓reduceIte, Nat.reduceEqDiff])
      refine hK2 _ _ ?_
      clear hK2
      replace h := bind_some h
      obtain ⟨⟨y_2, y_3, y_4, y_5⟩, hr0, h⟩ := h
      try dsimp only at h
      refine awp_to [(2, .pp 3 0), (3, .pp 4 0), (4, .pp 5 0), (5, .pp 9 0)] [.row false (.ints .i64 a1_1), .row false (.bools a1_2), .row false (.trips a1_3), .rbox [.v (.int .i64 a0_0), .v (.int .i64 a0_1), .v (.int .i64 a0_2)], .rbox [.v (.int .i64 a1_0), .sl 0, .sl 1, .sl 2], .box [.v (.int .i64 0), .v (.slice none 0 0), .v (.slice none 0 0), .v (.slice none 0 0)], .row true (.ints .i64 y_3), .row true (.bools y_4), .row true (.trips y_5), .box [.v (.int .i64 y_2), .sl 6, .sl 7, .sl 8]] ?_ ?_
      · clear h
        intro K hK
        refine awp_region ftCOk ?_
        simp (maxSteps := 4000000) only [go_sem, Nat.reduceBEq, Nat.reduceLT, Nat.reduceAdd, Nat.reduceLeDiff, Nat.reduceSub, Nat.reduceEqDiff, Int.reduceToNat, reduceCtorEq, ↓reduceIte]
        repeat' (first | refine And.intro ?_ ?_ | intro hg)
        all_goals (try simp (disch := omega) only [wrap_fits])
        all_goals first
          | (refine hK _ _ ?_; exact Red.auto)
          | exact trivial
          | assumption
          | omega
          | exact wrap_fits (by omega) (by omega)
          | (refine wpA_callA (k_impl_State_copied a1_0 a1_1 a1_2 a1_3 (h := hr0)) [0, 1, 2] [] ?_
             rintro x Hc' ⟨rfl, rfl⟩ hlen
             refine vcOps_sound ftCOk ?_
             simp (maxSteps := 4000000) only [go_sem, Nat.reduceBEq, Nat.reduceLT, Nat.reduceAdd, Nat.reduceLeDiff, Nat.reduceSub, Nat.reduceEqDiff, Int.reduceToNat, reduceCtorEq, ↓reduceIte]
             repeat' (first | refine And.intro ?_ ?_ | intro hg)
             all_goals (try simp (disch := omega) only [wrap_fits])
             all_goals first
               | (refine hK _ _ ?_; exact Red.auto)
               | exact trivial
               | assumption
               | omega
               | exact wrap_fits (by omega) (by omega)
               | (simp_all; done)
               | (simp_all; omega))
          | (simp_all; done)
          | (simp_all; omega)
      · clear hr0
        replace h := bind_some h
        obtain ⟨y_6, hr0, h⟩ := h
        try dsimp only at h
        refine awp_to [(4, .pp 5 0), (5, .pp 9 0)] [.row false (.ints .i64 a1_1), .row false (.bools a1_2), .row false (.trips a1_3), .rbox [.v (.int .i64 a0_0), .v (.int .i64 a0_1), .v (.int .i64 a0_2)], .rbox [.v (.int .i64 a1_0), .sl 0, .sl 1, .sl 2], .box [.v (.int .i64 0), .v (.slice none 0 0), .v (.slice none 0 0), .v (.slice none 0 0)], .row true (.ints .i64 y_3), .row true (.bools y_4), .row true (.trips y_5), .box [.v (.int .i64 y_2), .sl 6, .sl 7, .sl 10], .row true (.trips y_6)] ?_ ?_
        · clear h
          intro K hK
          refine awp_region ftCOk ?_
          simp (maxSteps := 4000000) only [go_sem, Nat.reduceBEq, Nat.reduceLT, Nat.reduceAdd, Nat.reduceLeDiff, Nat.reduceSub, Nat.reduceEqDiff, Int.reduceToNat, reduceCtorEq, ↓reduceIte]
          repeat' (first | refine And.intro ?_ ?_ | intro hg)
          all_goals (try simp (disch := omega) only [wrap_fits])
          all_goals first
            | (refine hK _ _ ?_; exact Red.auto)
            | exact trivial
            | assumption
            | omega
            | exact wrap_fits (by omega) (by omega)
            | (refine wpA_callA (k_impl_CombineMessages a0_0 a0_1 a0_2 a1_3 (h := hr0)) [2] [] ?_
               rintro x Hc' ⟨rfl, rfl⟩ hlen
               refine vcOps_sound ftCOk ?_
               simp (maxSteps := 4000000) only [go_sem, Nat.reduceBEq, Nat.reduceLT, Nat.reduceAdd, Nat.reduceLeDiff, Nat.reduceSub, Nat.reduceEqDiff, Int.reduceToNat, reduceCtorEq, ↓reduceIte]
               repeat' (first | refine And.intro ?_ ?_ | intro hg)
               all_goals (try simp (disch := omega) only [wrap_fits])
               all_goals first
                 | (refine hK _ _ ?_; exact Red.auto)
                 | exact trivial
                 | assumption
                 | omega
                 | exact wrap_fits (by omega) (by omega)
                 | (simp_all; done)
                 | (simp_all; omega))
            | (simp_all; done)
            | (simp_all; omega)
        · clear hr0
          refine awp_reg ftCOk [(4, .pp 5 0)] [.row false (.ints .i64 a1_1), .row false (.bools a1_2), .row false (.trips a1_3), .rbox [.v (.int .i64 a0_0), .v (.int .i64 a0_1), .v (.int .i64 a0_2)], .rbox [.v (.int .i64 a1_0), .sl 0, .sl 1, .sl 2], .box [.v (.int .i64 y_2), .sl 6, .sl 7, .sl 10], .row true (.ints .i64 y_3), .row true (.bools y_4), .row true (.trips y_5), .box [.v (.int .i64 y_2), .sl 6, .sl 7, .sl 10], .row true (.trips y_6)] ?_
          refine awp_ret ?_
          (try simp only [Thn, InBlk, ↓reduceIte, Nat.reduceEqDiff])
          obtain rfl := Option.some.inj h
          refine ⟨by simp, _, [0, 1, 2, 6, 7, 10], (by simp only [go_sem, Nat.reduceBEq, Nat.reduceLT, Nat.reduceAdd, Nat.reduceLeDiff, Nat.reduceSub, Nat.reduceEqDiff, Int.reduceToNat, reduceCtorEq, ↓reduceIte]; exact rfl), ?_, ?_, ?_, ?_⟩
          · exact fin1
          · simp [selOk, pos]
          · simp
          · exact fin4
theorem k_laws_eqIntS (a0 : List Int) (a1 : List Int) {r : Bool} (h : laws_eqIntS a0 a1 = some r) :
    FnA Try.prog 26 [.sl 0, .sl 1] [.row false (.ints .i64 a0), .row false (.ints .i64 a1)] [] (fun x H => x = .v (.bool r) ∧ H = [.row false (.ints .i64 a0), .row false (.ints .i64 a1)]) := by
  unfold laws_eqIntS at h
  refine FnA.of (N := 26) (pin := [0, 1]) (rs := [.tmp 4]) Try.func26 rfl en26 rfl rfl (by simp) (by simp; try omega) ?_
  refine awp_reg ftCOk [(0, .sl 0), (1, .sl 1)] [.row false (.ints .i64 a0), .row false (.ints .i64 a1)] ?_
  refine awp_seq fun K2 hK2 => ?_
  refine awp_reg ftCOk [(0, .sl 0), (1, .sl 1), (10, .v (.bool ((a0.length : Int) != (a1.length : Int))))] [.row false (.ints .i64 a0), .row false (.ints .i64 a1)] ?_
  refine awp_cond (t := 10) rfl (fun hc3 => ?_) (fun hc3 => ?_)
  · replace h := bite_t h hc3
    refine awp_reg ftCOk [(4, .v (.bool false))] [.row false (.ints .i64 a0), .row false (.ints .i64 a1)] ?_
    refine awp_ret ?_
    (try simp only [Thn, InBlk, ↓reduceIte, Nat.reduceEqDiff])
    obtain rfl := Option.some.inj h
    refine ⟨by simp, _, [0, 1], (by simp only [go_sem, Nat.reduceBEq, Nat.reduceLT, Nat.reduceAdd, Nat.reduceLeDiff, Nat.reduceSub, Nat.reduceEqDiff, Int.reduceToNat, reduceCtorEq, ↓reduceIte]; exact rfl), ?_, ?_, ?_, ?_⟩
    · exact fin1
    · simp [selOk, pos]
    · simp
    · exact fin4
  · replace h := bite_f h hc3
    refine awp_skip ?_
    (try simp only [Thn, InBlk, ↓reduceIte, Nat.reduceEqDiff])
    refine hK2 _ _ ?_
    clear hK2
    refine awp_seq fun K23 hK23 => ?_
    refine awp_reg ftCOk [(0, .sl 0), (1, .sl 1), (5, .v (.int .i64 0))] [.row false (.ints .i64 a0), .row false (.ints .i64 a1)] ?_
    refine awp_block ?_
    replace h := bind_some h
    obtain ⟨x42, hx, h⟩ := h
    refine awp_loopL hx (fun (t5 : Int) => [(0, .sl 0), (1, .sl 1), (5, .v (.int .i64 t5))]) (fun (t5 : Int) => [.row false (.ints .i64 a0), .row false (.ints .i64 a1)]) (Sum.elim (fun (_ : Unit) => Exit.exit 0) (fun (_ : Unit) => Exit.ret)) (Sum.elim (fun (_ : Unit) => []) (fun (_ : Unit) => [(4, .v (.bool false))])) (Sum.elim (fun (_ : Unit) => [.row false (.ints .i64 a0), .row false (.ints .i64 a1)]) (fun (_ : Unit) => [.row false (.ints .i64 a0), .row false (.ints .i64 a1)])) ?_ ?_ ?_ ?_
    · rintro (⟨⟩ | ⟨⟩) hy <;> cases hy
    · clear h hx
      exact Red.auto
    · clear h hx
      rintro t5 r h
      unfold laws_eqIntS_b0 at h
      try dsimp only at h
      try dsimp only
      refine awp_seq fun K37 hK37 => ?_
      refine awp_reg ftCOk [(0, .sl 0), (1, .sl 1), (5, .v (.int .i64 t5)), (14, .v (.bool (decide (t5 < (a0.length : Int)))))] [.row false (.ints .i64 a0), .row false (.ints .i64 a1)] ?_
      refine awp_cond (t := 14) rfl (fun hc38 => ?_) (fun hc38 => ?_)
      · replace h := bite_t h hc38
        refine awp_skip ?_
        (try simp only [Thn, InBlk, ↓reduceIte, Nat.reduceEqDiff])
        refine hK37 _ _ ?_
        clear hK37
        refine awp_seq fun K40 hK40 => ?_
        refine awp_block ?_
        replace h := chk_some h
        obtain ⟨hp0, h⟩ := h
        replace h := chk_some h
        obtain ⟨hp1, h⟩ := h
        refine awp_regQ mixed ftCOk [(0, .sl 0), (1, .sl 1), (5, .v (.int .i64 t5)), (25, .v (.bool ((a0.getD t5.toNat 0) != (a1.getD t5.toNat 0))))] [.row false (.ints .i64 a0), .row false (.ints .i64 a1)] ?_
        clear hp0 hp1
        refine awp_cond (t := 25) rfl (fun hc41 => ?_) (fun hc41 => ?_)
        · replace h := bite_t h hc41
          refine awp_reg ftCOk [(4, .v (.bool false))] [.row false (.ints .i64 a0), .row false (.ints .i64 a1)] ?_
          refine awp_ret ?_
          (try simp only [Thn, InBlk, ↓reduceIte, Nat.reduceEqDiff])
          obtain rfl := Option.some.inj h
          refine LoopQ.out rfl ?_
          exact Red.auto
        · replace h := bite_f h hc41
          refine awp_skip ?_
          (try simp only [Thn, InBlk, ↓reduceIte, Nat.reduceEqDiff])
          (try simp only [Thn, InBlk, ↓reduceIte, Nat.reduceEqDiff])
          refine hK40 _ _ ?_
          clear hK40
          replace h := chk_some h
          obtain ⟨hp0, h⟩ := h
          refine awp_regE ftCOk [(0, .sl 0), (1, .sl 1), (5, .v (.int .i64 (t5 + 1)))] [.row false (.ints .i64 a0), .row false (.ints .i64 a1)] ?_
          clear hp0
          obtain rfl := Option.some.inj h
          refine LoopQ.next ?_
          exact Red.auto
      · replace h := bite_f h hc38
        refine awp_exit ?_
        (try simp only [Thn, InBlk, ↓reduceIte, Nat.reduceEqDiff])
        obtain rfl := Option.some.inj h
        refine LoopQ.out rfl ?_
        exact Red.auto
    · clear hx
      rcases x42 with (⟨⟩ | ⟨⟩)
      · try dsimp only [Sum.elim_inl, Sum.elim_inr] at h
        try dsimp only [Sum.elim_inl, Sum.elim_inr]
        (try simp only [Thn, InBlk, ↓reduceIte, Nat.reduceEqDiff])
        (try simp only [Thn, InBlk, ↓reduceIte, Nat.reduceEqDiff])
        (try simp only [Thn, InBlk, ↓reduceIte, Nat.reduceEqDiff])
        refine hK23 _ _ ?_
        clear hK23
        refine awp_reg ftCOk [(4, .v (.bool true))] [.row false (.ints .i64 a0), .row false (.ints .i64 a1)] ?_
        refine awp_ret ?_
        (try simp only [Thn, InBlk, ↓reduceIte, Nat.reduceEqDiff])
        obtain rfl := Option.some.inj h
        refine ⟨by simp, _, [0, 1], (by simp only [go_sem, Nat.reduceBEq, Nat.reduceLT, Nat.reduceAdd, Nat.reduceLeDiff, Nat.reduceSub, Nat.reduceEqDiff, Int.reduceToNat, reduceCtorEq, ↓reduceIte]; exact rfl), ?_, ?_, ?_, ?_⟩
        · exact fin1
        · simp [selOk, pos]
        · simp
        · exact fin4
      · try dsimp only [Sum.elim_inl, Sum.elim_inr] at h
        try dsimp only [Sum.elim_inl, Sum.elim_inr]
        (try simp only [Thn, InBlk, ↓reduceIte, Nat.reduceEqDiff])
        obtain rfl := Option.some.inj h
        refine ⟨by simp, _, [0, 1], (by simp only [go_sem, Nat.reduceBEq, Nat.reduceLT, Nat.reduceAdd, Nat.reduceLeDiff, Nat.reduceSub, Nat.reduceEqDiff, Int.reduceToNat, reduceCtorEq, ↓reduceIte]; exact rfl), ?_, ?_, ?_, ?_⟩
        · exact fin1
        · simp [selOk, pos]
        · simp
        · exact fin4
theorem k_laws_eqBoolS (a0 : List Bool) (a1 : List Bool) {r : Bool} (h : laws_eqBoolS a0 a1 = some r) :
    FnA Try.prog 27 [.sl 0, .sl 1] [.row false (.bools a0), .row false (.bools a1)] [] (fun x H => x = .v (.bool r) ∧ H = [.row false (.bools a0), .row false (.bools a1)]) := by
  unfold laws_eqBoolS at h
  refine FnA.of (N := 26) (pin := [0, 1]) (rs := [.tmp 4]) Try.func27 rfl en27 rfl rfl (by simp) (by simp; try omega) ?_
  refine awp_reg ftCOk [(0, .sl 0), (1, .sl 1)] [.row false (.bools a0), .row false (.bools a1)] ?_
  refine awp_seq fun K2 hK2 => ?_
  refine awp_reg ftCOk [(0, .sl 0), (1, .sl 1), (10, .v (.bool ((a0.length : Int) != (a1.length : Int))))] [.row false (.bools a0), .row false (.bools a1)] ?_
  refine awp_cond (t := 10) rfl (fun hc3 => ?_) (fun hc3 => ?_)
  · replace h := bite_t h hc3
    refine awp_reg ftCOk [(4, .v (.bool false))] [.row false (.bools a0), .row false (.bools a1)] ?_
    refine awp_ret ?_
    (try simp only [Thn, InBlk, ↓reduceIte, Nat.reduceEqDiff])
    obtain rfl := Option.some.inj h
    refine ⟨by simp, _, [0, 1], (by simp only [go_sem, Nat.reduceBEq, Nat.reduceLT, Nat.reduceAdd, Nat.reduceLeDiff, Nat.reduceSub, Nat.reduceEqDiff, Int.reduceToNat, reduceCtorEq, ↓reduceIte]; exact rfl), ?_, ?_, ?_, ?_⟩
    · exact fin1
    · simp [selOk, pos]
    · simp
    · exact fin4
  · replace h := bite_f h hc3
    refine awp_skip ?_
    (try simp only [Thn, InBlk, ↓reduceIte, Nat.reduceEqDiff])
    refine hK2 _ _ ?_
    clear hK2
    refine awp_seq fun K23 hK23 => ?_
    refine awp_reg ftCOk [(0, .sl 0), (1, .sl 1), (5, .v (.int .i64 0))] [.row false (.bools a0), .row false (.bools a1)] ?_
    refine awp_block ?_
    replace h := bind_some h
    obtain ⟨x42, hx, h⟩ := h
    refine awp_loopL hx (fun (t5 : Int) => [(0, .sl 0), (1, .sl 1), (5, .v (.int .i64 t5))]) (fun (t5 : Int) => [.row false (.bools a0), .row false (.bools a1)]) (Sum.elim (fun (_ : Unit) => Exit.exit 0) (fun (_ : Unit) => Exit.ret)) (Sum.elim (fun (_ : Unit) => []) (fun (_ : Unit) => [(4, .v (.bool false))])) (Sum.elim (fun (_ : Unit) => [.row false (.bools a0), .row false (.bools a1)]) (fun (_ : Unit) => [.row false (.bools a0), .row false (.bools a1)])) ?_ ?_ ?_ ?_
    · rintro (⟨⟩ | ⟨⟩) hy <;> cases hy
    · clear h hx
      exact Red.auto
    · clear h hx
      rintro t5 r h
      unfold laws_eqBoolS_b0 at h
      try dsimp only at h
      try dsimp only
      refine awp_seq fun K37 hK37 => ?_
      refine awp_reg ftCOk [(0, .sl 0), (1, .sl 1), (5, .v (.int .i64 t5)), (14, .v (.bool (decide (t5 < (a0.length : Int)))))] [.row false (.bools a0), .row false (.bools a1)] ?_
      refine awp_cond (t := 14) rfl (fun hc38 => ?_) (fun hc38 => ?_)
      · replace h := bite_t h hc38
        refine awp_skip ?_
        (try simp only [Thn, InBlk, ↓reduceIte, Nat.reduceEqDiff])
        refine hK37 _ _ ?_
        clear hK37
        refine awp_seq fun K40 hK40 => ?_
        refine awp_block ?_
        replace h := chk_some h
        obtain ⟨hp0, h⟩ := h
        replace h := chk_some h
        obtain ⟨hp1, h⟩ := h
        refine awp_regQ mixed ftCOk [(0, .sl 0), (1, .sl 1), (5, .v (.int .i64 t5)), (25, .v (.bool (!((a0.getD t5.toNat false) == (a1.getD t5.toNat false)))))] [.row false (.bools a0), .row false (.bools a1)] ?_
        clear hp0 hp1
        refine awp_cond (t := 25) rfl (fun hc41 => ?_) (fun hc41 => ?_)
        · replace h := bite_t h hc41
          refine awp_reg ftCOk [(4, .v (.bool false))] [.row false (.bools a0), .row false (.bools a1)] ?_
          refine awp_ret ?_
          (try simp only [Thn, InBlk, ↓reduceIte, Nat.reduceEqDiff])
          obtain rfl := Option.some.inj h
          refine LoopQ.out rfl ?_
          exact Red.auto
        · replace h := bite_f h hc41
          refine awp_skip ?_
          (try simp only [Thn, InBlk, ↓reduceIte, Nat.reduceEqDiff])
          (try simp only [Thn, InBlk, ↓reduceIte, Nat.reduceEqDiff])
          refine hK40 _ _ ?_
          clear hK40
          replace h := chk_some h
          obtain ⟨hp0, h⟩ := h
          refine awp_regE ftCOk [(0, .sl 0), (1, .sl 1), (5, .v (.int .i64 (t5 + 1)))] [.row false (.bools a0), .row false (.bools a1)] ?_
          clear hp0
          obtain rfl := Option.some.inj h
          refine LoopQ.next ?_
          exact Red.auto
      · replace h := bite_f h hc38
        refine awp_exit ?_
        (try simp only [Thn, InBlk, ↓reduceIte, Nat.reduceEqDiff])
        obtain rfl := Option.some.inj h
        refine LoopQ.out rfl ?_
        exact Red.auto
    · clear hx
      rcases x42 with (⟨⟩ | ⟨⟩)
      · try dsimp only [Sum.elim_inl, Sum.elim_inr] at h
        try dsimp only [Sum.elim_inl, Sum.elim_inr]
        (try simp only [Thn, InBlk, ↓reduceIte, Nat.reduceEqDiff])
        (try simp only [Thn, InBlk, ↓reduceIte, Nat.reduceEqDiff])
        (try simp only [Thn, InBlk, ↓reduceIte, Nat.reduceEqDiff])
        refine hK23 _ _ ?_
        clear hK23
        refine awp_reg ftCOk [(4, .v (.bool true))] [.row false (.bools a0), .row false (.bools a1)] ?_
        refine awp_ret ?_
        (try simp only [Thn, InBlk, ↓reduceIte, Nat.reduceEqDiff])
        obtain rfl := Option.some.inj h
        refine ⟨by simp, _, [0, 1], (by simp only [go_sem, Nat.reduceBEq, Nat.reduceLT, Nat.reduceAdd, Nat.reduceLeDiff, Nat.reduceSub, Nat.reduceEqDiff, Int.reduceToNat, reduceCtorEq, ↓reduceIte]; exact rfl), ?_, ?_, ?_, ?_⟩
        · exact fin1
        · simp [selOk, pos]
        · simp
        · exact fin4
      · try dsimp only [Sum.elim_inl, Sum.elim_inr] at h
        try dsimp only [Sum.elim_inl, Sum.elim_inr]
        (try simp only [Thn, InBlk, ↓reduceIte, Nat.reduceEqDiff])
        obtain rfl := Option.some.inj h
        refine ⟨by simp, _, [0, 1], (by simp only [go_sem, Nat.reduceBEq, Nat.reduceLT, Nat.reduceAdd, Nat.reduceLeDiff, Nat.reduceSub, Nat.reduceEqDiff, Int.reduceToNat, reduceCtorEq, ↓reduceIte]; exact rfl), ?_, ?_, ?_, ?_⟩
        · exact fin1
        · simp [selOk, pos]
        · simp
        · exact fin4
theorem k_laws_eqMessage (a0_0 : Int) (a0_1 : Int) (a0_2 : Int) (a1_0 : Int) (a1_1 : Int) (a1_2 : Int) {r : Bool} (h : laws_eqMessage a0_0 a0_1 a0_2 a1_0 a1_1 a1_2 = some r) :
    FnA Try.prog 48 [.agg [.v (.int .i64 a0_0), .v (.int .i64 a0_1), .v (.int .i64 a0_2)], .agg [.v (.int .i64 a1_0), .v (.int .i64 a1_1), .v (.int .i64 a1_2)]] [] [] (fun x H => x = .v (.bool r) ∧ H = []) := by
  unfold laws_eqMessage at h
  refine FnA.of (N := 20) (pin := []) (rs := [.tmp 4]) Try.func48 rfl en48 rfl rfl (by simp) (by simp; try omega) ?_
  refine awp_reg ftCOk [(2, .pp 0 0), (3, .pp 1 0)] [.box [.v (.int .i64 a0_0), .v (.int .i64 a0_1), .v (.int .i64 a0_2)], .box [.v (.int .i64 a1_0), .v (.int .i64 a1_1), .v (.int .i64 a1_2)]] ?_
  refine awp_freeze 2 (by rfl) (by rfl) (by exact rfl) ?_
  refine awp_freeze 3 (by rfl) (by rfl) (by exact rfl) ?_
  refine awp_seq fun K2 hK2 => ?_
  refine awp_reg ftCOk [(2, .pp 0 0), (3, .pp 1 0), (9, .v (.bool (a0_0 != a1_0)))] [.rbox [.v (.int .i64 a0_0), .v (.int .i64 a0_1), .v (.int .i64 a0_2)], .rbox [.v (.int .i64 a1_0), .v (.int .i64 a1_1), .v (.int .i64 a1_2)]] ?_
  refine awp_cond (t := 9) rfl (fun hc3 => ?_) (fun hc3 => ?_)
  · replace h := bite_t h hc3
    refine awp_reg ftCOk [(4, .v (.bool false))] [.rbox [.v (.int .i64 a0_0), .v (.int .i64 a0_1), .v (.int .i64 a0_2)], .rbox [.v (.int .i64 a1_0), .v (.int .i64 a1_1), .v (.int .i64 a1_2)]] ?_
    refine awp_ret ?_
    (try simp only [Thn, InBlk, ↓reduceIte, Nat.reduceEqDiff])
    obtain rfl := Option.some.inj h
    refine ⟨by simp, _, [], (by simp only [go_sem, Nat.reduceBEq, Nat.reduceLT, Nat.reduceAdd, Nat.reduceLeDiff, Nat.reduceSub, Nat.reduceEqDiff, Int.reduceToNat, reduceCtorEq, ↓reduceIte]; exact rfl), ?_, ?_, ?_, ?_⟩
    · exact fin1
    · simp [selOk, pos]
    · simp
    · exact fin4
  · replace h := bite_f h hc3
    refine awp_skip ?_
    (try simp only [Thn, InBlk, ↓reduceIte, Nat.reduceEqDiff])
    refine hK2 _ _ ?_
    clear hK2
    refine awp_seq fun K5 hK5 => ?_
    refine awp_reg ftCOk [(2, .pp 0 0), (3, .pp 1 0), (14, .v (.bool (a0_1 != a1_1)))] [.rbox [.v (.int .i64 a0_0), .v (.int .i64 a0_1), .v (.int .i64 a0_2)], .rbox [.v (.int .i64 a1_0), .v (.int .i64 a1_1), .v (.int .i64 a1_2)]] ?_
    refine awp_cond (t := 14) rfl (fun hc6 => ?_) (fun hc6 => ?_)
    · replace h := bite_t h hc6
      refine awp_reg ftCOk [(4, .v (.bool false))] [.rbox [.v (.int .i64 a0_0), .v (.int .i64 a0_1), .v (.int .i64 a0_2)], .rbox [.v (.int .i64 a1_0), .v (.int .i64 a1_1), .v (.int .i64 a1_2)]] ?_
      refine awp_ret ?_
      (try simp only [Thn, InBlk, ↓reduceIte, Nat.reduceEqDiff])
      obtain rfl := Option.some.inj h
      refine ⟨by simp, _, [], (by simp only [go_sem, Nat.reduceBEq, Nat.reduceLT, Nat.reduceAdd, Nat.reduceLeDiff, Nat.reduceSub, Nat.reduceEqDiff, Int.reduceToNat, reduceCtorEq, ↓reduceIte]; exact rfl), ?_, ?_, ?_, ?_⟩
      · exact fin1
      · simp [selOk, pos]
      · simp
      · exact fin4
    · replace h := bite_f h hc6
      refine awp_skip ?_
      (try simp only [Thn, InBlk, ↓reduceIte, Nat.reduceEqDiff])
      refine hK5 _ _ ?_
      clear hK5
      refine awp_seq fun K8 hK8 => ?_
      refine awp_reg ftCOk [(19, .v (.bool (a0_2 != a1_2)))] [.rbox [.v (.int .i64 a0_0), .v (.int .i64 a0_1), .v (.int .i64 a0_2)], .rbox [.v (.int .i64 a1_0), .v (.int .i64 a1_1), .v (.int .i64 a1_2)]] ?_
      refine awp_cond (t := 19) rfl (fun hc9 => ?_) (fun hc9 => ?_)
      · replace h := bite_t h hc9
        refine awp_reg ftCOk [(4, .v (.bool false))] [.rbox [.v (.int .i64 a0_0), .v (.int .i64 a0_1), .v (.int .i64 a0_2)], .rbox [.v (.int .i64 a1_0), .v (.int .i64 a1_1), .v (.int .i64 a1_2)]] ?_
        refine awp_ret ?_
        (try simp only [Thn, InBlk, ↓reduceIte, Nat.reduceEqDiff])
        obtain rfl := Option.some.inj h
        refine ⟨by simp, _, [], (by simp only [go_sem, Nat.reduceBEq, Nat.reduceLT, Nat.reduceAdd, Nat.reduceLeDiff, Nat.reduceSub, Nat.reduceEqDiff, Int.reduceToNat, reduceCtorEq, ↓reduceIte]; exact rfl), ?_, ?_, ?_, ?_⟩
        · exact fin1
        · simp [selOk, pos]
        · simp
        · exact fin4
      · replace h := bite_f h hc9
        refine awp_skip ?_
        (try simp only [Thn, InBlk, ↓reduceIte, Nat.reduceEqDiff])
        refine hK8 _ _ ?_
        clear hK8
        refine awp_reg ftCOk [(4, .v (.bool true))] [.rbox [.v (.int .i64 a0_0), .v (.int .i64 a0_1), .v (.int .i64 a0_2)], .rbox [.v (.int .i64 a1_0), .v (.int .i64 a1_1), .v (.int .i64 a1_2)]] ?_
        refine awp_ret ?_
        (try simp only [Thn, InBlk, ↓reduceIte, Nat.reduceEqDiff])
        obtain rfl := Option.some.inj h
        refine ⟨by simp, _, [], (by simp only [go_sem, Nat.reduceBEq, Nat.reduceLT, Nat.reduceAdd, Nat.reduceLeDiff, Nat.reduceSub, Nat.reduceEqDiff, Int.reduceToNat, reduceCtorEq, ↓reduceIte]; exact rfl), ?_, ?_, ?_, ?_⟩
        · exact fin1
        · simp [selOk, pos]
        · simp
        · exact fin4
theorem k_laws_eqMessageS (a0 : List (Int × Int × Int)) (a1 : List (Int × Int × Int)) {r : Bool} (h : laws_eqMessageS a0 a1 = some r) :
    FnA Try.prog 28 [.sl 0, .sl 1] [.row false (.trips a0), .row false (.trips a1)] [] (fun x H => x = .v (.bool r) ∧ H = [.row false (.trips a0), .row false (.trips a1)]) := by
  unfold laws_eqMessageS at h
  refine FnA.of (N := 27) (pin := [0, 1]) (rs := [.tmp 4]) Try.func28 rfl en28 rfl rfl (by simp) (by simp; try omega) ?_
  refine awp_reg ftCOk [(0, .sl 0), (1, .sl 1)] [.row false (.trips a0), .row false (.trips a1)] ?_
  refine awp_seq fun K2 hK2 => ?_
  refine awp_reg ftCOk [(0, .sl 0), (1, .sl 1), (10, .v (.bool ((a0.length : Int) != (a1.length : Int))))] [.row false (.trips a0), .row false (.trips a1)] ?_
  refine awp_cond (t := 10) rfl (fun hc3 => ?_) (fun hc3 => ?_)
  · replace h := bite_t h hc3
    refine awp_reg ftCOk [(4, .v (.bool false))] [.row false (.trips a0), .row false (.trips a1)] ?_
    refine awp_ret ?_
    (try simp only [Thn, InBlk, ↓reduceIte, Nat.reduceEqDiff])
    obtain rfl := Option.some.inj h
    refine ⟨by simp, _, [0, 1], (by simp only [go_sem, Nat.reduceBEq, Nat.reduceLT, Nat.reduceAdd, Nat.reduceLeDiff, Nat.reduceSub, Nat.reduceEqDiff, Int.reduceToNat, reduceCtorEq, ↓reduceIte]; exact rfl), ?_, ?_, ?_, ?_⟩
    · exact fin1
    · simp [selOk, pos]
    · simp
    · exact fin4
  · replace h := bite_f h hc3
    refine awp_skip ?_
    (try simp only [Thn, InBlk, ↓reduceIte, Nat.reduceEqDiff])
    refine hK2 _ _ ?_
    clear hK2
    refine awp_seq fun K23 hK23 => ?_
    refine awp_reg ftCOk [(0, .sl 0), (1, .sl 1), (5, .v (.int .i64 0))] [.row false (.trips a0), .row false (.trips a1)] ?_
    refine awp_block ?_
    replace h := bind_some h
    obtain ⟨x42, hx, h⟩ := h
    refine awp_loopL hx (fun (t5 : Int) => [(0, .sl 0), (1, .sl 1), (5, .v (.int .i64 t5))]) (fun (t5 : Int) => [.row false (.trips a0), .row false (.trips a1)]) (Sum.elim (fun (_ : Unit) => Exit.exit 0) (fun (_ : Unit) => Exit.ret)) (Sum.elim (fun (_ : Unit) => []) (fun (_ : Unit) => [(4, .v (.bool false))])) (Sum.elim (fun (_ : Unit) => [.row false (.trips a0), .row false (.trips a1)]) (fun (_ : Unit) => [.row false (.trips a0), .row false (.trips a1)])) ?_ ?_ ?_ ?_
    · rintro (⟨⟩ | ⟨⟩) hy <;> cases hy
    · clear h hx
      exact Red.auto
    · clear h hx
      rintro t5 r h
      unfold laws_eqMessageS_b0 at h
      try dsimp only at h
      try dsimp only
      refine awp_seq fun K37 hK37 => ?_
      refine awp_reg ftCOk [(0, .sl 0), (1, .sl 1), (5, .v (.int .i64 t5)), (14, .v (.bool (decide (t5 < (a0.length : Int)))))] [.row false (.trips a0), .row false (.trips a1)] ?_
      refine awp_cond (t := 14) rfl (fun hc38 => ?_) (fun hc38 => ?_)
      · replace h := bite_t h hc38
        refine awp_skip ?_
        (try simp only [Thn, InBlk, ↓reduceIte, Nat.reduceEqDiff])
        refine hK37 _ _ ?_
        clear hK37
        refine awp_seq fun K40 hK40 => ?_
        refine awp_block ?_
        replace h := chk_some h
        obtain ⟨hp0, h⟩ := h
        replace h := chk_some h
        obtain ⟨hp1, h⟩ := h
        replace h := bind_some h
        obtain ⟨y, hr2, h⟩ := h
        try dsimp only at h
        refine awp_to [(0, .sl 0), (1, .sl 1), (5, .v (.int .i64 t5)), (26, .v (.bool (!y)))] [.row false (.trips a0), .row false (.trips a1)] ?_ ?_
        · clear h
          intro K hK
          refine awp_drawT mixed ftCOk (.free 0 (.free 1 (.free 2 (.free 4 (.free 5 (.free 6 (.free 3 (.one 7 (.one 8 (.one 9 .fin)))))))))) (by kernel_rfl) (by simp) ?_
          simp (maxSteps := 4000000) only [go_sem, Nat.reduceBEq, Nat.reduceLT, Nat.reduceAdd, Nat.reduceLeDiff, Nat.reduceSub, Nat.reduceEqDiff, Int.reduceToNat, reduceCtorEq, ↓reduceIte]
          repeat' (first | refine And.intro ?_ ?_ | intro hg)
          all_goals (try simp (disch := omega) only [wrap_fits])
          all_goals first
            | (refine hK _ _ ?_; exact Red.auto)
            | exact trivial
            | assumption
            | omega
            | exact wrap_fits (by omega) (by omega)
            | (refine OpK_callA (k_laws_eqMessage ((a0.getD t5.toNat (0, 0, 0)).1) ((a0.getD t5.toNat (0, 0, 0)).2.1) ((a0.getD t5.toNat (0, 0, 0)).2.2) ((a1.getD t5.toNat (0, 0, 0)).1) ((a1.getD t5.toNat (0, 0, 0)).2.1) ((a1.getD t5.toNat (0, 0, 0)).2.2) (h := hr2)) [] [] ?_
               rintro x Hc' ⟨rfl, rfl⟩ hlen
               simp (maxSteps := 4000000) only [go_sem, Nat.reduceBEq, Nat.reduceLT, Nat.reduceAdd, Nat.reduceLeDiff, Nat.reduceSub, Nat.reduceEqDiff, Int.reduceToNat, reduceCtorEq, ↓reduceIte]
               repeat' (first | refine And.intro ?_ ?_ | intro hg)
               all_goals (try simp (disch := omega) only [wrap_fits])
               all_goals first
                 | (refine hK _ _ ?_; exact Red.auto)
                 | exact trivial
                 | assumption
                 | omega
                 | exact wrap_fits (by omega) (by omega)
                 | (simp (maxSteps := 4000000) only [go_sem, Nat.reduceBEq, Nat.reduceLT, Nat.reduceAdd, Nat.reduceLeDiff, Nat.reduceSub, Nat.reduceEqDiff, Int.reduceToNat, reduceCtorEq, ↓reduceIte]
                    repeat' (first | refine And.intro ?_ ?_ | intro hg)
                    all_goals (try simp (disch := omega) only [wrap_fits])
                    all_goals first | (refine hK _ _ ?_; exact Red.auto) | exact trivial | assumption | omega | exact wrap_fits (by omega) (by omega))
                 | (simp_all; done)
                 | (simp_all; omega))
            | (simp_all; done)
            | (simp_all; omega)
        · clear hp0 hp1 hr2
          refine awp_cond (t := 26) rfl (fun hc41 => ?_) (fun hc41 => ?_)
          · replace h := bite_t h hc41
            refine awp_reg ftCOk [(4, .v (.bool false))] [.row false (.trips a0), .row false (.trips a1)] ?_
            refine awp_ret ?_
            (try simp only [Thn, InBlk, ↓reduceIte, Nat.reduceEqDiff])
            obtain rfl := Option.some.inj h
            refine LoopQ.out rfl ?_
            exact Red.auto
          · replace h := bite_f h hc41
            refine awp_skip ?_
            (try simp only [Thn, InBlk, ↓reduceIte, Nat.reduceEqDiff])
            (try simp only [Thn, InBlk, ↓reduceIte, Nat.reduceEqDiff])
            refine hK40 _ _ ?_
            clear hK40
            replace h := chk_some h
            obtain ⟨hp0, h⟩ := h
            refine awp_regE ftCOk [(0, .sl 0), (1, .sl 1), (5, .v (.int .i64 (t5 + 1)))] [.row false (.trips a0), .row false (.trips a1)] ?_
            clear hp0
            obtain rfl := Option.some.inj h
            refine LoopQ.next ?_
            exact Red.auto
      · replace h := bite_f h hc38
        refine awp_exit ?_
        (try simp only [Thn, InBlk, ↓reduceIte, Nat.reduceEqDiff])
        obtain rfl := Option.some.inj h
        refine LoopQ.out rfl ?_
        exact Red.auto
    · clear hx
      rcases x42 with (⟨⟩ | ⟨⟩)
      · try dsimp only [Sum.elim_inl, Sum.elim_inr] at h
        try dsimp only [Sum.elim_inl, Sum.elim_inr]
        (try simp only [Thn, InBlk, ↓reduceIte, Nat.reduceEqDiff])
        (try simp only [Thn, InBlk, ↓reduceIte, Nat.reduceEqDiff])
        (try simp only [Thn, InBlk, ↓reduceIte, Nat.reduceEqDiff])
        refine hK23 _ _ ?_
        clear hK23
        refine awp_reg ftCOk [(4, .v (.bool true))] [.row false (.trips a0), .row false (.trips a1)] ?_
        refine awp_ret ?_
        (try simp only [Thn, InBlk, ↓reduceIte, Nat.reduceEqDiff])
        obtain rfl := Option.some.inj h
        refine ⟨by simp, _, [0, 1], (by simp only [go_sem, Nat.reduceBEq, Nat.reduceLT, Nat.reduceAdd, Nat.reduceLeDiff, Nat.reduceSub, Nat.reduceEqDiff, Int.reduceToNat, reduceCtorEq, ↓reduceIte]; exact rfl), ?_, ?_, ?_, ?_⟩
        · exact fin1
        · simp [selOk, pos]
        · simp
        · exact fin4
      · try dsimp only [Sum.elim_inl, Sum.elim_inr] at h
        try dsimp only [Sum.elim_inl, Sum.elim_inr]
        (try simp only [Thn, InBlk, ↓reduceIte, Nat.reduceEqDiff])
        obtain rfl := Option.some.inj h
        refine ⟨by simp, _, [0, 1], (by simp only [go_sem, Nat.reduceBEq, Nat.reduceLT, Nat.reduceAdd, Nat.reduceLeDiff, Nat.reduceSub, Nat.reduceEqDiff, Int.reduceToNat, reduceCtorEq, ↓reduceIte]; exact rfl), ?_, ?_, ?_, ?_⟩
        · exact fin1
        · simp [selOk, pos]
        · simp
        · exact fin4
theorem k_laws_eqState (a0_0 : Int) (a0_1 : List Int) (a0_2 : List Bool) (a0_3 : List (Int × Int × Int)) (a1_0 : Int) (a1_1 : List Int) (a1_2 : List Bool) (a1_3 : List (Int × Int × Int)) {r : Bool} (h : laws_eqState a0_0 a0_1 a0_2 a0_3 a1_0 a1_1 a1_2 a1_3 = some r) :
    FnA Try.prog 9 [.agg [.v (.int .i64 a0_0), .sl 0, .sl 1, .sl 2], .agg [.v (.int .i64 a1_0), .sl 3, .sl 4, .sl 5]] [.row false (.ints .i64 a0_1), .row false (.bools a0_2), .row false (.trips a0_3), .row false (.ints .i64 a1_1), .row false (.bools a1_2), .row false (.trips a1_3)] [] (fun x H => x = .v (.bool r) ∧ H = [.row false (.ints .i64 a0_1), .row false (.bools a0_2), .row false (.trips a0_3), .row false (.ints .i64 a1_1), .row false (.bools a1_2), .row false (.trips a1_3)]) := by
  unfold laws_eqState at h
  refine FnA.of (N := 28) (pin := [0, 1, 2, 3, 4, 5]) (rs := [.tmp 4]) Try.func9 rfl en9 rfl rfl (by simp) (by simp; try omega) ?_
  refine awp_reg ftCOk [(2, .pp 6 0), (3, .pp 7 0)] [.row false (.ints .i64 a0_1), .row false (.bools a0_2), .row false (.trips a0_3), .row false (.ints .i64 a1_1), .row false (.bools a1_2), .row false (.trips a1_3), .box [.v (.int .i64 a0_0), .sl 0, .sl 1, .sl 2], .box [.v (.int .i64 a1_0), .sl 3, .sl 4, .sl 5]] ?_
  refine awp_freeze 2 (by rfl) (by rfl) (by exact rfl) ?_
  refine awp_freeze 3 (by rfl) (by rfl) (by exact rfl) ?_
  refine awp_seq fun K2 hK2 => ?_
  refine awp_reg ftCOk [(2, .pp 6 0), (3, .pp 7 0), (9, .v (.bool (a0_0 != a1_0)))] [.row false (.ints .i64 a0_1), .row false (.bools a0_2), .row false (.trips a0_3), .row false (.ints .i64 a1_1), .row false (.bools a1_2), .row false (.trips a1_3), .rbox [.v (.int .i64 a0_0), .sl 0, .sl 1, .sl 2], .rbox [.v (.int .i64 a1_0), .sl 3, .sl 4, .sl 5]] ?_
  refine awp_cond (t := 9) rfl (fun hc3 => ?_) (fun hc3 => ?_)
  · replace h := bite_t h hc3
    refine awp_reg ftCOk [(4, .v (.bool false))] [.row false (.ints .i64 a0_1), .row false (.bools a0_2), .row false (.trips a0_3), .row false (.ints .i64 a1_1), .row false (.bools a1_2), .row false (.trips a1_3), .rbox [.v (.int .i64 a0_0), .sl 0, .sl 1, .sl 2], .rbox [.v (.int .i64 a1_0), .sl 3, .sl 4, .sl 5]] ?_
    refine awp_ret ?_
    (try simp only [Thn, InBlk, ↓reduceIte, Nat.reduceEqDiff])
    obtain rfl := Option.some.inj h
    refine ⟨by simp, _, [0, 1, 2, 3, 4, 5], (by simp only [go_sem, Nat.reduceBEq, Nat.reduceLT, Nat.reduceAdd, Nat.reduceLeDiff, Nat.reduceSub, Nat.reduceEqDiff, Int.reduceToNat, reduceCtorEq, ↓reduceIte]; exact rfl), ?_, ?_, ?_, ?_⟩
    · exact fin1
    · simp [selOk, pos]
    · simp
    · exact fin4
  · replace h := bite_f h hc3
    refine awp_skip ?_
    (try simp only [Thn, InBlk, ↓reduceIte, Nat.reduceEqDiff])
    refine hK2 _ _ ?_
    clear hK2
    refine awp_seq fun K5 hK5 => ?_
    replace h := bind_some h
    obtain ⟨y, hr0, h⟩ := h
    try dsimp only at h
    refine awp_to [(2, .pp 6 0), (3, .pp 7 0), (15, .v (.bool (!y)))] [.row false (.ints .i64 a0_1), .row false (.bools a0_2), .row false (.trips a0_3), .row false (.ints .i64 a1_1), .row false (.bools a1_2), .row false (.trips a1_3), .rbox [.v (.int .i64 a0_0), .sl 0, .sl 1, .sl 2], .rbox [.v (.int .i64 a1_0), .sl 3, .sl 4, .sl 5]] ?_ ?_
    · clear h
      intro K hK
      refine awp_region ftCOk ?_
      simp (maxSteps := 4000000) only [go_sem, Nat.reduceBEq, Nat.reduceLT, Nat.reduceAdd, Nat.reduceLeDiff, Nat.reduceSub, Nat.reduceEqDiff, Int.reduceToNat, reduceCtorEq, ↓reduceIte]
      repeat' (first | refine And.intro ?_ ?_ | intro hg)
      all_goals (try simp (disch := omega) only [wrap_fits])
      all_goals first
        | (refine hK _ _ ?_; exact Red.auto)
        | exact trivial
        | assumption
        | omega
        | exact wrap_fits (by omega) (by omega)
        | (refine wpA_callA (k_laws_eqIntS a0_1 a1_1 (h := hr0)) [0, 3] [] ?_
           rintro x Hc' ⟨rfl, rfl⟩ hlen
           refine vcOps_sound ftCOk ?_
           simp (maxSteps := 4000000) only [go_sem, Nat.reduceBEq, Nat.reduceLT, Nat.reduceAdd, Nat.reduceLeDiff, Nat.reduceSub, Nat.reduceEqDiff, Int.reduceToNat, reduceCtorEq, ↓reduceIte]
           repeat' (first | refine And.intro ?_ ?_ | intro hg)
           all_goals (try simp (disch := omega) only [wrap_fits])
           all_goals first
             | (refine hK _ _ ?_; exact Red.auto)
             | exact trivial
             | assumption
             | omega
             | exact wrap_fits (by omega) (by omega)
             | (simp_all; done)
             | (simp_all; omega))
        | (simp_all; done)
        | (simp_all; omega)
    · clear hr0
      refine awp_cond (t := 15) rfl (fun hc6 => ?_) (fun hc6 => ?_)
      · replace h := bite_t h hc6
        refine awp_reg ftCOk [(4, .v (.bool false))] [.row false (.ints .i64 a0_1), .row false (.bools a0_2), .row false (.trips a0_3), .row false (.ints .i64 a1_1), .row false (.bools a1_2), .row false (.trips a1_3), .rbox [.v (.int .i64 a0_0), .sl 0, .sl 1, .sl 2], .rbox [.v (.int .i64 a1_0), .sl 3, .sl 4, .sl 5]] ?_
        refine awp_ret ?_
        (try simp only [Thn, InBlk, ↓reduceIte, Nat.reduceEqDiff])
        obtain rfl := Option.some.inj h
        refine ⟨by simp, _, [0, 1, 2, 3, 4, 5], (by simp only [go_sem, Nat.reduceBEq, Nat.reduceLT, Nat.reduceAdd, Nat.reduceLeDiff, Nat.reduceSub, Nat.reduceEqDiff, Int.reduceToNat, reduceCtorEq, ↓reduceIte]; exact rfl), ?_, ?_, ?_, ?_⟩
        · exact fin1
        · simp [selOk, pos]
        · simp
        · exact fin4
      · replace h := bite_f h hc6
        refine awp_skip ?_
        (try simp only [Thn, InBlk, ↓reduceIte, Nat.reduceEqDiff])
        refine hK5 _ _ ?_
        clear hK5
        refine awp_seq fun K8 hK8 => ?_
        replace h := bind_some h
        obtain ⟨y_1, hr0, h⟩ := h
        try dsimp only at h
        refine awp_to [(2, .pp 6 0), (3, .pp 7 0), (21, .v (.bool (!y_1)))] [.row false (.ints .i64 a0_1), .row false (.bools a0_2), .row false (.trips a0_3), .row false (.ints .i64 a1_1), .row false (.bools a1_2), .row false (.trips a1_3), .rbox [.v (.int .i64 a0_0), .sl 0, .sl 1, .sl 2], .rbox [.v (.int .i64 a1_0), .sl 3, .sl 4, .sl 5]] ?_ ?_
        · clear h
          intro K hK
          refine awp_region ftCOk ?_
          simp (maxSteps := 4000000) only [go_sem, Nat.reduceBEq, Nat.reduceLT, Nat.reduceAdd, Nat.reduceLeDiff, Nat.reduceSub, Nat.reduceEqDiff, Int.reduceToNat, reduceCtorEq, ↓reduceIte]
          repeat' (first | refine And.intro ?_ ?_ | intro hg)
          all_goals (try simp (disch := omega) only [wrap_fits])
          all_goals first
            | (refine hK _ _ ?_; exact Red.auto)
            | exact trivial
            | assumption
            | omega
            | exact wrap_fits (by omega) (by omega)
            | (refine wpA_callA (k_laws_eqBoolS a0_2 a1_2 (h := hr0)) [1, 4] [] ?_
               rintro x Hc' ⟨rfl, rfl⟩ hlen
               refine vcOps_sound ftCOk ?_
               simp (maxSteps := 4000000) only [go_sem, Nat.reduceBEq, Nat.reduceLT, Nat.reduceAdd, Nat.reduceLeDiff, Nat.reduceSub, Nat.reduceEqDiff, Int.reduceToNat, reduceCtorEq, ↓reduceIte]
               repeat' (first | refine And.intro ?_ ?_ | intro hg)
               all_goals (try simp (disch := omega) only [wrap_fits])
               all_goals first
                 | (refine hK _ _ ?_; exact Red.auto)
                 | exact trivial
                 | assumption
                 | omega
                 | exact wrap_fits (by omega) (by omega)
                 | (simp_all; done)
                 | (simp_all; omega))
            | (simp_all; done)
            | (simp_all; omega)
        · clear hr0
          refine awp_cond (t := 21) rfl (fun hc9 => ?_) (fun hc9 => ?_)
          · replace h := bite_t h hc9
            refine awp_reg ftCOk [(4, .v (.bool false))] [.row false (.ints .i64 a0_1), .row false (.bools a0_2), .row false (.trips a0_3), .row false (.ints .i64 a1_1), .row false (.bools a1_2), .row false (.trips a1_3), .rbox [.v (.int .i64 a0_0), .sl 0, .sl 1, .sl 2], .rbox [.v (.int .i64 a1_0), .sl 3, .sl 4, .sl 5]] ?_
            refine awp_ret ?_
            (try simp only [Thn, InBlk, ↓reduceIte, Nat.reduceEqDiff])
            obtain rfl := Option.some.inj h
            refine ⟨by simp, _, [0, 1, 2, 3, 4, 5], (by simp only [go_sem, Nat.reduceBEq, Nat.reduceLT, Nat.reduceAdd, Nat.reduceLeDiff, Nat.reduceSub, Nat.reduceEqDiff, Int.reduceToNat, reduceCtorEq, ↓reduceIte]; exact rfl), ?_, ?_, ?_, ?_⟩
            · exact fin1
            · simp [selOk, pos]
            · simp
            · exact fin4
          · replace h := bite_f h hc9
            refine awp_skip ?_
            (try simp only [Thn, InBlk, ↓reduceIte, Nat.reduceEqDiff])
            refine hK8 _ _ ?_
            clear hK8
            refine awp_seq fun K11 hK11 => ?_
            replace h := bind_some h
            obtain ⟨y_2, hr0, h⟩ := h
            try dsimp only at h
            refine awp_to [(27, .v (.bool (!y_2)))] [.row false (.ints .i64 a0_1), .row false (.bools a0_2), .row false (.trips a0_3), .row false (.ints .i64 a1_1), .row false (.bools a1_2), .row false (.trips a1_3), .rbox [.v (.int .i64 a0_0), .sl 0, .sl 1, .sl 2], .rbox [.v (.int .i64 a1_0), .sl 3, .sl 4, .sl 5]] ?_ ?_
            · clear h
              intro K hK
              refine awp_region ftCOk ?_
              simp (maxSteps := 4000000) only [go_sem, Nat.reduceBEq, Nat.reduceLT, Nat.reduceAdd, Nat.reduceLeDiff, Nat.reduceSub, Nat.reduceEqDiff, Int.reduceToNat, reduceCtorEq, ↓reduceIte]
              repeat' (first | refine And.intro ?_ ?_ | intro hg)
              all_goals (try simp (disch := omega) only [wrap_fits])
              all_goals first
                | (refine hK _ _ ?_; exact Red.auto)
                | exact trivial
                | assumption
                | omega
                | exact wrap_fits (by omega) (by omega)
                | (refine wpA_callA (k_laws_eqMessageS a0_3 a1_3 (h := hr0)) [2, 5] [] ?_
                   rintro x Hc' ⟨rfl, rfl⟩ hlen
                   refine vcOps_sound ftCOk ?_
                   simp (maxSteps := 4000000) only [go_sem, Nat.reduceBEq, Nat.reduceLT, Nat.reduceAdd, Nat.reduceLeDiff, Nat.reduceSub, Nat.reduceEqDiff, Int.reduceToNat, reduceCtorEq, ↓reduceIte]
                   repeat' (first | refine And.intro ?_ ?_ | intro hg)
                   all_goals (try simp (disch := omega) only [wrap_fits])
                   all_goals first
                     | (refine hK _ _ ?_; exact Red.auto)
                     | exact trivial
                     | assumption
                     | omega
                     | exact wrap_fits (by omega) (by omega)
                     | (simp_all; done)
                     | (simp_all; omega))
                | (simp_all; done)
                | (simp_all; omega)
            · clear hr0
              refine awp_cond (t := 27) rfl (fun hc12 => ?_) (fun hc12 => ?_)
              · replace h := bite_t h hc12
                refine awp_reg ftCOk [(4, .v (.bool false))] [.row false (.ints .i64 a0_1), .row false (.bools a0_2), .row false (.trips a0_3), .row false (.ints .i64 a1_1), .row false (.bools a1_2), .row false (.trips a1_3), .rbox [.v (.int .i64 a0_0), .sl 0, .sl 1, .sl 2], .rbox [.v (.int .i64 a1_0), .sl 3, .sl 4, .sl 5]] ?_
                refine awp_ret ?_
                (try simp only [Thn, InBlk, ↓reduceIte, Nat.reduceEqDiff])
                obtain rfl := Option.some.inj h
                refine ⟨by simp, _, [0, 1, 2, 3, 4, 5], (by simp only [go_sem, Nat.reduceBEq, Nat.reduceLT, Nat.reduceAdd, Nat.reduceLeDiff, Nat.reduceSub, Nat.reduceEqDiff, Int.reduceToNat, reduceCtorEq, ↓reduceIte]; exact rfl), ?_, ?_, ?_, ?_⟩
                · exact fin1
                · simp [selOk, pos]
                · simp
                · exact fin4
              · replace h := bite_f h hc12
                refine awp_skip ?_
                (try simp only [Thn, InBlk, ↓reduceIte, Nat.reduceEqDiff])
                refine hK11 _ _ ?_
                clear hK11
                refine awp_reg ftCOk [(4, .v (.bool true))] [.row false (.ints .i64 a0_1), .row false (.bools a0_2), .row false (.trips a0_3), .row false (.ints .i64 a1_1), .row false (.bools a1_2), .row false (.trips a1_3), .rbox [.v (.int .i64 a0_0), .sl 0, .sl 1, .sl 2], .rbox [.v (.int .i64 a1_0), .sl 3, .sl 4, .sl 5]] ?_
                refine awp_ret ?_
                (try simp only [Thn, InBlk, ↓reduceIte, Nat.reduceEqDiff])
                obtain rfl := Option.some.inj h
                refine ⟨by simp, _, [0, 1, 2, 3, 4, 5], (by simp only [go_sem, Nat.reduceBEq, Nat.reduceLT, Nat.reduceAdd, Nat.reduceLeDiff, Nat.reduceSub, Nat.reduceEqDiff, Int.reduceToNat, reduceCtorEq, ↓reduceIte]; exact rfl), ?_, ?_, ?_, ?_⟩
                · exact fin1
                · simp [selOk, pos]
                · simp
                · exact fin4
theorem k_laws_markIntS (a0 : List Int) (a1 : Int) {r : Int × List Int} (h : laws_markIntS a0 a1 = some r) :
    FnA Try.prog 29 [.sl 0, .v (.int .i64 a1)] [.row true (.ints .i64 a0)] [] (fun x H => x = .v (.int .i64 r.1) ∧ H = [.row true (.ints .i64 r.2)]) := by
  unfold laws_markIntS at h
  refine FnA.of (N := 19) (pin := [0]) (rs := [.tmp 4]) Try.func29 rfl en29 rfl rfl (by simp) (by simp; try omega) ?_
  refine awp_reg ftCOk [(0, .sl 0), (1, .v (.int .i64 a1))] [.row true (.ints .i64 a0)] ?_
  refine awp_seq fun K14 hK14 => ?_
  refine awp_reg ftCOk [(0, .sl 0), (1, .v (.int .i64 a1)), (5, .v (.int .i64 0))] [.row true (.ints .i64 a0)] ?_
  refine awp_block ?_
  replace h := bind_some h
  obtain ⟨x27, hx, h⟩ := h
  refine awp_loopL hx (fun ((t1, t5, p0s) : Int × Int × List Int) => [(0, .sl 0), (1, .v (.int .i64 t1)), (5, .v (.int .i64 t5))]) (fun ((t1, t5, p0s) : Int × Int × List Int) => [.row true (.ints .i64 p0s)]) (fun ((t1_1, p0s_1) : Int × List Int) => Exit.exit 0) (fun ((t1_1, p0s_1) : Int × List Int) => [(1, .v (.int .i64 t1_1))]) (fun ((t1_1, p0s_1) : Int × List Int) => [.row true (.ints .i64 p0s_1)]) ?_ ?_ ?_ ?_
  · rintro ⟨t1_1, p0s_1⟩ hy <;> cases hy
  · clear h hx
    exact Red.auto
  · clear h hx
    rintro ⟨t1, t5, p0s⟩ r h
    unfold laws_markIntS_b0 at h
    try dsimp only at h
    try dsimp only
    refine awp_seq fun K24 hK24 => ?_
    refine awp_reg ftCOk [(0, .sl 0), (1, .v (.int .i64 t1)), (5, .v (.int .i64 t5)), (9, .v (.bool (decide (t5 < (p0s.length : Int)))))] [.row true (.ints .i64 p0s)] ?_
    refine awp_cond (t := 9) rfl (fun hc25 => ?_) (fun hc25 => ?_)
    · replace h := bite_t h hc25
      refine awp_skip ?_
      (try simp only [Thn, InBlk, ↓reduceIte, Nat.reduceEqDiff])
      refine hK24 _ _ ?_
      clear hK24
      refine awp_seq fun K26 hK26 => ?_
      refine awp_block ?_
      replace h := chk_some h
      obtain ⟨hp0, h⟩ := h
      refine awp_reg ftCOk [(0, .sl 0), (1, .v (.int .i64 t1)), (5, .v (.int .i64 t5))] [.row true (.ints .i64 (p0s.set t5.toNat t1))] ?_
      clear hp0
      replace h := chk_some h
      obtain ⟨hp0, h⟩ := h
      refine awp_regE ftCOk [(0, .sl 0), (1, .v (.int .i64 (t1 + 1))), (5, .v (.int .i64 t5))] [.row true (.ints .i64 (p0s.set t5.toNat t1))] ?_
      clear hp0
      (try simp only [Thn, InBlk, ↓reduceIte, Nat.reduceEqDiff])
      (try simp only [Thn, InBlk, ↓reduceIte, Nat.reduceEqDiff])
      refine hK26 _ _ ?_
      clear hK26
      replace h := chk_some h
      obtain ⟨hp0, h⟩ := h
      refine awp_regE ftCOk [(0, .sl 0), (1, .v (.int .i64 (t1 + 1))), (5, .v (.int .i64 (t5 + 1)))] [.row true (.ints .i64 (p0s.set t5.toNat t1))] ?_
      clear hp0
      obtain rfl := Option.some.inj h
      refine LoopQ.next ?_
      exact Red.auto
    · replace h := bite_f h hc25
      refine awp_exit ?_
      (try simp only [Thn, InBlk, ↓reduceIte, Nat.reduceEqDiff])
      obtain rfl := Option.some.inj h
      refine LoopQ.out rfl ?_
      exact Red.auto
  · clear hx
    rcases x27 with ⟨t1_1, p0s_1⟩
    · try dsimp only [Sum.elim_inl, Sum.elim_inr] at h
      try dsimp only [Sum.elim_inl, Sum.elim_inr]
      (try simp only [Thn, InBlk, ↓reduceIte, Nat.reduceEqDiff])
      (try simp only [Thn, InBlk, ↓reduceIte, Nat.reduceEqDiff])
      (try simp only [Thn, InBlk, ↓reduceIte, Nat.reduceEqDiff])
      refine hK14 _ _ ?_
      clear hK14
      refine awp_reg ftCOk [(4, .v (.int .i64 t1_1))] [.row true (.ints .i64 p0s_1)] ?_
      refine awp_ret ?_
      (try simp only [Thn, InBlk, ↓reduceIte, Nat.reduceEqDiff])
      obtain rfl := Option.some.inj h
      refine ⟨by simp, _, [0], (by simp only [go_sem, Nat.reduceBEq, Nat.reduceLT, Nat.reduceAdd, Nat.reduceLeDiff, Nat.reduceSub, Nat.reduceEqDiff, Int.reduceToNat, reduceCtorEq, ↓reduceIte]; exact rfl), ?_, ?_, ?_, ?_⟩
      · exact fin1
      · simp [selOk, pos]
      · simp
      · exact fin4
theorem k_laws_markBoolS (a0 : List Bool) (a1 : Int) {r : Int × List Bool} (h : laws_markBoolS a0 a1 = some r) :
    FnA Try.prog 30 [.sl 0, .v (.int .i64 a1)] [.row true (.bools a0)] [] (fun x H => x = .v (.int .i64 r.1) ∧ H = [.row true (.bools r.2)]) := by
  unfold laws_markBoolS at h
  refine FnA.of (N := 21) (pin := [0]) (rs := [.tmp 4]) Try.func30 rfl en30 rfl rfl (by simp) (by simp; try omega) ?_
  refine awp_reg ftCOk [(0, .sl 0), (1, .v (.int .i64 a1))] [.row true (.bools a0)] ?_
  refine awp_seq fun K14 hK14 => ?_
  refine awp_reg ftCOk [(0, .sl 0), (1, .v (.int .i64 a1)), (5, .v (.int .i64 0))] [.row true (.bools a0)] ?_
  refine awp_block ?_
  replace h := bind_some h
  obtain ⟨x27, hx, h⟩ := h
  refine awp_loopL hx (fun ((t1, t5, p0s) : Int × Int × List Bool) => [(0, .sl 0), (1, .v (.int .i64 t1)), (5, .v (.int .i64 t5))]) (fun ((t1, t5, p0s) : Int × Int × List Bool) => [.row true (.bools p0s)]) (fun ((t1_1, p0s_1) : Int × List Bool) => Exit.exit 0) (fun ((t1_1, p0s_1) : Int × List Bool) => [(1, .v (.int .i64 t1_1))]) (fun ((t1_1, p0s_1) : Int × List Bool) => [.row true (.bools p0s_1)]) ?_ ?_ ?_ ?_
  · rintro ⟨t1_1, p0s_1⟩ hy <;> cases hy
  · clear h hx
    exact Red.auto
  · clear h hx
    rintro ⟨t1, t5, p0s⟩ r h
    unfold laws_markBoolS_b0 at h
    try dsimp only at h
    try dsimp only
    refine awp_seq fun K24 hK24 => ?_
    refine awp_reg ftCOk [(0, .sl 0), (1, .v (.int .i64 t1)), (5, .v (.int .i64 t5)), (9, .v (.bool (decide (t5 < (p0s.length : Int)))))] [.row true (.bools p0s)] ?_
    refine awp_cond (t := 9) rfl (fun hc25 => ?_) (fun hc25 => ?_)
    · replace h := bite_t h hc25
      refine awp_skip ?_
      (try simp only [Thn, InBlk, ↓reduceIte, Nat.reduceEqDiff])
      refine hK24 _ _ ?_
      clear hK24
      refine awp_seq fun K26 hK26 => ?_
      refine awp_block ?_
      replace h := chk_some h
      obtain ⟨hp0, h⟩ := h
      replace h := chk_some h
      obtain ⟨hp1, h⟩ := h
      refine awp_reg ftCOk [(0, .sl 0), (1, .v (.int .i64 t1)), (5, .v (.int .i64 t5))] [.row true (.bools (p0s.set t5.toNat ((t1 % 3) == 0)))] ?_
      clear hp0 hp1
      replace h := chk_some h
      obtain ⟨hp0, h⟩ := h
      refine awp_regE ftCOk [(0, .sl 0), (1, .v (.int .i64 (t1 + 1))), (5, .v (.int .i64 t5))] [.row true (.bools (p0s.set t5.toNat ((t1 % 3) == 0)))] ?_
      clear hp0
      (try simp only [Thn, InBlk, ↓reduceIte, Nat.reduceEqDiff])
      (try simp only [Thn, InBlk, ↓reduceIte, Nat.reduceEqDiff])
      refine hK26 _ _ ?_
      clear hK26
      replace h := chk_some h
      obtain ⟨hp0, h⟩ := h
      refine awp_regE ftCOk [(0, .sl 0), (1, .v (.int .i64 (t1 + 1))), (5, .v (.int .i64 (t5 + 1)))] [.row true (.bools (p0s.set t5.toNat ((t1 % 3) == 0)))] ?_
      clear hp0
      obtain rfl := Option.some.inj h
      refine LoopQ.next ?_
      exact Red.auto
    · replace h := bite_f h hc25
      refine awp_exit ?_
      (try simp only [Thn, InBlk, ↓reduceIte, Nat.reduceEqDiff])
      obtain rfl := Option.some.inj h
      refine LoopQ.out rfl ?_
      exact Red.auto
  · clear hx
    rcases x27 with ⟨t1_1, p0s_1⟩
    · try dsimp only [Sum.elim_inl, Sum.elim_inr] at h
      try dsimp only [Sum.elim_inl, Sum.elim_inr]
      (try simp only [Thn, InBlk, ↓reduceIte, Nat.reduceEqDiff])
      (try simp only [Thn, InBlk, ↓reduceIte, Nat.reduceEqDiff])
      (try simp only [Thn, InBlk, ↓reduceIte, Nat.reduceEqDiff])
      refine hK14 _ _ ?_
      clear hK14
      refine awp_reg ftCOk [(4, .v (.int .i64 t1_1))] [.row true (.bools p0s_1)] ?_
      refine awp_ret ?_
      (try simp only [Thn, InBlk, ↓reduceIte, Nat.reduceEqDiff])
      obtain rfl := Option.some.inj h
      refine ⟨by simp, _, [0], (by simp only [go_sem, Nat.reduceBEq, Nat.reduceLT, Nat.reduceAdd, Nat.reduceLeDiff, Nat.reduceSub, Nat.reduceEqDiff, Int.reduceToNat, reduceCtorEq, ↓reduceIte]; exact rfl), ?_, ?_, ?_, ?_⟩
      · exact fin1
      · simp [selOk, pos]
      · simp
      · exact fin4
theorem k_laws_markMessageS (a0 : List (Int × Int × Int)) (a1 : Int) {r : Int × (List (Int × Int × Int))} (h : laws_markMessageS a0 a1 = some r) :
    FnA Try.prog 31 [.sl 0, .v (.int .i64 a1)] [.row true (.trips a0)] [] (fun x H => x = .v (.int .i64 r.1) ∧ H = [.row true (.trips r.2)]) := by
  unfold laws_markMessageS at h
  refine FnA.of (N := 34) (pin := [0]) (rs := [.tmp 4]) Try.func31 rfl en31 rfl rfl (by simp) (by simp; try omega) ?_
  refine awp_reg ftCOk [(0, .sl 0), (1, .v (.int .i64 a1))] [.row true (.trips a0)] ?_
  refine awp_seq fun K14 hK14 => ?_
  refine awp_reg ftCOk [(0, .sl 0), (1, .v (.int .i64 a1)), (5, .v (.int .i64 0))] [.row true (.trips a0)] ?_
  refine awp_block ?_
  replace h := bind_some h
  obtain ⟨x27, hx, h⟩ := h
  refine awp_loopL hx (fun ((t1, t5, p0s) : Int × Int × (List (Int × Int × Int))) => [(0, .sl 0), (1, .v (.int .i64 t1)), (5, .v (.int .i64 t5))]) (fun ((t1, t5, p0s) : Int × Int × (List (Int × Int × Int))) => [.row true (.trips p0s)]) (fun ((t1_1, p0s_1) : Int × (List (Int × Int × Int))) => Exit.exit 0) (fun ((t1_1, p0s_1) : Int × (List (Int × Int × Int))) => [(1, .v (.int .i64 t1_1))]) (fun ((t1_1, p0s_1) : Int × (List (Int × Int × Int))) => [.row true (.trips p0s_1)]) ?_ ?_ ?_ ?_
  · rintro ⟨t1_1, p0s_1⟩ hy <;> cases hy
  · clear h hx
    exact Red.auto
  · clear h hx
    rintro ⟨t1, t5, p0s⟩ r h
    unfold laws_markMessageS_b0 at h
    try dsimp only at h
    try dsimp only
    refine awp_seq fun K24 hK24 => ?_
    refine awp_reg ftCOk [(0, .sl 0), (1, .v (.int .i64 t1)), (5, .v (.int .i64 t5)), (9, .v (.bool (decide (t5 < (p0s.length : Int)))))] [.row true (.trips p0s)] ?_
    refine awp_cond (t := 9) rfl (fun hc25 => ?_) (fun hc25 => ?_)
    · replace h := bite_t h hc25
      refine awp_skip ?_
      (try simp only [Thn, InBlk, ↓reduceIte, Nat.reduceEqDiff])
      refine hK24 _ _ ?_
      clear hK24
      refine awp_seq fun K26 hK26 => ?_
      refine awp_block ?_
      replace h := chk_some h
      obtain ⟨hp0, h⟩ := h
      refine awp_reg ftCOk [(0, .sl 0), (1, .v (.int .i64 t1)), (5, .v (.int .i64 t5))] [.row true (.trips (p0s.set t5.toNat (t1, (p0s.getD t5.toNat (0, 0, 0)).2.1, (p0s.getD t5.toNat (0, 0, 0)).2.2)))] ?_
      clear hp0
      replace h := chk_some h
      obtain ⟨hp0, h⟩ := h
      refine awp_reg ftCOk [(0, .sl 0), (1, .v (.int .i64 (t1 + 1))), (5, .v (.int .i64 t5))] [.row true (.trips (p0s.set t5.toNat (t1, (p0s.getD t5.toNat (0, 0, 0)).2.1, (p0s.getD t5.toNat (0, 0, 0)).2.2)))] ?_
      clear hp0
      replace h := chk_some h
      obtain ⟨hp0, h⟩ := h
      refine awp_reg ftCOk [(0, .sl 0), (1, .v (.int .i64 (t1 + 1))), (5, .v (.int .i64 t5))] [.row true (.trips ((p0s.set t5.toNat (t1, (p0s.getD t5.toNat (0, 0, 0)).2.1, (p0s.getD t5.toNat (0, 0, 0)).2.2)).set t5.toNat (((p0s.set t5.toNat (t1, (p0s.getD t5.toNat (0, 0, 0)).2.1, (p0s.getD t5.toNat (0, 0, 0)).2.2)).getD t5.toNat (0, 0, 0)).1, (t1 + 1), ((p0s.set t5.toNat (t1, (p0s.getD t5.toNat (0, 0, 0)).2.1, (p0s.getD t5.toNat (0, 0, 0)).2.2)).getD t5.toNat (0, 0, 0)).2.2)))] ?_
      clear hp0
      replace h := chk_some h
      obtain ⟨hp0, h⟩ := h
      refine awp_reg ftCOk [(0, .sl 0), (1, .v (.int .i64 ((t1 + 1) + 1))), (5, .v (.int .i64 t5))] [.row true (.trips ((p0s.set t5.toNat (t1, (p0s.getD t5.toNat (0, 0, 0)).2.1, (p0s.getD t5.toNat (0, 0, 0)).2.2)).set t5.toNat (((p0s.set t5.toNat (t1, (p0s.getD t5.toNat (0, 0, 0)).2.1, (p0s.getD t5.toNat (0, 0, 0)).2.2)).getD t5.toNat (0, 0, 0)).1, (t1 + 1), ((p0s.set t5.toNat (t1, (p0s.getD t5.toNat (0, 0, 0)).2.1, (p0s.getD t5.toNat (0, 0, 0)).2.2)).getD t5.toNat (0, 0, 0)).2.2)))] ?_
      clear hp0
      replace h := chk_some h
      obtain ⟨hp0, h⟩ := h
      refine awp_reg ftCOk [(0, .sl 0), (1, .v (.int .i64 ((t1 + 1) + 1))), (5, .v (.int .i64 t5))] [.row true (.trips (((p0s.set t5.toNat (t1, (p0s.getD t5.toNat (0, 0, 0)).2.1, (p0s.getD t5.toNat (0, 0, 0)).2.2)).set t5.toNat (((p0s.set t5.toNat (t1, (p0s.getD t5.toNat (0, 0, 0)).2.1, (p0s.getD t5.toNat (0, 0, 0)).2.2)).getD t5.toNat (0, 0, 0)).1, (t1 + 1), ((p0s.set t5.toNat (t1, (p0s.getD t5.toNat (0, 0, 0)).2.1, (p0s.getD t5.toNat (0, 0, 0)).2.2)).getD t5.toNat (0, 0, 0)).2.2)).set t5.toNat ((((p0s.set t5.toNat (t1, (p0s.getD t5.toNat (0, 0, 0)).2.1, (p0s.getD t5.toNat (0, 0, 0)).2.2)).set t5.toNat (((p0s.set t5.toNat (t1, (p0s.getD t5.toNat (0, 0, 0)).2.1, (p0s.getD t5.toNat (0, 0, 0)).2.2)).getD t5.toNat (0, 0, 0)).1, (t1 + 1), ((p0s.set t5.toNat (t1, (p0s.getD t5.toNat (0, 0, 0)).2.1, (p0s.getD t5.toNat (0, 0, 0)).2.2)).getD t5.toNat (0, 0, 0)).2.2)).getD t5.toNat (0, 0, 0)).1, (((p0s.set t5.toNat (t1, (p0s.getD t5.toNat (0, 0, 0)).2.1, (p0s.getD t5.toNat (0, 0, 0)).2.2)).set t5.toNat (((p0s.set t5.toNat (t1, (p0s.getD t5.toNat (0, 0, 0)).2.1, (p0s.getD t5.toNat (0, 0, 0)).2.2)).getD t5.toNat (0, 0, 0)).1, (t1 + 1), ((p0s.set t5.toNat (t1, (p0s.getD t5.toNat (0, 0, 0)).2.1, (p0s.getD t5.toNat (0, 0, 0)).2.2)).getD t5.toNat (0, 0, 0)).2.2)).getD t5.toNat (0, 0, 0)).2.1, ((t1 + 1) + 1))))] ?_
      clear hp0
      replace h := chk_some h
      obtain ⟨hp0, h⟩ := h
      refine awp_regE ftCOk [(0, .sl 0), (1, .v (.int .i64 (((t1 + 1) + 1) + 1))), (5, .v (.int .i64 t5))] [.row true (.trips (((p0s.set t5.toNat (t1, (p0s.getD t5.toNat (0, 0, 0)).2.1, (p0s.getD t5.toNat (0, 0, 0)).2.2)).set t5.toNat (((p0s.set t5.toNat (t1, (p0s.getD t5.toNat (0, 0, 0)).2.1, (p0s.getD t5.toNat (0, 0, 0)).2.2)).getD t5.toNat (0, 0, 0)).1, (t1 + 1), ((p0s.set t5.toNat (t1, (p0s.getD t5.toNat (0, 0, 0)).2.1, (p0s.getD t5.toNat (0, 0, 0)).2.2)).getD t5.toNat (0, 0, 0)).2.2)).set t5.toNat ((((p0s.set t5.toNat (t1, (p0s.getD t5.toNat (0, 0, 0)).2.1, (p0s.getD t5.toNat (0, 0, 0)).2.2)).set t5.toNat (((p0s.set t5.toNat (t1, (p0s.getD t5.toNat (0, 0, 0)).2.1, (p0s.getD t5.toNat (0, 0, 0)).2.2)).getD t5.toNat (0, 0, 0)).1, (t1 + 1), ((p0s.set t5.toNat (t1, (p0s.getD t5.toNat (0, 0, 0)).2.1, (p0s.getD t5.toNat (0, 0, 0)).2.2)).getD t5.toNat (0, 0, 0)).2.2)).getD t5.toNat (0, 0, 0)).1, (((p0s.set t5.toNat (t1, (p0s.getD t5.toNat (0, 0, 0)).2.1, (p0s.getD t5.toNat (0, 0, 0)).2.2)).set t5.toNat (((p0s.set t5.toNat (t1, (p0s.getD t5.toNat (0, 0, 0)).2.1, (p0s.getD t5.toNat (0, 0, 0)).2.2)).getD t5.toNat (0, 0, 0)).1, (t1 + 1), ((p0s.set t5.toNat (t1, (p0s.getD t5.toNat (0, 0, 0)).2.1, (p0s.getD t5.toNat (0, 0, 0)).2.2)).getD t5.toNat (0, 0, 0)).2.2)).getD t5.toNat (0, 0, 0)).2.1, ((t1 + 1) + 1))))] ?_
      clear hp0
      (try simp only [Thn, InBlk, ↓reduceIte, Nat.reduceEqDiff])
      (try simp only [Thn, InBlk, ↓reduceIte, Nat.reduceEqDiff])
      refine hK26 _ _ ?_
      clear hK26
      replace h := chk_some h
      obtain ⟨hp0, h⟩ := h
      refine awp_regE ftCOk [(0, .sl 0), (1, .v (.int .i64 (((t1 + 1) + 1) + 1))), (5, .v (.int .i64 (t5 + 1)))] [.row true (.trips (((p0s.set t5.toNat (t1, (p0s.getD t5.toNat (0, 0, 0)).2.1, (p0s.getD t5.toNat (0, 0, 0)).2.2)).set t5.toNat (((p0s.set t5.toNat (t1, (p0s.getD t5.toNat (0, 0, 0)).2.1, (p0s.getD t5.toNat (0, 0, 0)).2.2)).getD t5.toNat (0, 0, 0)).1, (t1 + 1), ((p0s.set t5.toNat (t1, (p0s.getD t5.toNat (0, 0, 0)).2.1, (p0s.getD t5.toNat (0, 0, 0)).2.2)).getD t5.toNat (0, 0, 0)).2.2)).set t5.toNat ((((p0s.set t5.toNat (t1, (p0s.getD t5.toNat (0, 0, 0)).2.1, (p0s.getD t5.toNat (0, 0, 0)).2.2)).set t5.toNat (((p0s.set t5.toNat (t1, (p0s.getD t5.toNat (0, 0, 0)).2.1, (p0s.getD t5.toNat (0, 0, 0)).2.2)).getD t5.toNat (0, 0, 0)).1, (t1 + 1), ((p0s.set t5.toNat (t1, (p0s.getD t5.toNat (0, 0, 0)).2.1, (p0s.getD t5.toNat (0, 0, 0)).2.2)).getD t5.toNat (0, 0, 0)).2.2)).getD t5.toNat (0, 0, 0)).1, (((p0s.set t5.toNat (t1, (p0s.getD t5.toNat (0, 0, 0)).2.1, (p0s.getD t5.toNat (0, 0, 0)).2.2)).set t5.toNat (((p0s.set t5.toNat (t1, (p0s.getD t5.toNat (0, 0, 0)).2.1, (p0s.getD t5.toNat (0, 0, 0)).2.2)).getD t5.toNat (0, 0, 0)).1, (t1 + 1), ((p0s.set t5.toNat (t1, (p0s.getD t5.toNat (0, 0, 0)).2.1, (p0s.getD t5.toNat (0, 0, 0)).2.2)).getD t5.toNat (0, 0, 0)).2.2)).getD t5.toNat (0, 0, 0)).2.1, ((t1 + 1) + 1))))] ?_
      clear hp0
      obtain rfl := Option.some.inj h
      refine LoopQ.next ?_
      exact Red.auto
    · replace h := bite_f h hc25
      refine awp_exit ?_
      (try simp only [Thn, InBlk, ↓reduceIte, Nat.reduceEqDiff])
      obtain rfl := Option.some.inj h
      refine LoopQ.out rfl ?_
      exact Red.auto
  · clear hx
    rcases x27 with ⟨t1_1, p0s_1⟩
    · try dsimp only [Sum.elim_inl, Sum.elim_inr] at h
      try dsimp only [Sum.elim_inl, Sum.elim_inr]
      (try simp only [Thn, InBlk, ↓reduceIte, Nat.reduceEqDiff])
      (try simp only [Thn, InBlk, ↓reduceIte, Nat.reduceEqDiff])
      (try simp only [Thn, InBlk, ↓reduceIte, Nat.reduceEqDiff])
      refine hK14 _ _ ?_
      clear hK14
      refine awp_reg ftCOk [(4, .v (.int .i64 t1_1))] [.row true (.trips p0s_1)] ?_
      refine awp_ret ?_
      (try simp only [Thn, InBlk, ↓reduceIte, Nat.reduceEqDiff])
      obtain rfl := Option.some.inj h
      refine ⟨by simp, _, [0], (by simp only [go_sem, Nat.reduceBEq, Nat.reduceLT, Nat.reduceAdd, Nat.reduceLeDiff, Nat.reduceSub, Nat.reduceEqDiff, Int.reduceToNat, reduceCtorEq, ↓reduceIte]; exact rfl), ?_, ?_, ?_, ?_⟩
      · exact fin1
      · simp [selOk, pos]
      · simp
      · exact fin4
theorem k_laws_markState (a0_0 : Int) (a0_1 : List Int) (a0_2 : List Bool) (a0_3 : List (Int × Int × Int)) (a1 : Int) {r : Int × List Int × List Bool × (List (Int × Int × Int))} (h : laws_markState a0_0 a0_1 a0_2 a0_3 a1 = some r) :
    FnA Try.prog 10 [.agg [.v (.int .i64 a0_0), .sl 0, .sl 1, .sl 2], .v (.int .i64 a1)] [.row true (.ints .i64 a0_1), .row true (.bools a0_2), .row true (.trips a0_3)] [] (fun x H => x = .v (.int .i64 r.1) ∧ H = [.row true (.ints .i64 r.2.1), .row true (.bools r.2.2.1), .row true (.trips r.2.2.2)]) := by
  unfold laws_markState at h
  refine FnA.of (N := 18) (pin := [0, 1, 2]) (rs := [.tmp 4]) Try.func10 rfl en10 rfl rfl (by simp) (by simp; try omega) ?_
  refine awp_reg ftCOk [(1, .v (.int .i64 a1)), (2, .pp 3 0)] [.row true (.ints .i64 a0_1), .row true (.bools a0_2), .row true (.trips a0_3), .box [.v (.int .i64 a0_0), .sl 0, .sl 1, .sl 2]] ?_
  refine awp_freeze 2 (by rfl) (by rfl) (by exact rfl) ?_
  replace h := bind_some h
  obtain ⟨⟨y, y_1⟩, hr0, h⟩ := h
  try dsimp only at h
  refine awp_to [(1, .v (.int .i64 y)), (2, .pp 3 0)] [.row true (.ints .i64 y_1), .row true (.bools a0_2), .row true (.trips a0_3), .rbox [.v (.int .i64 a0_0), .sl 0, .sl 1, .sl 2]] ?_ ?_
  · clear h
    intro K hK
    refine awp_region ftCOk ?_
    simp (maxSteps := 4000000) only [go_sem, Nat.reduceBEq, Nat.reduceLT, Nat.reduceAdd, Nat.reduceLeDiff, Nat.reduceSub, Nat.reduceEqDiff, Int.reduceToNat, reduceCtorEq, ↓reduceIte]
    repeat' (first | refine And.intro ?_ ?_ | intro hg)
    all_goals (try simp (disch := omega) only [wrap_fits])
    all_goals first
      | (refine hK _ _ ?_; exact Red.auto)
      | exact trivial
      | assumption
      | omega
      | exact wrap_fits (by omega) (by omega)
      | (refine wpA_callA (k_laws_markIntS a0_1 a1 (h := hr0)) [0] [] ?_
         rintro x Hc' ⟨rfl, rfl⟩ hlen
         refine vcOps_sound ftCOk ?_
         simp (maxSteps := 4000000) only [go_sem, Nat.reduceBEq, Nat.reduceLT, Nat.reduceAdd, Nat.reduceLeDiff, Nat.reduceSub, Nat.reduceEqDiff, Int.reduceToNat, reduceCtorEq, ↓reduceIte]
         repeat' (first | refine And.intro ?_ ?_ | intro hg)
         all_goals (try simp (disch := omega) only [wrap_fits])
         all_goals first
           | (refine hK _ _ ?_; exact Red.auto)
           | exact trivial
           | assumption
           | omega
           | exact wrap_fits (by omega) (by omega)
           | (simp_all; done)
           | (simp_all; omega))
      | (simp_all; done)
      | (simp_all; omega)
  · clear hr0
    replace h := bind_some h
    obtain ⟨⟨y_2, y_3⟩, hr0, h⟩ := h
    try dsimp only at h
    refine awp_to [(1, .v (.int .i64 y_2)), (2, .pp 3 0)] [.row true (.ints .i64 y_1), .row true (.bools y_3), .row true (.trips a0_3), .rbox [.v (.int .i64 a0_0), .sl 0, .sl 1, .sl 2]] ?_ ?_
    · clear h
      intro K hK
      refine awp_region ftCOk ?_
      simp (maxSteps := 4000000) only [go_sem, Nat.reduceBEq, Nat.reduceLT, Nat.reduceAdd, Nat.reduceLeDiff, Nat.reduceSub, Nat.reduceEqDiff, Int.reduceToNat, reduceCtorEq, ↓reduceIte]
      repeat' (first | refine And.intro ?_ ?_ | intro hg)
      all_goals (try simp (disch := omega) only [wrap_fits])
      all_goals first
        | (refine hK _ _ ?_; exact Red.auto)
        | exact trivial
        | assumption
        | omega
        | exact wrap_fits (by omega) (by omega)
        | (refine wpA_callA (k_laws_markBoolS a0_2 y (h := hr0)) [1] [] ?_
           rintro x Hc' ⟨rfl, rfl⟩ hlen
           refine vcOps_sound ftCOk ?_
           simp (maxSteps := 4000000) only [go_sem, Nat.reduceBEq, Nat.reduceLT, Nat.reduceAdd, Nat.reduceLeDiff, Nat.reduceSub, Nat.reduceEqDiff, Int.reduceToNat, reduceCtorEq, ↓reduceIte]
           repeat' (first | refine And.intro ?_ ?_ | intro hg)
           all_goals (try simp (disch := omega) only [wrap_fits])
           all_goals first
             | (refine hK _ _ ?_; exact Red.auto)
             | exact trivial
             | assumption
             | omega
             | exact wrap_fits (by omega) (by omega)
             | (simp_all; done)
             | (simp_all; omega))
        | (simp_all; done)
        | (simp_all; omega)
    · clear hr0
      replace h := bind_some h
      obtain ⟨⟨y_4, y_5⟩, hr0, h⟩ := h
      try dsimp only at h
      refine awp_to [(1, .v (.int .i64 y_4))] [.row true (.ints .i64 y_1), .row true (.bools y_3), .row true (.trips y_5), .rbox [.v (.int .i64 a0_0), .sl 0, .sl 1, .sl 2]] ?_ ?_
      · clear h
        intro K hK
        refine awp_region ftCOk ?_
        simp (maxSteps := 4000000) only [go_sem, Nat.reduceBEq, Nat.reduceLT, Nat.reduceAdd, Nat.reduceLeDiff, Nat.reduceSub, Nat.reduceEqDiff, Int.reduceToNat, reduceCtorEq, ↓reduceIte]
        repeat' (first | refine And.intro ?_ ?_ | intro hg)
        all_goals (try simp (disch := omega) only [wrap_fits])
        all_goals first
          | (refine hK _ _ ?_; exact Red.auto)
          | exact trivial
          | assumption
          | omega
          | exact wrap_fits (by omega) (by omega)
          | (refine wpA_callA (k_laws_markMessageS a0_3 y_2 (h := hr0)) [2] [] ?_
             rintro x Hc' ⟨rfl, rfl⟩ hlen
             refine vcOps_sound ftCOk ?_
             simp (maxSteps := 4000000) only [go_sem, Nat.reduceBEq, Nat.reduceLT, Nat.reduceAdd, Nat.reduceLeDiff, Nat.reduceSub, Nat.reduceEqDiff, Int.reduceToNat, reduceCtorEq, ↓reduceIte]
             repeat' (first | refine And.intro ?_ ?_ | intro hg)
             all_goals (try simp (disch := omega) only [wrap_fits])
             all_goals first
               | (refine hK _ _ ?_; exact Red.auto)
               | exact trivial
               | assumption
               | omega
               | exact wrap_fits (by omega) (by omega)
               | (simp_all; done)
               | (simp_all; omega))
          | (simp_all; done)
          | (simp_all; omega)
      · clear hr0
        refine awp_reg ftCOk [(4, .v (.int .i64 y_4))] [.row true (.ints .i64 y_1), .row true (.bools y_3), .row true (.trips y_5), .rbox [.v (.int .i64 a0_0), .sl 0, .sl 1, .sl 2]] ?_
        refine awp_ret ?_
        (try simp only [Thn, InBlk, ↓reduceIte, Nat.reduceEqDiff])
        obtain rfl := Option.some.inj h
        refine ⟨by simp, _, [0, 1, 2], (by simp only [go_sem, Nat.reduceBEq, Nat.reduceLT, Nat.reduceAdd, Nat.reduceLeDiff, Nat.reduceSub, Nat.reduceEqDiff, Int.reduceToNat, reduceCtorEq, ↓reduceIte]; exact rfl), ?_, ?_, ?_, ?_⟩
        · exact fin1
        · simp [selOk, pos]
        · simp
        · exact fin4
theorem k_laws_heldIntS (a0 : List Int) (a1 : Int) {r : Int} (h : laws_heldIntS a0 a1 = some r) :
    FnA Try.prog 32 [.sl 0, .v (.int .i64 a1)] [.row false (.ints .i64 a0)] [] (fun x H => x = .v (.int .i64 r) ∧ H = [.row false (.ints .i64 a0)]) := by
  unfold laws_heldIntS at h
  refine FnA.of (N := 21) (pin := [0]) (rs := [.tmp 4]) Try.func32 rfl en32 rfl rfl (by simp) (by simp; try omega) ?_
  refine awp_reg ftCOk [(0, .sl 0), (1, .v (.int .i64 a1))] [.row false (.ints .i64 a0)] ?_
  refine awp_seq fun K32 hK32 => ?_
  refine awp_reg ftCOk [(0, .sl 0), (1, .v (.int .i64 a1)), (5, .v (.int .i64 0))] [.row false (.ints .i64 a0)] ?_
  refine awp_block ?_
  replace h := bind_some h
  obtain ⟨x63, hx, h⟩ := h
  refine awp_loopL hx (fun ((t1, t5) : Int × Int) => [(0, .sl 0), (1, .v (.int .i64 t1)), (5, .v (.int .i64 t5))]) (fun ((t1, t5) : Int × Int) => [.row false (.ints .i64 a0)]) (Sum.elim (fun (t1_1 : Int) => Exit.exit 0) (fun (_ : Unit) => Exit.ret)) (Sum.elim (fun (t1_1 : Int) => [(1, .v (.int .i64 t1_1))]) (fun (_ : Unit) => [(4, .v (.int .i64 (-1)))])) (Sum.elim (fun (t1_1 : Int) => [.row false (.ints .i64 a0)]) (fun (_ : Unit) => [.row false (.ints .i64 a0)])) ?_ ?_ ?_ ?_
  · rintro (t1_1 | ⟨⟩) hy <;> cases hy
  · clear h hx
    exact Red.auto
  · clear h hx
    rintro ⟨t1, t5⟩ r h
    unfold laws_heldIntS_b0 at h
    try dsimp only at h
    try dsimp only
    refine awp_seq fun K54 hK54 => ?_
    refine awp_reg ftCOk [(0, .sl 0), (1, .v (.int .i64 t1)), (5, .v (.int .i64 t5)), (9, .v (.bool (decide (t5 < (a0.length : Int)))))] [.row false (.ints .i64 a0)] ?_
    refine awp_cond (t := 9) rfl (fun hc55 => ?_) (fun hc55 => ?_)
    · replace h := bite_t h hc55
      refine awp_skip ?_
      (try simp only [Thn, InBlk, ↓reduceIte, Nat.reduceEqDiff])
      refine hK54 _ _ ?_
      clear hK54
      refine awp_seq fun K59 hK59 => ?_
      refine awp_block ?_
      refine awp_seq fun K61 hK61 => ?_
      replace h := chk_some h
      obtain ⟨hp0, h⟩ := h
      refine awp_reg ftCOk [(0, .sl 0), (1, .v (.int .i64 t1)), (5, .v (.int .i64 t5)), (17, .v (.bool ((a0.getD t5.toNat 0) != t1)))] [.row false (.ints .i64 a0)] ?_
      clear hp0
      refine awp_cond (t := 17) rfl (fun hc62 => ?_) (fun hc62 => ?_)
      · replace h := bite_t h hc62
        refine awp_reg ftCOk [(4, .v (.int .i64 (-1)))] [.row false (.ints .i64 a0)] ?_
        refine awp_ret ?_
        (try simp only [Thn, InBlk, ↓reduceIte, Nat.reduceEqDiff])
        obtain rfl := Option.some.inj h
        refine LoopQ.out rfl ?_
        exact Red.auto
      · replace h := bite_f h hc62
        refine awp_skip ?_
        (try simp only [Thn, InBlk, ↓reduceIte, Nat.reduceEqDiff])
        refine hK61 _ _ ?_
        clear hK61
        replace h := chk_some h
        obtain ⟨hp0, h⟩ := h
        refine awp_regE ftCOk [(0, .sl 0), (1, .v (.int .i64 (t1 + 1))), (5, .v (.int .i64 t5))] [.row false (.ints .i64 a0)] ?_
        clear hp0
        (try simp only [Thn, InBlk, ↓reduceIte, Nat.reduceEqDiff])
        (try simp only [Thn, InBlk, ↓reduceIte, Nat.reduceEqDiff])
        refine hK59 _ _ ?_
        clear hK59
        replace h := chk_some h
        obtain ⟨hp0, h⟩ := h
        refine awp_regE ftCOk [(0, .sl 0), (1, .v (.int .i64 (t1 + 1))), (5, .v (.int .i64 (t5 + 1)))] [.row false (.ints .i64 a0)] ?_
        clear hp0
        obtain rfl := Option.some.inj h
        refine LoopQ.next ?_
        exact Red.auto
    · replace h := bite_f h hc55
      refine awp_exit ?_
      (try simp only [Thn, InBlk, ↓reduceIte, Nat.reduceEqDiff])
      obtain rfl := Option.some.inj h
      refine LoopQ.out rfl ?_
      exact Red.auto
  · clear hx
    rcases x63 with (t1_1 | ⟨⟩)
    · try dsimp only [Sum.elim_inl, Sum.elim_inr] at h
      try dsimp only [Sum.elim_inl, Sum.elim_inr]
      (try simp only [Thn, InBlk, ↓reduceIte, Nat.reduceEqDiff])
      (try simp only [Thn, InBlk, ↓reduceIte, Nat.reduceEqDiff])
      (try simp only [Thn, InBlk, ↓reduceIte, Nat.reduceEqDiff])
      refine hK32 _ _ ?_
      clear hK32
      refine awp_reg ftCOk [(4, .v (.int .i64 t1_1))] [.row false (.ints .i64 a0)] ?_
      refine awp_ret ?_
      (try simp only [Thn, InBlk, ↓reduceIte, Nat.reduceEqDiff])
      obtain rfl := Option.some.inj h
      refine ⟨by simp, _, [0], (by simp only [go_sem, Nat.reduceBEq, Nat.reduceLT, Nat.reduceAdd, Nat.reduceLeDiff, Nat.reduceSub, Nat.reduceEqDiff, Int.reduceToNat, reduceCtorEq, ↓reduceIte]; exact rfl), ?_, ?_, ?_, ?_⟩
      · exact fin1
      · simp [selOk, pos]
      · simp
      · exact fin4
    · try dsimp only [Sum.elim_inl, Sum.elim_inr] at h
      try dsimp only [Sum.elim_inl, Sum.elim_inr]
      (try simp only [Thn, InBlk, ↓reduceIte, Nat.reduceEqDiff])
      obtain rfl := Option.some.inj h
      refine ⟨by simp, _, [0], (by simp only [go_sem, Nat.reduceBEq, Nat.reduceLT, Nat.reduceAdd, Nat.reduceLeDiff, Nat.reduceSub, Nat.reduceEqDiff, Int.reduceToNat, reduceCtorEq, ↓reduceIte]; exact rfl), ?_, ?_, ?_, ?_⟩
      · exact fin1
      · simp [selOk, pos]
      · simp
      · exact fin4
theorem k_laws_heldBoolS (a0 : List Bool) (a1 : Int) {r : Int} (h : laws_heldBoolS a0 a1 = some r) :
    FnA Try.prog 33 [.sl 0, .v (.int .i64 a1)] [.row false (.bools a0)] [] (fun x H => x = .v (.int .i64 r) ∧ H = [.row false (.bools a0)]) := by
  unfold laws_heldBoolS at h
  refine FnA.of (N := 23) (pin := [0]) (rs := [.tmp 4]) Try.func33 rfl en33 rfl rfl (by simp) (by simp; try omega) ?_
  refine awp_reg ftCOk [(0, .sl 0), (1, .v (.int .i64 a1))] [.row false (.bools a0)] ?_
  refine awp_seq fun K32 hK32 => ?_
  refine awp_reg ftCOk [(0, .sl 0), (1, .v (.int .i64 a1)), (5, .v (.int .i64 0))] [.row false (.bools a0)] ?_
  refine awp_block ?_
  replace h := bind_some h
  obtain ⟨x63, hx, h⟩ := h
  refine awp_loopL hx (fun ((t1, t5) : Int × Int) => [(0, .sl 0), (1, .v (.int .i64 t1)), (5, .v (.int .i64 t5))]) (fun ((t1, t5) : Int × Int) => [.row false (.bools a0)]) (Sum.elim (fun (t1_1 : Int) => Exit.exit 0) (fun (_ : Unit) => Exit.ret)) (Sum.elim (fun (t1_1 : Int) => [(1, .v (.int .i64 t1_1))]) (fun (_ : Unit) => [(4, .v (.int .i64 (-1)))])) (Sum.elim (fun (t1_1 : Int) => [.row false (.bools a0)]) (fun (_ : Unit) => [.row false (.bools a0)])) ?_ ?_ ?_ ?_
  · rintro (t1_1 | ⟨⟩) hy <;> cases hy
  · clear h hx
    exact Red.auto
  · clear h hx
    rintro ⟨t1, t5⟩ r h
    unfold laws_heldBoolS_b0 at h
    try dsimp only at h
    try dsimp only
    refine awp_seq fun K54 hK54 => ?_
    refine awp_reg ftCOk [(0, .sl 0), (1, .v (.int .i64 t1)), (5, .v (.int .i64 t5)), (9, .v (.bool (decide (t5 < (a0.length : Int)))))] [.row false (.bools a0)] ?_
    refine awp_cond (t := 9) rfl (fun hc55 => ?_) (fun hc55 => ?_)
    · replace h := bite_t h hc55
      refine awp_skip ?_
      (try simp only [Thn, InBlk, ↓reduceIte, Nat.reduceEqDiff])
      refine hK54 _ _ ?_
      clear hK54
      refine awp_seq fun K59 hK59 => ?_
      refine awp_block ?_
      refine awp_seq fun K61 hK61 => ?_
      replace h := chk_some h
      obtain ⟨hp0, h⟩ := h
      replace h := chk_some h
      obtain ⟨hp1, h⟩ := h
      refine awp_reg ftCOk [(0, .sl 0), (1, .v (.int .i64 t1)), (5, .v (.int .i64 t5)), (19, .v (.bool (!((a0.getD t5.toNat false) == ((t1 % 3) == 0)))))] [.row false (.bools a0)] ?_
      clear hp0 hp1
      refine awp_cond (t := 19) rfl (fun hc62 => ?_) (fun hc62 => ?_)
      · replace h := bite_t h hc62
        refine awp_reg ftCOk [(4, .v (.int .i64 (-1)))] [.row false (.bools a0)] ?_
        refine awp_ret ?_
        (try simp only [Thn, InBlk, ↓reduceIte, Nat.reduceEqDiff])
        obtain rfl := Option.some.inj h
        refine LoopQ.out rfl ?_
        exact Red.auto
      · replace h := bite_f h hc62
        refine awp_skip ?_
        (try simp only [Thn, InBlk, ↓reduceIte, Nat.reduceEqDiff])
        refine hK61 _ _ ?_
        clear hK61
        replace h := chk_some h
        obtain ⟨hp0, h⟩ := h
        refine awp_regE ftCOk [(0, .sl 0), (1, .v (.int .i64 (t1 + 1))), (5, .v (.int .i64 t5))] [.row false (.bools a0)] ?_
        clear hp0
        (try simp only [Thn, InBlk, ↓reduceIte, Nat.reduceEqDiff])
        (try simp only [Thn, InBlk, ↓reduceIte, Nat.reduceEqDiff])
        refine hK59 _ _ ?_
        clear hK59
        replace h := chk_some h
        obtain ⟨hp0, h⟩ := h
        refine awp_regE ftCOk [(0, .sl 0), (1, .v (.int .i64 (t1 + 1))), (5, .v (.int .i64 (t5 + 1)))] [.row false (.bools a0)] ?_
        clear hp0
        obtain rfl := Option.some.inj h
        refine LoopQ.next ?_
        exact Red.auto
    · replace h := bite_f h hc55
      refine awp_exit ?_
      (try simp only [Thn, InBlk, ↓reduceIte, Nat.reduceEqDiff])
      obtain rfl := Option.some.inj h
      refine LoopQ.out rfl ?_
      exact Red.auto
  · clear hx
    rcases x63 with (t1_1 | ⟨⟩)
    · try dsimp only [Sum.elim_inl, Sum.elim_inr] at h
      try dsimp only [Sum.elim_inl, Sum.elim_inr]
      (try simp only [Thn, InBlk, ↓reduceIte, Nat.reduceEqDiff])
      (try simp only [Thn, InBlk, ↓reduceIte, Nat.reduceEqDiff])
      (try simp only [Thn, InBlk, ↓reduceIte, Nat.reduceEqDiff])
      refine hK32 _ _ ?_
      clear hK32
      refine awp_reg ftCOk [(4, .v (.int .i64 t1_1))] [.row false (.bools a0)] ?_
      refine awp_ret ?_
      (try simp only [Thn, InBlk, ↓reduceIte, Nat.reduceEqDiff])
      obtain rfl := Option.some.inj h
      refine ⟨by simp, _, [0], (by simp only [go_sem, Nat.reduceBEq, Nat.reduceLT, Nat.reduceAdd, Nat.reduceLeDiff, Nat.reduceSub, Nat.reduceEqDiff, Int.reduceToNat, reduceCtorEq, ↓reduceIte]; exact rfl), ?_, ?_, ?_, ?_⟩
      · exact fin1
      · simp [selOk, pos]
      · simp
      · exact fin4
    · try dsimp only [Sum.elim_inl, Sum.elim_inr] at h
      try dsimp only [Sum.elim_inl, Sum.elim_inr]
      (try simp only [Thn, InBlk, ↓reduceIte, Nat.reduceEqDiff])
      obtain rfl := Option.some.inj h
      refine ⟨by simp, _, [0], (by simp only [go_sem, Nat.reduceBEq, Nat.reduceLT, Nat.reduceAdd, Nat.reduceLeDiff, Nat.reduceSub, Nat.reduceEqDiff, Int.reduceToNat, reduceCtorEq, ↓reduceIte]; exact rfl), ?_, ?_, ?_, ?_⟩
      · exact fin1
      · simp [selOk, pos]
      · simp
      · exact fin4
theorem k_laws_heldMessageS (a0 : List (Int × Int × Int)) (a1 : Int) {r : Int} (h : laws_heldMessageS a0 a1 = some r) :
    FnA Try.prog 34 [.sl 0, .v (.int .i64 a1)] [.row false (.trips a0)] [] (fun x H => x = .v (.int .i64 r) ∧ H = [.row false (.trips a0)]) := by
  unfold laws_heldMessageS at h
  refine FnA.of (N := 40) (pin := [0]) (rs := [.tmp 4]) Try.func34 rfl en34 rfl rfl (by simp) (by simp; try omega) ?_
  refine awp_reg ftCOk [(0, .sl 0), (1, .v (.int .i64 a1))] [.row false (.trips a0)] ?_
  refine awp_seq fun K68 hK68 => ?_
  refine awp_reg ftCOk [(0, .sl 0), (1, .v (.int .i64 a1)), (5, .v (.int .i64 0))] [.row false (.trips a0)] ?_
  refine awp_block ?_
  replace h := bind_some h
  obtain ⟨x135, hx, h⟩ := h
  refine awp_loopL hx (fun ((t1, t5) : Int × Int) => [(0, .sl 0), (1, .v (.int .i64 t1)), (5, .v (.int .i64 t5))]) (fun ((t1, t5) : Int × Int) => [.row false (.trips a0)]) (Sum.elim (fun (t1_1 : Int) => Exit.exit 0) (fun (_ : Unit) => Exit.ret)) (Sum.elim (fun (t1_1 : Int) => [(1, .v (.int .i64 t1_1))]) (fun (_ : Unit) => [(4, .v (.int .i64 (-1)))])) (Sum.elim (fun (t1_1 : Int) => [.row false (.trips a0)]) (fun (_ : Unit) => [.row false (.trips a0)])) ?_ ?_ ?_ ?_
  · rintro (t1_1 | ⟨⟩) hy <;> cases hy
  · clear h hx
    exact Red.auto
  · clear h hx
    rintro ⟨t1, t5⟩ r h
    unfold laws_heldMessageS_b0 at h
    try dsimp only at h
    try dsimp only
    refine awp_seq fun K114 hK114 => ?_
    refine awp_reg ftCOk [(0, .sl 0), (1, .v (.int .i64 t1)), (5, .v (.int .i64 t5)), (9, .v (.bool (decide (t5 < (a0.length : Int)))))] [.row false (.trips a0)] ?_
    refine awp_cond (t := 9) rfl (fun hc115 => ?_) (fun hc115 => ?_)
    · replace h := bite_t h hc115
      refine awp_skip ?_
      (try simp only [Thn, InBlk, ↓reduceIte, Nat.reduceEqDiff])
      refine hK114 _ _ ?_
      clear hK114
      refine awp_seq fun K125 hK125 => ?_
      refine awp_block ?_
      refine awp_seq fun K127 hK127 => ?_
      replace h := chk_some h
      obtain ⟨hp0, h⟩ := h
      refine awp_reg ftCOk [(0, .sl 0), (1, .v (.int .i64 t1)), (5, .v (.int .i64 t5)), (18, .v (.bool ((a0.getD t5.toNat (0, 0, 0)).1 != t1)))] [.row false (.trips a0)] ?_
      clear hp0
      refine awp_cond (t := 18) rfl (fun hc128 => ?_) (fun hc128 => ?_)
      · replace h := bite_t h hc128
        refine awp_reg ftCOk [(4, .v (.int .i64 (-1)))] [.row false (.trips a0)] ?_
        refine awp_ret ?_
        (try simp only [Thn, InBlk, ↓reduceIte, Nat.reduceEqDiff])
        obtain rfl := Option.some.inj h
        refine LoopQ.out rfl ?_
        exact Red.auto
      · replace h := bite_f h hc128
        refine awp_skip ?_
        (try simp only [Thn, InBlk, ↓reduceIte, Nat.reduceEqDiff])
        refine hK127 _ _ ?_
        clear hK127
        replace h := chk_some h
        obtain ⟨hp0, h⟩ := h
        refine awp_reg ftCOk [(0, .sl 0), (1, .v (.int .i64 (t1 + 1))), (5, .v (.int .i64 t5))] [.row false (.trips a0)] ?_
        clear hp0
        refine awp_seq fun K130 hK130 => ?_
        replace h := chk_some h
        obtain ⟨hp0, h⟩ := h
        refine awp_reg ftCOk [(0, .sl 0), (1, .v (.int .i64 (t1 + 1))), (5, .v (.int .i64 t5)), (27, .v (.bool ((a0.getD t5.toNat (0, 0, 0)).2.1 != (t1 + 1))))] [.row false (.trips a0)] ?_
        clear hp0
        refine awp_cond (t := 27) rfl (fun hc131 => ?_) (fun hc131 => ?_)
        · replace h := bite_t h hc131
          refine awp_reg ftCOk [(4, .v (.int .i64 (-1)))] [.row false (.trips a0)] ?_
          refine awp_ret ?_
          (try simp only [Thn, InBlk, ↓reduceIte, Nat.reduceEqDiff])
          obtain rfl := Option.some.inj h
          refine LoopQ.out rfl ?_
          exact Red.auto
        · replace h := bite_f h hc131
          refine awp_skip ?_
          (try simp only [Thn, InBlk, ↓reduceIte, Nat.reduceEqDiff])
          refine hK130 _ _ ?_
          clear hK130
          replace h := chk_some h
          obtain ⟨hp0, h⟩ := h
          refine awp_reg ftCOk [(0, .sl 0), (1, .v (.int .i64 ((t1 + 1) + 1))), (5, .v (.int .i64 t5))] [.row false (.trips a0)] ?_
          clear hp0
          refine awp_seq fun K133 hK133 => ?_
          replace h := chk_some h
          obtain ⟨hp0, h⟩ := h
          refine awp_reg ftCOk [(0, .sl 0), (1, .v (.int .i64 ((t1 + 1) + 1))), (5, .v (.int .i64 t5)), (36, .v (.bool ((a0.getD t5.toNat (0, 0, 0)).2.2 != ((t1 + 1) + 1))))] [.row false (.trips a0)] ?_
          clear hp0
          refine awp_cond (t := 36) rfl (fun hc134 => ?_) (fun hc134 => ?_)
          · replace h := bite_t h hc134
            refine awp_reg ftCOk [(4, .v (.int .i64 (-1)))] [.row false (.trips a0)] ?_
            refine awp_ret ?_
            (try simp only [Thn, InBlk, ↓reduceIte, Nat.reduceEqDiff])
            obtain rfl := Option.some.inj h
            refine LoopQ.out rfl ?_
            exact Red.auto
          · replace h := bite_f h hc134
            refine awp_skip ?_
            (try simp only [Thn, InBlk, ↓reduceIte, Nat.reduceEqDiff])
            refine hK133 _ _ ?_
            clear hK133
            replace h := chk_some h
            obtain ⟨hp0, h⟩ := h
            refine awp_regE ftCOk [(0, .sl 0), (1, .v (.int .i64 (((t1 + 1) + 1) + 1))), (5, .v (.int .i64 t5))] [.row false (.trips a0)] ?_
            clear hp0
            (try simp only [Thn, InBlk, ↓reduceIte, Nat.reduceEqDiff])
            (try simp only [Thn, InBlk, ↓reduceIte, Nat.reduceEqDiff])
            refine hK125 _ _ ?_
            clear hK125
            replace h := chk_some h
            obtain ⟨hp0, h⟩ := h
            refine awp_regE ftCOk [(0, .sl 0), (1, .v (.int .i64 (((t1 + 1) + 1) + 1))), (5, .v (.int .i64 (t5 + 1)))] [.row false (.trips a0)] ?_
            clear hp0
            obtain rfl := Option.some.inj h
            refine LoopQ.next ?_
            exact Red.auto
    · replace h := bite_f h hc115
      refine awp_exit ?_
      (try simp only [Thn, InBlk, ↓reduceIte, Nat.reduceEqDiff])
      obtain rfl := Option.some.inj h
      refine LoopQ.out rfl ?_
      exact Red.auto
  · clear hx
    rcases x135 with (t1_1 | ⟨⟩)
    · try dsimp only [Sum.elim_inl, Sum.elim_inr] at h
      try dsimp only [Sum.elim_inl, Sum.elim_inr]
      (try simp only [Thn, InBlk, ↓reduceIte, Nat.reduceEqDiff])
      (try simp only [Thn, InBlk, ↓reduceIte, Nat.reduceEqDiff])
      (try simp only [Thn, InBlk, ↓reduceIte, Nat.reduceEqDiff])
      refine hK68 _ _ ?_
      clear hK68
      refine awp_reg ftCOk [(4, .v (.int .i64 t1_1))] [.row false (.trips a0)] ?_
      refine awp_ret ?_
      (try simp only [Thn, InBlk, ↓reduceIte, Nat.reduceEqDiff])
      obtain rfl := Option.some.inj h
      refine ⟨by simp, _, [0], (by simp only [go_sem, Nat.reduceBEq, Nat.reduceLT, Nat.reduceAdd, Nat.reduceLeDiff, Nat.reduceSub, Nat.reduceEqDiff, Int.reduceToNat, reduceCtorEq, ↓reduceIte]; exact rfl), ?_, ?_, ?_, ?_⟩
      · exact fin1
      · simp [selOk, pos]
      · simp
      · exact fin4
    · try dsimp only [Sum.elim_inl, Sum.elim_inr] at h
      try dsimp only [Sum.elim_inl, Sum.elim_inr]
      (try simp only [Thn, InBlk, ↓reduceIte, Nat.reduceEqDiff])
      obtain rfl := Option.some.inj h
      refine ⟨by simp, _, [0], (by simp only [go_sem, Nat.reduceBEq, Nat.reduceLT, Nat.reduceAdd, Nat.reduceLeDiff, Nat.reduceSub, Nat.reduceEqDiff, Int.reduceToNat, reduceCtorEq, ↓reduceIte]; exact rfl), ?_, ?_, ?_, ?_⟩
      · exact fin1
      · simp [selOk, pos]
      · simp
      · exact fin4
theorem k_laws_heldState (a0_0 : Int) (a0_1 : List Int) (a0_2 : List Bool) (a0_3 : List (Int × Int × Int)) (a1 : Int) {r : Int} (h : laws_heldState a0_0 a0_1 a0_2 a0_3 a1 = some r) :
    FnA Try.prog 11 [.agg [.v (.int .i64 a0_0), .sl 0, .sl 1, .sl 2], .v (.int .i64 a1)] [.row false (.ints .i64 a0_1), .row false (.bools a0_2), .row false (.trips a0_3)] [] (fun x H => x = .v (.int .i64 r) ∧ H = [.row false (.ints .i64 a0_1), .row false (.bools a0_2), .row false (.trips a0_3)]) := by
  unfold laws_heldState at h
  refine FnA.of (N := 24) (pin := [0, 1, 2]) (rs := [.tmp 4]) Try.func11 rfl en11 rfl rfl (by simp) (by simp; try omega) ?_
  refine awp_reg ftCOk [(1, .v (.int .i64 a1)), (2, .pp 3 0)] [.row false (.ints .i64 a0_1), .row false (.bools a0_2), .row false (.trips a0_3), .box [.v (.int .i64 a0_0), .sl 0, .sl 1, .sl 2]] ?_
  refine awp_freeze 2 (by rfl) (by rfl) (by exact rfl) ?_
  replace h := bind_some h
  obtain ⟨y, hr0, h⟩ := h
  try dsimp only at h
  refine awp_to [(1, .v (.int .i64 y)), (2, .pp 3 0)] [.row false (.ints .i64 a0_1), .row false (.bools a0_2), .row false (.trips a0_3), .rbox [.v (.int .i64 a0_0), .sl 0, .sl 1, .sl 2]] ?_ ?_
  · clear h
    intro K hK
    refine awp_region ftCOk ?_
    simp (maxSteps := 4000000) only [go_sem, Nat.reduceBEq, Nat.reduceLT, Nat.reduceAdd, Nat.reduceLeDiff, Nat.reduceSub, Nat.reduceEqDiff, Int.reduceToNat, reduceCtorEq, ↓reduceIte]
    repeat' (first | refine And.intro ?_ ?_ | intro hg)
    all_goals (try simp (disch := omega) only [wrap_fits])
    all_goals first
      | (refine hK _ _ ?_; exact Red.auto)
      | exact trivial
      | assumption
      | omega
      | exact wrap_fits (by omega) (by omega)
      | (refine wpA_callA (k_laws_heldIntS a0_1 a1 (h := hr0)) [0] [] ?_
         rintro x Hc' ⟨rfl, rfl⟩ hlen
         refine vcOps_sound ftCOk ?_
         simp (maxSteps := 4000000) only [go_sem, Nat.reduceBEq, Nat.reduceLT, Nat.reduceAdd, Nat.reduceLeDiff, Nat.reduceSub, Nat.reduceEqDiff, Int.reduceToNat, reduceCtorEq, ↓reduceIte]
         repeat' (first | refine And.intro ?_ ?_ | intro hg)
         all_goals (try simp (disch := omega) only [wrap_fits])
         all_goals first
           | (refine hK _ _ ?_; exact Red.auto)
           | exact trivial
           | assumption
           | omega
           | exact wrap_fits (by omega) (by omega)
           | (simp_all; done)
           | (simp_all; omega))
      | (simp_all; done)
      | (simp_all; omega)
  · clear hr0
    refine awp_seq fun K2 hK2 => ?_
    refine awp_reg ftCOk [(1, .v (.int .i64 y)), (2, .pp 3 0), (10, .v (.bool (decide (y < 0))))] [.row false (.ints .i64 a0_1), .row false (.bools a0_2), .row false (.trips a0_3), .rbox [.v (.int .i64 a0_0), .sl 0, .sl 1, .sl 2]] ?_
    refine awp_cond (t := 10) rfl (fun hc3 => ?_) (fun hc3 => ?_)
    · replace h := bite_t h hc3
      refine awp_reg ftCOk [(4, .v (.int .i64 (-1)))] [.row false (.ints .i64 a0_1), .row false (.bools a0_2), .row false (.trips a0_3), .rbox [.v (.int .i64 a0_0), .sl 0, .sl 1, .sl 2]] ?_
      refine awp_ret ?_
      (try simp only [Thn, InBlk, ↓reduceIte, Nat.reduceEqDiff])
      obtain rfl := Option.some.inj h
      refine ⟨by simp, _, [0, 1, 2], (by simp only [go_sem, Nat.reduceBEq, Nat.reduceLT, Nat.reduceAdd, Nat.reduceLeDiff, Nat.reduceSub, Nat.reduceEqDiff, Int.reduceToNat, reduceCtorEq, ↓reduceIte]; exact rfl), ?_, ?_, ?_, ?_⟩
      · exact fin1
      · simp [selOk, pos]
      · simp
      · exact fin4
    · replace h := bite_f h hc3
      refine awp_skip ?_
      (try simp only [Thn, InBlk, ↓reduceIte, Nat.reduceEqDiff])
      refine hK2 _ _ ?_
      clear hK2
      replace h := bind_some h
      obtain ⟨y_1, hr0, h⟩ := h
      try dsimp only at h
      refine awp_to [(1, .v (.int .i64 y_1)), (2, .pp 3 0)] [.row false (.ints .i64 a0_1), .row false (.bools a0_2), .row false (.trips a0_3), .rbox [.v (.int .i64 a0_0), .sl 0, .sl 1, .sl 2]] ?_ ?_
      · clear h
        intro K hK
        refine awp_region ftCOk ?_
        simp (maxSteps := 4000000) only [go_sem, Nat.reduceBEq, Nat.reduceLT, Nat.reduceAdd, Nat.reduceLeDiff, Nat.reduceSub, Nat.reduceEqDiff, Int.reduceToNat, reduceCtorEq, ↓reduceIte]
        repeat' (first | refine And.intro ?_ ?_ | intro hg)
        all_goals (try simp (disch := omega) only [wrap_fits])
        all_goals first
          | (refine hK _ _ ?_; exact Red.auto)
          | exact trivial
          | assumption
          | omega
          | exact wrap_fits (by omega) (by omega)
          | (refine wpA_callA (k_laws_heldBoolS a0_2 y (h := hr0)) [1] [] ?_
             rintro x Hc' ⟨rfl, rfl⟩ hlen
             refine vcOps_sound ftCOk ?_
             simp (maxSteps := 4000000) only [go_sem, Nat.reduceBEq, Nat.reduceLT, Nat.reduceAdd, Nat.reduceLeDiff, Nat.reduceSub, Nat.reduceEqDiff, Int.reduceToNat, reduceCtorEq, ↓reduceIte]
             repeat' (first | refine And.intro ?_ ?_ | intro hg)
             all_goals (try simp (disch := omega) only [wrap_fits])
             all_goals first
               | (refine hK _ _ ?_; exact Red.auto)
               | exact trivial
               | assumption
               | omega
               | exact wrap_fits (by omega) (by omega)
               | (simp_all; done)
               | (simp_all; omega))
          | (simp_all; done)
          | (simp_all; omega)
      · clear hr0
        refine awp_seq fun K5 hK5 => ?_
        refine awp_reg ftCOk [(1, .v (.int .i64 y_1)), (2, .pp 3 0), (16, .v (.bool (decide (y_1 < 0))))] [.row false (.ints .i64 a0_1), .row false (.bools a0_2), .row false (.trips a0_3), .rbox [.v (.int .i64 a0_0), .sl 0, .sl 1, .sl 2]] ?_
        refine awp_cond (t := 16) rfl (fun hc6 => ?_) (fun hc6 => ?_)
        · replace h := bite_t h hc6
          refine awp_reg ftCOk [(4, .v (.int .i64 (-1)))] [.row false (.ints .i64 a0_1), .row false (.bools a0_2), .row false (.trips a0_3), .rbox [.v (.int .i64 a0_0), .sl 0, .sl 1, .sl 2]] ?_
          refine awp_ret ?_
          (try simp only [Thn, InBlk, ↓reduceIte, Nat.reduceEqDiff])
          obtain rfl := Option.some.inj h
          refine ⟨by simp, _, [0, 1, 2], (by simp only [go_sem, Nat.reduceBEq, Nat.reduceLT, Nat.reduceAdd, Nat.reduceLeDiff, Nat.reduceSub, Nat.reduceEqDiff, Int.reduceToNat, reduceCtorEq, ↓reduceIte]; exact rfl), ?_, ?_, ?_, ?_⟩
          · exact fin1
          · simp [selOk, pos]
          · simp
          · exact fin4
        · replace h := bite_f h hc6
          refine awp_skip ?_
          (try simp only [Thn, InBlk, ↓reduceIte, Nat.reduceEqDiff])
          refine hK5 _ _ ?_
          clear hK5
          replace h := bind_some h
          obtain ⟨y_2, hr0, h⟩ := h
          try dsimp only at h
          refine awp_to [(1, .v (.int .i64 y_2))] [.row false (.ints .i64 a0_1), .row false (.bools a0_2), .row false (.trips a0_3), .rbox [.v (.int .i64 a0_0), .sl 0, .sl 1, .sl 2]] ?_ ?_
          · clear h
            intro K hK
            refine awp_region ftCOk ?_
            simp (maxSteps := 4000000) only [go_sem, Nat.reduceBEq, Nat.reduceLT, Nat.reduceAdd, Nat.reduceLeDiff, Nat.reduceSub, Nat.reduceEqDiff, Int.reduceToNat, reduceCtorEq, ↓reduceIte]
            repeat' (first | refine And.intro ?_ ?_ | intro hg)
            all_goals (try simp (disch := omega) only [wrap_fits])
            all_goals first
              | (refine hK _ _ ?_; exact Red.auto)
              | exact trivial
              | assumption
              | omega
              | exact wrap_fits (by omega) (by omega)
              | (refine wpA_callA (k_laws_heldMessageS a0_3 y_1 (h := hr0)) [2] [] ?_
                 rintro x Hc' ⟨rfl, rfl⟩ hlen
                 refine vcOps_sound ftCOk ?_
                 simp (maxSteps := 4000000) only [go_sem, Nat.reduceBEq, Nat.reduceLT, Nat.reduceAdd, Nat.reduceLeDiff, Nat.reduceSub, Nat.reduceEqDiff, Int.reduceToNat, reduceCtorEq, ↓reduceIte]
                 repeat' (first | refine And.intro ?_ ?_ | intro hg)
                 all_goals (try simp (disch := omega) only [wrap_fits])
                 all_goals first
                   | (refine hK _ _ ?_; exact Red.auto)
                   | exact trivial
                   | assumption
                   | omega
                   | exact wrap_fits (by omega) (by omega)
                   | (simp_all; done)
                   | (simp_all; omega))
              | (simp_all; done)
              | (simp_all; omega)
          · clear hr0
            refine awp_seq fun K8 hK8 => ?_
            refine awp_reg ftCOk [(1, .v (.int .i64 y_2)), (22, .v (.bool (decide (y_2 < 0))))] [.row false (.ints .i64 a0_1), .row false (.bools a0_2), .row false (.trips a0_3), .rbox [.v (.int .i64 a0_0), .sl 0, .sl 1, .sl 2]] ?_
            refine awp_cond (t := 22) rfl (fun hc9 => ?_) (fun hc9 => ?_)
            · replace h := bite_t h hc9
              refine awp_reg ftCOk [(4, .v (.int .i64 (-1)))] [.row false (.ints .i64 a0_1), .row false (.bools a0_2), .row false (.trips a0_3), .rbox [.v (.int .i64 a0_0), .sl 0, .sl 1, .sl 2]] ?_
              refine awp_ret ?_
              (try simp only [Thn, InBlk, ↓reduceIte, Nat.reduceEqDiff])
              obtain rfl := Option.some.inj h
              refine ⟨by simp, _, [0, 1, 2], (by simp only [go_sem, Nat.reduceBEq, Nat.reduceLT, Nat.reduceAdd, Nat.reduceLeDiff, Nat.reduceSub, Nat.reduceEqDiff, Int.reduceToNat, reduceCtorEq, ↓reduceIte]; exact rfl), ?_, ?_, ?_, ?_⟩
              · exact fin1
              · simp [selOk, pos]
              · simp
              · exact fin4
            · replace h := bite_f h hc9
              refine awp_skip ?_
              (try simp only [Thn, InBlk, ↓reduceIte, Nat.reduceEqDiff])
              refine hK8 _ _ ?_
              clear hK8
              refine awp_reg ftCOk [(4, .v (.int .i64 y_2))] [.row false (.ints .i64 a0_1), .row false (.bools a0_2), .row false (.trips a0_3), .rbox [.v (.int .i64 a0_0), .sl 0, .sl 1, .sl 2]] ?_
              refine awp_ret ?_
              (try simp only [Thn, InBlk, ↓reduceIte, Nat.reduceEqDiff])
              obtain rfl := Option.some.inj h
              refine ⟨by simp, _, [0, 1, 2], (by simp only [go_sem, Nat.reduceBEq, Nat.reduceLT, Nat.reduceAdd, Nat.reduceLeDiff, Nat.reduceSub, Nat.reduceEqDiff, Int.reduceToNat, reduceCtorEq, ↓reduceIte]; exact rfl), ?_, ?_, ?_, ?_⟩
              · exact fin1
              · simp [selOk, pos]
              · simp
              · exact fin4
end Go.Proofs.Ytiladakokkhkoaa
