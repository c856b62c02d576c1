/- The code computes the functions that were taken out of it. -/
import Derived.Test.YtaogppnbeijjmaaLw1
set_option maxRecDepth 100000
set_option maxHeartbeats 4000000
set_option linter.unusedSimpArgs false
set_option linter.unusedVariables false
namespace Go.Proofs.Ytaogppnbeijjmaa
open Go Go.Av
attribute [local irreducible] wpA OpK awp
attribute [local go_sem] frs_nil frs_cons pw8_32 pw16_32 pw24_32 pw27_32 eqAgg eqAggV buildQ placesOf buildCells List.toList_toArray vcQg gfind gfree gput un3_agg unI_int unB_bool unK_int guardU skipV resVs resV vcD_nil vcD_cons vcT_fin vcT_free vcT_one vcT_two opS vcD1 roH roOb ftNone ftAdd oneOrTup AV.detup AV.ren AV.ren2 AV.ren1 pos selH AObj.ren fitAll fit fit1 fit1s matchAll matchOb exIds AObj.excl Env.killp pastH setAll upId AObj.past AObj.back AV.killp AV.killp1 AV.killp2 Nat.sub_self Nat.lt_irrefl Bool.or_self vcOps vcOp vcQs vcQ dstOk quiet eff pcall calleeF plain valsOf ev ofConst argEnv List.lookup Nat.add_eq decide_true decide_false Env.put binV wrapTo unV convV loadQ indexQ callQ builtinQ rd rdI globC AObj.globC partAV isAggD isArrayD addrAdd boxE storeE storeXE storeCE storeGE storeFE makeE makeXE makeNE makeGE buildXE buildNE buildGE nestZero Cont.child Cont.setChild buildSliceE buildFold appendE appendXE appendNE appendGE Cont.setG nestApp appendV promoteH sliceE boundAV subObj asCells Value.oneCell' contZero Cont.sets Cont.app Cont.sub Cont.len Cont.esz Cont.cell Cont.cells Cont.flat AV.det AV.det1 guardV AObj.unview AObj.kill Env.kill AV.kill AV.kill1 AV.kill2 fits64 Option.getD_some Option.getD_none Option.map_some Option.map_none Option.bind_some List.map_cons List.map_nil List.getElem?_cons_zero List.getElem?_cons_succ List.getElem?_nil true_and and_true and_false false_and List.getElem?_toArray List.cons_append List.nil_append List.length_cons List.length_nil List.set_cons_zero List.set_cons_succ List.take_succ_cons List.take_zero List.drop_succ_cons List.drop_zero List.drop_nil List.take_nil List.contains_cons List.contains_nil List.elem_cons List.elem_nil Bool.not_true Bool.not_false Bool.false_eq_true Bool.or_false Bool.or_true Bool.and_true Bool.and_false Bool.true_and Bool.false_and List.all_cons List.all_nil List.size_toArray Nat.lt_add_one Nat.zero_lt_succ Nat.one_ne_zero Nat.zero_ne_one and_self List.replicate_succ List.replicate_zero Int.toNat_natCast Int.toNat_zero Value.cells false_implies true_implies forall_const Thn InBlk Nat.zero_add Nat.add_zero Int.zero_add Ele Env.ren Option.some.injEq AV.v.injEq AV.sl.injEq AV.pp.injEq AV.ep.injEq AV.agg.injEq List.cons.injEq Value.int.injEq Value.bool.injEq Value.string.injEq true_or or_true or_false false_or tsz0 tby0 tz0 Try.underlying0 tsz1 tby1 tz1 Try.underlying1 tsz2 tby2 tz2 Try.underlying2 tsz3 tby3 tz3 Try.underlying3 tsz4 tby4 tz4 Try.underlying4 tsz5 tby5 tz5 Try.underlying5 tsz6 tby6 tz6 Try.underlying6 tsz7 tby7 tz7 Try.underlying7 fo7_0 fo7_1 fo7_2 fo7_3 tsz8 tby8 tz8 Try.underlying8 fo8_0 fo8_1 fo8_2 fo8_3 tsz9 tby9 Try.underlying9 tsz10 tby10 Try.underlying10 tsz12 tby12 tz12 Try.underlying12 tsz16 tby16 tz16 Try.underlying16 tsz17 tby17 tz17 Try.underlying17 tsz20 tby20 tz20 Try.underlying20 tsz21 tby21 tz21 Try.underlying21 tsz22 tby22 tz22 Try.underlying22 tsz23 tby23 tz23 Try.underlying23 tsz24 tby24 tz24 Try.underlying24 fo24_0 fo24_1 tsz25 tby25 tz25 Try.underlying25 fo25_0 fo25_1 tsz32 tby32 tz32 Try.underlying32 tsz34 tby34 tz34 Try.underlying34 peq34 fo34_0 fo34_1 fo34_2 tsz35 tby35 tz35 Try.underlying35 peq35 fo35_0 fo35_1 fo35_2 tsz36 tby36 tz36 Try.underlying36 tsz40 tby40 tz40 Try.underlying40 tsz44 tby44 tz44 Try.underlying44 tsz59 tby59 tz59 Try.underlying59 tsz61 tby61 tz61 Try.underlying61 tsz64 tby64 tz64 Try.underlying64 tsz65 tby65 tz65 Try.underlying65 fo65_0 fo65_1 tsz66 tby66 tz66 Try.underlying66 fo66_0 fo66_1 tsz74 tby74 tz74 Try.underlying74 tsz81 tby81 tz81 Try.underlying81 tsz85 tby85 tz85 Try.underlying85 peq85 fo85_0 fo85_1 fo85_2 tsz90 tby90 tz90 Try.underlying90 tsz91 tby91 tz91 Try.underlying91 tsz92 tby92 tz92 Try.underlying92 tsz94 tby94 tz94 Try.underlying94 tsz95 tby95 tz95 Try.underlying95 tsz96 tby96 tz96 Try.underlying96 tsz97 tby97 tz97 Try.underlying97 tsz98 tby98 tz98 Try.underlying98 tsz99 tby99 tz99 Try.underlying99 tsz100 tby100 tz100 Try.underlying100 tsz101 tby101 tz101 Try.underlying101 fo101_0 fo101_1 fo101_2 fo101_3 fo101_4 fo101_5 fo101_6 fo101_7 fo101_8 fo101_9 fo101_10 tsz102 tby102 tz102 Try.underlying102 fo102_0 fo102_1 fo102_2 fo102_3 fo102_4 fo102_5 fo102_6 fo102_7 fo102_8 fo102_9 fo102_10 tsz103 tby103 tz103 Try.underlying103 l1InG eqEdgeG l4BeforeG isNaNG cmpIntG cmpEndsG toEdgeG ftC
theorem k_impl_JoinParts (a0 : List (Int × List (Int × Int × Int))) {r : Int × (List (Int × Int × Int)) × Bool} (h : impl_JoinParts a0 = some r) :
    FnA Try.prog 13 [.sl 0] [.row false (.graphs a0)] [] (fun x H => x = .tup [.agg [.v (.int .i64 r.1), .sl 1], .v (.bool r.2.2)] ∧ H = [.row false (.graphs a0), .row true (.trips r.2.1)]) := by
  unfold impl_JoinParts at h
  refine FnA.of (N := 80) (pin := [0]) (rs := [.cell 2 25, .tmp 3]) Try.func13 rfl en13 rfl rfl (by simp) (by simp; try omega) ?_
  refine awp_reg ftCOk [(0, .sl 0), (2, .pp 1 0)] [.row false (.graphs a0), .box [.v (.int .i64 0), .v (.slice none 0 0)]] ?_
  refine awp_seq fun K2 hK2 => ?_
  replace h := bind_some h
  obtain ⟨y, hr0, h⟩ := h
  try dsimp only at h
  refine awp_to [(0, .sl 0), (2, .pp 1 0), (17, .v (.bool (!y)))] [.row false (.graphs a0), .box [.v (.int .i64 0), .v (.slice none 0 0)]] ?_ ?_
  · clear h
    intro K hK
    refine awp_region ftCOk ?_
    simp (maxSteps := 4000000) only [go_sem, Nat.reduceBEq, Nat.reduceLT, Nat.reduceAdd, Nat.reduceLeDiff, Nat.reduceSub, Nat.reduceEqDiff, Int.reduceToNat, reduceCtorEq, ↓reduceIte]
    repeat' (first | refine And.intro ?_ ?_ | intro hg)
    all_goals (try simp (disch := omega) only [wrap_fits])
    all_goals first
      | (refine hK _ _ ?_; exact Red.auto)
      | exact trivial
      | assumption
      | omega
      | exact wrap_fits (by omega) (by omega)
      | (refine wpA_callA (k_impl_workersFit (a0.length : Int) (h := hr0)) [] [] ?_
         rintro x Hc' ⟨rfl, rfl⟩ hlen
         refine vcOps_sound ftCOk ?_
         simp (maxSteps := 4000000) only [go_sem, Nat.reduceBEq, Nat.reduceLT, Nat.reduceAdd, Nat.reduceLeDiff, Nat.reduceSub, Nat.reduceEqDiff, Int.reduceToNat, reduceCtorEq, ↓reduceIte]
         repeat' (first | refine And.intro ?_ ?_ | intro hg)
         all_goals (try simp (disch := omega) only [wrap_fits])
         all_goals first
           | (refine hK _ _ ?_; exact Red.auto)
           | exact trivial
           | assumption
           | omega
           | exact wrap_fits (by omega) (by omega)
           | (simp_all; done)
           | (simp_all; omega))
      | (simp_all; done)
      | (simp_all; omega)
  · clear hr0
    refine awp_cond (t := 17) rfl (fun hc3 => ?_) (fun hc3 => ?_)
    · replace h := bite_t h hc3
      refine awp_reg ftCOk [(2, .pp 1 0), (3, .v (.bool false))] [.row false (.graphs a0), .box [.v (.int .i64 0), .v (.slice none 0 0)]] ?_
      refine awp_red (Red.nilCell (o := 1) (i := 1) (.trips []) rfl rfl rfl) ?_
      refine awp_ret ?_
      (try simp only [Thn, InBlk, ↓reduceIte, Nat.reduceEqDiff])
      obtain rfl := Option.some.inj h
      refine ⟨by simp, _, [0, 2], (by simp only [go_sem, Nat.reduceBEq, Nat.reduceLT, Nat.reduceAdd, Nat.reduceLeDiff, Nat.reduceSub, Nat.reduceEqDiff, Int.reduceToNat, reduceCtorEq, ↓reduceIte]; exact rfl), ?_, ?_, ?_, ?_⟩
      · first | exact trivial | exact ⟨trivial, trivial⟩ | exact ⟨trivial, trivial, trivial⟩ | exact ⟨trivial, trivial, trivial, trivial⟩ | (simp only [allP, and_true, true_and]; done) | (simp only [allP, and_true, true_and]; omega)
      · simp [selOk, pos]
      · simp
      · first | exact ⟨rfl, rfl⟩ | (simp only [go_sem, Nat.reduceBEq, Nat.reduceLT, Nat.reduceAdd, Nat.reduceLeDiff, Nat.reduceSub, Nat.reduceEqDiff, Int.reduceToNat, reduceCtorEq, ↓reduceIte]; done) | (simp [go_sem, Nat.reduceBEq, Nat.reduceLT, Nat.reduceAdd, Nat.reduceLeDiff, Nat.reduceSub, Nat.reduceEqDiff, Int.reduceToNat, reduceCtorEq, ↓reduceIte]; done) | (simp only [go_sem, Nat.reduceBEq, Nat.reduceLT, Nat.reduceAdd, Nat.reduceLeDiff, Nat.reduceSub, Nat.reduceEqDiff, Int.reduceToNat, reduceCtorEq, ↓reduceIte]; exact ⟨rfl, rfl⟩) | (simp_all [go_sem, Nat.reduceBEq, Nat.reduceLT, Nat.reduceAdd, Nat.reduceLeDiff, Nat.reduceSub, Nat.reduceEqDiff, Int.reduceToNat, reduceCtorEq, ↓reduceIte]; done)
    · replace h := bite_f h hc3
      refine awp_skip ?_
      (try simp only [Thn, InBlk, ↓reduceIte, Nat.reduceEqDiff])
      refine hK2 _ _ ?_
      clear hK2
      refine awp_seq fun K29 hK29 => ?_
      refine awp_reg ftCOk [(0, .sl 0), (2, .pp 1 0), (19, .sl 0), (20, .v (.int .i64 (a0.length : Int))), (21, .v (.int .i64 0))] [.row false (.graphs a0), .box [.v (.int .i64 0), .v (.slice none 0 0)]] ?_
      refine awp_block ?_
      replace h := bind_some h
      obtain ⟨x54, hx, h⟩ := h
      refine awp_loopL hx (fun (t21 : Int) => [(0, .sl 0), (2, .pp 1 0), (19, .sl 0), (20, .v (.int .i64 (a0.length : Int))), (21, .v (.int .i64 t21))]) (fun (t21 : Int) => [.row false (.graphs a0), .box [.v (.int .i64 0), .v (.slice none 0 0)]]) (Sum.elim (fun (_ : Unit) => Exit.exit 0) (fun (_ : Unit) => Exit.ret)) (Sum.elim (fun (_ : Unit) => [(0, .sl 0), (2, .pp 1 0)]) (fun (_ : Unit) => [(2, .pp 1 0), (3, .v (.bool false))])) (Sum.elim (fun (_ : Unit) => [.row false (.graphs a0), .box [.v (.int .i64 0), .v (.slice none 0 0)]]) (fun (_ : Unit) => [.row false (.graphs a0), .box [.v (.int .i64 0), .sl 2], .row true (.trips [])])) ?_ ?_ ?_ ?_
      · rintro (⟨⟩ | ⟨⟩) hy <;> cases hy
      · clear h hx
        exact Red.auto
      · clear h hx
        rintro t21 r h
        unfold impl_JoinParts_b0 at h
        try dsimp only at h
        try dsimp only
        refine awp_reg ftCOk [(0, .sl 0), (2, .pp 1 0), (19, .sl 0), (20, .v (.int .i64 (a0.length : Int))), (21, .v (.int .i64 t21)), (22, .v (.bool (decide (t21 < (a0.length : Int)))))] [.row false (.graphs a0), .box [.v (.int .i64 0), .v (.slice none 0 0)]] ?_
        refine awp_seq fun K47 hK47 => ?_
        refine awp_cond (t := 22) rfl (fun hc48 => ?_) (fun hc48 => ?_)
        · replace h := bite_t h hc48
          refine awp_skip ?_
          (try simp only [Thn, InBlk, ↓reduceIte, Nat.reduceEqDiff])
          refine hK47 _ _ ?_
          clear hK47
          refine awp_seq fun K51 hK51 => ?_
          refine awp_block ?_
          replace h := chk_some h
          obtain ⟨hpt53, h⟩ := h
          refine awp_take 0 t21.toNat 1 (by rfl) (by exact hpt53) (by rfl) (by exact rfl) ?_
          clear hpt53
          replace h := chk_some h
          obtain ⟨hp0, h⟩ := h
          refine awp_reg ftCOk [(0, .sl 0), (2, .pp 1 0), (5, .pp 3 0), (19, .sl 0), (20, .v (.int .i64 (a0.length : Int))), (21, .v (.int .i64 t21))] [.tak false (.graphs a0) t21.toNat 1 (some 2), .box [.v (.int .i64 0), .v (.slice none 0 0)], .row false (.trips ((a0.getD t21.toNat (0, [])).2)), .box [.v (.int .i64 ((a0.getD t21.toNat (0, [])).1)), .sl 2]] ?_
          clear hp0
          refine awp_put 0 2 (by rfl) (by rfl) (Cont.setChild_self (by rfl)) (by exact rfl) ?_
          replace h := bind_some h
          obtain ⟨y_1, hr0, h⟩ := h
          try dsimp only at h
          replace h := chk_some h
          obtain ⟨hp1, h⟩ := h
          refine awp_to [(0, .sl 0), (2, .pp 1 0), (19, .sl 0), (20, .v (.int .i64 (a0.length : Int))), (21, .v (.int .i64 t21)), (36, .v (.bool ((!y_1) || ((a0.getD t21.toNat (0, [])).1 != (a0.getD 0 (0, [])).1))))] [.row false (.graphs a0), .box [.v (.int .i64 0), .v (.slice none 0 0)], .row false (.trips ((a0.getD t21.toNat (0, [])).2)), .box [.v (.int .i64 ((a0.getD t21.toNat (0, [])).1)), .sl 2]] ?_ ?_
          · clear h
            intro K hK
            refine awp_drawT mixed ftCOk (.one 0 (.one 1 (.one 2 (.one 3 (.free 4 (.free 6 (.free 7 (.free 8 (.free 9 (.one 5 (.one 10 (.one 11 .fin)))))))))))) (by kernel_rfl) (by simp) ?_
            simp (maxSteps := 4000000) only [go_sem, Nat.reduceBEq, Nat.reduceLT, Nat.reduceAdd, Nat.reduceLeDiff, Nat.reduceSub, Nat.reduceEqDiff, Int.reduceToNat, reduceCtorEq, ↓reduceIte]
            repeat' (first | refine And.intro ?_ ?_ | intro hg)
            all_goals (try simp (disch := omega) only [wrap_fits])
            all_goals first
              | (refine hK _ _ ?_; exact Red.auto)
              | exact trivial
              | assumption
              | omega
              | exact wrap_fits (by omega) (by omega)
              | (have hq := hp1 (by first | assumption | (simp only [*, Bool.false_or, Bool.true_or, Bool.or_false, Bool.or_true, Bool.false_and, Bool.true_and, Bool.and_false, Bool.and_true, Bool.not_true, Bool.not_false, beq_self_eq_true]; done) | (simp_all; done)); omega)
              | (refine OpK_callA (k_impl_GraphValid ((a0.getD t21.toNat (0, [])).1) ((a0.getD t21.toNat (0, [])).2) (h := hr0)) [2] [] ?_
                 rintro x Hc' ⟨rfl, rfl⟩ hlen
                 simp (maxSteps := 4000000) only [go_sem, Nat.reduceBEq, Nat.reduceLT, Nat.reduceAdd, Nat.reduceLeDiff, Nat.reduceSub, Nat.reduceEqDiff, Int.reduceToNat, reduceCtorEq, ↓reduceIte]
                 repeat' (first | refine And.intro ?_ ?_ | intro hg)
                 all_goals (try simp (disch := omega) only [wrap_fits])
                 all_goals first
                   | (refine hK _ _ ?_; exact Red.auto)
                   | exact trivial
                   | assumption
                   | omega
                   | exact wrap_fits (by omega) (by omega)
                   | (have hq := hp1 (by first | assumption | (simp only [*, Bool.false_or, Bool.true_or, Bool.or_false, Bool.or_true, Bool.false_and, Bool.true_and, Bool.and_false, Bool.and_true, Bool.not_true, Bool.not_false, beq_self_eq_true]; done) | (simp_all; done)); omega)
                   | (simp (maxSteps := 4000000) only [go_sem, Nat.reduceBEq, Nat.reduceLT, Nat.reduceAdd, Nat.reduceLeDiff, Nat.reduceSub, Nat.reduceEqDiff, Int.reduceToNat, reduceCtorEq, ↓reduceIte]
                      repeat' (first | refine And.intro ?_ ?_ | intro hg)
                      all_goals (try simp (disch := omega) only [wrap_fits])
                      all_goals first | (refine hK _ _ ?_; exact Red.auto) | exact trivial | assumption | omega | exact wrap_fits (by omega) (by omega) | (have hq := hp1 (by first | assumption | (simp only [*, Bool.false_or, Bool.true_or, Bool.or_false, Bool.or_true, Bool.false_and, Bool.true_and, Bool.and_false, Bool.and_true, Bool.not_true, Bool.not_false, beq_self_eq_true]; done) | (simp_all; done)); omega))
                   | (simp_all; done)
                   | (simp_all; omega))
              | (simp_all; done)
              | (simp_all; omega)
          · clear hr0 hp1
            refine awp_cond (t := 36) rfl (fun hc52 => ?_) (fun hc52 => ?_)
            · replace h := bite_t h hc52
              refine awp_reg ftCOk [(2, .pp 1 0), (3, .v (.bool false))] [.row false (.graphs a0), .box [.v (.int .i64 0), .v (.slice none 0 0)], .row false (.trips ((a0.getD t21.toNat (0, [])).2)), .box [.v (.int .i64 ((a0.getD t21.toNat (0, [])).1)), .sl 2]] ?_
              refine awp_ret ?_
              (try simp only [Thn, InBlk, ↓reduceIte, Nat.reduceEqDiff])
              obtain rfl := Option.some.inj h
              refine LoopQ.out rfl ?_
              refine Red.trans (Red.nilCell (o := 1) (i := 1) (.trips []) rfl rfl rfl) ?_
              exact Red.selA [0, 1, 4] Red.auto
            · replace h := bite_f h hc52
              refine awp_skip ?_
              (try simp only [Thn, InBlk, ↓reduceIte, Nat.reduceEqDiff])
              (try simp only [Thn, InBlk, ↓reduceIte, Nat.reduceEqDiff])
              refine hK51 _ _ ?_
              clear hK51
              replace h := chk_some h
              obtain ⟨hp0, h⟩ := h
              refine awp_regE ftCOk [(0, .sl 0), (2, .pp 1 0), (19, .sl 0), (20, .v (.int .i64 (a0.length : Int))), (21, .v (.int .i64 (t21 + 1)))] [.row false (.graphs a0), .box [.v (.int .i64 0), .v (.slice none 0 0)], .row false (.trips ((a0.getD t21.toNat (0, [])).2)), .box [.v (.int .i64 ((a0.getD t21.toNat (0, [])).1)), .sl 2]] ?_
              clear hp0
              obtain rfl := Option.some.inj h
              refine LoopQ.next ?_
              exact Red.selA [0, 1] Red.auto
        · replace h := bite_f h hc48
          refine awp_exit ?_
          (try simp only [Thn, InBlk, ↓reduceIte, Nat.reduceEqDiff])
          obtain rfl := Option.some.inj h
          refine LoopQ.out rfl ?_
          exact Red.auto
      · clear hx
        rcases x54 with (⟨⟩ | ⟨⟩)
        · try dsimp only [Sum.elim_inl, Sum.elim_inr] at h
          try dsimp only [Sum.elim_inl, Sum.elim_inr]
          (try simp only [Thn, InBlk, ↓reduceIte, Nat.reduceEqDiff])
          (try simp only [Thn, InBlk, ↓reduceIte, Nat.reduceEqDiff])
          (try simp only [Thn, InBlk, ↓reduceIte, Nat.reduceEqDiff])
          refine hK29 _ _ ?_
          clear hK29
          replace h := chk_some h
          obtain ⟨hp0, h⟩ := h
          refine awp_reg ftCOk [(0, .sl 0), (2, .pp 1 0), (6, .pp 2 0)] [.row false (.graphs a0), .box [.v (.int .i64 0), .v (.slice none 0 0)], .box [.v (.int .i64 ((a0.getD 0 (0, [])).1)), .v (.slice none 0 0)]] ?_
          clear hp0
          refine awp_seq fun K348 hK348 => ?_
          refine awp_reg ftCOk [(2, .pp 1 0), (6, .pp 2 0), (44, .sl 0), (45, .v (.int .i64 (a0.length : Int))), (46, .v (.int .i64 0))] [.row false (.graphs a0), .box [.v (.int .i64 0), .v (.slice none 0 0)], .box [.v (.int .i64 ((a0.getD 0 (0, [])).1)), .v (.slice none 0 0)]] ?_
          refine awp_block ?_
          replace h := bind_some h
          obtain ⟨x641, hx, h⟩ := h
          refine awp_loopL hx (fun ((t46, t6_0, t6_1s) : Int × Int × (List (Int × Int × Int))) => [(2, .pp 1 0), (6, .pp 3 0), (44, .sl 0), (45, .v (.int .i64 (a0.length : Int))), (46, .v (.int .i64 t46))]) (fun ((t46, t6_0, t6_1s) : Int × Int × (List (Int × Int × Int))) => [.row false (.graphs a0), .box [.v (.int .i64 0), .sl 2], .row true (.trips []), .box [.v (.int .i64 t6_0), .sl 4], .row true (.trips t6_1s)]) (Sum.elim (fun ((t6_0_1, t6_1s_1) : Int × (List (Int × Int × Int))) => Exit.exit 2) (fun (_ : Unit) => Exit.ret)) (Sum.elim (fun ((t6_0_1, t6_1s_1) : Int × (List (Int × Int × Int))) => [(2, .pp 1 0), (6, .pp 3 0)]) (fun (_ : Unit) => [(2, .pp 1 0), (3, .v (.bool false))])) (Sum.elim (fun ((t6_0_1, t6_1s_1) : Int × (List (Int × Int × Int))) => [.row false (.graphs a0), .box [.v (.int .i64 0), .sl 2], .row true (.trips []), .box [.v (.int .i64 t6_0_1), .sl 4], .row true (.trips t6_1s_1)]) (fun (_ : Unit) => [.row false (.graphs a0), .box [.v (.int .i64 0), .sl 2], .row true (.trips [])])) ?_ ?_ ?_ ?_
          · rintro (⟨t6_0_1, t6_1s_1⟩ | ⟨⟩) hy <;> cases hy
          · clear h hx
            refine Red.trans (Red.nilCell (o := 1) (i := 1) (.trips []) rfl rfl rfl) ?_
            refine Red.trans (Red.nilCell (o := 2) (i := 1) (.trips []) rfl rfl rfl) ?_
            exact Red.selA [0, 1, 3, 2, 4] Red.auto
          · clear h hx
            rintro ⟨t46, t6_0, t6_1s⟩ r h
            unfold impl_JoinParts_b2 at h
            try dsimp only at h
            try dsimp only
            refine awp_reg ftCOk [(2, .pp 1 0), (6, .pp 3 0), (44, .sl 0), (45, .v (.int .i64 (a0.length : Int))), (46, .v (.int .i64 t46)), (47, .v (.bool (decide (t46 < (a0.length : Int)))))] [.row false (.graphs a0), .box [.v (.int .i64 0), .sl 2], .row true (.trips []), .box [.v (.int .i64 t6_0), .sl 4], .row true (.trips t6_1s)] ?_
            refine awp_seq fun K574 hK574 => ?_
            refine awp_cond (t := 47) rfl (fun hc575 => ?_) (fun hc575 => ?_)
            · replace h := bite_t h hc575
              refine awp_skip ?_
              (try simp only [Thn, InBlk, ↓reduceIte, Nat.reduceEqDiff])
              refine hK574 _ _ ?_
              clear hK574
              refine awp_seq fun K608 hK608 => ?_
              refine awp_block ?_
              replace h := chk_some h
              obtain ⟨hpt640, h⟩ := h
              refine awp_take 0 t46.toNat 1 (by rfl) (by exact hpt640) (by rfl) (by exact rfl) ?_
              clear hpt640
              replace h := chk_some h
              obtain ⟨hp0, h⟩ := h
              refine awp_reg ftCOk [(2, .pp 1 0), (6, .pp 3 0), (8, .pp 6 0), (44, .sl 0), (45, .v (.int .i64 (a0.length : Int))), (46, .v (.int .i64 t46))] [.tak false (.graphs a0) t46.toNat 1 (some 5), .box [.v (.int .i64 0), .sl 2], .row true (.trips []), .box [.v (.int .i64 t6_0), .sl 4], .row true (.trips t6_1s), .row false (.trips ((a0.getD t46.toNat (0, [])).2)), .box [.v (.int .i64 ((a0.getD t46.toNat (0, [])).1)), .sl 5]] ?_
              clear hp0
              refine awp_put 0 5 (by rfl) (by rfl) (Cont.setChild_self (by rfl)) (by exact rfl) ?_
              refine awp_reg ftCOk [(2, .pp 1 0), (6, .pp 3 0), (44, .sl 0), (45, .v (.int .i64 (a0.length : Int))), (46, .v (.int .i64 t46)), (51, .sl 5), (52, .v (.int .i64 (((a0.getD t46.toNat (0, [])).2).length : Int))), (53, .v (.int .i64 0))] [.row false (.graphs a0), .box [.v (.int .i64 0), .sl 2], .row true (.trips []), .box [.v (.int .i64 t6_0), .sl 4], .row true (.trips t6_1s), .row false (.trips ((a0.getD t46.toNat (0, [])).2)), .box [.v (.int .i64 ((a0.getD t46.toNat (0, [])).1)), .sl 5]] ?_
              refine awp_block ?_
              replace h := bind_some h
              obtain ⟨x639, hx, h⟩ := h
              refine awp_loopL hx (fun ((t53, t6_0_2, t6_1s_2) : Int × Int × (List (Int × Int × Int))) => [(2, .pp 1 0), (6, .pp 3 0), (44, .sl 0), (45, .v (.int .i64 (a0.length : Int))), (46, .v (.int .i64 t46)), (51, .sl 5), (52, .v (.int .i64 (((a0.getD t46.toNat (0, [])).2).length : Int))), (53, .v (.int .i64 t53))]) (fun ((t53, t6_0_2, t6_1s_2) : Int × Int × (List (Int × Int × Int))) => [.row false (.graphs a0), .box [.v (.int .i64 0), .sl 2], .row true (.trips []), .box [.v (.int .i64 t6_0_2), .sl 4], .row true (.trips t6_1s_2), .row false (.trips ((a0.getD t46.toNat (0, [])).2))]) (Sum.elim (fun ((t6_0_3, t6_1s_3) : Int × (List (Int × Int × Int))) => Exit.exit 4) (fun (_ : Unit) => Exit.ret)) (Sum.elim (fun ((t6_0_3, t6_1s_3) : Int × (List (Int × Int × Int))) => [(2, .pp 1 0), (6, .pp 3 0), (44, .sl 0), (45, .v (.int .i64 (a0.length : Int))), (46, .v (.int .i64 t46))]) (fun (_ : Unit) => [(2, .pp 1 0), (3, .v (.bool false))])) (Sum.elim (fun ((t6_0_3, t6_1s_3) : Int × (List (Int × Int × Int))) => [.row false (.graphs a0), .box [.v (.int .i64 0), .sl 2], .row true (.trips []), .box [.v (.int .i64 t6_0_3), .sl 4], .row true (.trips t6_1s_3)]) (fun (_ : Unit) => [.row false (.graphs a0), .box [.v (.int .i64 0), .sl 2], .row true (.trips [])])) ?_ ?_ ?_ ?_
              · rintro (⟨t6_0_3, t6_1s_3⟩ | ⟨⟩) hy <;> cases hy
              · clear h hx
                exact Red.selA [0, 1, 2, 3, 4, 5] Red.auto
              · clear h hx
                rintro ⟨t53, t6_0_2, t6_1s_2⟩ r h
                unfold impl_JoinParts_b1 at h
                try dsimp only at h
                try dsimp only
                refine awp_reg ftCOk [(2, .pp 1 0), (6, .pp 3 0), (44, .sl 0), (45, .v (.int .i64 (a0.length : Int))), (46, .v (.int .i64 t46)), (51, .sl 5), (52, .v (.int .i64 (((a0.getD t46.toNat (0, [])).2).length : Int))), (53, .v (.int .i64 t53)), (54, .v (.bool (decide (t53 < (((a0.getD t46.toNat (0, [])).2).length : Int)))))] [.row false (.graphs a0), .box [.v (.int .i64 0), .sl 2], .row true (.trips []), .box [.v (.int .i64 t6_0_2), .sl 4], .row true (.trips t6_1s_2), .row false (.trips ((a0.getD t46.toNat (0, [])).2))] ?_
                refine awp_seq fun K630 hK630 => ?_
                refine awp_cond (t := 54) rfl (fun hc631 => ?_) (fun hc631 => ?_)
                · replace h := bite_t h hc631
                  refine awp_skip ?_
                  (try simp only [Thn, InBlk, ↓reduceIte, Nat.reduceEqDiff])
                  refine hK630 _ _ ?_
                  clear hK630
                  refine awp_seq fun K635 hK635 => ?_
                  refine awp_block ?_
                  replace h := chk_some h
                  obtain ⟨hp0, h⟩ := h
                  refine awp_reg ftCOk [(2, .pp 1 0), (6, .pp 3 0), (10, .pp 6 0), (44, .sl 0), (45, .v (.int .i64 (a0.length : Int))), (46, .v (.int .i64 t46)), (51, .sl 5), (52, .v (.int .i64 (((a0.getD t46.toNat (0, [])).2).length : Int))), (53, .v (.int .i64 t53))] [.row false (.graphs a0), .box [.v (.int .i64 0), .sl 2], .row true (.trips []), .box [.v (.int .i64 t6_0_2), .sl 4], .row true (.trips t6_1s_2), .row false (.trips ((a0.getD t46.toNat (0, [])).2)), .box [.v (.int .i64 ((((a0.getD t46.toNat (0, [])).2).getD t53.toNat (0, 0, 0)).1)), .v (.int .i64 ((((a0.getD t46.toNat (0, [])).2).getD t53.toNat (0, 0, 0)).2.1)), .v (.int .i64 ((((a0.getD t46.toNat (0, [])).2).getD t53.toNat (0, 0, 0)).2.2))]] ?_
                  clear hp0
                  refine awp_reg ftCOk [(2, .pp 1 0), (6, .pp 3 0), (10, .pp 6 0), (11, .v (.int .i64 (t6_1s_2.length : Int))), (44, .sl 0), (45, .v (.int .i64 (a0.length : Int))), (46, .v (.int .i64 t46)), (51, .sl 5), (52, .v (.int .i64 (((a0.getD t46.toNat (0, [])).2).length : Int))), (53, .v (.int .i64 t53))] [.row false (.graphs a0), .box [.v (.int .i64 0), .sl 2], .row true (.trips []), .box [.v (.int .i64 t6_0_2), .sl 4], .row true (.trips t6_1s_2), .row false (.trips ((a0.getD t46.toNat (0, [])).2)), .box [.v (.int .i64 ((((a0.getD t46.toNat (0, [])).2).getD t53.toNat (0, 0, 0)).1)), .v (.int .i64 ((((a0.getD t46.toNat (0, [])).2).getD t53.toNat (0, 0, 0)).2.1)), .v (.int .i64 ((((a0.getD t46.toNat (0, [])).2).getD t53.toNat (0, 0, 0)).2.2))]] ?_
                  replace h := bind_some h
                  obtain ⟨⟨y_2, y_3, y_4⟩, hr0, h⟩ := h
                  try dsimp only at h
                  refine awp_to [(2, .pp 1 0), (6, .pp 3 0), (11, .v (.int .i64 (t6_1s_2.length : Int))), (12, .pp 8 0), (13, .v (.bool y_4)), (44, .sl 0), (45, .v (.int .i64 (a0.length : Int))), (46, .v (.int .i64 t46)), (51, .sl 5), (52, .v (.int .i64 (((a0.getD t46.toNat (0, [])).2).length : Int))), (53, .v (.int .i64 t53))] [.row false (.graphs a0), .box [.v (.int .i64 0), .sl 2], .row true (.trips []), .box [.v (.int .i64 t6_0_2), .sl 4], .row true (.trips t6_1s_2), .row false (.trips ((a0.getD t46.toNat (0, [])).2)), .box [.v (.int .i64 ((((a0.getD t46.toNat (0, [])).2).getD t53.toNat (0, 0, 0)).1)), .v (.int .i64 ((((a0.getD t46.toNat (0, [])).2).getD t53.toNat (0, 0, 0)).2.1)), .v (.int .i64 ((((a0.getD t46.toNat (0, [])).2).getD t53.toNat (0, 0, 0)).2.2))], .row true (.trips y_3), .box [.v (.int .i64 y_2), .sl 7]] ?_ ?_
                  · clear h
                    intro K hK
                    refine awp_region ftCOk ?_
                    simp (maxSteps := 4000000) only [go_sem, Nat.reduceBEq, Nat.reduceLT, Nat.reduceAdd, Nat.reduceLeDiff, Nat.reduceSub, Nat.reduceEqDiff, Int.reduceToNat, reduceCtorEq, ↓reduceIte]
                    repeat' (first | refine And.intro ?_ ?_ | intro hg)
                    all_goals (try simp (disch := omega) only [wrap_fits])
                    all_goals first
                      | (refine hK _ _ ?_; exact Red.auto)
                      | exact trivial
                      | assumption
                      | omega
                      | exact wrap_fits (by omega) (by omega)
                      | (refine wpA_callA (k_impl_AddEdge t6_0_2 t6_1s_2 ((((a0.getD t46.toNat (0, [])).2).getD t53.toNat (0, 0, 0)).1) ((((a0.getD t46.toNat (0, [])).2).getD t53.toNat (0, 0, 0)).2.1) ((((a0.getD t46.toNat (0, [])).2).getD t53.toNat (0, 0, 0)).2.2) (h := hr0)) [4] [] ?_
                         rintro x Hc' ⟨rfl, rfl⟩ hlen
                         refine vcOps_sound ftCOk ?_
                         simp (maxSteps := 4000000) only [go_sem, Nat.reduceBEq, Nat.reduceLT, Nat.reduceAdd, Nat.reduceLeDiff, Nat.reduceSub, Nat.reduceEqDiff, Int.reduceToNat, reduceCtorEq, ↓reduceIte]
                         repeat' (first | refine And.intro ?_ ?_ | intro hg)
                         all_goals (try simp (disch := omega) only [wrap_fits])
                         all_goals first
                           | (refine hK _ _ ?_; exact Red.auto)
                           | exact trivial
                           | assumption
                           | omega
                           | exact wrap_fits (by omega) (by omega)
                           | (simp_all; done)
                           | (simp_all; omega))
                      | (simp_all; done)
                      | (simp_all; omega)
                  · clear hr0
                    refine awp_seq fun K637 hK637 => ?_
                    refine awp_reg ftCOk [(2, .pp 1 0), (6, .pp 3 0), (12, .pp 8 0), (44, .sl 0), (45, .v (.int .i64 (a0.length : Int))), (46, .v (.int .i64 t46)), (51, .sl 5), (52, .v (.int .i64 (((a0.getD t46.toNat (0, [])).2).length : Int))), (53, .v (.int .i64 t53)), (74, .v (.bool ((!y_4) || ((y_3.length : Int) == (t6_1s_2.length : Int)))))] [.row false (.graphs a0), .box [.v (.int .i64 0), .sl 2], .row true (.trips []), .box [.v (.int .i64 t6_0_2), .sl 4], .row true (.trips t6_1s_2), .row false (.trips ((a0.getD t46.toNat (0, [])).2)), .box [.v (.int .i64 ((((a0.getD t46.toNat (0, [])).2).getD t53.toNat (0, 0, 0)).1)), .v (.int .i64 ((((a0.getD t46.toNat (0, [])).2).getD t53.toNat (0, 0, 0)).2.1)), .v (.int .i64 ((((a0.getD t46.toNat (0, [])).2).getD t53.toNat (0, 0, 0)).2.2))], .row true (.trips y_3), .box [.v (.int .i64 y_2), .sl 7]] ?_
                    refine awp_cond (t := 74) rfl (fun hc638 => ?_) (fun hc638 => ?_)
                    · replace h := bite_t h hc638
                      refine awp_reg ftCOk [(2, .pp 1 0), (3, .v (.bool false))] [.row false (.graphs a0), .box [.v (.int .i64 0), .v (.slice none 0 0)], .row true (.trips []), .box [.v (.int .i64 t6_0_2), .sl 4], .row true (.trips t6_1s_2), .row false (.trips ((a0.getD t46.toNat (0, [])).2)), .box [.v (.int .i64 ((((a0.getD t46.toNat (0, [])).2).getD t53.toNat (0, 0, 0)).1)), .v (.int .i64 ((((a0.getD t46.toNat (0, [])).2).getD t53.toNat (0, 0, 0)).2.1)), .v (.int .i64 ((((a0.getD t46.toNat (0, [])).2).getD t53.toNat (0, 0, 0)).2.2))], .row true (.trips y_3), .box [.v (.int .i64 y_2), .sl 7]] ?_
                      refine awp_ret ?_
                      (try simp only [Thn, InBlk, ↓reduceIte, Nat.reduceEqDiff])
                      obtain rfl := Option.some.inj h
                      refine LoopQ.out rfl ?_
                      refine Red.trans (Red.nilCell (o := 1) (i := 1) (.trips []) rfl rfl rfl) ?_
                      exact Red.selA [0, 1, 9] Red.auto
                    · replace h := bite_f h hc638
                      refine awp_skip ?_
                      (try simp only [Thn, InBlk, ↓reduceIte, Nat.reduceEqDiff])
                      refine hK637 _ _ ?_
                      clear hK637
                      refine awp_regE ftCOk [(2, .pp 1 0), (6, .pp 3 0), (44, .sl 0), (45, .v (.int .i64 (a0.length : Int))), (46, .v (.int .i64 t46)), (51, .sl 5), (52, .v (.int .i64 (((a0.getD t46.toNat (0, [])).2).length : Int))), (53, .v (.int .i64 t53))] [.row false (.graphs a0), .box [.v (.int .i64 0), .sl 2], .row true (.trips []), .box [.v (.int .i64 y_2), .sl 7], .row true (.trips t6_1s_2), .row false (.trips ((a0.getD t46.toNat (0, [])).2)), .box [.v (.int .i64 ((((a0.getD t46.toNat (0, [])).2).getD t53.toNat (0, 0, 0)).1)), .v (.int .i64 ((((a0.getD t46.toNat (0, [])).2).getD t53.toNat (0, 0, 0)).2.1)), .v (.int .i64 ((((a0.getD t46.toNat (0, [])).2).getD t53.toNat (0, 0, 0)).2.2))], .row true (.trips y_3), .box [.v (.int .i64 y_2), .sl 7]] ?_
                      (try simp only [Thn, InBlk, ↓reduceIte, Nat.reduceEqDiff])
                      (try simp only [Thn, InBlk, ↓reduceIte, Nat.reduceEqDiff])
                      refine hK635 _ _ ?_
                      clear hK635
                      replace h := chk_some h
                      obtain ⟨hp0, h⟩ := h
                      refine awp_regE ftCOk [(2, .pp 1 0), (6, .pp 3 0), (44, .sl 0), (45, .v (.int .i64 (a0.length : Int))), (46, .v (.int .i64 t46)), (51, .sl 5), (52, .v (.int .i64 (((a0.getD t46.toNat (0, [])).2).length : Int))), (53, .v (.int .i64 (t53 + 1)))] [.row false (.graphs a0), .box [.v (.int .i64 0), .sl 2], .row true (.trips []), .box [.v (.int .i64 y_2), .sl 7], .row true (.trips t6_1s_2), .row false (.trips ((a0.getD t46.toNat (0, [])).2)), .box [.v (.int .i64 ((((a0.getD t46.toNat (0, [])).2).getD t53.toNat (0, 0, 0)).1)), .v (.int .i64 ((((a0.getD t46.toNat (0, [])).2).getD t53.toNat (0, 0, 0)).2.1)), .v (.int .i64 ((((a0.getD t46.toNat (0, [])).2).getD t53.toNat (0, 0, 0)).2.2))], .row true (.trips y_3), .box [.v (.int .i64 y_2), .sl 7]] ?_
                      clear hp0
                      obtain rfl := Option.some.inj h
                      refine LoopQ.next ?_
                      exact Red.selA [0, 1, 2, 3, 7, 5] Red.auto
                · replace h := bite_f h hc631
                  refine awp_exit ?_
                  (try simp only [Thn, InBlk, ↓reduceIte, Nat.reduceEqDiff])
                  obtain rfl := Option.some.inj h
                  refine LoopQ.out rfl ?_
                  exact Red.selA [0, 1, 2, 3, 4] Red.auto
              · clear hx
                rcases x639 with (⟨t6_0_3, t6_1s_3⟩ | ⟨⟩)
                · try dsimp only [Sum.elim_inl, Sum.elim_inr] at h
                  try dsimp only [Sum.elim_inl, Sum.elim_inr]
                  (try simp only [Thn, InBlk, ↓reduceIte, Nat.reduceEqDiff])
                  (try simp only [Thn, InBlk, ↓reduceIte, Nat.reduceEqDiff])
                  (try simp only [Thn, InBlk, ↓reduceIte, Nat.reduceEqDiff])
                  (try simp only [Thn, InBlk, ↓reduceIte, Nat.reduceEqDiff])
                  refine hK608 _ _ ?_
                  clear hK608
                  replace h := chk_some h
                  obtain ⟨hp0, h⟩ := h
                  refine awp_regE ftCOk [(2, .pp 1 0), (6, .pp 3 0), (44, .sl 0), (45, .v (.int .i64 (a0.length : Int))), (46, .v (.int .i64 (t46 + 1)))] [.row false (.graphs a0), .box [.v (.int .i64 0), .sl 2], .row true (.trips []), .box [.v (.int .i64 t6_0_3), .sl 4], .row true (.trips t6_1s_3)] ?_
                  clear hp0
                  obtain rfl := Option.some.inj h
                  refine LoopQ.next ?_
                  exact Red.auto
                · try dsimp only [Sum.elim_inl, Sum.elim_inr] at h
                  try dsimp only [Sum.elim_inl, Sum.elim_inr]
                  (try simp only [Thn, InBlk, ↓reduceIte, Nat.reduceEqDiff])
                  obtain rfl := Option.some.inj h
                  refine LoopQ.out rfl ?_
                  exact Red.auto
            · replace h := bite_f h hc575
              refine awp_exit ?_
              (try simp only [Thn, InBlk, ↓reduceIte, Nat.reduceEqDiff])
              obtain rfl := Option.some.inj h
              refine LoopQ.out rfl ?_
              exact Red.auto
          · clear hx
            rcases x641 with (⟨t6_0_1, t6_1s_1⟩ | ⟨⟩)
            · try dsimp only [Sum.elim_inl, Sum.elim_inr] at h
              try dsimp only [Sum.elim_inl, Sum.elim_inr]
              (try simp only [Thn, InBlk, ↓reduceIte, Nat.reduceEqDiff])
              (try simp only [Thn, InBlk, ↓reduceIte, Nat.reduceEqDiff])
              (try simp only [Thn, InBlk, ↓reduceIte, Nat.reduceEqDiff])
              refine hK348 _ _ ?_
              clear hK348
              refine awp_reg ftCOk [(2, .pp 1 0), (3, .v (.bool true))] [.row false (.graphs a0), .box [.v (.int .i64 t6_0_1), .sl 4], .row true (.trips []), .box [.v (.int .i64 t6_0_1), .sl 4], .row true (.trips t6_1s_1)] ?_
              refine awp_ret ?_
              (try simp only [Thn, InBlk, ↓reduceIte, Nat.reduceEqDiff])
              obtain rfl := Option.some.inj h
              refine ⟨by simp, _, [0, 4], (by simp only [go_sem, Nat.reduceBEq, Nat.reduceLT, Nat.reduceAdd, Nat.reduceLeDiff, Nat.reduceSub, Nat.reduceEqDiff, Int.reduceToNat, reduceCtorEq, ↓reduceIte]; exact rfl), ?_, ?_, ?_, ?_⟩
              · first | exact trivial | exact ⟨trivial, trivial⟩ | exact ⟨trivial, trivial, trivial⟩ | exact ⟨trivial, trivial, trivial, trivial⟩ | (simp only [allP, and_true, true_and]; done) | (simp only [allP, and_true, true_and]; omega)
              · simp [selOk, pos]
              · simp
              · first | exact ⟨rfl, rfl⟩ | (simp only [go_sem, Nat.reduceBEq, Nat.reduceLT, Nat.reduceAdd, Nat.reduceLeDiff, Nat.reduceSub, Nat.reduceEqDiff, Int.reduceToNat, reduceCtorEq, ↓reduceIte]; done) | (simp [go_sem, Nat.reduceBEq, Nat.reduceLT, Nat.reduceAdd, Nat.reduceLeDiff, Nat.reduceSub, Nat.reduceEqDiff, Int.reduceToNat, reduceCtorEq, ↓reduceIte]; done) | (simp only [go_sem, Nat.reduceBEq, Nat.reduceLT, Nat.reduceAdd, Nat.reduceLeDiff, Nat.reduceSub, Nat.reduceEqDiff, Int.reduceToNat, reduceCtorEq, ↓reduceIte]; exact ⟨rfl, rfl⟩) | (simp_all [go_sem, Nat.reduceBEq, Nat.reduceLT, Nat.reduceAdd, Nat.reduceLeDiff, Nat.reduceSub, Nat.reduceEqDiff, Int.reduceToNat, reduceCtorEq, ↓reduceIte]; done)
            · try dsimp only [Sum.elim_inl, Sum.elim_inr] at h
              try dsimp only [Sum.elim_inl, Sum.elim_inr]
              (try simp only [Thn, InBlk, ↓reduceIte, Nat.reduceEqDiff])
              obtain rfl := Option.some.inj h
              refine ⟨by simp, _, [0, 2], (by simp only [go_sem, Nat.reduceBEq, Nat.reduceLT, Nat.reduceAdd, Nat.reduceLeDiff, Nat.reduceSub, Nat.reduceEqDiff, Int.reduceToNat, reduceCtorEq, ↓reduceIte]; exact rfl), ?_, ?_, ?_, ?_⟩
              · first | exact trivial | exact ⟨trivial, trivial⟩ | exact ⟨trivial, trivial, trivial⟩ | exact ⟨trivial, trivial, trivial, trivial⟩ | (simp only [allP, and_true, true_and]; done) | (simp only [allP, and_true, true_and]; omega)
              · simp [selOk, pos]
              · simp
              · first | exact ⟨rfl, rfl⟩ | (simp only [go_sem, Nat.reduceBEq, Nat.reduceLT, Nat.reduceAdd, Nat.reduceLeDiff, Nat.reduceSub, Nat.reduceEqDiff, Int.reduceToNat, reduceCtorEq, ↓reduceIte]; done) | (simp [go_sem, Nat.reduceBEq, Nat.reduceLT, Nat.reduceAdd, Nat.reduceLeDiff, Nat.reduceSub, Nat.reduceEqDiff, Int.reduceToNat, reduceCtorEq, ↓reduceIte]; done) | (simp only [go_sem, Nat.reduceBEq, Nat.reduceLT, Nat.reduceAdd, Nat.reduceLeDiff, Nat.reduceSub, Nat.reduceEqDiff, Int.reduceToNat, reduceCtorEq, ↓reduceIte]; exact ⟨rfl, rfl⟩) | (simp_all [go_sem, Nat.reduceBEq, Nat.reduceLT, Nat.reduceAdd, Nat.reduceLeDiff, Nat.reduceSub, Nat.reduceEqDiff, Int.reduceToNat, reduceCtorEq, ↓reduceIte]; done)
        · try dsimp only [Sum.elim_inl, Sum.elim_inr] at h
          try dsimp only [Sum.elim_inl, Sum.elim_inr]
          (try simp only [Thn, InBlk, ↓reduceIte, Nat.reduceEqDiff])
          obtain rfl := Option.some.inj h
          refine ⟨by simp, _, [0, 2], (by simp only [go_sem, Nat.reduceBEq, Nat.reduceLT, Nat.reduceAdd, Nat.reduceLeDiff, Nat.reduceSub, Nat.reduceEqDiff, Int.reduceToNat, reduceCtorEq, ↓reduceIte]; exact rfl), ?_, ?_, ?_, ?_⟩
          · first | exact trivial | exact ⟨trivial, trivial⟩ | exact ⟨trivial, trivial, trivial⟩ | exact ⟨trivial, trivial, trivial, trivial⟩ | (simp only [allP, and_true, true_and]; done) | (simp only [allP, and_true, true_and]; omega)
          · simp [selOk, pos]
          · simp
          · first | exact ⟨rfl, rfl⟩ | (simp only [go_sem, Nat.reduceBEq, Nat.reduceLT, Nat.reduceAdd, Nat.reduceLeDiff, Nat.reduceSub, Nat.reduceEqDiff, Int.reduceToNat, reduceCtorEq, ↓reduceIte]; done) | (simp [go_sem, Nat.reduceBEq, Nat.reduceLT, Nat.reduceAdd, Nat.reduceLeDiff, Nat.reduceSub, Nat.reduceEqDiff, Int.reduceToNat, reduceCtorEq, ↓reduceIte]; done) | (simp only [go_sem, Nat.reduceBEq, Nat.reduceLT, Nat.reduceAdd, Nat.reduceLeDiff, Nat.reduceSub, Nat.reduceEqDiff, Int.reduceToNat, reduceCtorEq, ↓reduceIte]; exact ⟨rfl, rfl⟩) | (simp_all [go_sem, Nat.reduceBEq, Nat.reduceLT, Nat.reduceAdd, Nat.reduceLeDiff, Nat.reduceSub, Nat.reduceEqDiff, Int.reduceToNat, reduceCtorEq, ↓reduceIte]; done)
theorem k_laws_eqEdgeS (a0 : List (Int × Int × Int)) (a1 : List (Int × Int × Int)) {r : Bool} (h : laws_eqEdgeS a0 a1 = some r) :
    FnA Try.prog 43 [.sl 0, .sl 1] [.row false (.trips a0), .row false (.trips a1)] [] (fun x H => x = .v (.bool r) ∧ H = [.row false (.trips a0), .row false (.trips a1)]) := by
  unfold laws_eqEdgeS at h
  refine FnA.of (N := 27) (pin := [0, 1]) (rs := [.tmp 4]) Try.func43 rfl en43 rfl rfl (by simp) (by simp; try omega) ?_
  refine awp_reg ftCOk [(0, .sl 0), (1, .sl 1)] [.row false (.trips a0), .row false (.trips a1)] ?_
  refine awp_seq fun K2 hK2 => ?_
  refine awp_reg ftCOk [(0, .sl 0), (1, .sl 1), (10, .v (.bool ((a0.length : Int) != (a1.length : Int))))] [.row false (.trips a0), .row false (.trips a1)] ?_
  refine awp_cond (t := 10) rfl (fun hc3 => ?_) (fun hc3 => ?_)
  · replace h := bite_t h hc3
    refine awp_reg ftCOk [(4, .v (.bool false))] [.row false (.trips a0), .row false (.trips a1)] ?_
    refine awp_ret ?_
    (try simp only [Thn, InBlk, ↓reduceIte, Nat.reduceEqDiff])
    obtain rfl := Option.some.inj h
    refine ⟨by simp, _, [0, 1], (by simp only [go_sem, Nat.reduceBEq, Nat.reduceLT, Nat.reduceAdd, Nat.reduceLeDiff, Nat.reduceSub, Nat.reduceEqDiff, Int.reduceToNat, reduceCtorEq, ↓reduceIte]; exact rfl), ?_, ?_, ?_, ?_⟩
    · first | exact trivial | exact ⟨trivial, trivial⟩ | exact ⟨trivial, trivial, trivial⟩ | exact ⟨trivial, trivial, trivial, trivial⟩ | (simp only [allP, and_true, true_and]; done) | (simp only [allP, and_true, true_and]; omega)
    · simp [selOk, pos]
    · simp
    · first | exact ⟨rfl, rfl⟩ | (simp only [go_sem, Nat.reduceBEq, Nat.reduceLT, Nat.reduceAdd, Nat.reduceLeDiff, Nat.reduceSub, Nat.reduceEqDiff, Int.reduceToNat, reduceCtorEq, ↓reduceIte]; done) | (simp [go_sem, Nat.reduceBEq, Nat.reduceLT, Nat.reduceAdd, Nat.reduceLeDiff, Nat.reduceSub, Nat.reduceEqDiff, Int.reduceToNat, reduceCtorEq, ↓reduceIte]; done) | (simp only [go_sem, Nat.reduceBEq, Nat.reduceLT, Nat.reduceAdd, Nat.reduceLeDiff, Nat.reduceSub, Nat.reduceEqDiff, Int.reduceToNat, reduceCtorEq, ↓reduceIte]; exact ⟨rfl, rfl⟩) | (simp_all [go_sem, Nat.reduceBEq, Nat.reduceLT, Nat.reduceAdd, Nat.reduceLeDiff, Nat.reduceSub, Nat.reduceEqDiff, Int.reduceToNat, reduceCtorEq, ↓reduceIte]; done)
  · replace h := bite_f h hc3
    refine awp_skip ?_
    (try simp only [Thn, InBlk, ↓reduceIte, Nat.reduceEqDiff])
    refine hK2 _ _ ?_
    clear hK2
    refine awp_seq fun K23 hK23 => ?_
    refine awp_reg ftCOk [(0, .sl 0), (1, .sl 1), (5, .v (.int .i64 0))] [.row false (.trips a0), .row false (.trips a1)] ?_
    refine awp_block ?_
    replace h := bind_some h
    obtain ⟨x42, hx, h⟩ := h
    refine awp_loopL hx (fun (t5 : Int) => [(0, .sl 0), (1, .sl 1), (5, .v (.int .i64 t5))]) (fun (t5 : Int) => [.row false (.trips a0), .row false (.trips a1)]) (Sum.elim (fun (_ : Unit) => Exit.exit 0) (fun (_ : Unit) => Exit.ret)) (Sum.elim (fun (_ : Unit) => []) (fun (_ : Unit) => [(4, .v (.bool false))])) (Sum.elim (fun (_ : Unit) => [.row false (.trips a0), .row false (.trips a1)]) (fun (_ : Unit) => [.row false (.trips a0), .row false (.trips a1)])) ?_ ?_ ?_ ?_
    · rintro (⟨⟩ | ⟨⟩) hy <;> cases hy
    · clear h hx
      exact Red.auto
    · clear h hx
      rintro t5 r h
      unfold laws_eqEdgeS_b0 at h
      try dsimp only at h
      try dsimp only
      refine awp_seq fun K37 hK37 => ?_
      refine awp_reg ftCOk [(0, .sl 0), (1, .sl 1), (5, .v (.int .i64 t5)), (14, .v (.bool (decide (t5 < (a0.length : Int)))))] [.row false (.trips a0), .row false (.trips a1)] ?_
      refine awp_cond (t := 14) rfl (fun hc38 => ?_) (fun hc38 => ?_)
      · replace h := bite_t h hc38
        refine awp_skip ?_
        (try simp only [Thn, InBlk, ↓reduceIte, Nat.reduceEqDiff])
        refine hK37 _ _ ?_
        clear hK37
        refine awp_seq fun K40 hK40 => ?_
        refine awp_block ?_
        replace h := chk_some h
        obtain ⟨hp0, h⟩ := h
        replace h := chk_some h
        obtain ⟨hp1, h⟩ := h
        refine awp_regQ mixed ftCOk [(0, .sl 0), (1, .sl 1), (5, .v (.int .i64 t5)), (26, .v (.bool (!(decide ((a0.getD t5.toNat (0, 0, 0)).1 = (a1.getD t5.toNat (0, 0, 0)).1 ∧ (a0.getD t5.toNat (0, 0, 0)).2.1 = (a1.getD t5.toNat (0, 0, 0)).2.1 ∧ (a0.getD t5.toNat (0, 0, 0)).2.2 = (a1.getD t5.toNat (0, 0, 0)).2.2)))))] [.row false (.trips a0), .row false (.trips a1)] ?_
        clear hp0 hp1
        refine awp_cond (t := 26) rfl (fun hc41 => ?_) (fun hc41 => ?_)
        · replace h := bite_t h hc41
          refine awp_reg ftCOk [(4, .v (.bool false))] [.row false (.trips a0), .row false (.trips a1)] ?_
          refine awp_ret ?_
          (try simp only [Thn, InBlk, ↓reduceIte, Nat.reduceEqDiff])
          obtain rfl := Option.some.inj h
          refine LoopQ.out rfl ?_
          exact Red.auto
        · replace h := bite_f h hc41
          refine awp_skip ?_
          (try simp only [Thn, InBlk, ↓reduceIte, Nat.reduceEqDiff])
          (try simp only [Thn, InBlk, ↓reduceIte, Nat.reduceEqDiff])
          refine hK40 _ _ ?_
          clear hK40
          replace h := chk_some h
          obtain ⟨hp0, h⟩ := h
          refine awp_regE ftCOk [(0, .sl 0), (1, .sl 1), (5, .v (.int .i64 (t5 + 1)))] [.row false (.trips a0), .row false (.trips a1)] ?_
          clear hp0
          obtain rfl := Option.some.inj h
          refine LoopQ.next ?_
          exact Red.auto
      · replace h := bite_f h hc38
        refine awp_exit ?_
        (try simp only [Thn, InBlk, ↓reduceIte, Nat.reduceEqDiff])
        obtain rfl := Option.some.inj h
        refine LoopQ.out rfl ?_
        exact Red.auto
    · clear hx
      rcases x42 with (⟨⟩ | ⟨⟩)
      · try dsimp only [Sum.elim_inl, Sum.elim_inr] at h
        try dsimp only [Sum.elim_inl, Sum.elim_inr]
        (try simp only [Thn, InBlk, ↓reduceIte, Nat.reduceEqDiff])
        (try simp only [Thn, InBlk, ↓reduceIte, Nat.reduceEqDiff])
        (try simp only [Thn, InBlk, ↓reduceIte, Nat.reduceEqDiff])
        refine hK23 _ _ ?_
        clear hK23
        refine awp_reg ftCOk [(4, .v (.bool true))] [.row false (.trips a0), .row false (.trips a1)] ?_
        refine awp_ret ?_
        (try simp only [Thn, InBlk, ↓reduceIte, Nat.reduceEqDiff])
        obtain rfl := Option.some.inj h
        refine ⟨by simp, _, [0, 1], (by simp only [go_sem, Nat.reduceBEq, Nat.reduceLT, Nat.reduceAdd, Nat.reduceLeDiff, Nat.reduceSub, Nat.reduceEqDiff, Int.reduceToNat, reduceCtorEq, ↓reduceIte]; exact rfl), ?_, ?_, ?_, ?_⟩
        · first | exact trivial | exact ⟨trivial, trivial⟩ | exact ⟨trivial, trivial, trivial⟩ | exact ⟨trivial, trivial, trivial, trivial⟩ | (simp only [allP, and_true, true_and]; done) | (simp only [allP, and_true, true_and]; omega)
        · simp [selOk, pos]
        · simp
        · first | exact ⟨rfl, rfl⟩ | (simp only [go_sem, Nat.reduceBEq, Nat.reduceLT, Nat.reduceAdd, Nat.reduceLeDiff, Nat.reduceSub, Nat.reduceEqDiff, Int.reduceToNat, reduceCtorEq, ↓reduceIte]; done) | (simp [go_sem, Nat.reduceBEq, Nat.reduceLT, Nat.reduceAdd, Nat.reduceLeDiff, Nat.reduceSub, Nat.reduceEqDiff, Int.reduceToNat, reduceCtorEq, ↓reduceIte]; done) | (simp only [go_sem, Nat.reduceBEq, Nat.reduceLT, Nat.reduceAdd, Nat.reduceLeDiff, Nat.reduceSub, Nat.reduceEqDiff, Int.reduceToNat, reduceCtorEq, ↓reduceIte]; exact ⟨rfl, rfl⟩) | (simp_all [go_sem, Nat.reduceBEq, Nat.reduceLT, Nat.reduceAdd, Nat.reduceLeDiff, Nat.reduceSub, Nat.reduceEqDiff, Int.reduceToNat, reduceCtorEq, ↓reduceIte]; done)
      · try dsimp only [Sum.elim_inl, Sum.elim_inr] at h
        try dsimp only [Sum.elim_inl, Sum.elim_inr]
        (try simp only [Thn, InBlk, ↓reduceIte, Nat.reduceEqDiff])
        obtain rfl := Option.some.inj h
        refine ⟨by simp, _, [0, 1], (by simp only [go_sem, Nat.reduceBEq, Nat.reduceLT, Nat.reduceAdd, Nat.reduceLeDiff, Nat.reduceSub, Nat.reduceEqDiff, Int.reduceToNat, reduceCtorEq, ↓reduceIte]; exact rfl), ?_, ?_, ?_, ?_⟩
        · first | exact trivial | exact ⟨trivial, trivial⟩ | exact ⟨trivial, trivial, trivial⟩ | exact ⟨trivial, trivial, trivial, trivial⟩ | (simp only [allP, and_true, true_and]; done) | (simp only [allP, and_true, true_and]; omega)
        · simp [selOk, pos]
        · simp
        · first | exact ⟨rfl, rfl⟩ | (simp only [go_sem, Nat.reduceBEq, Nat.reduceLT, Nat.reduceAdd, Nat.reduceLeDiff, Nat.reduceSub, Nat.reduceEqDiff, Int.reduceToNat, reduceCtorEq, ↓reduceIte]; done) | (simp [go_sem, Nat.reduceBEq, Nat.reduceLT, Nat.reduceAdd, Nat.reduceLeDiff, Nat.reduceSub, Nat.reduceEqDiff, Int.reduceToNat, reduceCtorEq, ↓reduceIte]; done) | (simp only [go_sem, Nat.reduceBEq, Nat.reduceLT, Nat.reduceAdd, Nat.reduceLeDiff, Nat.reduceSub, Nat.reduceEqDiff, Int.reduceToNat, reduceCtorEq, ↓reduceIte]; exact ⟨rfl, rfl⟩) | (simp_all [go_sem, Nat.reduceBEq, Nat.reduceLT, Nat.reduceAdd, Nat.reduceLeDiff, Nat.reduceSub, Nat.reduceEqDiff, Int.reduceToNat, reduceCtorEq, ↓reduceIte]; done)
theorem k_laws_eqGraph (a0_0 : Int) (a0_1 : List (Int × Int × Int)) (a1_0 : Int) (a1_1 : List (Int × Int × Int)) {r : Bool} (h : laws_eqGraph a0_0 a0_1 a1_0 a1_1 = some r) :
    FnA Try.prog 19 [.agg [.v (.int .i64 a0_0), .sl 0], .agg [.v (.int .i64 a1_0), .sl 1]] [.row false (.trips a0_1), .row false (.trips a1_1)] [] (fun x H => x = .v (.bool r) ∧ H = [.row false (.trips a0_1), .row false (.trips a1_1)]) := by
  unfold laws_eqGraph at h
  refine FnA.of (N := 16) (pin := [0, 1]) (rs := [.tmp 4]) Try.func19 rfl en19 rfl rfl (by simp) (by simp; try omega) ?_
  refine awp_reg ftCOk [(2, .pp 2 0), (3, .pp 3 0)] [.row false (.trips a0_1), .row false (.trips a1_1), .box [.v (.int .i64 a0_0), .sl 0], .box [.v (.int .i64 a1_0), .sl 1]] ?_
  refine awp_freeze 2 (by rfl) (by rfl) (by exact rfl) ?_
  refine awp_freeze 3 (by rfl) (by rfl) (by exact rfl) ?_
  refine awp_seq fun K2 hK2 => ?_
  refine awp_reg ftCOk [(2, .pp 2 0), (3, .pp 3 0), (9, .v (.bool (a0_0 != a1_0)))] [.row false (.trips a0_1), .row false (.trips a1_1), .rbox [.v (.int .i64 a0_0), .sl 0], .rbox [.v (.int .i64 a1_0), .sl 1]] ?_
  refine awp_cond (t := 9) rfl (fun hc3 => ?_) (fun hc3 => ?_)
  · replace h := bite_t h hc3
    refine awp_reg ftCOk [(4, .v (.bool false))] [.row false (.trips a0_1), .row false (.trips a1_1), .rbox [.v (.int .i64 a0_0), .sl 0], .rbox [.v (.int .i64 a1_0), .sl 1]] ?_
    refine awp_ret ?_
    (try simp only [Thn, InBlk, ↓reduceIte, Nat.reduceEqDiff])
    obtain rfl := Option.some.inj h
    refine ⟨by simp, _, [0, 1], (by simp only [go_sem, Nat.reduceBEq, Nat.reduceLT, Nat.reduceAdd, Nat.reduceLeDiff, Nat.reduceSub, Nat.reduceEqDiff, Int.reduceToNat, reduceCtorEq, ↓reduceIte]; exact rfl), ?_, ?_, ?_, ?_⟩
    · first | exact trivial | exact ⟨trivial, trivial⟩ | exact ⟨trivial, trivial, trivial⟩ | exact ⟨trivial, trivial, trivial, trivial⟩ | (simp only [allP, and_true, true_and]; done) | (simp only [allP, and_true, true_and]; omega)
    · simp [selOk, pos]
    · simp
    · first | exact ⟨rfl, rfl⟩ | (simp only [go_sem, Nat.reduceBEq, Nat.reduceLT, Nat.reduceAdd, Nat.reduceLeDiff, Nat.reduceSub, Nat.reduceEqDiff, Int.reduceToNat, reduceCtorEq, ↓reduceIte]; done) | (simp [go_sem, Nat.reduceBEq, Nat.reduceLT, Nat.reduceAdd, Nat.reduceLeDiff, Nat.reduceSub, Nat.reduceEqDiff, Int.reduceToNat, reduceCtorEq, ↓reduceIte]; done) | (simp only [go_sem, Nat.reduceBEq, Nat.reduceLT, Nat.reduceAdd, Nat.reduceLeDiff, Nat.reduceSub, Nat.reduceEqDiff, Int.reduceToNat, reduceCtorEq, ↓reduceIte]; exact ⟨rfl, rfl⟩) | (simp_all [go_sem, Nat.reduceBEq, Nat.reduceLT, Nat.reduceAdd, Nat.reduceLeDiff, Nat.reduceSub, Nat.reduceEqDiff, Int.reduceToNat, reduceCtorEq, ↓reduceIte]; done)
  · replace h := bite_f h hc3
    refine awp_skip ?_
    (try simp only [Thn, InBlk, ↓reduceIte, Nat.reduceEqDiff])
    refine hK2 _ _ ?_
    clear hK2
    refine awp_seq fun K5 hK5 => ?_
    replace h := bind_some h
    obtain ⟨y, hr0, h⟩ := h
    try dsimp only at h
    refine awp_to [(15, .v (.bool (!y)))] [.row false (.trips a0_1), .row false (.trips a1_1), .rbox [.v (.int .i64 a0_0), .sl 0], .rbox [.v (.int .i64 a1_0), .sl 1]] ?_ ?_
    · clear h
      intro K hK
      refine awp_region ftCOk ?_
      simp (maxSteps := 4000000) only [go_sem, Nat.reduceBEq, Nat.reduceLT, Nat.reduceAdd, Nat.reduceLeDiff, Nat.reduceSub, Nat.reduceEqDiff, Int.reduceToNat, reduceCtorEq, ↓reduceIte]
      repeat' (first | refine And.intro ?_ ?_ | intro hg)
      all_goals (try simp (disch := omega) only [wrap_fits])
      all_goals first
        | (refine hK _ _ ?_; exact Red.auto)
        | exact trivial
        | assumption
        | omega
        | exact wrap_fits (by omega) (by omega)
        | (refine wpA_callA (k_laws_eqEdgeS a0_1 a1_1 (h := hr0)) [0, 1] [] ?_
           rintro x Hc' ⟨rfl, rfl⟩ hlen
           refine vcOps_sound ftCOk ?_
           simp (maxSteps := 4000000) only [go_sem, Nat.reduceBEq, Nat.reduceLT, Nat.reduceAdd, Nat.reduceLeDiff, Nat.reduceSub, Nat.reduceEqDiff, Int.reduceToNat, reduceCtorEq, ↓reduceIte]
           repeat' (first | refine And.intro ?_ ?_ | intro hg)
           all_goals (try simp (disch := omega) only [wrap_fits])
           all_goals first
             | (refine hK _ _ ?_; exact Red.auto)
             | exact trivial
             | assumption
             | omega
             | exact wrap_fits (by omega) (by omega)
             | (simp_all; done)
             | (simp_all; omega))
        | (simp_all; done)
        | (simp_all; omega)
    · clear hr0
      refine awp_cond (t := 15) rfl (fun hc6 => ?_) (fun hc6 => ?_)
      · replace h := bite_t h hc6
        refine awp_reg ftCOk [(4, .v (.bool false))] [.row false (.trips a0_1), .row false (.trips a1_1), .rbox [.v (.int .i64 a0_0), .sl 0], .rbox [.v (.int .i64 a1_0), .sl 1]] ?_
        refine awp_ret ?_
        (try simp only [Thn, InBlk, ↓reduceIte, Nat.reduceEqDiff])
        obtain rfl := Option.some.inj h
        refine ⟨by simp, _, [0, 1], (by simp only [go_sem, Nat.reduceBEq, Nat.reduceLT, Nat.reduceAdd, Nat.reduceLeDiff, Nat.reduceSub, Nat.reduceEqDiff, Int.reduceToNat, reduceCtorEq, ↓reduceIte]; exact rfl), ?_, ?_, ?_, ?_⟩
        · first | exact trivial | exact ⟨trivial, trivial⟩ | exact ⟨trivial, trivial, trivial⟩ | exact ⟨trivial, trivial, trivial, trivial⟩ | (simp only [allP, and_true, true_and]; done) | (simp only [allP, and_true, true_and]; omega)
        · simp [selOk, pos]
        · simp
        · first | exact ⟨rfl, rfl⟩ | (simp only [go_sem, Nat.reduceBEq, Nat.reduceLT, Nat.reduceAdd, Nat.reduceLeDiff, Nat.reduceSub, Nat.reduceEqDiff, Int.reduceToNat, reduceCtorEq, ↓reduceIte]; done) | (simp [go_sem, Nat.reduceBEq, Nat.reduceLT, Nat.reduceAdd, Nat.reduceLeDiff, Nat.reduceSub, Nat.reduceEqDiff, Int.reduceToNat, reduceCtorEq, ↓reduceIte]; done) | (simp only [go_sem, Nat.reduceBEq, Nat.reduceLT, Nat.reduceAdd, Nat.reduceLeDiff, Nat.reduceSub, Nat.reduceEqDiff, Int.reduceToNat, reduceCtorEq, ↓reduceIte]; exact ⟨rfl, rfl⟩) | (simp_all [go_sem, Nat.reduceBEq, Nat.reduceLT, Nat.reduceAdd, Nat.reduceLeDiff, Nat.reduceSub, Nat.reduceEqDiff, Int.reduceToNat, reduceCtorEq, ↓reduceIte]; done)
      · replace h := bite_f h hc6
        refine awp_skip ?_
        (try simp only [Thn, InBlk, ↓reduceIte, Nat.reduceEqDiff])
        refine hK5 _ _ ?_
        clear hK5
        refine awp_reg ftCOk [(4, .v (.bool true))] [.row false (.trips a0_1), .row false (.trips a1_1), .rbox [.v (.int .i64 a0_0), .sl 0], .rbox [.v (.int .i64 a1_0), .sl 1]] ?_
        refine awp_ret ?_
        (try simp only [Thn, InBlk, ↓reduceIte, Nat.reduceEqDiff])
        obtain rfl := Option.some.inj h
        refine ⟨by simp, _, [0, 1], (by simp only [go_sem, Nat.reduceBEq, Nat.reduceLT, Nat.reduceAdd, Nat.reduceLeDiff, Nat.reduceSub, Nat.reduceEqDiff, Int.reduceToNat, reduceCtorEq, ↓reduceIte]; exact rfl), ?_, ?_, ?_, ?_⟩
        · first | exact trivial | exact ⟨trivial, trivial⟩ | exact ⟨trivial, trivial, trivial⟩ | exact ⟨trivial, trivial, trivial, trivial⟩ | (simp only [allP, and_true, true_and]; done) | (simp only [allP, and_true, true_and]; omega)
        · simp [selOk, pos]
        · simp
        · first | exact ⟨rfl, rfl⟩ | (simp only [go_sem, Nat.reduceBEq, Nat.reduceLT, Nat.reduceAdd, Nat.reduceLeDiff, Nat.reduceSub, Nat.reduceEqDiff, Int.reduceToNat, reduceCtorEq, ↓reduceIte]; done) | (simp [go_sem, Nat.reduceBEq, Nat.reduceLT, Nat.reduceAdd, Nat.reduceLeDiff, Nat.reduceSub, Nat.reduceEqDiff, Int.reduceToNat, reduceCtorEq, ↓reduceIte]; done) | (simp only [go_sem, Nat.reduceBEq, Nat.reduceLT, Nat.reduceAdd, Nat.reduceLeDiff, Nat.reduceSub, Nat.reduceEqDiff, Int.reduceToNat, reduceCtorEq, ↓reduceIte]; exact ⟨rfl, rfl⟩) | (simp_all [go_sem, Nat.reduceBEq, Nat.reduceLT, Nat.reduceAdd, Nat.reduceLeDiff, Nat.reduceSub, Nat.reduceEqDiff, Int.reduceToNat, reduceCtorEq, ↓reduceIte]; done)
theorem k_laws_eqGraphS (a0 : List (Int × List (Int × Int × Int))) (a1 : List (Int × List (Int × Int × Int))) {r : Bool} (h : laws_eqGraphS a0 a1 = some r) :
    FnA Try.prog 20 [.sl 0, .sl 1] [.row false (.graphs a0), .row false (.graphs a1)] [] (fun x H => x = .v (.bool r) ∧ H = [.row false (.graphs a0), .row false (.graphs a1)]) := by
  unfold laws_eqGraphS at h
  refine FnA.of (N := 27) (pin := [0, 1]) (rs := [.tmp 4]) Try.func20 rfl en20 rfl rfl (by simp) (by simp; try omega) ?_
  refine awp_reg ftCOk [(0, .sl 0), (1, .sl 1)] [.row false (.graphs a0), .row false (.graphs a1)] ?_
  refine awp_seq fun K2 hK2 => ?_
  refine awp_reg ftCOk [(0, .sl 0), (1, .sl 1), (10, .v (.bool ((a0.length : Int) != (a1.length : Int))))] [.row false (.graphs a0), .row false (.graphs a1)] ?_
  refine awp_cond (t := 10) rfl (fun hc3 => ?_) (fun hc3 => ?_)
  · replace h := bite_t h hc3
    refine awp_reg ftCOk [(4, .v (.bool false))] [.row false (.graphs a0), .row false (.graphs a1)] ?_
    refine awp_ret ?_
    (try simp only [Thn, InBlk, ↓reduceIte, Nat.reduceEqDiff])
    obtain rfl := Option.some.inj h
    refine ⟨by simp, _, [0, 1], (by simp only [go_sem, Nat.reduceBEq, Nat.reduceLT, Nat.reduceAdd, Nat.reduceLeDiff, Nat.reduceSub, Nat.reduceEqDiff, Int.reduceToNat, reduceCtorEq, ↓reduceIte]; exact rfl), ?_, ?_, ?_, ?_⟩
    · first | exact trivial | exact ⟨trivial, trivial⟩ | exact ⟨trivial, trivial, trivial⟩ | exact ⟨trivial, trivial, trivial, trivial⟩ | (simp only [allP, and_true, true_and]; done) | (simp only [allP, and_true, true_and]; omega)
    · simp [selOk, pos]
    · simp
    · first | exact ⟨rfl, rfl⟩ | (simp only [go_sem, Nat.reduceBEq, Nat.reduceLT, Nat.reduceAdd, Nat.reduceLeDiff, Nat.reduceSub, Nat.reduceEqDiff, Int.reduceToNat, reduceCtorEq, ↓reduceIte]; done) | (simp [go_sem, Nat.reduceBEq, Nat.reduceLT, Nat.reduceAdd, Nat.reduceLeDiff, Nat.reduceSub, Nat.reduceEqDiff, Int.reduceToNat, reduceCtorEq, ↓reduceIte]; done) | (simp only [go_sem, Nat.reduceBEq, Nat.reduceLT, Nat.reduceAdd, Nat.reduceLeDiff, Nat.reduceSub, Nat.reduceEqDiff, Int.reduceToNat, reduceCtorEq, ↓reduceIte]; exact ⟨rfl, rfl⟩) | (simp_all [go_sem, Nat.reduceBEq, Nat.reduceLT, Nat.reduceAdd, Nat.reduceLeDiff, Nat.reduceSub, Nat.reduceEqDiff, Int.reduceToNat, reduceCtorEq, ↓reduceIte]; done)
  · replace h := bite_f h hc3
    refine awp_skip ?_
    (try simp only [Thn, InBlk, ↓reduceIte, Nat.reduceEqDiff])
    refine hK2 _ _ ?_
    clear hK2
    refine awp_seq fun K35 hK35 => ?_
    refine awp_reg ftCOk [(0, .sl 0), (1, .sl 1), (5, .v (.int .i64 0))] [.row false (.graphs a0), .row false (.graphs a1)] ?_
    refine awp_block ?_
    replace h := bind_some h
    obtain ⟨x66, hx, h⟩ := h
    refine awp_loopL hx (fun (t5 : Int) => [(0, .sl 0), (1, .sl 1), (5, .v (.int .i64 t5))]) (fun (t5 : Int) => [.row false (.graphs a0), .row false (.graphs a1)]) (Sum.elim (fun (_ : Unit) => Exit.exit 0) (fun (_ : Unit) => Exit.ret)) (Sum.elim (fun (_ : Unit) => []) (fun (_ : Unit) => [(4, .v (.bool false))])) (Sum.elim (fun (_ : Unit) => [.row false (.graphs a0), .row false (.graphs a1)]) (fun (_ : Unit) => [.row false (.graphs a0), .row false (.graphs a1)])) ?_ ?_ ?_ ?_
    · rintro (⟨⟩ | ⟨⟩) hy <;> cases hy
    · clear h hx
      exact Red.auto
    · clear h hx
      rintro t5 r h
      unfold laws_eqGraphS_b0 at h
      try dsimp only at h
      try dsimp only
      refine awp_seq fun K57 hK57 => ?_
      refine awp_reg ftCOk [(0, .sl 0), (1, .sl 1), (5, .v (.int .i64 t5)), (14, .v (.bool (decide (t5 < (a0.length : Int)))))] [.row false (.graphs a0), .row false (.graphs a1)] ?_
      refine awp_cond (t := 14) rfl (fun hc58 => ?_) (fun hc58 => ?_)
      · replace h := bite_t h hc58
        refine awp_skip ?_
        (try simp only [Thn, InBlk, ↓reduceIte, Nat.reduceEqDiff])
        refine hK57 _ _ ?_
        clear hK57
        refine awp_seq fun K62 hK62 => ?_
        refine awp_block ?_
        replace h := chk_some h
        obtain ⟨hpt65, h⟩ := h
        refine awp_take 0 t5.toNat 1 (by rfl) (by exact hpt65) (by rfl) (by exact rfl) ?_
        clear hpt65
        replace h := chk_some h
        obtain ⟨hpt64, h⟩ := h
        refine awp_take 1 t5.toNat 1 (by rfl) (by exact hpt64) (by rfl) (by exact rfl) ?_
        clear hpt64
        replace h := chk_some h
        obtain ⟨hp0, h⟩ := h
        replace h := chk_some h
        obtain ⟨hp1, h⟩ := h
        replace h := bind_some h
        obtain ⟨y, hr2, h⟩ := h
        try dsimp only at h
        refine awp_to [(0, .sl 0), (1, .sl 1), (5, .v (.int .i64 t5)), (26, .v (.bool (!y)))] [.tak false (.graphs a0) t5.toNat 1 (some 2), .tak false (.graphs a1) t5.toNat 1 (some 3), .row false (.trips ((a0.getD t5.toNat (0, [])).2)), .row false (.trips ((a1.getD t5.toNat (0, [])).2))] ?_ ?_
        · clear h
          intro K hK
          refine awp_drawT mixed ftCOk (.free 0 (.free 1 (.free 4 (.free 5 (.two 2 6 (.two 3 6 (.one 6 (.one 7 (.one 8 (.one 9 .fin)))) (.two 3 7 (.one 7 (.one 8 (.one 9 .fin))) (.one 3 (.one 8 (.one 9 .fin))))) (.two 2 7 (.two 3 7 (.one 7 (.one 8 (.one 9 .fin))) (.one 3 (.one 8 (.one 9 .fin)))) (.one 2 (.one 3 (.one 8 (.one 9 .fin)))))))))) (by kernel_rfl) (by simp) ?_
          simp (maxSteps := 4000000) only [go_sem, Nat.reduceBEq, Nat.reduceLT, Nat.reduceAdd, Nat.reduceLeDiff, Nat.reduceSub, Nat.reduceEqDiff, Int.reduceToNat, reduceCtorEq, ↓reduceIte]
          repeat' (first | refine And.intro ?_ ?_ | intro hg)
          all_goals (try simp (disch := omega) only [wrap_fits])
          all_goals first
            | (refine hK _ _ ?_; exact Red.auto)
            | exact trivial
            | assumption
            | omega
            | exact wrap_fits (by omega) (by omega)
            | (refine OpK_callA (k_laws_eqGraph ((a0.getD t5.toNat (0, [])).1) ((a0.getD t5.toNat (0, [])).2) ((a1.getD t5.toNat (0, [])).1) ((a1.getD t5.toNat (0, [])).2) (h := hr2)) [2, 3] [] ?_
               rintro x Hc' ⟨rfl, rfl⟩ hlen
               simp (maxSteps := 4000000) only [go_sem, Nat.reduceBEq, Nat.reduceLT, Nat.reduceAdd, Nat.reduceLeDiff, Nat.reduceSub, Nat.reduceEqDiff, Int.reduceToNat, reduceCtorEq, ↓reduceIte]
               repeat' (first | refine And.intro ?_ ?_ | intro hg)
               all_goals (try simp (disch := omega) only [wrap_fits])
               all_goals first
                 | (refine hK _ _ ?_; exact Red.auto)
                 | exact trivial
                 | assumption
                 | omega
                 | exact wrap_fits (by omega) (by omega)
                 | (simp (maxSteps := 4000000) only [go_sem, Nat.reduceBEq, Nat.reduceLT, Nat.reduceAdd, Nat.reduceLeDiff, Nat.reduceSub, Nat.reduceEqDiff, Int.reduceToNat, reduceCtorEq, ↓reduceIte]
                    repeat' (first | refine And.intro ?_ ?_ | intro hg)
                    all_goals (try simp (disch := omega) only [wrap_fits])
                    all_goals first | (refine hK _ _ ?_; exact Red.auto) | exact trivial | assumption | omega | exact wrap_fits (by omega) (by omega))
                 | (simp_all; done)
                 | (simp_all; omega))
            | (simp_all; done)
            | (simp_all; omega)
        · clear hp0 hp1 hr2
          refine awp_cond (t := 26) rfl (fun hc63 => ?_) (fun hc63 => ?_)
          · replace h := bite_t h hc63
            refine awp_put 0 2 (by rfl) (by rfl) (Cont.setChild_self (by rfl)) (by exact rfl) ?_
            refine awp_put 1 3 (by rfl) (by rfl) (Cont.setChild_self (by rfl)) (by exact rfl) ?_
            refine awp_reg ftCOk [(4, .v (.bool false))] [.row false (.graphs a0), .row false (.graphs a1), .row false (.trips ((a0.getD t5.toNat (0, [])).2)), .row false (.trips ((a1.getD t5.toNat (0, [])).2))] ?_
            refine awp_ret ?_
            (try simp only [Thn, InBlk, ↓reduceIte, Nat.reduceEqDiff])
            obtain rfl := Option.some.inj h
            refine LoopQ.out rfl ?_
            exact Red.selA [0, 1] Red.auto
          · replace h := bite_f h hc63
            refine awp_skip ?_
            (try simp only [Thn, InBlk, ↓reduceIte, Nat.reduceEqDiff])
            (try simp only [Thn, InBlk, ↓reduceIte, Nat.reduceEqDiff])
            refine hK62 _ _ ?_
            clear hK62
            refine awp_put 0 2 (by rfl) (by rfl) (Cont.setChild_self (by rfl)) (by exact rfl) ?_
            refine awp_put 1 3 (by rfl) (by rfl) (Cont.setChild_self (by rfl)) (by exact rfl) ?_
            replace h := chk_some h
            obtain ⟨hp0, h⟩ := h
            refine awp_regE ftCOk [(0, .sl 0), (1, .sl 1), (5, .v (.int .i64 (t5 + 1)))] [.row false (.graphs a0), .row false (.graphs a1), .row false (.trips ((a0.getD t5.toNat (0, [])).2)), .row false (.trips ((a1.getD t5.toNat (0, [])).2))] ?_
            clear hp0
            obtain rfl := Option.some.inj h
            refine LoopQ.next ?_
            exact Red.selA [0, 1] Red.auto
      · replace h := bite_f h hc58
        refine awp_exit ?_
        (try simp only [Thn, InBlk, ↓reduceIte, Nat.reduceEqDiff])
        obtain rfl := Option.some.inj h
        refine LoopQ.out rfl ?_
        exact Red.auto
    · clear hx
      rcases x66 with (⟨⟩ | ⟨⟩)
      · try dsimp only [Sum.elim_inl, Sum.elim_inr] at h
        try dsimp only [Sum.elim_inl, Sum.elim_inr]
        (try simp only [Thn, InBlk, ↓reduceIte, Nat.reduceEqDiff])
        (try simp only [Thn, InBlk, ↓reduceIte, Nat.reduceEqDiff])
        (try simp only [Thn, InBlk, ↓reduceIte, Nat.reduceEqDiff])
        refine hK35 _ _ ?_
        clear hK35
        refine awp_reg ftCOk [(4, .v (.bool true))] [.row false (.graphs a0), .row false (.graphs a1)] ?_
        refine awp_ret ?_
        (try simp only [Thn, InBlk, ↓reduceIte, Nat.reduceEqDiff])
        obtain rfl := Option.some.inj h
        refine ⟨by simp, _, [0, 1], (by simp only [go_sem, Nat.reduceBEq, Nat.reduceLT, Nat.reduceAdd, Nat.reduceLeDiff, Nat.reduceSub, Nat.reduceEqDiff, Int.reduceToNat, reduceCtorEq, ↓reduceIte]; exact rfl), ?_, ?_, ?_, ?_⟩
        · first | exact trivial | exact ⟨trivial, trivial⟩ | exact ⟨trivial, trivial, trivial⟩ | exact ⟨trivial, trivial, trivial, trivial⟩ | (simp only [allP, and_true, true_and]; done) | (simp only [allP, and_true, true_and]; omega)
        · simp [selOk, pos]
        · simp
        · first | exact ⟨rfl, rfl⟩ | (simp only [go_sem, Nat.reduceBEq, Nat.reduceLT, Nat.reduceAdd, Nat.reduceLeDiff, Nat.reduceSub, Nat.reduceEqDiff, Int.reduceToNat, reduceCtorEq, ↓reduceIte]; done) | (simp [go_sem, Nat.reduceBEq, Nat.reduceLT, Nat.reduceAdd, Nat.reduceLeDiff, Nat.reduceSub, Nat.reduceEqDiff, Int.reduceToNat, reduceCtorEq, ↓reduceIte]; done) | (simp only [go_sem, Nat.reduceBEq, Nat.reduceLT, Nat.reduceAdd, Nat.reduceLeDiff, Nat.reduceSub, Nat.reduceEqDiff, Int.reduceToNat, reduceCtorEq, ↓reduceIte]; exact ⟨rfl, rfl⟩) | (simp_all [go_sem, Nat.reduceBEq, Nat.reduceLT, Nat.reduceAdd, Nat.reduceLeDiff, Nat.reduceSub, Nat.reduceEqDiff, Int.reduceToNat, reduceCtorEq, ↓reduceIte]; done)
      · try dsimp only [Sum.elim_inl, Sum.elim_inr] at h
        try dsimp only [Sum.elim_inl, Sum.elim_inr]
        (try simp only [Thn, InBlk, ↓reduceIte, Nat.reduceEqDiff])
        obtain rfl := Option.some.inj h
        refine ⟨by simp, _, [0, 1], (by simp only [go_sem, Nat.reduceBEq, Nat.reduceLT, Nat.reduceAdd, Nat.reduceLeDiff, Nat.reduceSub, Nat.reduceEqDiff, Int.reduceToNat, reduceCtorEq, ↓reduceIte]; exact rfl), ?_, ?_, ?_, ?_⟩
        · first | exact trivial | exact ⟨trivial, trivial⟩ | exact ⟨trivial, trivial, trivial⟩ | exact ⟨trivial, trivial, trivial, trivial⟩ | (simp only [allP, and_true, true_and]; done) | (simp only [allP, and_true, true_and]; omega)
        · simp [selOk, pos]
        · simp
        · first | exact ⟨rfl, rfl⟩ | (simp only [go_sem, Nat.reduceBEq, Nat.reduceLT, Nat.reduceAdd, Nat.reduceLeDiff, Nat.reduceSub, Nat.reduceEqDiff, Int.reduceToNat, reduceCtorEq, ↓reduceIte]; done) | (simp [go_sem, Nat.reduceBEq, Nat.reduceLT, Nat.reduceAdd, Nat.reduceLeDiff, Nat.reduceSub, Nat.reduceEqDiff, Int.reduceToNat, reduceCtorEq, ↓reduceIte]; done) | (simp only [go_sem, Nat.reduceBEq, Nat.reduceLT, Nat.reduceAdd, Nat.reduceLeDiff, Nat.reduceSub, Nat.reduceEqDiff, Int.reduceToNat, reduceCtorEq, ↓reduceIte]; exact ⟨rfl, rfl⟩) | (simp_all [go_sem, Nat.reduceBEq, Nat.reduceLT, Nat.reduceAdd, Nat.reduceLeDiff, Nat.reduceSub, Nat.reduceEqDiff, Int.reduceToNat, reduceCtorEq, ↓reduceIte]; done)
theorem k_laws_markEdgeS (a0 : List (Int × Int × Int)) (a1 : Int) {r : Int × (List (Int × Int × Int))} (h : laws_markEdgeS a0 a1 = some r) :
    FnA Try.prog 44 [.sl 0, .v (.int .i64 a1)] [.row true (.trips a0)] [] (fun x H => x = .v (.int .i64 r.1) ∧ H = [.row true (.trips r.2)]) := by
  unfold laws_markEdgeS at h
  refine FnA.of (N := 34) (pin := [0]) (rs := [.tmp 4]) Try.func44 rfl en44 rfl rfl (by simp) (by simp; try omega) ?_
  refine awp_reg ftCOk [(0, .sl 0), (1, .v (.int .i64 a1))] [.row true (.trips a0)] ?_
  refine awp_seq fun K14 hK14 => ?_
  refine awp_reg ftCOk [(0, .sl 0), (1, .v (.int .i64 a1)), (5, .v (.int .i64 0))] [.row true (.trips a0)] ?_
  refine awp_block ?_
  replace h := bind_some h
  obtain ⟨x27, hx, h⟩ := h
  refine awp_loopL hx (fun ((t1, t5, p0s) : Int × Int × (List (Int × Int × Int))) => [(0, .sl 0), (1, .v (.int .i64 t1)), (5, .v (.int .i64 t5))]) (fun ((t1, t5, p0s) : Int × Int × (List (Int × Int × Int))) => [.row true (.trips p0s)]) (fun ((t1_1, p0s_1) : Int × (List (Int × Int × Int))) => Exit.exit 0) (fun ((t1_1, p0s_1) : Int × (List (Int × Int × Int))) => [(1, .v (.int .i64 t1_1))]) (fun ((t1_1, p0s_1) : Int × (List (Int × Int × Int))) => [.row true (.trips p0s_1)]) ?_ ?_ ?_ ?_
  · rintro ⟨t1_1, p0s_1⟩ hy <;> cases hy
  · clear h hx
    exact Red.auto
  · clear h hx
    rintro ⟨t1, t5, p0s⟩ r h
    unfold laws_markEdgeS_b0 at h
    try dsimp only at h
    try dsimp only
    refine awp_seq fun K24 hK24 => ?_
    refine awp_reg ftCOk [(0, .sl 0), (1, .v (.int .i64 t1)), (5, .v (.int .i64 t5)), (9, .v (.bool (decide (t5 < (p0s.length : Int)))))] [.row true (.trips p0s)] ?_
    refine awp_cond (t := 9) rfl (fun hc25 => ?_) (fun hc25 => ?_)
    · replace h := bite_t h hc25
      refine awp_skip ?_
      (try simp only [Thn, InBlk, ↓reduceIte, Nat.reduceEqDiff])
      refine hK24 _ _ ?_
      clear hK24
      refine awp_seq fun K26 hK26 => ?_
      refine awp_block ?_
      replace h := chk_some h
      obtain ⟨hp0, h⟩ := h
      refine awp_reg ftCOk [(0, .sl 0), (1, .v (.int .i64 t1)), (5, .v (.int .i64 t5))] [.row true (.trips (p0s.set t5.toNat (t1, (p0s.getD t5.toNat (0, 0, 0)).2.1, (p0s.getD t5.toNat (0, 0, 0)).2.2)))] ?_
      clear hp0
      replace h := chk_some h
      obtain ⟨hp0, h⟩ := h
      refine awp_reg ftCOk [(0, .sl 0), (1, .v (.int .i64 (t1 + 1))), (5, .v (.int .i64 t5))] [.row true (.trips (p0s.set t5.toNat (t1, (p0s.getD t5.toNat (0, 0, 0)).2.1, (p0s.getD t5.toNat (0, 0, 0)).2.2)))] ?_
      clear hp0
      replace h := chk_some h
      obtain ⟨hp0, h⟩ := h
      refine awp_reg ftCOk [(0, .sl 0), (1, .v (.int .i64 (t1 + 1))), (5, .v (.int .i64 t5))] [.row true (.trips ((p0s.set t5.toNat (t1, (p0s.getD t5.toNat (0, 0, 0)).2.1, (p0s.getD t5.toNat (0, 0, 0)).2.2)).set t5.toNat (((p0s.set t5.toNat (t1, (p0s.getD t5.toNat (0, 0, 0)).2.1, (p0s.getD t5.toNat (0, 0, 0)).2.2)).getD t5.toNat (0, 0, 0)).1, (t1 + 1), ((p0s.set t5.toNat (t1, (p0s.getD t5.toNat (0, 0, 0)).2.1, (p0s.getD t5.toNat (0, 0, 0)).2.2)).getD t5.toNat (0, 0, 0)).2.2)))] ?_
      clear hp0
      replace h := chk_some h
      obtain ⟨hp0, h⟩ := h
      refine awp_reg ftCOk [(0, .sl 0), (1, .v (.int .i64 ((t1 + 1) + 1))), (5, .v (.int .i64 t5))] [.row true (.trips ((p0s.set t5.toNat (t1, (p0s.getD t5.toNat (0, 0, 0)).2.1, (p0s.getD t5.toNat (0, 0, 0)).2.2)).set t5.toNat (((p0s.set t5.toNat (t1, (p0s.getD t5.toNat (0, 0, 0)).2.1, (p0s.getD t5.toNat (0, 0, 0)).2.2)).getD t5.toNat (0, 0, 0)).1, (t1 + 1), ((p0s.set t5.toNat (t1, (p0s.getD t5.toNat (0, 0, 0)).2.1, (p0s.getD t5.toNat (0, 0, 0)).2.2)).getD t5.toNat (0, 0, 0)).2.2)))] ?_
      clear hp0
      replace h := chk_some h
      obtain ⟨hp0, h⟩ := h
      refine awp_reg ftCOk [(0, .sl 0), (1, .v (.int .i64 ((t1 + 1) + 1))), (5, .v (.int .i64 t5))] [.row true (.trips (((p0s.set t5.toNat (t1, (p0s.getD t5.toNat (0, 0, 0)).2.1, (p0s.getD t5.toNat (0, 0, 0)).2.2)).set t5.toNat (((p0s.set t5.toNat (t1, (p0s.getD t5.toNat (0, 0, 0)).2.1, (p0s.getD t5.toNat (0, 0, 0)).2.2)).getD t5.toNat (0, 0, 0)).1, (t1 + 1), ((p0s.set t5.toNat (t1, (p0s.getD t5.toNat (0, 0, 0)).2.1, (p0s.getD t5.toNat (0, 0, 0)).2.2)).getD t5.toNat (0, 0, 0)).2.2)).set t5.toNat ((((p0s.set t5.toNat (t1, (p0s.getD t5.toNat (0, 0, 0)).2.1, (p0s.getD t5.toNat (0, 0, 0)).2.2)).set t5.toNat (((p0s.set t5.toNat (t1, (p0s.getD t5.toNat (0, 0, 0)).2.1, (p0s.getD t5.toNat (0, 0, 0)).2.2)).getD t5.toNat (0, 0, 0)).1, (t1 + 1), ((p0s.set t5.toNat (t1, (p0s.getD t5.toNat (0, 0, 0)).2.1, (p0s.getD t5.toNat (0, 0, 0)).2.2)).getD t5.toNat (0, 0, 0)).2.2)).getD t5.toNat (0, 0, 0)).1, (((p0s.set t5.toNat (t1, (p0s.getD t5.toNat (0, 0, 0)).2.1, (p0s.getD t5.toNat (0, 0, 0)).2.2)).set t5.toNat (((p0s.set t5.toNat (t1, (p0s.getD t5.toNat (0, 0, 0)).2.1, (p0s.getD t5.toNat (0, 0, 0)).2.2)).getD t5.toNat (0, 0, 0)).1, (t1 + 1), ((p0s.set t5.toNat (t1, (p0s.getD t5.toNat (0, 0, 0)).2.1, (p0s.getD t5.toNat (0, 0, 0)).2.2)).getD t5.toNat (0, 0, 0)).2.2)).getD t5.toNat (0, 0, 0)).2.1, ((t1 + 1) + 1))))] ?_
      clear hp0
      replace h := chk_some h
      obtain ⟨hp0, h⟩ := h
      refine awp_regE ftCOk [(0, .sl 0), (1, .v (.int .i64 (((t1 + 1) + 1) + 1))), (5, .v (.int .i64 t5))] [.row true (.trips (((p0s.set t5.toNat (t1, (p0s.getD t5.toNat (0, 0, 0)).2.1, (p0s.getD t5.toNat (0, 0, 0)).2.2)).set t5.toNat (((p0s.set t5.toNat (t1, (p0s.getD t5.toNat (0, 0, 0)).2.1, (p0s.getD t5.toNat (0, 0, 0)).2.2)).getD t5.toNat (0, 0, 0)).1, (t1 + 1), ((p0s.set t5.toNat (t1, (p0s.getD t5.toNat (0, 0, 0)).2.1, (p0s.getD t5.toNat (0, 0, 0)).2.2)).getD t5.toNat (0, 0, 0)).2.2)).set t5.toNat ((((p0s.set t5.toNat (t1, (p0s.getD t5.toNat (0, 0, 0)).2.1, (p0s.getD t5.toNat (0, 0, 0)).2.2)).set t5.toNat (((p0s.set t5.toNat (t1, (p0s.getD t5.toNat (0, 0, 0)).2.1, (p0s.getD t5.toNat (0, 0, 0)).2.2)).getD t5.toNat (0, 0, 0)).1, (t1 + 1), ((p0s.set t5.toNat (t1, (p0s.getD t5.toNat (0, 0, 0)).2.1, (p0s.getD t5.toNat (0, 0, 0)).2.2)).getD t5.toNat (0, 0, 0)).2.2)).getD t5.toNat (0, 0, 0)).1, (((p0s.set t5.toNat (t1, (p0s.getD t5.toNat (0, 0, 0)).2.1, (p0s.getD t5.toNat (0, 0, 0)).2.2)).set t5.toNat (((p0s.set t5.toNat (t1, (p0s.getD t5.toNat (0, 0, 0)).2.1, (p0s.getD t5.toNat (0, 0, 0)).2.2)).getD t5.toNat (0, 0, 0)).1, (t1 + 1), ((p0s.set t5.toNat (t1, (p0s.getD t5.toNat (0, 0, 0)).2.1, (p0s.getD t5.toNat (0, 0, 0)).2.2)).getD t5.toNat (0, 0, 0)).2.2)).getD t5.toNat (0, 0, 0)).2.1, ((t1 + 1) + 1))))] ?_
      clear hp0
      (try simp only [Thn, InBlk, ↓reduceIte, Nat.reduceEqDiff])
      (try simp only [Thn, InBlk, ↓reduceIte, Nat.reduceEqDiff])
      refine hK26 _ _ ?_
      clear hK26
      replace h := chk_some h
      obtain ⟨hp0, h⟩ := h
      refine awp_regE ftCOk [(0, .sl 0), (1, .v (.int .i64 (((t1 + 1) + 1) + 1))), (5, .v (.int .i64 (t5 + 1)))] [.row true (.trips (((p0s.set t5.toNat (t1, (p0s.getD t5.toNat (0, 0, 0)).2.1, (p0s.getD t5.toNat (0, 0, 0)).2.2)).set t5.toNat (((p0s.set t5.toNat (t1, (p0s.getD t5.toNat (0, 0, 0)).2.1, (p0s.getD t5.toNat (0, 0, 0)).2.2)).getD t5.toNat (0, 0, 0)).1, (t1 + 1), ((p0s.set t5.toNat (t1, (p0s.getD t5.toNat (0, 0, 0)).2.1, (p0s.getD t5.toNat (0, 0, 0)).2.2)).getD t5.toNat (0, 0, 0)).2.2)).set t5.toNat ((((p0s.set t5.toNat (t1, (p0s.getD t5.toNat (0, 0, 0)).2.1, (p0s.getD t5.toNat (0, 0, 0)).2.2)).set t5.toNat (((p0s.set t5.toNat (t1, (p0s.getD t5.toNat (0, 0, 0)).2.1, (p0s.getD t5.toNat (0, 0, 0)).2.2)).getD t5.toNat (0, 0, 0)).1, (t1 + 1), ((p0s.set t5.toNat (t1, (p0s.getD t5.toNat (0, 0, 0)).2.1, (p0s.getD t5.toNat (0, 0, 0)).2.2)).getD t5.toNat (0, 0, 0)).2.2)).getD t5.toNat (0, 0, 0)).1, (((p0s.set t5.toNat (t1, (p0s.getD t5.toNat (0, 0, 0)).2.1, (p0s.getD t5.toNat (0, 0, 0)).2.2)).set t5.toNat (((p0s.set t5.toNat (t1, (p0s.getD t5.toNat (0, 0, 0)).2.1, (p0s.getD t5.toNat (0, 0, 0)).2.2)).getD t5.toNat (0, 0, 0)).1, (t1 + 1), ((p0s.set t5.toNat (t1, (p0s.getD t5.toNat (0, 0, 0)).2.1, (p0s.getD t5.toNat (0, 0, 0)).2.2)).getD t5.toNat (0, 0, 0)).2.2)).getD t5.toNat (0, 0, 0)).2.1, ((t1 + 1) + 1))))] ?_
      clear hp0
      obtain rfl := Option.some.inj h
      refine LoopQ.next ?_
      exact Red.auto
    · replace h := bite_f h hc25
      refine awp_exit ?_
      (try simp only [Thn, InBlk, ↓reduceIte, Nat.reduceEqDiff])
      obtain rfl := Option.some.inj h
      refine LoopQ.out rfl ?_
      exact Red.auto
  · clear hx
    rcases x27 with ⟨t1_1, p0s_1⟩
    · try dsimp only [Sum.elim_inl, Sum.elim_inr] at h
      try dsimp only [Sum.elim_inl, Sum.elim_inr]
      (try simp only [Thn, InBlk, ↓reduceIte, Nat.reduceEqDiff])
      (try simp only [Thn, InBlk, ↓reduceIte, Nat.reduceEqDiff])
      (try simp only [Thn, InBlk, ↓reduceIte, Nat.reduceEqDiff])
      refine hK14 _ _ ?_
      clear hK14
      refine awp_reg ftCOk [(4, .v (.int .i64 t1_1))] [.row true (.trips p0s_1)] ?_
      refine awp_ret ?_
      (try simp only [Thn, InBlk, ↓reduceIte, Nat.reduceEqDiff])
      obtain rfl := Option.some.inj h
      refine ⟨by simp, _, [0], (by simp only [go_sem, Nat.reduceBEq, Nat.reduceLT, Nat.reduceAdd, Nat.reduceLeDiff, Nat.reduceSub, Nat.reduceEqDiff, Int.reduceToNat, reduceCtorEq, ↓reduceIte]; exact rfl), ?_, ?_, ?_, ?_⟩
      · first | exact trivial | exact ⟨trivial, trivial⟩ | exact ⟨trivial, trivial, trivial⟩ | exact ⟨trivial, trivial, trivial, trivial⟩ | (simp only [allP, and_true, true_and]; done) | (simp only [allP, and_true, true_and]; omega)
      · simp [selOk, pos]
      · simp
      · first | exact ⟨rfl, rfl⟩ | (simp only [go_sem, Nat.reduceBEq, Nat.reduceLT, Nat.reduceAdd, Nat.reduceLeDiff, Nat.reduceSub, Nat.reduceEqDiff, Int.reduceToNat, reduceCtorEq, ↓reduceIte]; done) | (simp [go_sem, Nat.reduceBEq, Nat.reduceLT, Nat.reduceAdd, Nat.reduceLeDiff, Nat.reduceSub, Nat.reduceEqDiff, Int.reduceToNat, reduceCtorEq, ↓reduceIte]; done) | (simp only [go_sem, Nat.reduceBEq, Nat.reduceLT, Nat.reduceAdd, Nat.reduceLeDiff, Nat.reduceSub, Nat.reduceEqDiff, Int.reduceToNat, reduceCtorEq, ↓reduceIte]; exact ⟨rfl, rfl⟩) | (simp_all [go_sem, Nat.reduceBEq, Nat.reduceLT, Nat.reduceAdd, Nat.reduceLeDiff, Nat.reduceSub, Nat.reduceEqDiff, Int.reduceToNat, reduceCtorEq, ↓reduceIte]; done)
theorem k_laws_markGraphS (a0 : List (Int × List (Int × Int × Int))) (a1 : Int) {r : Int × (List (Int × List (Int × Int × Int)))} (h : laws_markGraphS a0 a1 = some r) :
    FnA Try.prog 21 [.sl 0, .v (.int .i64 a1)] [.row true (.graphs a0)] [] (fun x H => x = .v (.int .i64 r.1) ∧ H = [.row true (.graphs r.2)]) := by
  unfold laws_markGraphS at h
  refine FnA.of (N := 27) (pin := [0]) (rs := [.tmp 4]) Try.func21 rfl en21 rfl rfl (by simp) (by simp; try omega) ?_
  refine awp_reg ftCOk [(0, .sl 0), (1, .v (.int .i64 a1))] [.row true (.graphs a0)] ?_
  refine awp_seq fun K20 hK20 => ?_
  refine awp_reg ftCOk [(0, .sl 0), (1, .v (.int .i64 a1)), (5, .v (.int .i64 0))] [.row true (.graphs a0)] ?_
  refine awp_block ?_
  replace h := bind_some h
  obtain ⟨x39, hx, h⟩ := h
  refine awp_loopL hx (fun ((t1, t5, p0s) : Int × Int × (List (Int × List (Int × Int × Int)))) => [(0, .sl 0), (1, .v (.int .i64 t1)), (5, .v (.int .i64 t5))]) (fun ((t1, t5, p0s) : Int × Int × (List (Int × List (Int × Int × Int)))) => [.row true (.graphs p0s)]) (fun ((t1_1, p0s_1) : Int × (List (Int × List (Int × Int × Int)))) => Exit.exit 0) (fun ((t1_1, p0s_1) : Int × (List (Int × List (Int × Int × Int)))) => [(1, .v (.int .i64 t1_1))]) (fun ((t1_1, p0s_1) : Int × (List (Int × List (Int × Int × Int)))) => [.row true (.graphs p0s_1)]) ?_ ?_ ?_ ?_
  · rintro ⟨t1_1, p0s_1⟩ hy <;> cases hy
  · clear h hx
    exact Red.auto
  · clear h hx
    rintro ⟨t1, t5, p0s⟩ r h
    unfold laws_markGraphS_b0 at h
    try dsimp only at h
    try dsimp only
    refine awp_seq fun K34 hK34 => ?_
    refine awp_reg ftCOk [(0, .sl 0), (1, .v (.int .i64 t1)), (5, .v (.int .i64 t5)), (9, .v (.bool (decide (t5 < (p0s.length : Int)))))] [.row true (.graphs p0s)] ?_
    refine awp_cond (t := 9) rfl (fun hc35 => ?_) (fun hc35 => ?_)
    · replace h := bite_t h hc35
      refine awp_skip ?_
      (try simp only [Thn, InBlk, ↓reduceIte, Nat.reduceEqDiff])
      refine hK34 _ _ ?_
      clear hK34
      refine awp_seq fun K37 hK37 => ?_
      refine awp_block ?_
      replace h := chk_some h
      obtain ⟨hp0, h⟩ := h
      refine awp_reg ftCOk [(0, .sl 0), (1, .v (.int .i64 t1)), (5, .v (.int .i64 t5))] [.row true (.graphs (p0s.set t5.toNat (t1, (p0s.getD t5.toNat (0, [])).2)))] ?_
      clear hp0
      replace h := chk_some h
      obtain ⟨hp0, h⟩ := h
      refine awp_reg ftCOk [(0, .sl 0), (1, .v (.int .i64 (t1 + 1))), (5, .v (.int .i64 t5))] [.row true (.graphs (p0s.set t5.toNat (t1, (p0s.getD t5.toNat (0, [])).2)))] ?_
      clear hp0
      replace h := chk_some h
      obtain ⟨hpt38, h⟩ := h
      refine awp_take 0 t5.toNat 1 (by rfl) (by exact hpt38) (by rfl) (by exact rfl) ?_
      clear hpt38
      replace h := chk_some h
      obtain ⟨hp0, h⟩ := h
      replace h := bind_some h
      obtain ⟨⟨y, y_1⟩, hr1, h⟩ := h
      try dsimp only at h
      refine awp_end [(0, .sl 0), (1, .v (.int .i64 y)), (5, .v (.int .i64 t5))] [.tak true (.graphs (p0s.set t5.toNat (t1, (p0s.getD t5.toNat (0, [])).2))) t5.toNat 1 (some 1), .row true (.trips y_1)] ?_ ?_
      · clear h
        intro K hK
        refine awp_region ftCOk ?_
        simp (maxSteps := 4000000) only [go_sem, Nat.reduceBEq, Nat.reduceLT, Nat.reduceAdd, Nat.reduceLeDiff, Nat.reduceSub, Nat.reduceEqDiff, Int.reduceToNat, reduceCtorEq, ↓reduceIte]
        repeat' (first | refine And.intro ?_ ?_ | intro hg)
        all_goals (try simp (disch := omega) only [wrap_fits])
        all_goals first
          | (refine hK _ _ ?_; exact Red.auto)
          | exact trivial
          | assumption
          | omega
          | exact wrap_fits (by omega) (by omega)
          | (refine wpA_callA (k_laws_markEdgeS (((p0s.set t5.toNat (t1, (p0s.getD t5.toNat (0, [])).2)).getD t5.toNat (0, [])).2) (t1 + 1) (h := hr1)) [1] [] ?_
             rintro x Hc' ⟨rfl, rfl⟩ hlen
             refine vcOps_sound ftCOk ?_
             simp (maxSteps := 4000000) only [go_sem, Nat.reduceBEq, Nat.reduceLT, Nat.reduceAdd, Nat.reduceLeDiff, Nat.reduceSub, Nat.reduceEqDiff, Int.reduceToNat, reduceCtorEq, ↓reduceIte]
             repeat' (first | refine And.intro ?_ ?_ | intro hg)
             all_goals (try simp (disch := omega) only [wrap_fits])
             all_goals first
               | (refine hK _ _ ?_; exact Red.auto)
               | exact trivial
               | assumption
               | omega
               | exact wrap_fits (by omega) (by omega)
               | (simp_all; done)
               | (simp_all; omega))
          | (simp_all; done)
          | (simp_all; omega)
      · clear hp0 hr1
        (try simp only [Thn, InBlk, ↓reduceIte, Nat.reduceEqDiff])
        (try simp only [Thn, InBlk, ↓reduceIte, Nat.reduceEqDiff])
        refine hK37 _ _ ?_
        clear hK37
        refine awp_put 0 1 (by rfl) (by rfl) (by rfl) (by exact rfl) ?_
        replace h := chk_some h
        obtain ⟨hp0, h⟩ := h
        refine awp_regE ftCOk [(0, .sl 0), (1, .v (.int .i64 y)), (5, .v (.int .i64 (t5 + 1)))] [.row true (.graphs ((p0s.set t5.toNat (t1, (p0s.getD t5.toNat (0, [])).2)).set t5.toNat (((p0s.set t5.toNat (t1, (p0s.getD t5.toNat (0, [])).2)).getD t5.toNat (0, [])).1, y_1))), .view 0 (.trips y_1)] ?_
        clear hp0
        obtain rfl := Option.some.inj h
        refine LoopQ.next ?_
        exact Red.selA [0] Red.auto
    · replace h := bite_f h hc35
      refine awp_exit ?_
      (try simp only [Thn, InBlk, ↓reduceIte, Nat.reduceEqDiff])
      obtain rfl := Option.some.inj h
      refine LoopQ.out rfl ?_
      exact Red.auto
  · clear hx
    rcases x39 with ⟨t1_1, p0s_1⟩
    · try dsimp only [Sum.elim_inl, Sum.elim_inr] at h
      try dsimp only [Sum.elim_inl, Sum.elim_inr]
      (try simp only [Thn, InBlk, ↓reduceIte, Nat.reduceEqDiff])
      (try simp only [Thn, InBlk, ↓reduceIte, Nat.reduceEqDiff])
      (try simp only [Thn, InBlk, ↓reduceIte, Nat.reduceEqDiff])
      refine hK20 _ _ ?_
      clear hK20
      refine awp_reg ftCOk [(4, .v (.int .i64 t1_1))] [.row true (.graphs p0s_1)] ?_
      refine awp_ret ?_
      (try simp only [Thn, InBlk, ↓reduceIte, Nat.reduceEqDiff])
      obtain rfl := Option.some.inj h
      refine ⟨by simp, _, [0], (by simp only [go_sem, Nat.reduceBEq, Nat.reduceLT, Nat.reduceAdd, Nat.reduceLeDiff, Nat.reduceSub, Nat.reduceEqDiff, Int.reduceToNat, reduceCtorEq, ↓reduceIte]; exact rfl), ?_, ?_, ?_, ?_⟩
      · first | exact trivial | exact ⟨trivial, trivial⟩ | exact ⟨trivial, trivial, trivial⟩ | exact ⟨trivial, trivial, trivial, trivial⟩ | (simp only [allP, and_true, true_and]; done) | (simp only [allP, and_true, true_and]; omega)
      · simp [selOk, pos]
      · simp
      · first | exact ⟨rfl, rfl⟩ | (simp only [go_sem, Nat.reduceBEq, Nat.reduceLT, Nat.reduceAdd, Nat.reduceLeDiff, Nat.reduceSub, Nat.reduceEqDiff, Int.reduceToNat, reduceCtorEq, ↓reduceIte]; done) | (simp [go_sem, Nat.reduceBEq, Nat.reduceLT, Nat.reduceAdd, Nat.reduceLeDiff, Nat.reduceSub, Nat.reduceEqDiff, Int.reduceToNat, reduceCtorEq, ↓reduceIte]; done) | (simp only [go_sem, Nat.reduceBEq, Nat.reduceLT, Nat.reduceAdd, Nat.reduceLeDiff, Nat.reduceSub, Nat.reduceEqDiff, Int.reduceToNat, reduceCtorEq, ↓reduceIte]; exact ⟨rfl, rfl⟩) | (simp_all [go_sem, Nat.reduceBEq, Nat.reduceLT, Nat.reduceAdd, Nat.reduceLeDiff, Nat.reduceSub, Nat.reduceEqDiff, Int.reduceToNat, reduceCtorEq, ↓reduceIte]; done)
theorem k_laws_markGraph (a0_0 : Int) (a0_1 : List (Int × Int × Int)) (a1 : Int) {r : Int × (List (Int × Int × Int))} (h : laws_markGraph a0_0 a0_1 a1 = some r) :
    FnA Try.prog 22 [.agg [.v (.int .i64 a0_0), .sl 0], .v (.int .i64 a1)] [.row true (.trips a0_1)] [] (fun x H => x = .v (.int .i64 r.1) ∧ H = [.row true (.trips r.2)]) := by
  unfold laws_markGraph at h
  refine FnA.of (N := 10) (pin := [0]) (rs := [.tmp 4]) Try.func22 rfl en22 rfl rfl (by simp) (by simp; try omega) ?_
  refine awp_reg ftCOk [(1, .v (.int .i64 a1)), (2, .pp 1 0)] [.row true (.trips a0_1), .box [.v (.int .i64 a0_0), .sl 0]] ?_
  refine awp_freeze 2 (by rfl) (by rfl) (by exact rfl) ?_
  replace h := bind_some h
  obtain ⟨⟨y, y_1⟩, hr0, h⟩ := h
  try dsimp only at h
  refine awp_to [(1, .v (.int .i64 y))] [.row true (.trips y_1), .rbox [.v (.int .i64 a0_0), .sl 0]] ?_ ?_
  · clear h
    intro K hK
    refine awp_region ftCOk ?_
    simp (maxSteps := 4000000) only [go_sem, Nat.reduceBEq, Nat.reduceLT, Nat.reduceAdd, Nat.reduceLeDiff, Nat.reduceSub, Nat.reduceEqDiff, Int.reduceToNat, reduceCtorEq, ↓reduceIte]
    repeat' (first | refine And.intro ?_ ?_ | intro hg)
    all_goals (try simp (disch := omega) only [wrap_fits])
    all_goals first
      | (refine hK _ _ ?_; exact Red.auto)
      | exact trivial
      | assumption
      | omega
      | exact wrap_fits (by omega) (by omega)
      | (refine wpA_callA (k_laws_markEdgeS a0_1 a1 (h := hr0)) [0] [] ?_
         rintro x Hc' ⟨rfl, rfl⟩ hlen
         refine vcOps_sound ftCOk ?_
         simp (maxSteps := 4000000) only [go_sem, Nat.reduceBEq, Nat.reduceLT, Nat.reduceAdd, Nat.reduceLeDiff, Nat.reduceSub, Nat.reduceEqDiff, Int.reduceToNat, reduceCtorEq, ↓reduceIte]
         repeat' (first | refine And.intro ?_ ?_ | intro hg)
         all_goals (try simp (disch := omega) only [wrap_fits])
         all_goals first
           | (refine hK _ _ ?_; exact Red.auto)
           | exact trivial
           | assumption
           | omega
           | exact wrap_fits (by omega) (by omega)
           | (simp_all; done)
           | (simp_all; omega))
      | (simp_all; done)
      | (simp_all; omega)
  · clear hr0
    refine awp_reg ftCOk [(4, .v (.int .i64 y))] [.row true (.trips y_1), .rbox [.v (.int .i64 a0_0), .sl 0]] ?_
    refine awp_ret ?_
    (try simp only [Thn, InBlk, ↓reduceIte, Nat.reduceEqDiff])
    obtain rfl := Option.some.inj h
    refine ⟨by simp, _, [0], (by simp only [go_sem, Nat.reduceBEq, Nat.reduceLT, Nat.reduceAdd, Nat.reduceLeDiff, Nat.reduceSub, Nat.reduceEqDiff, Int.reduceToNat, reduceCtorEq, ↓reduceIte]; exact rfl), ?_, ?_, ?_, ?_⟩
    · first | exact trivial | exact ⟨trivial, trivial⟩ | exact ⟨trivial, trivial, trivial⟩ | exact ⟨trivial, trivial, trivial, trivial⟩ | (simp only [allP, and_true, true_and]; done) | (simp only [allP, and_true, true_and]; omega)
    · simp [selOk, pos]
    · simp
    · first | exact ⟨rfl, rfl⟩ | (simp only [go_sem, Nat.reduceBEq, Nat.reduceLT, Nat.reduceAdd, Nat.reduceLeDiff, Nat.reduceSub, Nat.reduceEqDiff, Int.reduceToNat, reduceCtorEq, ↓reduceIte]; done) | (simp [go_sem, Nat.reduceBEq, Nat.reduceLT, Nat.reduceAdd, Nat.reduceLeDiff, Nat.reduceSub, Nat.reduceEqDiff, Int.reduceToNat, reduceCtorEq, ↓reduceIte]; done) | (simp only [go_sem, Nat.reduceBEq, Nat.reduceLT, Nat.reduceAdd, Nat.reduceLeDiff, Nat.reduceSub, Nat.reduceEqDiff, Int.reduceToNat, reduceCtorEq, ↓reduceIte]; exact ⟨rfl, rfl⟩) | (simp_all [go_sem, Nat.reduceBEq, Nat.reduceLT, Nat.reduceAdd, Nat.reduceLeDiff, Nat.reduceSub, Nat.reduceEqDiff, Int.reduceToNat, reduceCtorEq, ↓reduceIte]; done)
theorem k_laws_heldEdgeS (a0 : List (Int × Int × Int)) (a1 : Int) {r : Int} (h : laws_heldEdgeS a0 a1 = some r) :
    FnA Try.prog 45 [.sl 0, .v (.int .i64 a1)] [.row false (.trips a0)] [] (fun x H => x = .v (.int .i64 r) ∧ H = [.row false (.trips a0)]) := by
  unfold laws_heldEdgeS at h
  refine FnA.of (N := 40) (pin := [0]) (rs := [.tmp 4]) Try.func45 rfl en45 rfl rfl (by simp) (by simp; try omega) ?_
  refine awp_reg ftCOk [(0, .sl 0), (1, .v (.int .i64 a1))] [.row false (.trips a0)] ?_
  refine awp_seq fun K68 hK68 => ?_
  refine awp_reg ftCOk [(0, .sl 0), (1, .v (.int .i64 a1)), (5, .v (.int .i64 0))] [.row false (.trips a0)] ?_
  refine awp_block ?_
  replace h := bind_some h
  obtain ⟨x135, hx, h⟩ := h
  refine awp_loopL hx (fun ((t1, t5) : Int × Int) => [(0, .sl 0), (1, .v (.int .i64 t1)), (5, .v (.int .i64 t5))]) (fun ((t1, t5) : Int × Int) => [.row false (.trips a0)]) (Sum.elim (fun (t1_1 : Int) => Exit.exit 0) (fun (_ : Unit) => Exit.ret)) (Sum.elim (fun (t1_1 : Int) => [(1, .v (.int .i64 t1_1))]) (fun (_ : Unit) => [(4, .v (.int .i64 (-1)))])) (Sum.elim (fun (t1_1 : Int) => [.row false (.trips a0)]) (fun (_ : Unit) => [.row false (.trips a0)])) ?_ ?_ ?_ ?_
  · rintro (t1_1 | ⟨⟩) hy <;> cases hy
  · clear h hx
    exact Red.auto
  · clear h hx
    rintro ⟨t1, t5⟩ r h
    unfold laws_heldEdgeS_b0 at h
    try dsimp only at h
    try dsimp only
    refine awp_seq fun K114 hK114 => ?_
    refine awp_reg ftCOk [(0, .sl 0), (1, .v (.int .i64 t1)), (5, .v (.int .i64 t5)), (9, .v (.bool (decide (t5 < (a0.length : Int)))))] [.row false (.trips a0)] ?_
    refine awp_cond (t := 9) rfl (fun hc115 => ?_) (fun hc115 => ?_)
    · replace h := bite_t h hc115
      refine awp_skip ?_
      (try simp only [Thn, InBlk, ↓reduceIte, Nat.reduceEqDiff])
      refine hK114 _ _ ?_
      clear hK114
      refine awp_seq fun K125 hK125 => ?_
      refine awp_block ?_
      refine awp_seq fun K127 hK127 => ?_
      replace h := chk_some h
      obtain ⟨hp0, h⟩ := h
      refine awp_reg ftCOk [(0, .sl 0), (1, .v (.int .i64 t1)), (5, .v (.int .i64 t5)), (18, .v (.bool ((a0.getD t5.toNat (0, 0, 0)).1 != t1)))] [.row false (.trips a0)] ?_
      clear hp0
      refine awp_cond (t := 18) rfl (fun hc128 => ?_) (fun hc128 => ?_)
      · replace h := bite_t h hc128
        refine awp_reg ftCOk [(4, .v (.int .i64 (-1)))] [.row false (.trips a0)] ?_
        refine awp_ret ?_
        (try simp only [Thn, InBlk, ↓reduceIte, Nat.reduceEqDiff])
        obtain rfl := Option.some.inj h
        refine LoopQ.out rfl ?_
        exact Red.auto
      · replace h := bite_f h hc128
        refine awp_skip ?_
        (try simp only [Thn, InBlk, ↓reduceIte, Nat.reduceEqDiff])
        refine hK127 _ _ ?_
        clear hK127
        replace h := chk_some h
        obtain ⟨hp0, h⟩ := h
        refine awp_reg ftCOk [(0, .sl 0), (1, .v (.int .i64 (t1 + 1))), (5, .v (.int .i64 t5))] [.row false (.trips a0)] ?_
        clear hp0
        refine awp_seq fun K130 hK130 => ?_
        replace h := chk_some h
        obtain ⟨hp0, h⟩ := h
        refine awp_reg ftCOk [(0, .sl 0), (1, .v (.int .i64 (t1 + 1))), (5, .v (.int .i64 t5)), (27, .v (.bool ((a0.getD t5.toNat (0, 0, 0)).2.1 != (t1 + 1))))] [.row false (.trips a0)] ?_
        clear hp0
        refine awp_cond (t := 27) rfl (fun hc131 => ?_) (fun hc131 => ?_)
        · replace h := bite_t h hc131
          refine awp_reg ftCOk [(4, .v (.int .i64 (-1)))] [.row false (.trips a0)] ?_
          refine awp_ret ?_
          (try simp only [Thn, InBlk, ↓reduceIte, Nat.reduceEqDiff])
          obtain rfl := Option.some.inj h
          refine LoopQ.out rfl ?_
          exact Red.auto
        · replace h := bite_f h hc131
          refine awp_skip ?_
          (try simp only [Thn, InBlk, ↓reduceIte, Nat.reduceEqDiff])
          refine hK130 _ _ ?_
          clear hK130
          replace h := chk_some h
          obtain ⟨hp0, h⟩ := h
          refine awp_reg ftCOk [(0, .sl 0), (1, .v (.int .i64 ((t1 + 1) + 1))), (5, .v (.int .i64 t5))] [.row false (.trips a0)] ?_
          clear hp0
          refine awp_seq fun K133 hK133 => ?_
          replace h := chk_some h
          obtain ⟨hp0, h⟩ := h
          refine awp_reg ftCOk [(0, .sl 0), (1, .v (.int .i64 ((t1 + 1) + 1))), (5, .v (.int .i64 t5)), (36, .v (.bool ((a0.getD t5.toNat (0, 0, 0)).2.2 != ((t1 + 1) + 1))))] [.row false (.trips a0)] ?_
          clear hp0
          refine awp_cond (t := 36) rfl (fun hc134 => ?_) (fun hc134 => ?_)
          · replace h := bite_t h hc134
            refine awp_reg ftCOk [(4, .v (.int .i64 (-1)))] [.row false (.trips a0)] ?_
            refine awp_ret ?_
            (try simp only [Thn, InBlk, ↓reduceIte, Nat.reduceEqDiff])
            obtain rfl := Option.some.inj h
            refine LoopQ.out rfl ?_
            exact Red.auto
          · replace h := bite_f h hc134
            refine awp_skip ?_
            (try simp only [Thn, InBlk, ↓reduceIte, Nat.reduceEqDiff])
            refine hK133 _ _ ?_
            clear hK133
            replace h := chk_some h
            obtain ⟨hp0, h⟩ := h
            refine awp_regE ftCOk [(0, .sl 0), (1, .v (.int .i64 (((t1 + 1) + 1) + 1))), (5, .v (.int .i64 t5))] [.row false (.trips a0)] ?_
            clear hp0
            (try simp only [Thn, InBlk, ↓reduceIte, Nat.reduceEqDiff])
            (try simp only [Thn, InBlk, ↓reduceIte, Nat.reduceEqDiff])
            refine hK125 _ _ ?_
            clear hK125
            replace h := chk_some h
            obtain ⟨hp0, h⟩ := h
            refine awp_regE ftCOk [(0, .sl 0), (1, .v (.int .i64 (((t1 + 1) + 1) + 1))), (5, .v (.int .i64 (t5 + 1)))] [.row false (.trips a0)] ?_
            clear hp0
            obtain rfl := Option.some.inj h
            refine LoopQ.next ?_
            exact Red.auto
    · replace h := bite_f h hc115
      refine awp_exit ?_
      (try simp only [Thn, InBlk, ↓reduceIte, Nat.reduceEqDiff])
      obtain rfl := Option.some.inj h
      refine LoopQ.out rfl ?_
      exact Red.auto
  · clear hx
    rcases x135 with (t1_1 | ⟨⟩)
    · try dsimp only [Sum.elim_inl, Sum.elim_inr] at h
      try dsimp only [Sum.elim_inl, Sum.elim_inr]
      (try simp only [Thn, InBlk, ↓reduceIte, Nat.reduceEqDiff])
      (try simp only [Thn, InBlk, ↓reduceIte, Nat.reduceEqDiff])
      (try simp only [Thn, InBlk, ↓reduceIte, Nat.reduceEqDiff])
      refine hK68 _ _ ?_
      clear hK68
      refine awp_reg ftCOk [(4, .v (.int .i64 t1_1))] [.row false (.trips a0)] ?_
      refine awp_ret ?_
      (try simp only [Thn, InBlk, ↓reduceIte, Nat.reduceEqDiff])
      obtain rfl := Option.some.inj h
      refine ⟨by simp, _, [0], (by simp only [go_sem, Nat.reduceBEq, Nat.reduceLT, Nat.reduceAdd, Nat.reduceLeDiff, Nat.reduceSub, Nat.reduceEqDiff, Int.reduceToNat, reduceCtorEq, ↓reduceIte]; exact rfl), ?_, ?_, ?_, ?_⟩
      · first | exact trivial | exact ⟨trivial, trivial⟩ | exact ⟨trivial, trivial, trivial⟩ | exact ⟨trivial, trivial, trivial, trivial⟩ | (simp only [allP, and_true, true_and]; done) | (simp only [allP, and_true, true_and]; omega)
      · simp [selOk, pos]
      · simp
      · first | exact ⟨rfl, rfl⟩ | (simp only [go_sem, Nat.reduceBEq, Nat.reduceLT, Nat.reduceAdd, Nat.reduceLeDiff, Nat.reduceSub, Nat.reduceEqDiff, Int.reduceToNat, reduceCtorEq, ↓reduceIte]; done) | (simp [go_sem, Nat.reduceBEq, Nat.reduceLT, Nat.reduceAdd, Nat.reduceLeDiff, Nat.reduceSub, Nat.reduceEqDiff, Int.reduceToNat, reduceCtorEq, ↓reduceIte]; done) | (simp only [go_sem, Nat.reduceBEq, Nat.reduceLT, Nat.reduceAdd, Nat.reduceLeDiff, Nat.reduceSub, Nat.reduceEqDiff, Int.reduceToNat, reduceCtorEq, ↓reduceIte]; exact ⟨rfl, rfl⟩) | (simp_all [go_sem, Nat.reduceBEq, Nat.reduceLT, Nat.reduceAdd, Nat.reduceLeDiff, Nat.reduceSub, Nat.reduceEqDiff, Int.reduceToNat, reduceCtorEq, ↓reduceIte]; done)
    · try dsimp only [Sum.elim_inl, Sum.elim_inr] at h
      try dsimp only [Sum.elim_inl, Sum.elim_inr]
      (try simp only [Thn, InBlk, ↓reduceIte, Nat.reduceEqDiff])
      obtain rfl := Option.some.inj h
      refine ⟨by simp, _, [0], (by simp only [go_sem, Nat.reduceBEq, Nat.reduceLT, Nat.reduceAdd, Nat.reduceLeDiff, Nat.reduceSub, Nat.reduceEqDiff, Int.reduceToNat, reduceCtorEq, ↓reduceIte]; exact rfl), ?_, ?_, ?_, ?_⟩
      · first | exact trivial | exact ⟨trivial, trivial⟩ | exact ⟨trivial, trivial, trivial⟩ | exact ⟨trivial, trivial, trivial, trivial⟩ | (simp only [allP, and_true, true_and]; done) | (simp only [allP, and_true, true_and]; omega)
      · simp [selOk, pos]
      · simp
      · first | exact ⟨rfl, rfl⟩ | (simp only [go_sem, Nat.reduceBEq, Nat.reduceLT, Nat.reduceAdd, Nat.reduceLeDiff, Nat.reduceSub, Nat.reduceEqDiff, Int.reduceToNat, reduceCtorEq, ↓reduceIte]; done) | (simp [go_sem, Nat.reduceBEq, Nat.reduceLT, Nat.reduceAdd, Nat.reduceLeDiff, Nat.reduceSub, Nat.reduceEqDiff, Int.reduceToNat, reduceCtorEq, ↓reduceIte]; done) | (simp only [go_sem, Nat.reduceBEq, Nat.reduceLT, Nat.reduceAdd, Nat.reduceLeDiff, Nat.reduceSub, Nat.reduceEqDiff, Int.reduceToNat, reduceCtorEq, ↓reduceIte]; exact ⟨rfl, rfl⟩) | (simp_all [go_sem, Nat.reduceBEq, Nat.reduceLT, Nat.reduceAdd, Nat.reduceLeDiff, Nat.reduceSub, Nat.reduceEqDiff, Int.reduceToNat, reduceCtorEq, ↓reduceIte]; done)
theorem k_laws_heldGraph (a0_0 : Int) (a0_1 : List (Int × Int × Int)) (a1 : Int) {r : Int} (h : laws_heldGraph a0_0 a0_1 a1 = some r) :
    FnA Try.prog 23 [.agg [.v (.int .i64 a0_0), .sl 0], .v (.int .i64 a1)] [.row false (.trips a0_1)] [] (fun x H => x = .v (.int .i64 r) ∧ H = [.row false (.trips a0_1)]) := by
  unfold laws_heldGraph at h
  refine FnA.of (N := 12) (pin := [0]) (rs := [.tmp 4]) Try.func23 rfl en23 rfl rfl (by simp) (by simp; try omega) ?_
  refine awp_reg ftCOk [(1, .v (.int .i64 a1)), (2, .pp 1 0)] [.row false (.trips a0_1), .box [.v (.int .i64 a0_0), .sl 0]] ?_
  refine awp_freeze 2 (by rfl) (by rfl) (by exact rfl) ?_
  replace h := bind_some h
  obtain ⟨y, hr0, h⟩ := h
  try dsimp only at h
  refine awp_to [(1, .v (.int .i64 y))] [.row false (.trips a0_1), .rbox [.v (.int .i64 a0_0), .sl 0]] ?_ ?_
  · clear h
    intro K hK
    refine awp_region ftCOk ?_
    simp (maxSteps := 4000000) only [go_sem, Nat.reduceBEq, Nat.reduceLT, Nat.reduceAdd, Nat.reduceLeDiff, Nat.reduceSub, Nat.reduceEqDiff, Int.reduceToNat, reduceCtorEq, ↓reduceIte]
    repeat' (first | refine And.intro ?_ ?_ | intro hg)
    all_goals (try simp (disch := omega) only [wrap_fits])
    all_goals first
      | (refine hK _ _ ?_; exact Red.auto)
      | exact trivial
      | assumption
      | omega
      | exact wrap_fits (by omega) (by omega)
      | (refine wpA_callA (k_laws_heldEdgeS a0_1 a1 (h := hr0)) [0] [] ?_
         rintro x Hc' ⟨rfl, rfl⟩ hlen
         refine vcOps_sound ftCOk ?_
         simp (maxSteps := 4000000) only [go_sem, Nat.reduceBEq, Nat.reduceLT, Nat.reduceAdd, Nat.reduceLeDiff, Nat.reduceSub, Nat.reduceEqDiff, Int.reduceToNat, reduceCtorEq, ↓reduceIte]
         repeat' (first | refine And.intro ?_ ?_ | intro hg)
         all_goals (try simp (disch := omega) only [wrap_fits])
         all_goals first
           | (refine hK _ _ ?_; exact Red.auto)
           | exact trivial
           | assumption
           | omega
           | exact wrap_fits (by omega) (by omega)
           | (simp_all; done)
           | (simp_all; omega))
      | (simp_all; done)
      | (simp_all; omega)
  · clear hr0
    refine awp_seq fun K2 hK2 => ?_
    refine awp_reg ftCOk [(1, .v (.int .i64 y)), (10, .v (.bool (decide (y < 0))))] [.row false (.trips a0_1), .rbox [.v (.int .i64 a0_0), .sl 0]] ?_
    refine awp_cond (t := 10) rfl (fun hc3 => ?_) (fun hc3 => ?_)
    · replace h := bite_t h hc3
      refine awp_reg ftCOk [(4, .v (.int .i64 (-1)))] [.row false (.trips a0_1), .rbox [.v (.int .i64 a0_0), .sl 0]] ?_
      refine awp_ret ?_
      (try simp only [Thn, InBlk, ↓reduceIte, Nat.reduceEqDiff])
      obtain rfl := Option.some.inj h
      refine ⟨by simp, _, [0], (by simp only [go_sem, Nat.reduceBEq, Nat.reduceLT, Nat.reduceAdd, Nat.reduceLeDiff, Nat.reduceSub, Nat.reduceEqDiff, Int.reduceToNat, reduceCtorEq, ↓reduceIte]; exact rfl), ?_, ?_, ?_, ?_⟩
      · first | exact trivial | exact ⟨trivial, trivial⟩ | exact ⟨trivial, trivial, trivial⟩ | exact ⟨trivial, trivial, trivial, trivial⟩ | (simp only [allP, and_true, true_and]; done) | (simp only [allP, and_true, true_and]; omega)
      · simp [selOk, pos]
      · simp
      · first | exact ⟨rfl, rfl⟩ | (simp only [go_sem, Nat.reduceBEq, Nat.reduceLT, Nat.reduceAdd, Nat.reduceLeDiff, Nat.reduceSub, Nat.reduceEqDiff, Int.reduceToNat, reduceCtorEq, ↓reduceIte]; done) | (simp [go_sem, Nat.reduceBEq, Nat.reduceLT, Nat.reduceAdd, Nat.reduceLeDiff, Nat.reduceSub, Nat.reduceEqDiff, Int.reduceToNat, reduceCtorEq, ↓reduceIte]; done) | (simp only [go_sem, Nat.reduceBEq, Nat.reduceLT, Nat.reduceAdd, Nat.reduceLeDiff, Nat.reduceSub, Nat.reduceEqDiff, Int.reduceToNat, reduceCtorEq, ↓reduceIte]; exact ⟨rfl, rfl⟩) | (simp_all [go_sem, Nat.reduceBEq, Nat.reduceLT, Nat.reduceAdd, Nat.reduceLeDiff, Nat.reduceSub, Nat.reduceEqDiff, Int.reduceToNat, reduceCtorEq, ↓reduceIte]; done)
    · replace h := bite_f h hc3
      refine awp_skip ?_
      (try simp only [Thn, InBlk, ↓reduceIte, Nat.reduceEqDiff])
      refine hK2 _ _ ?_
      clear hK2
      refine awp_reg ftCOk [(4, .v (.int .i64 y))] [.row false (.trips a0_1), .rbox [.v (.int .i64 a0_0), .sl 0]] ?_
      refine awp_ret ?_
      (try simp only [Thn, InBlk, ↓reduceIte, Nat.reduceEqDiff])
      obtain rfl := Option.some.inj h
      refine ⟨by simp, _, [0], (by simp only [go_sem, Nat.reduceBEq, Nat.reduceLT, Nat.reduceAdd, Nat.reduceLeDiff, Nat.reduceSub, Nat.reduceEqDiff, Int.reduceToNat, reduceCtorEq, ↓reduceIte]; exact rfl), ?_, ?_, ?_, ?_⟩
      · first | exact trivial | exact ⟨trivial, trivial⟩ | exact ⟨trivial, trivial, trivial⟩ | exact ⟨trivial, trivial, trivial, trivial⟩ | (simp only [allP, and_true, true_and]; done) | (simp only [allP, and_true, true_and]; omega)
      · simp [selOk, pos]
      · simp
      · first | exact ⟨rfl, rfl⟩ | (simp only [go_sem, Nat.reduceBEq, Nat.reduceLT, Nat.reduceAdd, Nat.reduceLeDiff, Nat.reduceSub, Nat.reduceEqDiff, Int.reduceToNat, reduceCtorEq, ↓reduceIte]; done) | (simp [go_sem, Nat.reduceBEq, Nat.reduceLT, Nat.reduceAdd, Nat.reduceLeDiff, Nat.reduceSub, Nat.reduceEqDiff, Int.reduceToNat, reduceCtorEq, ↓reduceIte]; done) | (simp only [go_sem, Nat.reduceBEq, Nat.reduceLT, Nat.reduceAdd, Nat.reduceLeDiff, Nat.reduceSub, Nat.reduceEqDiff, Int.reduceToNat, reduceCtorEq, ↓reduceIte]; exact ⟨rfl, rfl⟩) | (simp_all [go_sem, Nat.reduceBEq, Nat.reduceLT, Nat.reduceAdd, Nat.reduceLeDiff, Nat.reduceSub, Nat.reduceEqDiff, Int.reduceToNat, reduceCtorEq, ↓reduceIte]; done)
theorem k_laws_FnExactJoinParts (a0 : List (Int × List (Int × Int × Int))) {r : Bool} (h : laws_FnExactJoinParts a0 = some r) :
    FnA Try.prog 5 [.sl 0] [.row false (.graphs a0)] [] (fun x H => x = .v (.bool r) ∧ H = [.row false (.graphs a0)]) := by
  unfold laws_FnExactJoinParts at h
  refine FnA.of (N := 96) (pin := [0]) (rs := [.tmp 2]) Try.func5 rfl en5 rfl rfl (by simp) (by simp; try omega) ?_
  refine awp_reg ftCOk [(0, .sl 0)] [.row false (.graphs a0)] ?_
  refine awp_reg ftCOk [(0, .sl 0), (3, .v (.int .i64 1048576))] [.row false (.graphs a0)] ?_
  replace h := bind_some h
  obtain ⟨y, hr0, h⟩ := h
  try dsimp only at h
  refine awp_to [(0, .sl 0), (3, .v (.int .i64 y))] [.row false (.graphs a0)] ?_ ?_
  · clear h
    intro K hK
    refine awp_region ftCOk ?_
    simp (maxSteps := 4000000) only [go_sem, Nat.reduceBEq, Nat.reduceLT, Nat.reduceAdd, Nat.reduceLeDiff, Nat.reduceSub, Nat.reduceEqDiff, Int.reduceToNat, reduceCtorEq, ↓reduceIte]
    repeat' (first | refine And.intro ?_ ?_ | intro hg)
    all_goals (try simp (disch := omega) only [wrap_fits])
    all_goals first
      | (refine hK _ _ ?_; exact Red.auto)
      | exact trivial
      | assumption
      | omega
      | exact wrap_fits (by omega) (by omega)
      | (refine wpA_callA (k_laws_szGraphS a0 1048576 (h := hr0)) [0] [] ?_
         rintro x Hc' ⟨rfl, rfl⟩ hlen
         refine vcOps_sound ftCOk ?_
         simp (maxSteps := 4000000) only [go_sem, Nat.reduceBEq, Nat.reduceLT, Nat.reduceAdd, Nat.reduceLeDiff, Nat.reduceSub, Nat.reduceEqDiff, Int.reduceToNat, reduceCtorEq, ↓reduceIte]
         repeat' (first | refine And.intro ?_ ?_ | intro hg)
         all_goals (try simp (disch := omega) only [wrap_fits])
         all_goals first
           | (refine hK _ _ ?_; exact Red.auto)
           | exact trivial
           | assumption
           | omega
           | exact wrap_fits (by omega) (by omega)
           | (simp_all; done)
           | (simp_all; omega))
      | (simp_all; done)
      | (simp_all; omega)
  · clear hr0
    refine awp_seq fun K2 hK2 => ?_
    refine awp_reg ftCOk [(0, .sl 0), (18, .v (.bool (decide (y < 0))))] [.row false (.graphs a0)] ?_
    refine awp_cond (t := 18) rfl (fun hc3 => ?_) (fun hc3 => ?_)
    · replace h := bite_t h hc3
      refine awp_reg ftCOk [(2, .v (.bool true))] [.row false (.graphs a0)] ?_
      refine awp_ret ?_
      (try simp only [Thn, InBlk, ↓reduceIte, Nat.reduceEqDiff])
      obtain rfl := Option.some.inj h
      refine ⟨by simp, _, [0], (by simp only [go_sem, Nat.reduceBEq, Nat.reduceLT, Nat.reduceAdd, Nat.reduceLeDiff, Nat.reduceSub, Nat.reduceEqDiff, Int.reduceToNat, reduceCtorEq, ↓reduceIte]; exact rfl), ?_, ?_, ?_, ?_⟩
      · first | exact trivial | exact ⟨trivial, trivial⟩ | exact ⟨trivial, trivial, trivial⟩ | exact ⟨trivial, trivial, trivial, trivial⟩ | (simp only [allP, and_true, true_and]; done) | (simp only [allP, and_true, true_and]; omega)
      · simp [selOk, pos]
      · simp
      · first | exact ⟨rfl, rfl⟩ | (simp only [go_sem, Nat.reduceBEq, Nat.reduceLT, Nat.reduceAdd, Nat.reduceLeDiff, Nat.reduceSub, Nat.reduceEqDiff, Int.reduceToNat, reduceCtorEq, ↓reduceIte]; done) | (simp [go_sem, Nat.reduceBEq, Nat.reduceLT, Nat.reduceAdd, Nat.reduceLeDiff, Nat.reduceSub, Nat.reduceEqDiff, Int.reduceToNat, reduceCtorEq, ↓reduceIte]; done) | (simp only [go_sem, Nat.reduceBEq, Nat.reduceLT, Nat.reduceAdd, Nat.reduceLeDiff, Nat.reduceSub, Nat.reduceEqDiff, Int.reduceToNat, reduceCtorEq, ↓reduceIte]; exact ⟨rfl, rfl⟩) | (simp_all [go_sem, Nat.reduceBEq, Nat.reduceLT, Nat.reduceAdd, Nat.reduceLeDiff, Nat.reduceSub, Nat.reduceEqDiff, Int.reduceToNat, reduceCtorEq, ↓reduceIte]; done)
    · replace h := bite_f h hc3
      refine awp_skip ?_
      (try simp only [Thn, InBlk, ↓reduceIte, Nat.reduceEqDiff])
      refine hK2 _ _ ?_
      clear hK2
      replace h := bind_some h
      obtain ⟨y_1, hr0, h⟩ := h
      try dsimp only at h
      replace h := bind_some h
      obtain ⟨⟨y_2, y_3, y_4⟩, hr1, h⟩ := h
      try dsimp only at h
      refine awp_to [(0, .sl 0), (4, .pp 3 0), (5, .v (.bool y_4))] [.row false (.graphs a0), .row true (.graphs y_1), .row true (.trips y_3), .box [.v (.int .i64 y_2), .sl 2]] ?_ ?_
      · clear h
        intro K hK
        refine awp_region ftCOk ?_
        simp (maxSteps := 4000000) only [go_sem, Nat.reduceBEq, Nat.reduceLT, Nat.reduceAdd, Nat.reduceLeDiff, Nat.reduceSub, Nat.reduceEqDiff, Int.reduceToNat, reduceCtorEq, ↓reduceIte]
        repeat' (first | refine And.intro ?_ ?_ | intro hg)
        all_goals (try simp (disch := omega) only [wrap_fits])
        all_goals first
          | (refine hK _ _ ?_; exact Red.auto)
          | exact trivial
          | assumption
          | omega
          | exact wrap_fits (by omega) (by omega)
          | (refine wpA_callA (k_laws_toGraphS a0 (h := hr0)) [0] [] ?_
             rintro x Hc' ⟨rfl, rfl⟩ hlen
             refine vcOps_sound ftCOk ?_
             simp (maxSteps := 4000000) only [go_sem, Nat.reduceBEq, Nat.reduceLT, Nat.reduceAdd, Nat.reduceLeDiff, Nat.reduceSub, Nat.reduceEqDiff, Int.reduceToNat, reduceCtorEq, ↓reduceIte]
             repeat' (first | refine And.intro ?_ ?_ | intro hg)
             all_goals (try simp (disch := omega) only [wrap_fits])
             all_goals first
               | (refine hK _ _ ?_; exact Red.auto)
               | exact trivial
               | assumption
               | omega
               | exact wrap_fits (by omega) (by omega)
               | (refine wpA_callA (k_spec_JoinParts y_1 (h := hr1)) [1] [] ?_
                  rintro x Hc' ⟨rfl, rfl⟩ hlen
                  refine vcOps_sound ftCOk ?_
                  simp (maxSteps := 4000000) only [go_sem, Nat.reduceBEq, Nat.reduceLT, Nat.reduceAdd, Nat.reduceLeDiff, Nat.reduceSub, Nat.reduceEqDiff, Int.reduceToNat, reduceCtorEq, ↓reduceIte]
                  repeat' (first | refine And.intro ?_ ?_ | intro hg)
                  all_goals (try simp (disch := omega) only [wrap_fits])
                  all_goals first
                    | (refine hK _ _ ?_; exact Red.auto)
                    | exact trivial
                    | assumption
                    | omega
                    | exact wrap_fits (by omega) (by omega)
                    | (simp_all; done)
                    | (simp_all; omega))
               | (simp_all; done)
               | (simp_all; omega))
          | (simp_all; done)
          | (simp_all; omega)
      · clear hr0 hr1
        replace h := bind_some h
        obtain ⟨y_5, hr0, h⟩ := h
        try dsimp only at h
        refine awp_to [(0, .sl 0), (4, .pp 3 0), (5, .v (.bool y_4)), (6, .sl 4)] [.row false (.graphs a0), .row true (.graphs y_1), .row true (.trips y_3), .box [.v (.int .i64 y_2), .sl 2], .row true (.graphs y_5)] ?_ ?_
        · clear h
          intro K hK
          refine awp_region ftCOk ?_
          simp (maxSteps := 4000000) only [go_sem, Nat.reduceBEq, Nat.reduceLT, Nat.reduceAdd, Nat.reduceLeDiff, Nat.reduceSub, Nat.reduceEqDiff, Int.reduceToNat, reduceCtorEq, ↓reduceIte]
          repeat' (first | refine And.intro ?_ ?_ | intro hg)
          all_goals (try simp (disch := omega) only [wrap_fits])
          all_goals first
            | (refine hK _ _ ?_; exact Red.auto)
            | exact trivial
            | assumption
            | omega
            | exact wrap_fits (by omega) (by omega)
            | (refine wpA_callA (k_laws_toGraphS a0 (h := hr0)) [0] [] ?_
               rintro x Hc' ⟨rfl, rfl⟩ hlen
               refine vcOps_sound ftCOk ?_
               simp (maxSteps := 4000000) only [go_sem, Nat.reduceBEq, Nat.reduceLT, Nat.reduceAdd, Nat.reduceLeDiff, Nat.reduceSub, Nat.reduceEqDiff, Int.reduceToNat, reduceCtorEq, ↓reduceIte]
               repeat' (first | refine And.intro ?_ ?_ | intro hg)
               all_goals (try simp (disch := omega) only [wrap_fits])
               all_goals first
                 | (refine hK _ _ ?_; exact Red.auto)
                 | exact trivial
                 | assumption
                 | omega
                 | exact wrap_fits (by omega) (by omega)
                 | (simp_all; done)
                 | (simp_all; omega))
            | (simp_all; done)
            | (simp_all; omega)
        · clear hr0
          replace h := bind_some h
          obtain ⟨⟨y_6, y_7, y_8⟩, hr0, h⟩ := h
          try dsimp only at h
          refine awp_to [(0, .sl 0), (4, .pp 3 0), (5, .v (.bool y_4)), (6, .sl 4), (7, .pp 6 0), (8, .v (.bool y_8))] [.row false (.graphs a0), .row true (.graphs y_1), .row true (.trips y_3), .box [.v (.int .i64 y_2), .sl 2], .row true (.graphs y_5), .row true (.trips y_7), .box [.v (.int .i64 y_6), .sl 5]] ?_ ?_
          · clear h
            intro K hK
            refine awp_region ftCOk ?_
            simp (maxSteps := 4000000) only [go_sem, Nat.reduceBEq, Nat.reduceLT, Nat.reduceAdd, Nat.reduceLeDiff, Nat.reduceSub, Nat.reduceEqDiff, Int.reduceToNat, reduceCtorEq, ↓reduceIte]
            repeat' (first | refine And.intro ?_ ?_ | intro hg)
            all_goals (try simp (disch := omega) only [wrap_fits])
            all_goals first
              | (refine hK _ _ ?_; exact Red.auto)
              | exact trivial
              | assumption
              | omega
              | exact wrap_fits (by omega) (by omega)
              | (refine wpA_callA (k_impl_JoinParts y_5 (h := hr0)) [4] [] ?_
                 rintro x Hc' ⟨rfl, rfl⟩ hlen
                 refine vcOps_sound ftCOk ?_
                 simp (maxSteps := 4000000) only [go_sem, Nat.reduceBEq, Nat.reduceLT, Nat.reduceAdd, Nat.reduceLeDiff, Nat.reduceSub, Nat.reduceEqDiff, Int.reduceToNat, reduceCtorEq, ↓reduceIte]
                 repeat' (first | refine And.intro ?_ ?_ | intro hg)
                 all_goals (try simp (disch := omega) only [wrap_fits])
                 all_goals first
                   | (refine hK _ _ ?_; exact Red.auto)
                   | exact trivial
                   | assumption
                   | omega
                   | exact wrap_fits (by omega) (by omega)
                   | (simp_all; done)
                   | (simp_all; omega))
              | (simp_all; done)
              | (simp_all; omega)
          · clear hr0
            refine awp_seq fun K5 hK5 => ?_
            replace h := bind_some h
            obtain ⟨y_9, hr0, h⟩ := h
            try dsimp only at h
            refine awp_to [(0, .sl 0), (4, .pp 3 0), (5, .v (.bool y_4)), (6, .sl 4), (7, .pp 6 0), (8, .v (.bool y_8)), (40, .v (.bool ((!y_9) || (!(y_8 == y_4)))))] [.row false (.graphs a0), .row true (.graphs y_1), .row true (.trips y_3), .box [.v (.int .i64 y_2), .sl 2], .row true (.graphs y_5), .row true (.trips y_7), .box [.v (.int .i64 y_6), .sl 5]] ?_ ?_
            · clear h
              intro K hK
              refine awp_region ftCOk ?_
              simp (maxSteps := 4000000) only [go_sem, Nat.reduceBEq, Nat.reduceLT, Nat.reduceAdd, Nat.reduceLeDiff, Nat.reduceSub, Nat.reduceEqDiff, Int.reduceToNat, reduceCtorEq, ↓reduceIte]
              repeat' (first | refine And.intro ?_ ?_ | intro hg)
              all_goals (try simp (disch := omega) only [wrap_fits])
              all_goals first
                | (refine hK _ _ ?_; exact Red.auto)
                | exact trivial
                | assumption
                | omega
                | exact wrap_fits (by omega) (by omega)
                | (refine wpA_callA (k_laws_eqGraph y_6 y_7 y_2 y_3 (h := hr0)) [5, 2] [] ?_
                   rintro x Hc' ⟨rfl, rfl⟩ hlen
                   refine vcOps_sound ftCOk ?_
                   simp (maxSteps := 4000000) only [go_sem, Nat.reduceBEq, Nat.reduceLT, Nat.reduceAdd, Nat.reduceLeDiff, Nat.reduceSub, Nat.reduceEqDiff, Int.reduceToNat, reduceCtorEq, ↓reduceIte]
                   repeat' (first | refine And.intro ?_ ?_ | intro hg)
                   all_goals (try simp (disch := omega) only [wrap_fits])
                   all_goals first
                     | (refine hK _ _ ?_; exact Red.auto)
                     | exact trivial
                     | assumption
                     | omega
                     | exact wrap_fits (by omega) (by omega)
                     | (simp_all; done)
                     | (simp_all; omega))
                | (simp_all; done)
                | (simp_all; omega)
            · clear hr0
              refine awp_cond (t := 40) rfl (fun hc6 => ?_) (fun hc6 => ?_)
              · replace h := bite_t h hc6
                refine awp_reg ftCOk [(2, .v (.bool false))] [.row false (.graphs a0), .row true (.graphs y_1), .row true (.trips y_3), .box [.v (.int .i64 y_2), .sl 2], .row true (.graphs y_5), .row true (.trips y_7), .box [.v (.int .i64 y_6), .sl 5]] ?_
                refine awp_ret ?_
                (try simp only [Thn, InBlk, ↓reduceIte, Nat.reduceEqDiff])
                obtain rfl := Option.some.inj h
                refine ⟨by simp, _, [0], (by simp only [go_sem, Nat.reduceBEq, Nat.reduceLT, Nat.reduceAdd, Nat.reduceLeDiff, Nat.reduceSub, Nat.reduceEqDiff, Int.reduceToNat, reduceCtorEq, ↓reduceIte]; exact rfl), ?_, ?_, ?_, ?_⟩
                · first | exact trivial | exact ⟨trivial, trivial⟩ | exact ⟨trivial, trivial, trivial⟩ | exact ⟨trivial, trivial, trivial, trivial⟩ | (simp only [allP, and_true, true_and]; done) | (simp only [allP, and_true, true_and]; omega)
                · simp [selOk, pos]
                · simp
                · first | exact ⟨rfl, rfl⟩ | (simp only [go_sem, Nat.reduceBEq, Nat.reduceLT, Nat.reduceAdd, Nat.reduceLeDiff, Nat.reduceSub, Nat.reduceEqDiff, Int.reduceToNat, reduceCtorEq, ↓reduceIte]; done) | (simp [go_sem, Nat.reduceBEq, Nat.reduceLT, Nat.reduceAdd, Nat.reduceLeDiff, Nat.reduceSub, Nat.reduceEqDiff, Int.reduceToNat, reduceCtorEq, ↓reduceIte]; done) | (simp only [go_sem, Nat.reduceBEq, Nat.reduceLT, Nat.reduceAdd, Nat.reduceLeDiff, Nat.reduceSub, Nat.reduceEqDiff, Int.reduceToNat, reduceCtorEq, ↓reduceIte]; exact ⟨rfl, rfl⟩) | (simp_all [go_sem, Nat.reduceBEq, Nat.reduceLT, Nat.reduceAdd, Nat.reduceLeDiff, Nat.reduceSub, Nat.reduceEqDiff, Int.reduceToNat, reduceCtorEq, ↓reduceIte]; done)
              · replace h := bite_f h hc6
                refine awp_skip ?_
                (try simp only [Thn, InBlk, ↓reduceIte, Nat.reduceEqDiff])
                refine hK5 _ _ ?_
                clear hK5
                refine awp_seq fun K8 hK8 => ?_
                replace h := bind_some h
                obtain ⟨y_10, hr0, h⟩ := h
                try dsimp only at h
                replace h := bind_some h
                obtain ⟨y_11, hr1, h⟩ := h
                try dsimp only at h
                refine awp_to [(0, .sl 0), (4, .pp 3 0), (5, .v (.bool y_4)), (6, .sl 4), (7, .pp 6 0), (8, .v (.bool y_8)), (45, .v (.bool (!y_11)))] [.row false (.graphs a0), .row true (.graphs y_1), .row true (.trips y_3), .box [.v (.int .i64 y_2), .sl 2], .row true (.graphs y_5), .row true (.trips y_7), .box [.v (.int .i64 y_6), .sl 5], .row true (.graphs y_10)] ?_ ?_
                · clear h
                  intro K hK
                  refine awp_region ftCOk ?_
                  simp (maxSteps := 4000000) only [go_sem, Nat.reduceBEq, Nat.reduceLT, Nat.reduceAdd, Nat.reduceLeDiff, Nat.reduceSub, Nat.reduceEqDiff, Int.reduceToNat, reduceCtorEq, ↓reduceIte]
                  repeat' (first | refine And.intro ?_ ?_ | intro hg)
                  all_goals (try simp (disch := omega) only [wrap_fits])
                  all_goals first
                    | (refine hK _ _ ?_; exact Red.auto)
                    | exact trivial
                    | assumption
                    | omega
                    | exact wrap_fits (by omega) (by omega)
                    | (refine wpA_callA (k_laws_toGraphS a0 (h := hr0)) [0] [] ?_
                       rintro x Hc' ⟨rfl, rfl⟩ hlen
                       refine vcOps_sound ftCOk ?_
                       simp (maxSteps := 4000000) only [go_sem, Nat.reduceBEq, Nat.reduceLT, Nat.reduceAdd, Nat.reduceLeDiff, Nat.reduceSub, Nat.reduceEqDiff, Int.reduceToNat, reduceCtorEq, ↓reduceIte]
                       repeat' (first | refine And.intro ?_ ?_ | intro hg)
                       all_goals (try simp (disch := omega) only [wrap_fits])
                       all_goals first
                         | (refine hK _ _ ?_; exact Red.auto)
                         | exact trivial
                         | assumption
                         | omega
                         | exact wrap_fits (by omega) (by omega)
                         | (refine wpA_callA (k_laws_eqGraphS y_5 y_10 (h := hr1)) [4, 7] [] ?_
                            rintro x Hc' ⟨rfl, rfl⟩ hlen
                            refine vcOps_sound ftCOk ?_
                            simp (maxSteps := 4000000) only [go_sem, Nat.reduceBEq, Nat.reduceLT, Nat.reduceAdd, Nat.reduceLeDiff, Nat.reduceSub, Nat.reduceEqDiff, Int.reduceToNat, reduceCtorEq, ↓reduceIte]
                            repeat' (first | refine And.intro ?_ ?_ | intro hg)
                            all_goals (try simp (disch := omega) only [wrap_fits])
                            all_goals first
                              | (refine hK _ _ ?_; exact Red.auto)
                              | exact trivial
                              | assumption
                              | omega
                              | exact wrap_fits (by omega) (by omega)
                              | (simp_all; done)
                              | (simp_all; omega))
                         | (simp_all; done)
                         | (simp_all; omega))
                    | (simp_all; done)
                    | (simp_all; omega)
                · clear hr0 hr1
                  refine awp_cond (t := 45) rfl (fun hc9 => ?_) (fun hc9 => ?_)
                  · replace h := bite_t h hc9
                    refine awp_reg ftCOk [(2, .v (.bool false))] [.row false (.graphs a0), .row true (.graphs y_1), .row true (.trips y_3), .box [.v (.int .i64 y_2), .sl 2], .row true (.graphs y_5), .row true (.trips y_7), .box [.v (.int .i64 y_6), .sl 5], .row true (.graphs y_10)] ?_
                    refine awp_ret ?_
                    (try simp only [Thn, InBlk, ↓reduceIte, Nat.reduceEqDiff])
                    obtain rfl := Option.some.inj h
                    refine ⟨by simp, _, [0], (by simp only [go_sem, Nat.reduceBEq, Nat.reduceLT, Nat.reduceAdd, Nat.reduceLeDiff, Nat.reduceSub, Nat.reduceEqDiff, Int.reduceToNat, reduceCtorEq, ↓reduceIte]; exact rfl), ?_, ?_, ?_, ?_⟩
                    · first | exact trivial | exact ⟨trivial, trivial⟩ | exact ⟨trivial, trivial, trivial⟩ | exact ⟨trivial, trivial, trivial, trivial⟩ | (simp only [allP, and_true, true_and]; done) | (simp only [allP, and_true, true_and]; omega)
                    · simp [selOk, pos]
                    · simp
                    · first | exact ⟨rfl, rfl⟩ | (simp only [go_sem, Nat.reduceBEq, Nat.reduceLT, Nat.reduceAdd, Nat.reduceLeDiff, Nat.reduceSub, Nat.reduceEqDiff, Int.reduceToNat, reduceCtorEq, ↓reduceIte]; done) | (simp [go_sem, Nat.reduceBEq, Nat.reduceLT, Nat.reduceAdd, Nat.reduceLeDiff, Nat.reduceSub, Nat.reduceEqDiff, Int.reduceToNat, reduceCtorEq, ↓reduceIte]; done) | (simp only [go_sem, Nat.reduceBEq, Nat.reduceLT, Nat.reduceAdd, Nat.reduceLeDiff, Nat.reduceSub, Nat.reduceEqDiff, Int.reduceToNat, reduceCtorEq, ↓reduceIte]; exact ⟨rfl, rfl⟩) | (simp_all [go_sem, Nat.reduceBEq, Nat.reduceLT, Nat.reduceAdd, Nat.reduceLeDiff, Nat.reduceSub, Nat.reduceEqDiff, Int.reduceToNat, reduceCtorEq, ↓reduceIte]; done)
                  · replace h := bite_f h hc9
                    refine awp_skip ?_
                    (try simp only [Thn, InBlk, ↓reduceIte, Nat.reduceEqDiff])
                    refine hK8 _ _ ?_
                    clear hK8
                    refine awp_reg ftCOk [(0, .sl 0), (4, .pp 3 0), (5, .v (.bool y_4)), (6, .sl 4), (7, .pp 6 0), (8, .v (.bool y_8)), (9, .v (.int .i64 1))] [.row false (.graphs a0), .row true (.graphs y_1), .row true (.trips y_3), .box [.v (.int .i64 y_2), .sl 2], .row true (.graphs y_5), .row true (.trips y_7), .box [.v (.int .i64 y_6), .sl 5], .row true (.graphs y_10)] ?_
                    replace h := bind_some h
                    obtain ⟨⟨y_12, y_13⟩, hr0, h⟩ := h
                    try dsimp only at h
                    refine awp_to [(0, .sl 0), (4, .pp 3 0), (5, .v (.bool y_4)), (7, .pp 6 0), (8, .v (.bool y_8)), (9, .v (.int .i64 y_12))] [.row false (.graphs a0), .row true (.graphs y_1), .row true (.trips y_3), .box [.v (.int .i64 y_2), .sl 2], .row true (.graphs y_13), .row true (.trips y_7), .box [.v (.int .i64 y_6), .sl 5], .row true (.graphs y_10)] ?_ ?_
                    · clear h
                      intro K hK
                      refine awp_region ftCOk ?_
                      simp (maxSteps := 4000000) only [go_sem, Nat.reduceBEq, Nat.reduceLT, Nat.reduceAdd, Nat.reduceLeDiff, Nat.reduceSub, Nat.reduceEqDiff, Int.reduceToNat, reduceCtorEq, ↓reduceIte]
                      repeat' (first | refine And.intro ?_ ?_ | intro hg)
                      all_goals (try simp (disch := omega) only [wrap_fits])
                      all_goals first
                        | (refine hK _ _ ?_; exact Red.auto)
                        | exact trivial
                        | assumption
                        | omega
                        | exact wrap_fits (by omega) (by omega)
                        | (refine wpA_callA (k_laws_markGraphS y_5 1 (h := hr0)) [4] [] ?_
                           rintro x Hc' ⟨rfl, rfl⟩ hlen
                           refine vcOps_sound ftCOk ?_
                           simp (maxSteps := 4000000) only [go_sem, Nat.reduceBEq, Nat.reduceLT, Nat.reduceAdd, Nat.reduceLeDiff, Nat.reduceSub, Nat.reduceEqDiff, Int.reduceToNat, reduceCtorEq, ↓reduceIte]
                           repeat' (first | refine And.intro ?_ ?_ | intro hg)
                           all_goals (try simp (disch := omega) only [wrap_fits])
                           all_goals first
                             | (refine hK _ _ ?_; exact Red.auto)
                             | exact trivial
                             | assumption
                             | omega
                             | exact wrap_fits (by omega) (by omega)
                             | (simp_all; done)
                             | (simp_all; omega))
                        | (simp_all; done)
                        | (simp_all; omega)
                    · clear hr0
                      refine awp_seq fun K11 hK11 => ?_
                      replace h := bind_some h
                      obtain ⟨y_14, hr0, h⟩ := h
                      try dsimp only at h
                      refine awp_to [(0, .sl 0), (4, .pp 3 0), (5, .v (.bool y_4)), (7, .pp 6 0), (61, .v (.bool (((decide (y_12 < 0)) || (!y_14)) || (!(y_8 == y_4)))))] [.row false (.graphs a0), .row true (.graphs y_1), .row true (.trips y_3), .box [.v (.int .i64 y_2), .sl 2], .row true (.graphs y_13), .row true (.trips y_7), .box [.v (.int .i64 y_6), .sl 5], .row true (.graphs y_10)] ?_ ?_
                      · clear h
                        intro K hK
                        refine awp_regionA ?_
                        refine wpA_cutAt 8 [(0, .sl 0), (4, .pp 3 0), (5, .v (.bool y_4)), (7, .pp 6 0), (8, .v (.bool y_8)), (56, .v (.bool ((decide (y_12 < 0)) || (!y_14))))] [.row false (.graphs a0), .row true (.graphs y_1), .row true (.trips y_3), .box [.v (.int .i64 y_2), .sl 2], .row true (.graphs y_13), .row true (.trips y_7), .box [.v (.int .i64 y_6), .sl 5], .row true (.graphs y_10)] ?_ ?_
                        · clear hK K
                          intro K hK
                          refine vcOps_sound ftCOk ?_
                          simp (maxSteps := 4000000) only [go_sem, Nat.reduceBEq, Nat.reduceLT, Nat.reduceAdd, Nat.reduceLeDiff, Nat.reduceSub, Nat.reduceEqDiff, Int.reduceToNat, reduceCtorEq, ↓reduceIte]
                          repeat' (first | refine And.intro ?_ ?_ | intro hg)
                          all_goals (try simp (disch := omega) only [wrap_fits])
                          all_goals first
                            | (refine hK _ _ ?_; exact Red.auto)
                            | exact trivial
                            | assumption
                            | omega
                            | exact wrap_fits (by omega) (by omega)
                            | (refine wpA_guard rfl rfl ?_
                               refine wpA_callA (k_laws_eqGraph y_6 y_7 y_2 y_3 (h := (bite_t hr0 (by rw [Bool.not_eq_true']; exact (by first | assumption | (simp only [*, Bool.false_or, Bool.true_or, Bool.or_false, Bool.or_true, Bool.false_and, Bool.true_and, Bool.and_false, Bool.and_true, Bool.not_true, Bool.not_false, beq_self_eq_true]; done) | (simp_all; done)))))) [5, 2] [] ?_
                               rintro x Hc' ⟨rfl, rfl⟩ hlen
                               refine vcOps_sound ftCOk ?_
                               simp (maxSteps := 4000000) only [go_sem, Nat.reduceBEq, Nat.reduceLT, Nat.reduceAdd, Nat.reduceLeDiff, Nat.reduceSub, Nat.reduceEqDiff, Int.reduceToNat, reduceCtorEq, ↓reduceIte]
                               repeat' (first | refine And.intro ?_ ?_ | intro hg)
                               all_goals (try simp (disch := omega) only [wrap_fits])
                               all_goals first
                                 | (refine hK _ _ ?_; exact Red.auto)
                                 | exact trivial
                                 | assumption
                                 | omega
                                 | exact wrap_fits (by omega) (by omega)
                                 | (simp_all; done)
                                 | (simp_all; omega))
                            | (simp_all; done)
                            | (simp_all; omega)
                        refine vcOps_sound ftCOk ?_
                        simp (maxSteps := 4000000) only [go_sem, Nat.reduceBEq, Nat.reduceLT, Nat.reduceAdd, Nat.reduceLeDiff, Nat.reduceSub, Nat.reduceEqDiff, Int.reduceToNat, reduceCtorEq, ↓reduceIte]
                        repeat' (first | refine And.intro ?_ ?_ | intro hg)
                        all_goals (try simp (disch := omega) only [wrap_fits])
                        all_goals first
                          | (refine hK _ _ ?_; exact Red.auto)
                          | exact trivial
                          | assumption
                          | omega
                          | exact wrap_fits (by omega) (by omega)
                          | (simp_all; done)
                          | (simp_all; omega)
                      · clear hr0
                        refine awp_cond (t := 61) rfl (fun hc12 => ?_) (fun hc12 => ?_)
                        · replace h := bite_t h hc12
                          refine awp_reg ftCOk [(2, .v (.bool false))] [.row false (.graphs a0), .row true (.graphs y_1), .row true (.trips y_3), .box [.v (.int .i64 y_2), .sl 2], .row true (.graphs y_13), .row true (.trips y_7), .box [.v (.int .i64 y_6), .sl 5], .row true (.graphs y_10)] ?_
                          refine awp_ret ?_
                          (try simp only [Thn, InBlk, ↓reduceIte, Nat.reduceEqDiff])
                          obtain rfl := Option.some.inj h
                          refine ⟨by simp, _, [0], (by simp only [go_sem, Nat.reduceBEq, Nat.reduceLT, Nat.reduceAdd, Nat.reduceLeDiff, Nat.reduceSub, Nat.reduceEqDiff, Int.reduceToNat, reduceCtorEq, ↓reduceIte]; exact rfl), ?_, ?_, ?_, ?_⟩
                          · first | exact trivial | exact ⟨trivial, trivial⟩ | exact ⟨trivial, trivial, trivial⟩ | exact ⟨trivial, trivial, trivial, trivial⟩ | (simp only [allP, and_true, true_and]; done) | (simp only [allP, and_true, true_and]; omega)
                          · simp [selOk, pos]
                          · simp
                          · first | exact ⟨rfl, rfl⟩ | (simp only [go_sem, Nat.reduceBEq, Nat.reduceLT, Nat.reduceAdd, Nat.reduceLeDiff, Nat.reduceSub, Nat.reduceEqDiff, Int.reduceToNat, reduceCtorEq, ↓reduceIte]; done) | (simp [go_sem, Nat.reduceBEq, Nat.reduceLT, Nat.reduceAdd, Nat.reduceLeDiff, Nat.reduceSub, Nat.reduceEqDiff, Int.reduceToNat, reduceCtorEq, ↓reduceIte]; done) | (simp only [go_sem, Nat.reduceBEq, Nat.reduceLT, Nat.reduceAdd, Nat.reduceLeDiff, Nat.reduceSub, Nat.reduceEqDiff, Int.reduceToNat, reduceCtorEq, ↓reduceIte]; exact ⟨rfl, rfl⟩) | (simp_all [go_sem, Nat.reduceBEq, Nat.reduceLT, Nat.reduceAdd, Nat.reduceLeDiff, Nat.reduceSub, Nat.reduceEqDiff, Int.reduceToNat, reduceCtorEq, ↓reduceIte]; done)
                        · replace h := bite_f h hc12
                          refine awp_skip ?_
                          (try simp only [Thn, InBlk, ↓reduceIte, Nat.reduceEqDiff])
                          refine hK11 _ _ ?_
                          clear hK11
                          refine awp_reg ftCOk [(0, .sl 0), (4, .pp 3 0), (5, .v (.bool y_4)), (7, .pp 6 0), (10, .v (.int .i64 1))] [.row false (.graphs a0), .row true (.graphs y_1), .row true (.trips y_3), .box [.v (.int .i64 y_2), .sl 2], .row true (.graphs y_13), .row true (.trips y_7), .box [.v (.int .i64 y_6), .sl 5], .row true (.graphs y_10)] ?_
                          replace h := bind_some h
                          obtain ⟨⟨y_15, y_16⟩, hr0, h⟩ := h
                          try dsimp only at h
                          refine awp_to [(0, .sl 0), (4, .pp 3 0), (5, .v (.bool y_4)), (7, .pp 6 0), (10, .v (.int .i64 y_15))] [.row false (.graphs a0), .row true (.graphs y_1), .row true (.trips y_3), .box [.v (.int .i64 y_2), .sl 2], .row true (.graphs y_13), .row true (.trips y_16), .box [.v (.int .i64 y_6), .sl 5], .row true (.graphs y_10)] ?_ ?_
                          · clear h
                            intro K hK
                            refine awp_region ftCOk ?_
                            simp (maxSteps := 4000000) only [go_sem, Nat.reduceBEq, Nat.reduceLT, Nat.reduceAdd, Nat.reduceLeDiff, Nat.reduceSub, Nat.reduceEqDiff, Int.reduceToNat, reduceCtorEq, ↓reduceIte]
                            repeat' (first | refine And.intro ?_ ?_ | intro hg)
                            all_goals (try simp (disch := omega) only [wrap_fits])
                            all_goals first
                              | (refine hK _ _ ?_; exact Red.auto)
                              | exact trivial
                              | assumption
                              | omega
                              | exact wrap_fits (by omega) (by omega)
                              | (refine wpA_callA (k_laws_markGraph y_6 y_7 1 (h := hr0)) [5] [] ?_
                                 rintro x Hc' ⟨rfl, rfl⟩ hlen
                                 refine vcOps_sound ftCOk ?_
                                 simp (maxSteps := 4000000) only [go_sem, Nat.reduceBEq, Nat.reduceLT, Nat.reduceAdd, Nat.reduceLeDiff, Nat.reduceSub, Nat.reduceEqDiff, Int.reduceToNat, reduceCtorEq, ↓reduceIte]
                                 repeat' (first | refine And.intro ?_ ?_ | intro hg)
                                 all_goals (try simp (disch := omega) only [wrap_fits])
                                 all_goals first
                                   | (refine hK _ _ ?_; exact Red.auto)
                                   | exact trivial
                                   | assumption
                                   | omega
                                   | exact wrap_fits (by omega) (by omega)
                                   | (simp_all; done)
                                   | (simp_all; omega))
                              | (simp_all; done)
                              | (simp_all; omega)
                          · clear hr0
                            refine awp_reg ftCOk [(0, .sl 0), (4, .pp 3 0), (5, .v (.bool y_4)), (7, .pp 6 0), (10, .v (.int .i64 y_15)), (11, .v (.int .i64 1))] [.row false (.graphs a0), .row true (.graphs y_1), .row true (.trips y_3), .box [.v (.int .i64 y_2), .sl 2], .row true (.graphs y_13), .row true (.trips y_16), .box [.v (.int .i64 y_6), .sl 5], .row true (.graphs y_10)] ?_
                            replace h := bind_some h
                            obtain ⟨y_17, hr0, h⟩ := h
                            try dsimp only at h
                            refine awp_to [(0, .sl 0), (4, .pp 3 0), (5, .v (.bool y_4)), (7, .pp 6 0), (10, .v (.int .i64 y_15)), (11, .v (.int .i64 y_17))] [.row false (.graphs a0), .row true (.graphs y_1), .row true (.trips y_3), .box [.v (.int .i64 y_2), .sl 2], .row true (.graphs y_13), .row true (.trips y_16), .box [.v (.int .i64 y_6), .sl 5], .row true (.graphs y_10)] ?_ ?_
                            · clear h
                              intro K hK
                              refine awp_region ftCOk ?_
                              simp (maxSteps := 4000000) only [go_sem, Nat.reduceBEq, Nat.reduceLT, Nat.reduceAdd, Nat.reduceLeDiff, Nat.reduceSub, Nat.reduceEqDiff, Int.reduceToNat, reduceCtorEq, ↓reduceIte]
                              repeat' (first | refine And.intro ?_ ?_ | intro hg)
                              all_goals (try simp (disch := omega) only [wrap_fits])
                              all_goals first
                                | (refine hK _ _ ?_; exact Red.auto)
                                | exact trivial
                                | assumption
                                | omega
                                | exact wrap_fits (by omega) (by omega)
                                | (refine wpA_callA (k_laws_heldGraph y_6 y_16 1 (h := hr0)) [5] [] ?_
                                   rintro x Hc' ⟨rfl, rfl⟩ hlen
                                   refine vcOps_sound ftCOk ?_
                                   simp (maxSteps := 4000000) only [go_sem, Nat.reduceBEq, Nat.reduceLT, Nat.reduceAdd, Nat.reduceLeDiff, Nat.reduceSub, Nat.reduceEqDiff, Int.reduceToNat, reduceCtorEq, ↓reduceIte]
                                   repeat' (first | refine And.intro ?_ ?_ | intro hg)
                                   all_goals (try simp (disch := omega) only [wrap_fits])
                                   all_goals first
                                     | (refine hK _ _ ?_; exact Red.auto)
                                     | exact trivial
                                     | assumption
                                     | omega
                                     | exact wrap_fits (by omega) (by omega)
                                     | (simp_all; done)
                                     | (simp_all; omega))
                                | (simp_all; done)
                                | (simp_all; omega)
                            · clear hr0
                              refine awp_seq fun K14 hK14 => ?_
                              refine awp_reg ftCOk [(0, .sl 0), (4, .pp 3 0), (5, .v (.bool y_4)), (7, .pp 6 0), (10, .v (.int .i64 y_15)), (11, .v (.int .i64 y_17)), (69, .v (.bool (decide (y_17 < 0))))] [.row false (.graphs a0), .row true (.graphs y_1), .row true (.trips y_3), .box [.v (.int .i64 y_2), .sl 2], .row true (.graphs y_13), .row true (.trips y_16), .box [.v (.int .i64 y_6), .sl 5], .row true (.graphs y_10)] ?_
                              refine awp_cond (t := 69) rfl (fun hc15 => ?_) (fun hc15 => ?_)
                              · replace h := bite_t h hc15
                                refine awp_reg ftCOk [(2, .v (.bool false))] [.row false (.graphs a0), .row true (.graphs y_1), .row true (.trips y_3), .box [.v (.int .i64 y_2), .sl 2], .row true (.graphs y_13), .row true (.trips y_16), .box [.v (.int .i64 y_6), .sl 5], .row true (.graphs y_10)] ?_
                                refine awp_ret ?_
                                (try simp only [Thn, InBlk, ↓reduceIte, Nat.reduceEqDiff])
                                obtain rfl := Option.some.inj h
                                refine ⟨by simp, _, [0], (by simp only [go_sem, Nat.reduceBEq, Nat.reduceLT, Nat.reduceAdd, Nat.reduceLeDiff, Nat.reduceSub, Nat.reduceEqDiff, Int.reduceToNat, reduceCtorEq, ↓reduceIte]; exact rfl), ?_, ?_, ?_, ?_⟩
                                · first | exact trivial | exact ⟨trivial, trivial⟩ | exact ⟨trivial, trivial, trivial⟩ | exact ⟨trivial, trivial, trivial, trivial⟩ | (simp only [allP, and_true, true_and]; done) | (simp only [allP, and_true, true_and]; omega)
                                · simp [selOk, pos]
                                · simp
                                · first | exact ⟨rfl, rfl⟩ | (simp only [go_sem, Nat.reduceBEq, Nat.reduceLT, Nat.reduceAdd, Nat.reduceLeDiff, Nat.reduceSub, Nat.reduceEqDiff, Int.reduceToNat, reduceCtorEq, ↓reduceIte]; done) | (simp [go_sem, Nat.reduceBEq, Nat.reduceLT, Nat.reduceAdd, Nat.reduceLeDiff, Nat.reduceSub, Nat.reduceEqDiff, Int.reduceToNat, reduceCtorEq, ↓reduceIte]; done) | (simp only [go_sem, Nat.reduceBEq, Nat.reduceLT, Nat.reduceAdd, Nat.reduceLeDiff, Nat.reduceSub, Nat.reduceEqDiff, Int.reduceToNat, reduceCtorEq, ↓reduceIte]; exact ⟨rfl, rfl⟩) | (simp_all [go_sem, Nat.reduceBEq, Nat.reduceLT, Nat.reduceAdd, Nat.reduceLeDiff, Nat.reduceSub, Nat.reduceEqDiff, Int.reduceToNat, reduceCtorEq, ↓reduceIte]; done)
                              · replace h := bite_f h hc15
                                refine awp_skip ?_
                                (try simp only [Thn, InBlk, ↓reduceIte, Nat.reduceEqDiff])
                                refine hK14 _ _ ?_
                                clear hK14
                                refine awp_seq fun K17 hK17 => ?_
                                refine awp_reg ftCOk [(0, .sl 0), (4, .pp 3 0), (5, .v (.bool y_4)), (7, .pp 6 0), (10, .v (.int .i64 y_15)), (72, .v (.bool (y_17 != y_15)))] [.row false (.graphs a0), .row true (.graphs y_1), .row true (.trips y_3), .box [.v (.int .i64 y_2), .sl 2], .row true (.graphs y_13), .row true (.trips y_16), .box [.v (.int .i64 y_6), .sl 5], .row true (.graphs y_10)] ?_
                                refine awp_cond (t := 72) rfl (fun hc18 => ?_) (fun hc18 => ?_)
                                · replace h := bite_t h hc18
                                  refine awp_reg ftCOk [(2, .v (.bool false))] [.row false (.graphs a0), .row true (.graphs y_1), .row true (.trips y_3), .box [.v (.int .i64 y_2), .sl 2], .row true (.graphs y_13), .row true (.trips y_16), .box [.v (.int .i64 y_6), .sl 5], .row true (.graphs y_10)] ?_
                                  refine awp_ret ?_
                                  (try simp only [Thn, InBlk, ↓reduceIte, Nat.reduceEqDiff])
                                  obtain rfl := Option.some.inj h
                                  refine ⟨by simp, _, [0], (by simp only [go_sem, Nat.reduceBEq, Nat.reduceLT, Nat.reduceAdd, Nat.reduceLeDiff, Nat.reduceSub, Nat.reduceEqDiff, Int.reduceToNat, reduceCtorEq, ↓reduceIte]; exact rfl), ?_, ?_, ?_, ?_⟩
                                  · first | exact trivial | exact ⟨trivial, trivial⟩ | exact ⟨trivial, trivial, trivial⟩ | exact ⟨trivial, trivial, trivial, trivial⟩ | (simp only [allP, and_true, true_and]; done) | (simp only [allP, and_true, true_and]; omega)
                                  · simp [selOk, pos]
                                  · simp
                                  · first | exact ⟨rfl, rfl⟩ | (simp only [go_sem, Nat.reduceBEq, Nat.reduceLT, Nat.reduceAdd, Nat.reduceLeDiff, Nat.reduceSub, Nat.reduceEqDiff, Int.reduceToNat, reduceCtorEq, ↓reduceIte]; done) | (simp [go_sem, Nat.reduceBEq, Nat.reduceLT, Nat.reduceAdd, Nat.reduceLeDiff, Nat.reduceSub, Nat.reduceEqDiff, Int.reduceToNat, reduceCtorEq, ↓reduceIte]; done) | (simp only [go_sem, Nat.reduceBEq, Nat.reduceLT, Nat.reduceAdd, Nat.reduceLeDiff, Nat.reduceSub, Nat.reduceEqDiff, Int.reduceToNat, reduceCtorEq, ↓reduceIte]; exact ⟨rfl, rfl⟩) | (simp_all [go_sem, Nat.reduceBEq, Nat.reduceLT, Nat.reduceAdd, Nat.reduceLeDiff, Nat.reduceSub, Nat.reduceEqDiff, Int.reduceToNat, reduceCtorEq, ↓reduceIte]; done)
                                · replace h := bite_f h hc18
                                  refine awp_skip ?_
                                  (try simp only [Thn, InBlk, ↓reduceIte, Nat.reduceEqDiff])
                                  refine hK17 _ _ ?_
                                  clear hK17
                                  replace h := bind_some h
                                  obtain ⟨y_18, hr0, h⟩ := h
                                  try dsimp only at h
                                  replace h := bind_some h
                                  obtain ⟨⟨y_19, y_20, y_21⟩, hr1, h⟩ := h
                                  try dsimp only at h
                                  refine awp_to [(4, .pp 3 0), (5, .v (.bool y_4)), (7, .pp 6 0), (10, .v (.int .i64 y_15)), (12, .pp 10 0), (13, .v (.bool y_21))] [.row false (.graphs a0), .row true (.graphs y_1), .row true (.trips y_3), .box [.v (.int .i64 y_2), .sl 2], .row true (.graphs y_13), .row true (.trips y_16), .box [.v (.int .i64 y_6), .sl 5], .row true (.graphs y_10), .row true (.graphs y_18), .row true (.trips y_20), .box [.v (.int .i64 y_19), .sl 9]] ?_ ?_
                                  · clear h
                                    intro K hK
                                    refine awp_region ftCOk ?_
                                    simp (maxSteps := 4000000) only [go_sem, Nat.reduceBEq, Nat.reduceLT, Nat.reduceAdd, Nat.reduceLeDiff, Nat.reduceSub, Nat.reduceEqDiff, Int.reduceToNat, reduceCtorEq, ↓reduceIte]
                                    repeat' (first | refine And.intro ?_ ?_ | intro hg)
                                    all_goals (try simp (disch := omega) only [wrap_fits])
                                    all_goals first
                                      | (refine hK _ _ ?_; exact Red.auto)
                                      | exact trivial
                                      | assumption
                                      | omega
                                      | exact wrap_fits (by omega) (by omega)
                                      | (refine wpA_callA (k_laws_toGraphS a0 (h := hr0)) [0] [] ?_
                                         rintro x Hc' ⟨rfl, rfl⟩ hlen
                                         refine vcOps_sound ftCOk ?_
                                         simp (maxSteps := 4000000) only [go_sem, Nat.reduceBEq, Nat.reduceLT, Nat.reduceAdd, Nat.reduceLeDiff, Nat.reduceSub, Nat.reduceEqDiff, Int.reduceToNat, reduceCtorEq, ↓reduceIte]
                                         repeat' (first | refine And.intro ?_ ?_ | intro hg)
                                         all_goals (try simp (disch := omega) only [wrap_fits])
                                         all_goals first
                                           | (refine hK _ _ ?_; exact Red.auto)
                                           | exact trivial
                                           | assumption
                                           | omega
                                           | exact wrap_fits (by omega) (by omega)
                                           | (refine wpA_callA (k_impl_JoinParts y_18 (h := hr1)) [8] [] ?_
                                              rintro x Hc' ⟨rfl, rfl⟩ hlen
                                              refine vcOps_sound ftCOk ?_
                                              simp (maxSteps := 4000000) only [go_sem, Nat.reduceBEq, Nat.reduceLT, Nat.reduceAdd, Nat.reduceLeDiff, Nat.reduceSub, Nat.reduceEqDiff, Int.reduceToNat, reduceCtorEq, ↓reduceIte]
                                              repeat' (first | refine And.intro ?_ ?_ | intro hg)
                                              all_goals (try simp (disch := omega) only [wrap_fits])
                                              all_goals first
                                                | (refine hK _ _ ?_; exact Red.auto)
                                                | exact trivial
                                                | assumption
                                                | omega
                                                | exact wrap_fits (by omega) (by omega)
                                                | (simp_all; done)
                                                | (simp_all; omega))
                                           | (simp_all; done)
                                           | (simp_all; omega))
                                      | (simp_all; done)
                                      | (simp_all; omega)
                                  · clear hr0 hr1
                                    refine awp_seq fun K20 hK20 => ?_
                                    replace h := bind_some h
                                    obtain ⟨y_22, hr0, h⟩ := h
                                    try dsimp only at h
                                    refine awp_to [(7, .pp 6 0), (10, .v (.int .i64 y_15)), (87, .v (.bool ((!y_22) || (!(y_21 == y_4)))))] [.row false (.graphs a0), .row true (.graphs y_1), .row true (.trips y_3), .box [.v (.int .i64 y_2), .sl 2], .row true (.graphs y_13), .row true (.trips y_16), .box [.v (.int .i64 y_6), .sl 5], .row true (.graphs y_10), .row true (.graphs y_18), .row true (.trips y_20), .box [.v (.int .i64 y_19), .sl 9]] ?_ ?_
                                    · clear h
                                      intro K hK
                                      refine awp_region ftCOk ?_
                                      simp (maxSteps := 4000000) only [go_sem, Nat.reduceBEq, Nat.reduceLT, Nat.reduceAdd, Nat.reduceLeDiff, Nat.reduceSub, Nat.reduceEqDiff, Int.reduceToNat, reduceCtorEq, ↓reduceIte]
                                      repeat' (first | refine And.intro ?_ ?_ | intro hg)
                                      all_goals (try simp (disch := omega) only [wrap_fits])
                                      all_goals first
                                        | (refine hK _ _ ?_; exact Red.auto)
                                        | exact trivial
                                        | assumption
                                        | omega
                                        | exact wrap_fits (by omega) (by omega)
                                        | (refine wpA_callA (k_laws_eqGraph y_19 y_20 y_2 y_3 (h := hr0)) [9, 2] [] ?_
                                           rintro x Hc' ⟨rfl, rfl⟩ hlen
                                           refine vcOps_sound ftCOk ?_
                                           simp (maxSteps := 4000000) only [go_sem, Nat.reduceBEq, Nat.reduceLT, Nat.reduceAdd, Nat.reduceLeDiff, Nat.reduceSub, Nat.reduceEqDiff, Int.reduceToNat, reduceCtorEq, ↓reduceIte]
                                           repeat' (first | refine And.intro ?_ ?_ | intro hg)
                                           all_goals (try simp (disch := omega) only [wrap_fits])
                                           all_goals first
                                             | (refine hK _ _ ?_; exact Red.auto)
                                             | exact trivial
                                             | assumption
                                             | omega
                                             | exact wrap_fits (by omega) (by omega)
                                             | (simp_all; done)
                                             | (simp_all; omega))
                                        | (simp_all; done)
                                        | (simp_all; omega)
                                    · clear hr0
                                      refine awp_cond (t := 87) rfl (fun hc21 => ?_) (fun hc21 => ?_)
                                      · replace h := bite_t h hc21
                                        refine awp_reg ftCOk [(2, .v (.bool false))] [.row false (.graphs a0), .row true (.graphs y_1), .row true (.trips y_3), .box [.v (.int .i64 y_2), .sl 2], .row true (.graphs y_13), .row true (.trips y_16), .box [.v (.int .i64 y_6), .sl 5], .row true (.graphs y_10), .row true (.graphs y_18), .row true (.trips y_20), .box [.v (.int .i64 y_19), .sl 9]] ?_
                                        refine awp_ret ?_
                                        (try simp only [Thn, InBlk, ↓reduceIte, Nat.reduceEqDiff])
                                        obtain rfl := Option.some.inj h
                                        refine ⟨by simp, _, [0], (by simp only [go_sem, Nat.reduceBEq, Nat.reduceLT, Nat.reduceAdd, Nat.reduceLeDiff, Nat.reduceSub, Nat.reduceEqDiff, Int.reduceToNat, reduceCtorEq, ↓reduceIte]; exact rfl), ?_, ?_, ?_, ?_⟩
                                        · first | exact trivial | exact ⟨trivial, trivial⟩ | exact ⟨trivial, trivial, trivial⟩ | exact ⟨trivial, trivial, trivial, trivial⟩ | (simp only [allP, and_true, true_and]; done) | (simp only [allP, and_true, true_and]; omega)
                                        · simp [selOk, pos]
                                        · simp
                                        · first | exact ⟨rfl, rfl⟩ | (simp only [go_sem, Nat.reduceBEq, Nat.reduceLT, Nat.reduceAdd, Nat.reduceLeDiff, Nat.reduceSub, Nat.reduceEqDiff, Int.reduceToNat, reduceCtorEq, ↓reduceIte]; done) | (simp [go_sem, Nat.reduceBEq, Nat.reduceLT, Nat.reduceAdd, Nat.reduceLeDiff, Nat.reduceSub, Nat.reduceEqDiff, Int.reduceToNat, reduceCtorEq, ↓reduceIte]; done) | (simp only [go_sem, Nat.reduceBEq, Nat.reduceLT, Nat.reduceAdd, Nat.reduceLeDiff, Nat.reduceSub, Nat.reduceEqDiff, Int.reduceToNat, reduceCtorEq, ↓reduceIte]; exact ⟨rfl, rfl⟩) | (simp_all [go_sem, Nat.reduceBEq, Nat.reduceLT, Nat.reduceAdd, Nat.reduceLeDiff, Nat.reduceSub, Nat.reduceEqDiff, Int.reduceToNat, reduceCtorEq, ↓reduceIte]; done)
                                      · replace h := bite_f h hc21
                                        refine awp_skip ?_
                                        (try simp only [Thn, InBlk, ↓reduceIte, Nat.reduceEqDiff])
                                        refine hK20 _ _ ?_
                                        clear hK20
                                        refine awp_reg ftCOk [(7, .pp 6 0), (10, .v (.int .i64 y_15)), (11, .v (.int .i64 1))] [.row false (.graphs a0), .row true (.graphs y_1), .row true (.trips y_3), .box [.v (.int .i64 y_2), .sl 2], .row true (.graphs y_13), .row true (.trips y_16), .box [.v (.int .i64 y_6), .sl 5], .row true (.graphs y_10), .row true (.graphs y_18), .row true (.trips y_20), .box [.v (.int .i64 y_19), .sl 9]] ?_
                                        replace h := bind_some h
                                        obtain ⟨y_23, hr0, h⟩ := h
                                        try dsimp only at h
                                        refine awp_to [(10, .v (.int .i64 y_15)), (11, .v (.int .i64 y_23))] [.row false (.graphs a0), .row true (.graphs y_1), .row true (.trips y_3), .box [.v (.int .i64 y_2), .sl 2], .row true (.graphs y_13), .row true (.trips y_16), .box [.v (.int .i64 y_6), .sl 5], .row true (.graphs y_10), .row true (.graphs y_18), .row true (.trips y_20), .box [.v (.int .i64 y_19), .sl 9]] ?_ ?_
                                        · clear h
                                          intro K hK
                                          refine awp_region ftCOk ?_
                                          simp (maxSteps := 4000000) only [go_sem, Nat.reduceBEq, Nat.reduceLT, Nat.reduceAdd, Nat.reduceLeDiff, Nat.reduceSub, Nat.reduceEqDiff, Int.reduceToNat, reduceCtorEq, ↓reduceIte]
                                          repeat' (first | refine And.intro ?_ ?_ | intro hg)
                                          all_goals (try simp (disch := omega) only [wrap_fits])
                                          all_goals first
                                            | (refine hK _ _ ?_; exact Red.auto)
                                            | exact trivial
                                            | assumption
                                            | omega
                                            | exact wrap_fits (by omega) (by omega)
                                            | (refine wpA_callA (k_laws_heldGraph y_6 y_16 1 (h := hr0)) [5] [] ?_
                                               rintro x Hc' ⟨rfl, rfl⟩ hlen
                                               refine vcOps_sound ftCOk ?_
                                               simp (maxSteps := 4000000) only [go_sem, Nat.reduceBEq, Nat.reduceLT, Nat.reduceAdd, Nat.reduceLeDiff, Nat.reduceSub, Nat.reduceEqDiff, Int.reduceToNat, reduceCtorEq, ↓reduceIte]
                                               repeat' (first | refine And.intro ?_ ?_ | intro hg)
                                               all_goals (try simp (disch := omega) only [wrap_fits])
                                               all_goals first
                                                 | (refine hK _ _ ?_; exact Red.auto)
                                                 | exact trivial
                                                 | assumption
                                                 | omega
                                                 | exact wrap_fits (by omega) (by omega)
                                                 | (simp_all; done)
                                                 | (simp_all; omega))
                                            | (simp_all; done)
                                            | (simp_all; omega)
                                        · clear hr0
                                          refine awp_seq fun K23 hK23 => ?_
                                          refine awp_reg ftCOk [(10, .v (.int .i64 y_15)), (11, .v (.int .i64 y_23)), (92, .v (.bool (decide (y_23 < 0))))] [.row false (.graphs a0), .row true (.graphs y_1), .row true (.trips y_3), .box [.v (.int .i64 y_2), .sl 2], .row true (.graphs y_13), .row true (.trips y_16), .box [.v (.int .i64 y_6), .sl 5], .row true (.graphs y_10), .row true (.graphs y_18), .row true (.trips y_20), .box [.v (.int .i64 y_19), .sl 9]] ?_
                                          refine awp_cond (t := 92) rfl (fun hc24 => ?_) (fun hc24 => ?_)
                                          · replace h := bite_t h hc24
                                            refine awp_reg ftCOk [(2, .v (.bool false))] [.row false (.graphs a0), .row true (.graphs y_1), .row true (.trips y_3), .box [.v (.int .i64 y_2), .sl 2], .row true (.graphs y_13), .row true (.trips y_16), .box [.v (.int .i64 y_6), .sl 5], .row true (.graphs y_10), .row true (.graphs y_18), .row true (.trips y_20), .box [.v (.int .i64 y_19), .sl 9]] ?_
                                            refine awp_ret ?_
                                            (try simp only [Thn, InBlk, ↓reduceIte, Nat.reduceEqDiff])
                                            obtain rfl := Option.some.inj h
                                            refine ⟨by simp, _, [0], (by simp only [go_sem, Nat.reduceBEq, Nat.reduceLT, Nat.reduceAdd, Nat.reduceLeDiff, Nat.reduceSub, Nat.reduceEqDiff, Int.reduceToNat, reduceCtorEq, ↓reduceIte]; exact rfl), ?_, ?_, ?_, ?_⟩
                                            · first | exact trivial | exact ⟨trivial, trivial⟩ | exact ⟨trivial, trivial, trivial⟩ | exact ⟨trivial, trivial, trivial, trivial⟩ | (simp only [allP, and_true, true_and]; done) | (simp only [allP, and_true, true_and]; omega)
                                            · simp [selOk, pos]
                                            · simp
                                            · first | exact ⟨rfl, rfl⟩ | (simp only [go_sem, Nat.reduceBEq, Nat.reduceLT, Nat.reduceAdd, Nat.reduceLeDiff, Nat.reduceSub, Nat.reduceEqDiff, Int.reduceToNat, reduceCtorEq, ↓reduceIte]; done) | (simp [go_sem, Nat.reduceBEq, Nat.reduceLT, Nat.reduceAdd, Nat.reduceLeDiff, Nat.reduceSub, Nat.reduceEqDiff, Int.reduceToNat, reduceCtorEq, ↓reduceIte]; done) | (simp only [go_sem, Nat.reduceBEq, Nat.reduceLT, Nat.reduceAdd, Nat.reduceLeDiff, Nat.reduceSub, Nat.reduceEqDiff, Int.reduceToNat, reduceCtorEq, ↓reduceIte]; exact ⟨rfl, rfl⟩) | (simp_all [go_sem, Nat.reduceBEq, Nat.reduceLT, Nat.reduceAdd, Nat.reduceLeDiff, Nat.reduceSub, Nat.reduceEqDiff, Int.reduceToNat, reduceCtorEq, ↓reduceIte]; done)
                                          · replace h := bite_f h hc24
                                            refine awp_skip ?_
                                            (try simp only [Thn, InBlk, ↓reduceIte, Nat.reduceEqDiff])
                                            refine hK23 _ _ ?_
                                            clear hK23
                                            refine awp_seq fun K26 hK26 => ?_
                                            refine awp_reg ftCOk [(95, .v (.bool (y_23 != y_15)))] [.row false (.graphs a0), .row true (.graphs y_1), .row true (.trips y_3), .box [.v (.int .i64 y_2), .sl 2], .row true (.graphs y_13), .row true (.trips y_16), .box [.v (.int .i64 y_6), .sl 5], .row true (.graphs y_10), .row true (.graphs y_18), .row true (.trips y_20), .box [.v (.int .i64 y_19), .sl 9]] ?_
                                            refine awp_cond (t := 95) rfl (fun hc27 => ?_) (fun hc27 => ?_)
                                            · replace h := bite_t h hc27
                                              refine awp_reg ftCOk [(2, .v (.bool false))] [.row false (.graphs a0), .row true (.graphs y_1), .row true (.trips y_3), .box [.v (.int .i64 y_2), .sl 2], .row true (.graphs y_13), .row true (.trips y_16), .box [.v (.int .i64 y_6), .sl 5], .row true (.graphs y_10), .row true (.graphs y_18), .row true (.trips y_20), .box [.v (.int .i64 y_19), .sl 9]] ?_
                                              refine awp_ret ?_
                                              (try simp only [Thn, InBlk, ↓reduceIte, Nat.reduceEqDiff])
                                              obtain rfl := Option.some.inj h
                                              refine ⟨by simp, _, [0], (by simp only [go_sem, Nat.reduceBEq, Nat.reduceLT, Nat.reduceAdd, Nat.reduceLeDiff, Nat.reduceSub, Nat.reduceEqDiff, Int.reduceToNat, reduceCtorEq, ↓reduceIte]; exact rfl), ?_, ?_, ?_, ?_⟩
                                              · first | exact trivial | exact ⟨trivial, trivial⟩ | exact ⟨trivial, trivial, trivial⟩ | exact ⟨trivial, trivial, trivial, trivial⟩ | (simp only [allP, and_true, true_and]; done) | (simp only [allP, and_true, true_and]; omega)
                                              · simp [selOk, pos]
                                              · simp
                                              · first | exact ⟨rfl, rfl⟩ | (simp only [go_sem, Nat.reduceBEq, Nat.reduceLT, Nat.reduceAdd, Nat.reduceLeDiff, Nat.reduceSub, Nat.reduceEqDiff, Int.reduceToNat, reduceCtorEq, ↓reduceIte]; done) | (simp [go_sem, Nat.reduceBEq, Nat.reduceLT, Nat.reduceAdd, Nat.reduceLeDiff, Nat.reduceSub, Nat.reduceEqDiff, Int.reduceToNat, reduceCtorEq, ↓reduceIte]; done) | (simp only [go_sem, Nat.reduceBEq, Nat.reduceLT, Nat.reduceAdd, Nat.reduceLeDiff, Nat.reduceSub, Nat.reduceEqDiff, Int.reduceToNat, reduceCtorEq, ↓reduceIte]; exact ⟨rfl, rfl⟩) | (simp_all [go_sem, Nat.reduceBEq, Nat.reduceLT, Nat.reduceAdd, Nat.reduceLeDiff, Nat.reduceSub, Nat.reduceEqDiff, Int.reduceToNat, reduceCtorEq, ↓reduceIte]; done)
                                            · replace h := bite_f h hc27
                                              refine awp_skip ?_
                                              (try simp only [Thn, InBlk, ↓reduceIte, Nat.reduceEqDiff])
                                              refine hK26 _ _ ?_
                                              clear hK26
                                              refine awp_reg ftCOk [(2, .v (.bool true))] [.row false (.graphs a0), .row true (.graphs y_1), .row true (.trips y_3), .box [.v (.int .i64 y_2), .sl 2], .row true (.graphs y_13), .row true (.trips y_16), .box [.v (.int .i64 y_6), .sl 5], .row true (.graphs y_10), .row true (.graphs y_18), .row true (.trips y_20), .box [.v (.int .i64 y_19), .sl 9]] ?_
                                              refine awp_ret ?_
                                              (try simp only [Thn, InBlk, ↓reduceIte, Nat.reduceEqDiff])
                                              obtain rfl := Option.some.inj h
                                              refine ⟨by simp, _, [0], (by simp only [go_sem, Nat.reduceBEq, Nat.reduceLT, Nat.reduceAdd, Nat.reduceLeDiff, Nat.reduceSub, Nat.reduceEqDiff, Int.reduceToNat, reduceCtorEq, ↓reduceIte]; exact rfl), ?_, ?_, ?_, ?_⟩
                                              · first | exact trivial | exact ⟨trivial, trivial⟩ | exact ⟨trivial, trivial, trivial⟩ | exact ⟨trivial, trivial, trivial, trivial⟩ | (simp only [allP, and_true, true_and]; done) | (simp only [allP, and_true, true_and]; omega)
                                              · simp [selOk, pos]
                                              · simp
                                              · first | exact ⟨rfl, rfl⟩ | (simp only [go_sem, Nat.reduceBEq, Nat.reduceLT, Nat.reduceAdd, Nat.reduceLeDiff, Nat.reduceSub, Nat.reduceEqDiff, Int.reduceToNat, reduceCtorEq, ↓reduceIte]; done) | (simp [go_sem, Nat.reduceBEq, Nat.reduceLT, Nat.reduceAdd, Nat.reduceLeDiff, Nat.reduceSub, Nat.reduceEqDiff, Int.reduceToNat, reduceCtorEq, ↓reduceIte]; done) | (simp only [go_sem, Nat.reduceBEq, Nat.reduceLT, Nat.reduceAdd, Nat.reduceLeDiff, Nat.reduceSub, Nat.reduceEqDiff, Int.reduceToNat, reduceCtorEq, ↓reduceIte]; exact ⟨rfl, rfl⟩) | (simp_all [go_sem, Nat.reduceBEq, Nat.reduceLT, Nat.reduceAdd, Nat.reduceLeDiff, Nat.reduceSub, Nat.reduceEqDiff, Int.reduceToNat, reduceCtorEq, ↓reduceIte]; done)
end Go.Proofs.Ytaogppnbeijjmaa
