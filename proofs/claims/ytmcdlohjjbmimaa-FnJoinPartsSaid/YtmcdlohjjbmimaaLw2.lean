/- The code computes the functions that were taken out of it. -/
import Derived.Test.YtmcdlohjjbmimaaLw1
set_option maxRecDepth 100000
set_option maxHeartbeats 4000000
set_option linter.unusedSimpArgs false
set_option linter.unusedVariables false
namespace Go.Proofs.Ytmcdlohjjbmimaa
open Go Go.Av
attribute [local irreducible] wpA OpK awp
attribute [local go_sem] frs_nil frs_cons pw8_32 pw16_32 pw24_32 pw27_32 eqAgg eqAggV buildQ placesOf buildCells List.toList_toArray vcQg gfind gfree gput un3_agg unI_int unB_bool unK_int guardU skipV resVs resV vcD_nil vcD_cons vcT_fin vcT_free vcT_one vcT_two opS vcD1 roH roOb ftNone ftAdd oneOrTup AV.detup AV.ren AV.ren2 AV.ren1 pos selH AObj.ren fitAll fit fit1 fit1s matchAll matchOb exIds AObj.excl Env.killp pastH setAll upId AObj.past AObj.back AV.killp AV.killp1 AV.killp2 Nat.sub_self Nat.lt_irrefl Bool.or_self vcOps vcOp vcQs vcQ dstOk quiet eff pcall calleeF plain valsOf ev ofConst argEnv List.lookup Nat.add_eq decide_true decide_false Env.put binV wrapTo unV convV loadQ indexQ callQ builtinQ rd rdI globC AObj.globC partAV isAggD isArrayD addrAdd boxE storeE storeXE storeCE storeGE storeFE storeAE storeHE allocAE buildME appendME aggQ arrD arrL arrL_map arrV makeE makeXE makeNE makeGE buildXE buildNE buildGE nestZero Cont.child Cont.setChild buildSliceE buildFold appendE appendXE appendNE appendGE Cont.setG nestApp appendV promoteH sliceE boundAV subObj asCells Value.oneCell' contZero Cont.sets Cont.app Cont.sub Cont.len Cont.esz Cont.cell Cont.cells Cont.flat AV.det AV.det1 guardV AObj.unview AObj.kill Env.kill AV.kill AV.kill1 AV.kill2 fits64 Option.getD_some Option.getD_none Option.map_some Option.map_none Option.bind_some List.map_cons List.map_nil List.getElem?_cons_zero List.getElem?_cons_succ List.getElem?_nil true_and and_true and_false false_and List.getElem?_toArray List.cons_append List.nil_append List.length_cons List.length_nil List.set_cons_zero List.set_cons_succ List.take_succ_cons List.take_zero List.drop_succ_cons List.drop_zero List.drop_nil List.take_nil List.contains_cons List.contains_nil List.elem_cons List.elem_nil Bool.not_true Bool.not_false Bool.false_eq_true Bool.or_false Bool.or_true Bool.and_true Bool.and_false Bool.true_and Bool.false_and List.all_cons List.all_nil List.size_toArray Nat.lt_add_one Nat.zero_lt_succ Nat.one_ne_zero Nat.zero_ne_one and_self List.replicate_succ List.replicate_zero Int.toNat_natCast Int.toNat_zero Value.cells false_implies true_implies forall_const Thn InBlk Nat.zero_add Nat.add_zero Int.zero_add Ele Env.ren Option.some.injEq AV.v.injEq AV.sl.injEq AV.pp.injEq AV.ep.injEq AV.agg.injEq List.cons.injEq Value.int.injEq Value.bool.injEq Value.string.injEq true_or or_true or_false false_or tsz0 tby0 tz0 Try.underlying0 tsz1 tby1 tz1 Try.underlying1 tsz2 tby2 tz2 Try.underlying2 tsz3 tby3 tz3 Try.underlying3 tsz4 tby4 tz4 Try.underlying4 tsz5 tby5 tz5 Try.underlying5 tsz6 tby6 tz6 Try.underlying6 tsz7 tby7 tz7 Try.underlying7 fo7_0 fo7_1 fo7_2 fo7_3 tsz8 tby8 tz8 Try.underlying8 fo8_0 fo8_1 fo8_2 fo8_3 tsz9 tby9 Try.underlying9 tsz10 tby10 Try.underlying10 tsz12 tby12 tz12 Try.underlying12 tsz16 tby16 tz16 Try.underlying16 tsz17 tby17 tz17 Try.underlying17 tsz20 tby20 tz20 Try.underlying20 tsz21 tby21 tz21 Try.underlying21 tsz22 tby22 tz22 Try.underlying22 tsz23 tby23 tz23 Try.underlying23 tsz24 tby24 tz24 Try.underlying24 fo24_0 fo24_1 tsz25 tby25 tz25 Try.underlying25 fo25_0 fo25_1 tsz32 tby32 tz32 Try.underlying32 tsz34 tby34 tz34 Try.underlying34 peq34 fo34_0 fo34_1 fo34_2 tsz35 tby35 tz35 Try.underlying35 peq35 fo35_0 fo35_1 fo35_2 tsz36 tby36 tz36 Try.underlying36 tsz40 tby40 tz40 Try.underlying40 tsz44 tby44 tz44 Try.underlying44 tsz52 tby52 tz52 Try.underlying52 tsz54 tby54 tz54 Try.underlying54 tsz56 tby56 tz56 Try.underlying56 fo56_0 fo56_1 tsz57 tby57 tz57 Try.underlying57 fo57_0 fo57_1 tsz60 tby60 tz60 Try.underlying60 tsz65 tby65 tz65 Try.underlying65 tsz73 tby73 tz73 Try.underlying73 tsz74 tby74 tz74 Try.underlying74 tsz75 tby75 tz75 Try.underlying75 tsz77 tby77 tz77 Try.underlying77 tsz78 tby78 tz78 Try.underlying78 tsz79 tby79 tz79 Try.underlying79 tsz80 tby80 tz80 Try.underlying80 tsz81 tby81 tz81 Try.underlying81 tsz82 tby82 tz82 Try.underlying82 tsz83 tby83 tz83 Try.underlying83 tsz84 tby84 tz84 Try.underlying84 fo84_0 fo84_1 fo84_2 fo84_3 fo84_4 fo84_5 fo84_6 fo84_7 fo84_8 fo84_9 fo84_10 tsz85 tby85 tz85 Try.underlying85 fo85_0 fo85_1 fo85_2 fo85_3 fo85_4 fo85_5 fo85_6 fo85_7 fo85_8 fo85_9 fo85_10 tsz86 tby86 tz86 Try.underlying86 l1InG l4BeforeG isNaNG cmpIntG cmpEndsG ftC
theorem k_impl_JoinParts (a0 : List (Int × List (Int × Int × Int))) {r : Int × (List (Int × Int × Int)) × Bool} (h : impl_JoinParts a0 = some r) :
    FnA Try.prog 12 [.sl 0] [.row false (.graphs a0)] [] (fun x H => x = .tup [.agg [.v (.int .i64 r.1), .sl 1], .v (.bool r.2.2)] ∧ H = [.row false (.graphs a0), .row true (.trips r.2.1)]) := by
  unfold impl_JoinParts at h
  refine FnA.of (N := 80) (pin := [0]) (rs := [.cell 2 25, .tmp 3]) Try.func12 rfl en12 rfl rfl (by simp) (by simp; try omega) ?_
  refine awp_reg ftCOk [(0, .sl 0), (2, .pp 1 0)] [.row false (.graphs a0), .box [.v (.int .i64 0), .v (.slice none 0 0)]] ?_
  refine awp_seq fun K2 hK2 => ?_
  replace h := bind_some h
  obtain ⟨y, hr0, h⟩ := h
  try dsimp only at h
  refine awp_to [(0, .sl 0), (2, .pp 1 0), (17, .v (.bool (!y)))] [.row false (.graphs a0), .box [.v (.int .i64 0), .v (.slice none 0 0)]] ?_ ?_
  · clear h
    intro K hK
    refine awp_region ftCOk ?_
    simp (maxSteps := 4000000) only [go_sem, Nat.reduceBEq, Nat.reduceLT, Nat.reduceAdd, Nat.reduceLeDiff, Nat.reduceSub, Nat.reduceEqDiff, Int.reduceToNat, reduceCtorEq, ↓reduceIte]
    repeat' (first | refine And.intro ?_ ?_ | intro hg)
    all_goals (try simp (disch := omega) only [wrap_fits])
    all_goals first
      | (refine hK _ _ ?_; exact Red.auto)
      | exact trivial
      | assumption
      | omega
      | exact wrap_fits (by omega) (by omega)
      | (refine wpA_callA (k_impl_workersFit (a0.length : Int) (h := hr0)) [] [] ?_
         rintro x Hc' ⟨rfl, rfl⟩ hlen
         refine vcOps_sound ftCOk ?_
         simp (maxSteps := 4000000) only [go_sem, Nat.reduceBEq, Nat.reduceLT, Nat.reduceAdd, Nat.reduceLeDiff, Nat.reduceSub, Nat.reduceEqDiff, Int.reduceToNat, reduceCtorEq, ↓reduceIte]
         repeat' (first | refine And.intro ?_ ?_ | intro hg)
         all_goals (try simp (disch := omega) only [wrap_fits])
         all_goals first
           | (refine hK _ _ ?_; exact Red.auto)
           | exact trivial
           | assumption
           | omega
           | exact wrap_fits (by omega) (by omega)
           | (simp_all; done)
           | (simp_all; omega))
      | (simp_all; done)
      | (simp_all; omega)
  · clear hr0
    refine awp_cond (t := 17) rfl (fun hc3 => ?_) (fun hc3 => ?_)
    · replace h := bite_t h hc3
      refine awp_reg ftCOk [(2, .pp 1 0), (3, .v (.bool false))] [.row false (.graphs a0), .box [.v (.int .i64 0), .v (.slice none 0 0)]] ?_
      refine awp_red (Red.nilCell (o := 1) (i := 1) (.trips []) rfl rfl rfl) ?_
      refine awp_ret ?_
      (try simp only [Thn, InBlk, ↓reduceIte, Nat.reduceEqDiff])
      obtain rfl := Option.some.inj h
      refine ⟨by simp, _, [0, 2], (by simp only [go_sem, Nat.reduceBEq, Nat.reduceLT, Nat.reduceAdd, Nat.reduceLeDiff, Nat.reduceSub, Nat.reduceEqDiff, Int.reduceToNat, reduceCtorEq, ↓reduceIte]; exact rfl), ?_, ?_, ?_, ?_⟩
      · first | exact trivial | exact ⟨trivial, trivial⟩ | exact ⟨trivial, trivial, trivial⟩ | exact ⟨trivial, trivial, trivial, trivial⟩ | (simp only [allP, and_true, true_and]; done) | (simp only [allP, and_true, true_and]; omega)
      · simp [selOk, pos]
      · simp
      · first | exact ⟨rfl, rfl⟩ | (simp only [go_sem, Nat.reduceBEq, Nat.reduceLT, Nat.reduceAdd, Nat.reduceLeDiff, Nat.reduceSub, Nat.reduceEqDiff, Int.reduceToNat, reduceCtorEq, ↓reduceIte]; done) | (simp [go_sem, Nat.reduceBEq, Nat.reduceLT, Nat.reduceAdd, Nat.reduceLeDiff, Nat.reduceSub, Nat.reduceEqDiff, Int.reduceToNat, reduceCtorEq, ↓reduceIte]; done) | (simp only [go_sem, Nat.reduceBEq, Nat.reduceLT, Nat.reduceAdd, Nat.reduceLeDiff, Nat.reduceSub, Nat.reduceEqDiff, Int.reduceToNat, reduceCtorEq, ↓reduceIte]; exact ⟨rfl, rfl⟩) | (simp_all [go_sem, Nat.reduceBEq, Nat.reduceLT, Nat.reduceAdd, Nat.reduceLeDiff, Nat.reduceSub, Nat.reduceEqDiff, Int.reduceToNat, reduceCtorEq, ↓reduceIte]; done)
    · replace h := bite_f h hc3
      refine awp_skip ?_
      (try simp only [Thn, InBlk, ↓reduceIte, Nat.reduceEqDiff])
      refine hK2 _ _ ?_
      clear hK2
      refine awp_seq fun K29 hK29 => ?_
      refine awp_reg ftCOk [(0, .sl 0), (2, .pp 1 0), (19, .sl 0), (20, .v (.int .i64 (a0.length : Int))), (21, .v (.int .i64 0))] [.row false (.graphs a0), .box [.v (.int .i64 0), .v (.slice none 0 0)]] ?_
      refine awp_block ?_
      replace h := bind_some h
      obtain ⟨x54, hx, h⟩ := h
      refine awp_loopL hx (fun (t21 : Int) => [(0, .sl 0), (2, .pp 1 0), (19, .sl 0), (20, .v (.int .i64 (a0.length : Int))), (21, .v (.int .i64 t21))]) (fun (t21 : Int) => [.row false (.graphs a0), .box [.v (.int .i64 0), .v (.slice none 0 0)]]) (Sum.elim (fun (_ : Unit) => Exit.exit 0) (fun (_ : Unit) => Exit.ret)) (Sum.elim (fun (_ : Unit) => [(0, .sl 0), (2, .pp 1 0)]) (fun (_ : Unit) => [(2, .pp 1 0), (3, .v (.bool false))])) (Sum.elim (fun (_ : Unit) => [.row false (.graphs a0), .box [.v (.int .i64 0), .v (.slice none 0 0)]]) (fun (_ : Unit) => [.row false (.graphs a0), .box [.v (.int .i64 0), .sl 2], .row true (.trips [])])) ?_ ?_ ?_ ?_
      · rintro (⟨⟩ | ⟨⟩) hy <;> cases hy
      · clear h hx
        exact Red.auto
      · clear h hx
        rintro t21 r h
        unfold impl_JoinParts_b0 at h
        try dsimp only at h
        try dsimp only
        refine awp_reg ftCOk [(0, .sl 0), (2, .pp 1 0), (19, .sl 0), (20, .v (.int .i64 (a0.length : Int))), (21, .v (.int .i64 t21)), (22, .v (.bool (decide (t21 < (a0.length : Int)))))] [.row false (.graphs a0), .box [.v (.int .i64 0), .v (.slice none 0 0)]] ?_
        refine awp_seq fun K47 hK47 => ?_
        refine awp_cond (t := 22) rfl (fun hc48 => ?_) (fun hc48 => ?_)
        · replace h := bite_t h hc48
          refine awp_skip ?_
          (try simp only [Thn, InBlk, ↓reduceIte, Nat.reduceEqDiff])
          refine hK47 _ _ ?_
          clear hK47
          refine awp_seq fun K51 hK51 => ?_
          refine awp_block ?_
          replace h := chk_some h
          obtain ⟨hpt53, h⟩ := h
          refine awp_take 0 t21.toNat 1 (by rfl) (by exact hpt53) (by rfl) (by exact rfl) ?_
          clear hpt53
          replace h := chk_some h
          obtain ⟨hp0, h⟩ := h
          refine awp_reg ftCOk [(0, .sl 0), (2, .pp 1 0), (5, .pp 3 0), (19, .sl 0), (20, .v (.int .i64 (a0.length : Int))), (21, .v (.int .i64 t21))] [.tak false (.graphs a0) t21.toNat 1 (some 2), .box [.v (.int .i64 0), .v (.slice none 0 0)], .row false (.trips ((a0.getD t21.toNat (0, [])).2)), .box [.v (.int .i64 ((a0.getD t21.toNat (0, [])).1)), .sl 2]] ?_
          clear hp0
          refine awp_put 0 2 (by rfl) (by rfl) (Cont.setChild_self (by rfl)) (by exact rfl) ?_
          replace h := bind_some h
          obtain ⟨y_1, hr0, h⟩ := h
          try dsimp only at h
          replace h := chk_some h
          obtain ⟨hp1, h⟩ := h
          refine awp_to [(0, .sl 0), (2, .pp 1 0), (19, .sl 0), (20, .v (.int .i64 (a0.length : Int))), (21, .v (.int .i64 t21)), (36, .v (.bool ((!y_1) || ((a0.getD t21.toNat (0, [])).1 != (a0.getD 0 (0, [])).1))))] [.row false (.graphs a0), .box [.v (.int .i64 0), .v (.slice none 0 0)], .row false (.trips ((a0.getD t21.toNat (0, [])).2)), .box [.v (.int .i64 ((a0.getD t21.toNat (0, [])).1)), .sl 2]] ?_ ?_
          · clear h
            intro K hK
            refine awp_drawT mixed ftCOk (.one 0 (.one 1 (.one 2 (.one 3 (.free 4 (.free 6 (.free 7 (.free 8 (.free 9 (.one 5 (.one 10 (.one 11 .fin)))))))))))) (by kernel_rfl) (by simp) ?_
            simp (maxSteps := 4000000) only [go_sem, Nat.reduceBEq, Nat.reduceLT, Nat.reduceAdd, Nat.reduceLeDiff, Nat.reduceSub, Nat.reduceEqDiff, Int.reduceToNat, reduceCtorEq, ↓reduceIte]
            repeat' (first | refine And.intro ?_ ?_ | intro hg)
            all_goals (try simp (disch := omega) only [wrap_fits])
            all_goals first
              | (refine hK _ _ ?_; exact Red.auto)
              | exact trivial
              | assumption
              | omega
              | exact wrap_fits (by omega) (by omega)
              | (have hq := hp1 (by first | assumption | (simp only [*, Bool.false_or, Bool.true_or, Bool.or_false, Bool.or_true, Bool.false_and, Bool.true_and, Bool.and_false, Bool.and_true, Bool.not_true, Bool.not_false, beq_self_eq_true]; done) | (simp_all; done)); omega)
              | (refine OpK_callA (k_impl_GraphValid ((a0.getD t21.toNat (0, [])).1) ((a0.getD t21.toNat (0, [])).2) (h := hr0)) [2] [] ?_
                 rintro x Hc' ⟨rfl, rfl⟩ hlen
                 simp (maxSteps := 4000000) only [go_sem, Nat.reduceBEq, Nat.reduceLT, Nat.reduceAdd, Nat.reduceLeDiff, Nat.reduceSub, Nat.reduceEqDiff, Int.reduceToNat, reduceCtorEq, ↓reduceIte]
                 repeat' (first | refine And.intro ?_ ?_ | intro hg)
                 all_goals (try simp (disch := omega) only [wrap_fits])
                 all_goals first
                   | (refine hK _ _ ?_; exact Red.auto)
                   | exact trivial
                   | assumption
                   | omega
                   | exact wrap_fits (by omega) (by omega)
                   | (have hq := hp1 (by first | assumption | (simp only [*, Bool.false_or, Bool.true_or, Bool.or_false, Bool.or_true, Bool.false_and, Bool.true_and, Bool.and_false, Bool.and_true, Bool.not_true, Bool.not_false, beq_self_eq_true]; done) | (simp_all; done)); omega)
                   | (simp (maxSteps := 4000000) only [go_sem, Nat.reduceBEq, Nat.reduceLT, Nat.reduceAdd, Nat.reduceLeDiff, Nat.reduceSub, Nat.reduceEqDiff, Int.reduceToNat, reduceCtorEq, ↓reduceIte]
                      repeat' (first | refine And.intro ?_ ?_ | intro hg)
                      all_goals (try simp (disch := omega) only [wrap_fits])
                      all_goals first | (refine hK _ _ ?_; exact Red.auto) | exact trivial | assumption | omega | exact wrap_fits (by omega) (by omega) | (have hq := hp1 (by first | assumption | (simp only [*, Bool.false_or, Bool.true_or, Bool.or_false, Bool.or_true, Bool.false_and, Bool.true_and, Bool.and_false, Bool.and_true, Bool.not_true, Bool.not_false, beq_self_eq_true]; done) | (simp_all; done)); omega))
                   | (simp_all; done)
                   | (simp_all; omega))
              | (simp_all; done)
              | (simp_all; omega)
          · clear hr0 hp1
            refine awp_cond (t := 36) rfl (fun hc52 => ?_) (fun hc52 => ?_)
            · replace h := bite_t h hc52
              refine awp_reg ftCOk [(2, .pp 1 0), (3, .v (.bool false))] [.row false (.graphs a0), .box [.v (.int .i64 0), .v (.slice none 0 0)], .row false (.trips ((a0.getD t21.toNat (0, [])).2)), .box [.v (.int .i64 ((a0.getD t21.toNat (0, [])).1)), .sl 2]] ?_
              refine awp_ret ?_
              (try simp only [Thn, InBlk, ↓reduceIte, Nat.reduceEqDiff])
              obtain rfl := Option.some.inj h
              refine LoopQ.out rfl ?_
              refine Red.trans (Red.nilCell (o := 1) (i := 1) (.trips []) rfl rfl rfl) ?_
              exact Red.selA [0, 1, 4] Red.auto
            · replace h := bite_f h hc52
              refine awp_skip ?_
              (try simp only [Thn, InBlk, ↓reduceIte, Nat.reduceEqDiff])
              (try simp only [Thn, InBlk, ↓reduceIte, Nat.reduceEqDiff])
              refine hK51 _ _ ?_
              clear hK51
              replace h := chk_some h
              obtain ⟨hp0, h⟩ := h
              refine awp_regE ftCOk [(0, .sl 0), (2, .pp 1 0), (19, .sl 0), (20, .v (.int .i64 (a0.length : Int))), (21, .v (.int .i64 (t21 + 1)))] [.row false (.graphs a0), .box [.v (.int .i64 0), .v (.slice none 0 0)], .row false (.trips ((a0.getD t21.toNat (0, [])).2)), .box [.v (.int .i64 ((a0.getD t21.toNat (0, [])).1)), .sl 2]] ?_
              clear hp0
              obtain rfl := Option.some.inj h
              refine LoopQ.next ?_
              exact Red.selA [0, 1] Red.auto
        · replace h := bite_f h hc48
          refine awp_exit ?_
          (try simp only [Thn, InBlk, ↓reduceIte, Nat.reduceEqDiff])
          obtain rfl := Option.some.inj h
          refine LoopQ.out rfl ?_
          exact Red.auto
      · clear hx
        rcases x54 with (⟨⟩ | ⟨⟩)
        · try dsimp only [Sum.elim_inl, Sum.elim_inr] at h
          try dsimp only [Sum.elim_inl, Sum.elim_inr]
          (try simp only [Thn, InBlk, ↓reduceIte, Nat.reduceEqDiff])
          (try simp only [Thn, InBlk, ↓reduceIte, Nat.reduceEqDiff])
          (try simp only [Thn, InBlk, ↓reduceIte, Nat.reduceEqDiff])
          refine hK29 _ _ ?_
          clear hK29
          replace h := chk_some h
          obtain ⟨hp0, h⟩ := h
          refine awp_reg ftCOk [(0, .sl 0), (2, .pp 1 0), (6, .pp 2 0)] [.row false (.graphs a0), .box [.v (.int .i64 0), .v (.slice none 0 0)], .box [.v (.int .i64 ((a0.getD 0 (0, [])).1)), .v (.slice none 0 0)]] ?_
          clear hp0
          refine awp_seq fun K348 hK348 => ?_
          refine awp_reg ftCOk [(2, .pp 1 0), (6, .pp 2 0), (44, .sl 0), (45, .v (.int .i64 (a0.length : Int))), (46, .v (.int .i64 0))] [.row false (.graphs a0), .box [.v (.int .i64 0), .v (.slice none 0 0)], .box [.v (.int .i64 ((a0.getD 0 (0, [])).1)), .v (.slice none 0 0)]] ?_
          refine awp_block ?_
          replace h := bind_some h
          obtain ⟨x641, hx, h⟩ := h
          refine awp_loopL hx (fun ((t46, t6_0, t6_1s) : Int × Int × (List (Int × Int × Int))) => [(2, .pp 1 0), (6, .pp 3 0), (44, .sl 0), (45, .v (.int .i64 (a0.length : Int))), (46, .v (.int .i64 t46))]) (fun ((t46, t6_0, t6_1s) : Int × Int × (List (Int × Int × Int))) => [.row false (.graphs a0), .box [.v (.int .i64 0), .sl 2], .row true (.trips []), .box [.v (.int .i64 t6_0), .sl 4], .row true (.trips t6_1s)]) (Sum.elim (fun ((t6_0_1, t6_1s_1) : Int × (List (Int × Int × Int))) => Exit.exit 2) (fun (_ : Unit) => Exit.ret)) (Sum.elim (fun ((t6_0_1, t6_1s_1) : Int × (List (Int × Int × Int))) => [(2, .pp 1 0), (6, .pp 3 0)]) (fun (_ : Unit) => [(2, .pp 1 0), (3, .v (.bool false))])) (Sum.elim (fun ((t6_0_1, t6_1s_1) : Int × (List (Int × Int × Int))) => [.row false (.graphs a0), .box [.v (.int .i64 0), .sl 2], .row true (.trips []), .box [.v (.int .i64 t6_0_1), .sl 4], .row true (.trips t6_1s_1)]) (fun (_ : Unit) => [.row false (.graphs a0), .box [.v (.int .i64 0), .sl 2], .row true (.trips [])])) ?_ ?_ ?_ ?_
          · rintro (⟨t6_0_1, t6_1s_1⟩ | ⟨⟩) hy <;> cases hy
          · clear h hx
            refine Red.trans (Red.nilCell (o := 1) (i := 1) (.trips []) rfl rfl rfl) ?_
            refine Red.trans (Red.nilCell (o := 2) (i := 1) (.trips []) rfl rfl rfl) ?_
            exact Red.selA [0, 1, 3, 2, 4] Red.auto
          · clear h hx
            rintro ⟨t46, t6_0, t6_1s⟩ r h
            unfold impl_JoinParts_b2 at h
            try dsimp only at h
            try dsimp only
            refine awp_reg ftCOk [(2, .pp 1 0), (6, .pp 3 0), (44, .sl 0), (45, .v (.int .i64 (a0.length : Int))), (46, .v (.int .i64 t46)), (47, .v (.bool (decide (t46 < (a0.length : Int)))))] [.row false (.graphs a0), .box [.v (.int .i64 0), .sl 2], .row true (.trips []), .box [.v (.int .i64 t6_0), .sl 4], .row true (.trips t6_1s)] ?_
            refine awp_seq fun K574 hK574 => ?_
            refine awp_cond (t := 47) rfl (fun hc575 => ?_) (fun hc575 => ?_)
            · replace h := bite_t h hc575
              refine awp_skip ?_
              (try simp only [Thn, InBlk, ↓reduceIte, Nat.reduceEqDiff])
              refine hK574 _ _ ?_
              clear hK574
              refine awp_seq fun K608 hK608 => ?_
              refine awp_block ?_
              replace h := chk_some h
              obtain ⟨hpt640, h⟩ := h
              refine awp_take 0 t46.toNat 1 (by rfl) (by exact hpt640) (by rfl) (by exact rfl) ?_
              clear hpt640
              replace h := chk_some h
              obtain ⟨hp0, h⟩ := h
              refine awp_reg ftCOk [(2, .pp 1 0), (6, .pp 3 0), (8, .pp 6 0), (44, .sl 0), (45, .v (.int .i64 (a0.length : Int))), (46, .v (.int .i64 t46))] [.tak false (.graphs a0) t46.toNat 1 (some 5), .box [.v (.int .i64 0), .sl 2], .row true (.trips []), .box [.v (.int .i64 t6_0), .sl 4], .row true (.trips t6_1s), .row false (.trips ((a0.getD t46.toNat (0, [])).2)), .box [.v (.int .i64 ((a0.getD t46.toNat (0, [])).1)), .sl 5]] ?_
              clear hp0
              refine awp_put 0 5 (by rfl) (by rfl) (Cont.setChild_self (by rfl)) (by exact rfl) ?_
              refine awp_reg ftCOk [(2, .pp 1 0), (6, .pp 3 0), (44, .sl 0), (45, .v (.int .i64 (a0.length : Int))), (46, .v (.int .i64 t46)), (51, .sl 5), (52, .v (.int .i64 (((a0.getD t46.toNat (0, [])).2).length : Int))), (53, .v (.int .i64 0))] [.row false (.graphs a0), .box [.v (.int .i64 0), .sl 2], .row true (.trips []), .box [.v (.int .i64 t6_0), .sl 4], .row true (.trips t6_1s), .row false (.trips ((a0.getD t46.toNat (0, [])).2)), .box [.v (.int .i64 ((a0.getD t46.toNat (0, [])).1)), .sl 5]] ?_
              refine awp_block ?_
              replace h := bind_some h
              obtain ⟨x639, hx, h⟩ := h
              refine awp_loopL hx (fun ((t53, t6_0_2, t6_1s_2) : Int × Int × (List (Int × Int × Int))) => [(2, .pp 1 0), (6, .pp 3 0), (44, .sl 0), (45, .v (.int .i64 (a0.length : Int))), (46, .v (.int .i64 t46)), (51, .sl 5), (52, .v (.int .i64 (((a0.getD t46.toNat (0, [])).2).length : Int))), (53, .v (.int .i64 t53))]) (fun ((t53, t6_0_2, t6_1s_2) : Int × Int × (List (Int × Int × Int))) => [.row false (.graphs a0), .box [.v (.int .i64 0), .sl 2], .row true (.trips []), .box [.v (.int .i64 t6_0_2), .sl 4], .row true (.trips t6_1s_2), .row false (.trips ((a0.getD t46.toNat (0, [])).2))]) (Sum.elim (fun ((t6_0_3, t6_1s_3) : Int × (List (Int × Int × Int))) => Exit.exit 4) (fun (_ : Unit) => Exit.ret)) (Sum.elim (fun ((t6_0_3, t6_1s_3) : Int × (List (Int × Int × Int))) => [(2, .pp 1 0), (6, .pp 3 0), (44, .sl 0), (45, .v (.int .i64 (a0.length : Int))), (46, .v (.int .i64 t46))]) (fun (_ : Unit) => [(2, .pp 1 0), (3, .v (.bool false))])) (Sum.elim (fun ((t6_0_3, t6_1s_3) : Int × (List (Int × Int × Int))) => [.row false (.graphs a0), .box [.v (.int .i64 0), .sl 2], .row true (.trips []), .box [.v (.int .i64 t6_0_3), .sl 4], .row true (.trips t6_1s_3)]) (fun (_ : Unit) => [.row false (.graphs a0), .box [.v (.int .i64 0), .sl 2], .row true (.trips [])])) ?_ ?_ ?_ ?_
              · rintro (⟨t6_0_3, t6_1s_3⟩ | ⟨⟩) hy <;> cases hy
              · clear h hx
                exact Red.selA [0, 1, 2, 3, 4, 5] Red.auto
              · clear h hx
                rintro ⟨t53, t6_0_2, t6_1s_2⟩ r h
                unfold impl_JoinParts_b1 at h
                try dsimp only at h
                try dsimp only
                refine awp_reg ftCOk [(2, .pp 1 0), (6, .pp 3 0), (44, .sl 0), (45, .v (.int .i64 (a0.length : Int))), (46, .v (.int .i64 t46)), (51, .sl 5), (52, .v (.int .i64 (((a0.getD t46.toNat (0, [])).2).length : Int))), (53, .v (.int .i64 t53)), (54, .v (.bool (decide (t53 < (((a0.getD t46.toNat (0, [])).2).length : Int)))))] [.row false (.graphs a0), .box [.v (.int .i64 0), .sl 2], .row true (.trips []), .box [.v (.int .i64 t6_0_2), .sl 4], .row true (.trips t6_1s_2), .row false (.trips ((a0.getD t46.toNat (0, [])).2))] ?_
                refine awp_seq fun K630 hK630 => ?_
                refine awp_cond (t := 54) rfl (fun hc631 => ?_) (fun hc631 => ?_)
                · replace h := bite_t h hc631
                  refine awp_skip ?_
                  (try simp only [Thn, InBlk, ↓reduceIte, Nat.reduceEqDiff])
                  refine hK630 _ _ ?_
                  clear hK630
                  refine awp_seq fun K635 hK635 => ?_
                  refine awp_block ?_
                  replace h := chk_some h
                  obtain ⟨hp0, h⟩ := h
                  refine awp_reg ftCOk [(2, .pp 1 0), (6, .pp 3 0), (10, .pp 6 0), (44, .sl 0), (45, .v (.int .i64 (a0.length : Int))), (46, .v (.int .i64 t46)), (51, .sl 5), (52, .v (.int .i64 (((a0.getD t46.toNat (0, [])).2).length : Int))), (53, .v (.int .i64 t53))] [.row false (.graphs a0), .box [.v (.int .i64 0), .sl 2], .row true (.trips []), .box [.v (.int .i64 t6_0_2), .sl 4], .row true (.trips t6_1s_2), .row false (.trips ((a0.getD t46.toNat (0, [])).2)), .box [.v (.int .i64 ((((a0.getD t46.toNat (0, [])).2).getD t53.toNat (0, 0, 0)).1)), .v (.int .i64 ((((a0.getD t46.toNat (0, [])).2).getD t53.toNat (0, 0, 0)).2.1)), .v (.int .i64 ((((a0.getD t46.toNat (0, [])).2).getD t53.toNat (0, 0, 0)).2.2))]] ?_
                  clear hp0
                  refine awp_reg ftCOk [(2, .pp 1 0), (6, .pp 3 0), (10, .pp 6 0), (11, .v (.int .i64 (t6_1s_2.length : Int))), (44, .sl 0), (45, .v (.int .i64 (a0.length : Int))), (46, .v (.int .i64 t46)), (51, .sl 5), (52, .v (.int .i64 (((a0.getD t46.toNat (0, [])).2).length : Int))), (53, .v (.int .i64 t53))] [.row false (.graphs a0), .box [.v (.int .i64 0), .sl 2], .row true (.trips []), .box [.v (.int .i64 t6_0_2), .sl 4], .row true (.trips t6_1s_2), .row false (.trips ((a0.getD t46.toNat (0, [])).2)), .box [.v (.int .i64 ((((a0.getD t46.toNat (0, [])).2).getD t53.toNat (0, 0, 0)).1)), .v (.int .i64 ((((a0.getD t46.toNat (0, [])).2).getD t53.toNat (0, 0, 0)).2.1)), .v (.int .i64 ((((a0.getD t46.toNat (0, [])).2).getD t53.toNat (0, 0, 0)).2.2))]] ?_
                  replace h := bind_some h
                  obtain ⟨⟨y_2, y_3, y_4⟩, hr0, h⟩ := h
                  try dsimp only at h
                  refine awp_to [(2, .pp 1 0), (6, .pp 3 0), (11, .v (.int .i64 (t6_1s_2.length : Int))), (12, .pp 8 0), (13, .v (.bool y_4)), (44, .sl 0), (45, .v (.int .i64 (a0.length : Int))), (46, .v (.int .i64 t46)), (51, .sl 5), (52, .v (.int .i64 (((a0.getD t46.toNat (0, [])).2).length : Int))), (53, .v (.int .i64 t53))] [.row false (.graphs a0), .box [.v (.int .i64 0), .sl 2], .row true (.trips []), .box [.v (.int .i64 t6_0_2), .sl 4], .row true (.trips t6_1s_2), .row false (.trips ((a0.getD t46.toNat (0, [])).2)), .box [.v (.int .i64 ((((a0.getD t46.toNat (0, [])).2).getD t53.toNat (0, 0, 0)).1)), .v (.int .i64 ((((a0.getD t46.toNat (0, [])).2).getD t53.toNat (0, 0, 0)).2.1)), .v (.int .i64 ((((a0.getD t46.toNat (0, [])).2).getD t53.toNat (0, 0, 0)).2.2))], .row true (.trips y_3), .box [.v (.int .i64 y_2), .sl 7]] ?_ ?_
                  · clear h
                    intro K hK
                    refine awp_region ftCOk ?_
                    simp (maxSteps := 4000000) only [go_sem, Nat.reduceBEq, Nat.reduceLT, Nat.reduceAdd, Nat.reduceLeDiff, Nat.reduceSub, Nat.reduceEqDiff, Int.reduceToNat, reduceCtorEq, ↓reduceIte]
                    repeat' (first | refine And.intro ?_ ?_ | intro hg)
                    all_goals (try simp (disch := omega) only [wrap_fits])
                    all_goals first
                      | (refine hK _ _ ?_; exact Red.auto)
                      | exact trivial
                      | assumption
                      | omega
                      | exact wrap_fits (by omega) (by omega)
                      | (refine wpA_callA (k_impl_AddEdge t6_0_2 t6_1s_2 ((((a0.getD t46.toNat (0, [])).2).getD t53.toNat (0, 0, 0)).1) ((((a0.getD t46.toNat (0, [])).2).getD t53.toNat (0, 0, 0)).2.1) ((((a0.getD t46.toNat (0, [])).2).getD t53.toNat (0, 0, 0)).2.2) (h := hr0)) [4] [] ?_
                         rintro x Hc' ⟨rfl, rfl⟩ hlen
                         refine vcOps_sound ftCOk ?_
                         simp (maxSteps := 4000000) only [go_sem, Nat.reduceBEq, Nat.reduceLT, Nat.reduceAdd, Nat.reduceLeDiff, Nat.reduceSub, Nat.reduceEqDiff, Int.reduceToNat, reduceCtorEq, ↓reduceIte]
                         repeat' (first | refine And.intro ?_ ?_ | intro hg)
                         all_goals (try simp (disch := omega) only [wrap_fits])
                         all_goals first
                           | (refine hK _ _ ?_; exact Red.auto)
                           | exact trivial
                           | assumption
                           | omega
                           | exact wrap_fits (by omega) (by omega)
                           | (simp_all; done)
                           | (simp_all; omega))
                      | (simp_all; done)
                      | (simp_all; omega)
                  · clear hr0
                    refine awp_seq fun K637 hK637 => ?_
                    refine awp_reg ftCOk [(2, .pp 1 0), (6, .pp 3 0), (12, .pp 8 0), (44, .sl 0), (45, .v (.int .i64 (a0.length : Int))), (46, .v (.int .i64 t46)), (51, .sl 5), (52, .v (.int .i64 (((a0.getD t46.toNat (0, [])).2).length : Int))), (53, .v (.int .i64 t53)), (74, .v (.bool ((!y_4) || ((y_3.length : Int) == (t6_1s_2.length : Int)))))] [.row false (.graphs a0), .box [.v (.int .i64 0), .sl 2], .row true (.trips []), .box [.v (.int .i64 t6_0_2), .sl 4], .row true (.trips t6_1s_2), .row false (.trips ((a0.getD t46.toNat (0, [])).2)), .box [.v (.int .i64 ((((a0.getD t46.toNat (0, [])).2).getD t53.toNat (0, 0, 0)).1)), .v (.int .i64 ((((a0.getD t46.toNat (0, [])).2).getD t53.toNat (0, 0, 0)).2.1)), .v (.int .i64 ((((a0.getD t46.toNat (0, [])).2).getD t53.toNat (0, 0, 0)).2.2))], .row true (.trips y_3), .box [.v (.int .i64 y_2), .sl 7]] ?_
                    refine awp_cond (t := 74) rfl (fun hc638 => ?_) (fun hc638 => ?_)
                    · replace h := bite_t h hc638
                      refine awp_reg ftCOk [(2, .pp 1 0), (3, .v (.bool false))] [.row false (.graphs a0), .box [.v (.int .i64 0), .v (.slice none 0 0)], .row true (.trips []), .box [.v (.int .i64 t6_0_2), .sl 4], .row true (.trips t6_1s_2), .row false (.trips ((a0.getD t46.toNat (0, [])).2)), .box [.v (.int .i64 ((((a0.getD t46.toNat (0, [])).2).getD t53.toNat (0, 0, 0)).1)), .v (.int .i64 ((((a0.getD t46.toNat (0, [])).2).getD t53.toNat (0, 0, 0)).2.1)), .v (.int .i64 ((((a0.getD t46.toNat (0, [])).2).getD t53.toNat (0, 0, 0)).2.2))], .row true (.trips y_3), .box [.v (.int .i64 y_2), .sl 7]] ?_
                      refine awp_ret ?_
                      (try simp only [Thn, InBlk, ↓reduceIte, Nat.reduceEqDiff])
                      obtain rfl := Option.some.inj h
                      refine LoopQ.out rfl ?_
                      refine Red.trans (Red.nilCell (o := 1) (i := 1) (.trips []) rfl rfl rfl) ?_
                      exact Red.selA [0, 1, 9] Red.auto
                    · replace h := bite_f h hc638
                      refine awp_skip ?_
                      (try simp only [Thn, InBlk, ↓reduceIte, Nat.reduceEqDiff])
                      refine hK637 _ _ ?_
                      clear hK637
                      refine awp_regE ftCOk [(2, .pp 1 0), (6, .pp 3 0), (44, .sl 0), (45, .v (.int .i64 (a0.length : Int))), (46, .v (.int .i64 t46)), (51, .sl 5), (52, .v (.int .i64 (((a0.getD t46.toNat (0, [])).2).length : Int))), (53, .v (.int .i64 t53))] [.row false (.graphs a0), .box [.v (.int .i64 0), .sl 2], .row true (.trips []), .box [.v (.int .i64 y_2), .sl 7], .row true (.trips t6_1s_2), .row false (.trips ((a0.getD t46.toNat (0, [])).2)), .box [.v (.int .i64 ((((a0.getD t46.toNat (0, [])).2).getD t53.toNat (0, 0, 0)).1)), .v (.int .i64 ((((a0.getD t46.toNat (0, [])).2).getD t53.toNat (0, 0, 0)).2.1)), .v (.int .i64 ((((a0.getD t46.toNat (0, [])).2).getD t53.toNat (0, 0, 0)).2.2))], .row true (.trips y_3), .box [.v (.int .i64 y_2), .sl 7]] ?_
                      (try simp only [Thn, InBlk, ↓reduceIte, Nat.reduceEqDiff])
                      (try simp only [Thn, InBlk, ↓reduceIte, Nat.reduceEqDiff])
                      refine hK635 _ _ ?_
                      clear hK635
                      replace h := chk_some h
                      obtain ⟨hp0, h⟩ := h
                      refine awp_regE ftCOk [(2, .pp 1 0), (6, .pp 3 0), (44, .sl 0), (45, .v (.int .i64 (a0.length : Int))), (46, .v (.int .i64 t46)), (51, .sl 5), (52, .v (.int .i64 (((a0.getD t46.toNat (0, [])).2).length : Int))), (53, .v (.int .i64 (t53 + 1)))] [.row false (.graphs a0), .box [.v (.int .i64 0), .sl 2], .row true (.trips []), .box [.v (.int .i64 y_2), .sl 7], .row true (.trips t6_1s_2), .row false (.trips ((a0.getD t46.toNat (0, [])).2)), .box [.v (.int .i64 ((((a0.getD t46.toNat (0, [])).2).getD t53.toNat (0, 0, 0)).1)), .v (.int .i64 ((((a0.getD t46.toNat (0, [])).2).getD t53.toNat (0, 0, 0)).2.1)), .v (.int .i64 ((((a0.getD t46.toNat (0, [])).2).getD t53.toNat (0, 0, 0)).2.2))], .row true (.trips y_3), .box [.v (.int .i64 y_2), .sl 7]] ?_
                      clear hp0
                      obtain rfl := Option.some.inj h
                      refine LoopQ.next ?_
                      exact Red.selA [0, 1, 2, 3, 7, 5] Red.auto
                · replace h := bite_f h hc631
                  refine awp_exit ?_
                  (try simp only [Thn, InBlk, ↓reduceIte, Nat.reduceEqDiff])
                  obtain rfl := Option.some.inj h
                  refine LoopQ.out rfl ?_
                  exact Red.selA [0, 1, 2, 3, 4] Red.auto
              · clear hx
                rcases x639 with (⟨t6_0_3, t6_1s_3⟩ | ⟨⟩)
                · try dsimp only [Sum.elim_inl, Sum.elim_inr] at h
                  try dsimp only [Sum.elim_inl, Sum.elim_inr]
                  (try simp only [Thn, InBlk, ↓reduceIte, Nat.reduceEqDiff])
                  (try simp only [Thn, InBlk, ↓reduceIte, Nat.reduceEqDiff])
                  (try simp only [Thn, InBlk, ↓reduceIte, Nat.reduceEqDiff])
                  (try simp only [Thn, InBlk, ↓reduceIte, Nat.reduceEqDiff])
                  refine hK608 _ _ ?_
                  clear hK608
                  replace h := chk_some h
                  obtain ⟨hp0, h⟩ := h
                  refine awp_regE ftCOk [(2, .pp 1 0), (6, .pp 3 0), (44, .sl 0), (45, .v (.int .i64 (a0.length : Int))), (46, .v (.int .i64 (t46 + 1)))] [.row false (.graphs a0), .box [.v (.int .i64 0), .sl 2], .row true (.trips []), .box [.v (.int .i64 t6_0_3), .sl 4], .row true (.trips t6_1s_3)] ?_
                  clear hp0
                  obtain rfl := Option.some.inj h
                  refine LoopQ.next ?_
                  exact Red.auto
                · try dsimp only [Sum.elim_inl, Sum.elim_inr] at h
                  try dsimp only [Sum.elim_inl, Sum.elim_inr]
                  (try simp only [Thn, InBlk, ↓reduceIte, Nat.reduceEqDiff])
                  obtain rfl := Option.some.inj h
                  refine LoopQ.out rfl ?_
                  exact Red.auto
            · replace h := bite_f h hc575
              refine awp_exit ?_
              (try simp only [Thn, InBlk, ↓reduceIte, Nat.reduceEqDiff])
              obtain rfl := Option.some.inj h
              refine LoopQ.out rfl ?_
              exact Red.auto
          · clear hx
            rcases x641 with (⟨t6_0_1, t6_1s_1⟩ | ⟨⟩)
            · try dsimp only [Sum.elim_inl, Sum.elim_inr] at h
              try dsimp only [Sum.elim_inl, Sum.elim_inr]
              (try simp only [Thn, InBlk, ↓reduceIte, Nat.reduceEqDiff])
              (try simp only [Thn, InBlk, ↓reduceIte, Nat.reduceEqDiff])
              (try simp only [Thn, InBlk, ↓reduceIte, Nat.reduceEqDiff])
              refine hK348 _ _ ?_
              clear hK348
              refine awp_reg ftCOk [(2, .pp 1 0), (3, .v (.bool true))] [.row false (.graphs a0), .box [.v (.int .i64 t6_0_1), .sl 4], .row true (.trips []), .box [.v (.int .i64 t6_0_1), .sl 4], .row true (.trips t6_1s_1)] ?_
              refine awp_ret ?_
              (try simp only [Thn, InBlk, ↓reduceIte, Nat.reduceEqDiff])
              obtain rfl := Option.some.inj h
              refine ⟨by simp, _, [0, 4], (by simp only [go_sem, Nat.reduceBEq, Nat.reduceLT, Nat.reduceAdd, Nat.reduceLeDiff, Nat.reduceSub, Nat.reduceEqDiff, Int.reduceToNat, reduceCtorEq, ↓reduceIte]; exact rfl), ?_, ?_, ?_, ?_⟩
              · first | exact trivial | exact ⟨trivial, trivial⟩ | exact ⟨trivial, trivial, trivial⟩ | exact ⟨trivial, trivial, trivial, trivial⟩ | (simp only [allP, and_true, true_and]; done) | (simp only [allP, and_true, true_and]; omega)
              · simp [selOk, pos]
              · simp
              · first | exact ⟨rfl, rfl⟩ | (simp only [go_sem, Nat.reduceBEq, Nat.reduceLT, Nat.reduceAdd, Nat.reduceLeDiff, Nat.reduceSub, Nat.reduceEqDiff, Int.reduceToNat, reduceCtorEq, ↓reduceIte]; done) | (simp [go_sem, Nat.reduceBEq, Nat.reduceLT, Nat.reduceAdd, Nat.reduceLeDiff, Nat.reduceSub, Nat.reduceEqDiff, Int.reduceToNat, reduceCtorEq, ↓reduceIte]; done) | (simp only [go_sem, Nat.reduceBEq, Nat.reduceLT, Nat.reduceAdd, Nat.reduceLeDiff, Nat.reduceSub, Nat.reduceEqDiff, Int.reduceToNat, reduceCtorEq, ↓reduceIte]; exact ⟨rfl, rfl⟩) | (simp_all [go_sem, Nat.reduceBEq, Nat.reduceLT, Nat.reduceAdd, Nat.reduceLeDiff, Nat.reduceSub, Nat.reduceEqDiff, Int.reduceToNat, reduceCtorEq, ↓reduceIte]; done)
            · try dsimp only [Sum.elim_inl, Sum.elim_inr] at h
              try dsimp only [Sum.elim_inl, Sum.elim_inr]
              (try simp only [Thn, InBlk, ↓reduceIte, Nat.reduceEqDiff])
              obtain rfl := Option.some.inj h
              refine ⟨by simp, _, [0, 2], (by simp only [go_sem, Nat.reduceBEq, Nat.reduceLT, Nat.reduceAdd, Nat.reduceLeDiff, Nat.reduceSub, Nat.reduceEqDiff, Int.reduceToNat, reduceCtorEq, ↓reduceIte]; exact rfl), ?_, ?_, ?_, ?_⟩
              · first | exact trivial | exact ⟨trivial, trivial⟩ | exact ⟨trivial, trivial, trivial⟩ | exact ⟨trivial, trivial, trivial, trivial⟩ | (simp only [allP, and_true, true_and]; done) | (simp only [allP, and_true, true_and]; omega)
              · simp [selOk, pos]
              · simp
              · first | exact ⟨rfl, rfl⟩ | (simp only [go_sem, Nat.reduceBEq, Nat.reduceLT, Nat.reduceAdd, Nat.reduceLeDiff, Nat.reduceSub, Nat.reduceEqDiff, Int.reduceToNat, reduceCtorEq, ↓reduceIte]; done) | (simp [go_sem, Nat.reduceBEq, Nat.reduceLT, Nat.reduceAdd, Nat.reduceLeDiff, Nat.reduceSub, Nat.reduceEqDiff, Int.reduceToNat, reduceCtorEq, ↓reduceIte]; done) | (simp only [go_sem, Nat.reduceBEq, Nat.reduceLT, Nat.reduceAdd, Nat.reduceLeDiff, Nat.reduceSub, Nat.reduceEqDiff, Int.reduceToNat, reduceCtorEq, ↓reduceIte]; exact ⟨rfl, rfl⟩) | (simp_all [go_sem, Nat.reduceBEq, Nat.reduceLT, Nat.reduceAdd, Nat.reduceLeDiff, Nat.reduceSub, Nat.reduceEqDiff, Int.reduceToNat, reduceCtorEq, ↓reduceIte]; done)
        · try dsimp only [Sum.elim_inl, Sum.elim_inr] at h
          try dsimp only [Sum.elim_inl, Sum.elim_inr]
          (try simp only [Thn, InBlk, ↓reduceIte, Nat.reduceEqDiff])
          obtain rfl := Option.some.inj h
          refine ⟨by simp, _, [0, 2], (by simp only [go_sem, Nat.reduceBEq, Nat.reduceLT, Nat.reduceAdd, Nat.reduceLeDiff, Nat.reduceSub, Nat.reduceEqDiff, Int.reduceToNat, reduceCtorEq, ↓reduceIte]; exact rfl), ?_, ?_, ?_, ?_⟩
          · first | exact trivial | exact ⟨trivial, trivial⟩ | exact ⟨trivial, trivial, trivial⟩ | exact ⟨trivial, trivial, trivial, trivial⟩ | (simp only [allP, and_true, true_and]; done) | (simp only [allP, and_true, true_and]; omega)
          · simp [selOk, pos]
          · simp
          · first | exact ⟨rfl, rfl⟩ | (simp only [go_sem, Nat.reduceBEq, Nat.reduceLT, Nat.reduceAdd, Nat.reduceLeDiff, Nat.reduceSub, Nat.reduceEqDiff, Int.reduceToNat, reduceCtorEq, ↓reduceIte]; done) | (simp [go_sem, Nat.reduceBEq, Nat.reduceLT, Nat.reduceAdd, Nat.reduceLeDiff, Nat.reduceSub, Nat.reduceEqDiff, Int.reduceToNat, reduceCtorEq, ↓reduceIte]; done) | (simp only [go_sem, Nat.reduceBEq, Nat.reduceLT, Nat.reduceAdd, Nat.reduceLeDiff, Nat.reduceSub, Nat.reduceEqDiff, Int.reduceToNat, reduceCtorEq, ↓reduceIte]; exact ⟨rfl, rfl⟩) | (simp_all [go_sem, Nat.reduceBEq, Nat.reduceLT, Nat.reduceAdd, Nat.reduceLeDiff, Nat.reduceSub, Nat.reduceEqDiff, Int.reduceToNat, reduceCtorEq, ↓reduceIte]; done)
theorem k_spec_l1OwnGraphList (a0 : List (Int × List (Int × Int × Int))) {r : (List (Int × List (Int × Int × Int)))} (h : spec_l1OwnGraphList a0 = some r) :
    FnA Try.prog 31 [.sl 0] [.row false (.graphs a0)] [] (fun x H => x = .sl 1 ∧ H = [.row false (.graphs a0), .row true (.graphs r)]) := by
  unfold spec_l1OwnGraphList at h
  refine FnA.of (N := 21) (pin := [0]) (rs := [.tmp 2]) Try.func31 rfl en31 rfl rfl (by simp) (by simp; try omega) ?_
  refine awp_reg ftCOk [(0, .sl 0)] [.row false (.graphs a0)] ?_
  refine awp_reg ftCOk [(0, .sl 0), (3, .sl 1)] [.row false (.graphs a0), .row true (.graphs [])] ?_
  refine awp_seq fun K20 hK20 => ?_
  refine awp_reg ftCOk [(0, .sl 0), (3, .sl 1), (4, .v (.int .i64 0))] [.row false (.graphs a0), .row true (.graphs [])] ?_
  refine awp_block ?_
  replace h := bind_some h
  obtain ⟨t3s_1, hx, h⟩ := h
  refine awp_loopL hx (fun ((t4, t3s) : Int × (List (Int × List (Int × Int × Int)))) => [(0, .sl 0), (3, .sl 1), (4, .v (.int .i64 t4))]) (fun ((t4, t3s) : Int × (List (Int × List (Int × Int × Int)))) => [.row false (.graphs a0), .row true (.graphs t3s)]) (fun (t3s_1 : List (Int × List (Int × Int × Int))) => Exit.exit 0) (fun (t3s_1 : List (Int × List (Int × Int × Int))) => [(3, .sl 1)]) (fun (t3s_1 : List (Int × List (Int × Int × Int))) => [.row false (.graphs a0), .row true (.graphs t3s_1)]) ?_ ?_ ?_ ?_
  · rintro t3s_1 hy <;> cases hy
  · clear h hx
    exact Red.auto
  · clear h hx
    rintro ⟨t4, t3s⟩ r h
    unfold spec_l1OwnGraphList_b0 at h
    try dsimp only at h
    try dsimp only
    refine awp_seq fun K34 hK34 => ?_
    refine awp_reg ftCOk [(0, .sl 0), (3, .sl 1), (4, .v (.int .i64 t4)), (9, .v (.bool (decide (t4 < (a0.length : Int)))))] [.row false (.graphs a0), .row true (.graphs t3s)] ?_
    refine awp_cond (t := 9) rfl (fun hc35 => ?_) (fun hc35 => ?_)
    · replace h := bite_t h hc35
      refine awp_skip ?_
      (try simp only [Thn, InBlk, ↓reduceIte, Nat.reduceEqDiff])
      refine hK34 _ _ ?_
      clear hK34
      refine awp_seq fun K37 hK37 => ?_
      refine awp_block ?_
      replace h := chk_some h
      obtain ⟨hpt38, h⟩ := h
      refine awp_take 0 t4.toNat 1 (by rfl) (by exact hpt38) (by rfl) (by exact rfl) ?_
      clear hpt38
      replace h := chk_some h
      obtain ⟨hp0, h⟩ := h
      replace h := bind_some h
      obtain ⟨⟨y, y_1⟩, hr1, h⟩ := h
      try dsimp only at h
      replace h := chk_some h
      obtain ⟨hp2, h⟩ := h
      refine awp_end [(0, .sl 0), (3, .sl 1), (4, .v (.int .i64 t4))] [.tak false (.graphs a0) t4.toNat 1 (some 2), .tak true (.graphs (t3s ++ [(y, [])])) t3s.length 1 (some 3), .row false (.trips ((a0.getD t4.toNat (0, [])).2)), .row true (.trips y_1), .tak true (.graphs [(y, [])]) 0 1 (some 3)] ?_ ?_
      · clear h
        intro K hK
        refine awp_region ftCOk ?_
        simp (maxSteps := 4000000) only [go_sem, Nat.reduceBEq, Nat.reduceLT, Nat.reduceAdd, Nat.reduceLeDiff, Nat.reduceSub, Nat.reduceEqDiff, Int.reduceToNat, reduceCtorEq, ↓reduceIte]
        repeat' (first | refine And.intro ?_ ?_ | intro hg)
        all_goals (try simp (disch := omega) only [wrap_fits])
        all_goals first
          | (refine hK _ _ ?_; exact Red.auto)
          | exact trivial
          | assumption
          | omega
          | exact wrap_fits (by omega) (by omega)
          | (refine wpA_callA (k_spec_l1OwnGraph ((a0.getD t4.toNat (0, [])).1) ((a0.getD t4.toNat (0, [])).2) (h := hr1)) [2] [] ?_
             rintro x Hc' ⟨rfl, rfl⟩ hlen
             refine vcOps_sound ftCOk ?_
             simp (maxSteps := 4000000) only [go_sem, Nat.reduceBEq, Nat.reduceLT, Nat.reduceAdd, Nat.reduceLeDiff, Nat.reduceSub, Nat.reduceEqDiff, Int.reduceToNat, reduceCtorEq, ↓reduceIte]
             repeat' (first | refine And.intro ?_ ?_ | intro hg)
             all_goals (try simp (disch := omega) only [wrap_fits])
             all_goals first
               | (refine hK _ _ ?_; exact Red.auto)
               | exact trivial
               | assumption
               | omega
               | exact wrap_fits (by omega) (by omega)
               | (simp_all; done)
               | (simp_all; omega))
          | (simp_all; done)
          | (simp_all; omega)
      · clear hp0 hr1 hp2
        (try simp only [Thn, InBlk, ↓reduceIte, Nat.reduceEqDiff])
        (try simp only [Thn, InBlk, ↓reduceIte, Nat.reduceEqDiff])
        refine hK37 _ _ ?_
        clear hK37
        refine awp_put 0 2 (by rfl) (by rfl) (Cont.setChild_self (by rfl)) (by exact rfl) ?_
        refine awp_put 1 3 (by rfl) (by rfl) (by rfl) (by exact rfl) ?_
        replace h := chk_some h
        obtain ⟨hp0, h⟩ := h
        refine awp_regE ftCOk [(0, .sl 0), (3, .sl 1), (4, .v (.int .i64 (t4 + 1)))] [.row false (.graphs a0), .row true (.graphs ((t3s ++ [(y, [])]).set t3s.length (((t3s ++ [(y, [])]).getD t3s.length (0, [])).1, y_1))), .row false (.trips ((a0.getD t4.toNat (0, [])).2)), .view 1 (.trips y_1), .tak true (.graphs [(y, [])]) 0 1 (some 3)] ?_
        clear hp0
        obtain rfl := Option.some.inj h
        refine LoopQ.next ?_
        exact Red.selA [0, 1] Red.auto
    · replace h := bite_f h hc35
      refine awp_exit ?_
      (try simp only [Thn, InBlk, ↓reduceIte, Nat.reduceEqDiff])
      obtain rfl := Option.some.inj h
      refine LoopQ.out rfl ?_
      exact Red.auto
  · clear hx
    skip
    · try dsimp only [Sum.elim_inl, Sum.elim_inr] at h
      try dsimp only [Sum.elim_inl, Sum.elim_inr]
      (try simp only [Thn, InBlk, ↓reduceIte, Nat.reduceEqDiff])
      (try simp only [Thn, InBlk, ↓reduceIte, Nat.reduceEqDiff])
      (try simp only [Thn, InBlk, ↓reduceIte, Nat.reduceEqDiff])
      refine hK20 _ _ ?_
      clear hK20
      refine awp_reg ftCOk [(2, .sl 1)] [.row false (.graphs a0), .row true (.graphs t3s_1)] ?_
      refine awp_ret ?_
      (try simp only [Thn, InBlk, ↓reduceIte, Nat.reduceEqDiff])
      obtain rfl := Option.some.inj h
      refine ⟨by simp, _, [0, 1], (by simp only [go_sem, Nat.reduceBEq, Nat.reduceLT, Nat.reduceAdd, Nat.reduceLeDiff, Nat.reduceSub, Nat.reduceEqDiff, Int.reduceToNat, reduceCtorEq, ↓reduceIte]; exact rfl), ?_, ?_, ?_, ?_⟩
      · first | exact trivial | exact ⟨trivial, trivial⟩ | exact ⟨trivial, trivial, trivial⟩ | exact ⟨trivial, trivial, trivial, trivial⟩ | (simp only [allP, and_true, true_and]; done) | (simp only [allP, and_true, true_and]; omega)
      · simp [selOk, pos]
      · simp
      · first | exact ⟨rfl, rfl⟩ | (simp only [go_sem, Nat.reduceBEq, Nat.reduceLT, Nat.reduceAdd, Nat.reduceLeDiff, Nat.reduceSub, Nat.reduceEqDiff, Int.reduceToNat, reduceCtorEq, ↓reduceIte]; done) | (simp [go_sem, Nat.reduceBEq, Nat.reduceLT, Nat.reduceAdd, Nat.reduceLeDiff, Nat.reduceSub, Nat.reduceEqDiff, Int.reduceToNat, reduceCtorEq, ↓reduceIte]; done) | (simp only [go_sem, Nat.reduceBEq, Nat.reduceLT, Nat.reduceAdd, Nat.reduceLeDiff, Nat.reduceSub, Nat.reduceEqDiff, Int.reduceToNat, reduceCtorEq, ↓reduceIte]; exact ⟨rfl, rfl⟩) | (simp_all [go_sem, Nat.reduceBEq, Nat.reduceLT, Nat.reduceAdd, Nat.reduceLeDiff, Nat.reduceSub, Nat.reduceEqDiff, Int.reduceToNat, reduceCtorEq, ↓reduceIte]; done)
abbrev lz0_spec_JoinParts : Array Bool := #[false, true, true, false, false, false, true, false, false, false, false, false, false, false, false, false]
abbrev lz1_spec_JoinParts : Array Bool := #[true, true, true, true, true, true, true, true, true, true, true, true, true, true, true, true]
abbrev lz2_spec_JoinParts : Array Bool := #[true, true, true, true, true, true, true, true, true, true, true, true, true, true, false, false]
abbrev lz3_spec_JoinParts : Array Bool := #[true, true, true, true, true, true, true, true, true, true, true, true, true, false, false, false]
abbrev lz4_spec_JoinParts : Array Bool := #[true, true, true, true, true, true, true, true, true, true, false, false, false, true, false, false]
abbrev lz5_spec_JoinParts : Array Bool := #[true, true, true, true, true, true, true, true, true, true, false, false, false, false, false, false]
abbrev lz6_spec_JoinParts : Array Bool := #[true, true, true, true, true, true, true, true, true, false, false, false, false, true, false, false]
abbrev lz7_spec_JoinParts : Array Bool := #[true, true, true, true, true, true, true, true, true, false, false, false, false, false, false, false]
abbrev lz8_spec_JoinParts : Array Bool := #[true, true, true, true, true, true, true, true, false, false, false, false, false, true, false, false]
abbrev lz9_spec_JoinParts : Array Bool := #[true, true, true, true, true, true, true, true, false, false, false, false, false, false, false, false]
abbrev lz10_spec_JoinParts : Array Bool := #[true, true, true, true, true, true, true, false, false, false, false, false, false, true, false, false]
abbrev lz11_spec_JoinParts : Array Bool := #[true, true, true, true, true, true, true, false, false, false, false, false, false, false, false, false]
abbrev lz12_spec_JoinParts : Array Bool := #[true, true, true, true, true, false, true, false, false, false, false, false, false, true, false, false]
abbrev lz13_spec_JoinParts : Array Bool := #[true, true, true, true, true, false, true, false, false, false, false, false, false, false, false, false]
abbrev lz14_spec_JoinParts : Array Bool := #[true, true, true, false, false, false, true, false, false, false, false, false, false, true, false, false]
abbrev lz15_spec_JoinParts : Array Bool := #[true, true, true, false, false, false, true, false, false, false, false, false, false, false, false, false]
abbrev lz16_spec_JoinParts : Array Bool := #[false, true, true, true, true, true, true, true, true, false, false, false, false, true, false, false]
abbrev lz17_spec_JoinParts : Array Bool := #[false, true, true, true, true, true, true, true, true, false, false, false, false, false, false, false]
abbrev lz18_spec_JoinParts : Array Bool := #[false, true, true, true, true, true, true, true, false, false, false, false, false, true, false, false]
abbrev lz19_spec_JoinParts : Array Bool := #[false, true, true, true, true, true, true, true, false, false, false, false, false, false, false, false]
abbrev lz20_spec_JoinParts : Array Bool := #[false, true, true, true, true, true, true, false, false, false, false, false, false, true, false, false]
abbrev lz21_spec_JoinParts : Array Bool := #[false, true, true, true, true, true, true, false, false, false, false, false, false, false, false, false]
abbrev lz22_spec_JoinParts : Array Bool := #[false, true, true, true, true, false, true, false, false, false, false, false, false, true, false, false]
abbrev lz23_spec_JoinParts : Array Bool := #[false, true, true, true, true, false, true, false, false, false, false, false, false, false, false, false]
abbrev lz24_spec_JoinParts : Array Bool := #[false, true, true, false, false, false, true, false, false, false, false, false, false, true, false, false]
theorem k_spec_JoinParts (a0 : List (Int × List (Int × Int × Int))) {r : Int × (List (Int × Int × Int)) × Bool} (h : spec_JoinParts a0 = some r) :
    FnA Try.prog 15 [.sl 0] [.row false (.graphs a0)] [] (fun x H => x = .tup [.agg [.v (.int .i64 r.1), .sl 1], .v (.bool r.2.2)] ∧ H = [.row false (.graphs a0), .row true (.trips r.2.1)]) := by
  unfold spec_JoinParts at h
  refine FnA.of (N := 87) (pin := [0]) (rs := [.cell 2 25, .tmp 3]) Try.func15 rfl en15 rfl rfl (by simp) (by simp; try omega) ?_
  refine awp_reg ftCOk [(0, .sl 0), (2, .pp 1 0)] [.row false (.graphs a0), .box [.v (.int .i64 0), .v (.slice none 0 0)]] ?_
  replace h := bind_some h
  obtain ⟨y, hr0, h⟩ := h
  try dsimp only at h
  refine awp_to [(0, .sl 2), (2, .pp 1 0)] [.row false (.graphs a0), .box [.v (.int .i64 0), .v (.slice none 0 0)], .row true (.graphs y)] ?_ ?_
  · clear h
    intro K hK
    refine awp_region ftCOk ?_
    simp (maxSteps := 4000000) only [go_sem, Nat.reduceBEq, Nat.reduceLT, Nat.reduceAdd, Nat.reduceLeDiff, Nat.reduceSub, Nat.reduceEqDiff, Int.reduceToNat, reduceCtorEq, ↓reduceIte]
    repeat' (first | refine And.intro ?_ ?_ | intro hg)
    all_goals (try simp (disch := omega) only [wrap_fits])
    all_goals first
      | (refine hK _ _ ?_; exact Red.auto)
      | exact trivial
      | assumption
      | omega
      | exact wrap_fits (by omega) (by omega)
      | (refine wpA_callA (k_spec_l1OwnGraphList a0 (h := hr0)) [0] [] ?_
         rintro x Hc' ⟨rfl, rfl⟩ hlen
         refine vcOps_sound ftCOk ?_
         simp (maxSteps := 4000000) only [go_sem, Nat.reduceBEq, Nat.reduceLT, Nat.reduceAdd, Nat.reduceLeDiff, Nat.reduceSub, Nat.reduceEqDiff, Int.reduceToNat, reduceCtorEq, ↓reduceIte]
         repeat' (first | refine And.intro ?_ ?_ | intro hg)
         all_goals (try simp (disch := omega) only [wrap_fits])
         all_goals first
           | (refine hK _ _ ?_; exact Red.auto)
           | exact trivial
           | assumption
           | omega
           | exact wrap_fits (by omega) (by omega)
           | (simp_all; done)
           | (simp_all; omega))
      | (simp_all; done)
      | (simp_all; omega)
  · clear hr0
    refine awp_seq fun K2 hK2 => ?_
    refine awp_reg ftCOk [(0, .sl 2), (2, .pp 1 0), (15, .v (.bool (!(decide (1 ≤ (y.length : Int)) && decide ((y.length : Int) ≤ 6)))))] [.row false (.graphs a0), .box [.v (.int .i64 0), .v (.slice none 0 0)], .row true (.graphs y)] ?_
    refine awp_cond (t := 15) rfl (fun hc3 => ?_) (fun hc3 => ?_)
    · replace h := bite_t h hc3
      refine awp_reg ftCOk [(2, .pp 1 0), (3, .v (.bool false))] [.row false (.graphs a0), .box [.v (.int .i64 0), .v (.slice none 0 0)], .row true (.graphs y)] ?_
      refine awp_red (Red.nilCell (o := 1) (i := 1) (.trips []) rfl rfl rfl) ?_
      refine awp_ret ?_
      (try simp only [Thn, InBlk, ↓reduceIte, Nat.reduceEqDiff])
      obtain rfl := Option.some.inj h
      refine ⟨by simp, _, [0, 3], (by simp only [go_sem, Nat.reduceBEq, Nat.reduceLT, Nat.reduceAdd, Nat.reduceLeDiff, Nat.reduceSub, Nat.reduceEqDiff, Int.reduceToNat, reduceCtorEq, ↓reduceIte]; exact rfl), ?_, ?_, ?_, ?_⟩
      · first | exact trivial | exact ⟨trivial, trivial⟩ | exact ⟨trivial, trivial, trivial⟩ | exact ⟨trivial, trivial, trivial, trivial⟩ | (simp only [allP, and_true, true_and]; done) | (simp only [allP, and_true, true_and]; omega)
      · simp [selOk, pos]
      · simp
      · first | exact ⟨rfl, rfl⟩ | (simp only [go_sem, Nat.reduceBEq, Nat.reduceLT, Nat.reduceAdd, Nat.reduceLeDiff, Nat.reduceSub, Nat.reduceEqDiff, Int.reduceToNat, reduceCtorEq, ↓reduceIte]; done) | (simp [go_sem, Nat.reduceBEq, Nat.reduceLT, Nat.reduceAdd, Nat.reduceLeDiff, Nat.reduceSub, Nat.reduceEqDiff, Int.reduceToNat, reduceCtorEq, ↓reduceIte]; done) | (simp only [go_sem, Nat.reduceBEq, Nat.reduceLT, Nat.reduceAdd, Nat.reduceLeDiff, Nat.reduceSub, Nat.reduceEqDiff, Int.reduceToNat, reduceCtorEq, ↓reduceIte]; exact ⟨rfl, rfl⟩) | (simp_all [go_sem, Nat.reduceBEq, Nat.reduceLT, Nat.reduceAdd, Nat.reduceLeDiff, Nat.reduceSub, Nat.reduceEqDiff, Int.reduceToNat, reduceCtorEq, ↓reduceIte]; done)
    · replace h := bite_f h hc3
      refine awp_skip ?_
      (try simp only [Thn, InBlk, ↓reduceIte, Nat.reduceEqDiff])
      refine hK2 _ _ ?_
      clear hK2
      replace h := chk_some h
      obtain ⟨hp0, h⟩ := h
      refine awp_reg ftCOk [(0, .sl 2), (2, .pp 1 0), (4, .pp 3 0)] [.row false (.graphs a0), .box [.v (.int .i64 0), .v (.slice none 0 0)], .row true (.graphs y), .box [.v (.int .i64 ((y.getD 0 (0, [])).1)), .v (.slice none 0 0)]] ?_
      clear hp0
      refine awp_reg ftCOk [(0, .sl 2), (2, .pp 1 0), (4, .pp 3 0), (5, .v (.int .i64 0))] [.row false (.graphs a0), .box [.v (.int .i64 0), .v (.slice none 0 0)], .row true (.graphs y), .box [.v (.int .i64 ((y.getD 0 (0, [])).1)), .v (.slice none 0 0)]] ?_
      refine awp_seq fun K441 hK441 => ?_
      refine awp_reg ftCOk [(0, .sl 2), (2, .pp 1 0), (4, .pp 3 0), (5, .v (.int .i64 0)), (6, .v (.int .i64 0))] [.row false (.graphs a0), .box [.v (.int .i64 0), .v (.slice none 0 0)], .row true (.graphs y), .box [.v (.int .i64 ((y.getD 0 (0, [])).1)), .v (.slice none 0 0)]] ?_
      refine awp_block ?_
      replace h := bind_some h
      obtain ⟨x878, hx, h⟩ := h
      refine awp_loopL hx (fun ((t5, t6, t4_0, t4_1s) : Int × Int × Int × (List (Int × Int × Int))) => [(0, .sl 1), (2, .pp 2 0), (4, .pp 4 0), (5, .v (.int .i64 t5)), (6, .v (.int .i64 t6))]) (fun ((t5, t6, t4_0, t4_1s) : Int × Int × Int × (List (Int × Int × Int))) => [.row false (.graphs a0), .row true (.graphs y), .box [.v (.int .i64 0), .sl 3], .row true (.trips []), .box [.v (.int .i64 t4_0), .sl 5], .row true (.trips t4_1s)]) (Sum.elim (fun ((t5_1, t4_0_1, t4_1s_1) : Int × Int × (List (Int × Int × Int))) => Exit.exit 0) (fun (_ : Unit) => Exit.ret)) (Sum.elim (fun ((t5_1, t4_0_1, t4_1s_1) : Int × Int × (List (Int × Int × Int))) => [(2, .pp 1 0), (4, .pp 3 0), (5, .v (.int .i64 t5_1))]) (fun (_ : Unit) => [(2, .pp 1 0), (3, .v (.bool false))])) (Sum.elim (fun ((t5_1, t4_0_1, t4_1s_1) : Int × Int × (List (Int × Int × Int))) => [.row false (.graphs a0), .box [.v (.int .i64 0), .sl 2], .row true (.trips []), .box [.v (.int .i64 t4_0_1), .sl 4], .row true (.trips t4_1s_1)]) (fun (_ : Unit) => [.row false (.graphs a0), .box [.v (.int .i64 0), .sl 2], .row true (.trips [])])) ?_ ?_ ?_ ?_
      · rintro (⟨t5_1, t4_0_1, t4_1s_1⟩ | ⟨⟩) hy <;> cases hy
      · clear h hx
        refine Red.trans (Red.nilCell (o := 1) (i := 1) (.trips []) rfl rfl rfl) ?_
        refine Red.trans (Red.nilCell (o := 3) (i := 1) (.trips []) rfl rfl rfl) ?_
        exact Red.selA [0, 2, 1, 4, 3, 5] Red.auto
      · clear h hx
        rintro ⟨t5, t6, t4_0, t4_1s⟩ r h
        unfold spec_JoinParts_b1 at h
        try dsimp only at h
        try dsimp only
        refine awp_seq fun K777 hK777 => ?_
        refine awp_reg ftCOk [(0, .sl 1), (2, .pp 2 0), (4, .pp 4 0), (5, .v (.int .i64 t5)), (6, .v (.int .i64 t6)), (25, .v (.bool (decide (t6 < (y.length : Int)))))] [.row false (.graphs a0), .row true (.graphs y), .box [.v (.int .i64 0), .sl 3], .row true (.trips []), .box [.v (.int .i64 t4_0), .sl 5], .row true (.trips t4_1s)] ?_
        refine awp_cond (t := 25) rfl (fun hc778 => ?_) (fun hc778 => ?_)
        · replace h := bite_t h hc778
          refine awp_skip ?_
          (try simp only [Thn, InBlk, ↓reduceIte, Nat.reduceEqDiff])
          refine hK777 _ _ ?_
          clear hK777
          refine awp_seq fun K828 hK828 => ?_
          refine awp_block ?_
          refine awp_seq fun K831 hK831 => ?_
          replace h := chk_some h
          obtain ⟨hpt877, h⟩ := h
          refine awp_take 1 t6.toNat 1 (by rfl) (by exact hpt877) (by rfl) (by exact rfl) ?_
          clear hpt877
          replace h := chk_some h
          obtain ⟨hp0, h⟩ := h
          replace h := bind_some h
          obtain ⟨y_1, hr1, h⟩ := h
          try dsimp only at h
          replace h := chk_some h
          obtain ⟨hp2, h⟩ := h
          refine awp_to [(0, .sl 1), (2, .pp 2 0), (4, .pp 4 0), (5, .v (.int .i64 t5)), (6, .v (.int .i64 t6)), (43, .v (.bool ((!y_1) || ((y.getD t6.toNat (0, [])).1 != t4_0))))] [.row false (.graphs a0), .tak true (.graphs y) t6.toNat 1 (some 6), .box [.v (.int .i64 0), .sl 3], .row true (.trips []), .box [.v (.int .i64 t4_0), .sl 5], .row true (.trips t4_1s), .row true (.trips ((y.getD t6.toNat (0, [])).2))] ?_ ?_
          · clear h
            intro K hK
            refine awp_drawT mixed ftCOk (.free 0 (.one 1 (.one 2 (.one 3 (.one 4 (.one 5 (.one 6 (.free 7 (.free 8 (.free 12 (.two 9 13 (.free 10 (.two 11 13 (.one 13 (.one 14 (.one 15 .fin))) (.one 11 (.one 14 (.one 15 .fin))))) (.one 9 (.one 10 (.one 11 (.one 14 (.one 15 .fin)))))))))))))))) (by kernel_rfl) (by simp) ?_
            simp (maxSteps := 4000000) only [go_sem, Nat.reduceBEq, Nat.reduceLT, Nat.reduceAdd, Nat.reduceLeDiff, Nat.reduceSub, Nat.reduceEqDiff, Int.reduceToNat, reduceCtorEq, ↓reduceIte]
            repeat' (first | refine And.intro ?_ ?_ | intro hg)
            all_goals (try simp (disch := omega) only [wrap_fits])
            all_goals first
              | (refine hK _ _ ?_; exact Red.auto)
              | exact trivial
              | assumption
              | omega
              | exact wrap_fits (by omega) (by omega)
              | (have hq := hp2 (by first | assumption | (simp only [*, Bool.false_or, Bool.true_or, Bool.or_false, Bool.or_true, Bool.false_and, Bool.true_and, Bool.and_false, Bool.and_true, Bool.not_true, Bool.not_false, beq_self_eq_true]; done) | (simp_all; done)); omega)
              | (refine OpK_callA (k_spec_GraphValid ((y.getD t6.toNat (0, [])).1) ((y.getD t6.toNat (0, [])).2) (h := hr1)) [6] [] ?_
                 rintro x Hc' ⟨rfl, rfl⟩ hlen
                 simp (maxSteps := 4000000) only [go_sem, Nat.reduceBEq, Nat.reduceLT, Nat.reduceAdd, Nat.reduceLeDiff, Nat.reduceSub, Nat.reduceEqDiff, Int.reduceToNat, reduceCtorEq, ↓reduceIte]
                 repeat' (first | refine And.intro ?_ ?_ | intro hg)
                 all_goals (try simp (disch := omega) only [wrap_fits])
                 all_goals first
                   | (refine hK _ _ ?_; exact Red.auto)
                   | exact trivial
                   | assumption
                   | omega
                   | exact wrap_fits (by omega) (by omega)
                   | (have hq := hp2 (by first | assumption | (simp only [*, Bool.false_or, Bool.true_or, Bool.or_false, Bool.or_true, Bool.false_and, Bool.true_and, Bool.and_false, Bool.and_true, Bool.not_true, Bool.not_false, beq_self_eq_true]; done) | (simp_all; done)); omega)
                   | (simp (maxSteps := 4000000) only [go_sem, Nat.reduceBEq, Nat.reduceLT, Nat.reduceAdd, Nat.reduceLeDiff, Nat.reduceSub, Nat.reduceEqDiff, Int.reduceToNat, reduceCtorEq, ↓reduceIte]
                      repeat' (first | refine And.intro ?_ ?_ | intro hg)
                      all_goals (try simp (disch := omega) only [wrap_fits])
                      all_goals first | (refine hK _ _ ?_; exact Red.auto) | exact trivial | assumption | omega | exact wrap_fits (by omega) (by omega) | (have hq := hp2 (by first | assumption | (simp only [*, Bool.false_or, Bool.true_or, Bool.or_false, Bool.or_true, Bool.false_and, Bool.true_and, Bool.and_false, Bool.and_true, Bool.not_true, Bool.not_false, beq_self_eq_true]; done) | (simp_all; done)); omega))
                   | (simp_all; done)
                   | (simp_all; omega))
              | (simp_all; done)
              | (simp_all; omega)
          · clear hp0 hr1 hp2
            refine awp_cond (t := 43) rfl (fun hc832 => ?_) (fun hc832 => ?_)
            · replace h := bite_t h hc832
              refine awp_put 1 6 (by rfl) (by rfl) (Cont.setChild_self (by rfl)) (by exact rfl) ?_
              refine awp_reg ftCOk [(2, .pp 2 0), (3, .v (.bool false))] [.row false (.graphs a0), .row true (.graphs y), .box [.v (.int .i64 0), .v (.slice none 0 0)], .row true (.trips []), .box [.v (.int .i64 t4_0), .sl 5], .row true (.trips t4_1s), .view 1 (.trips ((y.getD t6.toNat (0, [])).2))] ?_
              refine awp_ret ?_
              (try simp only [Thn, InBlk, ↓reduceIte, Nat.reduceEqDiff])
              obtain rfl := Option.some.inj h
              refine LoopQ.out rfl ?_
              refine Red.trans (Red.nilCell (o := 2) (i := 1) (.trips []) rfl rfl rfl) ?_
              exact Red.selA [0, 2, 7] Red.auto
            · replace h := bite_f h hc832
              refine awp_skip ?_
              (try simp only [Thn, InBlk, ↓reduceIte, Nat.reduceEqDiff])
              refine hK831 _ _ ?_
              clear hK831
              refine awp_put 1 6 (by rfl) (by rfl) (Cont.setChild_self (by rfl)) (by exact rfl) ?_
              replace h := chk_some h
              obtain ⟨hpt876, h⟩ := h
              refine awp_take 1 t6.toNat 1 (by rfl) (by exact hpt876) (by rfl) (by exact rfl) ?_
              clear hpt876
              replace h := chk_some h
              obtain ⟨hp0, h⟩ := h
              replace h := chk_some h
              obtain ⟨hp1, h⟩ := h
              refine awp_reg ftCOk [(0, .sl 1), (2, .pp 2 0), (4, .pp 4 0), (5, .v (.int .i64 (t5 + (((y.getD t6.toNat (0, [])).2).length : Int)))), (6, .v (.int .i64 t6))] [.row false (.graphs a0), .tak true (.graphs y) t6.toNat 1 (some 7), .box [.v (.int .i64 0), .sl 3], .row true (.trips []), .box [.v (.int .i64 t4_0), .sl 5], .row true (.trips t4_1s), .dead, .row true (.trips ((y.getD t6.toNat (0, [])).2))] ?_
              clear hp0 hp1
              refine awp_put 1 7 (by rfl) (by rfl) (Cont.setChild_self (by rfl)) (by exact rfl) ?_
              refine awp_reg ftCOk [(0, .sl 1), (2, .pp 2 0), (4, .pp 4 0), (5, .v (.int .i64 (t5 + (((y.getD t6.toNat (0, [])).2).length : Int)))), (6, .v (.int .i64 t6)), (7, .v (.int .i64 0))] [.row false (.graphs a0), .row true (.graphs y), .box [.v (.int .i64 0), .sl 3], .row true (.trips []), .box [.v (.int .i64 t4_0), .sl 5], .row true (.trips t4_1s), .dead, .view 1 (.trips ((y.getD t6.toNat (0, [])).2))] ?_
              refine awp_block ?_
              replace h := bind_some h
              obtain ⟨x875, hx, h⟩ := h
              refine awp_loopL hx (fun ((t7, t4_0_2, t4_1s_2) : Int × Int × (List (Int × Int × Int))) => [(0, .sl 1), (2, .pp 2 0), (4, .pp 4 0), (5, .v (.int .i64 (t5 + (((y.getD t6.toNat (0, [])).2).length : Int)))), (6, .v (.int .i64 t6)), (7, .v (.int .i64 t7))]) (fun ((t7, t4_0_2, t4_1s_2) : Int × Int × (List (Int × Int × Int))) => [.row false (.graphs a0), .row true (.graphs y), .box [.v (.int .i64 0), .sl 3], .row true (.trips []), .box [.v (.int .i64 t4_0_2), .sl 5], .row true (.trips t4_1s_2)]) (Sum.elim (fun ((t4_0_3, t4_1s_3) : Int × (List (Int × Int × Int))) => Exit.exit 2) (fun (_ : Unit) => Exit.ret)) (Sum.elim (fun ((t4_0_3, t4_1s_3) : Int × (List (Int × Int × Int))) => [(0, .sl 1), (2, .pp 2 0), (4, .pp 4 0), (5, .v (.int .i64 (t5 + (((y.getD t6.toNat (0, [])).2).length : Int)))), (6, .v (.int .i64 t6))]) (fun (_ : Unit) => [(2, .pp 1 0), (3, .v (.bool false))])) (Sum.elim (fun ((t4_0_3, t4_1s_3) : Int × (List (Int × Int × Int))) => [.row false (.graphs a0), .row true (.graphs y), .box [.v (.int .i64 0), .sl 3], .row true (.trips []), .box [.v (.int .i64 t4_0_3), .sl 5], .row true (.trips t4_1s_3)]) (fun (_ : Unit) => [.row false (.graphs a0), .box [.v (.int .i64 0), .sl 2], .row true (.trips [])])) ?_ ?_ ?_ ?_
              · rintro (⟨t4_0_3, t4_1s_3⟩ | ⟨⟩) hy <;> cases hy
              · clear h hx
                exact Red.selA [0, 1, 2, 3, 4, 5] Red.auto
              · clear h hx
                rintro ⟨t7, t4_0_2, t4_1s_2⟩ r h
                unfold spec_JoinParts_b0 at h
                try dsimp only at h
                try dsimp only
                refine awp_seq fun K863 hK863 => ?_
                replace h := chk_some h
                obtain ⟨hpt874, h⟩ := h
                refine awp_take 1 t6.toNat 1 (by rfl) (by exact hpt874) (by rfl) (by exact rfl) ?_
                clear hpt874
                replace h := chk_some h
                obtain ⟨hp0, h⟩ := h
                refine awp_reg ftCOk [(0, .sl 1), (2, .pp 2 0), (4, .pp 4 0), (5, .v (.int .i64 (t5 + (((y.getD t6.toNat (0, [])).2).length : Int)))), (6, .v (.int .i64 t6)), (7, .v (.int .i64 t7)), (60, .v (.bool (decide (t7 < (((y.getD t6.toNat (0, [])).2).length : Int)))))] [.row false (.graphs a0), .tak true (.graphs y) t6.toNat 1 (some 6), .box [.v (.int .i64 0), .sl 3], .row true (.trips []), .box [.v (.int .i64 t4_0_2), .sl 5], .row true (.trips t4_1s_2), .row true (.trips ((y.getD t6.toNat (0, [])).2))] ?_
                clear hp0
                refine awp_cond (t := 60) rfl (fun hc864 => ?_) (fun hc864 => ?_)
                · replace h := bite_t h hc864
                  refine awp_skip ?_
                  (try simp only [Thn, InBlk, ↓reduceIte, Nat.reduceEqDiff])
                  refine hK863 _ _ ?_
                  clear hK863
                  refine awp_seq fun K869 hK869 => ?_
                  refine awp_block ?_
                  refine awp_put 1 6 (by rfl) (by rfl) (Cont.setChild_self (by rfl)) (by exact rfl) ?_
                  replace h := chk_some h
                  obtain ⟨hpt873, h⟩ := h
                  refine awp_take 1 t6.toNat 1 (by rfl) (by exact hpt873) (by rfl) (by exact rfl) ?_
                  clear hpt873
                  replace h := chk_some h
                  obtain ⟨hp0, h⟩ := h
                  replace h := chk_some h
                  obtain ⟨hp1, h⟩ := h
                  replace h := bind_some h
                  obtain ⟨⟨y_2, y_3, y_4⟩, hr2, h⟩ := h
                  try dsimp only at h
                  refine awp_to [(0, .sl 1), (2, .pp 2 0), (4, .pp 4 0), (5, .v (.int .i64 (t5 + (((y.getD t6.toNat (0, [])).2).length : Int)))), (6, .v (.int .i64 t6)), (7, .v (.int .i64 t7)), (8, .pp 9 0), (9, .v (.bool y_4))] [.row false (.graphs a0), .tak true (.graphs y) t6.toNat 1 (some 7), .box [.v (.int .i64 0), .sl 3], .row true (.trips []), .box [.v (.int .i64 t4_0_2), .sl 5], .row true (.trips t4_1s_2), .dead, .row true (.trips ((y.getD t6.toNat (0, [])).2)), .row true (.trips y_3), .box [.v (.int .i64 y_2), .sl 8]] ?_ ?_
                  · clear h
                    intro K hK
                    refine awp_drawL [0, 1, 2, 3, 4, 5, 6, 7] [1, 2, 6] 13 lz0_spec_JoinParts mixed ftCOk (by kernel_rfl) (by first | rfl | kernel_rfl) (by rfl) (by simp) fun L hL => ?_
                    have n9 : L 0 lz1_spec_JoinParts [(0, .sl 1), (2, .pp 2 0), (4, .pp 4 0), (5, .v (.int .i64 (t5 + (((y.getD t6.toNat (0, [])).2).length : Int)))), (6, .v (.int .i64 t6)), (7, .v (.int .i64 t7)), (8, .pp 9 0), (9, .v (.bool y_4)), (60, .v (.bool (decide (t7 < (((y.getD t6.toNat (0, [])).2).length : Int))))), (63, .tup [.agg [.v (.int .i64 y_2), .sl 8], .v (.bool y_4)]), (64, .agg [.v (.int .i64 t4_0_2), .sl 5]), (65, .sl 1), (66, .v (.int .i64 t6)), (67, .ep 1 t6.toNat 2 0), (68, .ep 1 t6.toNat 2 1), (69, .sl 7), (70, .v (.int .i64 t7)), (71, .ep 7 t7.toNat 3 0), (72, .agg [.v (.int .i64 ((((y.getD t6.toNat (0, [])).2).getD t7.toNat (0, 0, 0)).1)), .v (.int .i64 ((((y.getD t6.toNat (0, [])).2).getD t7.toNat (0, 0, 0)).2.1)), .v (.int .i64 ((((y.getD t6.toNat (0, [])).2).getD t7.toNat (0, 0, 0)).2.2))]), (73, .tup [.agg [.v (.int .i64 y_2), .sl 8], .v (.bool y_4)]), (74, .agg [.v (.int .i64 y_2), .sl 8]), (75, .v (.bool y_4))] [.row false (.graphs a0), .tak true (.graphs y) t6.toNat 1 (some 7), .box [.v (.int .i64 0), .sl 3], .row true (.trips []), .box [.v (.int .i64 t4_0_2), .sl 5], .row true (.trips t4_1s_2), .dead, .row true (.trips ((y.getD t6.toNat (0, [])).2)), .row true (.trips y_3), .box [.v (.int .i64 y_2), .sl 8]] := by
                      exact hL.fin (by kernel_rfl) (hK _ _ Red.auto)
                    have n8 : L 2 lz2_spec_JoinParts [(0, .sl 1), (2, .pp 2 0), (4, .pp 4 0), (5, .v (.int .i64 (t5 + (((y.getD t6.toNat (0, [])).2).length : Int)))), (6, .v (.int .i64 t6)), (7, .v (.int .i64 t7)), (8, .pp 9 0), (60, .v (.bool (decide (t7 < (((y.getD t6.toNat (0, [])).2).length : Int))))), (63, .tup [.agg [.v (.int .i64 y_2), .sl 8], .v (.bool y_4)]), (64, .agg [.v (.int .i64 t4_0_2), .sl 5]), (65, .sl 1), (66, .v (.int .i64 t6)), (67, .ep 1 t6.toNat 2 0), (68, .ep 1 t6.toNat 2 1), (69, .sl 7), (70, .v (.int .i64 t7)), (71, .ep 7 t7.toNat 3 0), (72, .agg [.v (.int .i64 ((((y.getD t6.toNat (0, [])).2).getD t7.toNat (0, 0, 0)).1)), .v (.int .i64 ((((y.getD t6.toNat (0, [])).2).getD t7.toNat (0, 0, 0)).2.1)), .v (.int .i64 ((((y.getD t6.toNat (0, [])).2).getD t7.toNat (0, 0, 0)).2.2))]), (73, .tup [.agg [.v (.int .i64 y_2), .sl 8], .v (.bool y_4)]), (74, .agg [.v (.int .i64 y_2), .sl 8]), (75, .v (.bool y_4))] [.row false (.graphs a0), .tak true (.graphs y) t6.toNat 1 (some 7), .box [.v (.int .i64 0), .sl 3], .row true (.trips []), .box [.v (.int .i64 t4_0_2), .sl 5], .row true (.trips t4_1s_2), .dead, .row true (.trips ((y.getD t6.toNat (0, [])).2)), .row true (.trips y_3), .box [.v (.int .i64 0), .v (.slice none 0 0)]] := by
                      refine hL.step [(14, [15], 0, lz1_spec_JoinParts)] (by kernel_rfl) ⟨?_, trivial⟩
                      · exact hL.edge n9
                    have n7 : L 3 lz3_spec_JoinParts [(0, .sl 1), (2, .pp 2 0), (4, .pp 4 0), (5, .v (.int .i64 (t5 + (((y.getD t6.toNat (0, [])).2).length : Int)))), (6, .v (.int .i64 t6)), (7, .v (.int .i64 t7)), (60, .v (.bool (decide (t7 < (((y.getD t6.toNat (0, [])).2).length : Int))))), (63, .tup [.agg [.v (.int .i64 y_2), .sl 8], .v (.bool y_4)]), (64, .agg [.v (.int .i64 t4_0_2), .sl 5]), (65, .sl 1), (66, .v (.int .i64 t6)), (67, .ep 1 t6.toNat 2 0), (68, .ep 1 t6.toNat 2 1), (69, .sl 7), (70, .v (.int .i64 t7)), (71, .ep 7 t7.toNat 3 0), (72, .agg [.v (.int .i64 ((((y.getD t6.toNat (0, [])).2).getD t7.toNat (0, 0, 0)).1)), .v (.int .i64 ((((y.getD t6.toNat (0, [])).2).getD t7.toNat (0, 0, 0)).2.1)), .v (.int .i64 ((((y.getD t6.toNat (0, [])).2).getD t7.toNat (0, 0, 0)).2.2))]), (73, .tup [.agg [.v (.int .i64 y_2), .sl 8], .v (.bool y_4)]), (74, .agg [.v (.int .i64 y_2), .sl 8]), (75, .v (.bool y_4))] [.row false (.graphs a0), .tak true (.graphs y) t6.toNat 1 (some 7), .box [.v (.int .i64 0), .sl 3], .row true (.trips []), .box [.v (.int .i64 t4_0_2), .sl 5], .row true (.trips t4_1s_2), .dead, .row true (.trips ((y.getD t6.toNat (0, [])).2)), .row true (.trips y_3)] := by
                      refine hL.step [(13, [], 2, lz2_spec_JoinParts)] (by kernel_rfl) ⟨?_, trivial⟩
                      · exact hL.edge n8
                    have n10 : L 5 lz4_spec_JoinParts [(0, .sl 1), (2, .pp 2 0), (4, .pp 4 0), (5, .v (.int .i64 (t5 + (((y.getD t6.toNat (0, [])).2).length : Int)))), (6, .v (.int .i64 t6)), (7, .v (.int .i64 t7)), (8, .pp 9 0), (60, .v (.bool (decide (t7 < (((y.getD t6.toNat (0, [])).2).length : Int))))), (64, .agg [.v (.int .i64 t4_0_2), .sl 5]), (65, .sl 1), (66, .v (.int .i64 t6)), (67, .ep 1 t6.toNat 2 0), (68, .ep 1 t6.toNat 2 1), (69, .sl 7), (70, .v (.int .i64 t7)), (71, .ep 7 t7.toNat 3 0), (72, .agg [.v (.int .i64 ((((y.getD t6.toNat (0, [])).2).getD t7.toNat (0, 0, 0)).1)), .v (.int .i64 ((((y.getD t6.toNat (0, [])).2).getD t7.toNat (0, 0, 0)).2.1)), .v (.int .i64 ((((y.getD t6.toNat (0, [])).2).getD t7.toNat (0, 0, 0)).2.2))]), (73, .tup [.agg [.v (.int .i64 y_2), .sl 8], .v (.bool y_4)])] [.row false (.graphs a0), .tak true (.graphs y) t6.toNat 1 (some 7), .box [.v (.int .i64 0), .sl 3], .row true (.trips []), .box [.v (.int .i64 t4_0_2), .sl 5], .row true (.trips t4_1s_2), .dead, .row true (.trips ((y.getD t6.toNat (0, [])).2)), .row true (.trips y_3), .box [.v (.int .i64 0), .v (.slice none 0 0)]] := by
                      refine hL.step [(10, [11, 12], 2, lz2_spec_JoinParts)] (by kernel_rfl) ⟨?_, trivial⟩
                      · exact hL.edge n8
                    have n6 : L 6 lz5_spec_JoinParts [(0, .sl 1), (2, .pp 2 0), (4, .pp 4 0), (5, .v (.int .i64 (t5 + (((y.getD t6.toNat (0, [])).2).length : Int)))), (6, .v (.int .i64 t6)), (7, .v (.int .i64 t7)), (60, .v (.bool (decide (t7 < (((y.getD t6.toNat (0, [])).2).length : Int))))), (64, .agg [.v (.int .i64 t4_0_2), .sl 5]), (65, .sl 1), (66, .v (.int .i64 t6)), (67, .ep 1 t6.toNat 2 0), (68, .ep 1 t6.toNat 2 1), (69, .sl 7), (70, .v (.int .i64 t7)), (71, .ep 7 t7.toNat 3 0), (72, .agg [.v (.int .i64 ((((y.getD t6.toNat (0, [])).2).getD t7.toNat (0, 0, 0)).1)), .v (.int .i64 ((((y.getD t6.toNat (0, [])).2).getD t7.toNat (0, 0, 0)).2.1)), .v (.int .i64 ((((y.getD t6.toNat (0, [])).2).getD t7.toNat (0, 0, 0)).2.2))]), (73, .tup [.agg [.v (.int .i64 y_2), .sl 8], .v (.bool y_4)])] [.row false (.graphs a0), .tak true (.graphs y) t6.toNat 1 (some 7), .box [.v (.int .i64 0), .sl 3], .row true (.trips []), .box [.v (.int .i64 t4_0_2), .sl 5], .row true (.trips t4_1s_2), .dead, .row true (.trips ((y.getD t6.toNat (0, [])).2)), .row true (.trips y_3)] := by
                      refine hL.step [(10, [11, 12], 3, lz3_spec_JoinParts), (13, [], 5, lz4_spec_JoinParts)] (by kernel_rfl) ⟨?_, ?_, trivial⟩
                      · exact hL.edge n7
                      · exact hL.edge n10
                    have n11 : L 6 lz6_spec_JoinParts [(0, .sl 1), (2, .pp 2 0), (4, .pp 4 0), (5, .v (.int .i64 (t5 + (((y.getD t6.toNat (0, [])).2).length : Int)))), (6, .v (.int .i64 t6)), (7, .v (.int .i64 t7)), (8, .pp 8 0), (60, .v (.bool (decide (t7 < (((y.getD t6.toNat (0, [])).2).length : Int))))), (64, .agg [.v (.int .i64 t4_0_2), .sl 5]), (65, .sl 1), (66, .v (.int .i64 t6)), (67, .ep 1 t6.toNat 2 0), (68, .ep 1 t6.toNat 2 1), (69, .sl 7), (70, .v (.int .i64 t7)), (71, .ep 7 t7.toNat 3 0), (72, .agg [.v (.int .i64 ((((y.getD t6.toNat (0, [])).2).getD t7.toNat (0, 0, 0)).1)), .v (.int .i64 ((((y.getD t6.toNat (0, [])).2).getD t7.toNat (0, 0, 0)).2.1)), .v (.int .i64 ((((y.getD t6.toNat (0, [])).2).getD t7.toNat (0, 0, 0)).2.2))])] [.row false (.graphs a0), .tak true (.graphs y) t6.toNat 1 (some 7), .box [.v (.int .i64 0), .sl 3], .row true (.trips []), .box [.v (.int .i64 t4_0_2), .sl 5], .row true (.trips t4_1s_2), .dead, .row true (.trips ((y.getD t6.toNat (0, [])).2)), .box [.v (.int .i64 0), .v (.slice none 0 0)]] := by
                      refine hL.step [(9, [], 5, lz4_spec_JoinParts)] (by kernel_rfl) ⟨?_, trivial⟩
                      · simp (maxSteps := 4000000) only [go_sem, Nat.reduceBEq, Nat.reduceLT, Nat.reduceAdd, Nat.reduceLeDiff, Nat.reduceSub, Nat.reduceEqDiff, Int.reduceToNat, reduceCtorEq, ↓reduceIte]
                        repeat' (first | refine And.intro ?_ ?_ | intro hg)
                        all_goals (try simp (disch := omega) only [wrap_fits])
                        all_goals first
                          | (refine hL.red ?_ n10; exact Red.selA [0, 1, 2, 3, 4, 5, 6, 7, 9, 8] Red.auto)
                          | exact trivial
                          | assumption
                          | omega
                          | exact wrap_fits (by omega) (by omega)
                          | (refine OpK_callA (k_spec_AddEdge t4_0_2 t4_1s_2 ((((y.getD t6.toNat (0, [])).2).getD t7.toNat (0, 0, 0)).1) ((((y.getD t6.toNat (0, [])).2).getD t7.toNat (0, 0, 0)).2.1) ((((y.getD t6.toNat (0, [])).2).getD t7.toNat (0, 0, 0)).2.2) (h := hr2)) [5] [] ?_
                             rintro x Hc' ⟨rfl, rfl⟩ hlen
                             simp (maxSteps := 4000000) only [go_sem, Nat.reduceBEq, Nat.reduceLT, Nat.reduceAdd, Nat.reduceLeDiff, Nat.reduceSub, Nat.reduceEqDiff, Int.reduceToNat, reduceCtorEq, ↓reduceIte]
                             repeat' (first | refine And.intro ?_ ?_ | intro hg)
                             all_goals (try simp (disch := omega) only [wrap_fits])
                             all_goals first
                               | (refine hL.red ?_ n10; exact Red.selA [0, 1, 2, 3, 4, 5, 6, 7, 9, 8] Red.auto)
                               | exact trivial
                               | assumption
                               | omega
                               | exact wrap_fits (by omega) (by omega)
                               | (simp_all; done)
                               | (simp_all; omega))
                          | (simp (maxSteps := 4000000) only [go_sem, Nat.reduceBEq, Nat.reduceLT, Nat.reduceAdd, Nat.reduceLeDiff, Nat.reduceSub, Nat.reduceEqDiff, Int.reduceToNat, reduceCtorEq, ↓reduceIte]
                             repeat' (first | refine And.intro ?_ ?_ | intro hg)
                             all_goals (try simp (disch := omega) only [wrap_fits])
                             all_goals first | (refine hL.red ?_ n10; exact Red.selA [0, 1, 2, 3, 4, 5, 6, 7, 9, 8] Red.auto) | exact trivial | assumption | omega | exact wrap_fits (by omega) (by omega))
                          | (simp_all; done)
                          | (simp_all; omega)
                    have n5 : L 7 lz7_spec_JoinParts [(0, .sl 1), (2, .pp 2 0), (4, .pp 4 0), (5, .v (.int .i64 (t5 + (((y.getD t6.toNat (0, [])).2).length : Int)))), (6, .v (.int .i64 t6)), (7, .v (.int .i64 t7)), (60, .v (.bool (decide (t7 < (((y.getD t6.toNat (0, [])).2).length : Int))))), (64, .agg [.v (.int .i64 t4_0_2), .sl 5]), (65, .sl 1), (66, .v (.int .i64 t6)), (67, .ep 1 t6.toNat 2 0), (68, .ep 1 t6.toNat 2 1), (69, .sl 7), (70, .v (.int .i64 t7)), (71, .ep 7 t7.toNat 3 0), (72, .agg [.v (.int .i64 ((((y.getD t6.toNat (0, [])).2).getD t7.toNat (0, 0, 0)).1)), .v (.int .i64 ((((y.getD t6.toNat (0, [])).2).getD t7.toNat (0, 0, 0)).2.1)), .v (.int .i64 ((((y.getD t6.toNat (0, [])).2).getD t7.toNat (0, 0, 0)).2.2))])] [.row false (.graphs a0), .tak true (.graphs y) t6.toNat 1 (some 7), .box [.v (.int .i64 0), .sl 3], .row true (.trips []), .box [.v (.int .i64 t4_0_2), .sl 5], .row true (.trips t4_1s_2), .dead, .row true (.trips ((y.getD t6.toNat (0, [])).2))] := by
                      refine hL.step [(9, [], 6, lz5_spec_JoinParts), (13, [], 6, lz6_spec_JoinParts)] (by kernel_rfl) ⟨?_, ?_, trivial⟩
                      · simp (maxSteps := 4000000) only [go_sem, Nat.reduceBEq, Nat.reduceLT, Nat.reduceAdd, Nat.reduceLeDiff, Nat.reduceSub, Nat.reduceEqDiff, Int.reduceToNat, reduceCtorEq, ↓reduceIte]
                        repeat' (first | refine And.intro ?_ ?_ | intro hg)
                        all_goals (try simp (disch := omega) only [wrap_fits])
                        all_goals first
                          | (refine hL.red ?_ n6; exact Red.auto)
                          | exact trivial
                          | assumption
                          | omega
                          | exact wrap_fits (by omega) (by omega)
                          | (refine OpK_callA (k_spec_AddEdge t4_0_2 t4_1s_2 ((((y.getD t6.toNat (0, [])).2).getD t7.toNat (0, 0, 0)).1) ((((y.getD t6.toNat (0, [])).2).getD t7.toNat (0, 0, 0)).2.1) ((((y.getD t6.toNat (0, [])).2).getD t7.toNat (0, 0, 0)).2.2) (h := hr2)) [5] [] ?_
                             rintro x Hc' ⟨rfl, rfl⟩ hlen
                             simp (maxSteps := 4000000) only [go_sem, Nat.reduceBEq, Nat.reduceLT, Nat.reduceAdd, Nat.reduceLeDiff, Nat.reduceSub, Nat.reduceEqDiff, Int.reduceToNat, reduceCtorEq, ↓reduceIte]
                             repeat' (first | refine And.intro ?_ ?_ | intro hg)
                             all_goals (try simp (disch := omega) only [wrap_fits])
                             all_goals first
                               | (refine hL.red ?_ n6; exact Red.auto)
                               | exact trivial
                               | assumption
                               | omega
                               | exact wrap_fits (by omega) (by omega)
                               | (simp_all; done)
                               | (simp_all; omega))
                          | (simp (maxSteps := 4000000) only [go_sem, Nat.reduceBEq, Nat.reduceLT, Nat.reduceAdd, Nat.reduceLeDiff, Nat.reduceSub, Nat.reduceEqDiff, Int.reduceToNat, reduceCtorEq, ↓reduceIte]
                             repeat' (first | refine And.intro ?_ ?_ | intro hg)
                             all_goals (try simp (disch := omega) only [wrap_fits])
                             all_goals first | (refine hL.red ?_ n6; exact Red.auto) | exact trivial | assumption | omega | exact wrap_fits (by omega) (by omega))
                          | (simp_all; done)
                          | (simp_all; omega)
                      · exact hL.edge n11
                    have n12 : L 7 lz8_spec_JoinParts [(0, .sl 1), (2, .pp 2 0), (4, .pp 4 0), (5, .v (.int .i64 (t5 + (((y.getD t6.toNat (0, [])).2).length : Int)))), (6, .v (.int .i64 t6)), (7, .v (.int .i64 t7)), (8, .pp 8 0), (60, .v (.bool (decide (t7 < (((y.getD t6.toNat (0, [])).2).length : Int))))), (64, .agg [.v (.int .i64 t4_0_2), .sl 5]), (65, .sl 1), (66, .v (.int .i64 t6)), (67, .ep 1 t6.toNat 2 0), (68, .ep 1 t6.toNat 2 1), (69, .sl 7), (70, .v (.int .i64 t7)), (71, .ep 7 t7.toNat 3 0)] [.row false (.graphs a0), .tak true (.graphs y) t6.toNat 1 (some 7), .box [.v (.int .i64 0), .sl 3], .row true (.trips []), .box [.v (.int .i64 t4_0_2), .sl 5], .row true (.trips t4_1s_2), .dead, .row true (.trips ((y.getD t6.toNat (0, [])).2)), .box [.v (.int .i64 0), .v (.slice none 0 0)]] := by
                      refine hL.step [(8, [], 6, lz6_spec_JoinParts)] (by kernel_rfl) ⟨?_, trivial⟩
                      · exact hL.edge n11
                    have n4 : L 8 lz9_spec_JoinParts [(0, .sl 1), (2, .pp 2 0), (4, .pp 4 0), (5, .v (.int .i64 (t5 + (((y.getD t6.toNat (0, [])).2).length : Int)))), (6, .v (.int .i64 t6)), (7, .v (.int .i64 t7)), (60, .v (.bool (decide (t7 < (((y.getD t6.toNat (0, [])).2).length : Int))))), (64, .agg [.v (.int .i64 t4_0_2), .sl 5]), (65, .sl 1), (66, .v (.int .i64 t6)), (67, .ep 1 t6.toNat 2 0), (68, .ep 1 t6.toNat 2 1), (69, .sl 7), (70, .v (.int .i64 t7)), (71, .ep 7 t7.toNat 3 0)] [.row false (.graphs a0), .tak true (.graphs y) t6.toNat 1 (some 7), .box [.v (.int .i64 0), .sl 3], .row true (.trips []), .box [.v (.int .i64 t4_0_2), .sl 5], .row true (.trips t4_1s_2), .dead, .row true (.trips ((y.getD t6.toNat (0, [])).2))] := by
                      refine hL.step [(8, [], 7, lz7_spec_JoinParts), (13, [], 7, lz8_spec_JoinParts)] (by kernel_rfl) ⟨?_, ?_, trivial⟩
                      · exact hL.edge n5
                      · exact hL.edge n12
                    have n13 : L 8 lz10_spec_JoinParts [(0, .sl 1), (2, .pp 2 0), (4, .pp 4 0), (5, .v (.int .i64 (t5 + (((y.getD t6.toNat (0, [])).2).length : Int)))), (6, .v (.int .i64 t6)), (7, .v (.int .i64 t7)), (8, .pp 8 0), (60, .v (.bool (decide (t7 < (((y.getD t6.toNat (0, [])).2).length : Int))))), (64, .agg [.v (.int .i64 t4_0_2), .sl 5]), (65, .sl 1), (66, .v (.int .i64 t6)), (67, .ep 1 t6.toNat 2 0), (68, .ep 1 t6.toNat 2 1), (69, .sl 7), (70, .v (.int .i64 t7))] [.row false (.graphs a0), .tak true (.graphs y) t6.toNat 1 (some 7), .box [.v (.int .i64 0), .sl 3], .row true (.trips []), .box [.v (.int .i64 t4_0_2), .sl 5], .row true (.trips t4_1s_2), .dead, .row true (.trips ((y.getD t6.toNat (0, [])).2)), .box [.v (.int .i64 0), .v (.slice none 0 0)]] := by
                      refine hL.step [(7, [], 7, lz8_spec_JoinParts)] (by kernel_rfl) ⟨?_, trivial⟩
                      · exact hL.edge n12
                    have n3 : L 9 lz11_spec_JoinParts [(0, .sl 1), (2, .pp 2 0), (4, .pp 4 0), (5, .v (.int .i64 (t5 + (((y.getD t6.toNat (0, [])).2).length : Int)))), (6, .v (.int .i64 t6)), (7, .v (.int .i64 t7)), (60, .v (.bool (decide (t7 < (((y.getD t6.toNat (0, [])).2).length : Int))))), (64, .agg [.v (.int .i64 t4_0_2), .sl 5]), (65, .sl 1), (66, .v (.int .i64 t6)), (67, .ep 1 t6.toNat 2 0), (68, .ep 1 t6.toNat 2 1), (69, .sl 7), (70, .v (.int .i64 t7))] [.row false (.graphs a0), .tak true (.graphs y) t6.toNat 1 (some 7), .box [.v (.int .i64 0), .sl 3], .row true (.trips []), .box [.v (.int .i64 t4_0_2), .sl 5], .row true (.trips t4_1s_2), .dead, .row true (.trips ((y.getD t6.toNat (0, [])).2))] := by
                      refine hL.step [(7, [], 8, lz9_spec_JoinParts), (13, [], 8, lz10_spec_JoinParts)] (by kernel_rfl) ⟨?_, ?_, trivial⟩
                      · exact hL.edge n4
                      · exact hL.edge n13
                    have n14 : L 9 lz12_spec_JoinParts [(0, .sl 1), (2, .pp 2 0), (4, .pp 4 0), (5, .v (.int .i64 (t5 + (((y.getD t6.toNat (0, [])).2).length : Int)))), (6, .v (.int .i64 t6)), (7, .v (.int .i64 t7)), (8, .pp 8 0), (60, .v (.bool (decide (t7 < (((y.getD t6.toNat (0, [])).2).length : Int))))), (64, .agg [.v (.int .i64 t4_0_2), .sl 5]), (65, .sl 1), (66, .v (.int .i64 t6)), (67, .ep 1 t6.toNat 2 0), (68, .ep 1 t6.toNat 2 1), (70, .v (.int .i64 t7))] [.row false (.graphs a0), .tak true (.graphs y) t6.toNat 1 (some 7), .box [.v (.int .i64 0), .sl 3], .row true (.trips []), .box [.v (.int .i64 t4_0_2), .sl 5], .row true (.trips t4_1s_2), .dead, .row true (.trips ((y.getD t6.toNat (0, [])).2)), .box [.v (.int .i64 0), .v (.slice none 0 0)]] := by
                      refine hL.step [(5, [], 8, lz10_spec_JoinParts)] (by kernel_rfl) ⟨?_, trivial⟩
                      · exact hL.edge n13
                    have n2 : L 10 lz13_spec_JoinParts [(0, .sl 1), (2, .pp 2 0), (4, .pp 4 0), (5, .v (.int .i64 (t5 + (((y.getD t6.toNat (0, [])).2).length : Int)))), (6, .v (.int .i64 t6)), (7, .v (.int .i64 t7)), (60, .v (.bool (decide (t7 < (((y.getD t6.toNat (0, [])).2).length : Int))))), (64, .agg [.v (.int .i64 t4_0_2), .sl 5]), (65, .sl 1), (66, .v (.int .i64 t6)), (67, .ep 1 t6.toNat 2 0), (68, .ep 1 t6.toNat 2 1), (70, .v (.int .i64 t7))] [.row false (.graphs a0), .tak true (.graphs y) t6.toNat 1 (some 7), .box [.v (.int .i64 0), .sl 3], .row true (.trips []), .box [.v (.int .i64 t4_0_2), .sl 5], .row true (.trips t4_1s_2), .dead, .row true (.trips ((y.getD t6.toNat (0, [])).2))] := by
                      refine hL.step [(5, [], 9, lz11_spec_JoinParts), (13, [], 9, lz12_spec_JoinParts)] (by kernel_rfl) ⟨?_, ?_, trivial⟩
                      · exact hL.edge n3
                      · exact hL.edge n14
                    have n15 : L 11 lz14_spec_JoinParts [(0, .sl 1), (2, .pp 2 0), (4, .pp 4 0), (5, .v (.int .i64 (t5 + (((y.getD t6.toNat (0, [])).2).length : Int)))), (6, .v (.int .i64 t6)), (7, .v (.int .i64 t7)), (8, .pp 8 0), (60, .v (.bool (decide (t7 < (((y.getD t6.toNat (0, [])).2).length : Int))))), (64, .agg [.v (.int .i64 t4_0_2), .sl 5]), (65, .sl 1), (66, .v (.int .i64 t6)), (70, .v (.int .i64 t7))] [.row false (.graphs a0), .tak true (.graphs y) t6.toNat 1 (some 7), .box [.v (.int .i64 0), .sl 3], .row true (.trips []), .box [.v (.int .i64 t4_0_2), .sl 5], .row true (.trips t4_1s_2), .dead, .row true (.trips ((y.getD t6.toNat (0, [])).2)), .box [.v (.int .i64 0), .v (.slice none 0 0)]] := by
                      refine hL.step [(3, [4], 9, lz12_spec_JoinParts)] (by kernel_rfl) ⟨?_, trivial⟩
                      · exact hL.edge n14
                    have n1 : L 12 lz15_spec_JoinParts [(0, .sl 1), (2, .pp 2 0), (4, .pp 4 0), (5, .v (.int .i64 (t5 + (((y.getD t6.toNat (0, [])).2).length : Int)))), (6, .v (.int .i64 t6)), (7, .v (.int .i64 t7)), (60, .v (.bool (decide (t7 < (((y.getD t6.toNat (0, [])).2).length : Int))))), (64, .agg [.v (.int .i64 t4_0_2), .sl 5]), (65, .sl 1), (66, .v (.int .i64 t6)), (70, .v (.int .i64 t7))] [.row false (.graphs a0), .tak true (.graphs y) t6.toNat 1 (some 7), .box [.v (.int .i64 0), .sl 3], .row true (.trips []), .box [.v (.int .i64 t4_0_2), .sl 5], .row true (.trips t4_1s_2), .dead, .row true (.trips ((y.getD t6.toNat (0, [])).2))] := by
                      refine hL.step [(3, [4], 10, lz13_spec_JoinParts), (13, [], 11, lz14_spec_JoinParts)] (by kernel_rfl) ⟨?_, ?_, trivial⟩
                      · exact hL.edge n2
                      · exact hL.edge n15
                    have n20 : L 7 lz16_spec_JoinParts [(0, .sl 1), (2, .pp 2 0), (4, .pp 4 0), (5, .v (.int .i64 (t5 + (((y.getD t6.toNat (0, [])).2).length : Int)))), (6, .v (.int .i64 t6)), (7, .v (.int .i64 t7)), (8, .pp 8 0), (60, .v (.bool (decide (t7 < (((y.getD t6.toNat (0, [])).2).length : Int))))), (65, .sl 1), (66, .v (.int .i64 t6)), (67, .ep 1 t6.toNat 2 0), (68, .ep 1 t6.toNat 2 1), (69, .sl 7), (70, .v (.int .i64 t7)), (71, .ep 7 t7.toNat 3 0), (72, .agg [.v (.int .i64 ((((y.getD t6.toNat (0, [])).2).getD t7.toNat (0, 0, 0)).1)), .v (.int .i64 ((((y.getD t6.toNat (0, [])).2).getD t7.toNat (0, 0, 0)).2.1)), .v (.int .i64 ((((y.getD t6.toNat (0, [])).2).getD t7.toNat (0, 0, 0)).2.2))])] [.row false (.graphs a0), .tak true (.graphs y) t6.toNat 1 (some 7), .box [.v (.int .i64 0), .sl 3], .row true (.trips []), .box [.v (.int .i64 t4_0_2), .sl 5], .row true (.trips t4_1s_2), .dead, .row true (.trips ((y.getD t6.toNat (0, [])).2)), .box [.v (.int .i64 0), .v (.slice none 0 0)]] := by
                      refine hL.step [(0, [], 6, lz6_spec_JoinParts)] (by kernel_rfl) ⟨?_, trivial⟩
                      · exact hL.edge n11
                    have n19 : L 8 lz17_spec_JoinParts [(0, .sl 1), (2, .pp 2 0), (4, .pp 4 0), (5, .v (.int .i64 (t5 + (((y.getD t6.toNat (0, [])).2).length : Int)))), (6, .v (.int .i64 t6)), (7, .v (.int .i64 t7)), (60, .v (.bool (decide (t7 < (((y.getD t6.toNat (0, [])).2).length : Int))))), (65, .sl 1), (66, .v (.int .i64 t6)), (67, .ep 1 t6.toNat 2 0), (68, .ep 1 t6.toNat 2 1), (69, .sl 7), (70, .v (.int .i64 t7)), (71, .ep 7 t7.toNat 3 0), (72, .agg [.v (.int .i64 ((((y.getD t6.toNat (0, [])).2).getD t7.toNat (0, 0, 0)).1)), .v (.int .i64 ((((y.getD t6.toNat (0, [])).2).getD t7.toNat (0, 0, 0)).2.1)), .v (.int .i64 ((((y.getD t6.toNat (0, [])).2).getD t7.toNat (0, 0, 0)).2.2))])] [.row false (.graphs a0), .tak true (.graphs y) t6.toNat 1 (some 7), .box [.v (.int .i64 0), .sl 3], .row true (.trips []), .box [.v (.int .i64 t4_0_2), .sl 5], .row true (.trips t4_1s_2), .dead, .row true (.trips ((y.getD t6.toNat (0, [])).2))] := by
                      refine hL.step [(0, [], 7, lz7_spec_JoinParts), (13, [], 7, lz16_spec_JoinParts)] (by kernel_rfl) ⟨?_, ?_, trivial⟩
                      · exact hL.edge n5
                      · exact hL.edge n20
                    have n21 : L 8 lz18_spec_JoinParts [(0, .sl 1), (2, .pp 2 0), (4, .pp 4 0), (5, .v (.int .i64 (t5 + (((y.getD t6.toNat (0, [])).2).length : Int)))), (6, .v (.int .i64 t6)), (7, .v (.int .i64 t7)), (8, .pp 8 0), (60, .v (.bool (decide (t7 < (((y.getD t6.toNat (0, [])).2).length : Int))))), (65, .sl 1), (66, .v (.int .i64 t6)), (67, .ep 1 t6.toNat 2 0), (68, .ep 1 t6.toNat 2 1), (69, .sl 7), (70, .v (.int .i64 t7)), (71, .ep 7 t7.toNat 3 0)] [.row false (.graphs a0), .tak true (.graphs y) t6.toNat 1 (some 7), .box [.v (.int .i64 0), .sl 3], .row true (.trips []), .box [.v (.int .i64 t4_0_2), .sl 5], .row true (.trips t4_1s_2), .dead, .row true (.trips ((y.getD t6.toNat (0, [])).2)), .box [.v (.int .i64 0), .v (.slice none 0 0)]] := by
                      refine hL.step [(0, [], 7, lz8_spec_JoinParts), (8, [], 7, lz16_spec_JoinParts)] (by kernel_rfl) ⟨?_, ?_, trivial⟩
                      · exact hL.edge n12
                      · exact hL.edge n20
                    have n18 : L 9 lz19_spec_JoinParts [(0, .sl 1), (2, .pp 2 0), (4, .pp 4 0), (5, .v (.int .i64 (t5 + (((y.getD t6.toNat (0, [])).2).length : Int)))), (6, .v (.int .i64 t6)), (7, .v (.int .i64 t7)), (60, .v (.bool (decide (t7 < (((y.getD t6.toNat (0, [])).2).length : Int))))), (65, .sl 1), (66, .v (.int .i64 t6)), (67, .ep 1 t6.toNat 2 0), (68, .ep 1 t6.toNat 2 1), (69, .sl 7), (70, .v (.int .i64 t7)), (71, .ep 7 t7.toNat 3 0)] [.row false (.graphs a0), .tak true (.graphs y) t6.toNat 1 (some 7), .box [.v (.int .i64 0), .sl 3], .row true (.trips []), .box [.v (.int .i64 t4_0_2), .sl 5], .row true (.trips t4_1s_2), .dead, .row true (.trips ((y.getD t6.toNat (0, [])).2))] := by
                      refine hL.step [(0, [], 8, lz9_spec_JoinParts), (8, [], 8, lz17_spec_JoinParts), (13, [], 8, lz18_spec_JoinParts)] (by kernel_rfl) ⟨?_, ?_, ?_, trivial⟩
                      · exact hL.edge n4
                      · exact hL.edge n19
                      · exact hL.edge n21
                    have n22 : L 9 lz20_spec_JoinParts [(0, .sl 1), (2, .pp 2 0), (4, .pp 4 0), (5, .v (.int .i64 (t5 + (((y.getD t6.toNat (0, [])).2).length : Int)))), (6, .v (.int .i64 t6)), (7, .v (.int .i64 t7)), (8, .pp 8 0), (60, .v (.bool (decide (t7 < (((y.getD t6.toNat (0, [])).2).length : Int))))), (65, .sl 1), (66, .v (.int .i64 t6)), (67, .ep 1 t6.toNat 2 0), (68, .ep 1 t6.toNat 2 1), (69, .sl 7), (70, .v (.int .i64 t7))] [.row false (.graphs a0), .tak true (.graphs y) t6.toNat 1 (some 7), .box [.v (.int .i64 0), .sl 3], .row true (.trips []), .box [.v (.int .i64 t4_0_2), .sl 5], .row true (.trips t4_1s_2), .dead, .row true (.trips ((y.getD t6.toNat (0, [])).2)), .box [.v (.int .i64 0), .v (.slice none 0 0)]] := by
                      refine hL.step [(0, [], 8, lz10_spec_JoinParts), (7, [], 8, lz18_spec_JoinParts)] (by kernel_rfl) ⟨?_, ?_, trivial⟩
                      · exact hL.edge n13
                      · exact hL.edge n21
                    have n17 : L 10 lz21_spec_JoinParts [(0, .sl 1), (2, .pp 2 0), (4, .pp 4 0), (5, .v (.int .i64 (t5 + (((y.getD t6.toNat (0, [])).2).length : Int)))), (6, .v (.int .i64 t6)), (7, .v (.int .i64 t7)), (60, .v (.bool (decide (t7 < (((y.getD t6.toNat (0, [])).2).length : Int))))), (65, .sl 1), (66, .v (.int .i64 t6)), (67, .ep 1 t6.toNat 2 0), (68, .ep 1 t6.toNat 2 1), (69, .sl 7), (70, .v (.int .i64 t7))] [.row false (.graphs a0), .tak true (.graphs y) t6.toNat 1 (some 7), .box [.v (.int .i64 0), .sl 3], .row true (.trips []), .box [.v (.int .i64 t4_0_2), .sl 5], .row true (.trips t4_1s_2), .dead, .row true (.trips ((y.getD t6.toNat (0, [])).2))] := by
                      refine hL.step [(0, [], 9, lz11_spec_JoinParts), (7, [], 9, lz19_spec_JoinParts), (13, [], 9, lz20_spec_JoinParts)] (by kernel_rfl) ⟨?_, ?_, ?_, trivial⟩
                      · exact hL.edge n3
                      · exact hL.edge n18
                      · exact hL.edge n22
                    have n23 : L 10 lz22_spec_JoinParts [(0, .sl 1), (2, .pp 2 0), (4, .pp 4 0), (5, .v (.int .i64 (t5 + (((y.getD t6.toNat (0, [])).2).length : Int)))), (6, .v (.int .i64 t6)), (7, .v (.int .i64 t7)), (8, .pp 8 0), (60, .v (.bool (decide (t7 < (((y.getD t6.toNat (0, [])).2).length : Int))))), (65, .sl 1), (66, .v (.int .i64 t6)), (67, .ep 1 t6.toNat 2 0), (68, .ep 1 t6.toNat 2 1), (70, .v (.int .i64 t7))] [.row false (.graphs a0), .tak true (.graphs y) t6.toNat 1 (some 7), .box [.v (.int .i64 0), .sl 3], .row true (.trips []), .box [.v (.int .i64 t4_0_2), .sl 5], .row true (.trips t4_1s_2), .dead, .row true (.trips ((y.getD t6.toNat (0, [])).2)), .box [.v (.int .i64 0), .v (.slice none 0 0)]] := by
                      refine hL.step [(0, [], 9, lz12_spec_JoinParts), (5, [], 9, lz20_spec_JoinParts)] (by kernel_rfl) ⟨?_, ?_, trivial⟩
                      · exact hL.edge n14
                      · exact hL.edge n22
                    have n16 : L 11 lz23_spec_JoinParts [(0, .sl 1), (2, .pp 2 0), (4, .pp 4 0), (5, .v (.int .i64 (t5 + (((y.getD t6.toNat (0, [])).2).length : Int)))), (6, .v (.int .i64 t6)), (7, .v (.int .i64 t7)), (60, .v (.bool (decide (t7 < (((y.getD t6.toNat (0, [])).2).length : Int))))), (65, .sl 1), (66, .v (.int .i64 t6)), (67, .ep 1 t6.toNat 2 0), (68, .ep 1 t6.toNat 2 1), (70, .v (.int .i64 t7))] [.row false (.graphs a0), .tak true (.graphs y) t6.toNat 1 (some 7), .box [.v (.int .i64 0), .sl 3], .row true (.trips []), .box [.v (.int .i64 t4_0_2), .sl 5], .row true (.trips t4_1s_2), .dead, .row true (.trips ((y.getD t6.toNat (0, [])).2))] := by
                      refine hL.step [(0, [], 10, lz13_spec_JoinParts), (5, [], 10, lz21_spec_JoinParts), (13, [], 10, lz22_spec_JoinParts)] (by kernel_rfl) ⟨?_, ?_, ?_, trivial⟩
                      · exact hL.edge n2
                      · exact hL.edge n17
                      · exact hL.edge n23
                    have n24 : L 12 lz24_spec_JoinParts [(0, .sl 1), (2, .pp 2 0), (4, .pp 4 0), (5, .v (.int .i64 (t5 + (((y.getD t6.toNat (0, [])).2).length : Int)))), (6, .v (.int .i64 t6)), (7, .v (.int .i64 t7)), (8, .pp 8 0), (60, .v (.bool (decide (t7 < (((y.getD t6.toNat (0, [])).2).length : Int))))), (65, .sl 1), (66, .v (.int .i64 t6)), (70, .v (.int .i64 t7))] [.row false (.graphs a0), .tak true (.graphs y) t6.toNat 1 (some 7), .box [.v (.int .i64 0), .sl 3], .row true (.trips []), .box [.v (.int .i64 t4_0_2), .sl 5], .row true (.trips t4_1s_2), .dead, .row true (.trips ((y.getD t6.toNat (0, [])).2)), .box [.v (.int .i64 0), .v (.slice none 0 0)]] := by
                      refine hL.step [(0, [], 11, lz14_spec_JoinParts), (3, [4], 10, lz22_spec_JoinParts)] (by kernel_rfl) ⟨?_, ?_, trivial⟩
                      · exact hL.edge n15
                      · exact hL.edge n23
                    have n0 : L 13 lz0_spec_JoinParts [(0, .sl 1), (2, .pp 2 0), (4, .pp 4 0), (5, .v (.int .i64 (t5 + (((y.getD t6.toNat (0, [])).2).length : Int)))), (6, .v (.int .i64 t6)), (7, .v (.int .i64 t7)), (60, .v (.bool (decide (t7 < (((y.getD t6.toNat (0, [])).2).length : Int))))), (65, .sl 1), (66, .v (.int .i64 t6)), (70, .v (.int .i64 t7))] [.row false (.graphs a0), .tak true (.graphs y) t6.toNat 1 (some 7), .box [.v (.int .i64 0), .sl 3], .row true (.trips []), .box [.v (.int .i64 t4_0_2), .sl 5], .row true (.trips t4_1s_2), .dead, .row true (.trips ((y.getD t6.toNat (0, [])).2))] := by
                      refine hL.step [(0, [], 12, lz15_spec_JoinParts), (3, [4], 11, lz23_spec_JoinParts), (13, [], 12, lz24_spec_JoinParts)] (by kernel_rfl) ⟨?_, ?_, ?_, trivial⟩
                      · exact hL.edge n1
                      · exact hL.edge n16
                      · exact hL.edge n24
                    simp (maxSteps := 4000000) only [go_sem, Nat.reduceBEq, Nat.reduceLT, Nat.reduceAdd, Nat.reduceLeDiff, Nat.reduceSub, Nat.reduceEqDiff, Int.reduceToNat, reduceCtorEq, ↓reduceIte]
                    repeat' (first | refine And.intro ?_ ?_ | intro hg)
                    all_goals (try simp (disch := omega) only [wrap_fits])
                    all_goals first
                      | (refine hL.red ?_ n0; exact Red.auto)
                      | exact trivial
                      | assumption
                      | omega
                      | exact wrap_fits (by omega) (by omega)
                      | (simp (maxSteps := 4000000) only [go_sem, Nat.reduceBEq, Nat.reduceLT, Nat.reduceAdd, Nat.reduceLeDiff, Nat.reduceSub, Nat.reduceEqDiff, Int.reduceToNat, reduceCtorEq, ↓reduceIte]
                         repeat' (first | refine And.intro ?_ ?_ | intro hg)
                         all_goals (try simp (disch := omega) only [wrap_fits])
                         all_goals first | (refine hL.red ?_ n0; exact Red.auto) | exact trivial | assumption | omega | exact wrap_fits (by omega) (by omega))
                      | (simp_all; done)
                      | (simp_all; omega)
                  · clear hp0 hp1 hr2
                    refine awp_seq fun K871 hK871 => ?_
                    refine awp_put 1 7 (by rfl) (by rfl) (Cont.setChild_self (by rfl)) (by exact rfl) ?_
                    refine awp_reg ftCOk [(0, .sl 1), (2, .pp 2 0), (4, .pp 4 0), (5, .v (.int .i64 (t5 + (((y.getD t6.toNat (0, [])).2).length : Int)))), (6, .v (.int .i64 t6)), (7, .v (.int .i64 t7)), (8, .pp 9 0), (77, .v (.bool (!y_4)))] [.row false (.graphs a0), .row true (.graphs y), .box [.v (.int .i64 0), .sl 3], .row true (.trips []), .box [.v (.int .i64 t4_0_2), .sl 5], .row true (.trips t4_1s_2), .dead, .view 1 (.trips ((y.getD t6.toNat (0, [])).2)), .row true (.trips y_3), .box [.v (.int .i64 y_2), .sl 8]] ?_
                    refine awp_cond (t := 77) rfl (fun hc872 => ?_) (fun hc872 => ?_)
                    · replace h := bite_t h hc872
                      refine awp_reg ftCOk [(2, .pp 2 0), (3, .v (.bool false))] [.row false (.graphs a0), .row true (.graphs y), .box [.v (.int .i64 0), .v (.slice none 0 0)], .row true (.trips []), .box [.v (.int .i64 t4_0_2), .sl 5], .row true (.trips t4_1s_2), .dead, .view 1 (.trips ((y.getD t6.toNat (0, [])).2)), .row true (.trips y_3), .box [.v (.int .i64 y_2), .sl 8]] ?_
                      refine awp_ret ?_
                      (try simp only [Thn, InBlk, ↓reduceIte, Nat.reduceEqDiff])
                      obtain rfl := Option.some.inj h
                      refine LoopQ.out rfl ?_
                      refine Red.trans (Red.nilCell (o := 2) (i := 1) (.trips []) rfl rfl rfl) ?_
                      exact Red.selA [0, 2, 10] Red.auto
                    · replace h := bite_f h hc872
                      refine awp_skip ?_
                      (try simp only [Thn, InBlk, ↓reduceIte, Nat.reduceEqDiff])
                      refine hK871 _ _ ?_
                      clear hK871
                      refine awp_regE ftCOk [(0, .sl 1), (2, .pp 2 0), (4, .pp 4 0), (5, .v (.int .i64 (t5 + (((y.getD t6.toNat (0, [])).2).length : Int)))), (6, .v (.int .i64 t6)), (7, .v (.int .i64 t7))] [.row false (.graphs a0), .row true (.graphs y), .box [.v (.int .i64 0), .sl 3], .row true (.trips []), .box [.v (.int .i64 y_2), .sl 8], .row true (.trips t4_1s_2), .dead, .view 1 (.trips ((y.getD t6.toNat (0, [])).2)), .row true (.trips y_3), .box [.v (.int .i64 y_2), .sl 8]] ?_
                      (try simp only [Thn, InBlk, ↓reduceIte, Nat.reduceEqDiff])
                      (try simp only [Thn, InBlk, ↓reduceIte, Nat.reduceEqDiff])
                      refine hK869 _ _ ?_
                      clear hK869
                      replace h := chk_some h
                      obtain ⟨hp0, h⟩ := h
                      refine awp_regE ftCOk [(0, .sl 1), (2, .pp 2 0), (4, .pp 4 0), (5, .v (.int .i64 (t5 + (((y.getD t6.toNat (0, [])).2).length : Int)))), (6, .v (.int .i64 t6)), (7, .v (.int .i64 (t7 + 1)))] [.row false (.graphs a0), .row true (.graphs y), .box [.v (.int .i64 0), .sl 3], .row true (.trips []), .box [.v (.int .i64 y_2), .sl 8], .row true (.trips t4_1s_2), .dead, .view 1 (.trips ((y.getD t6.toNat (0, [])).2)), .row true (.trips y_3), .box [.v (.int .i64 y_2), .sl 8]] ?_
                      clear hp0
                      obtain rfl := Option.some.inj h
                      refine LoopQ.next ?_
                      exact Red.selA [0, 1, 2, 3, 4, 8] Red.auto
                · replace h := bite_f h hc864
                  refine awp_exit ?_
                  (try simp only [Thn, InBlk, ↓reduceIte, Nat.reduceEqDiff])
                  obtain rfl := Option.some.inj h
                  refine LoopQ.out rfl ?_
                  refine Red.trans (Red.put 1 6 (by rfl) (by rfl) (Cont.setChild_self (by rfl))) ?_
                  exact Red.selA [0, 1, 2, 3, 4, 5] Red.auto
              · clear hx
                rcases x875 with (⟨t4_0_3, t4_1s_3⟩ | ⟨⟩)
                · try dsimp only [Sum.elim_inl, Sum.elim_inr] at h
                  try dsimp only [Sum.elim_inl, Sum.elim_inr]
                  (try simp only [Thn, InBlk, ↓reduceIte, Nat.reduceEqDiff])
                  (try simp only [Thn, InBlk, ↓reduceIte, Nat.reduceEqDiff])
                  (try simp only [Thn, InBlk, ↓reduceIte, Nat.reduceEqDiff])
                  (try simp only [Thn, InBlk, ↓reduceIte, Nat.reduceEqDiff])
                  refine hK828 _ _ ?_
                  clear hK828
                  replace h := chk_some h
                  obtain ⟨hp0, h⟩ := h
                  refine awp_regE ftCOk [(0, .sl 1), (2, .pp 2 0), (4, .pp 4 0), (5, .v (.int .i64 (t5 + (((y.getD t6.toNat (0, [])).2).length : Int)))), (6, .v (.int .i64 (t6 + 1)))] [.row false (.graphs a0), .row true (.graphs y), .box [.v (.int .i64 0), .sl 3], .row true (.trips []), .box [.v (.int .i64 t4_0_3), .sl 5], .row true (.trips t4_1s_3)] ?_
                  clear hp0
                  obtain rfl := Option.some.inj h
                  refine LoopQ.next ?_
                  exact Red.auto
                · try dsimp only [Sum.elim_inl, Sum.elim_inr] at h
                  try dsimp only [Sum.elim_inl, Sum.elim_inr]
                  (try simp only [Thn, InBlk, ↓reduceIte, Nat.reduceEqDiff])
                  obtain rfl := Option.some.inj h
                  refine LoopQ.out rfl ?_
                  exact Red.auto
        · replace h := bite_f h hc778
          refine awp_exit ?_
          (try simp only [Thn, InBlk, ↓reduceIte, Nat.reduceEqDiff])
          obtain rfl := Option.some.inj h
          refine LoopQ.out rfl ?_
          exact Red.selA [0, 2, 3, 4, 5] Red.auto
      · clear hx
        rcases x878 with (⟨t5_1, t4_0_1, t4_1s_1⟩ | ⟨⟩)
        · try dsimp only [Sum.elim_inl, Sum.elim_inr] at h
          try dsimp only [Sum.elim_inl, Sum.elim_inr]
          (try simp only [Thn, InBlk, ↓reduceIte, Nat.reduceEqDiff])
          (try simp only [Thn, InBlk, ↓reduceIte, Nat.reduceEqDiff])
          (try simp only [Thn, InBlk, ↓reduceIte, Nat.reduceEqDiff])
          refine hK441 _ _ ?_
          clear hK441
          refine awp_seq fun K880 hK880 => ?_
          refine awp_reg ftCOk [(2, .pp 1 0), (4, .pp 3 0), (84, .v (.bool ((t4_1s_1.length : Int) != t5_1)))] [.row false (.graphs a0), .box [.v (.int .i64 0), .sl 2], .row true (.trips []), .box [.v (.int .i64 t4_0_1), .sl 4], .row true (.trips t4_1s_1)] ?_
          refine awp_cond (t := 84) rfl (fun hc881 => ?_) (fun hc881 => ?_)
          · replace h := bite_t h hc881
            refine awp_reg ftCOk [(2, .pp 1 0), (3, .v (.bool false))] [.row false (.graphs a0), .box [.v (.int .i64 0), .v (.slice none 0 0)], .row true (.trips []), .box [.v (.int .i64 t4_0_1), .sl 4], .row true (.trips t4_1s_1)] ?_
            refine awp_red (Red.nilCell (o := 1) (i := 1) (.trips []) rfl rfl rfl) ?_
            refine awp_ret ?_
            (try simp only [Thn, InBlk, ↓reduceIte, Nat.reduceEqDiff])
            obtain rfl := Option.some.inj h
            refine ⟨by simp, _, [0, 5], (by simp only [go_sem, Nat.reduceBEq, Nat.reduceLT, Nat.reduceAdd, Nat.reduceLeDiff, Nat.reduceSub, Nat.reduceEqDiff, Int.reduceToNat, reduceCtorEq, ↓reduceIte]; exact rfl), ?_, ?_, ?_, ?_⟩
            · first | exact trivial | exact ⟨trivial, trivial⟩ | exact ⟨trivial, trivial, trivial⟩ | exact ⟨trivial, trivial, trivial, trivial⟩ | (simp only [allP, and_true, true_and]; done) | (simp only [allP, and_true, true_and]; omega)
            · simp [selOk, pos]
            · simp
            · first | exact ⟨rfl, rfl⟩ | (simp only [go_sem, Nat.reduceBEq, Nat.reduceLT, Nat.reduceAdd, Nat.reduceLeDiff, Nat.reduceSub, Nat.reduceEqDiff, Int.reduceToNat, reduceCtorEq, ↓reduceIte]; done) | (simp [go_sem, Nat.reduceBEq, Nat.reduceLT, Nat.reduceAdd, Nat.reduceLeDiff, Nat.reduceSub, Nat.reduceEqDiff, Int.reduceToNat, reduceCtorEq, ↓reduceIte]; done) | (simp only [go_sem, Nat.reduceBEq, Nat.reduceLT, Nat.reduceAdd, Nat.reduceLeDiff, Nat.reduceSub, Nat.reduceEqDiff, Int.reduceToNat, reduceCtorEq, ↓reduceIte]; exact ⟨rfl, rfl⟩) | (simp_all [go_sem, Nat.reduceBEq, Nat.reduceLT, Nat.reduceAdd, Nat.reduceLeDiff, Nat.reduceSub, Nat.reduceEqDiff, Int.reduceToNat, reduceCtorEq, ↓reduceIte]; done)
          · replace h := bite_f h hc881
            refine awp_skip ?_
            (try simp only [Thn, InBlk, ↓reduceIte, Nat.reduceEqDiff])
            refine hK880 _ _ ?_
            clear hK880
            refine awp_reg ftCOk [(2, .pp 1 0), (3, .v (.bool true))] [.row false (.graphs a0), .box [.v (.int .i64 t4_0_1), .sl 4], .row true (.trips []), .box [.v (.int .i64 t4_0_1), .sl 4], .row true (.trips t4_1s_1)] ?_
            refine awp_ret ?_
            (try simp only [Thn, InBlk, ↓reduceIte, Nat.reduceEqDiff])
            obtain rfl := Option.some.inj h
            refine ⟨by simp, _, [0, 4], (by simp only [go_sem, Nat.reduceBEq, Nat.reduceLT, Nat.reduceAdd, Nat.reduceLeDiff, Nat.reduceSub, Nat.reduceEqDiff, Int.reduceToNat, reduceCtorEq, ↓reduceIte]; exact rfl), ?_, ?_, ?_, ?_⟩
            · first | exact trivial | exact ⟨trivial, trivial⟩ | exact ⟨trivial, trivial, trivial⟩ | exact ⟨trivial, trivial, trivial, trivial⟩ | (simp only [allP, and_true, true_and]; done) | (simp only [allP, and_true, true_and]; omega)
            · simp [selOk, pos]
            · simp
            · first | exact ⟨rfl, rfl⟩ | (simp only [go_sem, Nat.reduceBEq, Nat.reduceLT, Nat.reduceAdd, Nat.reduceLeDiff, Nat.reduceSub, Nat.reduceEqDiff, Int.reduceToNat, reduceCtorEq, ↓reduceIte]; done) | (simp [go_sem, Nat.reduceBEq, Nat.reduceLT, Nat.reduceAdd, Nat.reduceLeDiff, Nat.reduceSub, Nat.reduceEqDiff, Int.reduceToNat, reduceCtorEq, ↓reduceIte]; done) | (simp only [go_sem, Nat.reduceBEq, Nat.reduceLT, Nat.reduceAdd, Nat.reduceLeDiff, Nat.reduceSub, Nat.reduceEqDiff, Int.reduceToNat, reduceCtorEq, ↓reduceIte]; exact ⟨rfl, rfl⟩) | (simp_all [go_sem, Nat.reduceBEq, Nat.reduceLT, Nat.reduceAdd, Nat.reduceLeDiff, Nat.reduceSub, Nat.reduceEqDiff, Int.reduceToNat, reduceCtorEq, ↓reduceIte]; done)
        · try dsimp only [Sum.elim_inl, Sum.elim_inr] at h
          try dsimp only [Sum.elim_inl, Sum.elim_inr]
          (try simp only [Thn, InBlk, ↓reduceIte, Nat.reduceEqDiff])
          obtain rfl := Option.some.inj h
          refine ⟨by simp, _, [0, 2], (by simp only [go_sem, Nat.reduceBEq, Nat.reduceLT, Nat.reduceAdd, Nat.reduceLeDiff, Nat.reduceSub, Nat.reduceEqDiff, Int.reduceToNat, reduceCtorEq, ↓reduceIte]; exact rfl), ?_, ?_, ?_, ?_⟩
          · first | exact trivial | exact ⟨trivial, trivial⟩ | exact ⟨trivial, trivial, trivial⟩ | exact ⟨trivial, trivial, trivial, trivial⟩ | (simp only [allP, and_true, true_and]; done) | (simp only [allP, and_true, true_and]; omega)
          · simp [selOk, pos]
          · simp
          · first | exact ⟨rfl, rfl⟩ | (simp only [go_sem, Nat.reduceBEq, Nat.reduceLT, Nat.reduceAdd, Nat.reduceLeDiff, Nat.reduceSub, Nat.reduceEqDiff, Int.reduceToNat, reduceCtorEq, ↓reduceIte]; done) | (simp [go_sem, Nat.reduceBEq, Nat.reduceLT, Nat.reduceAdd, Nat.reduceLeDiff, Nat.reduceSub, Nat.reduceEqDiff, Int.reduceToNat, reduceCtorEq, ↓reduceIte]; done) | (simp only [go_sem, Nat.reduceBEq, Nat.reduceLT, Nat.reduceAdd, Nat.reduceLeDiff, Nat.reduceSub, Nat.reduceEqDiff, Int.reduceToNat, reduceCtorEq, ↓reduceIte]; exact ⟨rfl, rfl⟩) | (simp_all [go_sem, Nat.reduceBEq, Nat.reduceLT, Nat.reduceAdd, Nat.reduceLeDiff, Nat.reduceSub, Nat.reduceEqDiff, Int.reduceToNat, reduceCtorEq, ↓reduceIte]; done)
theorem k_laws_sameGraph (a0_0 : Int) (a0_1 : List (Int × Int × Int)) (a1_0 : Int) (a1_1 : List (Int × Int × Int)) {r : Bool} (h : laws_sameGraph a0_0 a0_1 a1_0 a1_1 = some r) :
    FnA Try.prog 7 [.agg [.v (.int .i64 a0_0), .sl 0], .agg [.v (.int .i64 a1_0), .sl 1]] [.row false (.trips a0_1), .row false (.trips a1_1)] [] (fun x H => x = .v (.bool r) ∧ H = [.row false (.trips a0_1), .row false (.trips a1_1)]) := by
  unfold laws_sameGraph at h
  refine FnA.of (N := 38) (pin := [0, 1]) (rs := [.tmp 4]) Try.func7 rfl en7 rfl rfl (by simp) (by simp; try omega) ?_
  refine awp_reg ftCOk [(2, .pp 2 0), (3, .pp 3 0)] [.row false (.trips a0_1), .row false (.trips a1_1), .box [.v (.int .i64 a0_0), .sl 0], .box [.v (.int .i64 a1_0), .sl 1]] ?_
  refine awp_freeze 2 (by rfl) (by rfl) (by exact rfl) ?_
  refine awp_freeze 3 (by rfl) (by rfl) (by exact rfl) ?_
  refine awp_seq fun K2 hK2 => ?_
  refine awp_reg ftCOk [(2, .pp 2 0), (3, .pp 3 0), (19, .v (.bool ((a0_0 != a1_0) || ((a0_1.length : Int) != (a1_1.length : Int)))))] [.row false (.trips a0_1), .row false (.trips a1_1), .rbox [.v (.int .i64 a0_0), .sl 0], .rbox [.v (.int .i64 a1_0), .sl 1]] ?_
  refine awp_cond (t := 19) rfl (fun hc3 => ?_) (fun hc3 => ?_)
  · replace h := bite_t h hc3
    refine awp_reg ftCOk [(4, .v (.bool false))] [.row false (.trips a0_1), .row false (.trips a1_1), .rbox [.v (.int .i64 a0_0), .sl 0], .rbox [.v (.int .i64 a1_0), .sl 1]] ?_
    refine awp_ret ?_
    (try simp only [Thn, InBlk, ↓reduceIte, Nat.reduceEqDiff])
    obtain rfl := Option.some.inj h
    refine ⟨by simp, _, [0, 1], (by simp only [go_sem, Nat.reduceBEq, Nat.reduceLT, Nat.reduceAdd, Nat.reduceLeDiff, Nat.reduceSub, Nat.reduceEqDiff, Int.reduceToNat, reduceCtorEq, ↓reduceIte]; exact rfl), ?_, ?_, ?_, ?_⟩
    · first | exact trivial | exact ⟨trivial, trivial⟩ | exact ⟨trivial, trivial, trivial⟩ | exact ⟨trivial, trivial, trivial, trivial⟩ | (simp only [allP, and_true, true_and]; done) | (simp only [allP, and_true, true_and]; omega)
    · simp [selOk, pos]
    · simp
    · first | exact ⟨rfl, rfl⟩ | (simp only [go_sem, Nat.reduceBEq, Nat.reduceLT, Nat.reduceAdd, Nat.reduceLeDiff, Nat.reduceSub, Nat.reduceEqDiff, Int.reduceToNat, reduceCtorEq, ↓reduceIte]; done) | (simp [go_sem, Nat.reduceBEq, Nat.reduceLT, Nat.reduceAdd, Nat.reduceLeDiff, Nat.reduceSub, Nat.reduceEqDiff, Int.reduceToNat, reduceCtorEq, ↓reduceIte]; done) | (simp only [go_sem, Nat.reduceBEq, Nat.reduceLT, Nat.reduceAdd, Nat.reduceLeDiff, Nat.reduceSub, Nat.reduceEqDiff, Int.reduceToNat, reduceCtorEq, ↓reduceIte]; exact ⟨rfl, rfl⟩) | (simp_all [go_sem, Nat.reduceBEq, Nat.reduceLT, Nat.reduceAdd, Nat.reduceLeDiff, Nat.reduceSub, Nat.reduceEqDiff, Int.reduceToNat, reduceCtorEq, ↓reduceIte]; done)
  · replace h := bite_f h hc3
    refine awp_skip ?_
    (try simp only [Thn, InBlk, ↓reduceIte, Nat.reduceEqDiff])
    refine hK2 _ _ ?_
    clear hK2
    refine awp_seq fun K23 hK23 => ?_
    refine awp_reg ftCOk [(2, .pp 2 0), (3, .pp 3 0), (5, .v (.int .i64 0))] [.row false (.trips a0_1), .row false (.trips a1_1), .rbox [.v (.int .i64 a0_0), .sl 0], .rbox [.v (.int .i64 a1_0), .sl 1]] ?_
    refine awp_block ?_
    replace h := bind_some h
    obtain ⟨x42, hx, h⟩ := h
    refine awp_loopL hx (fun (t5 : Int) => [(2, .pp 2 0), (3, .pp 3 0), (5, .v (.int .i64 t5))]) (fun (t5 : Int) => [.row false (.trips a0_1), .row false (.trips a1_1), .rbox [.v (.int .i64 a0_0), .sl 0], .rbox [.v (.int .i64 a1_0), .sl 1]]) (Sum.elim (fun (_ : Unit) => Exit.exit 0) (fun (_ : Unit) => Exit.ret)) (Sum.elim (fun (_ : Unit) => []) (fun (_ : Unit) => [(4, .v (.bool false))])) (Sum.elim (fun (_ : Unit) => [.row false (.trips a0_1), .row false (.trips a1_1)]) (fun (_ : Unit) => [.row false (.trips a0_1), .row false (.trips a1_1)])) ?_ ?_ ?_ ?_
    · rintro (⟨⟩ | ⟨⟩) hy <;> cases hy
    · clear h hx
      exact Red.auto
    · clear h hx
      rintro t5 r h
      unfold laws_sameGraph_b0 at h
      try dsimp only at h
      try dsimp only
      refine awp_seq fun K37 hK37 => ?_
      refine awp_reg ftCOk [(2, .pp 2 0), (3, .pp 3 0), (5, .v (.int .i64 t5)), (24, .v (.bool (decide (t5 < (a0_1.length : Int)))))] [.row false (.trips a0_1), .row false (.trips a1_1), .rbox [.v (.int .i64 a0_0), .sl 0], .rbox [.v (.int .i64 a1_0), .sl 1]] ?_
      refine awp_cond (t := 24) rfl (fun hc38 => ?_) (fun hc38 => ?_)
      · replace h := bite_t h hc38
        refine awp_skip ?_
        (try simp only [Thn, InBlk, ↓reduceIte, Nat.reduceEqDiff])
        refine hK37 _ _ ?_
        clear hK37
        refine awp_seq fun K40 hK40 => ?_
        refine awp_block ?_
        replace h := chk_some h
        obtain ⟨hp0, h⟩ := h
        replace h := chk_some h
        obtain ⟨hp1, h⟩ := h
        refine awp_regQ mixed ftCOk [(2, .pp 2 0), (3, .pp 3 0), (5, .v (.int .i64 t5)), (37, .v (.bool (!(((a0_1.getD t5.toNat (0, 0, 0)).1 == (a1_1.getD t5.toNat (0, 0, 0)).1) && (((a0_1.getD t5.toNat (0, 0, 0)).2.1 == (a1_1.getD t5.toNat (0, 0, 0)).2.1) && ((a0_1.getD t5.toNat (0, 0, 0)).2.2 == (a1_1.getD t5.toNat (0, 0, 0)).2.2))))))] [.row false (.trips a0_1), .row false (.trips a1_1), .rbox [.v (.int .i64 a0_0), .sl 0], .rbox [.v (.int .i64 a1_0), .sl 1]] ?_
        clear hp0 hp1
        refine awp_cond (t := 37) rfl (fun hc41 => ?_) (fun hc41 => ?_)
        · replace h := bite_t h hc41
          refine awp_reg ftCOk [(4, .v (.bool false))] [.row false (.trips a0_1), .row false (.trips a1_1), .rbox [.v (.int .i64 a0_0), .sl 0], .rbox [.v (.int .i64 a1_0), .sl 1]] ?_
          refine awp_ret ?_
          (try simp only [Thn, InBlk, ↓reduceIte, Nat.reduceEqDiff])
          obtain rfl := Option.some.inj h
          refine LoopQ.out rfl ?_
          exact Red.selA [0, 1] Red.auto
        · replace h := bite_f h hc41
          refine awp_skip ?_
          (try simp only [Thn, InBlk, ↓reduceIte, Nat.reduceEqDiff])
          (try simp only [Thn, InBlk, ↓reduceIte, Nat.reduceEqDiff])
          refine hK40 _ _ ?_
          clear hK40
          replace h := chk_some h
          obtain ⟨hp0, h⟩ := h
          refine awp_regE ftCOk [(2, .pp 2 0), (3, .pp 3 0), (5, .v (.int .i64 (t5 + 1)))] [.row false (.trips a0_1), .row false (.trips a1_1), .rbox [.v (.int .i64 a0_0), .sl 0], .rbox [.v (.int .i64 a1_0), .sl 1]] ?_
          clear hp0
          obtain rfl := Option.some.inj h
          refine LoopQ.next ?_
          exact Red.auto
      · replace h := bite_f h hc38
        refine awp_exit ?_
        (try simp only [Thn, InBlk, ↓reduceIte, Nat.reduceEqDiff])
        obtain rfl := Option.some.inj h
        refine LoopQ.out rfl ?_
        exact Red.selA [0, 1] Red.auto
    · clear hx
      rcases x42 with (⟨⟩ | ⟨⟩)
      · try dsimp only [Sum.elim_inl, Sum.elim_inr] at h
        try dsimp only [Sum.elim_inl, Sum.elim_inr]
        (try simp only [Thn, InBlk, ↓reduceIte, Nat.reduceEqDiff])
        (try simp only [Thn, InBlk, ↓reduceIte, Nat.reduceEqDiff])
        (try simp only [Thn, InBlk, ↓reduceIte, Nat.reduceEqDiff])
        refine hK23 _ _ ?_
        clear hK23
        refine awp_reg ftCOk [(4, .v (.bool true))] [.row false (.trips a0_1), .row false (.trips a1_1)] ?_
        refine awp_ret ?_
        (try simp only [Thn, InBlk, ↓reduceIte, Nat.reduceEqDiff])
        obtain rfl := Option.some.inj h
        refine ⟨by simp, _, [0, 1], (by simp only [go_sem, Nat.reduceBEq, Nat.reduceLT, Nat.reduceAdd, Nat.reduceLeDiff, Nat.reduceSub, Nat.reduceEqDiff, Int.reduceToNat, reduceCtorEq, ↓reduceIte]; exact rfl), ?_, ?_, ?_, ?_⟩
        · first | exact trivial | exact ⟨trivial, trivial⟩ | exact ⟨trivial, trivial, trivial⟩ | exact ⟨trivial, trivial, trivial, trivial⟩ | (simp only [allP, and_true, true_and]; done) | (simp only [allP, and_true, true_and]; omega)
        · simp [selOk, pos]
        · simp
        · first | exact ⟨rfl, rfl⟩ | (simp only [go_sem, Nat.reduceBEq, Nat.reduceLT, Nat.reduceAdd, Nat.reduceLeDiff, Nat.reduceSub, Nat.reduceEqDiff, Int.reduceToNat, reduceCtorEq, ↓reduceIte]; done) | (simp [go_sem, Nat.reduceBEq, Nat.reduceLT, Nat.reduceAdd, Nat.reduceLeDiff, Nat.reduceSub, Nat.reduceEqDiff, Int.reduceToNat, reduceCtorEq, ↓reduceIte]; done) | (simp only [go_sem, Nat.reduceBEq, Nat.reduceLT, Nat.reduceAdd, Nat.reduceLeDiff, Nat.reduceSub, Nat.reduceEqDiff, Int.reduceToNat, reduceCtorEq, ↓reduceIte]; exact ⟨rfl, rfl⟩) | (simp_all [go_sem, Nat.reduceBEq, Nat.reduceLT, Nat.reduceAdd, Nat.reduceLeDiff, Nat.reduceSub, Nat.reduceEqDiff, Int.reduceToNat, reduceCtorEq, ↓reduceIte]; done)
      · try dsimp only [Sum.elim_inl, Sum.elim_inr] at h
        try dsimp only [Sum.elim_inl, Sum.elim_inr]
        (try simp only [Thn, InBlk, ↓reduceIte, Nat.reduceEqDiff])
        obtain rfl := Option.some.inj h
        refine ⟨by simp, _, [0, 1], (by simp only [go_sem, Nat.reduceBEq, Nat.reduceLT, Nat.reduceAdd, Nat.reduceLeDiff, Nat.reduceSub, Nat.reduceEqDiff, Int.reduceToNat, reduceCtorEq, ↓reduceIte]; exact rfl), ?_, ?_, ?_, ?_⟩
        · first | exact trivial | exact ⟨trivial, trivial⟩ | exact ⟨trivial, trivial, trivial⟩ | exact ⟨trivial, trivial, trivial, trivial⟩ | (simp only [allP, and_true, true_and]; done) | (simp only [allP, and_true, true_and]; omega)
        · simp [selOk, pos]
        · simp
        · first | exact ⟨rfl, rfl⟩ | (simp only [go_sem, Nat.reduceBEq, Nat.reduceLT, Nat.reduceAdd, Nat.reduceLeDiff, Nat.reduceSub, Nat.reduceEqDiff, Int.reduceToNat, reduceCtorEq, ↓reduceIte]; done) | (simp [go_sem, Nat.reduceBEq, Nat.reduceLT, Nat.reduceAdd, Nat.reduceLeDiff, Nat.reduceSub, Nat.reduceEqDiff, Int.reduceToNat, reduceCtorEq, ↓reduceIte]; done) | (simp only [go_sem, Nat.reduceBEq, Nat.reduceLT, Nat.reduceAdd, Nat.reduceLeDiff, Nat.reduceSub, Nat.reduceEqDiff, Int.reduceToNat, reduceCtorEq, ↓reduceIte]; exact ⟨rfl, rfl⟩) | (simp_all [go_sem, Nat.reduceBEq, Nat.reduceLT, Nat.reduceAdd, Nat.reduceLeDiff, Nat.reduceSub, Nat.reduceEqDiff, Int.reduceToNat, reduceCtorEq, ↓reduceIte]; done)
theorem k_impl_BytesValid (a0 : List Int) {r : Bool} (h : impl_BytesValid a0 = some r) :
    FnA Try.prog 34 [.sl 0] [.row false (.ints .i64 a0)] [] (fun x H => x = .v (.bool r) ∧ H = [.row false (.ints .i64 a0)]) := by
  unfold impl_BytesValid at h
  refine FnA.of (N := 21) (pin := [0]) (rs := [.tmp 2]) Try.func34 rfl en34 rfl rfl (by simp) (by simp; try omega) ?_
  refine awp_reg ftCOk [(0, .sl 0)] [.row false (.ints .i64 a0)] ?_
  refine awp_seq fun K2 hK2 => ?_
  refine awp_reg ftCOk [(0, .sl 0), (7, .v (.bool (decide (2000 < (a0.length : Int)))))] [.row false (.ints .i64 a0)] ?_
  refine awp_cond (t := 7) rfl (fun hc3 => ?_) (fun hc3 => ?_)
  · replace h := bite_t h hc3
    refine awp_reg ftCOk [(2, .v (.bool false))] [.row false (.ints .i64 a0)] ?_
    refine awp_ret ?_
    (try simp only [Thn, InBlk, ↓reduceIte, Nat.reduceEqDiff])
    obtain rfl := Option.some.inj h
    refine ⟨by simp, _, [0], (by simp only [go_sem, Nat.reduceBEq, Nat.reduceLT, Nat.reduceAdd, Nat.reduceLeDiff, Nat.reduceSub, Nat.reduceEqDiff, Int.reduceToNat, reduceCtorEq, ↓reduceIte]; exact rfl), ?_, ?_, ?_, ?_⟩
    · first | exact trivial | exact ⟨trivial, trivial⟩ | exact ⟨trivial, trivial, trivial⟩ | exact ⟨trivial, trivial, trivial, trivial⟩ | (simp only [allP, and_true, true_and]; done) | (simp only [allP, and_true, true_and]; omega)
    · simp [selOk, pos]
    · simp
    · first | exact ⟨rfl, rfl⟩ | (simp only [go_sem, Nat.reduceBEq, Nat.reduceLT, Nat.reduceAdd, Nat.reduceLeDiff, Nat.reduceSub, Nat.reduceEqDiff, Int.reduceToNat, reduceCtorEq, ↓reduceIte]; done) | (simp [go_sem, Nat.reduceBEq, Nat.reduceLT, Nat.reduceAdd, Nat.reduceLeDiff, Nat.reduceSub, Nat.reduceEqDiff, Int.reduceToNat, reduceCtorEq, ↓reduceIte]; done) | (simp only [go_sem, Nat.reduceBEq, Nat.reduceLT, Nat.reduceAdd, Nat.reduceLeDiff, Nat.reduceSub, Nat.reduceEqDiff, Int.reduceToNat, reduceCtorEq, ↓reduceIte]; exact ⟨rfl, rfl⟩) | (simp_all [go_sem, Nat.reduceBEq, Nat.reduceLT, Nat.reduceAdd, Nat.reduceLeDiff, Nat.reduceSub, Nat.reduceEqDiff, Int.reduceToNat, reduceCtorEq, ↓reduceIte]; done)
  · replace h := bite_f h hc3
    refine awp_skip ?_
    (try simp only [Thn, InBlk, ↓reduceIte, Nat.reduceEqDiff])
    refine hK2 _ _ ?_
    clear hK2
    refine awp_seq fun K23 hK23 => ?_
    refine awp_reg ftCOk [(8, .sl 0), (9, .v (.int .i64 (a0.length : Int))), (10, .v (.int .i64 0))] [.row false (.ints .i64 a0)] ?_
    refine awp_block ?_
    replace h := bind_some h
    obtain ⟨x42, hx, h⟩ := h
    refine awp_loopL hx (fun (t10 : Int) => [(8, .sl 0), (9, .v (.int .i64 (a0.length : Int))), (10, .v (.int .i64 t10))]) (fun (t10 : Int) => [.row false (.ints .i64 a0)]) (Sum.elim (fun (_ : Unit) => Exit.exit 0) (fun (_ : Unit) => Exit.ret)) (Sum.elim (fun (_ : Unit) => []) (fun (_ : Unit) => [(2, .v (.bool false))])) (Sum.elim (fun (_ : Unit) => [.row false (.ints .i64 a0)]) (fun (_ : Unit) => [.row false (.ints .i64 a0)])) ?_ ?_ ?_ ?_
    · rintro (⟨⟩ | ⟨⟩) hy <;> cases hy
    · clear h hx
      exact Red.auto
    · clear h hx
      rintro t10 r h
      unfold impl_BytesValid_b0 at h
      try dsimp only at h
      try dsimp only
      refine awp_reg ftCOk [(8, .sl 0), (9, .v (.int .i64 (a0.length : Int))), (10, .v (.int .i64 t10)), (11, .v (.bool (decide (t10 < (a0.length : Int)))))] [.row false (.ints .i64 a0)] ?_
      refine awp_seq fun K37 hK37 => ?_
      refine awp_cond (t := 11) rfl (fun hc38 => ?_) (fun hc38 => ?_)
      · replace h := bite_t h hc38
        refine awp_skip ?_
        (try simp only [Thn, InBlk, ↓reduceIte, Nat.reduceEqDiff])
        refine hK37 _ _ ?_
        clear hK37
        refine awp_seq fun K40 hK40 => ?_
        refine awp_block ?_
        replace h := chk_some h
        obtain ⟨hp0, h⟩ := h
        refine awp_reg ftCOk [(4, .v (.int .i64 (a0.getD t10.toNat 0))), (8, .sl 0), (9, .v (.int .i64 (a0.length : Int))), (10, .v (.int .i64 t10))] [.row false (.ints .i64 a0)] ?_
        clear hp0
        refine awp_reg ftCOk [(8, .sl 0), (9, .v (.int .i64 (a0.length : Int))), (10, .v (.int .i64 t10)), (19, .v (.bool ((decide ((a0.getD t10.toNat 0) < 0)) || (decide (255 < (a0.getD t10.toNat 0))))))] [.row false (.ints .i64 a0)] ?_
        refine awp_cond (t := 19) rfl (fun hc41 => ?_) (fun hc41 => ?_)
        · replace h := bite_t h hc41
          refine awp_reg ftCOk [(2, .v (.bool false))] [.row false (.ints .i64 a0)] ?_
          refine awp_ret ?_
          (try simp only [Thn, InBlk, ↓reduceIte, Nat.reduceEqDiff])
          obtain rfl := Option.some.inj h
          refine LoopQ.out rfl ?_
          exact Red.auto
        · replace h := bite_f h hc41
          refine awp_skip ?_
          (try simp only [Thn, InBlk, ↓reduceIte, Nat.reduceEqDiff])
          (try simp only [Thn, InBlk, ↓reduceIte, Nat.reduceEqDiff])
          refine hK40 _ _ ?_
          clear hK40
          replace h := chk_some h
          obtain ⟨hp0, h⟩ := h
          refine awp_regE ftCOk [(8, .sl 0), (9, .v (.int .i64 (a0.length : Int))), (10, .v (.int .i64 (t10 + 1)))] [.row false (.ints .i64 a0)] ?_
          clear hp0
          obtain rfl := Option.some.inj h
          refine LoopQ.next ?_
          exact Red.auto
      · replace h := bite_f h hc38
        refine awp_exit ?_
        (try simp only [Thn, InBlk, ↓reduceIte, Nat.reduceEqDiff])
        obtain rfl := Option.some.inj h
        refine LoopQ.out rfl ?_
        exact Red.auto
    · clear hx
      rcases x42 with (⟨⟩ | ⟨⟩)
      · try dsimp only [Sum.elim_inl, Sum.elim_inr] at h
        try dsimp only [Sum.elim_inl, Sum.elim_inr]
        (try simp only [Thn, InBlk, ↓reduceIte, Nat.reduceEqDiff])
        (try simp only [Thn, InBlk, ↓reduceIte, Nat.reduceEqDiff])
        (try simp only [Thn, InBlk, ↓reduceIte, Nat.reduceEqDiff])
        refine hK23 _ _ ?_
        clear hK23
        refine awp_reg ftCOk [(2, .v (.bool true))] [.row false (.ints .i64 a0)] ?_
        refine awp_ret ?_
        (try simp only [Thn, InBlk, ↓reduceIte, Nat.reduceEqDiff])
        obtain rfl := Option.some.inj h
        refine ⟨by simp, _, [0], (by simp only [go_sem, Nat.reduceBEq, Nat.reduceLT, Nat.reduceAdd, Nat.reduceLeDiff, Nat.reduceSub, Nat.reduceEqDiff, Int.reduceToNat, reduceCtorEq, ↓reduceIte]; exact rfl), ?_, ?_, ?_, ?_⟩
        · first | exact trivial | exact ⟨trivial, trivial⟩ | exact ⟨trivial, trivial, trivial⟩ | exact ⟨trivial, trivial, trivial, trivial⟩ | (simp only [allP, and_true, true_and]; done) | (simp only [allP, and_true, true_and]; omega)
        · simp [selOk, pos]
        · simp
        · first | exact ⟨rfl, rfl⟩ | (simp only [go_sem, Nat.reduceBEq, Nat.reduceLT, Nat.reduceAdd, Nat.reduceLeDiff, Nat.reduceSub, Nat.reduceEqDiff, Int.reduceToNat, reduceCtorEq, ↓reduceIte]; done) | (simp [go_sem, Nat.reduceBEq, Nat.reduceLT, Nat.reduceAdd, Nat.reduceLeDiff, Nat.reduceSub, Nat.reduceEqDiff, Int.reduceToNat, reduceCtorEq, ↓reduceIte]; done) | (simp only [go_sem, Nat.reduceBEq, Nat.reduceLT, Nat.reduceAdd, Nat.reduceLeDiff, Nat.reduceSub, Nat.reduceEqDiff, Int.reduceToNat, reduceCtorEq, ↓reduceIte]; exact ⟨rfl, rfl⟩) | (simp_all [go_sem, Nat.reduceBEq, Nat.reduceLT, Nat.reduceAdd, Nat.reduceLeDiff, Nat.reduceSub, Nat.reduceEqDiff, Int.reduceToNat, reduceCtorEq, ↓reduceIte]; done)
      · try dsimp only [Sum.elim_inl, Sum.elim_inr] at h
        try dsimp only [Sum.elim_inl, Sum.elim_inr]
        (try simp only [Thn, InBlk, ↓reduceIte, Nat.reduceEqDiff])
        obtain rfl := Option.some.inj h
        refine ⟨by simp, _, [0], (by simp only [go_sem, Nat.reduceBEq, Nat.reduceLT, Nat.reduceAdd, Nat.reduceLeDiff, Nat.reduceSub, Nat.reduceEqDiff, Int.reduceToNat, reduceCtorEq, ↓reduceIte]; exact rfl), ?_, ?_, ?_, ?_⟩
        · first | exact trivial | exact ⟨trivial, trivial⟩ | exact ⟨trivial, trivial, trivial⟩ | exact ⟨trivial, trivial, trivial, trivial⟩ | (simp only [allP, and_true, true_and]; done) | (simp only [allP, and_true, true_and]; omega)
        · simp [selOk, pos]
        · simp
        · first | exact ⟨rfl, rfl⟩ | (simp only [go_sem, Nat.reduceBEq, Nat.reduceLT, Nat.reduceAdd, Nat.reduceLeDiff, Nat.reduceSub, Nat.reduceEqDiff, Int.reduceToNat, reduceCtorEq, ↓reduceIte]; done) | (simp [go_sem, Nat.reduceBEq, Nat.reduceLT, Nat.reduceAdd, Nat.reduceLeDiff, Nat.reduceSub, Nat.reduceEqDiff, Int.reduceToNat, reduceCtorEq, ↓reduceIte]; done) | (simp only [go_sem, Nat.reduceBEq, Nat.reduceLT, Nat.reduceAdd, Nat.reduceLeDiff, Nat.reduceSub, Nat.reduceEqDiff, Int.reduceToNat, reduceCtorEq, ↓reduceIte]; exact ⟨rfl, rfl⟩) | (simp_all [go_sem, Nat.reduceBEq, Nat.reduceLT, Nat.reduceAdd, Nat.reduceLeDiff, Nat.reduceSub, Nat.reduceEqDiff, Int.reduceToNat, reduceCtorEq, ↓reduceIte]; done)
theorem k_impl_CheckSum (a0 : List Int) {r : Int} (h : impl_CheckSum a0 = some r) :
    FnA Try.prog 26 [.sl 0] [.row false (.ints .i64 a0)] [] (fun x H => x = .v (.int .i64 r) ∧ H = [.row false (.ints .i64 a0)]) := by
  unfold impl_CheckSum at h
  refine FnA.of (N := 23) (pin := [0]) (rs := [.tmp 2]) Try.func26 rfl en26 rfl rfl (by simp) (by simp; try omega) ?_
  refine awp_reg ftCOk [(0, .sl 0)] [.row false (.ints .i64 a0)] ?_
  refine awp_seq fun K2 hK2 => ?_
  replace h := bind_some h
  obtain ⟨y, hr0, h⟩ := h
  try dsimp only at h
  refine awp_to [(0, .sl 0), (8, .v (.bool (!y)))] [.row false (.ints .i64 a0)] ?_ ?_
  · clear h
    intro K hK
    refine awp_region ftCOk ?_
    simp (maxSteps := 4000000) only [go_sem, Nat.reduceBEq, Nat.reduceLT, Nat.reduceAdd, Nat.reduceLeDiff, Nat.reduceSub, Nat.reduceEqDiff, Int.reduceToNat, reduceCtorEq, ↓reduceIte]
    repeat' (first | refine And.intro ?_ ?_ | intro hg)
    all_goals (try simp (disch := omega) only [wrap_fits])
    all_goals first
      | (refine hK _ _ ?_; exact Red.auto)
      | exact trivial
      | assumption
      | omega
      | exact wrap_fits (by omega) (by omega)
      | (refine wpA_callA (k_impl_BytesValid a0 (h := hr0)) [0] [] ?_
         rintro x Hc' ⟨rfl, rfl⟩ hlen
         refine vcOps_sound ftCOk ?_
         simp (maxSteps := 4000000) only [go_sem, Nat.reduceBEq, Nat.reduceLT, Nat.reduceAdd, Nat.reduceLeDiff, Nat.reduceSub, Nat.reduceEqDiff, Int.reduceToNat, reduceCtorEq, ↓reduceIte]
         repeat' (first | refine And.intro ?_ ?_ | intro hg)
         all_goals (try simp (disch := omega) only [wrap_fits])
         all_goals first
           | (refine hK _ _ ?_; exact Red.auto)
           | exact trivial
           | assumption
           | omega
           | exact wrap_fits (by omega) (by omega)
           | (simp_all; done)
           | (simp_all; omega))
      | (simp_all; done)
      | (simp_all; omega)
  · clear hr0
    refine awp_cond (t := 8) rfl (fun hc3 => ?_) (fun hc3 => ?_)
    · replace h := bite_t h hc3
      refine awp_reg ftCOk [(2, .v (.int .i64 (-1)))] [.row false (.ints .i64 a0)] ?_
      refine awp_ret ?_
      (try simp only [Thn, InBlk, ↓reduceIte, Nat.reduceEqDiff])
      obtain rfl := Option.some.inj h
      refine ⟨by simp, _, [0], (by simp only [go_sem, Nat.reduceBEq, Nat.reduceLT, Nat.reduceAdd, Nat.reduceLeDiff, Nat.reduceSub, Nat.reduceEqDiff, Int.reduceToNat, reduceCtorEq, ↓reduceIte]; exact rfl), ?_, ?_, ?_, ?_⟩
      · first | exact trivial | exact ⟨trivial, trivial⟩ | exact ⟨trivial, trivial, trivial⟩ | exact ⟨trivial, trivial, trivial, trivial⟩ | (simp only [allP, and_true, true_and]; done) | (simp only [allP, and_true, true_and]; omega)
      · simp [selOk, pos]
      · simp
      · first | exact ⟨rfl, rfl⟩ | (simp only [go_sem, Nat.reduceBEq, Nat.reduceLT, Nat.reduceAdd, Nat.reduceLeDiff, Nat.reduceSub, Nat.reduceEqDiff, Int.reduceToNat, reduceCtorEq, ↓reduceIte]; done) | (simp [go_sem, Nat.reduceBEq, Nat.reduceLT, Nat.reduceAdd, Nat.reduceLeDiff, Nat.reduceSub, Nat.reduceEqDiff, Int.reduceToNat, reduceCtorEq, ↓reduceIte]; done) | (simp only [go_sem, Nat.reduceBEq, Nat.reduceLT, Nat.reduceAdd, Nat.reduceLeDiff, Nat.reduceSub, Nat.reduceEqDiff, Int.reduceToNat, reduceCtorEq, ↓reduceIte]; exact ⟨rfl, rfl⟩) | (simp_all [go_sem, Nat.reduceBEq, Nat.reduceLT, Nat.reduceAdd, Nat.reduceLeDiff, Nat.reduceSub, Nat.reduceEqDiff, Int.reduceToNat, reduceCtorEq, ↓reduceIte]; done)
    · replace h := bite_f h hc3
      refine awp_skip ?_
      (try simp only [Thn, InBlk, ↓reduceIte, Nat.reduceEqDiff])
      refine hK2 _ _ ?_
      clear hK2
      refine awp_reg ftCOk [(0, .sl 0), (3, .v (.int .i64 7))] [.row false (.ints .i64 a0)] ?_
      refine awp_seq fun K17 hK17 => ?_
      refine awp_reg ftCOk [(3, .v (.int .i64 7)), (9, .sl 0), (10, .v (.int .i64 (a0.length : Int))), (11, .v (.int .i64 0))] [.row false (.ints .i64 a0)] ?_
      refine awp_block ?_
      replace h := bind_some h
      obtain ⟨t3_1, hx, h⟩ := h
      refine awp_loopL hx (fun ((t3, t11) : Int × Int) => [(3, .v (.int .i64 t3)), (9, .sl 0), (10, .v (.int .i64 (a0.length : Int))), (11, .v (.int .i64 t11))]) (fun ((t3, t11) : Int × Int) => [.row false (.ints .i64 a0)]) (fun (t3_1 : Int) => Exit.exit 0) (fun (t3_1 : Int) => [(3, .v (.int .i64 t3_1))]) (fun (t3_1 : Int) => [.row false (.ints .i64 a0)]) ?_ ?_ ?_ ?_
      · rintro t3_1 hy <;> cases hy
      · clear h hx
        exact Red.auto
      · clear h hx
        rintro ⟨t3, t11⟩ r h
        unfold impl_CheckSum_b0 at h
        try dsimp only at h
        try dsimp only
        refine awp_reg ftCOk [(3, .v (.int .i64 t3)), (9, .sl 0), (10, .v (.int .i64 (a0.length : Int))), (11, .v (.int .i64 t11)), (12, .v (.bool (decide (t11 < (a0.length : Int)))))] [.row false (.ints .i64 a0)] ?_
        refine awp_seq fun K27 hK27 => ?_
        refine awp_cond (t := 12) rfl (fun hc28 => ?_) (fun hc28 => ?_)
        · replace h := bite_t h hc28
          refine awp_skip ?_
          (try simp only [Thn, InBlk, ↓reduceIte, Nat.reduceEqDiff])
          refine hK27 _ _ ?_
          clear hK27
          refine awp_seq fun K29 hK29 => ?_
          refine awp_block ?_
          replace h := chk_some h
          obtain ⟨hp0, h⟩ := h
          refine awp_reg ftCOk [(3, .v (.int .i64 t3)), (5, .v (.int .i64 (a0.getD t11.toNat 0))), (9, .sl 0), (10, .v (.int .i64 (a0.length : Int))), (11, .v (.int .i64 t11))] [.row false (.ints .i64 a0)] ?_
          clear hp0
          replace h := chk_some h
          obtain ⟨hp0, h⟩ := h
          replace h := chk_some h
          obtain ⟨hp1, h⟩ := h
          replace h := chk_some h
          obtain ⟨hp2, h⟩ := h
          replace h := chk_some h
          obtain ⟨hp3, h⟩ := h
          refine awp_regE ftCOk [(3, .v (.int .i64 ((((31 * t3) + (a0.getD t11.toNat 0)) + 1) % 251))), (9, .sl 0), (10, .v (.int .i64 (a0.length : Int))), (11, .v (.int .i64 t11))] [.row false (.ints .i64 a0)] ?_
          clear hp0 hp1 hp2 hp3
          (try simp only [Thn, InBlk, ↓reduceIte, Nat.reduceEqDiff])
          (try simp only [Thn, InBlk, ↓reduceIte, Nat.reduceEqDiff])
          refine hK29 _ _ ?_
          clear hK29
          replace h := chk_some h
          obtain ⟨hp0, h⟩ := h
          refine awp_regE ftCOk [(3, .v (.int .i64 ((((31 * t3) + (a0.getD t11.toNat 0)) + 1) % 251))), (9, .sl 0), (10, .v (.int .i64 (a0.length : Int))), (11, .v (.int .i64 (t11 + 1)))] [.row false (.ints .i64 a0)] ?_
          clear hp0
          obtain rfl := Option.some.inj h
          refine LoopQ.next ?_
          exact Red.auto
        · replace h := bite_f h hc28
          refine awp_exit ?_
          (try simp only [Thn, InBlk, ↓reduceIte, Nat.reduceEqDiff])
          obtain rfl := Option.some.inj h
          refine LoopQ.out rfl ?_
          exact Red.auto
      · clear hx
        skip
        · try dsimp only [Sum.elim_inl, Sum.elim_inr] at h
          try dsimp only [Sum.elim_inl, Sum.elim_inr]
          (try simp only [Thn, InBlk, ↓reduceIte, Nat.reduceEqDiff])
          (try simp only [Thn, InBlk, ↓reduceIte, Nat.reduceEqDiff])
          (try simp only [Thn, InBlk, ↓reduceIte, Nat.reduceEqDiff])
          refine hK17 _ _ ?_
          clear hK17
          refine awp_reg ftCOk [(2, .v (.int .i64 t3_1))] [.row false (.ints .i64 a0)] ?_
          refine awp_ret ?_
          (try simp only [Thn, InBlk, ↓reduceIte, Nat.reduceEqDiff])
          obtain rfl := Option.some.inj h
          refine ⟨by simp, _, [0], (by simp only [go_sem, Nat.reduceBEq, Nat.reduceLT, Nat.reduceAdd, Nat.reduceLeDiff, Nat.reduceSub, Nat.reduceEqDiff, Int.reduceToNat, reduceCtorEq, ↓reduceIte]; exact rfl), ?_, ?_, ?_, ?_⟩
          · first | exact trivial | exact ⟨trivial, trivial⟩ | exact ⟨trivial, trivial, trivial⟩ | exact ⟨trivial, trivial, trivial, trivial⟩ | (simp only [allP, and_true, true_and]; done) | (simp only [allP, and_true, true_and]; omega)
          · simp [selOk, pos]
          · simp
          · first | exact ⟨rfl, rfl⟩ | (simp only [go_sem, Nat.reduceBEq, Nat.reduceLT, Nat.reduceAdd, Nat.reduceLeDiff, Nat.reduceSub, Nat.reduceEqDiff, Int.reduceToNat, reduceCtorEq, ↓reduceIte]; done) | (simp [go_sem, Nat.reduceBEq, Nat.reduceLT, Nat.reduceAdd, Nat.reduceLeDiff, Nat.reduceSub, Nat.reduceEqDiff, Int.reduceToNat, reduceCtorEq, ↓reduceIte]; done) | (simp only [go_sem, Nat.reduceBEq, Nat.reduceLT, Nat.reduceAdd, Nat.reduceLeDiff, Nat.reduceSub, Nat.reduceEqDiff, Int.reduceToNat, reduceCtorEq, ↓reduceIte]; exact ⟨rfl, rfl⟩) | (simp_all [go_sem, Nat.reduceBEq, Nat.reduceLT, Nat.reduceAdd, Nat.reduceLeDiff, Nat.reduceSub, Nat.reduceEqDiff, Int.reduceToNat, reduceCtorEq, ↓reduceIte]; done)
theorem k_laws_alive {r : Bool} (h : laws_alive = some r) :
    FnA Try.prog 10 [] [] [] (fun x H => x = .v (.bool r) ∧ H = []) := by
  unfold laws_alive at h
  refine FnA.of (N := 4) (pin := []) (rs := [.tmp 0]) Try.func10 rfl en10 rfl rfl (by simp) (by simp; try omega) ?_
  refine awp_reg ftCOk [] [] ?_
  replace h := bind_some h
  obtain ⟨y, hr0, h⟩ := h
  try dsimp only at h
  refine awp_to [(0, .v (.bool (y == 7)))] [.row true (.ints .i64 [])] ?_ ?_
  · clear h
    intro K hK
    refine awp_region ftCOk ?_
    simp (maxSteps := 4000000) only [go_sem, Nat.reduceBEq, Nat.reduceLT, Nat.reduceAdd, Nat.reduceLeDiff, Nat.reduceSub, Nat.reduceEqDiff, Int.reduceToNat, reduceCtorEq, ↓reduceIte]
    repeat' (first | refine And.intro ?_ ?_ | intro hg)
    all_goals (try simp (disch := omega) only [wrap_fits])
    all_goals first
      | (refine hK _ _ ?_; exact Red.auto)
      | exact trivial
      | assumption
      | omega
      | exact wrap_fits (by omega) (by omega)
      | (refine wpA_callA (k_impl_CheckSum [] (h := hr0)) [0] [] ?_
         rintro x Hc' ⟨rfl, rfl⟩ hlen
         refine vcOps_sound ftCOk ?_
         simp (maxSteps := 4000000) only [go_sem, Nat.reduceBEq, Nat.reduceLT, Nat.reduceAdd, Nat.reduceLeDiff, Nat.reduceSub, Nat.reduceEqDiff, Int.reduceToNat, reduceCtorEq, ↓reduceIte]
         repeat' (first | refine And.intro ?_ ?_ | intro hg)
         all_goals (try simp (disch := omega) only [wrap_fits])
         all_goals first
           | (refine hK _ _ ?_; exact Red.auto)
           | exact trivial
           | assumption
           | omega
           | exact wrap_fits (by omega) (by omega)
           | (simp_all; done)
           | (simp_all; omega))
      | (simp_all; done)
      | (simp_all; omega)
  · clear hr0
    refine awp_ret ?_
    (try simp only [Thn, InBlk, ↓reduceIte, Nat.reduceEqDiff])
    obtain rfl := Option.some.inj h
    refine ⟨by simp, _, [], (by simp only [go_sem, Nat.reduceBEq, Nat.reduceLT, Nat.reduceAdd, Nat.reduceLeDiff, Nat.reduceSub, Nat.reduceEqDiff, Int.reduceToNat, reduceCtorEq, ↓reduceIte]; exact rfl), ?_, ?_, ?_, ?_⟩
    · first | exact trivial | exact ⟨trivial, trivial⟩ | exact ⟨trivial, trivial, trivial⟩ | exact ⟨trivial, trivial, trivial, trivial⟩ | (simp only [allP, and_true, true_and]; done) | (simp only [allP, and_true, true_and]; omega)
    · simp [selOk, pos]
    · simp
    · first | exact ⟨rfl, rfl⟩ | (simp only [go_sem, Nat.reduceBEq, Nat.reduceLT, Nat.reduceAdd, Nat.reduceLeDiff, Nat.reduceSub, Nat.reduceEqDiff, Int.reduceToNat, reduceCtorEq, ↓reduceIte]; done) | (simp [go_sem, Nat.reduceBEq, Nat.reduceLT, Nat.reduceAdd, Nat.reduceLeDiff, Nat.reduceSub, Nat.reduceEqDiff, Int.reduceToNat, reduceCtorEq, ↓reduceIte]; done) | (simp only [go_sem, Nat.reduceBEq, Nat.reduceLT, Nat.reduceAdd, Nat.reduceLeDiff, Nat.reduceSub, Nat.reduceEqDiff, Int.reduceToNat, reduceCtorEq, ↓reduceIte]; exact ⟨rfl, rfl⟩) | (simp_all [go_sem, Nat.reduceBEq, Nat.reduceLT, Nat.reduceAdd, Nat.reduceLeDiff, Nat.reduceSub, Nat.reduceEqDiff, Int.reduceToNat, reduceCtorEq, ↓reduceIte]; done)
theorem k_laws_FnJoinParts (a0 : List Int) {r : Bool} (h : laws_FnJoinParts a0 = some r) :
    FnA Try.prog 4 [.sl 0] [.row false (.ints .u8 a0)] [] (fun x H => x = .v (.bool r) ∧ H = [.row false (.ints .u8 a0)]) := by
  unfold laws_FnJoinParts at h
  refine FnA.of (N := 96) (pin := [0]) (rs := [.tmp 2]) Try.func4 rfl en4 rfl rfl (by simp) (by simp; try omega) ?_
  refine awp_reg ftCOk [(0, .sl 0)] [.row false (.ints .u8 a0)] ?_
  refine awp_seq fun K2 hK2 => ?_
  refine awp_reg ftCOk [(0, .sl 0), (15, .v (.bool (decide (1048576 < (a0.length : Int)))))] [.row false (.ints .u8 a0)] ?_
  refine awp_cond (t := 15) rfl (fun hc3 => ?_) (fun hc3 => ?_)
  · replace h := bite_t h hc3
    refine awp_reg ftCOk [(2, .v (.bool true))] [.row false (.ints .u8 a0)] ?_
    refine awp_ret ?_
    (try simp only [Thn, InBlk, ↓reduceIte, Nat.reduceEqDiff])
    obtain rfl := Option.some.inj h
    refine ⟨by simp, _, [0], (by simp only [go_sem, Nat.reduceBEq, Nat.reduceLT, Nat.reduceAdd, Nat.reduceLeDiff, Nat.reduceSub, Nat.reduceEqDiff, Int.reduceToNat, reduceCtorEq, ↓reduceIte]; exact rfl), ?_, ?_, ?_, ?_⟩
    · first | exact trivial | exact ⟨trivial, trivial⟩ | exact ⟨trivial, trivial, trivial⟩ | exact ⟨trivial, trivial, trivial, trivial⟩ | (simp only [allP, and_true, true_and]; done) | (simp only [allP, and_true, true_and]; omega)
    · simp [selOk, pos]
    · simp
    · first | exact ⟨rfl, rfl⟩ | (simp only [go_sem, Nat.reduceBEq, Nat.reduceLT, Nat.reduceAdd, Nat.reduceLeDiff, Nat.reduceSub, Nat.reduceEqDiff, Int.reduceToNat, reduceCtorEq, ↓reduceIte]; done) | (simp [go_sem, Nat.reduceBEq, Nat.reduceLT, Nat.reduceAdd, Nat.reduceLeDiff, Nat.reduceSub, Nat.reduceEqDiff, Int.reduceToNat, reduceCtorEq, ↓reduceIte]; done) | (simp only [go_sem, Nat.reduceBEq, Nat.reduceLT, Nat.reduceAdd, Nat.reduceLeDiff, Nat.reduceSub, Nat.reduceEqDiff, Int.reduceToNat, reduceCtorEq, ↓reduceIte]; exact ⟨rfl, rfl⟩) | (simp_all [go_sem, Nat.reduceBEq, Nat.reduceLT, Nat.reduceAdd, Nat.reduceLeDiff, Nat.reduceSub, Nat.reduceEqDiff, Int.reduceToNat, reduceCtorEq, ↓reduceIte]; done)
  · replace h := bite_f h hc3
    refine awp_skip ?_
    (try simp only [Thn, InBlk, ↓reduceIte, Nat.reduceEqDiff])
    refine hK2 _ _ ?_
    clear hK2
    replace h := bind_some h
    obtain ⟨y, hr0, h⟩ := h
    try dsimp only at h
    refine awp_to [(3, .sl 1)] [.row false (.ints .u8 a0), .row true (.graphs y)] ?_ ?_
    · clear h
      intro K hK
      refine awp_region ftCOk ?_
      simp (maxSteps := 4000000) only [go_sem, Nat.reduceBEq, Nat.reduceLT, Nat.reduceAdd, Nat.reduceLeDiff, Nat.reduceSub, Nat.reduceEqDiff, Int.reduceToNat, reduceCtorEq, ↓reduceIte]
      repeat' (first | refine And.intro ?_ ?_ | intro hg)
      all_goals (try simp (disch := omega) only [wrap_fits])
      all_goals first
        | (refine hK _ _ ?_; exact Red.auto)
        | exact trivial
        | assumption
        | omega
        | exact wrap_fits (by omega) (by omega)
        | (refine wpA_callA (k_spec_DrawJoinParts a0 (h := hr0)) [0] [] ?_
           rintro x Hc' ⟨rfl, rfl⟩ hlen
           refine vcOps_sound ftCOk ?_
           simp (maxSteps := 4000000) only [go_sem, Nat.reduceBEq, Nat.reduceLT, Nat.reduceAdd, Nat.reduceLeDiff, Nat.reduceSub, Nat.reduceEqDiff, Int.reduceToNat, reduceCtorEq, ↓reduceIte]
           repeat' (first | refine And.intro ?_ ?_ | intro hg)
           all_goals (try simp (disch := omega) only [wrap_fits])
           all_goals first
             | (refine hK _ _ ?_; exact Red.auto)
             | exact trivial
             | assumption
             | omega
             | exact wrap_fits (by omega) (by omega)
             | (simp_all; done)
             | (simp_all; omega))
        | (simp_all; done)
        | (simp_all; omega)
    · clear hr0
      replace h := bind_some h
      obtain ⟨⟨y_1, y_2, y_3⟩, hr0, h⟩ := h
      try dsimp only at h
      refine awp_to [(3, .sl 1), (4, .pp 3 0), (5, .v (.bool y_3))] [.row false (.ints .u8 a0), .row true (.graphs y), .row true (.trips y_2), .box [.v (.int .i64 y_1), .sl 2]] ?_ ?_
      · clear h
        intro K hK
        refine awp_region ftCOk ?_
        simp (maxSteps := 4000000) only [go_sem, Nat.reduceBEq, Nat.reduceLT, Nat.reduceAdd, Nat.reduceLeDiff, Nat.reduceSub, Nat.reduceEqDiff, Int.reduceToNat, reduceCtorEq, ↓reduceIte]
        repeat' (first | refine And.intro ?_ ?_ | intro hg)
        all_goals (try simp (disch := omega) only [wrap_fits])
        all_goals first
          | (refine hK _ _ ?_; exact Red.auto)
          | exact trivial
          | assumption
          | omega
          | exact wrap_fits (by omega) (by omega)
          | (refine wpA_callA (k_impl_JoinParts y (h := hr0)) [1] [] ?_
             rintro x Hc' ⟨rfl, rfl⟩ hlen
             refine vcOps_sound ftCOk ?_
             simp (maxSteps := 4000000) only [go_sem, Nat.reduceBEq, Nat.reduceLT, Nat.reduceAdd, Nat.reduceLeDiff, Nat.reduceSub, Nat.reduceEqDiff, Int.reduceToNat, reduceCtorEq, ↓reduceIte]
             repeat' (first | refine And.intro ?_ ?_ | intro hg)
             all_goals (try simp (disch := omega) only [wrap_fits])
             all_goals first
               | (refine hK _ _ ?_; exact Red.auto)
               | exact trivial
               | assumption
               | omega
               | exact wrap_fits (by omega) (by omega)
               | (simp_all; done)
               | (simp_all; omega))
          | (simp_all; done)
          | (simp_all; omega)
      · clear hr0
        replace h := bind_some h
        obtain ⟨⟨y_4, y_5, y_6⟩, hr0, h⟩ := h
        try dsimp only at h
        refine awp_to [(3, .sl 1), (4, .pp 3 0), (5, .v (.bool y_3)), (6, .pp 5 0), (7, .v (.bool y_6))] [.row false (.ints .u8 a0), .row true (.graphs y), .row true (.trips y_2), .box [.v (.int .i64 y_1), .sl 2], .row true (.trips y_5), .box [.v (.int .i64 y_4), .sl 4]] ?_ ?_
        · clear h
          intro K hK
          refine awp_region ftCOk ?_
          simp (maxSteps := 4000000) only [go_sem, Nat.reduceBEq, Nat.reduceLT, Nat.reduceAdd, Nat.reduceLeDiff, Nat.reduceSub, Nat.reduceEqDiff, Int.reduceToNat, reduceCtorEq, ↓reduceIte]
          repeat' (first | refine And.intro ?_ ?_ | intro hg)
          all_goals (try simp (disch := omega) only [wrap_fits])
          all_goals first
            | (refine hK _ _ ?_; exact Red.auto)
            | exact trivial
            | assumption
            | omega
            | exact wrap_fits (by omega) (by omega)
            | (refine wpA_callA (k_spec_JoinParts y (h := hr0)) [1] [] ?_
               rintro x Hc' ⟨rfl, rfl⟩ hlen
               refine vcOps_sound ftCOk ?_
               simp (maxSteps := 4000000) only [go_sem, Nat.reduceBEq, Nat.reduceLT, Nat.reduceAdd, Nat.reduceLeDiff, Nat.reduceSub, Nat.reduceEqDiff, Int.reduceToNat, reduceCtorEq, ↓reduceIte]
               repeat' (first | refine And.intro ?_ ?_ | intro hg)
               all_goals (try simp (disch := omega) only [wrap_fits])
               all_goals first
                 | (refine hK _ _ ?_; exact Red.auto)
                 | exact trivial
                 | assumption
                 | omega
                 | exact wrap_fits (by omega) (by omega)
                 | (simp_all; done)
                 | (simp_all; omega))
            | (simp_all; done)
            | (simp_all; omega)
        · clear hr0
          refine awp_seq fun K5 hK5 => ?_
          replace h := bind_some h
          obtain ⟨y_7, hr0, h⟩ := h
          try dsimp only at h
          refine awp_to [(3, .sl 1), (4, .pp 3 0), (5, .v (.bool y_3)), (36, .v (.bool ((!y_7) || (!(y_3 == y_6)))))] [.row false (.ints .u8 a0), .row true (.graphs y), .row true (.trips y_2), .box [.v (.int .i64 y_1), .sl 2], .row true (.trips y_5), .box [.v (.int .i64 y_4), .sl 4]] ?_ ?_
          · clear h
            intro K hK
            refine awp_region ftCOk ?_
            simp (maxSteps := 4000000) only [go_sem, Nat.reduceBEq, Nat.reduceLT, Nat.reduceAdd, Nat.reduceLeDiff, Nat.reduceSub, Nat.reduceEqDiff, Int.reduceToNat, reduceCtorEq, ↓reduceIte]
            repeat' (first | refine And.intro ?_ ?_ | intro hg)
            all_goals (try simp (disch := omega) only [wrap_fits])
            all_goals first
              | (refine hK _ _ ?_; exact Red.auto)
              | exact trivial
              | assumption
              | omega
              | exact wrap_fits (by omega) (by omega)
              | (refine wpA_callA (k_laws_sameGraph y_1 y_2 y_4 y_5 (h := hr0)) [2, 4] [] ?_
                 rintro x Hc' ⟨rfl, rfl⟩ hlen
                 refine vcOps_sound ftCOk ?_
                 simp (maxSteps := 4000000) only [go_sem, Nat.reduceBEq, Nat.reduceLT, Nat.reduceAdd, Nat.reduceLeDiff, Nat.reduceSub, Nat.reduceEqDiff, Int.reduceToNat, reduceCtorEq, ↓reduceIte]
                 repeat' (first | refine And.intro ?_ ?_ | intro hg)
                 all_goals (try simp (disch := omega) only [wrap_fits])
                 all_goals first
                   | (refine hK _ _ ?_; exact Red.auto)
                   | exact trivial
                   | assumption
                   | omega
                   | exact wrap_fits (by omega) (by omega)
                   | (simp_all; done)
                   | (simp_all; omega))
              | (simp_all; done)
              | (simp_all; omega)
          · clear hr0
            refine awp_cond (t := 36) rfl (fun hc6 => ?_) (fun hc6 => ?_)
            · replace h := bite_t h hc6
              refine awp_reg ftCOk [(2, .v (.bool false))] [.row false (.ints .u8 a0), .row true (.graphs y), .row true (.trips y_2), .box [.v (.int .i64 y_1), .sl 2], .row true (.trips y_5), .box [.v (.int .i64 y_4), .sl 4]] ?_
              refine awp_ret ?_
              (try simp only [Thn, InBlk, ↓reduceIte, Nat.reduceEqDiff])
              obtain rfl := Option.some.inj h
              refine ⟨by simp, _, [0], (by simp only [go_sem, Nat.reduceBEq, Nat.reduceLT, Nat.reduceAdd, Nat.reduceLeDiff, Nat.reduceSub, Nat.reduceEqDiff, Int.reduceToNat, reduceCtorEq, ↓reduceIte]; exact rfl), ?_, ?_, ?_, ?_⟩
              · first | exact trivial | exact ⟨trivial, trivial⟩ | exact ⟨trivial, trivial, trivial⟩ | exact ⟨trivial, trivial, trivial, trivial⟩ | (simp only [allP, and_true, true_and]; done) | (simp only [allP, and_true, true_and]; omega)
              · simp [selOk, pos]
              · simp
              · first | exact ⟨rfl, rfl⟩ | (simp only [go_sem, Nat.reduceBEq, Nat.reduceLT, Nat.reduceAdd, Nat.reduceLeDiff, Nat.reduceSub, Nat.reduceEqDiff, Int.reduceToNat, reduceCtorEq, ↓reduceIte]; done) | (simp [go_sem, Nat.reduceBEq, Nat.reduceLT, Nat.reduceAdd, Nat.reduceLeDiff, Nat.reduceSub, Nat.reduceEqDiff, Int.reduceToNat, reduceCtorEq, ↓reduceIte]; done) | (simp only [go_sem, Nat.reduceBEq, Nat.reduceLT, Nat.reduceAdd, Nat.reduceLeDiff, Nat.reduceSub, Nat.reduceEqDiff, Int.reduceToNat, reduceCtorEq, ↓reduceIte]; exact ⟨rfl, rfl⟩) | (simp_all [go_sem, Nat.reduceBEq, Nat.reduceLT, Nat.reduceAdd, Nat.reduceLeDiff, Nat.reduceSub, Nat.reduceEqDiff, Int.reduceToNat, reduceCtorEq, ↓reduceIte]; done)
            · replace h := bite_f h hc6
              refine awp_skip ?_
              (try simp only [Thn, InBlk, ↓reduceIte, Nat.reduceEqDiff])
              refine hK5 _ _ ?_
              clear hK5
              refine awp_seq fun K8 hK8 => ?_
              refine awp_reg ftCOk [(3, .sl 1), (4, .pp 3 0), (38, .v (.bool (!y_3)))] [.row false (.ints .u8 a0), .row true (.graphs y), .row true (.trips y_2), .box [.v (.int .i64 y_1), .sl 2], .row true (.trips y_5), .box [.v (.int .i64 y_4), .sl 4]] ?_
              refine awp_cond (t := 38) rfl (fun hc9 => ?_) (fun hc9 => ?_)
              · replace h := bite_t h hc9
                replace h := bind_some h
                obtain ⟨y_8, hr0, h⟩ := h
                try dsimp only at h
                refine awp_to [(2, .v (.bool (((y_1 == 0) && ((y_2.length : Int) == 0)) && y_8)))] [.row false (.ints .u8 a0), .row true (.graphs y), .row true (.trips y_2), .box [.v (.int .i64 y_1), .sl 2], .row true (.trips y_5), .box [.v (.int .i64 y_4), .sl 4]] ?_ ?_
                · clear h
                  intro K hK
                  refine awp_regionA ?_
                  refine wpA_cutAt 9 [(47, .v (.bool ((y_1 == 0) && ((y_2.length : Int) == 0))))] [.row false (.ints .u8 a0), .row true (.graphs y), .row true (.trips y_2), .box [.v (.int .i64 y_1), .sl 2], .row true (.trips y_5), .box [.v (.int .i64 y_4), .sl 4]] ?_ ?_
                  · clear hK K
                    intro K hK
                    refine vcOps_sound ftCOk ?_
                    simp (maxSteps := 4000000) only [go_sem, Nat.reduceBEq, Nat.reduceLT, Nat.reduceAdd, Nat.reduceLeDiff, Nat.reduceSub, Nat.reduceEqDiff, Int.reduceToNat, reduceCtorEq, ↓reduceIte]
                    repeat' (first | refine And.intro ?_ ?_ | intro hg)
                    all_goals (try simp (disch := omega) only [wrap_fits])
                    all_goals first
                      | (refine hK _ _ ?_; exact Red.auto)
                      | exact trivial
                      | assumption
                      | omega
                      | exact wrap_fits (by omega) (by omega)
                      | (simp_all; done)
                      | (simp_all; omega)
                  refine vcOps_sound ftCOk ?_
                  simp (maxSteps := 4000000) only [go_sem, Nat.reduceBEq, Nat.reduceLT, Nat.reduceAdd, Nat.reduceLeDiff, Nat.reduceSub, Nat.reduceEqDiff, Int.reduceToNat, reduceCtorEq, ↓reduceIte]
                  repeat' (first | refine And.intro ?_ ?_ | intro hg)
                  all_goals (try simp (disch := omega) only [wrap_fits])
                  all_goals first
                    | (refine hK _ _ ?_; exact Red.auto)
                    | exact trivial
                    | assumption
                    | omega
                    | exact wrap_fits (by omega) (by omega)
                    | (refine wpA_guard rfl rfl ?_
                       refine wpA_callA (k_laws_alive  (h := (bite_t hr0 (by first | assumption | (simp only [*, Bool.false_or, Bool.true_or, Bool.or_false, Bool.or_true, Bool.false_and, Bool.true_and, Bool.and_false, Bool.and_true, Bool.not_true, Bool.not_false, beq_self_eq_true]; done) | (simp_all; done))))) [] [] ?_
                       rintro x Hc' ⟨rfl, rfl⟩ hlen
                       refine vcOps_sound ftCOk ?_
                       simp (maxSteps := 4000000) only [go_sem, Nat.reduceBEq, Nat.reduceLT, Nat.reduceAdd, Nat.reduceLeDiff, Nat.reduceSub, Nat.reduceEqDiff, Int.reduceToNat, reduceCtorEq, ↓reduceIte]
                       repeat' (first | refine And.intro ?_ ?_ | intro hg)
                       all_goals (try simp (disch := omega) only [wrap_fits])
                       all_goals first
                         | (refine hK _ _ ?_; exact Red.auto)
                         | exact trivial
                         | assumption
                         | omega
                         | exact wrap_fits (by omega) (by omega)
                         | (simp_all; done)
                         | (simp_all; omega))
                    | (simp_all; done)
                    | (simp_all; omega)
                · clear hr0
                  refine awp_ret ?_
                  (try simp only [Thn, InBlk, ↓reduceIte, Nat.reduceEqDiff])
                  obtain rfl := Option.some.inj h
                  refine ⟨by simp, _, [0], (by simp only [go_sem, Nat.reduceBEq, Nat.reduceLT, Nat.reduceAdd, Nat.reduceLeDiff, Nat.reduceSub, Nat.reduceEqDiff, Int.reduceToNat, reduceCtorEq, ↓reduceIte]; exact rfl), ?_, ?_, ?_, ?_⟩
                  · first | exact trivial | exact ⟨trivial, trivial⟩ | exact ⟨trivial, trivial, trivial⟩ | exact ⟨trivial, trivial, trivial, trivial⟩ | (simp only [allP, and_true, true_and]; done) | (simp only [allP, and_true, true_and]; omega)
                  · simp [selOk, pos]
                  · simp
                  · first | exact ⟨rfl, rfl⟩ | (simp only [go_sem, Nat.reduceBEq, Nat.reduceLT, Nat.reduceAdd, Nat.reduceLeDiff, Nat.reduceSub, Nat.reduceEqDiff, Int.reduceToNat, reduceCtorEq, ↓reduceIte]; done) | (simp [go_sem, Nat.reduceBEq, Nat.reduceLT, Nat.reduceAdd, Nat.reduceLeDiff, Nat.reduceSub, Nat.reduceEqDiff, Int.reduceToNat, reduceCtorEq, ↓reduceIte]; done) | (simp only [go_sem, Nat.reduceBEq, Nat.reduceLT, Nat.reduceAdd, Nat.reduceLeDiff, Nat.reduceSub, Nat.reduceEqDiff, Int.reduceToNat, reduceCtorEq, ↓reduceIte]; exact ⟨rfl, rfl⟩) | (simp_all [go_sem, Nat.reduceBEq, Nat.reduceLT, Nat.reduceAdd, Nat.reduceLeDiff, Nat.reduceSub, Nat.reduceEqDiff, Int.reduceToNat, reduceCtorEq, ↓reduceIte]; done)
              · replace h := bite_f h hc9
                refine awp_skip ?_
                (try simp only [Thn, InBlk, ↓reduceIte, Nat.reduceEqDiff])
                refine hK8 _ _ ?_
                clear hK8
                refine awp_freezeRow 3 (by rfl) (by rfl) (by exact rfl) ?_
                refine awp_reg ftCOk [(3, .sl 1), (4, .pp 3 0), (8, .sl 6)] [.row false (.ints .u8 a0), .row false (.graphs y), .row true (.trips y_2), .box [.v (.int .i64 y_1), .sl 2], .row true (.trips y_5), .box [.v (.int .i64 y_4), .sl 4], .row true (.graphs [])] ?_
                refine awp_toMix 8 (by rfl) (by rfl) (by exact rfl) ?_
                refine awp_reg ftCOk [(3, .sl 1), (4, .pp 3 0), (8, .sl 6), (9, .v (.int .i64 0))] [.row false (.ints .u8 a0), .row false (.graphs y), .row true (.trips y_2), .box [.v (.int .i64 y_1), .sl 2], .row true (.trips y_5), .box [.v (.int .i64 y_4), .sl 4], .mix []] ?_
                refine awp_seq fun K35 hK35 => ?_
                replace h := chk_some h
                obtain ⟨hp0, h⟩ := h
                have hwhp0 := wrap_fits hp0.1 hp0.2
                refine awp_reg ftCOk [(3, .sl 1), (4, .pp 3 0), (8, .sl 6), (9, .v (.int .i64 0)), (10, .v (.int .i64 ((y.length : Int) - 1)))] [.row false (.ints .u8 a0), .row false (.graphs y), .row true (.trips y_2), .box [.v (.int .i64 y_1), .sl 2], .row true (.trips y_5), .box [.v (.int .i64 y_4), .sl 4], .mix []] ?_
                clear hp0
                refine awp_block ?_
                replace h := bind_some h
                obtain ⟨x60, hx, h⟩ := h
                refine awp_loopL hx (fun ((t9, t10, t8s) : Int × Int × (List (Int × List (Int × Int × Int)))) => [(3, .sl 1), (4, .pp 2 0), (8, .sl 4), (9, .v (.int .i64 t9)), (10, .v (.int .i64 t10))]) (fun ((t9, t10, t8s) : Int × Int × (List (Int × List (Int × Int × Int)))) => [.row false (.ints .u8 a0), .row false (.graphs y), .box [.v (.int .i64 y_1), .sl 3], .row true (.trips y_2), .mix t8s]) (fun ((t9_1, t8s_1) : Int × (List (Int × List (Int × Int × Int)))) => Exit.exit 0) (fun ((t9_1, t8s_1) : Int × (List (Int × List (Int × Int × Int)))) => [(4, .pp 1 0), (8, .sl 3), (9, .v (.int .i64 t9_1))]) (fun ((t9_1, t8s_1) : Int × (List (Int × List (Int × Int × Int)))) => [.row false (.ints .u8 a0), .box [.v (.int .i64 y_1), .sl 2], .row true (.trips y_2), .mix t8s_1]) ?_ ?_ ?_ ?_
                · rintro ⟨t9_1, t8s_1⟩ hy <;> cases hy
                · clear h hx
                  exact Red.selA [0, 1, 3, 2, 6] Red.auto
                · clear h hx
                  rintro ⟨t9, t10, t8s⟩ r h
                  unfold laws_FnJoinParts_b0 at h
                  try dsimp only at h
                  try dsimp only
                  refine awp_seq fun K53 hK53 => ?_
                  refine awp_reg ftCOk [(3, .sl 1), (4, .pp 2 0), (8, .sl 4), (9, .v (.int .i64 t9)), (10, .v (.int .i64 t10)), (56, .v (.bool (decide (0 ≤ t10))))] [.row false (.ints .u8 a0), .row false (.graphs y), .box [.v (.int .i64 y_1), .sl 3], .row true (.trips y_2), .mix t8s] ?_
                  refine awp_cond (t := 56) rfl (fun hc54 => ?_) (fun hc54 => ?_)
                  · replace h := bite_t h hc54
                    refine awp_skip ?_
                    (try simp only [Thn, InBlk, ↓reduceIte, Nat.reduceEqDiff])
                    refine hK53 _ _ ?_
                    clear hK53
                    refine awp_seq fun K57 hK57 => ?_
                    refine awp_block ?_
                    replace h := chk_some h
                    obtain ⟨hpt59, h⟩ := h
                    refine awp_take 1 t10.toNat 1 (by rfl) (by exact hpt59) (by rfl) (by exact rfl) ?_
                    clear hpt59
                    replace h := chk_some h
                    obtain ⟨hp0, h⟩ := h
                    replace h := chk_some h
                    obtain ⟨hp1, h⟩ := h
                    refine awp_reg ftCOk [(3, .sl 1), (4, .pp 2 0), (8, .sl 4), (9, .v (.int .i64 t9)), (10, .v (.int .i64 t10))] [.row false (.ints .u8 a0), .tak false (.graphs y) t10.toNat 1 (some 5), .box [.v (.int .i64 y_1), .sl 3], .row true (.trips y_2), .mix (t8s ++ [((y.getD t10.toNat (0, [])).1, (y.getD t10.toNat (0, [])).2)]), .row false (.trips ((y.getD t10.toNat (0, [])).2)), .mix [((y.getD t10.toNat (0, [])).1, (y.getD t10.toNat (0, [])).2)]] ?_
                    clear hp0 hp1
                    refine awp_put 1 5 (by rfl) (by rfl) (Cont.setChild_self (by rfl)) (by exact rfl) ?_
                    replace h := chk_some h
                    obtain ⟨hpt58, h⟩ := h
                    refine awp_take 1 t10.toNat 1 (by rfl) (by exact hpt58) (by rfl) (by exact rfl) ?_
                    clear hpt58
                    replace h := chk_some h
                    obtain ⟨hp0, h⟩ := h
                    replace h := chk_some h
                    obtain ⟨hp1, h⟩ := h
                    refine awp_regE ftCOk [(3, .sl 1), (4, .pp 2 0), (8, .sl 4), (9, .v (.int .i64 (t9 + (((y.getD t10.toNat (0, [])).2).length : Int)))), (10, .v (.int .i64 t10))] [.row false (.ints .u8 a0), .tak false (.graphs y) t10.toNat 1 (some 7), .box [.v (.int .i64 y_1), .sl 3], .row true (.trips y_2), .mix (t8s ++ [((y.getD t10.toNat (0, [])).1, (y.getD t10.toNat (0, [])).2)]), .row false (.trips ((y.getD t10.toNat (0, [])).2)), .mix [((y.getD t10.toNat (0, [])).1, (y.getD t10.toNat (0, [])).2)], .row false (.trips ((y.getD t10.toNat (0, [])).2))] ?_
                    clear hp0 hp1
                    (try simp only [Thn, InBlk, ↓reduceIte, Nat.reduceEqDiff])
                    (try simp only [Thn, InBlk, ↓reduceIte, Nat.reduceEqDiff])
                    refine hK57 _ _ ?_
                    clear hK57
                    refine awp_put 1 7 (by rfl) (by rfl) (Cont.setChild_self (by rfl)) (by exact rfl) ?_
                    replace h := chk_some h
                    obtain ⟨hp0, h⟩ := h
                    have hwhp0 := wrap_fits hp0.1 hp0.2
                    refine awp_regE ftCOk [(3, .sl 1), (4, .pp 2 0), (8, .sl 4), (9, .v (.int .i64 (t9 + (((y.getD t10.toNat (0, [])).2).length : Int)))), (10, .v (.int .i64 (t10 - 1)))] [.row false (.ints .u8 a0), .row false (.graphs y), .box [.v (.int .i64 y_1), .sl 3], .row true (.trips y_2), .mix (t8s ++ [((y.getD t10.toNat (0, [])).1, (y.getD t10.toNat (0, [])).2)]), .row false (.trips ((y.getD t10.toNat (0, [])).2)), .mix [((y.getD t10.toNat (0, [])).1, (y.getD t10.toNat (0, [])).2)], .row false (.trips ((y.getD t10.toNat (0, [])).2))] ?_
                    clear hp0
                    obtain rfl := Option.some.inj h
                    refine LoopQ.next ?_
                    exact Red.selA [0, 1, 2, 3, 4] Red.auto
                  · replace h := bite_f h hc54
                    refine awp_exit ?_
                    (try simp only [Thn, InBlk, ↓reduceIte, Nat.reduceEqDiff])
                    obtain rfl := Option.some.inj h
                    refine LoopQ.out rfl ?_
                    exact Red.selA [0, 2, 3, 4] Red.auto
                · clear hx
                  rcases x60 with ⟨t9_1, t8s_1⟩
                  · try dsimp only [Sum.elim_inl, Sum.elim_inr] at h
                    try dsimp only [Sum.elim_inl, Sum.elim_inr]
                    (try simp only [Thn, InBlk, ↓reduceIte, Nat.reduceEqDiff])
                    (try simp only [Thn, InBlk, ↓reduceIte, Nat.reduceEqDiff])
                    (try simp only [Thn, InBlk, ↓reduceIte, Nat.reduceEqDiff])
                    refine hK35 _ _ ?_
                    clear hK35
                    refine awp_freezeMix 8 (by rfl) (by rfl) (by exact rfl) ?_
                    replace h := bind_some h
                    obtain ⟨⟨y_9, y_10, y_11⟩, hr0, h⟩ := h
                    try dsimp only at h
                    refine awp_to [(4, .pp 1 0), (9, .v (.int .i64 t9_1)), (11, .pp 5 0), (12, .v (.bool y_11))] [.row false (.ints .u8 a0), .box [.v (.int .i64 y_1), .sl 2], .row true (.trips y_2), .row false (.graphs t8s_1), .row true (.trips y_10), .box [.v (.int .i64 y_9), .sl 4]] ?_ ?_
                    · clear h
                      intro K hK
                      refine awp_region ftCOk ?_
                      simp (maxSteps := 4000000) only [go_sem, Nat.reduceBEq, Nat.reduceLT, Nat.reduceAdd, Nat.reduceLeDiff, Nat.reduceSub, Nat.reduceEqDiff, Int.reduceToNat, reduceCtorEq, ↓reduceIte]
                      repeat' (first | refine And.intro ?_ ?_ | intro hg)
                      all_goals (try simp (disch := omega) only [wrap_fits])
                      all_goals first
                        | (refine hK _ _ ?_; exact Red.auto)
                        | exact trivial
                        | assumption
                        | omega
                        | exact wrap_fits (by omega) (by omega)
                        | (refine wpA_callA (k_impl_JoinParts t8s_1 (h := hr0)) [3] [] ?_
                           rintro x Hc' ⟨rfl, rfl⟩ hlen
                           refine vcOps_sound ftCOk ?_
                           simp (maxSteps := 4000000) only [go_sem, Nat.reduceBEq, Nat.reduceLT, Nat.reduceAdd, Nat.reduceLeDiff, Nat.reduceSub, Nat.reduceEqDiff, Int.reduceToNat, reduceCtorEq, ↓reduceIte]
                           repeat' (first | refine And.intro ?_ ?_ | intro hg)
                           all_goals (try simp (disch := omega) only [wrap_fits])
                           all_goals first
                             | (refine hK _ _ ?_; exact Red.auto)
                             | exact trivial
                             | assumption
                             | omega
                             | exact wrap_fits (by omega) (by omega)
                             | (simp_all; done)
                             | (simp_all; omega))
                        | (simp_all; done)
                        | (simp_all; omega)
                    · clear hr0
                      replace h := bind_some h
                      obtain ⟨y_12, hr0, h⟩ := h
                      try dsimp only at h
                      replace h := bind_some h
                      obtain ⟨y_13, hr1, h⟩ := h
                      try dsimp only at h
                      refine awp_to [(2, .v (.bool (((y_12 && y_11) && y_13) && ((y_2.length : Int) == t9_1))))] [.row false (.ints .u8 a0), .box [.v (.int .i64 y_1), .sl 2], .row true (.trips y_2), .row false (.graphs t8s_1), .row true (.trips y_10), .box [.v (.int .i64 y_9), .sl 4]] ?_ ?_
                      · clear h
                        intro K hK
                        refine awp_regionA ?_
                        refine wpA_cutAt 5 [(4, .pp 1 0), (9, .v (.int .i64 t9_1)), (11, .pp 5 0), (83, .v (.bool (y_12 && y_11)))] [.row false (.ints .u8 a0), .box [.v (.int .i64 y_1), .sl 2], .row true (.trips y_2), .row false (.graphs t8s_1), .row true (.trips y_10), .box [.v (.int .i64 y_9), .sl 4]] ?_ ?_
                        · clear hK K
                          intro K hK
                          refine vcOps_sound ftCOk ?_
                          simp (maxSteps := 4000000) only [go_sem, Nat.reduceBEq, Nat.reduceLT, Nat.reduceAdd, Nat.reduceLeDiff, Nat.reduceSub, Nat.reduceEqDiff, Int.reduceToNat, reduceCtorEq, ↓reduceIte]
                          repeat' (first | refine And.intro ?_ ?_ | intro hg)
                          all_goals (try simp (disch := omega) only [wrap_fits])
                          all_goals first
                            | (refine hK _ _ ?_; exact Red.auto)
                            | exact trivial
                            | assumption
                            | omega
                            | exact wrap_fits (by omega) (by omega)
                            | (refine wpA_callA (k_impl_GraphValid y_1 y_2 (h := hr0)) [2] [] ?_
                               rintro x Hc' ⟨rfl, rfl⟩ hlen
                               refine vcOps_sound ftCOk ?_
                               simp (maxSteps := 4000000) only [go_sem, Nat.reduceBEq, Nat.reduceLT, Nat.reduceAdd, Nat.reduceLeDiff, Nat.reduceSub, Nat.reduceEqDiff, Int.reduceToNat, reduceCtorEq, ↓reduceIte]
                               repeat' (first | refine And.intro ?_ ?_ | intro hg)
                               all_goals (try simp (disch := omega) only [wrap_fits])
                               all_goals first
                                 | (refine hK _ _ ?_; exact Red.auto)
                                 | exact trivial
                                 | assumption
                                 | omega
                                 | exact wrap_fits (by omega) (by omega)
                                 | (simp_all; done)
                                 | (simp_all; omega))
                            | (simp_all; done)
                            | (simp_all; omega)
                        refine wpA_cutAt 5 [(4, .pp 1 0), (9, .v (.int .i64 t9_1)), (88, .v (.bool ((y_12 && y_11) && y_13)))] [.row false (.ints .u8 a0), .box [.v (.int .i64 y_1), .sl 2], .row true (.trips y_2), .row false (.graphs t8s_1), .row true (.trips y_10), .box [.v (.int .i64 y_9), .sl 4]] ?_ ?_
                        · clear hK K
                          intro K hK
                          refine vcOps_sound ftCOk ?_
                          simp (maxSteps := 4000000) only [go_sem, Nat.reduceBEq, Nat.reduceLT, Nat.reduceAdd, Nat.reduceLeDiff, Nat.reduceSub, Nat.reduceEqDiff, Int.reduceToNat, reduceCtorEq, ↓reduceIte]
                          repeat' (first | refine And.intro ?_ ?_ | intro hg)
                          all_goals (try simp (disch := omega) only [wrap_fits])
                          all_goals first
                            | (refine hK _ _ ?_; exact Red.auto)
                            | exact trivial
                            | assumption
                            | omega
                            | exact wrap_fits (by omega) (by omega)
                            | (refine wpA_guard rfl rfl ?_
                               refine wpA_callA (k_laws_sameGraph y_9 y_10 y_1 y_2 (h := (bite_t hr1 (by first | assumption | (simp only [*, Bool.false_or, Bool.true_or, Bool.or_false, Bool.or_true, Bool.false_and, Bool.true_and, Bool.and_false, Bool.and_true, Bool.not_true, Bool.not_false, beq_self_eq_true]; done) | (simp_all; done))))) [4, 2] [] ?_
                               rintro x Hc' ⟨rfl, rfl⟩ hlen
                               refine vcOps_sound ftCOk ?_
                               simp (maxSteps := 4000000) only [go_sem, Nat.reduceBEq, Nat.reduceLT, Nat.reduceAdd, Nat.reduceLeDiff, Nat.reduceSub, Nat.reduceEqDiff, Int.reduceToNat, reduceCtorEq, ↓reduceIte]
                               repeat' (first | refine And.intro ?_ ?_ | intro hg)
                               all_goals (try simp (disch := omega) only [wrap_fits])
                               all_goals first
                                 | (refine hK _ _ ?_; exact Red.auto)
                                 | exact trivial
                                 | assumption
                                 | omega
                                 | exact wrap_fits (by omega) (by omega)
                                 | (simp_all; done)
                                 | (simp_all; omega))
                            | (simp_all; done)
                            | (simp_all; omega)
                        refine vcOps_sound ftCOk ?_
                        simp (maxSteps := 4000000) only [go_sem, Nat.reduceBEq, Nat.reduceLT, Nat.reduceAdd, Nat.reduceLeDiff, Nat.reduceSub, Nat.reduceEqDiff, Int.reduceToNat, reduceCtorEq, ↓reduceIte]
                        repeat' (first | refine And.intro ?_ ?_ | intro hg)
                        all_goals (try simp (disch := omega) only [wrap_fits])
                        all_goals first
                          | (refine hK _ _ ?_; exact Red.auto)
                          | exact trivial
                          | assumption
                          | omega
                          | exact wrap_fits (by omega) (by omega)
                          | (simp_all; done)
                          | (simp_all; omega)
                      · clear hr0 hr1
                        refine awp_ret ?_
                        (try simp only [Thn, InBlk, ↓reduceIte, Nat.reduceEqDiff])
                        obtain rfl := Option.some.inj h
                        refine ⟨by simp, _, [0], (by simp only [go_sem, Nat.reduceBEq, Nat.reduceLT, Nat.reduceAdd, Nat.reduceLeDiff, Nat.reduceSub, Nat.reduceEqDiff, Int.reduceToNat, reduceCtorEq, ↓reduceIte]; exact rfl), ?_, ?_, ?_, ?_⟩
                        · first | exact trivial | exact ⟨trivial, trivial⟩ | exact ⟨trivial, trivial, trivial⟩ | exact ⟨trivial, trivial, trivial, trivial⟩ | (simp only [allP, and_true, true_and]; done) | (simp only [allP, and_true, true_and]; omega)
                        · simp [selOk, pos]
                        · simp
                        · first | exact ⟨rfl, rfl⟩ | (simp only [go_sem, Nat.reduceBEq, Nat.reduceLT, Nat.reduceAdd, Nat.reduceLeDiff, Nat.reduceSub, Nat.reduceEqDiff, Int.reduceToNat, reduceCtorEq, ↓reduceIte]; done) | (simp [go_sem, Nat.reduceBEq, Nat.reduceLT, Nat.reduceAdd, Nat.reduceLeDiff, Nat.reduceSub, Nat.reduceEqDiff, Int.reduceToNat, reduceCtorEq, ↓reduceIte]; done) | (simp only [go_sem, Nat.reduceBEq, Nat.reduceLT, Nat.reduceAdd, Nat.reduceLeDiff, Nat.reduceSub, Nat.reduceEqDiff, Int.reduceToNat, reduceCtorEq, ↓reduceIte]; exact ⟨rfl, rfl⟩) | (simp_all [go_sem, Nat.reduceBEq, Nat.reduceLT, Nat.reduceAdd, Nat.reduceLeDiff, Nat.reduceSub, Nat.reduceEqDiff, Int.reduceToNat, reduceCtorEq, ↓reduceIte]; done)
end Go.Proofs.Ytmcdlohjjbmimaa
