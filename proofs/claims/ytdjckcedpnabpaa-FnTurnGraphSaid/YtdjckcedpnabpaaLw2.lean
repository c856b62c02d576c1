/- The code computes the functions that were taken out of it. -/
import Derived.Test.YtdjckcedpnabpaaLw1
set_option maxRecDepth 100000
set_option maxHeartbeats 4000000
set_option linter.unusedSimpArgs false
set_option linter.unusedVariables false
namespace Go.Proofs.Ytdjckcedpnabpaa
open Go Go.Av
attribute [local irreducible] wpA OpK awp
attribute [local go_sem] frs_nil frs_cons pw8_32 pw16_32 pw24_32 pw27_32 eqAgg eqAggV buildQ placesOf buildCells List.toList_toArray vcQg gfind gfree gput un3_agg unI_int unB_bool unK_int guardU skipV resVs resV vcD_nil vcD_cons vcT_fin vcT_free vcT_one vcT_two opS vcD1 roH roOb ftNone ftAdd oneOrTup AV.detup AV.ren AV.ren2 AV.ren1 pos selH AObj.ren fitAll fit fit1 fit1s matchAll matchOb exIds AObj.excl Env.killp pastH setAll upId AObj.past AObj.back AV.killp AV.killp1 AV.killp2 Nat.sub_self Nat.lt_irrefl Bool.or_self vcOps vcOp vcQs vcQ dstOk quiet eff pcall calleeF plain valsOf ev ofConst argEnv List.lookup Nat.add_eq decide_true decide_false Env.put binV wrapTo unV convV loadQ indexQ callQ builtinQ rd rdI globC AObj.globC partAV isAggD isArrayD addrAdd boxE storeE storeCE makeE makeNE buildNE nestZero Cont.child Cont.setChild buildSliceE buildFold appendE appendNE nestApp appendV promoteH sliceE boundAV subObj asCells Value.oneCell' contZero Cont.sets Cont.app Cont.sub Cont.len Cont.esz Cont.cell Cont.cells Cont.flat AV.det AV.det1 guardV AObj.unview AObj.kill Env.kill AV.kill AV.kill1 AV.kill2 fits64 Option.getD_some Option.getD_none Option.map_some Option.map_none Option.bind_some List.map_cons List.map_nil List.getElem?_cons_zero List.getElem?_cons_succ List.getElem?_nil true_and and_true List.getElem?_toArray List.cons_append List.nil_append List.length_cons List.length_nil List.set_cons_zero List.set_cons_succ List.take_succ_cons List.take_zero List.drop_succ_cons List.drop_zero List.drop_nil List.take_nil List.contains_cons List.contains_nil List.elem_cons List.elem_nil Bool.not_true Bool.not_false Bool.false_eq_true Bool.or_false Bool.or_true Bool.and_true Bool.and_false Bool.true_and Bool.false_and List.all_cons List.all_nil List.size_toArray Nat.lt_add_one Nat.zero_lt_succ Nat.one_ne_zero Nat.zero_ne_one and_self List.replicate_succ List.replicate_zero Int.toNat_natCast Int.toNat_zero Value.cells false_implies true_implies forall_const Thn InBlk Nat.zero_add Nat.add_zero Int.zero_add Ele Env.ren Option.some.injEq AV.v.injEq AV.sl.injEq AV.pp.injEq AV.ep.injEq AV.agg.injEq List.cons.injEq Value.int.injEq Value.bool.injEq Value.string.injEq true_or or_true or_false false_or tsz0 tby0 tz0 Try.underlying0 tsz1 tby1 tz1 Try.underlying1 tsz2 tby2 tz2 Try.underlying2 tsz3 tby3 tz3 Try.underlying3 tsz4 tby4 tz4 Try.underlying4 tsz5 tby5 tz5 Try.underlying5 tsz6 tby6 tz6 Try.underlying6 tsz7 tby7 tz7 Try.underlying7 fo7_0 fo7_1 fo7_2 fo7_3 tsz8 tby8 tz8 Try.underlying8 fo8_0 fo8_1 fo8_2 fo8_3 tsz9 tby9 Try.underlying9 tsz10 tby10 Try.underlying10 tsz12 tby12 tz12 Try.underlying12 tsz16 tby16 tz16 Try.underlying16 tsz17 tby17 tz17 Try.underlying17 tsz20 tby20 tz20 Try.underlying20 tsz21 tby21 tz21 Try.underlying21 tsz22 tby22 tz22 Try.underlying22 tsz23 tby23 tz23 Try.underlying23 tsz24 tby24 tz24 Try.underlying24 fo24_0 fo24_1 tsz25 tby25 tz25 Try.underlying25 fo25_0 fo25_1 tsz32 tby32 tz32 Try.underlying32 peq32 fo32_0 fo32_1 fo32_2 tsz33 tby33 tz33 Try.underlying33 peq33 fo33_0 fo33_1 fo33_2 tsz40 tby40 tz40 Try.underlying40 tsz42 tby42 tz42 Try.underlying42 tsz44 tby44 tz44 Try.underlying44 tsz51 tby51 tz51 Try.underlying51 tsz55 tby55 tz55 Try.underlying55 tsz56 tby56 tz56 Try.underlying56 tsz74 tby74 tz74 Try.underlying74 fo74_0 fo74_1 tsz75 tby75 tz75 Try.underlying75 fo75_0 fo75_1 tsz79 tby79 tz79 Try.underlying79 tsz96 tby96 tz96 Try.underlying96 tsz97 tby97 tz97 Try.underlying97 tsz101 tby101 tz101 Try.underlying101 tsz104 tby104 tz104 Try.underlying104 tsz106 tby106 tz106 Try.underlying106 tsz114 tby114 tz114 Try.underlying114 tsz118 tby118 tz118 Try.underlying118 tsz121 tby121 tz121 Try.underlying121 tsz122 tby122 tz122 Try.underlying122 tsz127 tby127 tz127 Try.underlying127 tsz128 tby128 tz128 Try.underlying128 tsz129 tby129 tz129 Try.underlying129 tsz130 tby130 tz130 Try.underlying130 tsz131 tby131 tz131 Try.underlying131 tsz132 tby132 tz132 Try.underlying132 tsz133 tby133 tz133 Try.underlying133 tsz134 tby134 tz134 Try.underlying134 tsz135 tby135 tz135 Try.underlying135 tsz136 tby136 tz136 Try.underlying136 fo136_0 fo136_1 fo136_2 fo136_3 fo136_4 fo136_5 fo136_6 fo136_7 fo136_8 fo136_9 fo136_10 tsz137 tby137 tz137 Try.underlying137 fo137_0 fo137_1 fo137_2 fo137_3 fo137_4 fo137_5 fo137_6 fo137_7 fo137_8 fo137_9 fo137_10 tsz138 tby138 tz138 Try.underlying138 l1InG l4BeforeG isNaNG cmpIntG cmpEndsG ftC
theorem k_spec_TurnGraph (a0_0 : Int) (a0_1 : List (Int × Int × Int)) {r : Int × (List (Int × Int × Int))} (h : spec_TurnGraph a0_0 a0_1 = some r) :
    FnA Try.prog 10 [.agg [.v (.int .i64 a0_0), .sl 0]] [.row false (.trips a0_1)] [] (fun x H => x = .agg [.v (.int .i64 r.1), .sl 1] ∧ H = [.row false (.trips a0_1), .row true (.trips r.2)]) := by
  unfold spec_TurnGraph at h
  refine FnA.of (N := 46) (pin := [0]) (rs := [.cell 2 25]) Try.func10 rfl en10 rfl rfl (by simp) (by simp; try omega) ?_
  refine awp_reg ftCOk [(1, .pp 1 0), (2, .pp 2 0)] [.row false (.trips a0_1), .box [.v (.int .i64 a0_0), .sl 0], .box [.v (.int .i64 0), .v (.slice none 0 0)]] ?_
  replace h := bind_some h
  obtain ⟨⟨y, y_1⟩, hr0, h⟩ := h
  try dsimp only at h
  refine awp_to [(1, .pp 1 0), (2, .pp 2 0)] [.row false (.trips a0_1), .box [.v (.int .i64 y), .sl 3], .box [.v (.int .i64 0), .v (.slice none 0 0)], .row true (.trips y_1)] ?_ ?_
  · clear h
    intro K hK
    refine awp_region ftCOk ?_
    simp (maxSteps := 4000000) only [go_sem, Nat.reduceBEq, Nat.reduceLT, Nat.reduceAdd, Nat.reduceLeDiff, Nat.reduceSub, Nat.reduceEqDiff, Int.reduceToNat, reduceCtorEq, ↓reduceIte]
    repeat' (first | refine And.intro ?_ ?_ | intro hg)
    all_goals (try simp (disch := omega) only [wrap_fits])
    all_goals first
      | (refine hK _ _ ?_; exact Red.auto)
      | exact trivial
      | assumption
      | omega
      | exact wrap_fits (by omega) (by omega)
      | (refine wpA_callA (k_spec_l1OwnGraph a0_0 a0_1 (h := hr0)) [0] [] ?_
         rintro x Hc' ⟨rfl, rfl⟩ hlen
         refine vcOps_sound ftCOk ?_
         simp (maxSteps := 4000000) only [go_sem, Nat.reduceBEq, Nat.reduceLT, Nat.reduceAdd, Nat.reduceLeDiff, Nat.reduceSub, Nat.reduceEqDiff, Int.reduceToNat, reduceCtorEq, ↓reduceIte]
         repeat' (first | refine And.intro ?_ ?_ | intro hg)
         all_goals (try simp (disch := omega) only [wrap_fits])
         all_goals first
           | (refine hK _ _ ?_; exact Red.auto)
           | exact trivial
           | assumption
           | omega
           | exact wrap_fits (by omega) (by omega)
           | (simp_all; done)
           | (simp_all; omega))
      | (simp_all; done)
      | (simp_all; omega)
  · clear hr0
    refine awp_reg ftCOk [(1, .pp 1 0), (2, .pp 2 0), (3, .pp 4 0)] [.row false (.trips a0_1), .box [.v (.int .i64 y), .sl 3], .box [.v (.int .i64 0), .v (.slice none 0 0)], .row true (.trips y_1), .box [.v (.int .i64 y), .v (.slice none 0 0)]] ?_
    refine awp_seq fun K2 hK2 => ?_
    replace h := bind_some h
    obtain ⟨y_2, hr0, h⟩ := h
    try dsimp only at h
    refine awp_to [(1, .pp 1 0), (2, .pp 2 0), (3, .pp 4 0), (12, .v (.bool (!y_2)))] [.row false (.trips a0_1), .box [.v (.int .i64 y), .sl 3], .box [.v (.int .i64 0), .v (.slice none 0 0)], .row true (.trips y_1), .box [.v (.int .i64 y), .v (.slice none 0 0)]] ?_ ?_
    · clear h
      intro K hK
      refine awp_region ftCOk ?_
      simp (maxSteps := 4000000) only [go_sem, Nat.reduceBEq, Nat.reduceLT, Nat.reduceAdd, Nat.reduceLeDiff, Nat.reduceSub, Nat.reduceEqDiff, Int.reduceToNat, reduceCtorEq, ↓reduceIte]
      repeat' (first | refine And.intro ?_ ?_ | intro hg)
      all_goals (try simp (disch := omega) only [wrap_fits])
      all_goals first
        | (refine hK _ _ ?_; exact Red.auto)
        | exact trivial
        | assumption
        | omega
        | exact wrap_fits (by omega) (by omega)
        | (refine wpA_callA (k_spec_GraphValid y y_1 (h := hr0)) [3] [] ?_
           rintro x Hc' ⟨rfl, rfl⟩ hlen
           refine vcOps_sound ftCOk ?_
           simp (maxSteps := 4000000) only [go_sem, Nat.reduceBEq, Nat.reduceLT, Nat.reduceAdd, Nat.reduceLeDiff, Nat.reduceSub, Nat.reduceEqDiff, Int.reduceToNat, reduceCtorEq, ↓reduceIte]
           repeat' (first | refine And.intro ?_ ?_ | intro hg)
           all_goals (try simp (disch := omega) only [wrap_fits])
           all_goals first
             | (refine hK _ _ ?_; exact Red.auto)
             | exact trivial
             | assumption
             | omega
             | exact wrap_fits (by omega) (by omega)
             | (simp_all; done)
             | (simp_all; omega))
        | (simp_all; done)
        | (simp_all; omega)
    · clear hr0
      refine awp_cond (t := 12) rfl (fun hc3 => ?_) (fun hc3 => ?_)
      · replace h := bite_t h hc3
        refine awp_reg ftCOk [(2, .pp 2 0)] [.row false (.trips a0_1), .box [.v (.int .i64 y), .sl 3], .box [.v (.int .i64 0), .v (.slice none 0 0)], .row true (.trips y_1), .box [.v (.int .i64 y), .v (.slice none 0 0)]] ?_
        refine awp_red (Red.nilCell (o := 2) (i := 1) (.trips []) rfl rfl rfl) ?_
        refine awp_ret ?_
        (try simp only [Thn, InBlk, ↓reduceIte, Nat.reduceEqDiff])
        obtain rfl := Option.some.inj h
        refine ⟨by simp, _, [0, 5], (by simp only [go_sem, Nat.reduceBEq, Nat.reduceLT, Nat.reduceAdd, Nat.reduceLeDiff, Nat.reduceSub, Nat.reduceEqDiff, Int.reduceToNat, reduceCtorEq, ↓reduceIte]; exact rfl), ?_, ?_, ?_, ?_⟩
        · first | exact trivial | exact ⟨trivial, trivial⟩ | exact ⟨trivial, trivial, trivial⟩ | exact ⟨trivial, trivial, trivial, trivial⟩ | (simp only [allP, and_true, true_and]; done) | (simp only [allP, and_true, true_and]; omega)
        · simp [selOk, pos]
        · simp
        · first | exact ⟨rfl, rfl⟩ | (simp only [go_sem, Nat.reduceBEq, Nat.reduceLT, Nat.reduceAdd, Nat.reduceLeDiff, Nat.reduceSub, Nat.reduceEqDiff, Int.reduceToNat, reduceCtorEq, ↓reduceIte]; done) | (simp [go_sem, Nat.reduceBEq, Nat.reduceLT, Nat.reduceAdd, Nat.reduceLeDiff, Nat.reduceSub, Nat.reduceEqDiff, Int.reduceToNat, reduceCtorEq, ↓reduceIte]; done) | (simp only [go_sem, Nat.reduceBEq, Nat.reduceLT, Nat.reduceAdd, Nat.reduceLeDiff, Nat.reduceSub, Nat.reduceEqDiff, Int.reduceToNat, reduceCtorEq, ↓reduceIte]; exact ⟨rfl, rfl⟩) | (simp_all [go_sem, Nat.reduceBEq, Nat.reduceLT, Nat.reduceAdd, Nat.reduceLeDiff, Nat.reduceSub, Nat.reduceEqDiff, Int.reduceToNat, reduceCtorEq, ↓reduceIte]; done)
      · replace h := bite_f h hc3
        refine awp_skip ?_
        (try simp only [Thn, InBlk, ↓reduceIte, Nat.reduceEqDiff])
        refine hK2 _ _ ?_
        clear hK2
        refine awp_seq fun K21 hK21 => ?_
        refine awp_reg ftCOk [(1, .pp 1 0), (2, .pp 2 0), (3, .pp 4 0), (4, .v (.int .i64 0))] [.row false (.trips a0_1), .box [.v (.int .i64 y), .sl 3], .box [.v (.int .i64 0), .v (.slice none 0 0)], .row true (.trips y_1), .box [.v (.int .i64 y), .v (.slice none 0 0)]] ?_
        refine awp_block ?_
        replace h := bind_some h
        obtain ⟨x38, hx, h⟩ := h
        refine awp_loopL hx (fun ((t4, t3_0, t3_1s) : Int × Int × (List (Int × Int × Int))) => [(1, .pp 1 0), (2, .pp 3 0), (3, .pp 5 0), (4, .v (.int .i64 t4))]) (fun ((t4, t3_0, t3_1s) : Int × Int × (List (Int × Int × Int))) => [.row false (.trips a0_1), .rbox [.v (.int .i64 y), .sl 2], .row true (.trips y_1), .box [.v (.int .i64 0), .sl 4], .row true (.trips []), .box [.v (.int .i64 t3_0), .sl 6], .row true (.trips t3_1s)]) (fun ((t3_0_1, t3_1s_1) : Int × (List (Int × Int × Int))) => Exit.exit 0) (fun ((t3_0_1, t3_1s_1) : Int × (List (Int × Int × Int))) => [(2, .pp 1 0), (3, .pp 3 0)]) (fun ((t3_0_1, t3_1s_1) : Int × (List (Int × Int × Int))) => [.row false (.trips a0_1), .box [.v (.int .i64 0), .sl 2], .row true (.trips []), .box [.v (.int .i64 t3_0_1), .sl 4], .row true (.trips t3_1s_1)]) ?_ ?_ ?_ ?_
        · rintro ⟨t3_0_1, t3_1s_1⟩ hy <;> cases hy
        · clear h hx
          refine Red.trans (Red.freezeBox (o := 1) rfl) ?_
          refine Red.trans (Red.nilCell (o := 2) (i := 1) (.trips []) rfl rfl rfl) ?_
          refine Red.trans (Red.nilCell (o := 4) (i := 1) (.trips []) rfl rfl rfl) ?_
          exact Red.selA [0, 1, 3, 2, 5, 4, 6] Red.auto
        · clear h hx
          rintro ⟨t4, t3_0, t3_1s⟩ r h
          unfold spec_TurnGraph_b0 at h
          try dsimp only at h
          try dsimp only
          refine awp_seq fun K35 hK35 => ?_
          refine awp_reg ftCOk [(1, .pp 1 0), (2, .pp 3 0), (3, .pp 5 0), (4, .v (.int .i64 t4)), (18, .v (.bool (decide (t4 < (y_1.length : Int)))))] [.row false (.trips a0_1), .rbox [.v (.int .i64 y), .sl 2], .row true (.trips y_1), .box [.v (.int .i64 0), .sl 4], .row true (.trips []), .box [.v (.int .i64 t3_0), .sl 6], .row true (.trips t3_1s)] ?_
          refine awp_cond (t := 18) rfl (fun hc36 => ?_) (fun hc36 => ?_)
          · replace h := bite_t h hc36
            refine awp_skip ?_
            (try simp only [Thn, InBlk, ↓reduceIte, Nat.reduceEqDiff])
            refine hK35 _ _ ?_
            clear hK35
            refine awp_seq fun K37 hK37 => ?_
            refine awp_block ?_
            replace h := chk_some h
            obtain ⟨hp0, h⟩ := h
            replace h := bind_some h
            obtain ⟨⟨y_3, y_4, y_5⟩, hr1, h⟩ := h
            try dsimp only at h
            refine awp_end [(1, .pp 1 0), (2, .pp 3 0), (3, .pp 5 0), (4, .v (.int .i64 t4))] [.row false (.trips a0_1), .rbox [.v (.int .i64 y), .sl 2], .row true (.trips y_1), .box [.v (.int .i64 0), .sl 4], .row true (.trips []), .box [.v (.int .i64 y_3), .sl 7], .row true (.trips t3_1s), .row true (.trips y_4)] ?_ ?_
            · clear h
              intro K hK
              refine awp_drawL [0, 1, 2, 3, 4, 5, 6] [1, 3, 7, 9, 13, 15, 2, 8, 14] 16 #[false, true, true, true, false, false, false, true, true, true, false, false, false, true, true, true, false, false, false, false, false, false, false, false, false] mixed ftCOk (by kernel_rfl) (by first | rfl | kernel_rfl) (by rfl) (by simp) fun L hL => ?_
              have n10 : L 0 #[true, true, true, true, true, true, true, true, true, true, true, true, true, true, true, true, true, true, true, true, true, true, true, true, true] [(1, .pp 1 0), (2, .pp 3 0), (3, .pp 5 0), (4, .v (.int .i64 t4)), (18, .v (.bool (decide (t4 < (y_1.length : Int))))), (21, .tup [.agg [.v (.int .i64 y_3), .sl 7], .v (.bool y_5)]), (22, .agg [.v (.int .i64 t3_0), .sl 6]), (23, .pp 1 1), (24, .sl 2), (25, .v (.int .i64 t4)), (26, .ep 2 t4.toNat 3 0), (27, .ep 2 t4.toNat 3 1), (28, .v (.int .i64 ((y_1.getD t4.toNat (0, 0, 0)).2.1))), (29, .pp 1 1), (30, .sl 2), (31, .v (.int .i64 t4)), (32, .ep 2 t4.toNat 3 0), (33, .ep 2 t4.toNat 3 0), (34, .v (.int .i64 ((y_1.getD t4.toNat (0, 0, 0)).1))), (35, .pp 1 1), (36, .sl 2), (37, .v (.int .i64 t4)), (38, .ep 2 t4.toNat 3 0), (39, .ep 2 t4.toNat 3 2), (40, .v (.int .i64 ((y_1.getD t4.toNat (0, 0, 0)).2.2))), (41, .agg [.v (.int .i64 ((y_1.getD t4.toNat (0, 0, 0)).2.1)), .v (.int .i64 ((y_1.getD t4.toNat (0, 0, 0)).1)), .v (.int .i64 ((y_1.getD t4.toNat (0, 0, 0)).2.2))]), (42, .tup [.agg [.v (.int .i64 y_3), .sl 7], .v (.bool y_5)]), (43, .agg [.v (.int .i64 y_3), .sl 7]), (44, .v (.bool y_5))] [.row false (.trips a0_1), .rbox [.v (.int .i64 y), .sl 2], .row true (.trips y_1), .box [.v (.int .i64 0), .sl 4], .row true (.trips []), .box [.v (.int .i64 y_3), .sl 7], .row true (.trips t3_1s), .row true (.trips y_4)] := by
                exact hL.fin (by kernel_rfl) (hK _ _ Red.auto)
              have n9 : L 1 #[true, true, true, true, true, true, true, true, true, true, true, true, true, true, true, true, true, true, true, true, true, true, true, true, false] [(1, .pp 1 0), (2, .pp 3 0), (3, .pp 5 0), (4, .v (.int .i64 t4)), (18, .v (.bool (decide (t4 < (y_1.length : Int))))), (21, .tup [.agg [.v (.int .i64 y_3), .sl 7], .v (.bool y_5)]), (22, .agg [.v (.int .i64 t3_0), .sl 6]), (23, .pp 1 1), (24, .sl 2), (25, .v (.int .i64 t4)), (26, .ep 2 t4.toNat 3 0), (27, .ep 2 t4.toNat 3 1), (28, .v (.int .i64 ((y_1.getD t4.toNat (0, 0, 0)).2.1))), (29, .pp 1 1), (30, .sl 2), (31, .v (.int .i64 t4)), (32, .ep 2 t4.toNat 3 0), (33, .ep 2 t4.toNat 3 0), (34, .v (.int .i64 ((y_1.getD t4.toNat (0, 0, 0)).1))), (35, .pp 1 1), (36, .sl 2), (37, .v (.int .i64 t4)), (38, .ep 2 t4.toNat 3 0), (39, .ep 2 t4.toNat 3 2), (40, .v (.int .i64 ((y_1.getD t4.toNat (0, 0, 0)).2.2))), (41, .agg [.v (.int .i64 ((y_1.getD t4.toNat (0, 0, 0)).2.1)), .v (.int .i64 ((y_1.getD t4.toNat (0, 0, 0)).1)), .v (.int .i64 ((y_1.getD t4.toNat (0, 0, 0)).2.2))]), (42, .tup [.agg [.v (.int .i64 y_3), .sl 7], .v (.bool y_5)]), (43, .agg [.v (.int .i64 y_3), .sl 7]), (44, .v (.bool y_5))] [.row false (.trips a0_1), .rbox [.v (.int .i64 y), .sl 2], .row true (.trips y_1), .box [.v (.int .i64 0), .sl 4], .row true (.trips []), .box [.v (.int .i64 t3_0), .sl 6], .row true (.trips t3_1s), .row true (.trips y_4)] := by
                refine hL.step [(24, [], 0, #[true, true, true, true, true, true, true, true, true, true, true, true, true, true, true, true, true, true, true, true, true, true, true, true, true])] (by kernel_rfl) ⟨?_, trivial⟩
                · exact hL.edge n10
              have n8 : L 4 #[true, true, true, true, true, true, true, true, true, true, true, true, true, true, true, true, true, true, true, true, true, false, false, false, false] [(1, .pp 1 0), (2, .pp 3 0), (3, .pp 5 0), (4, .v (.int .i64 t4)), (18, .v (.bool (decide (t4 < (y_1.length : Int))))), (22, .agg [.v (.int .i64 t3_0), .sl 6]), (23, .pp 1 1), (24, .sl 2), (25, .v (.int .i64 t4)), (26, .ep 2 t4.toNat 3 0), (27, .ep 2 t4.toNat 3 1), (28, .v (.int .i64 ((y_1.getD t4.toNat (0, 0, 0)).2.1))), (29, .pp 1 1), (30, .sl 2), (31, .v (.int .i64 t4)), (32, .ep 2 t4.toNat 3 0), (33, .ep 2 t4.toNat 3 0), (34, .v (.int .i64 ((y_1.getD t4.toNat (0, 0, 0)).1))), (35, .pp 1 1), (36, .sl 2), (37, .v (.int .i64 t4)), (38, .ep 2 t4.toNat 3 0), (39, .ep 2 t4.toNat 3 2), (40, .v (.int .i64 ((y_1.getD t4.toNat (0, 0, 0)).2.2))), (41, .agg [.v (.int .i64 ((y_1.getD t4.toNat (0, 0, 0)).2.1)), .v (.int .i64 ((y_1.getD t4.toNat (0, 0, 0)).1)), .v (.int .i64 ((y_1.getD t4.toNat (0, 0, 0)).2.2))]), (42, .tup [.agg [.v (.int .i64 y_3), .sl 7], .v (.bool y_5)])] [.row false (.trips a0_1), .rbox [.v (.int .i64 y), .sl 2], .row true (.trips y_1), .box [.v (.int .i64 0), .sl 4], .row true (.trips []), .box [.v (.int .i64 t3_0), .sl 6], .row true (.trips t3_1s), .row true (.trips y_4)] := by
                refine hL.step [(21, [22, 23], 1, #[true, true, true, true, true, true, true, true, true, true, true, true, true, true, true, true, true, true, true, true, true, true, true, true, false])] (by kernel_rfl) ⟨?_, trivial⟩
                · exact hL.edge n9
              have n7 : L 5 #[true, true, true, true, true, true, true, true, true, true, true, true, true, true, true, true, true, true, true, true, false, false, false, false, false] [(1, .pp 1 0), (2, .pp 3 0), (3, .pp 5 0), (4, .v (.int .i64 t4)), (18, .v (.bool (decide (t4 < (y_1.length : Int))))), (22, .agg [.v (.int .i64 t3_0), .sl 6]), (23, .pp 1 1), (24, .sl 2), (25, .v (.int .i64 t4)), (26, .ep 2 t4.toNat 3 0), (27, .ep 2 t4.toNat 3 1), (28, .v (.int .i64 ((y_1.getD t4.toNat (0, 0, 0)).2.1))), (29, .pp 1 1), (30, .sl 2), (31, .v (.int .i64 t4)), (32, .ep 2 t4.toNat 3 0), (33, .ep 2 t4.toNat 3 0), (34, .v (.int .i64 ((y_1.getD t4.toNat (0, 0, 0)).1))), (35, .pp 1 1), (36, .sl 2), (37, .v (.int .i64 t4)), (38, .ep 2 t4.toNat 3 0), (39, .ep 2 t4.toNat 3 2), (40, .v (.int .i64 ((y_1.getD t4.toNat (0, 0, 0)).2.2))), (41, .agg [.v (.int .i64 ((y_1.getD t4.toNat (0, 0, 0)).2.1)), .v (.int .i64 ((y_1.getD t4.toNat (0, 0, 0)).1)), .v (.int .i64 ((y_1.getD t4.toNat (0, 0, 0)).2.2))])] [.row false (.trips a0_1), .rbox [.v (.int .i64 y), .sl 2], .row true (.trips y_1), .box [.v (.int .i64 0), .sl 4], .row true (.trips []), .box [.v (.int .i64 t3_0), .sl 6], .row true (.trips t3_1s)] := by
                refine hL.step [(20, [], 4, #[true, true, true, true, true, true, true, true, true, true, true, true, true, true, true, true, true, true, true, true, true, false, false, false, false])] (by kernel_rfl) ⟨?_, trivial⟩
                · simp (maxSteps := 4000000) only [go_sem, Nat.reduceBEq, Nat.reduceLT, Nat.reduceAdd, Nat.reduceLeDiff, Nat.reduceSub, Nat.reduceEqDiff, Int.reduceToNat, reduceCtorEq, ↓reduceIte]
                  repeat' (first | refine And.intro ?_ ?_ | intro hg)
                  all_goals (try simp (disch := omega) only [wrap_fits])
                  all_goals first
                    | (refine hL.red ?_ n8; exact Red.auto)
                    | exact trivial
                    | assumption
                    | omega
                    | exact wrap_fits (by omega) (by omega)
                    | (refine OpK_callA (k_spec_AddEdge t3_0 t3_1s ((y_1.getD t4.toNat (0, 0, 0)).2.1) ((y_1.getD t4.toNat (0, 0, 0)).1) ((y_1.getD t4.toNat (0, 0, 0)).2.2) (h := hr1)) [6] [] ?_
                       rintro x Hc' ⟨rfl, rfl⟩ hlen
                       simp (maxSteps := 4000000) only [go_sem, Nat.reduceBEq, Nat.reduceLT, Nat.reduceAdd, Nat.reduceLeDiff, Nat.reduceSub, Nat.reduceEqDiff, Int.reduceToNat, reduceCtorEq, ↓reduceIte]
                       repeat' (first | refine And.intro ?_ ?_ | intro hg)
                       all_goals (try simp (disch := omega) only [wrap_fits])
                       all_goals first
                         | (refine hL.red ?_ n8; exact Red.auto)
                         | exact trivial
                         | assumption
                         | omega
                         | exact wrap_fits (by omega) (by omega)
                         | (simp_all; done)
                         | (simp_all; omega))
                    | (simp (maxSteps := 4000000) only [go_sem, Nat.reduceBEq, Nat.reduceLT, Nat.reduceAdd, Nat.reduceLeDiff, Nat.reduceSub, Nat.reduceEqDiff, Int.reduceToNat, reduceCtorEq, ↓reduceIte]
                       repeat' (first | refine And.intro ?_ ?_ | intro hg)
                       all_goals (try simp (disch := omega) only [wrap_fits])
                       all_goals first | (refine hL.red ?_ n8; exact Red.auto) | exact trivial | assumption | omega | exact wrap_fits (by omega) (by omega))
                    | (simp_all; done)
                    | (simp_all; omega)
              have n6 : L 7 #[true, true, true, true, true, true, true, true, true, true, true, true, true, true, true, true, true, true, false, false, false, false, false, false, false] [(1, .pp 1 0), (2, .pp 3 0), (3, .pp 5 0), (4, .v (.int .i64 t4)), (18, .v (.bool (decide (t4 < (y_1.length : Int))))), (22, .agg [.v (.int .i64 t3_0), .sl 6]), (23, .pp 1 1), (24, .sl 2), (25, .v (.int .i64 t4)), (26, .ep 2 t4.toNat 3 0), (27, .ep 2 t4.toNat 3 1), (28, .v (.int .i64 ((y_1.getD t4.toNat (0, 0, 0)).2.1))), (29, .pp 1 1), (30, .sl 2), (31, .v (.int .i64 t4)), (32, .ep 2 t4.toNat 3 0), (33, .ep 2 t4.toNat 3 0), (34, .v (.int .i64 ((y_1.getD t4.toNat (0, 0, 0)).1))), (35, .pp 1 1), (36, .sl 2), (37, .v (.int .i64 t4)), (38, .ep 2 t4.toNat 3 0), (39, .ep 2 t4.toNat 3 2)] [.row false (.trips a0_1), .rbox [.v (.int .i64 y), .sl 2], .row true (.trips y_1), .box [.v (.int .i64 0), .sl 4], .row true (.trips []), .box [.v (.int .i64 t3_0), .sl 6], .row true (.trips t3_1s)] := by
                refine hL.step [(18, [19], 5, #[true, true, true, true, true, true, true, true, true, true, true, true, true, true, true, true, true, true, true, true, false, false, false, false, false])] (by kernel_rfl) ⟨?_, trivial⟩
                · exact hL.edge n7
              have n5 : L 9 #[true, true, true, true, true, true, true, true, true, true, true, true, true, true, true, true, false, false, false, false, false, false, false, false, false] [(1, .pp 1 0), (2, .pp 3 0), (3, .pp 5 0), (4, .v (.int .i64 t4)), (18, .v (.bool (decide (t4 < (y_1.length : Int))))), (22, .agg [.v (.int .i64 t3_0), .sl 6]), (23, .pp 1 1), (24, .sl 2), (25, .v (.int .i64 t4)), (26, .ep 2 t4.toNat 3 0), (27, .ep 2 t4.toNat 3 1), (28, .v (.int .i64 ((y_1.getD t4.toNat (0, 0, 0)).2.1))), (29, .pp 1 1), (30, .sl 2), (31, .v (.int .i64 t4)), (32, .ep 2 t4.toNat 3 0), (33, .ep 2 t4.toNat 3 0), (34, .v (.int .i64 ((y_1.getD t4.toNat (0, 0, 0)).1))), (35, .pp 1 1), (36, .sl 2), (37, .v (.int .i64 t4))] [.row false (.trips a0_1), .rbox [.v (.int .i64 y), .sl 2], .row true (.trips y_1), .box [.v (.int .i64 0), .sl 4], .row true (.trips []), .box [.v (.int .i64 t3_0), .sl 6], .row true (.trips t3_1s)] := by
                refine hL.step [(16, [17], 7, #[true, true, true, true, true, true, true, true, true, true, true, true, true, true, true, true, true, true, false, false, false, false, false, false, false])] (by kernel_rfl) ⟨?_, trivial⟩
                · exact hL.edge n6
              have n12 : L 7 #[true, true, true, true, true, true, true, true, true, true, true, true, false, true, true, true, true, true, true, false, false, false, false, false, false] [(1, .pp 1 0), (2, .pp 3 0), (3, .pp 5 0), (4, .v (.int .i64 t4)), (18, .v (.bool (decide (t4 < (y_1.length : Int))))), (22, .agg [.v (.int .i64 t3_0), .sl 6]), (23, .pp 1 1), (24, .sl 2), (25, .v (.int .i64 t4)), (26, .ep 2 t4.toNat 3 0), (27, .ep 2 t4.toNat 3 1), (28, .v (.int .i64 ((y_1.getD t4.toNat (0, 0, 0)).2.1))), (29, .pp 1 1), (30, .sl 2), (31, .v (.int .i64 t4)), (32, .ep 2 t4.toNat 3 0), (33, .ep 2 t4.toNat 3 0), (35, .pp 1 1), (36, .sl 2), (37, .v (.int .i64 t4)), (38, .ep 2 t4.toNat 3 0), (39, .ep 2 t4.toNat 3 2), (40, .v (.int .i64 ((y_1.getD t4.toNat (0, 0, 0)).2.2)))] [.row false (.trips a0_1), .rbox [.v (.int .i64 y), .sl 2], .row true (.trips y_1), .box [.v (.int .i64 0), .sl 4], .row true (.trips []), .box [.v (.int .i64 t3_0), .sl 6], .row true (.trips t3_1s)] := by
                refine hL.step [(12, [19], 5, #[true, true, true, true, true, true, true, true, true, true, true, true, true, true, true, true, true, true, true, true, false, false, false, false, false])] (by kernel_rfl) ⟨?_, trivial⟩
                · exact hL.edge n7
              have n11 : L 8 #[true, true, true, true, true, true, true, true, true, true, true, true, false, true, true, true, true, true, false, false, false, false, false, false, false] [(1, .pp 1 0), (2, .pp 3 0), (3, .pp 5 0), (4, .v (.int .i64 t4)), (18, .v (.bool (decide (t4 < (y_1.length : Int))))), (22, .agg [.v (.int .i64 t3_0), .sl 6]), (23, .pp 1 1), (24, .sl 2), (25, .v (.int .i64 t4)), (26, .ep 2 t4.toNat 3 0), (27, .ep 2 t4.toNat 3 1), (28, .v (.int .i64 ((y_1.getD t4.toNat (0, 0, 0)).2.1))), (29, .pp 1 1), (30, .sl 2), (31, .v (.int .i64 t4)), (32, .ep 2 t4.toNat 3 0), (33, .ep 2 t4.toNat 3 0), (35, .pp 1 1), (36, .sl 2), (37, .v (.int .i64 t4)), (38, .ep 2 t4.toNat 3 0), (39, .ep 2 t4.toNat 3 2)] [.row false (.trips a0_1), .rbox [.v (.int .i64 y), .sl 2], .row true (.trips y_1), .box [.v (.int .i64 0), .sl 4], .row true (.trips []), .box [.v (.int .i64 t3_0), .sl 6], .row true (.trips t3_1s)] := by
                refine hL.step [(12, [], 7, #[true, true, true, true, true, true, true, true, true, true, true, true, true, true, true, true, true, true, false, false, false, false, false, false, false]), (18, [], 7, #[true, true, true, true, true, true, true, true, true, true, true, true, false, true, true, true, true, true, true, false, false, false, false, false, false])] (by kernel_rfl) ⟨?_, ?_, trivial⟩
                · exact hL.edge n6
                · exact hL.edge n12
              have n4 : L 10 #[true, true, true, true, true, true, true, true, true, true, true, true, false, true, true, true, false, false, false, false, false, false, false, false, false] [(1, .pp 1 0), (2, .pp 3 0), (3, .pp 5 0), (4, .v (.int .i64 t4)), (18, .v (.bool (decide (t4 < (y_1.length : Int))))), (22, .agg [.v (.int .i64 t3_0), .sl 6]), (23, .pp 1 1), (24, .sl 2), (25, .v (.int .i64 t4)), (26, .ep 2 t4.toNat 3 0), (27, .ep 2 t4.toNat 3 1), (28, .v (.int .i64 ((y_1.getD t4.toNat (0, 0, 0)).2.1))), (29, .pp 1 1), (30, .sl 2), (31, .v (.int .i64 t4)), (32, .ep 2 t4.toNat 3 0), (33, .ep 2 t4.toNat 3 0), (35, .pp 1 1), (36, .sl 2), (37, .v (.int .i64 t4))] [.row false (.trips a0_1), .rbox [.v (.int .i64 y), .sl 2], .row true (.trips y_1), .box [.v (.int .i64 0), .sl 4], .row true (.trips []), .box [.v (.int .i64 t3_0), .sl 6], .row true (.trips t3_1s)] := by
                refine hL.step [(12, [], 9, #[true, true, true, true, true, true, true, true, true, true, true, true, true, true, true, true, false, false, false, false, false, false, false, false, false]), (16, [17], 8, #[true, true, true, true, true, true, true, true, true, true, true, true, false, true, true, true, true, true, false, false, false, false, false, false, false])] (by kernel_rfl) ⟨?_, ?_, trivial⟩
                · exact hL.edge n5
                · exact hL.edge n11
              have n14 : L 9 #[true, true, true, true, true, true, true, true, true, true, false, false, false, true, true, true, true, true, true, false, false, false, false, false, false] [(1, .pp 1 0), (2, .pp 3 0), (3, .pp 5 0), (4, .v (.int .i64 t4)), (18, .v (.bool (decide (t4 < (y_1.length : Int))))), (22, .agg [.v (.int .i64 t3_0), .sl 6]), (23, .pp 1 1), (24, .sl 2), (25, .v (.int .i64 t4)), (26, .ep 2 t4.toNat 3 0), (27, .ep 2 t4.toNat 3 1), (28, .v (.int .i64 ((y_1.getD t4.toNat (0, 0, 0)).2.1))), (29, .pp 1 1), (30, .sl 2), (31, .v (.int .i64 t4)), (35, .pp 1 1), (36, .sl 2), (37, .v (.int .i64 t4)), (38, .ep 2 t4.toNat 3 0), (39, .ep 2 t4.toNat 3 2), (40, .v (.int .i64 ((y_1.getD t4.toNat (0, 0, 0)).2.2)))] [.row false (.trips a0_1), .rbox [.v (.int .i64 y), .sl 2], .row true (.trips y_1), .box [.v (.int .i64 0), .sl 4], .row true (.trips []), .box [.v (.int .i64 t3_0), .sl 6], .row true (.trips t3_1s)] := by
                refine hL.step [(10, [11], 7, #[true, true, true, true, true, true, true, true, true, true, true, true, false, true, true, true, true, true, true, false, false, false, false, false, false])] (by kernel_rfl) ⟨?_, trivial⟩
                · exact hL.edge n12
              have n13 : L 10 #[true, true, true, true, true, true, true, true, true, true, false, false, false, true, true, true, true, true, false, false, false, false, false, false, false] [(1, .pp 1 0), (2, .pp 3 0), (3, .pp 5 0), (4, .v (.int .i64 t4)), (18, .v (.bool (decide (t4 < (y_1.length : Int))))), (22, .agg [.v (.int .i64 t3_0), .sl 6]), (23, .pp 1 1), (24, .sl 2), (25, .v (.int .i64 t4)), (26, .ep 2 t4.toNat 3 0), (27, .ep 2 t4.toNat 3 1), (28, .v (.int .i64 ((y_1.getD t4.toNat (0, 0, 0)).2.1))), (29, .pp 1 1), (30, .sl 2), (31, .v (.int .i64 t4)), (35, .pp 1 1), (36, .sl 2), (37, .v (.int .i64 t4)), (38, .ep 2 t4.toNat 3 0), (39, .ep 2 t4.toNat 3 2)] [.row false (.trips a0_1), .rbox [.v (.int .i64 y), .sl 2], .row true (.trips y_1), .box [.v (.int .i64 0), .sl 4], .row true (.trips []), .box [.v (.int .i64 t3_0), .sl 6], .row true (.trips t3_1s)] := by
                refine hL.step [(10, [11], 8, #[true, true, true, true, true, true, true, true, true, true, true, true, false, true, true, true, true, true, false, false, false, false, false, false, false]), (18, [], 9, #[true, true, true, true, true, true, true, true, true, true, false, false, false, true, true, true, true, true, true, false, false, false, false, false, false])] (by kernel_rfl) ⟨?_, ?_, trivial⟩
                · exact hL.edge n11
                · exact hL.edge n14
              have n3 : L 12 #[true, true, true, true, true, true, true, true, true, true, false, false, false, true, true, true, false, false, false, false, false, false, false, false, false] [(1, .pp 1 0), (2, .pp 3 0), (3, .pp 5 0), (4, .v (.int .i64 t4)), (18, .v (.bool (decide (t4 < (y_1.length : Int))))), (22, .agg [.v (.int .i64 t3_0), .sl 6]), (23, .pp 1 1), (24, .sl 2), (25, .v (.int .i64 t4)), (26, .ep 2 t4.toNat 3 0), (27, .ep 2 t4.toNat 3 1), (28, .v (.int .i64 ((y_1.getD t4.toNat (0, 0, 0)).2.1))), (29, .pp 1 1), (30, .sl 2), (31, .v (.int .i64 t4)), (35, .pp 1 1), (36, .sl 2), (37, .v (.int .i64 t4))] [.row false (.trips a0_1), .rbox [.v (.int .i64 y), .sl 2], .row true (.trips y_1), .box [.v (.int .i64 0), .sl 4], .row true (.trips []), .box [.v (.int .i64 t3_0), .sl 6], .row true (.trips t3_1s)] := by
                refine hL.step [(10, [11], 10, #[true, true, true, true, true, true, true, true, true, true, true, true, false, true, true, true, false, false, false, false, false, false, false, false, false]), (16, [17], 10, #[true, true, true, true, true, true, true, true, true, true, false, false, false, true, true, true, true, true, false, false, false, false, false, false, false])] (by kernel_rfl) ⟨?_, ?_, trivial⟩
                · exact hL.edge n4
                · exact hL.edge n13
              have n18 : L 7 #[true, true, true, true, true, true, false, true, true, true, true, true, true, true, true, true, true, true, true, false, false, false, false, false, false] [(1, .pp 1 0), (2, .pp 3 0), (3, .pp 5 0), (4, .v (.int .i64 t4)), (18, .v (.bool (decide (t4 < (y_1.length : Int))))), (22, .agg [.v (.int .i64 t3_0), .sl 6]), (23, .pp 1 1), (24, .sl 2), (25, .v (.int .i64 t4)), (26, .ep 2 t4.toNat 3 0), (27, .ep 2 t4.toNat 3 1), (29, .pp 1 1), (30, .sl 2), (31, .v (.int .i64 t4)), (32, .ep 2 t4.toNat 3 0), (33, .ep 2 t4.toNat 3 0), (34, .v (.int .i64 ((y_1.getD t4.toNat (0, 0, 0)).1))), (35, .pp 1 1), (36, .sl 2), (37, .v (.int .i64 t4)), (38, .ep 2 t4.toNat 3 0), (39, .ep 2 t4.toNat 3 2), (40, .v (.int .i64 ((y_1.getD t4.toNat (0, 0, 0)).2.2)))] [.row false (.trips a0_1), .rbox [.v (.int .i64 y), .sl 2], .row true (.trips y_1), .box [.v (.int .i64 0), .sl 4], .row true (.trips []), .box [.v (.int .i64 t3_0), .sl 6], .row true (.trips t3_1s)] := by
                refine hL.step [(6, [19], 5, #[true, true, true, true, true, true, true, true, true, true, true, true, true, true, true, true, true, true, true, true, false, false, false, false, false])] (by kernel_rfl) ⟨?_, trivial⟩
                · exact hL.edge n7
              have n17 : L 8 #[true, true, true, true, true, true, false, true, true, true, true, true, true, true, true, true, true, true, false, false, false, false, false, false, false] [(1, .pp 1 0), (2, .pp 3 0), (3, .pp 5 0), (4, .v (.int .i64 t4)), (18, .v (.bool (decide (t4 < (y_1.length : Int))))), (22, .agg [.v (.int .i64 t3_0), .sl 6]), (23, .pp 1 1), (24, .sl 2), (25, .v (.int .i64 t4)), (26, .ep 2 t4.toNat 3 0), (27, .ep 2 t4.toNat 3 1), (29, .pp 1 1), (30, .sl 2), (31, .v (.int .i64 t4)), (32, .ep 2 t4.toNat 3 0), (33, .ep 2 t4.toNat 3 0), (34, .v (.int .i64 ((y_1.getD t4.toNat (0, 0, 0)).1))), (35, .pp 1 1), (36, .sl 2), (37, .v (.int .i64 t4)), (38, .ep 2 t4.toNat 3 0), (39, .ep 2 t4.toNat 3 2)] [.row false (.trips a0_1), .rbox [.v (.int .i64 y), .sl 2], .row true (.trips y_1), .box [.v (.int .i64 0), .sl 4], .row true (.trips []), .box [.v (.int .i64 t3_0), .sl 6], .row true (.trips t3_1s)] := by
                refine hL.step [(6, [], 7, #[true, true, true, true, true, true, true, true, true, true, true, true, true, true, true, true, true, true, false, false, false, false, false, false, false]), (18, [], 7, #[true, true, true, true, true, true, false, true, true, true, true, true, true, true, true, true, true, true, true, false, false, false, false, false, false])] (by kernel_rfl) ⟨?_, ?_, trivial⟩
                · exact hL.edge n6
                · exact hL.edge n18
              have n16 : L 10 #[true, true, true, true, true, true, false, true, true, true, true, true, true, true, true, true, false, false, false, false, false, false, false, false, false] [(1, .pp 1 0), (2, .pp 3 0), (3, .pp 5 0), (4, .v (.int .i64 t4)), (18, .v (.bool (decide (t4 < (y_1.length : Int))))), (22, .agg [.v (.int .i64 t3_0), .sl 6]), (23, .pp 1 1), (24, .sl 2), (25, .v (.int .i64 t4)), (26, .ep 2 t4.toNat 3 0), (27, .ep 2 t4.toNat 3 1), (29, .pp 1 1), (30, .sl 2), (31, .v (.int .i64 t4)), (32, .ep 2 t4.toNat 3 0), (33, .ep 2 t4.toNat 3 0), (34, .v (.int .i64 ((y_1.getD t4.toNat (0, 0, 0)).1))), (35, .pp 1 1), (36, .sl 2), (37, .v (.int .i64 t4))] [.row false (.trips a0_1), .rbox [.v (.int .i64 y), .sl 2], .row true (.trips y_1), .box [.v (.int .i64 0), .sl 4], .row true (.trips []), .box [.v (.int .i64 t3_0), .sl 6], .row true (.trips t3_1s)] := by
                refine hL.step [(6, [], 9, #[true, true, true, true, true, true, true, true, true, true, true, true, true, true, true, true, false, false, false, false, false, false, false, false, false]), (16, [17], 8, #[true, true, true, true, true, true, false, true, true, true, true, true, true, true, true, true, true, true, false, false, false, false, false, false, false])] (by kernel_rfl) ⟨?_, ?_, trivial⟩
                · exact hL.edge n5
                · exact hL.edge n17
              have n20 : L 8 #[true, true, true, true, true, true, false, true, true, true, true, true, false, true, true, true, true, true, true, false, false, false, false, false, false] [(1, .pp 1 0), (2, .pp 3 0), (3, .pp 5 0), (4, .v (.int .i64 t4)), (18, .v (.bool (decide (t4 < (y_1.length : Int))))), (22, .agg [.v (.int .i64 t3_0), .sl 6]), (23, .pp 1 1), (24, .sl 2), (25, .v (.int .i64 t4)), (26, .ep 2 t4.toNat 3 0), (27, .ep 2 t4.toNat 3 1), (29, .pp 1 1), (30, .sl 2), (31, .v (.int .i64 t4)), (32, .ep 2 t4.toNat 3 0), (33, .ep 2 t4.toNat 3 0), (35, .pp 1 1), (36, .sl 2), (37, .v (.int .i64 t4)), (38, .ep 2 t4.toNat 3 0), (39, .ep 2 t4.toNat 3 2), (40, .v (.int .i64 ((y_1.getD t4.toNat (0, 0, 0)).2.2)))] [.row false (.trips a0_1), .rbox [.v (.int .i64 y), .sl 2], .row true (.trips y_1), .box [.v (.int .i64 0), .sl 4], .row true (.trips []), .box [.v (.int .i64 t3_0), .sl 6], .row true (.trips t3_1s)] := by
                refine hL.step [(6, [], 7, #[true, true, true, true, true, true, true, true, true, true, true, true, false, true, true, true, true, true, true, false, false, false, false, false, false]), (12, [], 7, #[true, true, true, true, true, true, false, true, true, true, true, true, true, true, true, true, true, true, true, false, false, false, false, false, false])] (by kernel_rfl) ⟨?_, ?_, trivial⟩
                · exact hL.edge n12
                · exact hL.edge n18
              have n19 : L 9 #[true, true, true, true, true, true, false, true, true, true, true, true, false, true, true, true, true, true, false, false, false, false, false, false, false] [(1, .pp 1 0), (2, .pp 3 0), (3, .pp 5 0), (4, .v (.int .i64 t4)), (18, .v (.bool (decide (t4 < (y_1.length : Int))))), (22, .agg [.v (.int .i64 t3_0), .sl 6]), (23, .pp 1 1), (24, .sl 2), (25, .v (.int .i64 t4)), (26, .ep 2 t4.toNat 3 0), (27, .ep 2 t4.toNat 3 1), (29, .pp 1 1), (30, .sl 2), (31, .v (.int .i64 t4)), (32, .ep 2 t4.toNat 3 0), (33, .ep 2 t4.toNat 3 0), (35, .pp 1 1), (36, .sl 2), (37, .v (.int .i64 t4)), (38, .ep 2 t4.toNat 3 0), (39, .ep 2 t4.toNat 3 2)] [.row false (.trips a0_1), .rbox [.v (.int .i64 y), .sl 2], .row true (.trips y_1), .box [.v (.int .i64 0), .sl 4], .row true (.trips []), .box [.v (.int .i64 t3_0), .sl 6], .row true (.trips t3_1s)] := by
                refine hL.step [(6, [], 8, #[true, true, true, true, true, true, true, true, true, true, true, true, false, true, true, true, true, true, false, false, false, false, false, false, false]), (12, [], 8, #[true, true, true, true, true, true, false, true, true, true, true, true, true, true, true, true, true, true, false, false, false, false, false, false, false]), (18, [], 8, #[true, true, true, true, true, true, false, true, true, true, true, true, false, true, true, true, true, true, true, false, false, false, false, false, false])] (by kernel_rfl) ⟨?_, ?_, ?_, trivial⟩
                · exact hL.edge n11
                · exact hL.edge n17
                · exact hL.edge n20
              have n15 : L 11 #[true, true, true, true, true, true, false, true, true, true, true, true, false, true, true, true, false, false, false, false, false, false, false, false, false] [(1, .pp 1 0), (2, .pp 3 0), (3, .pp 5 0), (4, .v (.int .i64 t4)), (18, .v (.bool (decide (t4 < (y_1.length : Int))))), (22, .agg [.v (.int .i64 t3_0), .sl 6]), (23, .pp 1 1), (24, .sl 2), (25, .v (.int .i64 t4)), (26, .ep 2 t4.toNat 3 0), (27, .ep 2 t4.toNat 3 1), (29, .pp 1 1), (30, .sl 2), (31, .v (.int .i64 t4)), (32, .ep 2 t4.toNat 3 0), (33, .ep 2 t4.toNat 3 0), (35, .pp 1 1), (36, .sl 2), (37, .v (.int .i64 t4))] [.row false (.trips a0_1), .rbox [.v (.int .i64 y), .sl 2], .row true (.trips y_1), .box [.v (.int .i64 0), .sl 4], .row true (.trips []), .box [.v (.int .i64 t3_0), .sl 6], .row true (.trips t3_1s)] := by
                refine hL.step [(6, [], 10, #[true, true, true, true, true, true, true, true, true, true, true, true, false, true, true, true, false, false, false, false, false, false, false, false, false]), (12, [], 10, #[true, true, true, true, true, true, false, true, true, true, true, true, true, true, true, true, false, false, false, false, false, false, false, false, false]), (16, [17], 9, #[true, true, true, true, true, true, false, true, true, true, true, true, false, true, true, true, true, true, false, false, false, false, false, false, false])] (by kernel_rfl) ⟨?_, ?_, ?_, trivial⟩
                · exact hL.edge n4
                · exact hL.edge n16
                · exact hL.edge n19
              have n22 : L 10 #[true, true, true, true, true, true, false, true, true, true, false, false, false, true, true, true, true, true, true, false, false, false, false, false, false] [(1, .pp 1 0), (2, .pp 3 0), (3, .pp 5 0), (4, .v (.int .i64 t4)), (18, .v (.bool (decide (t4 < (y_1.length : Int))))), (22, .agg [.v (.int .i64 t3_0), .sl 6]), (23, .pp 1 1), (24, .sl 2), (25, .v (.int .i64 t4)), (26, .ep 2 t4.toNat 3 0), (27, .ep 2 t4.toNat 3 1), (29, .pp 1 1), (30, .sl 2), (31, .v (.int .i64 t4)), (35, .pp 1 1), (36, .sl 2), (37, .v (.int .i64 t4)), (38, .ep 2 t4.toNat 3 0), (39, .ep 2 t4.toNat 3 2), (40, .v (.int .i64 ((y_1.getD t4.toNat (0, 0, 0)).2.2)))] [.row false (.trips a0_1), .rbox [.v (.int .i64 y), .sl 2], .row true (.trips y_1), .box [.v (.int .i64 0), .sl 4], .row true (.trips []), .box [.v (.int .i64 t3_0), .sl 6], .row true (.trips t3_1s)] := by
                refine hL.step [(6, [], 9, #[true, true, true, true, true, true, true, true, true, true, false, false, false, true, true, true, true, true, true, false, false, false, false, false, false]), (10, [11], 8, #[true, true, true, true, true, true, false, true, true, true, true, true, false, true, true, true, true, true, true, false, false, false, false, false, false])] (by kernel_rfl) ⟨?_, ?_, trivial⟩
                · exact hL.edge n14
                · exact hL.edge n20
              have n21 : L 11 #[true, true, true, true, true, true, false, true, true, true, false, false, false, true, true, true, true, true, false, false, false, false, false, false, false] [(1, .pp 1 0), (2, .pp 3 0), (3, .pp 5 0), (4, .v (.int .i64 t4)), (18, .v (.bool (decide (t4 < (y_1.length : Int))))), (22, .agg [.v (.int .i64 t3_0), .sl 6]), (23, .pp 1 1), (24, .sl 2), (25, .v (.int .i64 t4)), (26, .ep 2 t4.toNat 3 0), (27, .ep 2 t4.toNat 3 1), (29, .pp 1 1), (30, .sl 2), (31, .v (.int .i64 t4)), (35, .pp 1 1), (36, .sl 2), (37, .v (.int .i64 t4)), (38, .ep 2 t4.toNat 3 0), (39, .ep 2 t4.toNat 3 2)] [.row false (.trips a0_1), .rbox [.v (.int .i64 y), .sl 2], .row true (.trips y_1), .box [.v (.int .i64 0), .sl 4], .row true (.trips []), .box [.v (.int .i64 t3_0), .sl 6], .row true (.trips t3_1s)] := by
                refine hL.step [(6, [], 10, #[true, true, true, true, true, true, true, true, true, true, false, false, false, true, true, true, true, true, false, false, false, false, false, false, false]), (10, [11], 9, #[true, true, true, true, true, true, false, true, true, true, true, true, false, true, true, true, true, true, false, false, false, false, false, false, false]), (18, [], 10, #[true, true, true, true, true, true, false, true, true, true, false, false, false, true, true, true, true, true, true, false, false, false, false, false, false])] (by kernel_rfl) ⟨?_, ?_, ?_, trivial⟩
                · exact hL.edge n13
                · exact hL.edge n19
                · exact hL.edge n22
              have n2 : L 13 #[true, true, true, true, true, true, false, true, true, true, false, false, false, true, true, true, false, false, false, false, false, false, false, false, false] [(1, .pp 1 0), (2, .pp 3 0), (3, .pp 5 0), (4, .v (.int .i64 t4)), (18, .v (.bool (decide (t4 < (y_1.length : Int))))), (22, .agg [.v (.int .i64 t3_0), .sl 6]), (23, .pp 1 1), (24, .sl 2), (25, .v (.int .i64 t4)), (26, .ep 2 t4.toNat 3 0), (27, .ep 2 t4.toNat 3 1), (29, .pp 1 1), (30, .sl 2), (31, .v (.int .i64 t4)), (35, .pp 1 1), (36, .sl 2), (37, .v (.int .i64 t4))] [.row false (.trips a0_1), .rbox [.v (.int .i64 y), .sl 2], .row true (.trips y_1), .box [.v (.int .i64 0), .sl 4], .row true (.trips []), .box [.v (.int .i64 t3_0), .sl 6], .row true (.trips t3_1s)] := by
                refine hL.step [(6, [], 12, #[true, true, true, true, true, true, true, true, true, true, false, false, false, true, true, true, false, false, false, false, false, false, false, false, false]), (10, [11], 11, #[true, true, true, true, true, true, false, true, true, true, true, true, false, true, true, true, false, false, false, false, false, false, false, false, false]), (16, [17], 11, #[true, true, true, true, true, true, false, true, true, true, false, false, false, true, true, true, true, true, false, false, false, false, false, false, false])] (by kernel_rfl) ⟨?_, ?_, ?_, trivial⟩
                · exact hL.edge n3
                · exact hL.edge n15
                · exact hL.edge n21
              have n26 : L 9 #[true, true, true, true, false, false, false, true, true, true, true, true, true, true, true, true, true, true, true, false, false, false, false, false, false] [(1, .pp 1 0), (2, .pp 3 0), (3, .pp 5 0), (4, .v (.int .i64 t4)), (18, .v (.bool (decide (t4 < (y_1.length : Int))))), (22, .agg [.v (.int .i64 t3_0), .sl 6]), (23, .pp 1 1), (24, .sl 2), (25, .v (.int .i64 t4)), (29, .pp 1 1), (30, .sl 2), (31, .v (.int .i64 t4)), (32, .ep 2 t4.toNat 3 0), (33, .ep 2 t4.toNat 3 0), (34, .v (.int .i64 ((y_1.getD t4.toNat (0, 0, 0)).1))), (35, .pp 1 1), (36, .sl 2), (37, .v (.int .i64 t4)), (38, .ep 2 t4.toNat 3 0), (39, .ep 2 t4.toNat 3 2), (40, .v (.int .i64 ((y_1.getD t4.toNat (0, 0, 0)).2.2)))] [.row false (.trips a0_1), .rbox [.v (.int .i64 y), .sl 2], .row true (.trips y_1), .box [.v (.int .i64 0), .sl 4], .row true (.trips []), .box [.v (.int .i64 t3_0), .sl 6], .row true (.trips t3_1s)] := by
                refine hL.step [(4, [5], 7, #[true, true, true, true, true, true, false, true, true, true, true, true, true, true, true, true, true, true, true, false, false, false, false, false, false])] (by kernel_rfl) ⟨?_, trivial⟩
                · exact hL.edge n18
              have n25 : L 10 #[true, true, true, true, false, false, false, true, true, true, true, true, true, true, true, true, true, true, false, false, false, false, false, false, false] [(1, .pp 1 0), (2, .pp 3 0), (3, .pp 5 0), (4, .v (.int .i64 t4)), (18, .v (.bool (decide (t4 < (y_1.length : Int))))), (22, .agg [.v (.int .i64 t3_0), .sl 6]), (23, .pp 1 1), (24, .sl 2), (25, .v (.int .i64 t4)), (29, .pp 1 1), (30, .sl 2), (31, .v (.int .i64 t4)), (32, .ep 2 t4.toNat 3 0), (33, .ep 2 t4.toNat 3 0), (34, .v (.int .i64 ((y_1.getD t4.toNat (0, 0, 0)).1))), (35, .pp 1 1), (36, .sl 2), (37, .v (.int .i64 t4)), (38, .ep 2 t4.toNat 3 0), (39, .ep 2 t4.toNat 3 2)] [.row false (.trips a0_1), .rbox [.v (.int .i64 y), .sl 2], .row true (.trips y_1), .box [.v (.int .i64 0), .sl 4], .row true (.trips []), .box [.v (.int .i64 t3_0), .sl 6], .row true (.trips t3_1s)] := by
                refine hL.step [(4, [5], 8, #[true, true, true, true, true, true, false, true, true, true, true, true, true, true, true, true, true, true, false, false, false, false, false, false, false]), (18, [], 9, #[true, true, true, true, false, false, false, true, true, true, true, true, true, true, true, true, true, true, true, false, false, false, false, false, false])] (by kernel_rfl) ⟨?_, ?_, trivial⟩
                · exact hL.edge n17
                · exact hL.edge n26
              have n24 : L 12 #[true, true, true, true, false, false, false, true, true, true, true, true, true, true, true, true, false, false, false, false, false, false, false, false, false] [(1, .pp 1 0), (2, .pp 3 0), (3, .pp 5 0), (4, .v (.int .i64 t4)), (18, .v (.bool (decide (t4 < (y_1.length : Int))))), (22, .agg [.v (.int .i64 t3_0), .sl 6]), (23, .pp 1 1), (24, .sl 2), (25, .v (.int .i64 t4)), (29, .pp 1 1), (30, .sl 2), (31, .v (.int .i64 t4)), (32, .ep 2 t4.toNat 3 0), (33, .ep 2 t4.toNat 3 0), (34, .v (.int .i64 ((y_1.getD t4.toNat (0, 0, 0)).1))), (35, .pp 1 1), (36, .sl 2), (37, .v (.int .i64 t4))] [.row false (.trips a0_1), .rbox [.v (.int .i64 y), .sl 2], .row true (.trips y_1), .box [.v (.int .i64 0), .sl 4], .row true (.trips []), .box [.v (.int .i64 t3_0), .sl 6], .row true (.trips t3_1s)] := by
                refine hL.step [(4, [5], 10, #[true, true, true, true, true, true, false, true, true, true, true, true, true, true, true, true, false, false, false, false, false, false, false, false, false]), (16, [17], 10, #[true, true, true, true, false, false, false, true, true, true, true, true, true, true, true, true, true, true, false, false, false, false, false, false, false])] (by kernel_rfl) ⟨?_, ?_, trivial⟩
                · exact hL.edge n16
                · exact hL.edge n25
              have n28 : L 10 #[true, true, true, true, false, false, false, true, true, true, true, true, false, true, true, true, true, true, true, false, false, false, false, false, false] [(1, .pp 1 0), (2, .pp 3 0), (3, .pp 5 0), (4, .v (.int .i64 t4)), (18, .v (.bool (decide (t4 < (y_1.length : Int))))), (22, .agg [.v (.int .i64 t3_0), .sl 6]), (23, .pp 1 1), (24, .sl 2), (25, .v (.int .i64 t4)), (29, .pp 1 1), (30, .sl 2), (31, .v (.int .i64 t4)), (32, .ep 2 t4.toNat 3 0), (33, .ep 2 t4.toNat 3 0), (35, .pp 1 1), (36, .sl 2), (37, .v (.int .i64 t4)), (38, .ep 2 t4.toNat 3 0), (39, .ep 2 t4.toNat 3 2), (40, .v (.int .i64 ((y_1.getD t4.toNat (0, 0, 0)).2.2)))] [.row false (.trips a0_1), .rbox [.v (.int .i64 y), .sl 2], .row true (.trips y_1), .box [.v (.int .i64 0), .sl 4], .row true (.trips []), .box [.v (.int .i64 t3_0), .sl 6], .row true (.trips t3_1s)] := by
                refine hL.step [(4, [5], 8, #[true, true, true, true, true, true, false, true, true, true, true, true, false, true, true, true, true, true, true, false, false, false, false, false, false]), (12, [], 9, #[true, true, true, true, false, false, false, true, true, true, true, true, true, true, true, true, true, true, true, false, false, false, false, false, false])] (by kernel_rfl) ⟨?_, ?_, trivial⟩
                · exact hL.edge n20
                · exact hL.edge n26
              have n27 : L 11 #[true, true, true, true, false, false, false, true, true, true, true, true, false, true, true, true, true, true, false, false, false, false, false, false, false] [(1, .pp 1 0), (2, .pp 3 0), (3, .pp 5 0), (4, .v (.int .i64 t4)), (18, .v (.bool (decide (t4 < (y_1.length : Int))))), (22, .agg [.v (.int .i64 t3_0), .sl 6]), (23, .pp 1 1), (24, .sl 2), (25, .v (.int .i64 t4)), (29, .pp 1 1), (30, .sl 2), (31, .v (.int .i64 t4)), (32, .ep 2 t4.toNat 3 0), (33, .ep 2 t4.toNat 3 0), (35, .pp 1 1), (36, .sl 2), (37, .v (.int .i64 t4)), (38, .ep 2 t4.toNat 3 0), (39, .ep 2 t4.toNat 3 2)] [.row false (.trips a0_1), .rbox [.v (.int .i64 y), .sl 2], .row true (.trips y_1), .box [.v (.int .i64 0), .sl 4], .row true (.trips []), .box [.v (.int .i64 t3_0), .sl 6], .row true (.trips t3_1s)] := by
                refine hL.step [(4, [5], 9, #[true, true, true, true, true, true, false, true, true, true, true, true, false, true, true, true, true, true, false, false, false, false, false, false, false]), (12, [], 10, #[true, true, true, true, false, false, false, true, true, true, true, true, true, true, true, true, true, true, false, false, false, false, false, false, false]), (18, [], 10, #[true, true, true, true, false, false, false, true, true, true, true, true, false, true, true, true, true, true, true, false, false, false, false, false, false])] (by kernel_rfl) ⟨?_, ?_, ?_, trivial⟩
                · exact hL.edge n19
                · exact hL.edge n25
                · exact hL.edge n28
              have n23 : L 13 #[true, true, true, true, false, false, false, true, true, true, true, true, false, true, true, true, false, false, false, false, false, false, false, false, false] [(1, .pp 1 0), (2, .pp 3 0), (3, .pp 5 0), (4, .v (.int .i64 t4)), (18, .v (.bool (decide (t4 < (y_1.length : Int))))), (22, .agg [.v (.int .i64 t3_0), .sl 6]), (23, .pp 1 1), (24, .sl 2), (25, .v (.int .i64 t4)), (29, .pp 1 1), (30, .sl 2), (31, .v (.int .i64 t4)), (32, .ep 2 t4.toNat 3 0), (33, .ep 2 t4.toNat 3 0), (35, .pp 1 1), (36, .sl 2), (37, .v (.int .i64 t4))] [.row false (.trips a0_1), .rbox [.v (.int .i64 y), .sl 2], .row true (.trips y_1), .box [.v (.int .i64 0), .sl 4], .row true (.trips []), .box [.v (.int .i64 t3_0), .sl 6], .row true (.trips t3_1s)] := by
                refine hL.step [(4, [5], 11, #[true, true, true, true, true, true, false, true, true, true, true, true, false, true, true, true, false, false, false, false, false, false, false, false, false]), (12, [], 12, #[true, true, true, true, false, false, false, true, true, true, true, true, true, true, true, true, false, false, false, false, false, false, false, false, false]), (16, [17], 11, #[true, true, true, true, false, false, false, true, true, true, true, true, false, true, true, true, true, true, false, false, false, false, false, false, false])] (by kernel_rfl) ⟨?_, ?_, ?_, trivial⟩
                · exact hL.edge n15
                · exact hL.edge n24
                · exact hL.edge n27
              have n30 : L 12 #[true, true, true, true, false, false, false, true, true, true, false, false, false, true, true, true, true, true, true, false, false, false, false, false, false] [(1, .pp 1 0), (2, .pp 3 0), (3, .pp 5 0), (4, .v (.int .i64 t4)), (18, .v (.bool (decide (t4 < (y_1.length : Int))))), (22, .agg [.v (.int .i64 t3_0), .sl 6]), (23, .pp 1 1), (24, .sl 2), (25, .v (.int .i64 t4)), (29, .pp 1 1), (30, .sl 2), (31, .v (.int .i64 t4)), (35, .pp 1 1), (36, .sl 2), (37, .v (.int .i64 t4)), (38, .ep 2 t4.toNat 3 0), (39, .ep 2 t4.toNat 3 2), (40, .v (.int .i64 ((y_1.getD t4.toNat (0, 0, 0)).2.2)))] [.row false (.trips a0_1), .rbox [.v (.int .i64 y), .sl 2], .row true (.trips y_1), .box [.v (.int .i64 0), .sl 4], .row true (.trips []), .box [.v (.int .i64 t3_0), .sl 6], .row true (.trips t3_1s)] := by
                refine hL.step [(4, [5], 10, #[true, true, true, true, true, true, false, true, true, true, false, false, false, true, true, true, true, true, true, false, false, false, false, false, false]), (10, [11], 10, #[true, true, true, true, false, false, false, true, true, true, true, true, false, true, true, true, true, true, true, false, false, false, false, false, false])] (by kernel_rfl) ⟨?_, ?_, trivial⟩
                · exact hL.edge n22
                · exact hL.edge n28
              have n29 : L 13 #[true, true, true, true, false, false, false, true, true, true, false, false, false, true, true, true, true, true, false, false, false, false, false, false, false] [(1, .pp 1 0), (2, .pp 3 0), (3, .pp 5 0), (4, .v (.int .i64 t4)), (18, .v (.bool (decide (t4 < (y_1.length : Int))))), (22, .agg [.v (.int .i64 t3_0), .sl 6]), (23, .pp 1 1), (24, .sl 2), (25, .v (.int .i64 t4)), (29, .pp 1 1), (30, .sl 2), (31, .v (.int .i64 t4)), (35, .pp 1 1), (36, .sl 2), (37, .v (.int .i64 t4)), (38, .ep 2 t4.toNat 3 0), (39, .ep 2 t4.toNat 3 2)] [.row false (.trips a0_1), .rbox [.v (.int .i64 y), .sl 2], .row true (.trips y_1), .box [.v (.int .i64 0), .sl 4], .row true (.trips []), .box [.v (.int .i64 t3_0), .sl 6], .row true (.trips t3_1s)] := by
                refine hL.step [(4, [5], 11, #[true, true, true, true, true, true, false, true, true, true, false, false, false, true, true, true, true, true, false, false, false, false, false, false, false]), (10, [11], 11, #[true, true, true, true, false, false, false, true, true, true, true, true, false, true, true, true, true, true, false, false, false, false, false, false, false]), (18, [], 12, #[true, true, true, true, false, false, false, true, true, true, false, false, false, true, true, true, true, true, true, false, false, false, false, false, false])] (by kernel_rfl) ⟨?_, ?_, ?_, trivial⟩
                · exact hL.edge n21
                · exact hL.edge n27
                · exact hL.edge n30
              have n1 : L 15 #[true, true, true, true, false, false, false, true, true, true, false, false, false, true, true, true, false, false, false, false, false, false, false, false, false] [(1, .pp 1 0), (2, .pp 3 0), (3, .pp 5 0), (4, .v (.int .i64 t4)), (18, .v (.bool (decide (t4 < (y_1.length : Int))))), (22, .agg [.v (.int .i64 t3_0), .sl 6]), (23, .pp 1 1), (24, .sl 2), (25, .v (.int .i64 t4)), (29, .pp 1 1), (30, .sl 2), (31, .v (.int .i64 t4)), (35, .pp 1 1), (36, .sl 2), (37, .v (.int .i64 t4))] [.row false (.trips a0_1), .rbox [.v (.int .i64 y), .sl 2], .row true (.trips y_1), .box [.v (.int .i64 0), .sl 4], .row true (.trips []), .box [.v (.int .i64 t3_0), .sl 6], .row true (.trips t3_1s)] := by
                refine hL.step [(4, [5], 13, #[true, true, true, true, true, true, false, true, true, true, false, false, false, true, true, true, false, false, false, false, false, false, false, false, false]), (10, [11], 13, #[true, true, true, true, false, false, false, true, true, true, true, true, false, true, true, true, false, false, false, false, false, false, false, false, false]), (16, [17], 13, #[true, true, true, true, false, false, false, true, true, true, false, false, false, true, true, true, true, true, false, false, false, false, false, false, false])] (by kernel_rfl) ⟨?_, ?_, ?_, trivial⟩
                · exact hL.edge n2
                · exact hL.edge n23
                · exact hL.edge n29
              have n36 : L 6 #[false, true, true, true, true, true, true, true, true, true, true, true, true, true, true, true, true, true, true, true, false, false, false, false, false] [(1, .pp 1 0), (2, .pp 3 0), (3, .pp 5 0), (4, .v (.int .i64 t4)), (18, .v (.bool (decide (t4 < (y_1.length : Int))))), (23, .pp 1 1), (24, .sl 2), (25, .v (.int .i64 t4)), (26, .ep 2 t4.toNat 3 0), (27, .ep 2 t4.toNat 3 1), (28, .v (.int .i64 ((y_1.getD t4.toNat (0, 0, 0)).2.1))), (29, .pp 1 1), (30, .sl 2), (31, .v (.int .i64 t4)), (32, .ep 2 t4.toNat 3 0), (33, .ep 2 t4.toNat 3 0), (34, .v (.int .i64 ((y_1.getD t4.toNat (0, 0, 0)).1))), (35, .pp 1 1), (36, .sl 2), (37, .v (.int .i64 t4)), (38, .ep 2 t4.toNat 3 0), (39, .ep 2 t4.toNat 3 2), (40, .v (.int .i64 ((y_1.getD t4.toNat (0, 0, 0)).2.2))), (41, .agg [.v (.int .i64 ((y_1.getD t4.toNat (0, 0, 0)).2.1)), .v (.int .i64 ((y_1.getD t4.toNat (0, 0, 0)).1)), .v (.int .i64 ((y_1.getD t4.toNat (0, 0, 0)).2.2))])] [.row false (.trips a0_1), .rbox [.v (.int .i64 y), .sl 2], .row true (.trips y_1), .box [.v (.int .i64 0), .sl 4], .row true (.trips []), .box [.v (.int .i64 t3_0), .sl 6], .row true (.trips t3_1s)] := by
                refine hL.step [(0, [], 5, #[true, true, true, true, true, true, true, true, true, true, true, true, true, true, true, true, true, true, true, true, false, false, false, false, false])] (by kernel_rfl) ⟨?_, trivial⟩
                · exact hL.edge n7
              have n35 : L 8 #[false, true, true, true, true, true, true, true, true, true, true, true, true, true, true, true, true, true, false, false, false, false, false, false, false] [(1, .pp 1 0), (2, .pp 3 0), (3, .pp 5 0), (4, .v (.int .i64 t4)), (18, .v (.bool (decide (t4 < (y_1.length : Int))))), (23, .pp 1 1), (24, .sl 2), (25, .v (.int .i64 t4)), (26, .ep 2 t4.toNat 3 0), (27, .ep 2 t4.toNat 3 1), (28, .v (.int .i64 ((y_1.getD t4.toNat (0, 0, 0)).2.1))), (29, .pp 1 1), (30, .sl 2), (31, .v (.int .i64 t4)), (32, .ep 2 t4.toNat 3 0), (33, .ep 2 t4.toNat 3 0), (34, .v (.int .i64 ((y_1.getD t4.toNat (0, 0, 0)).1))), (35, .pp 1 1), (36, .sl 2), (37, .v (.int .i64 t4)), (38, .ep 2 t4.toNat 3 0), (39, .ep 2 t4.toNat 3 2)] [.row false (.trips a0_1), .rbox [.v (.int .i64 y), .sl 2], .row true (.trips y_1), .box [.v (.int .i64 0), .sl 4], .row true (.trips []), .box [.v (.int .i64 t3_0), .sl 6], .row true (.trips t3_1s)] := by
                refine hL.step [(0, [], 7, #[true, true, true, true, true, true, true, true, true, true, true, true, true, true, true, true, true, true, false, false, false, false, false, false, false]), (18, [19], 6, #[false, true, true, true, true, true, true, true, true, true, true, true, true, true, true, true, true, true, true, true, false, false, false, false, false])] (by kernel_rfl) ⟨?_, ?_, trivial⟩
                · exact hL.edge n6
                · exact hL.edge n36
              have n34 : L 10 #[false, true, true, true, true, true, true, true, true, true, true, true, true, true, true, true, false, false, false, false, false, false, false, false, false] [(1, .pp 1 0), (2, .pp 3 0), (3, .pp 5 0), (4, .v (.int .i64 t4)), (18, .v (.bool (decide (t4 < (y_1.length : Int))))), (23, .pp 1 1), (24, .sl 2), (25, .v (.int .i64 t4)), (26, .ep 2 t4.toNat 3 0), (27, .ep 2 t4.toNat 3 1), (28, .v (.int .i64 ((y_1.getD t4.toNat (0, 0, 0)).2.1))), (29, .pp 1 1), (30, .sl 2), (31, .v (.int .i64 t4)), (32, .ep 2 t4.toNat 3 0), (33, .ep 2 t4.toNat 3 0), (34, .v (.int .i64 ((y_1.getD t4.toNat (0, 0, 0)).1))), (35, .pp 1 1), (36, .sl 2), (37, .v (.int .i64 t4))] [.row false (.trips a0_1), .rbox [.v (.int .i64 y), .sl 2], .row true (.trips y_1), .box [.v (.int .i64 0), .sl 4], .row true (.trips []), .box [.v (.int .i64 t3_0), .sl 6], .row true (.trips t3_1s)] := by
                refine hL.step [(0, [], 9, #[true, true, true, true, true, true, true, true, true, true, true, true, true, true, true, true, false, false, false, false, false, false, false, false, false]), (16, [17], 8, #[false, true, true, true, true, true, true, true, true, true, true, true, true, true, true, true, true, true, false, false, false, false, false, false, false])] (by kernel_rfl) ⟨?_, ?_, trivial⟩
                · exact hL.edge n5
                · exact hL.edge n35
              have n38 : L 8 #[false, true, true, true, true, true, true, true, true, true, true, true, false, true, true, true, true, true, true, false, false, false, false, false, false] [(1, .pp 1 0), (2, .pp 3 0), (3, .pp 5 0), (4, .v (.int .i64 t4)), (18, .v (.bool (decide (t4 < (y_1.length : Int))))), (23, .pp 1 1), (24, .sl 2), (25, .v (.int .i64 t4)), (26, .ep 2 t4.toNat 3 0), (27, .ep 2 t4.toNat 3 1), (28, .v (.int .i64 ((y_1.getD t4.toNat (0, 0, 0)).2.1))), (29, .pp 1 1), (30, .sl 2), (31, .v (.int .i64 t4)), (32, .ep 2 t4.toNat 3 0), (33, .ep 2 t4.toNat 3 0), (35, .pp 1 1), (36, .sl 2), (37, .v (.int .i64 t4)), (38, .ep 2 t4.toNat 3 0), (39, .ep 2 t4.toNat 3 2), (40, .v (.int .i64 ((y_1.getD t4.toNat (0, 0, 0)).2.2)))] [.row false (.trips a0_1), .rbox [.v (.int .i64 y), .sl 2], .row true (.trips y_1), .box [.v (.int .i64 0), .sl 4], .row true (.trips []), .box [.v (.int .i64 t3_0), .sl 6], .row true (.trips t3_1s)] := by
                refine hL.step [(0, [], 7, #[true, true, true, true, true, true, true, true, true, true, true, true, false, true, true, true, true, true, true, false, false, false, false, false, false]), (12, [19], 6, #[false, true, true, true, true, true, true, true, true, true, true, true, true, true, true, true, true, true, true, true, false, false, false, false, false])] (by kernel_rfl) ⟨?_, ?_, trivial⟩
                · exact hL.edge n12
                · exact hL.edge n36
              have n37 : L 9 #[false, true, true, true, true, true, true, true, true, true, true, true, false, true, true, true, true, true, false, false, false, false, false, false, false] [(1, .pp 1 0), (2, .pp 3 0), (3, .pp 5 0), (4, .v (.int .i64 t4)), (18, .v (.bool (decide (t4 < (y_1.length : Int))))), (23, .pp 1 1), (24, .sl 2), (25, .v (.int .i64 t4)), (26, .ep 2 t4.toNat 3 0), (27, .ep 2 t4.toNat 3 1), (28, .v (.int .i64 ((y_1.getD t4.toNat (0, 0, 0)).2.1))), (29, .pp 1 1), (30, .sl 2), (31, .v (.int .i64 t4)), (32, .ep 2 t4.toNat 3 0), (33, .ep 2 t4.toNat 3 0), (35, .pp 1 1), (36, .sl 2), (37, .v (.int .i64 t4)), (38, .ep 2 t4.toNat 3 0), (39, .ep 2 t4.toNat 3 2)] [.row false (.trips a0_1), .rbox [.v (.int .i64 y), .sl 2], .row true (.trips y_1), .box [.v (.int .i64 0), .sl 4], .row true (.trips []), .box [.v (.int .i64 t3_0), .sl 6], .row true (.trips t3_1s)] := by
                refine hL.step [(0, [], 8, #[true, true, true, true, true, true, true, true, true, true, true, true, false, true, true, true, true, true, false, false, false, false, false, false, false]), (12, [], 8, #[false, true, true, true, true, true, true, true, true, true, true, true, true, true, true, true, true, true, false, false, false, false, false, false, false]), (18, [], 8, #[false, true, true, true, true, true, true, true, true, true, true, true, false, true, true, true, true, true, true, false, false, false, false, false, false])] (by kernel_rfl) ⟨?_, ?_, ?_, trivial⟩
                · exact hL.edge n11
                · exact hL.edge n35
                · exact hL.edge n38
              have n33 : L 11 #[false, true, true, true, true, true, true, true, true, true, true, true, false, true, true, true, false, false, false, false, false, false, false, false, false] [(1, .pp 1 0), (2, .pp 3 0), (3, .pp 5 0), (4, .v (.int .i64 t4)), (18, .v (.bool (decide (t4 < (y_1.length : Int))))), (23, .pp 1 1), (24, .sl 2), (25, .v (.int .i64 t4)), (26, .ep 2 t4.toNat 3 0), (27, .ep 2 t4.toNat 3 1), (28, .v (.int .i64 ((y_1.getD t4.toNat (0, 0, 0)).2.1))), (29, .pp 1 1), (30, .sl 2), (31, .v (.int .i64 t4)), (32, .ep 2 t4.toNat 3 0), (33, .ep 2 t4.toNat 3 0), (35, .pp 1 1), (36, .sl 2), (37, .v (.int .i64 t4))] [.row false (.trips a0_1), .rbox [.v (.int .i64 y), .sl 2], .row true (.trips y_1), .box [.v (.int .i64 0), .sl 4], .row true (.trips []), .box [.v (.int .i64 t3_0), .sl 6], .row true (.trips t3_1s)] := by
                refine hL.step [(0, [], 10, #[true, true, true, true, true, true, true, true, true, true, true, true, false, true, true, true, false, false, false, false, false, false, false, false, false]), (12, [], 10, #[false, true, true, true, true, true, true, true, true, true, true, true, true, true, true, true, false, false, false, false, false, false, false, false, false]), (16, [17], 9, #[false, true, true, true, true, true, true, true, true, true, true, true, false, true, true, true, true, true, false, false, false, false, false, false, false])] (by kernel_rfl) ⟨?_, ?_, ?_, trivial⟩
                · exact hL.edge n4
                · exact hL.edge n34
                · exact hL.edge n37
              have n40 : L 10 #[false, true, true, true, true, true, true, true, true, true, false, false, false, true, true, true, true, true, true, false, false, false, false, false, false] [(1, .pp 1 0), (2, .pp 3 0), (3, .pp 5 0), (4, .v (.int .i64 t4)), (18, .v (.bool (decide (t4 < (y_1.length : Int))))), (23, .pp 1 1), (24, .sl 2), (25, .v (.int .i64 t4)), (26, .ep 2 t4.toNat 3 0), (27, .ep 2 t4.toNat 3 1), (28, .v (.int .i64 ((y_1.getD t4.toNat (0, 0, 0)).2.1))), (29, .pp 1 1), (30, .sl 2), (31, .v (.int .i64 t4)), (35, .pp 1 1), (36, .sl 2), (37, .v (.int .i64 t4)), (38, .ep 2 t4.toNat 3 0), (39, .ep 2 t4.toNat 3 2), (40, .v (.int .i64 ((y_1.getD t4.toNat (0, 0, 0)).2.2)))] [.row false (.trips a0_1), .rbox [.v (.int .i64 y), .sl 2], .row true (.trips y_1), .box [.v (.int .i64 0), .sl 4], .row true (.trips []), .box [.v (.int .i64 t3_0), .sl 6], .row true (.trips t3_1s)] := by
                refine hL.step [(0, [], 9, #[true, true, true, true, true, true, true, true, true, true, false, false, false, true, true, true, true, true, true, false, false, false, false, false, false]), (10, [11], 8, #[false, true, true, true, true, true, true, true, true, true, true, true, false, true, true, true, true, true, true, false, false, false, false, false, false])] (by kernel_rfl) ⟨?_, ?_, trivial⟩
                · exact hL.edge n14
                · exact hL.edge n38
              have n39 : L 11 #[false, true, true, true, true, true, true, true, true, true, false, false, false, true, true, true, true, true, false, false, false, false, false, false, false] [(1, .pp 1 0), (2, .pp 3 0), (3, .pp 5 0), (4, .v (.int .i64 t4)), (18, .v (.bool (decide (t4 < (y_1.length : Int))))), (23, .pp 1 1), (24, .sl 2), (25, .v (.int .i64 t4)), (26, .ep 2 t4.toNat 3 0), (27, .ep 2 t4.toNat 3 1), (28, .v (.int .i64 ((y_1.getD t4.toNat (0, 0, 0)).2.1))), (29, .pp 1 1), (30, .sl 2), (31, .v (.int .i64 t4)), (35, .pp 1 1), (36, .sl 2), (37, .v (.int .i64 t4)), (38, .ep 2 t4.toNat 3 0), (39, .ep 2 t4.toNat 3 2)] [.row false (.trips a0_1), .rbox [.v (.int .i64 y), .sl 2], .row true (.trips y_1), .box [.v (.int .i64 0), .sl 4], .row true (.trips []), .box [.v (.int .i64 t3_0), .sl 6], .row true (.trips t3_1s)] := by
                refine hL.step [(0, [], 10, #[true, true, true, true, true, true, true, true, true, true, false, false, false, true, true, true, true, true, false, false, false, false, false, false, false]), (10, [11], 9, #[false, true, true, true, true, true, true, true, true, true, true, true, false, true, true, true, true, true, false, false, false, false, false, false, false]), (18, [], 10, #[false, true, true, true, true, true, true, true, true, true, false, false, false, true, true, true, true, true, true, false, false, false, false, false, false])] (by kernel_rfl) ⟨?_, ?_, ?_, trivial⟩
                · exact hL.edge n13
                · exact hL.edge n37
                · exact hL.edge n40
              have n32 : L 13 #[false, true, true, true, true, true, true, true, true, true, false, false, false, true, true, true, false, false, false, false, false, false, false, false, false] [(1, .pp 1 0), (2, .pp 3 0), (3, .pp 5 0), (4, .v (.int .i64 t4)), (18, .v (.bool (decide (t4 < (y_1.length : Int))))), (23, .pp 1 1), (24, .sl 2), (25, .v (.int .i64 t4)), (26, .ep 2 t4.toNat 3 0), (27, .ep 2 t4.toNat 3 1), (28, .v (.int .i64 ((y_1.getD t4.toNat (0, 0, 0)).2.1))), (29, .pp 1 1), (30, .sl 2), (31, .v (.int .i64 t4)), (35, .pp 1 1), (36, .sl 2), (37, .v (.int .i64 t4))] [.row false (.trips a0_1), .rbox [.v (.int .i64 y), .sl 2], .row true (.trips y_1), .box [.v (.int .i64 0), .sl 4], .row true (.trips []), .box [.v (.int .i64 t3_0), .sl 6], .row true (.trips t3_1s)] := by
                refine hL.step [(0, [], 12, #[true, true, true, true, true, true, true, true, true, true, false, false, false, true, true, true, false, false, false, false, false, false, false, false, false]), (10, [11], 11, #[false, true, true, true, true, true, true, true, true, true, true, true, false, true, true, true, false, false, false, false, false, false, false, false, false]), (16, [17], 11, #[false, true, true, true, true, true, true, true, true, true, false, false, false, true, true, true, true, true, false, false, false, false, false, false, false])] (by kernel_rfl) ⟨?_, ?_, ?_, trivial⟩
                · exact hL.edge n3
                · exact hL.edge n33
                · exact hL.edge n39
              have n44 : L 8 #[false, true, true, true, true, true, false, true, true, true, true, true, true, true, true, true, true, true, true, false, false, false, false, false, false] [(1, .pp 1 0), (2, .pp 3 0), (3, .pp 5 0), (4, .v (.int .i64 t4)), (18, .v (.bool (decide (t4 < (y_1.length : Int))))), (23, .pp 1 1), (24, .sl 2), (25, .v (.int .i64 t4)), (26, .ep 2 t4.toNat 3 0), (27, .ep 2 t4.toNat 3 1), (29, .pp 1 1), (30, .sl 2), (31, .v (.int .i64 t4)), (32, .ep 2 t4.toNat 3 0), (33, .ep 2 t4.toNat 3 0), (34, .v (.int .i64 ((y_1.getD t4.toNat (0, 0, 0)).1))), (35, .pp 1 1), (36, .sl 2), (37, .v (.int .i64 t4)), (38, .ep 2 t4.toNat 3 0), (39, .ep 2 t4.toNat 3 2), (40, .v (.int .i64 ((y_1.getD t4.toNat (0, 0, 0)).2.2)))] [.row false (.trips a0_1), .rbox [.v (.int .i64 y), .sl 2], .row true (.trips y_1), .box [.v (.int .i64 0), .sl 4], .row true (.trips []), .box [.v (.int .i64 t3_0), .sl 6], .row true (.trips t3_1s)] := by
                refine hL.step [(0, [], 7, #[true, true, true, true, true, true, false, true, true, true, true, true, true, true, true, true, true, true, true, false, false, false, false, false, false]), (6, [19], 6, #[false, true, true, true, true, true, true, true, true, true, true, true, true, true, true, true, true, true, true, true, false, false, false, false, false])] (by kernel_rfl) ⟨?_, ?_, trivial⟩
                · exact hL.edge n18
                · exact hL.edge n36
              have n43 : L 9 #[false, true, true, true, true, true, false, true, true, true, true, true, true, true, true, true, true, true, false, false, false, false, false, false, false] [(1, .pp 1 0), (2, .pp 3 0), (3, .pp 5 0), (4, .v (.int .i64 t4)), (18, .v (.bool (decide (t4 < (y_1.length : Int))))), (23, .pp 1 1), (24, .sl 2), (25, .v (.int .i64 t4)), (26, .ep 2 t4.toNat 3 0), (27, .ep 2 t4.toNat 3 1), (29, .pp 1 1), (30, .sl 2), (31, .v (.int .i64 t4)), (32, .ep 2 t4.toNat 3 0), (33, .ep 2 t4.toNat 3 0), (34, .v (.int .i64 ((y_1.getD t4.toNat (0, 0, 0)).1))), (35, .pp 1 1), (36, .sl 2), (37, .v (.int .i64 t4)), (38, .ep 2 t4.toNat 3 0), (39, .ep 2 t4.toNat 3 2)] [.row false (.trips a0_1), .rbox [.v (.int .i64 y), .sl 2], .row true (.trips y_1), .box [.v (.int .i64 0), .sl 4], .row true (.trips []), .box [.v (.int .i64 t3_0), .sl 6], .row true (.trips t3_1s)] := by
                refine hL.step [(0, [], 8, #[true, true, true, true, true, true, false, true, true, true, true, true, true, true, true, true, true, true, false, false, false, false, false, false, false]), (6, [], 8, #[false, true, true, true, true, true, true, true, true, true, true, true, true, true, true, true, true, true, false, false, false, false, false, false, false]), (18, [], 8, #[false, true, true, true, true, true, false, true, true, true, true, true, true, true, true, true, true, true, true, false, false, false, false, false, false])] (by kernel_rfl) ⟨?_, ?_, ?_, trivial⟩
                · exact hL.edge n17
                · exact hL.edge n35
                · exact hL.edge n44
              have n42 : L 11 #[false, true, true, true, true, true, false, true, true, true, true, true, true, true, true, true, false, false, false, false, false, false, false, false, false] [(1, .pp 1 0), (2, .pp 3 0), (3, .pp 5 0), (4, .v (.int .i64 t4)), (18, .v (.bool (decide (t4 < (y_1.length : Int))))), (23, .pp 1 1), (24, .sl 2), (25, .v (.int .i64 t4)), (26, .ep 2 t4.toNat 3 0), (27, .ep 2 t4.toNat 3 1), (29, .pp 1 1), (30, .sl 2), (31, .v (.int .i64 t4)), (32, .ep 2 t4.toNat 3 0), (33, .ep 2 t4.toNat 3 0), (34, .v (.int .i64 ((y_1.getD t4.toNat (0, 0, 0)).1))), (35, .pp 1 1), (36, .sl 2), (37, .v (.int .i64 t4))] [.row false (.trips a0_1), .rbox [.v (.int .i64 y), .sl 2], .row true (.trips y_1), .box [.v (.int .i64 0), .sl 4], .row true (.trips []), .box [.v (.int .i64 t3_0), .sl 6], .row true (.trips t3_1s)] := by
                refine hL.step [(0, [], 10, #[true, true, true, true, true, true, false, true, true, true, true, true, true, true, true, true, false, false, false, false, false, false, false, false, false]), (6, [], 10, #[false, true, true, true, true, true, true, true, true, true, true, true, true, true, true, true, false, false, false, false, false, false, false, false, false]), (16, [17], 9, #[false, true, true, true, true, true, false, true, true, true, true, true, true, true, true, true, true, true, false, false, false, false, false, false, false])] (by kernel_rfl) ⟨?_, ?_, ?_, trivial⟩
                · exact hL.edge n16
                · exact hL.edge n34
                · exact hL.edge n43
              have n46 : L 9 #[false, true, true, true, true, true, false, true, true, true, true, true, false, true, true, true, true, true, true, false, false, false, false, false, false] [(1, .pp 1 0), (2, .pp 3 0), (3, .pp 5 0), (4, .v (.int .i64 t4)), (18, .v (.bool (decide (t4 < (y_1.length : Int))))), (23, .pp 1 1), (24, .sl 2), (25, .v (.int .i64 t4)), (26, .ep 2 t4.toNat 3 0), (27, .ep 2 t4.toNat 3 1), (29, .pp 1 1), (30, .sl 2), (31, .v (.int .i64 t4)), (32, .ep 2 t4.toNat 3 0), (33, .ep 2 t4.toNat 3 0), (35, .pp 1 1), (36, .sl 2), (37, .v (.int .i64 t4)), (38, .ep 2 t4.toNat 3 0), (39, .ep 2 t4.toNat 3 2), (40, .v (.int .i64 ((y_1.getD t4.toNat (0, 0, 0)).2.2)))] [.row false (.trips a0_1), .rbox [.v (.int .i64 y), .sl 2], .row true (.trips y_1), .box [.v (.int .i64 0), .sl 4], .row true (.trips []), .box [.v (.int .i64 t3_0), .sl 6], .row true (.trips t3_1s)] := by
                refine hL.step [(0, [], 8, #[true, true, true, true, true, true, false, true, true, true, true, true, false, true, true, true, true, true, true, false, false, false, false, false, false]), (6, [], 8, #[false, true, true, true, true, true, true, true, true, true, true, true, false, true, true, true, true, true, true, false, false, false, false, false, false]), (12, [], 8, #[false, true, true, true, true, true, false, true, true, true, true, true, true, true, true, true, true, true, true, false, false, false, false, false, false])] (by kernel_rfl) ⟨?_, ?_, ?_, trivial⟩
                · exact hL.edge n20
                · exact hL.edge n38
                · exact hL.edge n44
              have n45 : L 10 #[false, true, true, true, true, true, false, true, true, true, true, true, false, true, true, true, true, true, false, false, false, false, false, false, false] [(1, .pp 1 0), (2, .pp 3 0), (3, .pp 5 0), (4, .v (.int .i64 t4)), (18, .v (.bool (decide (t4 < (y_1.length : Int))))), (23, .pp 1 1), (24, .sl 2), (25, .v (.int .i64 t4)), (26, .ep 2 t4.toNat 3 0), (27, .ep 2 t4.toNat 3 1), (29, .pp 1 1), (30, .sl 2), (31, .v (.int .i64 t4)), (32, .ep 2 t4.toNat 3 0), (33, .ep 2 t4.toNat 3 0), (35, .pp 1 1), (36, .sl 2), (37, .v (.int .i64 t4)), (38, .ep 2 t4.toNat 3 0), (39, .ep 2 t4.toNat 3 2)] [.row false (.trips a0_1), .rbox [.v (.int .i64 y), .sl 2], .row true (.trips y_1), .box [.v (.int .i64 0), .sl 4], .row true (.trips []), .box [.v (.int .i64 t3_0), .sl 6], .row true (.trips t3_1s)] := by
                refine hL.step [(0, [], 9, #[true, true, true, true, true, true, false, true, true, true, true, true, false, true, true, true, true, true, false, false, false, false, false, false, false]), (6, [], 9, #[false, true, true, true, true, true, true, true, true, true, true, true, false, true, true, true, true, true, false, false, false, false, false, false, false]), (12, [], 9, #[false, true, true, true, true, true, false, true, true, true, true, true, true, true, true, true, true, true, false, false, false, false, false, false, false]), (18, [], 9, #[false, true, true, true, true, true, false, true, true, true, true, true, false, true, true, true, true, true, true, false, false, false, false, false, false])] (by kernel_rfl) ⟨?_, ?_, ?_, ?_, trivial⟩
                · exact hL.edge n19
                · exact hL.edge n37
                · exact hL.edge n43
                · exact hL.edge n46
              have n41 : L 12 #[false, true, true, true, true, true, false, true, true, true, true, true, false, true, true, true, false, false, false, false, false, false, false, false, false] [(1, .pp 1 0), (2, .pp 3 0), (3, .pp 5 0), (4, .v (.int .i64 t4)), (18, .v (.bool (decide (t4 < (y_1.length : Int))))), (23, .pp 1 1), (24, .sl 2), (25, .v (.int .i64 t4)), (26, .ep 2 t4.toNat 3 0), (27, .ep 2 t4.toNat 3 1), (29, .pp 1 1), (30, .sl 2), (31, .v (.int .i64 t4)), (32, .ep 2 t4.toNat 3 0), (33, .ep 2 t4.toNat 3 0), (35, .pp 1 1), (36, .sl 2), (37, .v (.int .i64 t4))] [.row false (.trips a0_1), .rbox [.v (.int .i64 y), .sl 2], .row true (.trips y_1), .box [.v (.int .i64 0), .sl 4], .row true (.trips []), .box [.v (.int .i64 t3_0), .sl 6], .row true (.trips t3_1s)] := by
                refine hL.step [(0, [], 11, #[true, true, true, true, true, true, false, true, true, true, true, true, false, true, true, true, false, false, false, false, false, false, false, false, false]), (6, [], 11, #[false, true, true, true, true, true, true, true, true, true, true, true, false, true, true, true, false, false, false, false, false, false, false, false, false]), (12, [], 11, #[false, true, true, true, true, true, false, true, true, true, true, true, true, true, true, true, false, false, false, false, false, false, false, false, false]), (16, [17], 10, #[false, true, true, true, true, true, false, true, true, true, true, true, false, true, true, true, true, true, false, false, false, false, false, false, false])] (by kernel_rfl) ⟨?_, ?_, ?_, ?_, trivial⟩
                · exact hL.edge n15
                · exact hL.edge n33
                · exact hL.edge n42
                · exact hL.edge n45
              have n48 : L 11 #[false, true, true, true, true, true, false, true, true, true, false, false, false, true, true, true, true, true, true, false, false, false, false, false, false] [(1, .pp 1 0), (2, .pp 3 0), (3, .pp 5 0), (4, .v (.int .i64 t4)), (18, .v (.bool (decide (t4 < (y_1.length : Int))))), (23, .pp 1 1), (24, .sl 2), (25, .v (.int .i64 t4)), (26, .ep 2 t4.toNat 3 0), (27, .ep 2 t4.toNat 3 1), (29, .pp 1 1), (30, .sl 2), (31, .v (.int .i64 t4)), (35, .pp 1 1), (36, .sl 2), (37, .v (.int .i64 t4)), (38, .ep 2 t4.toNat 3 0), (39, .ep 2 t4.toNat 3 2), (40, .v (.int .i64 ((y_1.getD t4.toNat (0, 0, 0)).2.2)))] [.row false (.trips a0_1), .rbox [.v (.int .i64 y), .sl 2], .row true (.trips y_1), .box [.v (.int .i64 0), .sl 4], .row true (.trips []), .box [.v (.int .i64 t3_0), .sl 6], .row true (.trips t3_1s)] := by
                refine hL.step [(0, [], 10, #[true, true, true, true, true, true, false, true, true, true, false, false, false, true, true, true, true, true, true, false, false, false, false, false, false]), (6, [], 10, #[false, true, true, true, true, true, true, true, true, true, false, false, false, true, true, true, true, true, true, false, false, false, false, false, false]), (10, [11], 9, #[false, true, true, true, true, true, false, true, true, true, true, true, false, true, true, true, true, true, true, false, false, false, false, false, false])] (by kernel_rfl) ⟨?_, ?_, ?_, trivial⟩
                · exact hL.edge n22
                · exact hL.edge n40
                · exact hL.edge n46
              have n47 : L 12 #[false, true, true, true, true, true, false, true, true, true, false, false, false, true, true, true, true, true, false, false, false, false, false, false, false] [(1, .pp 1 0), (2, .pp 3 0), (3, .pp 5 0), (4, .v (.int .i64 t4)), (18, .v (.bool (decide (t4 < (y_1.length : Int))))), (23, .pp 1 1), (24, .sl 2), (25, .v (.int .i64 t4)), (26, .ep 2 t4.toNat 3 0), (27, .ep 2 t4.toNat 3 1), (29, .pp 1 1), (30, .sl 2), (31, .v (.int .i64 t4)), (35, .pp 1 1), (36, .sl 2), (37, .v (.int .i64 t4)), (38, .ep 2 t4.toNat 3 0), (39, .ep 2 t4.toNat 3 2)] [.row false (.trips a0_1), .rbox [.v (.int .i64 y), .sl 2], .row true (.trips y_1), .box [.v (.int .i64 0), .sl 4], .row true (.trips []), .box [.v (.int .i64 t3_0), .sl 6], .row true (.trips t3_1s)] := by
                refine hL.step [(0, [], 11, #[true, true, true, true, true, true, false, true, true, true, false, false, false, true, true, true, true, true, false, false, false, false, false, false, false]), (6, [], 11, #[false, true, true, true, true, true, true, true, true, true, false, false, false, true, true, true, true, true, false, false, false, false, false, false, false]), (10, [11], 10, #[false, true, true, true, true, true, false, true, true, true, true, true, false, true, true, true, true, true, false, false, false, false, false, false, false]), (18, [], 11, #[false, true, true, true, true, true, false, true, true, true, false, false, false, true, true, true, true, true, true, false, false, false, false, false, false])] (by kernel_rfl) ⟨?_, ?_, ?_, ?_, trivial⟩
                · exact hL.edge n21
                · exact hL.edge n39
                · exact hL.edge n45
                · exact hL.edge n48
              have n31 : L 14 #[false, true, true, true, true, true, false, true, true, true, false, false, false, true, true, true, false, false, false, false, false, false, false, false, false] [(1, .pp 1 0), (2, .pp 3 0), (3, .pp 5 0), (4, .v (.int .i64 t4)), (18, .v (.bool (decide (t4 < (y_1.length : Int))))), (23, .pp 1 1), (24, .sl 2), (25, .v (.int .i64 t4)), (26, .ep 2 t4.toNat 3 0), (27, .ep 2 t4.toNat 3 1), (29, .pp 1 1), (30, .sl 2), (31, .v (.int .i64 t4)), (35, .pp 1 1), (36, .sl 2), (37, .v (.int .i64 t4))] [.row false (.trips a0_1), .rbox [.v (.int .i64 y), .sl 2], .row true (.trips y_1), .box [.v (.int .i64 0), .sl 4], .row true (.trips []), .box [.v (.int .i64 t3_0), .sl 6], .row true (.trips t3_1s)] := by
                refine hL.step [(0, [], 13, #[true, true, true, true, true, true, false, true, true, true, false, false, false, true, true, true, false, false, false, false, false, false, false, false, false]), (6, [], 13, #[false, true, true, true, true, true, true, true, true, true, false, false, false, true, true, true, false, false, false, false, false, false, false, false, false]), (10, [11], 12, #[false, true, true, true, true, true, false, true, true, true, true, true, false, true, true, true, false, false, false, false, false, false, false, false, false]), (16, [17], 12, #[false, true, true, true, true, true, false, true, true, true, false, false, false, true, true, true, true, true, false, false, false, false, false, false, false])] (by kernel_rfl) ⟨?_, ?_, ?_, ?_, trivial⟩
                · exact hL.edge n2
                · exact hL.edge n32
                · exact hL.edge n41
                · exact hL.edge n47
              have n52 : L 10 #[false, true, true, true, false, false, false, true, true, true, true, true, true, true, true, true, true, true, true, false, false, false, false, false, false] [(1, .pp 1 0), (2, .pp 3 0), (3, .pp 5 0), (4, .v (.int .i64 t4)), (18, .v (.bool (decide (t4 < (y_1.length : Int))))), (23, .pp 1 1), (24, .sl 2), (25, .v (.int .i64 t4)), (29, .pp 1 1), (30, .sl 2), (31, .v (.int .i64 t4)), (32, .ep 2 t4.toNat 3 0), (33, .ep 2 t4.toNat 3 0), (34, .v (.int .i64 ((y_1.getD t4.toNat (0, 0, 0)).1))), (35, .pp 1 1), (36, .sl 2), (37, .v (.int .i64 t4)), (38, .ep 2 t4.toNat 3 0), (39, .ep 2 t4.toNat 3 2), (40, .v (.int .i64 ((y_1.getD t4.toNat (0, 0, 0)).2.2)))] [.row false (.trips a0_1), .rbox [.v (.int .i64 y), .sl 2], .row true (.trips y_1), .box [.v (.int .i64 0), .sl 4], .row true (.trips []), .box [.v (.int .i64 t3_0), .sl 6], .row true (.trips t3_1s)] := by
                refine hL.step [(0, [], 9, #[true, true, true, true, false, false, false, true, true, true, true, true, true, true, true, true, true, true, true, false, false, false, false, false, false]), (4, [5], 8, #[false, true, true, true, true, true, false, true, true, true, true, true, true, true, true, true, true, true, true, false, false, false, false, false, false])] (by kernel_rfl) ⟨?_, ?_, trivial⟩
                · exact hL.edge n26
                · exact hL.edge n44
              have n51 : L 11 #[false, true, true, true, false, false, false, true, true, true, true, true, true, true, true, true, true, true, false, false, false, false, false, false, false] [(1, .pp 1 0), (2, .pp 3 0), (3, .pp 5 0), (4, .v (.int .i64 t4)), (18, .v (.bool (decide (t4 < (y_1.length : Int))))), (23, .pp 1 1), (24, .sl 2), (25, .v (.int .i64 t4)), (29, .pp 1 1), (30, .sl 2), (31, .v (.int .i64 t4)), (32, .ep 2 t4.toNat 3 0), (33, .ep 2 t4.toNat 3 0), (34, .v (.int .i64 ((y_1.getD t4.toNat (0, 0, 0)).1))), (35, .pp 1 1), (36, .sl 2), (37, .v (.int .i64 t4)), (38, .ep 2 t4.toNat 3 0), (39, .ep 2 t4.toNat 3 2)] [.row false (.trips a0_1), .rbox [.v (.int .i64 y), .sl 2], .row true (.trips y_1), .box [.v (.int .i64 0), .sl 4], .row true (.trips []), .box [.v (.int .i64 t3_0), .sl 6], .row true (.trips t3_1s)] := by
                refine hL.step [(0, [], 10, #[true, true, true, true, false, false, false, true, true, true, true, true, true, true, true, true, true, true, false, false, false, false, false, false, false]), (4, [5], 9, #[false, true, true, true, true, true, false, true, true, true, true, true, true, true, true, true, true, true, false, false, false, false, false, false, false]), (18, [], 10, #[false, true, true, true, false, false, false, true, true, true, true, true, true, true, true, true, true, true, true, false, false, false, false, false, false])] (by kernel_rfl) ⟨?_, ?_, ?_, trivial⟩
                · exact hL.edge n25
                · exact hL.edge n43
                · exact hL.edge n52
              have n50 : L 13 #[false, true, true, true, false, false, false, true, true, true, true, true, true, true, true, true, false, false, false, false, false, false, false, false, false] [(1, .pp 1 0), (2, .pp 3 0), (3, .pp 5 0), (4, .v (.int .i64 t4)), (18, .v (.bool (decide (t4 < (y_1.length : Int))))), (23, .pp 1 1), (24, .sl 2), (25, .v (.int .i64 t4)), (29, .pp 1 1), (30, .sl 2), (31, .v (.int .i64 t4)), (32, .ep 2 t4.toNat 3 0), (33, .ep 2 t4.toNat 3 0), (34, .v (.int .i64 ((y_1.getD t4.toNat (0, 0, 0)).1))), (35, .pp 1 1), (36, .sl 2), (37, .v (.int .i64 t4))] [.row false (.trips a0_1), .rbox [.v (.int .i64 y), .sl 2], .row true (.trips y_1), .box [.v (.int .i64 0), .sl 4], .row true (.trips []), .box [.v (.int .i64 t3_0), .sl 6], .row true (.trips t3_1s)] := by
                refine hL.step [(0, [], 12, #[true, true, true, true, false, false, false, true, true, true, true, true, true, true, true, true, false, false, false, false, false, false, false, false, false]), (4, [5], 11, #[false, true, true, true, true, true, false, true, true, true, true, true, true, true, true, true, false, false, false, false, false, false, false, false, false]), (16, [17], 11, #[false, true, true, true, false, false, false, true, true, true, true, true, true, true, true, true, true, true, false, false, false, false, false, false, false])] (by kernel_rfl) ⟨?_, ?_, ?_, trivial⟩
                · exact hL.edge n24
                · exact hL.edge n42
                · exact hL.edge n51
              have n54 : L 11 #[false, true, true, true, false, false, false, true, true, true, true, true, false, true, true, true, true, true, true, false, false, false, false, false, false] [(1, .pp 1 0), (2, .pp 3 0), (3, .pp 5 0), (4, .v (.int .i64 t4)), (18, .v (.bool (decide (t4 < (y_1.length : Int))))), (23, .pp 1 1), (24, .sl 2), (25, .v (.int .i64 t4)), (29, .pp 1 1), (30, .sl 2), (31, .v (.int .i64 t4)), (32, .ep 2 t4.toNat 3 0), (33, .ep 2 t4.toNat 3 0), (35, .pp 1 1), (36, .sl 2), (37, .v (.int .i64 t4)), (38, .ep 2 t4.toNat 3 0), (39, .ep 2 t4.toNat 3 2), (40, .v (.int .i64 ((y_1.getD t4.toNat (0, 0, 0)).2.2)))] [.row false (.trips a0_1), .rbox [.v (.int .i64 y), .sl 2], .row true (.trips y_1), .box [.v (.int .i64 0), .sl 4], .row true (.trips []), .box [.v (.int .i64 t3_0), .sl 6], .row true (.trips t3_1s)] := by
                refine hL.step [(0, [], 10, #[true, true, true, true, false, false, false, true, true, true, true, true, false, true, true, true, true, true, true, false, false, false, false, false, false]), (4, [5], 9, #[false, true, true, true, true, true, false, true, true, true, true, true, false, true, true, true, true, true, true, false, false, false, false, false, false]), (12, [], 10, #[false, true, true, true, false, false, false, true, true, true, true, true, true, true, true, true, true, true, true, false, false, false, false, false, false])] (by kernel_rfl) ⟨?_, ?_, ?_, trivial⟩
                · exact hL.edge n28
                · exact hL.edge n46
                · exact hL.edge n52
              have n53 : L 12 #[false, true, true, true, false, false, false, true, true, true, true, true, false, true, true, true, true, true, false, false, false, false, false, false, false] [(1, .pp 1 0), (2, .pp 3 0), (3, .pp 5 0), (4, .v (.int .i64 t4)), (18, .v (.bool (decide (t4 < (y_1.length : Int))))), (23, .pp 1 1), (24, .sl 2), (25, .v (.int .i64 t4)), (29, .pp 1 1), (30, .sl 2), (31, .v (.int .i64 t4)), (32, .ep 2 t4.toNat 3 0), (33, .ep 2 t4.toNat 3 0), (35, .pp 1 1), (36, .sl 2), (37, .v (.int .i64 t4)), (38, .ep 2 t4.toNat 3 0), (39, .ep 2 t4.toNat 3 2)] [.row false (.trips a0_1), .rbox [.v (.int .i64 y), .sl 2], .row true (.trips y_1), .box [.v (.int .i64 0), .sl 4], .row true (.trips []), .box [.v (.int .i64 t3_0), .sl 6], .row true (.trips t3_1s)] := by
                refine hL.step [(0, [], 11, #[true, true, true, true, false, false, false, true, true, true, true, true, false, true, true, true, true, true, false, false, false, false, false, false, false]), (4, [5], 10, #[false, true, true, true, true, true, false, true, true, true, true, true, false, true, true, true, true, true, false, false, false, false, false, false, false]), (12, [], 11, #[false, true, true, true, false, false, false, true, true, true, true, true, true, true, true, true, true, true, false, false, false, false, false, false, false]), (18, [], 11, #[false, true, true, true, false, false, false, true, true, true, true, true, false, true, true, true, true, true, true, false, false, false, false, false, false])] (by kernel_rfl) ⟨?_, ?_, ?_, ?_, trivial⟩
                · exact hL.edge n27
                · exact hL.edge n45
                · exact hL.edge n51
                · exact hL.edge n54
              have n49 : L 14 #[false, true, true, true, false, false, false, true, true, true, true, true, false, true, true, true, false, false, false, false, false, false, false, false, false] [(1, .pp 1 0), (2, .pp 3 0), (3, .pp 5 0), (4, .v (.int .i64 t4)), (18, .v (.bool (decide (t4 < (y_1.length : Int))))), (23, .pp 1 1), (24, .sl 2), (25, .v (.int .i64 t4)), (29, .pp 1 1), (30, .sl 2), (31, .v (.int .i64 t4)), (32, .ep 2 t4.toNat 3 0), (33, .ep 2 t4.toNat 3 0), (35, .pp 1 1), (36, .sl 2), (37, .v (.int .i64 t4))] [.row false (.trips a0_1), .rbox [.v (.int .i64 y), .sl 2], .row true (.trips y_1), .box [.v (.int .i64 0), .sl 4], .row true (.trips []), .box [.v (.int .i64 t3_0), .sl 6], .row true (.trips t3_1s)] := by
                refine hL.step [(0, [], 13, #[true, true, true, true, false, false, false, true, true, true, true, true, false, true, true, true, false, false, false, false, false, false, false, false, false]), (4, [5], 12, #[false, true, true, true, true, true, false, true, true, true, true, true, false, true, true, true, false, false, false, false, false, false, false, false, false]), (12, [], 13, #[false, true, true, true, false, false, false, true, true, true, true, true, true, true, true, true, false, false, false, false, false, false, false, false, false]), (16, [17], 12, #[false, true, true, true, false, false, false, true, true, true, true, true, false, true, true, true, true, true, false, false, false, false, false, false, false])] (by kernel_rfl) ⟨?_, ?_, ?_, ?_, trivial⟩
                · exact hL.edge n23
                · exact hL.edge n41
                · exact hL.edge n50
                · exact hL.edge n53
              have n56 : L 13 #[false, true, true, true, false, false, false, true, true, true, false, false, false, true, true, true, true, true, true, false, false, false, false, false, false] [(1, .pp 1 0), (2, .pp 3 0), (3, .pp 5 0), (4, .v (.int .i64 t4)), (18, .v (.bool (decide (t4 < (y_1.length : Int))))), (23, .pp 1 1), (24, .sl 2), (25, .v (.int .i64 t4)), (29, .pp 1 1), (30, .sl 2), (31, .v (.int .i64 t4)), (35, .pp 1 1), (36, .sl 2), (37, .v (.int .i64 t4)), (38, .ep 2 t4.toNat 3 0), (39, .ep 2 t4.toNat 3 2), (40, .v (.int .i64 ((y_1.getD t4.toNat (0, 0, 0)).2.2)))] [.row false (.trips a0_1), .rbox [.v (.int .i64 y), .sl 2], .row true (.trips y_1), .box [.v (.int .i64 0), .sl 4], .row true (.trips []), .box [.v (.int .i64 t3_0), .sl 6], .row true (.trips t3_1s)] := by
                refine hL.step [(0, [], 12, #[true, true, true, true, false, false, false, true, true, true, false, false, false, true, true, true, true, true, true, false, false, false, false, false, false]), (4, [5], 11, #[false, true, true, true, true, true, false, true, true, true, false, false, false, true, true, true, true, true, true, false, false, false, false, false, false]), (10, [11], 11, #[false, true, true, true, false, false, false, true, true, true, true, true, false, true, true, true, true, true, true, false, false, false, false, false, false])] (by kernel_rfl) ⟨?_, ?_, ?_, trivial⟩
                · exact hL.edge n30
                · exact hL.edge n48
                · exact hL.edge n54
              have n55 : L 14 #[false, true, true, true, false, false, false, true, true, true, false, false, false, true, true, true, true, true, false, false, false, false, false, false, false] [(1, .pp 1 0), (2, .pp 3 0), (3, .pp 5 0), (4, .v (.int .i64 t4)), (18, .v (.bool (decide (t4 < (y_1.length : Int))))), (23, .pp 1 1), (24, .sl 2), (25, .v (.int .i64 t4)), (29, .pp 1 1), (30, .sl 2), (31, .v (.int .i64 t4)), (35, .pp 1 1), (36, .sl 2), (37, .v (.int .i64 t4)), (38, .ep 2 t4.toNat 3 0), (39, .ep 2 t4.toNat 3 2)] [.row false (.trips a0_1), .rbox [.v (.int .i64 y), .sl 2], .row true (.trips y_1), .box [.v (.int .i64 0), .sl 4], .row true (.trips []), .box [.v (.int .i64 t3_0), .sl 6], .row true (.trips t3_1s)] := by
                refine hL.step [(0, [], 13, #[true, true, true, true, false, false, false, true, true, true, false, false, false, true, true, true, true, true, false, false, false, false, false, false, false]), (4, [5], 12, #[false, true, true, true, true, true, false, true, true, true, false, false, false, true, true, true, true, true, false, false, false, false, false, false, false]), (10, [11], 12, #[false, true, true, true, false, false, false, true, true, true, true, true, false, true, true, true, true, true, false, false, false, false, false, false, false]), (18, [], 13, #[false, true, true, true, false, false, false, true, true, true, false, false, false, true, true, true, true, true, true, false, false, false, false, false, false])] (by kernel_rfl) ⟨?_, ?_, ?_, ?_, trivial⟩
                · exact hL.edge n29
                · exact hL.edge n47
                · exact hL.edge n53
                · exact hL.edge n56
              have n0 : L 16 #[false, true, true, true, false, false, false, true, true, true, false, false, false, true, true, true, false, false, false, false, false, false, false, false, false] [(1, .pp 1 0), (2, .pp 3 0), (3, .pp 5 0), (4, .v (.int .i64 t4)), (18, .v (.bool (decide (t4 < (y_1.length : Int))))), (23, .pp 1 1), (24, .sl 2), (25, .v (.int .i64 t4)), (29, .pp 1 1), (30, .sl 2), (31, .v (.int .i64 t4)), (35, .pp 1 1), (36, .sl 2), (37, .v (.int .i64 t4))] [.row false (.trips a0_1), .rbox [.v (.int .i64 y), .sl 2], .row true (.trips y_1), .box [.v (.int .i64 0), .sl 4], .row true (.trips []), .box [.v (.int .i64 t3_0), .sl 6], .row true (.trips t3_1s)] := by
                refine hL.step [(0, [], 15, #[true, true, true, true, false, false, false, true, true, true, false, false, false, true, true, true, false, false, false, false, false, false, false, false, false]), (4, [5], 14, #[false, true, true, true, true, true, false, true, true, true, false, false, false, true, true, true, false, false, false, false, false, false, false, false, false]), (10, [11], 14, #[false, true, true, true, false, false, false, true, true, true, true, true, false, true, true, true, false, false, false, false, false, false, false, false, false]), (16, [17], 14, #[false, true, true, true, false, false, false, true, true, true, false, false, false, true, true, true, true, true, false, false, false, false, false, false, false])] (by kernel_rfl) ⟨?_, ?_, ?_, ?_, trivial⟩
                · exact hL.edge n1
                · exact hL.edge n31
                · exact hL.edge n49
                · exact hL.edge n55
              simp (maxSteps := 4000000) only [go_sem, Nat.reduceBEq, Nat.reduceLT, Nat.reduceAdd, Nat.reduceLeDiff, Nat.reduceSub, Nat.reduceEqDiff, Int.reduceToNat, reduceCtorEq, ↓reduceIte]
              repeat' (first | refine And.intro ?_ ?_ | intro hg)
              all_goals (try simp (disch := omega) only [wrap_fits])
              all_goals first
                | (refine hL.red ?_ n0; exact Red.auto)
                | exact trivial
                | assumption
                | omega
                | exact wrap_fits (by omega) (by omega)
                | (simp (maxSteps := 4000000) only [go_sem, Nat.reduceBEq, Nat.reduceLT, Nat.reduceAdd, Nat.reduceLeDiff, Nat.reduceSub, Nat.reduceEqDiff, Int.reduceToNat, reduceCtorEq, ↓reduceIte]
                   repeat' (first | refine And.intro ?_ ?_ | intro hg)
                   all_goals (try simp (disch := omega) only [wrap_fits])
                   all_goals first | (refine hL.red ?_ n0; exact Red.auto) | exact trivial | assumption | omega | exact wrap_fits (by omega) (by omega))
                | (simp_all; done)
                | (simp_all; omega)
            · clear hp0 hr1
              (try simp only [Thn, InBlk, ↓reduceIte, Nat.reduceEqDiff])
              (try simp only [Thn, InBlk, ↓reduceIte, Nat.reduceEqDiff])
              refine hK37 _ _ ?_
              clear hK37
              replace h := chk_some h
              obtain ⟨hp0, h⟩ := h
              refine awp_regE ftCOk [(1, .pp 1 0), (2, .pp 3 0), (3, .pp 5 0), (4, .v (.int .i64 (t4 + 1)))] [.row false (.trips a0_1), .rbox [.v (.int .i64 y), .sl 2], .row true (.trips y_1), .box [.v (.int .i64 0), .sl 4], .row true (.trips []), .box [.v (.int .i64 y_3), .sl 7], .row true (.trips t3_1s), .row true (.trips y_4)] ?_
              clear hp0
              obtain rfl := Option.some.inj h
              refine LoopQ.next ?_
              exact Red.selA [0, 1, 2, 3, 4, 5, 7] Red.auto
          · replace h := bite_f h hc36
            refine awp_exit ?_
            (try simp only [Thn, InBlk, ↓reduceIte, Nat.reduceEqDiff])
            obtain rfl := Option.some.inj h
            refine LoopQ.out rfl ?_
            exact Red.selA [0, 3, 4, 5, 6] Red.auto
        · clear hx
          rcases x38 with ⟨t3_0_1, t3_1s_1⟩
          · try dsimp only [Sum.elim_inl, Sum.elim_inr] at h
            try dsimp only [Sum.elim_inl, Sum.elim_inr]
            (try simp only [Thn, InBlk, ↓reduceIte, Nat.reduceEqDiff])
            (try simp only [Thn, InBlk, ↓reduceIte, Nat.reduceEqDiff])
            (try simp only [Thn, InBlk, ↓reduceIte, Nat.reduceEqDiff])
            refine hK21 _ _ ?_
            clear hK21
            refine awp_reg ftCOk [(2, .pp 1 0)] [.row false (.trips a0_1), .box [.v (.int .i64 t3_0_1), .sl 4], .row true (.trips []), .box [.v (.int .i64 t3_0_1), .sl 4], .row true (.trips t3_1s_1)] ?_
            refine awp_ret ?_
            (try simp only [Thn, InBlk, ↓reduceIte, Nat.reduceEqDiff])
            obtain rfl := Option.some.inj h
            refine ⟨by simp, _, [0, 4], (by simp only [go_sem, Nat.reduceBEq, Nat.reduceLT, Nat.reduceAdd, Nat.reduceLeDiff, Nat.reduceSub, Nat.reduceEqDiff, Int.reduceToNat, reduceCtorEq, ↓reduceIte]; exact rfl), ?_, ?_, ?_, ?_⟩
            · first | exact trivial | exact ⟨trivial, trivial⟩ | exact ⟨trivial, trivial, trivial⟩ | exact ⟨trivial, trivial, trivial, trivial⟩ | (simp only [allP, and_true, true_and]; done) | (simp only [allP, and_true, true_and]; omega)
            · simp [selOk, pos]
            · simp
            · first | exact ⟨rfl, rfl⟩ | (simp only [go_sem, Nat.reduceBEq, Nat.reduceLT, Nat.reduceAdd, Nat.reduceLeDiff, Nat.reduceSub, Nat.reduceEqDiff, Int.reduceToNat, reduceCtorEq, ↓reduceIte]; done) | (simp [go_sem, Nat.reduceBEq, Nat.reduceLT, Nat.reduceAdd, Nat.reduceLeDiff, Nat.reduceSub, Nat.reduceEqDiff, Int.reduceToNat, reduceCtorEq, ↓reduceIte]; done) | (simp only [go_sem, Nat.reduceBEq, Nat.reduceLT, Nat.reduceAdd, Nat.reduceLeDiff, Nat.reduceSub, Nat.reduceEqDiff, Int.reduceToNat, reduceCtorEq, ↓reduceIte]; exact ⟨rfl, rfl⟩) | (simp_all [go_sem, Nat.reduceBEq, Nat.reduceLT, Nat.reduceAdd, Nat.reduceLeDiff, Nat.reduceSub, Nat.reduceEqDiff, Int.reduceToNat, reduceCtorEq, ↓reduceIte]; done)
theorem k_laws_sameGraph (a0_0 : Int) (a0_1 : List (Int × Int × Int)) (a1_0 : Int) (a1_1 : List (Int × Int × Int)) {r : Bool} (h : laws_sameGraph a0_0 a0_1 a1_0 a1_1 = some r) :
    FnA Try.prog 9 [.agg [.v (.int .i64 a0_0), .sl 0], .agg [.v (.int .i64 a1_0), .sl 1]] [.row false (.trips a0_1), .row false (.trips a1_1)] [] (fun x H => x = .v (.bool r) ∧ H = [.row false (.trips a0_1), .row false (.trips a1_1)]) := by
  unfold laws_sameGraph at h
  refine FnA.of (N := 38) (pin := [0, 1]) (rs := [.tmp 4]) Try.func9 rfl en9 rfl rfl (by simp) (by simp; try omega) ?_
  refine awp_reg ftCOk [(2, .pp 2 0), (3, .pp 3 0)] [.row false (.trips a0_1), .row false (.trips a1_1), .box [.v (.int .i64 a0_0), .sl 0], .box [.v (.int .i64 a1_0), .sl 1]] ?_
  refine awp_freeze 2 (by rfl) (by rfl) (by exact rfl) ?_
  refine awp_freeze 3 (by rfl) (by rfl) (by exact rfl) ?_
  refine awp_seq fun K2 hK2 => ?_
  refine awp_reg ftCOk [(2, .pp 2 0), (3, .pp 3 0), (19, .v (.bool ((a0_0 != a1_0) || ((a0_1.length : Int) != (a1_1.length : Int)))))] [.row false (.trips a0_1), .row false (.trips a1_1), .rbox [.v (.int .i64 a0_0), .sl 0], .rbox [.v (.int .i64 a1_0), .sl 1]] ?_
  refine awp_cond (t := 19) rfl (fun hc3 => ?_) (fun hc3 => ?_)
  · replace h := bite_t h hc3
    refine awp_reg ftCOk [(4, .v (.bool false))] [.row false (.trips a0_1), .row false (.trips a1_1), .rbox [.v (.int .i64 a0_0), .sl 0], .rbox [.v (.int .i64 a1_0), .sl 1]] ?_
    refine awp_ret ?_
    (try simp only [Thn, InBlk, ↓reduceIte, Nat.reduceEqDiff])
    obtain rfl := Option.some.inj h
    refine ⟨by simp, _, [0, 1], (by simp only [go_sem, Nat.reduceBEq, Nat.reduceLT, Nat.reduceAdd, Nat.reduceLeDiff, Nat.reduceSub, Nat.reduceEqDiff, Int.reduceToNat, reduceCtorEq, ↓reduceIte]; exact rfl), ?_, ?_, ?_, ?_⟩
    · first | exact trivial | exact ⟨trivial, trivial⟩ | exact ⟨trivial, trivial, trivial⟩ | exact ⟨trivial, trivial, trivial, trivial⟩ | (simp only [allP, and_true, true_and]; done) | (simp only [allP, and_true, true_and]; omega)
    · simp [selOk, pos]
    · simp
    · first | exact ⟨rfl, rfl⟩ | (simp only [go_sem, Nat.reduceBEq, Nat.reduceLT, Nat.reduceAdd, Nat.reduceLeDiff, Nat.reduceSub, Nat.reduceEqDiff, Int.reduceToNat, reduceCtorEq, ↓reduceIte]; done) | (simp [go_sem, Nat.reduceBEq, Nat.reduceLT, Nat.reduceAdd, Nat.reduceLeDiff, Nat.reduceSub, Nat.reduceEqDiff, Int.reduceToNat, reduceCtorEq, ↓reduceIte]; done) | (simp only [go_sem, Nat.reduceBEq, Nat.reduceLT, Nat.reduceAdd, Nat.reduceLeDiff, Nat.reduceSub, Nat.reduceEqDiff, Int.reduceToNat, reduceCtorEq, ↓reduceIte]; exact ⟨rfl, rfl⟩) | (simp_all [go_sem, Nat.reduceBEq, Nat.reduceLT, Nat.reduceAdd, Nat.reduceLeDiff, Nat.reduceSub, Nat.reduceEqDiff, Int.reduceToNat, reduceCtorEq, ↓reduceIte]; done)
  · replace h := bite_f h hc3
    refine awp_skip ?_
    (try simp only [Thn, InBlk, ↓reduceIte, Nat.reduceEqDiff])
    refine hK2 _ _ ?_
    clear hK2
    refine awp_seq fun K23 hK23 => ?_
    refine awp_reg ftCOk [(2, .pp 2 0), (3, .pp 3 0), (5, .v (.int .i64 0))] [.row false (.trips a0_1), .row false (.trips a1_1), .rbox [.v (.int .i64 a0_0), .sl 0], .rbox [.v (.int .i64 a1_0), .sl 1]] ?_
    refine awp_block ?_
    replace h := bind_some h
    obtain ⟨x42, hx, h⟩ := h
    refine awp_loopL hx (fun (t5 : Int) => [(2, .pp 2 0), (3, .pp 3 0), (5, .v (.int .i64 t5))]) (fun (t5 : Int) => [.row false (.trips a0_1), .row false (.trips a1_1), .rbox [.v (.int .i64 a0_0), .sl 0], .rbox [.v (.int .i64 a1_0), .sl 1]]) (Sum.elim (fun (_ : Unit) => Exit.exit 0) (fun (_ : Unit) => Exit.ret)) (Sum.elim (fun (_ : Unit) => []) (fun (_ : Unit) => [(4, .v (.bool false))])) (Sum.elim (fun (_ : Unit) => [.row false (.trips a0_1), .row false (.trips a1_1)]) (fun (_ : Unit) => [.row false (.trips a0_1), .row false (.trips a1_1)])) ?_ ?_ ?_ ?_
    · rintro (⟨⟩ | ⟨⟩) hy <;> cases hy
    · clear h hx
      exact Red.auto
    · clear h hx
      rintro t5 r h
      unfold laws_sameGraph_b0 at h
      try dsimp only at h
      try dsimp only
      refine awp_seq fun K37 hK37 => ?_
      refine awp_reg ftCOk [(2, .pp 2 0), (3, .pp 3 0), (5, .v (.int .i64 t5)), (24, .v (.bool (decide (t5 < (a0_1.length : Int)))))] [.row false (.trips a0_1), .row false (.trips a1_1), .rbox [.v (.int .i64 a0_0), .sl 0], .rbox [.v (.int .i64 a1_0), .sl 1]] ?_
      refine awp_cond (t := 24) rfl (fun hc38 => ?_) (fun hc38 => ?_)
      · replace h := bite_t h hc38
        refine awp_skip ?_
        (try simp only [Thn, InBlk, ↓reduceIte, Nat.reduceEqDiff])
        refine hK37 _ _ ?_
        clear hK37
        refine awp_seq fun K40 hK40 => ?_
        refine awp_block ?_
        replace h := chk_some h
        obtain ⟨hp0, h⟩ := h
        replace h := chk_some h
        obtain ⟨hp1, h⟩ := h
        refine awp_regQ mixed ftCOk [(2, .pp 2 0), (3, .pp 3 0), (5, .v (.int .i64 t5)), (37, .v (.bool (!(((a0_1.getD t5.toNat (0, 0, 0)).1 == (a1_1.getD t5.toNat (0, 0, 0)).1) && (((a0_1.getD t5.toNat (0, 0, 0)).2.1 == (a1_1.getD t5.toNat (0, 0, 0)).2.1) && ((a0_1.getD t5.toNat (0, 0, 0)).2.2 == (a1_1.getD t5.toNat (0, 0, 0)).2.2))))))] [.row false (.trips a0_1), .row false (.trips a1_1), .rbox [.v (.int .i64 a0_0), .sl 0], .rbox [.v (.int .i64 a1_0), .sl 1]] ?_
        clear hp0 hp1
        refine awp_cond (t := 37) rfl (fun hc41 => ?_) (fun hc41 => ?_)
        · replace h := bite_t h hc41
          refine awp_reg ftCOk [(4, .v (.bool false))] [.row false (.trips a0_1), .row false (.trips a1_1), .rbox [.v (.int .i64 a0_0), .sl 0], .rbox [.v (.int .i64 a1_0), .sl 1]] ?_
          refine awp_ret ?_
          (try simp only [Thn, InBlk, ↓reduceIte, Nat.reduceEqDiff])
          obtain rfl := Option.some.inj h
          refine LoopQ.out rfl ?_
          exact Red.selA [0, 1] Red.auto
        · replace h := bite_f h hc41
          refine awp_skip ?_
          (try simp only [Thn, InBlk, ↓reduceIte, Nat.reduceEqDiff])
          (try simp only [Thn, InBlk, ↓reduceIte, Nat.reduceEqDiff])
          refine hK40 _ _ ?_
          clear hK40
          replace h := chk_some h
          obtain ⟨hp0, h⟩ := h
          refine awp_regE ftCOk [(2, .pp 2 0), (3, .pp 3 0), (5, .v (.int .i64 (t5 + 1)))] [.row false (.trips a0_1), .row false (.trips a1_1), .rbox [.v (.int .i64 a0_0), .sl 0], .rbox [.v (.int .i64 a1_0), .sl 1]] ?_
          clear hp0
          obtain rfl := Option.some.inj h
          refine LoopQ.next ?_
          exact Red.auto
      · replace h := bite_f h hc38
        refine awp_exit ?_
        (try simp only [Thn, InBlk, ↓reduceIte, Nat.reduceEqDiff])
        obtain rfl := Option.some.inj h
        refine LoopQ.out rfl ?_
        exact Red.selA [0, 1] Red.auto
    · clear hx
      rcases x42 with (⟨⟩ | ⟨⟩)
      · try dsimp only [Sum.elim_inl, Sum.elim_inr] at h
        try dsimp only [Sum.elim_inl, Sum.elim_inr]
        (try simp only [Thn, InBlk, ↓reduceIte, Nat.reduceEqDiff])
        (try simp only [Thn, InBlk, ↓reduceIte, Nat.reduceEqDiff])
        (try simp only [Thn, InBlk, ↓reduceIte, Nat.reduceEqDiff])
        refine hK23 _ _ ?_
        clear hK23
        refine awp_reg ftCOk [(4, .v (.bool true))] [.row false (.trips a0_1), .row false (.trips a1_1)] ?_
        refine awp_ret ?_
        (try simp only [Thn, InBlk, ↓reduceIte, Nat.reduceEqDiff])
        obtain rfl := Option.some.inj h
        refine ⟨by simp, _, [0, 1], (by simp only [go_sem, Nat.reduceBEq, Nat.reduceLT, Nat.reduceAdd, Nat.reduceLeDiff, Nat.reduceSub, Nat.reduceEqDiff, Int.reduceToNat, reduceCtorEq, ↓reduceIte]; exact rfl), ?_, ?_, ?_, ?_⟩
        · first | exact trivial | exact ⟨trivial, trivial⟩ | exact ⟨trivial, trivial, trivial⟩ | exact ⟨trivial, trivial, trivial, trivial⟩ | (simp only [allP, and_true, true_and]; done) | (simp only [allP, and_true, true_and]; omega)
        · simp [selOk, pos]
        · simp
        · first | exact ⟨rfl, rfl⟩ | (simp only [go_sem, Nat.reduceBEq, Nat.reduceLT, Nat.reduceAdd, Nat.reduceLeDiff, Nat.reduceSub, Nat.reduceEqDiff, Int.reduceToNat, reduceCtorEq, ↓reduceIte]; done) | (simp [go_sem, Nat.reduceBEq, Nat.reduceLT, Nat.reduceAdd, Nat.reduceLeDiff, Nat.reduceSub, Nat.reduceEqDiff, Int.reduceToNat, reduceCtorEq, ↓reduceIte]; done) | (simp only [go_sem, Nat.reduceBEq, Nat.reduceLT, Nat.reduceAdd, Nat.reduceLeDiff, Nat.reduceSub, Nat.reduceEqDiff, Int.reduceToNat, reduceCtorEq, ↓reduceIte]; exact ⟨rfl, rfl⟩) | (simp_all [go_sem, Nat.reduceBEq, Nat.reduceLT, Nat.reduceAdd, Nat.reduceLeDiff, Nat.reduceSub, Nat.reduceEqDiff, Int.reduceToNat, reduceCtorEq, ↓reduceIte]; done)
      · try dsimp only [Sum.elim_inl, Sum.elim_inr] at h
        try dsimp only [Sum.elim_inl, Sum.elim_inr]
        (try simp only [Thn, InBlk, ↓reduceIte, Nat.reduceEqDiff])
        obtain rfl := Option.some.inj h
        refine ⟨by simp, _, [0, 1], (by simp only [go_sem, Nat.reduceBEq, Nat.reduceLT, Nat.reduceAdd, Nat.reduceLeDiff, Nat.reduceSub, Nat.reduceEqDiff, Int.reduceToNat, reduceCtorEq, ↓reduceIte]; exact rfl), ?_, ?_, ?_, ?_⟩
        · first | exact trivial | exact ⟨trivial, trivial⟩ | exact ⟨trivial, trivial, trivial⟩ | exact ⟨trivial, trivial, trivial, trivial⟩ | (simp only [allP, and_true, true_and]; done) | (simp only [allP, and_true, true_and]; omega)
        · simp [selOk, pos]
        · simp
        · first | exact ⟨rfl, rfl⟩ | (simp only [go_sem, Nat.reduceBEq, Nat.reduceLT, Nat.reduceAdd, Nat.reduceLeDiff, Nat.reduceSub, Nat.reduceEqDiff, Int.reduceToNat, reduceCtorEq, ↓reduceIte]; done) | (simp [go_sem, Nat.reduceBEq, Nat.reduceLT, Nat.reduceAdd, Nat.reduceLeDiff, Nat.reduceSub, Nat.reduceEqDiff, Int.reduceToNat, reduceCtorEq, ↓reduceIte]; done) | (simp only [go_sem, Nat.reduceBEq, Nat.reduceLT, Nat.reduceAdd, Nat.reduceLeDiff, Nat.reduceSub, Nat.reduceEqDiff, Int.reduceToNat, reduceCtorEq, ↓reduceIte]; exact ⟨rfl, rfl⟩) | (simp_all [go_sem, Nat.reduceBEq, Nat.reduceLT, Nat.reduceAdd, Nat.reduceLeDiff, Nat.reduceSub, Nat.reduceEqDiff, Int.reduceToNat, reduceCtorEq, ↓reduceIte]; done)
theorem k_impl_BytesValid (a0 : List Int) {r : Bool} (h : impl_BytesValid a0 = some r) :
    FnA Try.prog 56 [.sl 0] [.row false (.ints .i64 a0)] [] (fun x H => x = .v (.bool r) ∧ H = [.row false (.ints .i64 a0)]) := by
  unfold impl_BytesValid at h
  refine FnA.of (N := 21) (pin := [0]) (rs := [.tmp 2]) Try.func56 rfl en56 rfl rfl (by simp) (by simp; try omega) ?_
  refine awp_reg ftCOk [(0, .sl 0)] [.row false (.ints .i64 a0)] ?_
  refine awp_seq fun K2 hK2 => ?_
  refine awp_reg ftCOk [(0, .sl 0), (7, .v (.bool (decide (2000 < (a0.length : Int)))))] [.row false (.ints .i64 a0)] ?_
  refine awp_cond (t := 7) rfl (fun hc3 => ?_) (fun hc3 => ?_)
  · replace h := bite_t h hc3
    refine awp_reg ftCOk [(2, .v (.bool false))] [.row false (.ints .i64 a0)] ?_
    refine awp_ret ?_
    (try simp only [Thn, InBlk, ↓reduceIte, Nat.reduceEqDiff])
    obtain rfl := Option.some.inj h
    refine ⟨by simp, _, [0], (by simp only [go_sem, Nat.reduceBEq, Nat.reduceLT, Nat.reduceAdd, Nat.reduceLeDiff, Nat.reduceSub, Nat.reduceEqDiff, Int.reduceToNat, reduceCtorEq, ↓reduceIte]; exact rfl), ?_, ?_, ?_, ?_⟩
    · first | exact trivial | exact ⟨trivial, trivial⟩ | exact ⟨trivial, trivial, trivial⟩ | exact ⟨trivial, trivial, trivial, trivial⟩ | (simp only [allP, and_true, true_and]; done) | (simp only [allP, and_true, true_and]; omega)
    · simp [selOk, pos]
    · simp
    · first | exact ⟨rfl, rfl⟩ | (simp only [go_sem, Nat.reduceBEq, Nat.reduceLT, Nat.reduceAdd, Nat.reduceLeDiff, Nat.reduceSub, Nat.reduceEqDiff, Int.reduceToNat, reduceCtorEq, ↓reduceIte]; done) | (simp [go_sem, Nat.reduceBEq, Nat.reduceLT, Nat.reduceAdd, Nat.reduceLeDiff, Nat.reduceSub, Nat.reduceEqDiff, Int.reduceToNat, reduceCtorEq, ↓reduceIte]; done) | (simp only [go_sem, Nat.reduceBEq, Nat.reduceLT, Nat.reduceAdd, Nat.reduceLeDiff, Nat.reduceSub, Nat.reduceEqDiff, Int.reduceToNat, reduceCtorEq, ↓reduceIte]; exact ⟨rfl, rfl⟩) | (simp_all [go_sem, Nat.reduceBEq, Nat.reduceLT, Nat.reduceAdd, Nat.reduceLeDiff, Nat.reduceSub, Nat.reduceEqDiff, Int.reduceToNat, reduceCtorEq, ↓reduceIte]; done)
  · replace h := bite_f h hc3
    refine awp_skip ?_
    (try simp only [Thn, InBlk, ↓reduceIte, Nat.reduceEqDiff])
    refine hK2 _ _ ?_
    clear hK2
    refine awp_seq fun K23 hK23 => ?_
    refine awp_reg ftCOk [(8, .sl 0), (9, .v (.int .i64 (a0.length : Int))), (10, .v (.int .i64 0))] [.row false (.ints .i64 a0)] ?_
    refine awp_block ?_
    replace h := bind_some h
    obtain ⟨x42, hx, h⟩ := h
    refine awp_loopL hx (fun (t10 : Int) => [(8, .sl 0), (9, .v (.int .i64 (a0.length : Int))), (10, .v (.int .i64 t10))]) (fun (t10 : Int) => [.row false (.ints .i64 a0)]) (Sum.elim (fun (_ : Unit) => Exit.exit 0) (fun (_ : Unit) => Exit.ret)) (Sum.elim (fun (_ : Unit) => []) (fun (_ : Unit) => [(2, .v (.bool false))])) (Sum.elim (fun (_ : Unit) => [.row false (.ints .i64 a0)]) (fun (_ : Unit) => [.row false (.ints .i64 a0)])) ?_ ?_ ?_ ?_
    · rintro (⟨⟩ | ⟨⟩) hy <;> cases hy
    · clear h hx
      exact Red.auto
    · clear h hx
      rintro t10 r h
      unfold impl_BytesValid_b0 at h
      try dsimp only at h
      try dsimp only
      refine awp_reg ftCOk [(8, .sl 0), (9, .v (.int .i64 (a0.length : Int))), (10, .v (.int .i64 t10)), (11, .v (.bool (decide (t10 < (a0.length : Int)))))] [.row false (.ints .i64 a0)] ?_
      refine awp_seq fun K37 hK37 => ?_
      refine awp_cond (t := 11) rfl (fun hc38 => ?_) (fun hc38 => ?_)
      · replace h := bite_t h hc38
        refine awp_skip ?_
        (try simp only [Thn, InBlk, ↓reduceIte, Nat.reduceEqDiff])
        refine hK37 _ _ ?_
        clear hK37
        refine awp_seq fun K40 hK40 => ?_
        refine awp_block ?_
        replace h := chk_some h
        obtain ⟨hp0, h⟩ := h
        refine awp_reg ftCOk [(4, .v (.int .i64 (a0.getD t10.toNat 0))), (8, .sl 0), (9, .v (.int .i64 (a0.length : Int))), (10, .v (.int .i64 t10))] [.row false (.ints .i64 a0)] ?_
        clear hp0
        refine awp_reg ftCOk [(8, .sl 0), (9, .v (.int .i64 (a0.length : Int))), (10, .v (.int .i64 t10)), (19, .v (.bool ((decide ((a0.getD t10.toNat 0) < 0)) || (decide (255 < (a0.getD t10.toNat 0))))))] [.row false (.ints .i64 a0)] ?_
        refine awp_cond (t := 19) rfl (fun hc41 => ?_) (fun hc41 => ?_)
        · replace h := bite_t h hc41
          refine awp_reg ftCOk [(2, .v (.bool false))] [.row false (.ints .i64 a0)] ?_
          refine awp_ret ?_
          (try simp only [Thn, InBlk, ↓reduceIte, Nat.reduceEqDiff])
          obtain rfl := Option.some.inj h
          refine LoopQ.out rfl ?_
          exact Red.auto
        · replace h := bite_f h hc41
          refine awp_skip ?_
          (try simp only [Thn, InBlk, ↓reduceIte, Nat.reduceEqDiff])
          (try simp only [Thn, InBlk, ↓reduceIte, Nat.reduceEqDiff])
          refine hK40 _ _ ?_
          clear hK40
          replace h := chk_some h
          obtain ⟨hp0, h⟩ := h
          refine awp_regE ftCOk [(8, .sl 0), (9, .v (.int .i64 (a0.length : Int))), (10, .v (.int .i64 (t10 + 1)))] [.row false (.ints .i64 a0)] ?_
          clear hp0
          obtain rfl := Option.some.inj h
          refine LoopQ.next ?_
          exact Red.auto
      · replace h := bite_f h hc38
        refine awp_exit ?_
        (try simp only [Thn, InBlk, ↓reduceIte, Nat.reduceEqDiff])
        obtain rfl := Option.some.inj h
        refine LoopQ.out rfl ?_
        exact Red.auto
    · clear hx
      rcases x42 with (⟨⟩ | ⟨⟩)
      · try dsimp only [Sum.elim_inl, Sum.elim_inr] at h
        try dsimp only [Sum.elim_inl, Sum.elim_inr]
        (try simp only [Thn, InBlk, ↓reduceIte, Nat.reduceEqDiff])
        (try simp only [Thn, InBlk, ↓reduceIte, Nat.reduceEqDiff])
        (try simp only [Thn, InBlk, ↓reduceIte, Nat.reduceEqDiff])
        refine hK23 _ _ ?_
        clear hK23
        refine awp_reg ftCOk [(2, .v (.bool true))] [.row false (.ints .i64 a0)] ?_
        refine awp_ret ?_
        (try simp only [Thn, InBlk, ↓reduceIte, Nat.reduceEqDiff])
        obtain rfl := Option.some.inj h
        refine ⟨by simp, _, [0], (by simp only [go_sem, Nat.reduceBEq, Nat.reduceLT, Nat.reduceAdd, Nat.reduceLeDiff, Nat.reduceSub, Nat.reduceEqDiff, Int.reduceToNat, reduceCtorEq, ↓reduceIte]; exact rfl), ?_, ?_, ?_, ?_⟩
        · first | exact trivial | exact ⟨trivial, trivial⟩ | exact ⟨trivial, trivial, trivial⟩ | exact ⟨trivial, trivial, trivial, trivial⟩ | (simp only [allP, and_true, true_and]; done) | (simp only [allP, and_true, true_and]; omega)
        · simp [selOk, pos]
        · simp
        · first | exact ⟨rfl, rfl⟩ | (simp only [go_sem, Nat.reduceBEq, Nat.reduceLT, Nat.reduceAdd, Nat.reduceLeDiff, Nat.reduceSub, Nat.reduceEqDiff, Int.reduceToNat, reduceCtorEq, ↓reduceIte]; done) | (simp [go_sem, Nat.reduceBEq, Nat.reduceLT, Nat.reduceAdd, Nat.reduceLeDiff, Nat.reduceSub, Nat.reduceEqDiff, Int.reduceToNat, reduceCtorEq, ↓reduceIte]; done) | (simp only [go_sem, Nat.reduceBEq, Nat.reduceLT, Nat.reduceAdd, Nat.reduceLeDiff, Nat.reduceSub, Nat.reduceEqDiff, Int.reduceToNat, reduceCtorEq, ↓reduceIte]; exact ⟨rfl, rfl⟩) | (simp_all [go_sem, Nat.reduceBEq, Nat.reduceLT, Nat.reduceAdd, Nat.reduceLeDiff, Nat.reduceSub, Nat.reduceEqDiff, Int.reduceToNat, reduceCtorEq, ↓reduceIte]; done)
      · try dsimp only [Sum.elim_inl, Sum.elim_inr] at h
        try dsimp only [Sum.elim_inl, Sum.elim_inr]
        (try simp only [Thn, InBlk, ↓reduceIte, Nat.reduceEqDiff])
        obtain rfl := Option.some.inj h
        refine ⟨by simp, _, [0], (by simp only [go_sem, Nat.reduceBEq, Nat.reduceLT, Nat.reduceAdd, Nat.reduceLeDiff, Nat.reduceSub, Nat.reduceEqDiff, Int.reduceToNat, reduceCtorEq, ↓reduceIte]; exact rfl), ?_, ?_, ?_, ?_⟩
        · first | exact trivial | exact ⟨trivial, trivial⟩ | exact ⟨trivial, trivial, trivial⟩ | exact ⟨trivial, trivial, trivial, trivial⟩ | (simp only [allP, and_true, true_and]; done) | (simp only [allP, and_true, true_and]; omega)
        · simp [selOk, pos]
        · simp
        · first | exact ⟨rfl, rfl⟩ | (simp only [go_sem, Nat.reduceBEq, Nat.reduceLT, Nat.reduceAdd, Nat.reduceLeDiff, Nat.reduceSub, Nat.reduceEqDiff, Int.reduceToNat, reduceCtorEq, ↓reduceIte]; done) | (simp [go_sem, Nat.reduceBEq, Nat.reduceLT, Nat.reduceAdd, Nat.reduceLeDiff, Nat.reduceSub, Nat.reduceEqDiff, Int.reduceToNat, reduceCtorEq, ↓reduceIte]; done) | (simp only [go_sem, Nat.reduceBEq, Nat.reduceLT, Nat.reduceAdd, Nat.reduceLeDiff, Nat.reduceSub, Nat.reduceEqDiff, Int.reduceToNat, reduceCtorEq, ↓reduceIte]; exact ⟨rfl, rfl⟩) | (simp_all [go_sem, Nat.reduceBEq, Nat.reduceLT, Nat.reduceAdd, Nat.reduceLeDiff, Nat.reduceSub, Nat.reduceEqDiff, Int.reduceToNat, reduceCtorEq, ↓reduceIte]; done)
theorem k_impl_CheckSum (a0 : List Int) {r : Int} (h : impl_CheckSum a0 = some r) :
    FnA Try.prog 36 [.sl 0] [.row false (.ints .i64 a0)] [] (fun x H => x = .v (.int .i64 r) ∧ H = [.row false (.ints .i64 a0)]) := by
  unfold impl_CheckSum at h
  refine FnA.of (N := 23) (pin := [0]) (rs := [.tmp 2]) Try.func36 rfl en36 rfl rfl (by simp) (by simp; try omega) ?_
  refine awp_reg ftCOk [(0, .sl 0)] [.row false (.ints .i64 a0)] ?_
  refine awp_seq fun K2 hK2 => ?_
  replace h := bind_some h
  obtain ⟨y, hr0, h⟩ := h
  try dsimp only at h
  refine awp_to [(0, .sl 0), (8, .v (.bool (!y)))] [.row false (.ints .i64 a0)] ?_ ?_
  · clear h
    intro K hK
    refine awp_region ftCOk ?_
    simp (maxSteps := 4000000) only [go_sem, Nat.reduceBEq, Nat.reduceLT, Nat.reduceAdd, Nat.reduceLeDiff, Nat.reduceSub, Nat.reduceEqDiff, Int.reduceToNat, reduceCtorEq, ↓reduceIte]
    repeat' (first | refine And.intro ?_ ?_ | intro hg)
    all_goals (try simp (disch := omega) only [wrap_fits])
    all_goals first
      | (refine hK _ _ ?_; exact Red.auto)
      | exact trivial
      | assumption
      | omega
      | exact wrap_fits (by omega) (by omega)
      | (refine wpA_callA (k_impl_BytesValid a0 (h := hr0)) [0] [] ?_
         rintro x Hc' ⟨rfl, rfl⟩ hlen
         refine vcOps_sound ftCOk ?_
         simp (maxSteps := 4000000) only [go_sem, Nat.reduceBEq, Nat.reduceLT, Nat.reduceAdd, Nat.reduceLeDiff, Nat.reduceSub, Nat.reduceEqDiff, Int.reduceToNat, reduceCtorEq, ↓reduceIte]
         repeat' (first | refine And.intro ?_ ?_ | intro hg)
         all_goals (try simp (disch := omega) only [wrap_fits])
         all_goals first
           | (refine hK _ _ ?_; exact Red.auto)
           | exact trivial
           | assumption
           | omega
           | exact wrap_fits (by omega) (by omega)
           | (simp_all; done)
           | (simp_all; omega))
      | (simp_all; done)
      | (simp_all; omega)
  · clear hr0
    refine awp_cond (t := 8) rfl (fun hc3 => ?_) (fun hc3 => ?_)
    · replace h := bite_t h hc3
      refine awp_reg ftCOk [(2, .v (.int .i64 (-1)))] [.row false (.ints .i64 a0)] ?_
      refine awp_ret ?_
      (try simp only [Thn, InBlk, ↓reduceIte, Nat.reduceEqDiff])
      obtain rfl := Option.some.inj h
      refine ⟨by simp, _, [0], (by simp only [go_sem, Nat.reduceBEq, Nat.reduceLT, Nat.reduceAdd, Nat.reduceLeDiff, Nat.reduceSub, Nat.reduceEqDiff, Int.reduceToNat, reduceCtorEq, ↓reduceIte]; exact rfl), ?_, ?_, ?_, ?_⟩
      · first | exact trivial | exact ⟨trivial, trivial⟩ | exact ⟨trivial, trivial, trivial⟩ | exact ⟨trivial, trivial, trivial, trivial⟩ | (simp only [allP, and_true, true_and]; done) | (simp only [allP, and_true, true_and]; omega)
      · simp [selOk, pos]
      · simp
      · first | exact ⟨rfl, rfl⟩ | (simp only [go_sem, Nat.reduceBEq, Nat.reduceLT, Nat.reduceAdd, Nat.reduceLeDiff, Nat.reduceSub, Nat.reduceEqDiff, Int.reduceToNat, reduceCtorEq, ↓reduceIte]; done) | (simp [go_sem, Nat.reduceBEq, Nat.reduceLT, Nat.reduceAdd, Nat.reduceLeDiff, Nat.reduceSub, Nat.reduceEqDiff, Int.reduceToNat, reduceCtorEq, ↓reduceIte]; done) | (simp only [go_sem, Nat.reduceBEq, Nat.reduceLT, Nat.reduceAdd, Nat.reduceLeDiff, Nat.reduceSub, Nat.reduceEqDiff, Int.reduceToNat, reduceCtorEq, ↓reduceIte]; exact ⟨rfl, rfl⟩) | (simp_all [go_sem, Nat.reduceBEq, Nat.reduceLT, Nat.reduceAdd, Nat.reduceLeDiff, Nat.reduceSub, Nat.reduceEqDiff, Int.reduceToNat, reduceCtorEq, ↓reduceIte]; done)
    · replace h := bite_f h hc3
      refine awp_skip ?_
      (try simp only [Thn, InBlk, ↓reduceIte, Nat.reduceEqDiff])
      refine hK2 _ _ ?_
      clear hK2
      refine awp_reg ftCOk [(0, .sl 0), (3, .v (.int .i64 7))] [.row false (.ints .i64 a0)] ?_
      refine awp_seq fun K17 hK17 => ?_
      refine awp_reg ftCOk [(3, .v (.int .i64 7)), (9, .sl 0), (10, .v (.int .i64 (a0.length : Int))), (11, .v (.int .i64 0))] [.row false (.ints .i64 a0)] ?_
      refine awp_block ?_
      replace h := bind_some h
      obtain ⟨t3_1, hx, h⟩ := h
      refine awp_loopL hx (fun ((t3, t11) : Int × Int) => [(3, .v (.int .i64 t3)), (9, .sl 0), (10, .v (.int .i64 (a0.length : Int))), (11, .v (.int .i64 t11))]) (fun ((t3, t11) : Int × Int) => [.row false (.ints .i64 a0)]) (fun (t3_1 : Int) => Exit.exit 0) (fun (t3_1 : Int) => [(3, .v (.int .i64 t3_1))]) (fun (t3_1 : Int) => [.row false (.ints .i64 a0)]) ?_ ?_ ?_ ?_
      · rintro t3_1 hy <;> cases hy
      · clear h hx
        exact Red.auto
      · clear h hx
        rintro ⟨t3, t11⟩ r h
        unfold impl_CheckSum_b0 at h
        try dsimp only at h
        try dsimp only
        refine awp_reg ftCOk [(3, .v (.int .i64 t3)), (9, .sl 0), (10, .v (.int .i64 (a0.length : Int))), (11, .v (.int .i64 t11)), (12, .v (.bool (decide (t11 < (a0.length : Int)))))] [.row false (.ints .i64 a0)] ?_
        refine awp_seq fun K27 hK27 => ?_
        refine awp_cond (t := 12) rfl (fun hc28 => ?_) (fun hc28 => ?_)
        · replace h := bite_t h hc28
          refine awp_skip ?_
          (try simp only [Thn, InBlk, ↓reduceIte, Nat.reduceEqDiff])
          refine hK27 _ _ ?_
          clear hK27
          refine awp_seq fun K29 hK29 => ?_
          refine awp_block ?_
          replace h := chk_some h
          obtain ⟨hp0, h⟩ := h
          refine awp_reg ftCOk [(3, .v (.int .i64 t3)), (5, .v (.int .i64 (a0.getD t11.toNat 0))), (9, .sl 0), (10, .v (.int .i64 (a0.length : Int))), (11, .v (.int .i64 t11))] [.row false (.ints .i64 a0)] ?_
          clear hp0
          replace h := chk_some h
          obtain ⟨hp0, h⟩ := h
          replace h := chk_some h
          obtain ⟨hp1, h⟩ := h
          replace h := chk_some h
          obtain ⟨hp2, h⟩ := h
          replace h := chk_some h
          obtain ⟨hp3, h⟩ := h
          refine awp_regE ftCOk [(3, .v (.int .i64 ((((31 * t3) + (a0.getD t11.toNat 0)) + 1) % 251))), (9, .sl 0), (10, .v (.int .i64 (a0.length : Int))), (11, .v (.int .i64 t11))] [.row false (.ints .i64 a0)] ?_
          clear hp0 hp1 hp2 hp3
          (try simp only [Thn, InBlk, ↓reduceIte, Nat.reduceEqDiff])
          (try simp only [Thn, InBlk, ↓reduceIte, Nat.reduceEqDiff])
          refine hK29 _ _ ?_
          clear hK29
          replace h := chk_some h
          obtain ⟨hp0, h⟩ := h
          refine awp_regE ftCOk [(3, .v (.int .i64 ((((31 * t3) + (a0.getD t11.toNat 0)) + 1) % 251))), (9, .sl 0), (10, .v (.int .i64 (a0.length : Int))), (11, .v (.int .i64 (t11 + 1)))] [.row false (.ints .i64 a0)] ?_
          clear hp0
          obtain rfl := Option.some.inj h
          refine LoopQ.next ?_
          exact Red.auto
        · replace h := bite_f h hc28
          refine awp_exit ?_
          (try simp only [Thn, InBlk, ↓reduceIte, Nat.reduceEqDiff])
          obtain rfl := Option.some.inj h
          refine LoopQ.out rfl ?_
          exact Red.auto
      · clear hx
        skip
        · try dsimp only [Sum.elim_inl, Sum.elim_inr] at h
          try dsimp only [Sum.elim_inl, Sum.elim_inr]
          (try simp only [Thn, InBlk, ↓reduceIte, Nat.reduceEqDiff])
          (try simp only [Thn, InBlk, ↓reduceIte, Nat.reduceEqDiff])
          (try simp only [Thn, InBlk, ↓reduceIte, Nat.reduceEqDiff])
          refine hK17 _ _ ?_
          clear hK17
          refine awp_reg ftCOk [(2, .v (.int .i64 t3_1))] [.row false (.ints .i64 a0)] ?_
          refine awp_ret ?_
          (try simp only [Thn, InBlk, ↓reduceIte, Nat.reduceEqDiff])
          obtain rfl := Option.some.inj h
          refine ⟨by simp, _, [0], (by simp only [go_sem, Nat.reduceBEq, Nat.reduceLT, Nat.reduceAdd, Nat.reduceLeDiff, Nat.reduceSub, Nat.reduceEqDiff, Int.reduceToNat, reduceCtorEq, ↓reduceIte]; exact rfl), ?_, ?_, ?_, ?_⟩
          · first | exact trivial | exact ⟨trivial, trivial⟩ | exact ⟨trivial, trivial, trivial⟩ | exact ⟨trivial, trivial, trivial, trivial⟩ | (simp only [allP, and_true, true_and]; done) | (simp only [allP, and_true, true_and]; omega)
          · simp [selOk, pos]
          · simp
          · first | exact ⟨rfl, rfl⟩ | (simp only [go_sem, Nat.reduceBEq, Nat.reduceLT, Nat.reduceAdd, Nat.reduceLeDiff, Nat.reduceSub, Nat.reduceEqDiff, Int.reduceToNat, reduceCtorEq, ↓reduceIte]; done) | (simp [go_sem, Nat.reduceBEq, Nat.reduceLT, Nat.reduceAdd, Nat.reduceLeDiff, Nat.reduceSub, Nat.reduceEqDiff, Int.reduceToNat, reduceCtorEq, ↓reduceIte]; done) | (simp only [go_sem, Nat.reduceBEq, Nat.reduceLT, Nat.reduceAdd, Nat.reduceLeDiff, Nat.reduceSub, Nat.reduceEqDiff, Int.reduceToNat, reduceCtorEq, ↓reduceIte]; exact ⟨rfl, rfl⟩) | (simp_all [go_sem, Nat.reduceBEq, Nat.reduceLT, Nat.reduceAdd, Nat.reduceLeDiff, Nat.reduceSub, Nat.reduceEqDiff, Int.reduceToNat, reduceCtorEq, ↓reduceIte]; done)
theorem k_laws_alive {r : Bool} (h : laws_alive = some r) :
    FnA Try.prog 12 [] [] [] (fun x H => x = .v (.bool r) ∧ H = []) := by
  unfold laws_alive at h
  refine FnA.of (N := 4) (pin := []) (rs := [.tmp 0]) Try.func12 rfl en12 rfl rfl (by simp) (by simp; try omega) ?_
  refine awp_reg ftCOk [] [] ?_
  replace h := bind_some h
  obtain ⟨y, hr0, h⟩ := h
  try dsimp only at h
  refine awp_to [(0, .v (.bool (y == 7)))] [.row true (.ints .i64 [])] ?_ ?_
  · clear h
    intro K hK
    refine awp_region ftCOk ?_
    simp (maxSteps := 4000000) only [go_sem, Nat.reduceBEq, Nat.reduceLT, Nat.reduceAdd, Nat.reduceLeDiff, Nat.reduceSub, Nat.reduceEqDiff, Int.reduceToNat, reduceCtorEq, ↓reduceIte]
    repeat' (first | refine And.intro ?_ ?_ | intro hg)
    all_goals (try simp (disch := omega) only [wrap_fits])
    all_goals first
      | (refine hK _ _ ?_; exact Red.auto)
      | exact trivial
      | assumption
      | omega
      | exact wrap_fits (by omega) (by omega)
      | (refine wpA_callA (k_impl_CheckSum [] (h := hr0)) [0] [] ?_
         rintro x Hc' ⟨rfl, rfl⟩ hlen
         refine vcOps_sound ftCOk ?_
         simp (maxSteps := 4000000) only [go_sem, Nat.reduceBEq, Nat.reduceLT, Nat.reduceAdd, Nat.reduceLeDiff, Nat.reduceSub, Nat.reduceEqDiff, Int.reduceToNat, reduceCtorEq, ↓reduceIte]
         repeat' (first | refine And.intro ?_ ?_ | intro hg)
         all_goals (try simp (disch := omega) only [wrap_fits])
         all_goals first
           | (refine hK _ _ ?_; exact Red.auto)
           | exact trivial
           | assumption
           | omega
           | exact wrap_fits (by omega) (by omega)
           | (simp_all; done)
           | (simp_all; omega))
      | (simp_all; done)
      | (simp_all; omega)
  · clear hr0
    refine awp_ret ?_
    (try simp only [Thn, InBlk, ↓reduceIte, Nat.reduceEqDiff])
    obtain rfl := Option.some.inj h
    refine ⟨by simp, _, [], (by simp only [go_sem, Nat.reduceBEq, Nat.reduceLT, Nat.reduceAdd, Nat.reduceLeDiff, Nat.reduceSub, Nat.reduceEqDiff, Int.reduceToNat, reduceCtorEq, ↓reduceIte]; exact rfl), ?_, ?_, ?_, ?_⟩
    · first | exact trivial | exact ⟨trivial, trivial⟩ | exact ⟨trivial, trivial, trivial⟩ | exact ⟨trivial, trivial, trivial, trivial⟩ | (simp only [allP, and_true, true_and]; done) | (simp only [allP, and_true, true_and]; omega)
    · simp [selOk, pos]
    · simp
    · first | exact ⟨rfl, rfl⟩ | (simp only [go_sem, Nat.reduceBEq, Nat.reduceLT, Nat.reduceAdd, Nat.reduceLeDiff, Nat.reduceSub, Nat.reduceEqDiff, Int.reduceToNat, reduceCtorEq, ↓reduceIte]; done) | (simp [go_sem, Nat.reduceBEq, Nat.reduceLT, Nat.reduceAdd, Nat.reduceLeDiff, Nat.reduceSub, Nat.reduceEqDiff, Int.reduceToNat, reduceCtorEq, ↓reduceIte]; done) | (simp only [go_sem, Nat.reduceBEq, Nat.reduceLT, Nat.reduceAdd, Nat.reduceLeDiff, Nat.reduceSub, Nat.reduceEqDiff, Int.reduceToNat, reduceCtorEq, ↓reduceIte]; exact ⟨rfl, rfl⟩) | (simp_all [go_sem, Nat.reduceBEq, Nat.reduceLT, Nat.reduceAdd, Nat.reduceLeDiff, Nat.reduceSub, Nat.reduceEqDiff, Int.reduceToNat, reduceCtorEq, ↓reduceIte]; done)
theorem k_impl_WeightOf (a0_0 : Int) (a0_1 : List (Int × Int × Int)) (a1 : Int) (a2 : Int) {r : Int} (h : impl_WeightOf a0_0 a0_1 a1 a2 = some r) :
    FnA Try.prog 13 [.agg [.v (.int .i64 a0_0), .sl 0], .v (.int .i64 a1), .v (.int .i64 a2)] [.row false (.trips a0_1)] [] (fun x H => x = .v (.int .i64 r) ∧ H = [.row false (.trips a0_1)]) := by
  unfold impl_WeightOf at h
  refine FnA.of (N := 32) (pin := [0]) (rs := [.tmp 6]) Try.func13 rfl en13 rfl rfl (by simp) (by simp; try omega) ?_
  refine awp_reg ftCOk [(1, .v (.int .i64 a1)), (2, .v (.int .i64 a2)), (3, .pp 1 0)] [.row false (.trips a0_1), .box [.v (.int .i64 a0_0), .sl 0]] ?_
  refine awp_freeze 3 (by rfl) (by rfl) (by exact rfl) ?_
  refine awp_seq fun K2 hK2 => ?_
  replace h := bind_some h
  obtain ⟨y, hr0, h⟩ := h
  try dsimp only at h
  refine awp_to [(1, .v (.int .i64 a1)), (2, .v (.int .i64 a2)), (3, .pp 1 0), (11, .v (.bool (!y)))] [.row false (.trips a0_1), .rbox [.v (.int .i64 a0_0), .sl 0]] ?_ ?_
  · clear h
    intro K hK
    refine awp_region ftCOk ?_
    simp (maxSteps := 4000000) only [go_sem, Nat.reduceBEq, Nat.reduceLT, Nat.reduceAdd, Nat.reduceLeDiff, Nat.reduceSub, Nat.reduceEqDiff, Int.reduceToNat, reduceCtorEq, ↓reduceIte]
    repeat' (first | refine And.intro ?_ ?_ | intro hg)
    all_goals (try simp (disch := omega) only [wrap_fits])
    all_goals first
      | (refine hK _ _ ?_; exact Red.auto)
      | exact trivial
      | assumption
      | omega
      | exact wrap_fits (by omega) (by omega)
      | (refine wpA_callA (k_impl_GraphValid a0_0 a0_1 (h := hr0)) [0] [] ?_
         rintro x Hc' ⟨rfl, rfl⟩ hlen
         refine vcOps_sound ftCOk ?_
         simp (maxSteps := 4000000) only [go_sem, Nat.reduceBEq, Nat.reduceLT, Nat.reduceAdd, Nat.reduceLeDiff, Nat.reduceSub, Nat.reduceEqDiff, Int.reduceToNat, reduceCtorEq, ↓reduceIte]
         repeat' (first | refine And.intro ?_ ?_ | intro hg)
         all_goals (try simp (disch := omega) only [wrap_fits])
         all_goals first
           | (refine hK _ _ ?_; exact Red.auto)
           | exact trivial
           | assumption
           | omega
           | exact wrap_fits (by omega) (by omega)
           | (simp_all; done)
           | (simp_all; omega))
      | (simp_all; done)
      | (simp_all; omega)
  · clear hr0
    refine awp_cond (t := 11) rfl (fun hc3 => ?_) (fun hc3 => ?_)
    · replace h := bite_t h hc3
      refine awp_reg ftCOk [(6, .v (.int .i64 (-1)))] [.row false (.trips a0_1), .rbox [.v (.int .i64 a0_0), .sl 0]] ?_
      refine awp_ret ?_
      (try simp only [Thn, InBlk, ↓reduceIte, Nat.reduceEqDiff])
      obtain rfl := Option.some.inj h
      refine ⟨by simp, _, [0], (by simp only [go_sem, Nat.reduceBEq, Nat.reduceLT, Nat.reduceAdd, Nat.reduceLeDiff, Nat.reduceSub, Nat.reduceEqDiff, Int.reduceToNat, reduceCtorEq, ↓reduceIte]; exact rfl), ?_, ?_, ?_, ?_⟩
      · first | exact trivial | exact ⟨trivial, trivial⟩ | exact ⟨trivial, trivial, trivial⟩ | exact ⟨trivial, trivial, trivial, trivial⟩ | (simp only [allP, and_true, true_and]; done) | (simp only [allP, and_true, true_and]; omega)
      · simp [selOk, pos]
      · simp
      · first | exact ⟨rfl, rfl⟩ | (simp only [go_sem, Nat.reduceBEq, Nat.reduceLT, Nat.reduceAdd, Nat.reduceLeDiff, Nat.reduceSub, Nat.reduceEqDiff, Int.reduceToNat, reduceCtorEq, ↓reduceIte]; done) | (simp [go_sem, Nat.reduceBEq, Nat.reduceLT, Nat.reduceAdd, Nat.reduceLeDiff, Nat.reduceSub, Nat.reduceEqDiff, Int.reduceToNat, reduceCtorEq, ↓reduceIte]; done) | (simp only [go_sem, Nat.reduceBEq, Nat.reduceLT, Nat.reduceAdd, Nat.reduceLeDiff, Nat.reduceSub, Nat.reduceEqDiff, Int.reduceToNat, reduceCtorEq, ↓reduceIte]; exact ⟨rfl, rfl⟩) | (simp_all [go_sem, Nat.reduceBEq, Nat.reduceLT, Nat.reduceAdd, Nat.reduceLeDiff, Nat.reduceSub, Nat.reduceEqDiff, Int.reduceToNat, reduceCtorEq, ↓reduceIte]; done)
    · replace h := bite_f h hc3
      refine awp_skip ?_
      (try simp only [Thn, InBlk, ↓reduceIte, Nat.reduceEqDiff])
      refine hK2 _ _ ?_
      clear hK2
      refine awp_seq fun K23 hK23 => ?_
      refine awp_reg ftCOk [(1, .v (.int .i64 a1)), (2, .v (.int .i64 a2)), (13, .sl 0), (14, .v (.int .i64 (a0_1.length : Int))), (15, .v (.int .i64 0))] [.row false (.trips a0_1), .rbox [.v (.int .i64 a0_0), .sl 0]] ?_
      refine awp_block ?_
      replace h := bind_some h
      obtain ⟨x42, hx, h⟩ := h
      refine awp_loopL hx (fun (t15 : Int) => [(1, .v (.int .i64 a1)), (2, .v (.int .i64 a2)), (13, .sl 0), (14, .v (.int .i64 (a0_1.length : Int))), (15, .v (.int .i64 t15))]) (fun (t15 : Int) => [.row false (.trips a0_1)]) (Sum.elim (fun (_ : Unit) => Exit.exit 0) (fun (t6 : Int) => Exit.ret)) (Sum.elim (fun (_ : Unit) => []) (fun (t6 : Int) => [(6, .v (.int .i64 t6))])) (Sum.elim (fun (_ : Unit) => [.row false (.trips a0_1)]) (fun (t6 : Int) => [.row false (.trips a0_1)])) ?_ ?_ ?_ ?_
      · rintro (⟨⟩ | t6) hy <;> cases hy
      · clear h hx
        exact Red.selA [0] Red.auto
      · clear h hx
        rintro t15 r h
        unfold impl_WeightOf_b0 at h
        try dsimp only at h
        try dsimp only
        refine awp_reg ftCOk [(1, .v (.int .i64 a1)), (2, .v (.int .i64 a2)), (13, .sl 0), (14, .v (.int .i64 (a0_1.length : Int))), (15, .v (.int .i64 t15)), (16, .v (.bool (decide (t15 < (a0_1.length : Int)))))] [.row false (.trips a0_1)] ?_
        refine awp_seq fun K37 hK37 => ?_
        refine awp_cond (t := 16) rfl (fun hc38 => ?_) (fun hc38 => ?_)
        · replace h := bite_t h hc38
          refine awp_skip ?_
          (try simp only [Thn, InBlk, ↓reduceIte, Nat.reduceEqDiff])
          refine hK37 _ _ ?_
          clear hK37
          refine awp_seq fun K40 hK40 => ?_
          refine awp_block ?_
          replace h := chk_some h
          obtain ⟨hp0, h⟩ := h
          refine awp_reg ftCOk [(1, .v (.int .i64 a1)), (2, .v (.int .i64 a2)), (8, .pp 1 0), (13, .sl 0), (14, .v (.int .i64 (a0_1.length : Int))), (15, .v (.int .i64 t15))] [.row false (.trips a0_1), .box [.v (.int .i64 ((a0_1.getD t15.toNat (0, 0, 0)).1)), .v (.int .i64 ((a0_1.getD t15.toNat (0, 0, 0)).2.1)), .v (.int .i64 ((a0_1.getD t15.toNat (0, 0, 0)).2.2))]] ?_
          clear hp0
          refine awp_reg ftCOk [(1, .v (.int .i64 a1)), (2, .v (.int .i64 a2)), (8, .pp 1 0), (13, .sl 0), (14, .v (.int .i64 (a0_1.length : Int))), (15, .v (.int .i64 t15)), (28, .v (.bool (((a0_1.getD t15.toNat (0, 0, 0)).1 == a1) && ((a0_1.getD t15.toNat (0, 0, 0)).2.1 == a2))))] [.row false (.trips a0_1), .box [.v (.int .i64 ((a0_1.getD t15.toNat (0, 0, 0)).1)), .v (.int .i64 ((a0_1.getD t15.toNat (0, 0, 0)).2.1)), .v (.int .i64 ((a0_1.getD t15.toNat (0, 0, 0)).2.2))]] ?_
          refine awp_cond (t := 28) rfl (fun hc41 => ?_) (fun hc41 => ?_)
          · replace h := bite_t h hc41
            refine awp_reg ftCOk [(6, .v (.int .i64 ((a0_1.getD t15.toNat (0, 0, 0)).2.2)))] [.row false (.trips a0_1), .box [.v (.int .i64 ((a0_1.getD t15.toNat (0, 0, 0)).1)), .v (.int .i64 ((a0_1.getD t15.toNat (0, 0, 0)).2.1)), .v (.int .i64 ((a0_1.getD t15.toNat (0, 0, 0)).2.2))]] ?_
            refine awp_ret ?_
            (try simp only [Thn, InBlk, ↓reduceIte, Nat.reduceEqDiff])
            obtain rfl := Option.some.inj h
            refine LoopQ.out rfl ?_
            exact Red.selA [0] Red.auto
          · replace h := bite_f h hc41
            refine awp_skip ?_
            (try simp only [Thn, InBlk, ↓reduceIte, Nat.reduceEqDiff])
            (try simp only [Thn, InBlk, ↓reduceIte, Nat.reduceEqDiff])
            refine hK40 _ _ ?_
            clear hK40
            replace h := chk_some h
            obtain ⟨hp0, h⟩ := h
            refine awp_regE ftCOk [(1, .v (.int .i64 a1)), (2, .v (.int .i64 a2)), (13, .sl 0), (14, .v (.int .i64 (a0_1.length : Int))), (15, .v (.int .i64 (t15 + 1)))] [.row false (.trips a0_1), .box [.v (.int .i64 ((a0_1.getD t15.toNat (0, 0, 0)).1)), .v (.int .i64 ((a0_1.getD t15.toNat (0, 0, 0)).2.1)), .v (.int .i64 ((a0_1.getD t15.toNat (0, 0, 0)).2.2))]] ?_
            clear hp0
            obtain rfl := Option.some.inj h
            refine LoopQ.next ?_
            exact Red.selA [0] Red.auto
        · replace h := bite_f h hc38
          refine awp_exit ?_
          (try simp only [Thn, InBlk, ↓reduceIte, Nat.reduceEqDiff])
          obtain rfl := Option.some.inj h
          refine LoopQ.out rfl ?_
          exact Red.auto
      · clear hx
        rcases x42 with (⟨⟩ | t6)
        · try dsimp only [Sum.elim_inl, Sum.elim_inr] at h
          try dsimp only [Sum.elim_inl, Sum.elim_inr]
          (try simp only [Thn, InBlk, ↓reduceIte, Nat.reduceEqDiff])
          (try simp only [Thn, InBlk, ↓reduceIte, Nat.reduceEqDiff])
          (try simp only [Thn, InBlk, ↓reduceIte, Nat.reduceEqDiff])
          refine hK23 _ _ ?_
          clear hK23
          refine awp_reg ftCOk [(6, .v (.int .i64 (-1)))] [.row false (.trips a0_1)] ?_
          refine awp_ret ?_
          (try simp only [Thn, InBlk, ↓reduceIte, Nat.reduceEqDiff])
          obtain rfl := Option.some.inj h
          refine ⟨by simp, _, [0], (by simp only [go_sem, Nat.reduceBEq, Nat.reduceLT, Nat.reduceAdd, Nat.reduceLeDiff, Nat.reduceSub, Nat.reduceEqDiff, Int.reduceToNat, reduceCtorEq, ↓reduceIte]; exact rfl), ?_, ?_, ?_, ?_⟩
          · first | exact trivial | exact ⟨trivial, trivial⟩ | exact ⟨trivial, trivial, trivial⟩ | exact ⟨trivial, trivial, trivial, trivial⟩ | (simp only [allP, and_true, true_and]; done) | (simp only [allP, and_true, true_and]; omega)
          · simp [selOk, pos]
          · simp
          · first | exact ⟨rfl, rfl⟩ | (simp only [go_sem, Nat.reduceBEq, Nat.reduceLT, Nat.reduceAdd, Nat.reduceLeDiff, Nat.reduceSub, Nat.reduceEqDiff, Int.reduceToNat, reduceCtorEq, ↓reduceIte]; done) | (simp [go_sem, Nat.reduceBEq, Nat.reduceLT, Nat.reduceAdd, Nat.reduceLeDiff, Nat.reduceSub, Nat.reduceEqDiff, Int.reduceToNat, reduceCtorEq, ↓reduceIte]; done) | (simp only [go_sem, Nat.reduceBEq, Nat.reduceLT, Nat.reduceAdd, Nat.reduceLeDiff, Nat.reduceSub, Nat.reduceEqDiff, Int.reduceToNat, reduceCtorEq, ↓reduceIte]; exact ⟨rfl, rfl⟩) | (simp_all [go_sem, Nat.reduceBEq, Nat.reduceLT, Nat.reduceAdd, Nat.reduceLeDiff, Nat.reduceSub, Nat.reduceEqDiff, Int.reduceToNat, reduceCtorEq, ↓reduceIte]; done)
        · try dsimp only [Sum.elim_inl, Sum.elim_inr] at h
          try dsimp only [Sum.elim_inl, Sum.elim_inr]
          (try simp only [Thn, InBlk, ↓reduceIte, Nat.reduceEqDiff])
          obtain rfl := Option.some.inj h
          refine ⟨by simp, _, [0], (by simp only [go_sem, Nat.reduceBEq, Nat.reduceLT, Nat.reduceAdd, Nat.reduceLeDiff, Nat.reduceSub, Nat.reduceEqDiff, Int.reduceToNat, reduceCtorEq, ↓reduceIte]; exact rfl), ?_, ?_, ?_, ?_⟩
          · first | exact trivial | exact ⟨trivial, trivial⟩ | exact ⟨trivial, trivial, trivial⟩ | exact ⟨trivial, trivial, trivial, trivial⟩ | (simp only [allP, and_true, true_and]; done) | (simp only [allP, and_true, true_and]; omega)
          · simp [selOk, pos]
          · simp
          · first | exact ⟨rfl, rfl⟩ | (simp only [go_sem, Nat.reduceBEq, Nat.reduceLT, Nat.reduceAdd, Nat.reduceLeDiff, Nat.reduceSub, Nat.reduceEqDiff, Int.reduceToNat, reduceCtorEq, ↓reduceIte]; done) | (simp [go_sem, Nat.reduceBEq, Nat.reduceLT, Nat.reduceAdd, Nat.reduceLeDiff, Nat.reduceSub, Nat.reduceEqDiff, Int.reduceToNat, reduceCtorEq, ↓reduceIte]; done) | (simp only [go_sem, Nat.reduceBEq, Nat.reduceLT, Nat.reduceAdd, Nat.reduceLeDiff, Nat.reduceSub, Nat.reduceEqDiff, Int.reduceToNat, reduceCtorEq, ↓reduceIte]; exact ⟨rfl, rfl⟩) | (simp_all [go_sem, Nat.reduceBEq, Nat.reduceLT, Nat.reduceAdd, Nat.reduceLeDiff, Nat.reduceSub, Nat.reduceEqDiff, Int.reduceToNat, reduceCtorEq, ↓reduceIte]; done)
end Go.Proofs.Ytdjckcedpnabpaa
