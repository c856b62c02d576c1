/- The code computes the functions that were taken out of it. -/
import Derived.Test.YtdjckcedpnabpaaLw2
set_option maxRecDepth 100000
set_option maxHeartbeats 4000000
set_option linter.unusedSimpArgs false
set_option linter.unusedVariables false
namespace Go.Proofs.Ytdjckcedpnabpaa
open Go Go.Av
attribute [local irreducible] wpA OpK awp
attribute [local go_sem] frs_nil frs_cons pw8_32 pw16_32 pw24_32 pw27_32 eqAgg eqAggV buildQ placesOf buildCells List.toList_toArray vcQg gfind gfree gput un3_agg unI_int unB_bool unK_int guardU skipV resVs resV vcD_nil vcD_cons vcT_fin vcT_free vcT_one vcT_two opS vcD1 roH roOb ftNone ftAdd oneOrTup AV.detup AV.ren AV.ren2 AV.ren1 pos selH AObj.ren fitAll fit fit1 fit1s matchAll matchOb exIds AObj.excl Env.killp pastH setAll upId AObj.past AObj.back AV.killp AV.killp1 AV.killp2 Nat.sub_self Nat.lt_irrefl Bool.or_self vcOps vcOp vcQs vcQ dstOk quiet eff pcall calleeF plain valsOf ev ofConst argEnv List.lookup Nat.add_eq decide_true decide_false Env.put binV wrapTo unV convV loadQ indexQ callQ builtinQ rd rdI globC AObj.globC partAV isAggD isArrayD addrAdd boxE storeE storeCE makeE makeNE buildNE nestZero Cont.child Cont.setChild buildSliceE buildFold appendE appendNE nestApp appendV promoteH sliceE boundAV subObj asCells Value.oneCell' contZero Cont.sets Cont.app Cont.sub Cont.len Cont.esz Cont.cell Cont.cells Cont.flat AV.det AV.det1 guardV AObj.unview AObj.kill Env.kill AV.kill AV.kill1 AV.kill2 fits64 Option.getD_some Option.getD_none Option.map_some Option.map_none Option.bind_some List.map_cons List.map_nil List.getElem?_cons_zero List.getElem?_cons_succ List.getElem?_nil true_and and_true List.getElem?_toArray List.cons_append List.nil_append List.length_cons List.length_nil List.set_cons_zero List.set_cons_succ List.take_succ_cons List.take_zero List.drop_succ_cons List.drop_zero List.drop_nil List.take_nil List.contains_cons List.contains_nil List.elem_cons List.elem_nil Bool.not_true Bool.not_false Bool.false_eq_true Bool.or_false Bool.or_true Bool.and_true Bool.and_false Bool.true_and Bool.false_and List.all_cons List.all_nil List.size_toArray Nat.lt_add_one Nat.zero_lt_succ Nat.one_ne_zero Nat.zero_ne_one and_self List.replicate_succ List.replicate_zero Int.toNat_natCast Int.toNat_zero Value.cells false_implies true_implies forall_const Thn InBlk Nat.zero_add Nat.add_zero Int.zero_add Ele Env.ren Option.some.injEq AV.v.injEq AV.sl.injEq AV.pp.injEq AV.ep.injEq AV.agg.injEq List.cons.injEq Value.int.injEq Value.bool.injEq Value.string.injEq true_or or_true or_false false_or tsz0 tby0 tz0 Try.underlying0 tsz1 tby1 tz1 Try.underlying1 tsz2 tby2 tz2 Try.underlying2 tsz3 tby3 tz3 Try.underlying3 tsz4 tby4 tz4 Try.underlying4 tsz5 tby5 tz5 Try.underlying5 tsz6 tby6 tz6 Try.underlying6 tsz7 tby7 tz7 Try.underlying7 fo7_0 fo7_1 fo7_2 fo7_3 tsz8 tby8 tz8 Try.underlying8 fo8_0 fo8_1 fo8_2 fo8_3 tsz9 tby9 Try.underlying9 tsz10 tby10 Try.underlying10 tsz12 tby12 tz12 Try.underlying12 tsz16 tby16 tz16 Try.underlying16 tsz17 tby17 tz17 Try.underlying17 tsz20 tby20 tz20 Try.underlying20 tsz21 tby21 tz21 Try.underlying21 tsz22 tby22 tz22 Try.underlying22 tsz23 tby23 tz23 Try.underlying23 tsz24 tby24 tz24 Try.underlying24 fo24_0 fo24_1 tsz25 tby25 tz25 Try.underlying25 fo25_0 fo25_1 tsz32 tby32 tz32 Try.underlying32 peq32 fo32_0 fo32_1 fo32_2 tsz33 tby33 tz33 Try.underlying33 peq33 fo33_0 fo33_1 fo33_2 tsz40 tby40 tz40 Try.underlying40 tsz42 tby42 tz42 Try.underlying42 tsz44 tby44 tz44 Try.underlying44 tsz51 tby51 tz51 Try.underlying51 tsz55 tby55 tz55 Try.underlying55 tsz56 tby56 tz56 Try.underlying56 tsz74 tby74 tz74 Try.underlying74 fo74_0 fo74_1 tsz75 tby75 tz75 Try.underlying75 fo75_0 fo75_1 tsz79 tby79 tz79 Try.underlying79 tsz96 tby96 tz96 Try.underlying96 tsz97 tby97 tz97 Try.underlying97 tsz101 tby101 tz101 Try.underlying101 tsz104 tby104 tz104 Try.underlying104 tsz106 tby106 tz106 Try.underlying106 tsz114 tby114 tz114 Try.underlying114 tsz118 tby118 tz118 Try.underlying118 tsz121 tby121 tz121 Try.underlying121 tsz122 tby122 tz122 Try.underlying122 tsz127 tby127 tz127 Try.underlying127 tsz128 tby128 tz128 Try.underlying128 tsz129 tby129 tz129 Try.underlying129 tsz130 tby130 tz130 Try.underlying130 tsz131 tby131 tz131 Try.underlying131 tsz132 tby132 tz132 Try.underlying132 tsz133 tby133 tz133 Try.underlying133 tsz134 tby134 tz134 Try.underlying134 tsz135 tby135 tz135 Try.underlying135 tsz136 tby136 tz136 Try.underlying136 fo136_0 fo136_1 fo136_2 fo136_3 fo136_4 fo136_5 fo136_6 fo136_7 fo136_8 fo136_9 fo136_10 tsz137 tby137 tz137 Try.underlying137 fo137_0 fo137_1 fo137_2 fo137_3 fo137_4 fo137_5 fo137_6 fo137_7 fo137_8 fo137_9 fo137_10 tsz138 tby138 tz138 Try.underlying138 l1InG l4BeforeG isNaNG cmpIntG cmpEndsG ftC
theorem k_laws_FnTurnGraph (a0 : List Int) {r : Bool} (h : laws_FnTurnGraph a0 = some r) :
    FnA Try.prog 3 [.sl 0] [.row false (.ints .u8 a0)] [] (fun x H => x = .v (.bool r) ∧ H = [.row false (.ints .u8 a0)]) := by
  unfold laws_FnTurnGraph at h
  refine FnA.of (N := 64) (pin := [0]) (rs := [.tmp 2]) Try.func3 rfl en3 rfl rfl (by simp) (by simp; try omega) ?_
  refine awp_reg ftCOk [(0, .sl 0)] [.row false (.ints .u8 a0)] ?_
  refine awp_seq fun K2 hK2 => ?_
  refine awp_reg ftCOk [(0, .sl 0), (8, .v (.bool (decide (1048576 < (a0.length : Int)))))] [.row false (.ints .u8 a0)] ?_
  refine awp_cond (t := 8) rfl (fun hc3 => ?_) (fun hc3 => ?_)
  · replace h := bite_t h hc3
    refine awp_reg ftCOk [(2, .v (.bool true))] [.row false (.ints .u8 a0)] ?_
    refine awp_ret ?_
    (try simp only [Thn, InBlk, ↓reduceIte, Nat.reduceEqDiff])
    obtain rfl := Option.some.inj h
    refine ⟨by simp, _, [0], (by simp only [go_sem, Nat.reduceBEq, Nat.reduceLT, Nat.reduceAdd, Nat.reduceLeDiff, Nat.reduceSub, Nat.reduceEqDiff, Int.reduceToNat, reduceCtorEq, ↓reduceIte]; exact rfl), ?_, ?_, ?_, ?_⟩
    · first | exact trivial | exact ⟨trivial, trivial⟩ | exact ⟨trivial, trivial, trivial⟩ | exact ⟨trivial, trivial, trivial, trivial⟩ | (simp only [allP, and_true, true_and]; done) | (simp only [allP, and_true, true_and]; omega)
    · simp [selOk, pos]
    · simp
    · first | exact ⟨rfl, rfl⟩ | (simp only [go_sem, Nat.reduceBEq, Nat.reduceLT, Nat.reduceAdd, Nat.reduceLeDiff, Nat.reduceSub, Nat.reduceEqDiff, Int.reduceToNat, reduceCtorEq, ↓reduceIte]; done) | (simp [go_sem, Nat.reduceBEq, Nat.reduceLT, Nat.reduceAdd, Nat.reduceLeDiff, Nat.reduceSub, Nat.reduceEqDiff, Int.reduceToNat, reduceCtorEq, ↓reduceIte]; done) | (simp only [go_sem, Nat.reduceBEq, Nat.reduceLT, Nat.reduceAdd, Nat.reduceLeDiff, Nat.reduceSub, Nat.reduceEqDiff, Int.reduceToNat, reduceCtorEq, ↓reduceIte]; exact ⟨rfl, rfl⟩) | (simp_all [go_sem, Nat.reduceBEq, Nat.reduceLT, Nat.reduceAdd, Nat.reduceLeDiff, Nat.reduceSub, Nat.reduceEqDiff, Int.reduceToNat, reduceCtorEq, ↓reduceIte]; done)
  · replace h := bite_f h hc3
    refine awp_skip ?_
    (try simp only [Thn, InBlk, ↓reduceIte, Nat.reduceEqDiff])
    refine hK2 _ _ ?_
    clear hK2
    replace h := bind_some h
    obtain ⟨⟨y, y_1⟩, hr0, h⟩ := h
    try dsimp only at h
    refine awp_to [(3, .pp 2 0)] [.row false (.ints .u8 a0), .row true (.trips y_1), .box [.v (.int .i64 y), .sl 1]] ?_ ?_
    · clear h
      intro K hK
      refine awp_region ftCOk ?_
      simp (maxSteps := 4000000) only [go_sem, Nat.reduceBEq, Nat.reduceLT, Nat.reduceAdd, Nat.reduceLeDiff, Nat.reduceSub, Nat.reduceEqDiff, Int.reduceToNat, reduceCtorEq, ↓reduceIte]
      repeat' (first | refine And.intro ?_ ?_ | intro hg)
      all_goals (try simp (disch := omega) only [wrap_fits])
      all_goals first
        | (refine hK _ _ ?_; exact Red.auto)
        | exact trivial
        | assumption
        | omega
        | exact wrap_fits (by omega) (by omega)
        | (refine wpA_callA (k_spec_DrawTurnGraph a0 (h := hr0)) [0] [] ?_
           rintro x Hc' ⟨rfl, rfl⟩ hlen
           refine vcOps_sound ftCOk ?_
           simp (maxSteps := 4000000) only [go_sem, Nat.reduceBEq, Nat.reduceLT, Nat.reduceAdd, Nat.reduceLeDiff, Nat.reduceSub, Nat.reduceEqDiff, Int.reduceToNat, reduceCtorEq, ↓reduceIte]
           repeat' (first | refine And.intro ?_ ?_ | intro hg)
           all_goals (try simp (disch := omega) only [wrap_fits])
           all_goals first
             | (refine hK _ _ ?_; exact Red.auto)
             | exact trivial
             | assumption
             | omega
             | exact wrap_fits (by omega) (by omega)
             | (simp_all; done)
             | (simp_all; omega))
        | (simp_all; done)
        | (simp_all; omega)
    · clear hr0
      replace h := bind_some h
      obtain ⟨⟨y_2, y_3⟩, hr0, h⟩ := h
      try dsimp only at h
      refine awp_to [(3, .pp 2 0), (4, .pp 4 0)] [.row false (.ints .u8 a0), .row true (.trips y_1), .box [.v (.int .i64 y), .sl 1], .row true (.trips y_3), .box [.v (.int .i64 y_2), .sl 3]] ?_ ?_
      · clear h
        intro K hK
        refine awp_region ftCOk ?_
        simp (maxSteps := 4000000) only [go_sem, Nat.reduceBEq, Nat.reduceLT, Nat.reduceAdd, Nat.reduceLeDiff, Nat.reduceSub, Nat.reduceEqDiff, Int.reduceToNat, reduceCtorEq, ↓reduceIte]
        repeat' (first | refine And.intro ?_ ?_ | intro hg)
        all_goals (try simp (disch := omega) only [wrap_fits])
        all_goals first
          | (refine hK _ _ ?_; exact Red.auto)
          | exact trivial
          | assumption
          | omega
          | exact wrap_fits (by omega) (by omega)
          | (refine wpA_callA (k_impl_TurnGraph y y_1 (h := hr0)) [1] [] ?_
             rintro x Hc' ⟨rfl, rfl⟩ hlen
             refine vcOps_sound ftCOk ?_
             simp (maxSteps := 4000000) only [go_sem, Nat.reduceBEq, Nat.reduceLT, Nat.reduceAdd, Nat.reduceLeDiff, Nat.reduceSub, Nat.reduceEqDiff, Int.reduceToNat, reduceCtorEq, ↓reduceIte]
             repeat' (first | refine And.intro ?_ ?_ | intro hg)
             all_goals (try simp (disch := omega) only [wrap_fits])
             all_goals first
               | (refine hK _ _ ?_; exact Red.auto)
               | exact trivial
               | assumption
               | omega
               | exact wrap_fits (by omega) (by omega)
               | (simp_all; done)
               | (simp_all; omega))
          | (simp_all; done)
          | (simp_all; omega)
      · clear hr0
        refine awp_seq fun K5 hK5 => ?_
        replace h := bind_some h
        obtain ⟨⟨y_4, y_5⟩, hr0, h⟩ := h
        try dsimp only at h
        replace h := bind_some h
        obtain ⟨y_6, hr1, h⟩ := h
        try dsimp only at h
        refine awp_to [(3, .pp 2 0), (4, .pp 4 0), (17, .v (.bool (!y_6)))] [.row false (.ints .u8 a0), .row true (.trips y_1), .box [.v (.int .i64 y), .sl 1], .row true (.trips y_3), .box [.v (.int .i64 y_2), .sl 3], .row true (.trips y_5)] ?_ ?_
        · clear h
          intro K hK
          refine awp_drawT mixed ftCOk (.two 0 1 (.one 1 (.one 2 (.one 3 (.one 4 .fin)))) (.two 0 2 (.one 2 (.one 3 (.one 4 .fin))) (.one 0 (.one 3 (.one 4 .fin))))) (by kernel_rfl) (by simp) ?_
          simp (maxSteps := 4000000) only [go_sem, Nat.reduceBEq, Nat.reduceLT, Nat.reduceAdd, Nat.reduceLeDiff, Nat.reduceSub, Nat.reduceEqDiff, Int.reduceToNat, reduceCtorEq, ↓reduceIte]
          repeat' (first | refine And.intro ?_ ?_ | intro hg)
          all_goals (try simp (disch := omega) only [wrap_fits])
          all_goals first
            | (refine hK _ _ ?_; exact Red.auto)
            | exact trivial
            | assumption
            | omega
            | exact wrap_fits (by omega) (by omega)
            | (refine OpK_callA (k_spec_TurnGraph y y_1 (h := hr0)) [1] [] ?_
               rintro x Hc' ⟨rfl, rfl⟩ hlen
               simp (maxSteps := 4000000) only [go_sem, Nat.reduceBEq, Nat.reduceLT, Nat.reduceAdd, Nat.reduceLeDiff, Nat.reduceSub, Nat.reduceEqDiff, Int.reduceToNat, reduceCtorEq, ↓reduceIte]
               repeat' (first | refine And.intro ?_ ?_ | intro hg)
               all_goals (try simp (disch := omega) only [wrap_fits])
               all_goals first
                 | (refine hK _ _ ?_; exact Red.auto)
                 | exact trivial
                 | assumption
                 | omega
                 | exact wrap_fits (by omega) (by omega)
                 | (refine OpK_callA (k_laws_sameGraph y_2 y_3 y_4 y_5 (h := hr1)) [3, 5] [] ?_
                    rintro x Hc' ⟨rfl, rfl⟩ hlen
                    simp (maxSteps := 4000000) only [go_sem, Nat.reduceBEq, Nat.reduceLT, Nat.reduceAdd, Nat.reduceLeDiff, Nat.reduceSub, Nat.reduceEqDiff, Int.reduceToNat, reduceCtorEq, ↓reduceIte]
                    repeat' (first | refine And.intro ?_ ?_ | intro hg)
                    all_goals (try simp (disch := omega) only [wrap_fits])
                    all_goals first
                      | (refine hK _ _ ?_; exact Red.auto)
                      | exact trivial
                      | assumption
                      | omega
                      | exact wrap_fits (by omega) (by omega)
                      | (simp (maxSteps := 4000000) only [go_sem, Nat.reduceBEq, Nat.reduceLT, Nat.reduceAdd, Nat.reduceLeDiff, Nat.reduceSub, Nat.reduceEqDiff, Int.reduceToNat, reduceCtorEq, ↓reduceIte]
                         repeat' (first | refine And.intro ?_ ?_ | intro hg)
                         all_goals (try simp (disch := omega) only [wrap_fits])
                         all_goals first | (refine hK _ _ ?_; exact Red.auto) | exact trivial | assumption | omega | exact wrap_fits (by omega) (by omega))
                      | (simp_all; done)
                      | (simp_all; omega))
                 | (simp_all; done)
                 | (simp_all; omega))
            | (simp_all; done)
            | (simp_all; omega)
        · clear hr0 hr1
          refine awp_cond (t := 17) rfl (fun hc6 => ?_) (fun hc6 => ?_)
          · replace h := bite_t h hc6
            refine awp_reg ftCOk [(2, .v (.bool false))] [.row false (.ints .u8 a0), .row true (.trips y_1), .box [.v (.int .i64 y), .sl 1], .row true (.trips y_3), .box [.v (.int .i64 y_2), .sl 3], .row true (.trips y_5)] ?_
            refine awp_ret ?_
            (try simp only [Thn, InBlk, ↓reduceIte, Nat.reduceEqDiff])
            obtain rfl := Option.some.inj h
            refine ⟨by simp, _, [0], (by simp only [go_sem, Nat.reduceBEq, Nat.reduceLT, Nat.reduceAdd, Nat.reduceLeDiff, Nat.reduceSub, Nat.reduceEqDiff, Int.reduceToNat, reduceCtorEq, ↓reduceIte]; exact rfl), ?_, ?_, ?_, ?_⟩
            · first | exact trivial | exact ⟨trivial, trivial⟩ | exact ⟨trivial, trivial, trivial⟩ | exact ⟨trivial, trivial, trivial, trivial⟩ | (simp only [allP, and_true, true_and]; done) | (simp only [allP, and_true, true_and]; omega)
            · simp [selOk, pos]
            · simp
            · first | exact ⟨rfl, rfl⟩ | (simp only [go_sem, Nat.reduceBEq, Nat.reduceLT, Nat.reduceAdd, Nat.reduceLeDiff, Nat.reduceSub, Nat.reduceEqDiff, Int.reduceToNat, reduceCtorEq, ↓reduceIte]; done) | (simp [go_sem, Nat.reduceBEq, Nat.reduceLT, Nat.reduceAdd, Nat.reduceLeDiff, Nat.reduceSub, Nat.reduceEqDiff, Int.reduceToNat, reduceCtorEq, ↓reduceIte]; done) | (simp only [go_sem, Nat.reduceBEq, Nat.reduceLT, Nat.reduceAdd, Nat.reduceLeDiff, Nat.reduceSub, Nat.reduceEqDiff, Int.reduceToNat, reduceCtorEq, ↓reduceIte]; exact ⟨rfl, rfl⟩) | (simp_all [go_sem, Nat.reduceBEq, Nat.reduceLT, Nat.reduceAdd, Nat.reduceLeDiff, Nat.reduceSub, Nat.reduceEqDiff, Int.reduceToNat, reduceCtorEq, ↓reduceIte]; done)
          · replace h := bite_f h hc6
            refine awp_skip ?_
            (try simp only [Thn, InBlk, ↓reduceIte, Nat.reduceEqDiff])
            refine hK5 _ _ ?_
            clear hK5
            refine awp_seq fun K8 hK8 => ?_
            replace h := bind_some h
            obtain ⟨y_7, hr0, h⟩ := h
            try dsimp only at h
            refine awp_to [(3, .pp 2 0), (4, .pp 4 0), (20, .v (.bool (!y_7)))] [.row false (.ints .u8 a0), .row true (.trips y_1), .box [.v (.int .i64 y), .sl 1], .row true (.trips y_3), .box [.v (.int .i64 y_2), .sl 3], .row true (.trips y_5)] ?_ ?_
            · clear h
              intro K hK
              refine awp_region ftCOk ?_
              simp (maxSteps := 4000000) only [go_sem, Nat.reduceBEq, Nat.reduceLT, Nat.reduceAdd, Nat.reduceLeDiff, Nat.reduceSub, Nat.reduceEqDiff, Int.reduceToNat, reduceCtorEq, ↓reduceIte]
              repeat' (first | refine And.intro ?_ ?_ | intro hg)
              all_goals (try simp (disch := omega) only [wrap_fits])
              all_goals first
                | (refine hK _ _ ?_; exact Red.auto)
                | exact trivial
                | assumption
                | omega
                | exact wrap_fits (by omega) (by omega)
                | (refine wpA_callA (k_spec_GraphValid y y_1 (h := hr0)) [1] [] ?_
                   rintro x Hc' ⟨rfl, rfl⟩ hlen
                   refine vcOps_sound ftCOk ?_
                   simp (maxSteps := 4000000) only [go_sem, Nat.reduceBEq, Nat.reduceLT, Nat.reduceAdd, Nat.reduceLeDiff, Nat.reduceSub, Nat.reduceEqDiff, Int.reduceToNat, reduceCtorEq, ↓reduceIte]
                   repeat' (first | refine And.intro ?_ ?_ | intro hg)
                   all_goals (try simp (disch := omega) only [wrap_fits])
                   all_goals first
                     | (refine hK _ _ ?_; exact Red.auto)
                     | exact trivial
                     | assumption
                     | omega
                     | exact wrap_fits (by omega) (by omega)
                     | (simp_all; done)
                     | (simp_all; omega))
                | (simp_all; done)
                | (simp_all; omega)
            · clear hr0
              refine awp_cond (t := 20) rfl (fun hc9 => ?_) (fun hc9 => ?_)
              · replace h := bite_t h hc9
                replace h := bind_some h
                obtain ⟨y_8, hr0, h⟩ := h
                try dsimp only at h
                refine awp_to [(2, .v (.bool (((y_3.length : Int) == 0) && y_8)))] [.row false (.ints .u8 a0), .row true (.trips y_1), .box [.v (.int .i64 y), .sl 1], .row true (.trips y_3), .box [.v (.int .i64 y_2), .sl 3], .row true (.trips y_5)] ?_ ?_
                · clear h
                  intro K hK
                  refine awp_region ftCOk ?_
                  simp (maxSteps := 4000000) only [go_sem, Nat.reduceBEq, Nat.reduceLT, Nat.reduceAdd, Nat.reduceLeDiff, Nat.reduceSub, Nat.reduceEqDiff, Int.reduceToNat, reduceCtorEq, ↓reduceIte]
                  repeat' (first | refine And.intro ?_ ?_ | intro hg)
                  all_goals (try simp (disch := omega) only [wrap_fits])
                  all_goals first
                    | (refine hK _ _ ?_; exact Red.auto)
                    | exact trivial
                    | assumption
                    | omega
                    | exact wrap_fits (by omega) (by omega)
                    | (refine wpA_guard rfl rfl ?_
                       refine wpA_callA (k_laws_alive  (h := (bite_t hr0 (by first | assumption | (simp only [*, Bool.false_or, Bool.true_or, Bool.or_false, Bool.or_true, Bool.false_and, Bool.true_and, Bool.and_false, Bool.and_true, Bool.not_true, Bool.not_false, beq_self_eq_true]; done) | (simp_all; done))))) [] [] ?_
                       rintro x Hc' ⟨rfl, rfl⟩ hlen
                       refine vcOps_sound ftCOk ?_
                       simp (maxSteps := 4000000) only [go_sem, Nat.reduceBEq, Nat.reduceLT, Nat.reduceAdd, Nat.reduceLeDiff, Nat.reduceSub, Nat.reduceEqDiff, Int.reduceToNat, reduceCtorEq, ↓reduceIte]
                       repeat' (first | refine And.intro ?_ ?_ | intro hg)
                       all_goals (try simp (disch := omega) only [wrap_fits])
                       all_goals first
                         | (refine hK _ _ ?_; exact Red.auto)
                         | exact trivial
                         | assumption
                         | omega
                         | exact wrap_fits (by omega) (by omega)
                         | (simp_all; done)
                         | (simp_all; omega))
                    | (simp_all; done)
                    | (simp_all; omega)
                · clear hr0
                  refine awp_ret ?_
                  (try simp only [Thn, InBlk, ↓reduceIte, Nat.reduceEqDiff])
                  obtain rfl := Option.some.inj h
                  refine ⟨by simp, _, [0], (by simp only [go_sem, Nat.reduceBEq, Nat.reduceLT, Nat.reduceAdd, Nat.reduceLeDiff, Nat.reduceSub, Nat.reduceEqDiff, Int.reduceToNat, reduceCtorEq, ↓reduceIte]; exact rfl), ?_, ?_, ?_, ?_⟩
                  · first | exact trivial | exact ⟨trivial, trivial⟩ | exact ⟨trivial, trivial, trivial⟩ | exact ⟨trivial, trivial, trivial, trivial⟩ | (simp only [allP, and_true, true_and]; done) | (simp only [allP, and_true, true_and]; omega)
                  · simp [selOk, pos]
                  · simp
                  · first | exact ⟨rfl, rfl⟩ | (simp only [go_sem, Nat.reduceBEq, Nat.reduceLT, Nat.reduceAdd, Nat.reduceLeDiff, Nat.reduceSub, Nat.reduceEqDiff, Int.reduceToNat, reduceCtorEq, ↓reduceIte]; done) | (simp [go_sem, Nat.reduceBEq, Nat.reduceLT, Nat.reduceAdd, Nat.reduceLeDiff, Nat.reduceSub, Nat.reduceEqDiff, Int.reduceToNat, reduceCtorEq, ↓reduceIte]; done) | (simp only [go_sem, Nat.reduceBEq, Nat.reduceLT, Nat.reduceAdd, Nat.reduceLeDiff, Nat.reduceSub, Nat.reduceEqDiff, Int.reduceToNat, reduceCtorEq, ↓reduceIte]; exact ⟨rfl, rfl⟩) | (simp_all [go_sem, Nat.reduceBEq, Nat.reduceLT, Nat.reduceAdd, Nat.reduceLeDiff, Nat.reduceSub, Nat.reduceEqDiff, Int.reduceToNat, reduceCtorEq, ↓reduceIte]; done)
              · replace h := bite_f h hc9
                refine awp_skip ?_
                (try simp only [Thn, InBlk, ↓reduceIte, Nat.reduceEqDiff])
                refine hK8 _ _ ?_
                clear hK8
                refine awp_seq fun K35 hK35 => ?_
                refine awp_reg ftCOk [(3, .pp 2 0), (4, .pp 4 0), (5, .v (.int .i64 0))] [.row false (.ints .u8 a0), .row true (.trips y_1), .box [.v (.int .i64 y), .sl 1], .row true (.trips y_3), .box [.v (.int .i64 y_2), .sl 3], .row true (.trips y_5)] ?_
                refine awp_block ?_
                replace h := bind_some h
                obtain ⟨x60, hx, h⟩ := h
                refine awp_loopL hx (fun (t5 : Int) => [(3, .pp 1 0), (4, .pp 3 0), (5, .v (.int .i64 t5))]) (fun (t5 : Int) => [.row false (.ints .u8 a0), .rbox [.v (.int .i64 y), .sl 2], .row true (.trips y_1), .rbox [.v (.int .i64 y_2), .sl 4], .row true (.trips y_3)]) (Sum.elim (fun (_ : Unit) => Exit.exit 0) (fun (_ : Unit) => Exit.ret)) (Sum.elim (fun (_ : Unit) => [(3, .pp 1 0), (4, .pp 3 0)]) (fun (_ : Unit) => [(2, .v (.bool false))])) (Sum.elim (fun (_ : Unit) => [.row false (.ints .u8 a0), .rbox [.v (.int .i64 y), .sl 2], .row true (.trips y_1), .rbox [.v (.int .i64 y_2), .sl 4], .row true (.trips y_3)]) (fun (_ : Unit) => [.row false (.ints .u8 a0)])) ?_ ?_ ?_ ?_
                · rintro (⟨⟩ | ⟨⟩) hy <;> cases hy
                · clear h hx
                  refine Red.trans (Red.freezeBox (o := 2) rfl) ?_
                  refine Red.trans (Red.freezeBox (o := 4) rfl) ?_
                  exact Red.selA [0, 2, 1, 4, 3] Red.auto
                · clear h hx
                  rintro t5 r h
                  unfold laws_FnTurnGraph_b0 at h
                  try dsimp only at h
                  try dsimp only
                  refine awp_seq fun K55 hK55 => ?_
                  refine awp_reg ftCOk [(3, .pp 1 0), (4, .pp 3 0), (5, .v (.int .i64 t5)), (32, .v (.bool (decide (t5 < (y_1.length : Int)))))] [.row false (.ints .u8 a0), .rbox [.v (.int .i64 y), .sl 2], .row true (.trips y_1), .rbox [.v (.int .i64 y_2), .sl 4], .row true (.trips y_3)] ?_
                  refine awp_cond (t := 32) rfl (fun hc56 => ?_) (fun hc56 => ?_)
                  · replace h := bite_t h hc56
                    refine awp_skip ?_
                    (try simp only [Thn, InBlk, ↓reduceIte, Nat.reduceEqDiff])
                    refine hK55 _ _ ?_
                    clear hK55
                    refine awp_seq fun K58 hK58 => ?_
                    refine awp_block ?_
                    replace h := chk_some h
                    obtain ⟨hp0, h⟩ := h
                    replace h := bind_some h
                    obtain ⟨y_9, hr1, h⟩ := h
                    try dsimp only at h
                    refine awp_to [(3, .pp 1 0), (4, .pp 3 0), (5, .v (.int .i64 t5)), (55, .v (.bool (y_9 != (y_1.getD t5.toNat (0, 0, 0)).2.2)))] [.row false (.ints .u8 a0), .rbox [.v (.int .i64 y), .sl 2], .row true (.trips y_1), .rbox [.v (.int .i64 y_2), .sl 4], .row true (.trips y_3)] ?_ ?_
                    · clear h
                      intro K hK
                      refine awp_drawL [0, 1, 2, 3, 4] [1, 3, 7, 9, 14, 16, 0, 2, 8, 15] 11 #[true, true, true, true, false, false, false, true, true, true, false, false, false, false, true, true, true, false, false, false, false] mixed ftCOk (by kernel_rfl) (by first | rfl | kernel_rfl) (by rfl) (by simp) fun L hL => ?_
                      have n7 : L 0 #[true, true, true, true, true, true, true, true, true, true, true, true, true, true, true, true, true, true, true, true, true] [(3, .pp 1 0), (4, .pp 3 0), (5, .v (.int .i64 t5)), (32, .v (.bool (decide (t5 < (y_1.length : Int))))), (35, .agg [.v (.int .i64 y_2), .sl 4]), (36, .pp 1 1), (37, .sl 2), (38, .v (.int .i64 t5)), (39, .ep 2 t5.toNat 3 0), (40, .ep 2 t5.toNat 3 1), (41, .v (.int .i64 ((y_1.getD t5.toNat (0, 0, 0)).2.1))), (42, .pp 1 1), (43, .sl 2), (44, .v (.int .i64 t5)), (45, .ep 2 t5.toNat 3 0), (46, .ep 2 t5.toNat 3 0), (47, .v (.int .i64 ((y_1.getD t5.toNat (0, 0, 0)).1))), (48, .v (.int .i64 y_9)), (49, .pp 1 1), (50, .sl 2), (51, .v (.int .i64 t5)), (52, .ep 2 t5.toNat 3 0), (53, .ep 2 t5.toNat 3 2), (54, .v (.int .i64 ((y_1.getD t5.toNat (0, 0, 0)).2.2))), (55, .v (.bool (y_9 != (y_1.getD t5.toNat (0, 0, 0)).2.2)))] [.row false (.ints .u8 a0), .rbox [.v (.int .i64 y), .sl 2], .row true (.trips y_1), .rbox [.v (.int .i64 y_2), .sl 4], .row true (.trips y_3)] := by
                        exact hL.fin (by kernel_rfl) (hK _ _ Red.auto)
                      have n6 : L 2 #[true, true, true, true, true, true, true, true, true, true, true, true, true, true, true, true, true, true, true, false, false] [(3, .pp 1 0), (4, .pp 3 0), (5, .v (.int .i64 t5)), (32, .v (.bool (decide (t5 < (y_1.length : Int))))), (35, .agg [.v (.int .i64 y_2), .sl 4]), (36, .pp 1 1), (37, .sl 2), (38, .v (.int .i64 t5)), (39, .ep 2 t5.toNat 3 0), (40, .ep 2 t5.toNat 3 1), (41, .v (.int .i64 ((y_1.getD t5.toNat (0, 0, 0)).2.1))), (42, .pp 1 1), (43, .sl 2), (44, .v (.int .i64 t5)), (45, .ep 2 t5.toNat 3 0), (46, .ep 2 t5.toNat 3 0), (47, .v (.int .i64 ((y_1.getD t5.toNat (0, 0, 0)).1))), (48, .v (.int .i64 y_9)), (49, .pp 1 1), (50, .sl 2), (51, .v (.int .i64 t5)), (52, .ep 2 t5.toNat 3 0), (53, .ep 2 t5.toNat 3 2)] [.row false (.ints .u8 a0), .rbox [.v (.int .i64 y), .sl 2], .row true (.trips y_1), .rbox [.v (.int .i64 y_2), .sl 4], .row true (.trips y_3)] := by
                        refine hL.step [(19, [20], 0, #[true, true, true, true, true, true, true, true, true, true, true, true, true, true, true, true, true, true, true, true, true])] (by kernel_rfl) ⟨?_, trivial⟩
                        · exact hL.edge n7
                      have n5 : L 4 #[true, true, true, true, true, true, true, true, true, true, true, true, true, true, true, true, true, false, false, false, false] [(3, .pp 1 0), (4, .pp 3 0), (5, .v (.int .i64 t5)), (32, .v (.bool (decide (t5 < (y_1.length : Int))))), (35, .agg [.v (.int .i64 y_2), .sl 4]), (36, .pp 1 1), (37, .sl 2), (38, .v (.int .i64 t5)), (39, .ep 2 t5.toNat 3 0), (40, .ep 2 t5.toNat 3 1), (41, .v (.int .i64 ((y_1.getD t5.toNat (0, 0, 0)).2.1))), (42, .pp 1 1), (43, .sl 2), (44, .v (.int .i64 t5)), (45, .ep 2 t5.toNat 3 0), (46, .ep 2 t5.toNat 3 0), (47, .v (.int .i64 ((y_1.getD t5.toNat (0, 0, 0)).1))), (48, .v (.int .i64 y_9)), (49, .pp 1 1), (50, .sl 2), (51, .v (.int .i64 t5))] [.row false (.ints .u8 a0), .rbox [.v (.int .i64 y), .sl 2], .row true (.trips y_1), .rbox [.v (.int .i64 y_2), .sl 4], .row true (.trips y_3)] := by
                        refine hL.step [(17, [18], 2, #[true, true, true, true, true, true, true, true, true, true, true, true, true, true, true, true, true, true, true, false, false])] (by kernel_rfl) ⟨?_, trivial⟩
                        · exact hL.edge n6
                      have n9 : L 2 #[true, true, true, true, true, true, true, true, true, true, true, true, true, false, true, true, true, true, true, true, false] [(3, .pp 1 0), (4, .pp 3 0), (5, .v (.int .i64 t5)), (32, .v (.bool (decide (t5 < (y_1.length : Int))))), (35, .agg [.v (.int .i64 y_2), .sl 4]), (36, .pp 1 1), (37, .sl 2), (38, .v (.int .i64 t5)), (39, .ep 2 t5.toNat 3 0), (40, .ep 2 t5.toNat 3 1), (41, .v (.int .i64 ((y_1.getD t5.toNat (0, 0, 0)).2.1))), (42, .pp 1 1), (43, .sl 2), (44, .v (.int .i64 t5)), (45, .ep 2 t5.toNat 3 0), (46, .ep 2 t5.toNat 3 0), (47, .v (.int .i64 ((y_1.getD t5.toNat (0, 0, 0)).1))), (49, .pp 1 1), (50, .sl 2), (51, .v (.int .i64 t5)), (52, .ep 2 t5.toNat 3 0), (53, .ep 2 t5.toNat 3 2), (54, .v (.int .i64 ((y_1.getD t5.toNat (0, 0, 0)).2.2)))] [.row false (.ints .u8 a0), .rbox [.v (.int .i64 y), .sl 2], .row true (.trips y_1), .rbox [.v (.int .i64 y_2), .sl 4], .row true (.trips y_3)] := by
                        refine hL.step [(13, [20], 0, #[true, true, true, true, true, true, true, true, true, true, true, true, true, true, true, true, true, true, true, true, true])] (by kernel_rfl) ⟨?_, trivial⟩
                        · simp (maxSteps := 4000000) only [go_sem, Nat.reduceBEq, Nat.reduceLT, Nat.reduceAdd, Nat.reduceLeDiff, Nat.reduceSub, Nat.reduceEqDiff, Int.reduceToNat, reduceCtorEq, ↓reduceIte]
                          repeat' (first | refine And.intro ?_ ?_ | intro hg)
                          all_goals (try simp (disch := omega) only [wrap_fits])
                          all_goals first
                            | (refine hL.red ?_ n7; exact Red.auto)
                            | exact trivial
                            | assumption
                            | omega
                            | exact wrap_fits (by omega) (by omega)
                            | (refine OpK_callA (k_impl_WeightOf y_2 y_3 ((y_1.getD t5.toNat (0, 0, 0)).2.1) ((y_1.getD t5.toNat (0, 0, 0)).1) (h := hr1)) [4] [] ?_
                               rintro x Hc' ⟨rfl, rfl⟩ hlen
                               simp (maxSteps := 4000000) only [go_sem, Nat.reduceBEq, Nat.reduceLT, Nat.reduceAdd, Nat.reduceLeDiff, Nat.reduceSub, Nat.reduceEqDiff, Int.reduceToNat, reduceCtorEq, ↓reduceIte]
                               repeat' (first | refine And.intro ?_ ?_ | intro hg)
                               all_goals (try simp (disch := omega) only [wrap_fits])
                               all_goals first
                                 | (refine hL.red ?_ n7; exact Red.auto)
                                 | exact trivial
                                 | assumption
                                 | omega
                                 | exact wrap_fits (by omega) (by omega)
                                 | (simp_all; done)
                                 | (simp_all; omega))
                            | (simp (maxSteps := 4000000) only [go_sem, Nat.reduceBEq, Nat.reduceLT, Nat.reduceAdd, Nat.reduceLeDiff, Nat.reduceSub, Nat.reduceEqDiff, Int.reduceToNat, reduceCtorEq, ↓reduceIte]
                               repeat' (first | refine And.intro ?_ ?_ | intro hg)
                               all_goals (try simp (disch := omega) only [wrap_fits])
                               all_goals first | (refine hL.red ?_ n7; exact Red.auto) | exact trivial | assumption | omega | exact wrap_fits (by omega) (by omega))
                            | (simp_all; done)
                            | (simp_all; omega)
                      have n8 : L 3 #[true, true, true, true, true, true, true, true, true, true, true, true, true, false, true, true, true, true, true, false, false] [(3, .pp 1 0), (4, .pp 3 0), (5, .v (.int .i64 t5)), (32, .v (.bool (decide (t5 < (y_1.length : Int))))), (35, .agg [.v (.int .i64 y_2), .sl 4]), (36, .pp 1 1), (37, .sl 2), (38, .v (.int .i64 t5)), (39, .ep 2 t5.toNat 3 0), (40, .ep 2 t5.toNat 3 1), (41, .v (.int .i64 ((y_1.getD t5.toNat (0, 0, 0)).2.1))), (42, .pp 1 1), (43, .sl 2), (44, .v (.int .i64 t5)), (45, .ep 2 t5.toNat 3 0), (46, .ep 2 t5.toNat 3 0), (47, .v (.int .i64 ((y_1.getD t5.toNat (0, 0, 0)).1))), (49, .pp 1 1), (50, .sl 2), (51, .v (.int .i64 t5)), (52, .ep 2 t5.toNat 3 0), (53, .ep 2 t5.toNat 3 2)] [.row false (.ints .u8 a0), .rbox [.v (.int .i64 y), .sl 2], .row true (.trips y_1), .rbox [.v (.int .i64 y_2), .sl 4], .row true (.trips y_3)] := by
                        refine hL.step [(13, [], 2, #[true, true, true, true, true, true, true, true, true, true, true, true, true, true, true, true, true, true, true, false, false]), (19, [], 2, #[true, true, true, true, true, true, true, true, true, true, true, true, true, false, true, true, true, true, true, true, false])] (by kernel_rfl) ⟨?_, ?_, trivial⟩
                        · simp (maxSteps := 4000000) only [go_sem, Nat.reduceBEq, Nat.reduceLT, Nat.reduceAdd, Nat.reduceLeDiff, Nat.reduceSub, Nat.reduceEqDiff, Int.reduceToNat, reduceCtorEq, ↓reduceIte]
                          repeat' (first | refine And.intro ?_ ?_ | intro hg)
                          all_goals (try simp (disch := omega) only [wrap_fits])
                          all_goals first
                            | (refine hL.red ?_ n6; exact Red.auto)
                            | exact trivial
                            | assumption
                            | omega
                            | exact wrap_fits (by omega) (by omega)
                            | (refine OpK_callA (k_impl_WeightOf y_2 y_3 ((y_1.getD t5.toNat (0, 0, 0)).2.1) ((y_1.getD t5.toNat (0, 0, 0)).1) (h := hr1)) [4] [] ?_
                               rintro x Hc' ⟨rfl, rfl⟩ hlen
                               simp (maxSteps := 4000000) only [go_sem, Nat.reduceBEq, Nat.reduceLT, Nat.reduceAdd, Nat.reduceLeDiff, Nat.reduceSub, Nat.reduceEqDiff, Int.reduceToNat, reduceCtorEq, ↓reduceIte]
                               repeat' (first | refine And.intro ?_ ?_ | intro hg)
                               all_goals (try simp (disch := omega) only [wrap_fits])
                               all_goals first
                                 | (refine hL.red ?_ n6; exact Red.auto)
                                 | exact trivial
                                 | assumption
                                 | omega
                                 | exact wrap_fits (by omega) (by omega)
                                 | (simp_all; done)
                                 | (simp_all; omega))
                            | (simp (maxSteps := 4000000) only [go_sem, Nat.reduceBEq, Nat.reduceLT, Nat.reduceAdd, Nat.reduceLeDiff, Nat.reduceSub, Nat.reduceEqDiff, Int.reduceToNat, reduceCtorEq, ↓reduceIte]
                               repeat' (first | refine And.intro ?_ ?_ | intro hg)
                               all_goals (try simp (disch := omega) only [wrap_fits])
                               all_goals first | (refine hL.red ?_ n6; exact Red.auto) | exact trivial | assumption | omega | exact wrap_fits (by omega) (by omega))
                            | (simp_all; done)
                            | (simp_all; omega)
                        · exact hL.edge n9
                      have n4 : L 5 #[true, true, true, true, true, true, true, true, true, true, true, true, true, false, true, true, true, false, false, false, false] [(3, .pp 1 0), (4, .pp 3 0), (5, .v (.int .i64 t5)), (32, .v (.bool (decide (t5 < (y_1.length : Int))))), (35, .agg [.v (.int .i64 y_2), .sl 4]), (36, .pp 1 1), (37, .sl 2), (38, .v (.int .i64 t5)), (39, .ep 2 t5.toNat 3 0), (40, .ep 2 t5.toNat 3 1), (41, .v (.int .i64 ((y_1.getD t5.toNat (0, 0, 0)).2.1))), (42, .pp 1 1), (43, .sl 2), (44, .v (.int .i64 t5)), (45, .ep 2 t5.toNat 3 0), (46, .ep 2 t5.toNat 3 0), (47, .v (.int .i64 ((y_1.getD t5.toNat (0, 0, 0)).1))), (49, .pp 1 1), (50, .sl 2), (51, .v (.int .i64 t5))] [.row false (.ints .u8 a0), .rbox [.v (.int .i64 y), .sl 2], .row true (.trips y_1), .rbox [.v (.int .i64 y_2), .sl 4], .row true (.trips y_3)] := by
                        refine hL.step [(13, [], 4, #[true, true, true, true, true, true, true, true, true, true, true, true, true, true, true, true, true, false, false, false, false]), (17, [18], 3, #[true, true, true, true, true, true, true, true, true, true, true, true, true, false, true, true, true, true, true, false, false])] (by kernel_rfl) ⟨?_, ?_, trivial⟩
                        · simp (maxSteps := 4000000) only [go_sem, Nat.reduceBEq, Nat.reduceLT, Nat.reduceAdd, Nat.reduceLeDiff, Nat.reduceSub, Nat.reduceEqDiff, Int.reduceToNat, reduceCtorEq, ↓reduceIte]
                          repeat' (first | refine And.intro ?_ ?_ | intro hg)
                          all_goals (try simp (disch := omega) only [wrap_fits])
                          all_goals first
                            | (refine hL.red ?_ n5; exact Red.auto)
                            | exact trivial
                            | assumption
                            | omega
                            | exact wrap_fits (by omega) (by omega)
                            | (refine OpK_callA (k_impl_WeightOf y_2 y_3 ((y_1.getD t5.toNat (0, 0, 0)).2.1) ((y_1.getD t5.toNat (0, 0, 0)).1) (h := hr1)) [4] [] ?_
                               rintro x Hc' ⟨rfl, rfl⟩ hlen
                               simp (maxSteps := 4000000) only [go_sem, Nat.reduceBEq, Nat.reduceLT, Nat.reduceAdd, Nat.reduceLeDiff, Nat.reduceSub, Nat.reduceEqDiff, Int.reduceToNat, reduceCtorEq, ↓reduceIte]
                               repeat' (first | refine And.intro ?_ ?_ | intro hg)
                               all_goals (try simp (disch := omega) only [wrap_fits])
                               all_goals first
                                 | (refine hL.red ?_ n5; exact Red.auto)
                                 | exact trivial
                                 | assumption
                                 | omega
                                 | exact wrap_fits (by omega) (by omega)
                                 | (simp_all; done)
                                 | (simp_all; omega))
                            | (simp (maxSteps := 4000000) only [go_sem, Nat.reduceBEq, Nat.reduceLT, Nat.reduceAdd, Nat.reduceLeDiff, Nat.reduceSub, Nat.reduceEqDiff, Int.reduceToNat, reduceCtorEq, ↓reduceIte]
                               repeat' (first | refine And.intro ?_ ?_ | intro hg)
                               all_goals (try simp (disch := omega) only [wrap_fits])
                               all_goals first | (refine hL.red ?_ n5; exact Red.auto) | exact trivial | assumption | omega | exact wrap_fits (by omega) (by omega))
                            | (simp_all; done)
                            | (simp_all; omega)
                        · exact hL.edge n8
                      have n11 : L 3 #[true, true, true, true, true, true, true, true, true, true, true, true, false, false, true, true, true, true, true, true, false] [(3, .pp 1 0), (4, .pp 3 0), (5, .v (.int .i64 t5)), (32, .v (.bool (decide (t5 < (y_1.length : Int))))), (35, .agg [.v (.int .i64 y_2), .sl 4]), (36, .pp 1 1), (37, .sl 2), (38, .v (.int .i64 t5)), (39, .ep 2 t5.toNat 3 0), (40, .ep 2 t5.toNat 3 1), (41, .v (.int .i64 ((y_1.getD t5.toNat (0, 0, 0)).2.1))), (42, .pp 1 1), (43, .sl 2), (44, .v (.int .i64 t5)), (45, .ep 2 t5.toNat 3 0), (46, .ep 2 t5.toNat 3 0), (49, .pp 1 1), (50, .sl 2), (51, .v (.int .i64 t5)), (52, .ep 2 t5.toNat 3 0), (53, .ep 2 t5.toNat 3 2), (54, .v (.int .i64 ((y_1.getD t5.toNat (0, 0, 0)).2.2)))] [.row false (.ints .u8 a0), .rbox [.v (.int .i64 y), .sl 2], .row true (.trips y_1), .rbox [.v (.int .i64 y_2), .sl 4], .row true (.trips y_3)] := by
                        refine hL.step [(12, [], 2, #[true, true, true, true, true, true, true, true, true, true, true, true, true, false, true, true, true, true, true, true, false])] (by kernel_rfl) ⟨?_, trivial⟩
                        · exact hL.edge n9
                      have n10 : L 4 #[true, true, true, true, true, true, true, true, true, true, true, true, false, false, true, true, true, true, true, false, false] [(3, .pp 1 0), (4, .pp 3 0), (5, .v (.int .i64 t5)), (32, .v (.bool (decide (t5 < (y_1.length : Int))))), (35, .agg [.v (.int .i64 y_2), .sl 4]), (36, .pp 1 1), (37, .sl 2), (38, .v (.int .i64 t5)), (39, .ep 2 t5.toNat 3 0), (40, .ep 2 t5.toNat 3 1), (41, .v (.int .i64 ((y_1.getD t5.toNat (0, 0, 0)).2.1))), (42, .pp 1 1), (43, .sl 2), (44, .v (.int .i64 t5)), (45, .ep 2 t5.toNat 3 0), (46, .ep 2 t5.toNat 3 0), (49, .pp 1 1), (50, .sl 2), (51, .v (.int .i64 t5)), (52, .ep 2 t5.toNat 3 0), (53, .ep 2 t5.toNat 3 2)] [.row false (.ints .u8 a0), .rbox [.v (.int .i64 y), .sl 2], .row true (.trips y_1), .rbox [.v (.int .i64 y_2), .sl 4], .row true (.trips y_3)] := by
                        refine hL.step [(12, [], 3, #[true, true, true, true, true, true, true, true, true, true, true, true, true, false, true, true, true, true, true, false, false]), (19, [], 3, #[true, true, true, true, true, true, true, true, true, true, true, true, false, false, true, true, true, true, true, true, false])] (by kernel_rfl) ⟨?_, ?_, trivial⟩
                        · exact hL.edge n8
                        · exact hL.edge n11
                      have n3 : L 6 #[true, true, true, true, true, true, true, true, true, true, true, true, false, false, true, true, true, false, false, false, false] [(3, .pp 1 0), (4, .pp 3 0), (5, .v (.int .i64 t5)), (32, .v (.bool (decide (t5 < (y_1.length : Int))))), (35, .agg [.v (.int .i64 y_2), .sl 4]), (36, .pp 1 1), (37, .sl 2), (38, .v (.int .i64 t5)), (39, .ep 2 t5.toNat 3 0), (40, .ep 2 t5.toNat 3 1), (41, .v (.int .i64 ((y_1.getD t5.toNat (0, 0, 0)).2.1))), (42, .pp 1 1), (43, .sl 2), (44, .v (.int .i64 t5)), (45, .ep 2 t5.toNat 3 0), (46, .ep 2 t5.toNat 3 0), (49, .pp 1 1), (50, .sl 2), (51, .v (.int .i64 t5))] [.row false (.ints .u8 a0), .rbox [.v (.int .i64 y), .sl 2], .row true (.trips y_1), .rbox [.v (.int .i64 y_2), .sl 4], .row true (.trips y_3)] := by
                        refine hL.step [(12, [], 5, #[true, true, true, true, true, true, true, true, true, true, true, true, true, false, true, true, true, false, false, false, false]), (17, [18], 4, #[true, true, true, true, true, true, true, true, true, true, true, true, false, false, true, true, true, true, true, false, false])] (by kernel_rfl) ⟨?_, ?_, trivial⟩
                        · exact hL.edge n4
                        · exact hL.edge n10
                      have n13 : L 5 #[true, true, true, true, true, true, true, true, true, true, false, false, false, false, true, true, true, true, true, true, false] [(3, .pp 1 0), (4, .pp 3 0), (5, .v (.int .i64 t5)), (32, .v (.bool (decide (t5 < (y_1.length : Int))))), (35, .agg [.v (.int .i64 y_2), .sl 4]), (36, .pp 1 1), (37, .sl 2), (38, .v (.int .i64 t5)), (39, .ep 2 t5.toNat 3 0), (40, .ep 2 t5.toNat 3 1), (41, .v (.int .i64 ((y_1.getD t5.toNat (0, 0, 0)).2.1))), (42, .pp 1 1), (43, .sl 2), (44, .v (.int .i64 t5)), (49, .pp 1 1), (50, .sl 2), (51, .v (.int .i64 t5)), (52, .ep 2 t5.toNat 3 0), (53, .ep 2 t5.toNat 3 2), (54, .v (.int .i64 ((y_1.getD t5.toNat (0, 0, 0)).2.2)))] [.row false (.ints .u8 a0), .rbox [.v (.int .i64 y), .sl 2], .row true (.trips y_1), .rbox [.v (.int .i64 y_2), .sl 4], .row true (.trips y_3)] := by
                        refine hL.step [(10, [11], 3, #[true, true, true, true, true, true, true, true, true, true, true, true, false, false, true, true, true, true, true, true, false])] (by kernel_rfl) ⟨?_, trivial⟩
                        · exact hL.edge n11
                      have n12 : L 6 #[true, true, true, true, true, true, true, true, true, true, false, false, false, false, true, true, true, true, true, false, false] [(3, .pp 1 0), (4, .pp 3 0), (5, .v (.int .i64 t5)), (32, .v (.bool (decide (t5 < (y_1.length : Int))))), (35, .agg [.v (.int .i64 y_2), .sl 4]), (36, .pp 1 1), (37, .sl 2), (38, .v (.int .i64 t5)), (39, .ep 2 t5.toNat 3 0), (40, .ep 2 t5.toNat 3 1), (41, .v (.int .i64 ((y_1.getD t5.toNat (0, 0, 0)).2.1))), (42, .pp 1 1), (43, .sl 2), (44, .v (.int .i64 t5)), (49, .pp 1 1), (50, .sl 2), (51, .v (.int .i64 t5)), (52, .ep 2 t5.toNat 3 0), (53, .ep 2 t5.toNat 3 2)] [.row false (.ints .u8 a0), .rbox [.v (.int .i64 y), .sl 2], .row true (.trips y_1), .rbox [.v (.int .i64 y_2), .sl 4], .row true (.trips y_3)] := by
                        refine hL.step [(10, [11], 4, #[true, true, true, true, true, true, true, true, true, true, true, true, false, false, true, true, true, true, true, false, false]), (19, [], 5, #[true, true, true, true, true, true, true, true, true, true, false, false, false, false, true, true, true, true, true, true, false])] (by kernel_rfl) ⟨?_, ?_, trivial⟩
                        · exact hL.edge n10
                        · exact hL.edge n13
                      have n2 : L 8 #[true, true, true, true, true, true, true, true, true, true, false, false, false, false, true, true, true, false, false, false, false] [(3, .pp 1 0), (4, .pp 3 0), (5, .v (.int .i64 t5)), (32, .v (.bool (decide (t5 < (y_1.length : Int))))), (35, .agg [.v (.int .i64 y_2), .sl 4]), (36, .pp 1 1), (37, .sl 2), (38, .v (.int .i64 t5)), (39, .ep 2 t5.toNat 3 0), (40, .ep 2 t5.toNat 3 1), (41, .v (.int .i64 ((y_1.getD t5.toNat (0, 0, 0)).2.1))), (42, .pp 1 1), (43, .sl 2), (44, .v (.int .i64 t5)), (49, .pp 1 1), (50, .sl 2), (51, .v (.int .i64 t5))] [.row false (.ints .u8 a0), .rbox [.v (.int .i64 y), .sl 2], .row true (.trips y_1), .rbox [.v (.int .i64 y_2), .sl 4], .row true (.trips y_3)] := by
                        refine hL.step [(10, [11], 6, #[true, true, true, true, true, true, true, true, true, true, true, true, false, false, true, true, true, false, false, false, false]), (17, [18], 6, #[true, true, true, true, true, true, true, true, true, true, false, false, false, false, true, true, true, true, true, false, false])] (by kernel_rfl) ⟨?_, ?_, trivial⟩
                        · exact hL.edge n3
                        · exact hL.edge n12
                      have n17 : L 3 #[true, true, true, true, true, true, false, true, true, true, true, true, true, false, true, true, true, true, true, true, false] [(3, .pp 1 0), (4, .pp 3 0), (5, .v (.int .i64 t5)), (32, .v (.bool (decide (t5 < (y_1.length : Int))))), (35, .agg [.v (.int .i64 y_2), .sl 4]), (36, .pp 1 1), (37, .sl 2), (38, .v (.int .i64 t5)), (39, .ep 2 t5.toNat 3 0), (40, .ep 2 t5.toNat 3 1), (42, .pp 1 1), (43, .sl 2), (44, .v (.int .i64 t5)), (45, .ep 2 t5.toNat 3 0), (46, .ep 2 t5.toNat 3 0), (47, .v (.int .i64 ((y_1.getD t5.toNat (0, 0, 0)).1))), (49, .pp 1 1), (50, .sl 2), (51, .v (.int .i64 t5)), (52, .ep 2 t5.toNat 3 0), (53, .ep 2 t5.toNat 3 2), (54, .v (.int .i64 ((y_1.getD t5.toNat (0, 0, 0)).2.2)))] [.row false (.ints .u8 a0), .rbox [.v (.int .i64 y), .sl 2], .row true (.trips y_1), .rbox [.v (.int .i64 y_2), .sl 4], .row true (.trips y_3)] := by
                        refine hL.step [(6, [], 2, #[true, true, true, true, true, true, true, true, true, true, true, true, true, false, true, true, true, true, true, true, false])] (by kernel_rfl) ⟨?_, trivial⟩
                        · exact hL.edge n9
                      have n16 : L 4 #[true, true, true, true, true, true, false, true, true, true, true, true, true, false, true, true, true, true, true, false, false] [(3, .pp 1 0), (4, .pp 3 0), (5, .v (.int .i64 t5)), (32, .v (.bool (decide (t5 < (y_1.length : Int))))), (35, .agg [.v (.int .i64 y_2), .sl 4]), (36, .pp 1 1), (37, .sl 2), (38, .v (.int .i64 t5)), (39, .ep 2 t5.toNat 3 0), (40, .ep 2 t5.toNat 3 1), (42, .pp 1 1), (43, .sl 2), (44, .v (.int .i64 t5)), (45, .ep 2 t5.toNat 3 0), (46, .ep 2 t5.toNat 3 0), (47, .v (.int .i64 ((y_1.getD t5.toNat (0, 0, 0)).1))), (49, .pp 1 1), (50, .sl 2), (51, .v (.int .i64 t5)), (52, .ep 2 t5.toNat 3 0), (53, .ep 2 t5.toNat 3 2)] [.row false (.ints .u8 a0), .rbox [.v (.int .i64 y), .sl 2], .row true (.trips y_1), .rbox [.v (.int .i64 y_2), .sl 4], .row true (.trips y_3)] := by
                        refine hL.step [(6, [], 3, #[true, true, true, true, true, true, true, true, true, true, true, true, true, false, true, true, true, true, true, false, false]), (19, [], 3, #[true, true, true, true, true, true, false, true, true, true, true, true, true, false, true, true, true, true, true, true, false])] (by kernel_rfl) ⟨?_, ?_, trivial⟩
                        · exact hL.edge n8
                        · exact hL.edge n17
                      have n15 : L 6 #[true, true, true, true, true, true, false, true, true, true, true, true, true, false, true, true, true, false, false, false, false] [(3, .pp 1 0), (4, .pp 3 0), (5, .v (.int .i64 t5)), (32, .v (.bool (decide (t5 < (y_1.length : Int))))), (35, .agg [.v (.int .i64 y_2), .sl 4]), (36, .pp 1 1), (37, .sl 2), (38, .v (.int .i64 t5)), (39, .ep 2 t5.toNat 3 0), (40, .ep 2 t5.toNat 3 1), (42, .pp 1 1), (43, .sl 2), (44, .v (.int .i64 t5)), (45, .ep 2 t5.toNat 3 0), (46, .ep 2 t5.toNat 3 0), (47, .v (.int .i64 ((y_1.getD t5.toNat (0, 0, 0)).1))), (49, .pp 1 1), (50, .sl 2), (51, .v (.int .i64 t5))] [.row false (.ints .u8 a0), .rbox [.v (.int .i64 y), .sl 2], .row true (.trips y_1), .rbox [.v (.int .i64 y_2), .sl 4], .row true (.trips y_3)] := by
                        refine hL.step [(6, [], 5, #[true, true, true, true, true, true, true, true, true, true, true, true, true, false, true, true, true, false, false, false, false]), (17, [18], 4, #[true, true, true, true, true, true, false, true, true, true, true, true, true, false, true, true, true, true, true, false, false])] (by kernel_rfl) ⟨?_, ?_, trivial⟩
                        · exact hL.edge n4
                        · exact hL.edge n16
                      have n19 : L 4 #[true, true, true, true, true, true, false, true, true, true, true, true, false, false, true, true, true, true, true, true, false] [(3, .pp 1 0), (4, .pp 3 0), (5, .v (.int .i64 t5)), (32, .v (.bool (decide (t5 < (y_1.length : Int))))), (35, .agg [.v (.int .i64 y_2), .sl 4]), (36, .pp 1 1), (37, .sl 2), (38, .v (.int .i64 t5)), (39, .ep 2 t5.toNat 3 0), (40, .ep 2 t5.toNat 3 1), (42, .pp 1 1), (43, .sl 2), (44, .v (.int .i64 t5)), (45, .ep 2 t5.toNat 3 0), (46, .ep 2 t5.toNat 3 0), (49, .pp 1 1), (50, .sl 2), (51, .v (.int .i64 t5)), (52, .ep 2 t5.toNat 3 0), (53, .ep 2 t5.toNat 3 2), (54, .v (.int .i64 ((y_1.getD t5.toNat (0, 0, 0)).2.2)))] [.row false (.ints .u8 a0), .rbox [.v (.int .i64 y), .sl 2], .row true (.trips y_1), .rbox [.v (.int .i64 y_2), .sl 4], .row true (.trips y_3)] := by
                        refine hL.step [(6, [], 3, #[true, true, true, true, true, true, true, true, true, true, true, true, false, false, true, true, true, true, true, true, false]), (12, [], 3, #[true, true, true, true, true, true, false, true, true, true, true, true, true, false, true, true, true, true, true, true, false])] (by kernel_rfl) ⟨?_, ?_, trivial⟩
                        · exact hL.edge n11
                        · exact hL.edge n17
                      have n18 : L 5 #[true, true, true, true, true, true, false, true, true, true, true, true, false, false, true, true, true, true, true, false, false] [(3, .pp 1 0), (4, .pp 3 0), (5, .v (.int .i64 t5)), (32, .v (.bool (decide (t5 < (y_1.length : Int))))), (35, .agg [.v (.int .i64 y_2), .sl 4]), (36, .pp 1 1), (37, .sl 2), (38, .v (.int .i64 t5)), (39, .ep 2 t5.toNat 3 0), (40, .ep 2 t5.toNat 3 1), (42, .pp 1 1), (43, .sl 2), (44, .v (.int .i64 t5)), (45, .ep 2 t5.toNat 3 0), (46, .ep 2 t5.toNat 3 0), (49, .pp 1 1), (50, .sl 2), (51, .v (.int .i64 t5)), (52, .ep 2 t5.toNat 3 0), (53, .ep 2 t5.toNat 3 2)] [.row false (.ints .u8 a0), .rbox [.v (.int .i64 y), .sl 2], .row true (.trips y_1), .rbox [.v (.int .i64 y_2), .sl 4], .row true (.trips y_3)] := by
                        refine hL.step [(6, [], 4, #[true, true, true, true, true, true, true, true, true, true, true, true, false, false, true, true, true, true, true, false, false]), (12, [], 4, #[true, true, true, true, true, true, false, true, true, true, true, true, true, false, true, true, true, true, true, false, false]), (19, [], 4, #[true, true, true, true, true, true, false, true, true, true, true, true, false, false, true, true, true, true, true, true, false])] (by kernel_rfl) ⟨?_, ?_, ?_, trivial⟩
                        · exact hL.edge n10
                        · exact hL.edge n16
                        · exact hL.edge n19
                      have n14 : L 7 #[true, true, true, true, true, true, false, true, true, true, true, true, false, false, true, true, true, false, false, false, false] [(3, .pp 1 0), (4, .pp 3 0), (5, .v (.int .i64 t5)), (32, .v (.bool (decide (t5 < (y_1.length : Int))))), (35, .agg [.v (.int .i64 y_2), .sl 4]), (36, .pp 1 1), (37, .sl 2), (38, .v (.int .i64 t5)), (39, .ep 2 t5.toNat 3 0), (40, .ep 2 t5.toNat 3 1), (42, .pp 1 1), (43, .sl 2), (44, .v (.int .i64 t5)), (45, .ep 2 t5.toNat 3 0), (46, .ep 2 t5.toNat 3 0), (49, .pp 1 1), (50, .sl 2), (51, .v (.int .i64 t5))] [.row false (.ints .u8 a0), .rbox [.v (.int .i64 y), .sl 2], .row true (.trips y_1), .rbox [.v (.int .i64 y_2), .sl 4], .row true (.trips y_3)] := by
                        refine hL.step [(6, [], 6, #[true, true, true, true, true, true, true, true, true, true, true, true, false, false, true, true, true, false, false, false, false]), (12, [], 6, #[true, true, true, true, true, true, false, true, true, true, true, true, true, false, true, true, true, false, false, false, false]), (17, [18], 5, #[true, true, true, true, true, true, false, true, true, true, true, true, false, false, true, true, true, true, true, false, false])] (by kernel_rfl) ⟨?_, ?_, ?_, trivial⟩
                        · exact hL.edge n3
                        · exact hL.edge n15
                        · exact hL.edge n18
                      have n21 : L 6 #[true, true, true, true, true, true, false, true, true, true, false, false, false, false, true, true, true, true, true, true, false] [(3, .pp 1 0), (4, .pp 3 0), (5, .v (.int .i64 t5)), (32, .v (.bool (decide (t5 < (y_1.length : Int))))), (35, .agg [.v (.int .i64 y_2), .sl 4]), (36, .pp 1 1), (37, .sl 2), (38, .v (.int .i64 t5)), (39, .ep 2 t5.toNat 3 0), (40, .ep 2 t5.toNat 3 1), (42, .pp 1 1), (43, .sl 2), (44, .v (.int .i64 t5)), (49, .pp 1 1), (50, .sl 2), (51, .v (.int .i64 t5)), (52, .ep 2 t5.toNat 3 0), (53, .ep 2 t5.toNat 3 2), (54, .v (.int .i64 ((y_1.getD t5.toNat (0, 0, 0)).2.2)))] [.row false (.ints .u8 a0), .rbox [.v (.int .i64 y), .sl 2], .row true (.trips y_1), .rbox [.v (.int .i64 y_2), .sl 4], .row true (.trips y_3)] := by
                        refine hL.step [(6, [], 5, #[true, true, true, true, true, true, true, true, true, true, false, false, false, false, true, true, true, true, true, true, false]), (10, [11], 4, #[true, true, true, true, true, true, false, true, true, true, true, true, false, false, true, true, true, true, true, true, false])] (by kernel_rfl) ⟨?_, ?_, trivial⟩
                        · exact hL.edge n13
                        · exact hL.edge n19
                      have n20 : L 7 #[true, true, true, true, true, true, false, true, true, true, false, false, false, false, true, true, true, true, true, false, false] [(3, .pp 1 0), (4, .pp 3 0), (5, .v (.int .i64 t5)), (32, .v (.bool (decide (t5 < (y_1.length : Int))))), (35, .agg [.v (.int .i64 y_2), .sl 4]), (36, .pp 1 1), (37, .sl 2), (38, .v (.int .i64 t5)), (39, .ep 2 t5.toNat 3 0), (40, .ep 2 t5.toNat 3 1), (42, .pp 1 1), (43, .sl 2), (44, .v (.int .i64 t5)), (49, .pp 1 1), (50, .sl 2), (51, .v (.int .i64 t5)), (52, .ep 2 t5.toNat 3 0), (53, .ep 2 t5.toNat 3 2)] [.row false (.ints .u8 a0), .rbox [.v (.int .i64 y), .sl 2], .row true (.trips y_1), .rbox [.v (.int .i64 y_2), .sl 4], .row true (.trips y_3)] := by
                        refine hL.step [(6, [], 6, #[true, true, true, true, true, true, true, true, true, true, false, false, false, false, true, true, true, true, true, false, false]), (10, [11], 5, #[true, true, true, true, true, true, false, true, true, true, true, true, false, false, true, true, true, true, true, false, false]), (19, [], 6, #[true, true, true, true, true, true, false, true, true, true, false, false, false, false, true, true, true, true, true, true, false])] (by kernel_rfl) ⟨?_, ?_, ?_, trivial⟩
                        · exact hL.edge n12
                        · exact hL.edge n18
                        · exact hL.edge n21
                      have n1 : L 9 #[true, true, true, true, true, true, false, true, true, true, false, false, false, false, true, true, true, false, false, false, false] [(3, .pp 1 0), (4, .pp 3 0), (5, .v (.int .i64 t5)), (32, .v (.bool (decide (t5 < (y_1.length : Int))))), (35, .agg [.v (.int .i64 y_2), .sl 4]), (36, .pp 1 1), (37, .sl 2), (38, .v (.int .i64 t5)), (39, .ep 2 t5.toNat 3 0), (40, .ep 2 t5.toNat 3 1), (42, .pp 1 1), (43, .sl 2), (44, .v (.int .i64 t5)), (49, .pp 1 1), (50, .sl 2), (51, .v (.int .i64 t5))] [.row false (.ints .u8 a0), .rbox [.v (.int .i64 y), .sl 2], .row true (.trips y_1), .rbox [.v (.int .i64 y_2), .sl 4], .row true (.trips y_3)] := by
                        refine hL.step [(6, [], 8, #[true, true, true, true, true, true, true, true, true, true, false, false, false, false, true, true, true, false, false, false, false]), (10, [11], 7, #[true, true, true, true, true, true, false, true, true, true, true, true, false, false, true, true, true, false, false, false, false]), (17, [18], 7, #[true, true, true, true, true, true, false, true, true, true, false, false, false, false, true, true, true, true, true, false, false])] (by kernel_rfl) ⟨?_, ?_, ?_, trivial⟩
                        · exact hL.edge n2
                        · exact hL.edge n14
                        · exact hL.edge n20
                      have n25 : L 5 #[true, true, true, true, false, false, false, true, true, true, true, true, true, false, true, true, true, true, true, true, false] [(3, .pp 1 0), (4, .pp 3 0), (5, .v (.int .i64 t5)), (32, .v (.bool (decide (t5 < (y_1.length : Int))))), (35, .agg [.v (.int .i64 y_2), .sl 4]), (36, .pp 1 1), (37, .sl 2), (38, .v (.int .i64 t5)), (42, .pp 1 1), (43, .sl 2), (44, .v (.int .i64 t5)), (45, .ep 2 t5.toNat 3 0), (46, .ep 2 t5.toNat 3 0), (47, .v (.int .i64 ((y_1.getD t5.toNat (0, 0, 0)).1))), (49, .pp 1 1), (50, .sl 2), (51, .v (.int .i64 t5)), (52, .ep 2 t5.toNat 3 0), (53, .ep 2 t5.toNat 3 2), (54, .v (.int .i64 ((y_1.getD t5.toNat (0, 0, 0)).2.2)))] [.row false (.ints .u8 a0), .rbox [.v (.int .i64 y), .sl 2], .row true (.trips y_1), .rbox [.v (.int .i64 y_2), .sl 4], .row true (.trips y_3)] := by
                        refine hL.step [(4, [5], 3, #[true, true, true, true, true, true, false, true, true, true, true, true, true, false, true, true, true, true, true, true, false])] (by kernel_rfl) ⟨?_, trivial⟩
                        · exact hL.edge n17
                      have n24 : L 6 #[true, true, true, true, false, false, false, true, true, true, true, true, true, false, true, true, true, true, true, false, false] [(3, .pp 1 0), (4, .pp 3 0), (5, .v (.int .i64 t5)), (32, .v (.bool (decide (t5 < (y_1.length : Int))))), (35, .agg [.v (.int .i64 y_2), .sl 4]), (36, .pp 1 1), (37, .sl 2), (38, .v (.int .i64 t5)), (42, .pp 1 1), (43, .sl 2), (44, .v (.int .i64 t5)), (45, .ep 2 t5.toNat 3 0), (46, .ep 2 t5.toNat 3 0), (47, .v (.int .i64 ((y_1.getD t5.toNat (0, 0, 0)).1))), (49, .pp 1 1), (50, .sl 2), (51, .v (.int .i64 t5)), (52, .ep 2 t5.toNat 3 0), (53, .ep 2 t5.toNat 3 2)] [.row false (.ints .u8 a0), .rbox [.v (.int .i64 y), .sl 2], .row true (.trips y_1), .rbox [.v (.int .i64 y_2), .sl 4], .row true (.trips y_3)] := by
                        refine hL.step [(4, [5], 4, #[true, true, true, true, true, true, false, true, true, true, true, true, true, false, true, true, true, true, true, false, false]), (19, [], 5, #[true, true, true, true, false, false, false, true, true, true, true, true, true, false, true, true, true, true, true, true, false])] (by kernel_rfl) ⟨?_, ?_, trivial⟩
                        · exact hL.edge n16
                        · exact hL.edge n25
                      have n23 : L 8 #[true, true, true, true, false, false, false, true, true, true, true, true, true, false, true, true, true, false, false, false, false] [(3, .pp 1 0), (4, .pp 3 0), (5, .v (.int .i64 t5)), (32, .v (.bool (decide (t5 < (y_1.length : Int))))), (35, .agg [.v (.int .i64 y_2), .sl 4]), (36, .pp 1 1), (37, .sl 2), (38, .v (.int .i64 t5)), (42, .pp 1 1), (43, .sl 2), (44, .v (.int .i64 t5)), (45, .ep 2 t5.toNat 3 0), (46, .ep 2 t5.toNat 3 0), (47, .v (.int .i64 ((y_1.getD t5.toNat (0, 0, 0)).1))), (49, .pp 1 1), (50, .sl 2), (51, .v (.int .i64 t5))] [.row false (.ints .u8 a0), .rbox [.v (.int .i64 y), .sl 2], .row true (.trips y_1), .rbox [.v (.int .i64 y_2), .sl 4], .row true (.trips y_3)] := by
                        refine hL.step [(4, [5], 6, #[true, true, true, true, true, true, false, true, true, true, true, true, true, false, true, true, true, false, false, false, false]), (17, [18], 6, #[true, true, true, true, false, false, false, true, true, true, true, true, true, false, true, true, true, true, true, false, false])] (by kernel_rfl) ⟨?_, ?_, trivial⟩
                        · exact hL.edge n15
                        · exact hL.edge n24
                      have n27 : L 6 #[true, true, true, true, false, false, false, true, true, true, true, true, false, false, true, true, true, true, true, true, false] [(3, .pp 1 0), (4, .pp 3 0), (5, .v (.int .i64 t5)), (32, .v (.bool (decide (t5 < (y_1.length : Int))))), (35, .agg [.v (.int .i64 y_2), .sl 4]), (36, .pp 1 1), (37, .sl 2), (38, .v (.int .i64 t5)), (42, .pp 1 1), (43, .sl 2), (44, .v (.int .i64 t5)), (45, .ep 2 t5.toNat 3 0), (46, .ep 2 t5.toNat 3 0), (49, .pp 1 1), (50, .sl 2), (51, .v (.int .i64 t5)), (52, .ep 2 t5.toNat 3 0), (53, .ep 2 t5.toNat 3 2), (54, .v (.int .i64 ((y_1.getD t5.toNat (0, 0, 0)).2.2)))] [.row false (.ints .u8 a0), .rbox [.v (.int .i64 y), .sl 2], .row true (.trips y_1), .rbox [.v (.int .i64 y_2), .sl 4], .row true (.trips y_3)] := by
                        refine hL.step [(4, [5], 4, #[true, true, true, true, true, true, false, true, true, true, true, true, false, false, true, true, true, true, true, true, false]), (12, [], 5, #[true, true, true, true, false, false, false, true, true, true, true, true, true, false, true, true, true, true, true, true, false])] (by kernel_rfl) ⟨?_, ?_, trivial⟩
                        · exact hL.edge n19
                        · exact hL.edge n25
                      have n26 : L 7 #[true, true, true, true, false, false, false, true, true, true, true, true, false, false, true, true, true, true, true, false, false] [(3, .pp 1 0), (4, .pp 3 0), (5, .v (.int .i64 t5)), (32, .v (.bool (decide (t5 < (y_1.length : Int))))), (35, .agg [.v (.int .i64 y_2), .sl 4]), (36, .pp 1 1), (37, .sl 2), (38, .v (.int .i64 t5)), (42, .pp 1 1), (43, .sl 2), (44, .v (.int .i64 t5)), (45, .ep 2 t5.toNat 3 0), (46, .ep 2 t5.toNat 3 0), (49, .pp 1 1), (50, .sl 2), (51, .v (.int .i64 t5)), (52, .ep 2 t5.toNat 3 0), (53, .ep 2 t5.toNat 3 2)] [.row false (.ints .u8 a0), .rbox [.v (.int .i64 y), .sl 2], .row true (.trips y_1), .rbox [.v (.int .i64 y_2), .sl 4], .row true (.trips y_3)] := by
                        refine hL.step [(4, [5], 5, #[true, true, true, true, true, true, false, true, true, true, true, true, false, false, true, true, true, true, true, false, false]), (12, [], 6, #[true, true, true, true, false, false, false, true, true, true, true, true, true, false, true, true, true, true, true, false, false]), (19, [], 6, #[true, true, true, true, false, false, false, true, true, true, true, true, false, false, true, true, true, true, true, true, false])] (by kernel_rfl) ⟨?_, ?_, ?_, trivial⟩
                        · exact hL.edge n18
                        · exact hL.edge n24
                        · exact hL.edge n27
                      have n22 : L 9 #[true, true, true, true, false, false, false, true, true, true, true, true, false, false, true, true, true, false, false, false, false] [(3, .pp 1 0), (4, .pp 3 0), (5, .v (.int .i64 t5)), (32, .v (.bool (decide (t5 < (y_1.length : Int))))), (35, .agg [.v (.int .i64 y_2), .sl 4]), (36, .pp 1 1), (37, .sl 2), (38, .v (.int .i64 t5)), (42, .pp 1 1), (43, .sl 2), (44, .v (.int .i64 t5)), (45, .ep 2 t5.toNat 3 0), (46, .ep 2 t5.toNat 3 0), (49, .pp 1 1), (50, .sl 2), (51, .v (.int .i64 t5))] [.row false (.ints .u8 a0), .rbox [.v (.int .i64 y), .sl 2], .row true (.trips y_1), .rbox [.v (.int .i64 y_2), .sl 4], .row true (.trips y_3)] := by
                        refine hL.step [(4, [5], 7, #[true, true, true, true, true, true, false, true, true, true, true, true, false, false, true, true, true, false, false, false, false]), (12, [], 8, #[true, true, true, true, false, false, false, true, true, true, true, true, true, false, true, true, true, false, false, false, false]), (17, [18], 7, #[true, true, true, true, false, false, false, true, true, true, true, true, false, false, true, true, true, true, true, false, false])] (by kernel_rfl) ⟨?_, ?_, ?_, trivial⟩
                        · exact hL.edge n14
                        · exact hL.edge n23
                        · exact hL.edge n26
                      have n29 : L 8 #[true, true, true, true, false, false, false, true, true, true, false, false, false, false, true, true, true, true, true, true, false] [(3, .pp 1 0), (4, .pp 3 0), (5, .v (.int .i64 t5)), (32, .v (.bool (decide (t5 < (y_1.length : Int))))), (35, .agg [.v (.int .i64 y_2), .sl 4]), (36, .pp 1 1), (37, .sl 2), (38, .v (.int .i64 t5)), (42, .pp 1 1), (43, .sl 2), (44, .v (.int .i64 t5)), (49, .pp 1 1), (50, .sl 2), (51, .v (.int .i64 t5)), (52, .ep 2 t5.toNat 3 0), (53, .ep 2 t5.toNat 3 2), (54, .v (.int .i64 ((y_1.getD t5.toNat (0, 0, 0)).2.2)))] [.row false (.ints .u8 a0), .rbox [.v (.int .i64 y), .sl 2], .row true (.trips y_1), .rbox [.v (.int .i64 y_2), .sl 4], .row true (.trips y_3)] := by
                        refine hL.step [(4, [5], 6, #[true, true, true, true, true, true, false, true, true, true, false, false, false, false, true, true, true, true, true, true, false]), (10, [11], 6, #[true, true, true, true, false, false, false, true, true, true, true, true, false, false, true, true, true, true, true, true, false])] (by kernel_rfl) ⟨?_, ?_, trivial⟩
                        · exact hL.edge n21
                        · exact hL.edge n27
                      have n28 : L 9 #[true, true, true, true, false, false, false, true, true, true, false, false, false, false, true, true, true, true, true, false, false] [(3, .pp 1 0), (4, .pp 3 0), (5, .v (.int .i64 t5)), (32, .v (.bool (decide (t5 < (y_1.length : Int))))), (35, .agg [.v (.int .i64 y_2), .sl 4]), (36, .pp 1 1), (37, .sl 2), (38, .v (.int .i64 t5)), (42, .pp 1 1), (43, .sl 2), (44, .v (.int .i64 t5)), (49, .pp 1 1), (50, .sl 2), (51, .v (.int .i64 t5)), (52, .ep 2 t5.toNat 3 0), (53, .ep 2 t5.toNat 3 2)] [.row false (.ints .u8 a0), .rbox [.v (.int .i64 y), .sl 2], .row true (.trips y_1), .rbox [.v (.int .i64 y_2), .sl 4], .row true (.trips y_3)] := by
                        refine hL.step [(4, [5], 7, #[true, true, true, true, true, true, false, true, true, true, false, false, false, false, true, true, true, true, true, false, false]), (10, [11], 7, #[true, true, true, true, false, false, false, true, true, true, true, true, false, false, true, true, true, true, true, false, false]), (19, [], 8, #[true, true, true, true, false, false, false, true, true, true, false, false, false, false, true, true, true, true, true, true, false])] (by kernel_rfl) ⟨?_, ?_, ?_, trivial⟩
                        · exact hL.edge n20
                        · exact hL.edge n26
                        · exact hL.edge n29
                      have n0 : L 11 #[true, true, true, true, false, false, false, true, true, true, false, false, false, false, true, true, true, false, false, false, false] [(3, .pp 1 0), (4, .pp 3 0), (5, .v (.int .i64 t5)), (32, .v (.bool (decide (t5 < (y_1.length : Int))))), (35, .agg [.v (.int .i64 y_2), .sl 4]), (36, .pp 1 1), (37, .sl 2), (38, .v (.int .i64 t5)), (42, .pp 1 1), (43, .sl 2), (44, .v (.int .i64 t5)), (49, .pp 1 1), (50, .sl 2), (51, .v (.int .i64 t5))] [.row false (.ints .u8 a0), .rbox [.v (.int .i64 y), .sl 2], .row true (.trips y_1), .rbox [.v (.int .i64 y_2), .sl 4], .row true (.trips y_3)] := by
                        refine hL.step [(4, [5], 9, #[true, true, true, true, true, true, false, true, true, true, false, false, false, false, true, true, true, false, false, false, false]), (10, [11], 9, #[true, true, true, true, false, false, false, true, true, true, true, true, false, false, true, true, true, false, false, false, false]), (17, [18], 9, #[true, true, true, true, false, false, false, true, true, true, false, false, false, false, true, true, true, true, true, false, false])] (by kernel_rfl) ⟨?_, ?_, ?_, trivial⟩
                        · exact hL.edge n1
                        · exact hL.edge n22
                        · exact hL.edge n28
                      simp (maxSteps := 4000000) only [go_sem, Nat.reduceBEq, Nat.reduceLT, Nat.reduceAdd, Nat.reduceLeDiff, Nat.reduceSub, Nat.reduceEqDiff, Int.reduceToNat, reduceCtorEq, ↓reduceIte]
                      repeat' (first | refine And.intro ?_ ?_ | intro hg)
                      all_goals (try simp (disch := omega) only [wrap_fits])
                      all_goals first
                        | (refine hL.red ?_ n0; exact Red.auto)
                        | exact trivial
                        | assumption
                        | omega
                        | exact wrap_fits (by omega) (by omega)
                        | (simp (maxSteps := 4000000) only [go_sem, Nat.reduceBEq, Nat.reduceLT, Nat.reduceAdd, Nat.reduceLeDiff, Nat.reduceSub, Nat.reduceEqDiff, Int.reduceToNat, reduceCtorEq, ↓reduceIte]
                           repeat' (first | refine And.intro ?_ ?_ | intro hg)
                           all_goals (try simp (disch := omega) only [wrap_fits])
                           all_goals first | (refine hL.red ?_ n0; exact Red.auto) | exact trivial | assumption | omega | exact wrap_fits (by omega) (by omega))
                        | (simp_all; done)
                        | (simp_all; omega)
                    · clear hp0 hr1
                      refine awp_cond (t := 55) rfl (fun hc59 => ?_) (fun hc59 => ?_)
                      · replace h := bite_t h hc59
                        refine awp_reg ftCOk [(2, .v (.bool false))] [.row false (.ints .u8 a0), .rbox [.v (.int .i64 y), .sl 2], .row true (.trips y_1), .rbox [.v (.int .i64 y_2), .sl 4], .row true (.trips y_3)] ?_
                        refine awp_ret ?_
                        (try simp only [Thn, InBlk, ↓reduceIte, Nat.reduceEqDiff])
                        obtain rfl := Option.some.inj h
                        refine LoopQ.out rfl ?_
                        exact Red.selA [0] Red.auto
                      · replace h := bite_f h hc59
                        refine awp_skip ?_
                        (try simp only [Thn, InBlk, ↓reduceIte, Nat.reduceEqDiff])
                        (try simp only [Thn, InBlk, ↓reduceIte, Nat.reduceEqDiff])
                        refine hK58 _ _ ?_
                        clear hK58
                        replace h := chk_some h
                        obtain ⟨hp0, h⟩ := h
                        refine awp_regE ftCOk [(3, .pp 1 0), (4, .pp 3 0), (5, .v (.int .i64 (t5 + 1)))] [.row false (.ints .u8 a0), .rbox [.v (.int .i64 y), .sl 2], .row true (.trips y_1), .rbox [.v (.int .i64 y_2), .sl 4], .row true (.trips y_3)] ?_
                        clear hp0
                        obtain rfl := Option.some.inj h
                        refine LoopQ.next ?_
                        exact Red.auto
                  · replace h := bite_f h hc56
                    refine awp_exit ?_
                    (try simp only [Thn, InBlk, ↓reduceIte, Nat.reduceEqDiff])
                    obtain rfl := Option.some.inj h
                    refine LoopQ.out rfl ?_
                    exact Red.auto
                · clear hx
                  rcases x60 with (⟨⟩ | ⟨⟩)
                  · try dsimp only [Sum.elim_inl, Sum.elim_inr] at h
                    try dsimp only [Sum.elim_inl, Sum.elim_inr]
                    (try simp only [Thn, InBlk, ↓reduceIte, Nat.reduceEqDiff])
                    (try simp only [Thn, InBlk, ↓reduceIte, Nat.reduceEqDiff])
                    (try simp only [Thn, InBlk, ↓reduceIte, Nat.reduceEqDiff])
                    refine hK35 _ _ ?_
                    clear hK35
                    replace h := bind_some h
                    obtain ⟨y_10, hr0, h⟩ := h
                    try dsimp only at h
                    replace h := bind_some h
                    obtain ⟨⟨y_11, y_12⟩, hr1, h⟩ := h
                    try dsimp only at h
                    replace h := bind_some h
                    obtain ⟨y_13, hr2, h⟩ := h
                    try dsimp only at h
                    refine awp_to [(2, .v (.bool (y_10 && y_13)))] [.row false (.ints .u8 a0), .rbox [.v (.int .i64 y), .sl 2], .row true (.trips y_1), .rbox [.v (.int .i64 y_2), .sl 4], .row true (.trips y_3)] ?_ ?_
                    · clear h
                      intro K hK
                      refine awp_drawT mixed ftCOk (.one 0 (.one 1 (.one 2 (.free 3 (.free 5 (.one 4 (.one 6 (.one 7 (.one 8 .fin))))))))) (by kernel_rfl) (by simp) ?_
                      simp (maxSteps := 4000000) only [go_sem, Nat.reduceBEq, Nat.reduceLT, Nat.reduceAdd, Nat.reduceLeDiff, Nat.reduceSub, Nat.reduceEqDiff, Int.reduceToNat, reduceCtorEq, ↓reduceIte]
                      repeat' (first | refine And.intro ?_ ?_ | intro hg)
                      all_goals (try simp (disch := omega) only [wrap_fits])
                      all_goals first
                        | (refine hK _ _ ?_; exact Red.selA [0, 1, 2, 3, 4] Red.auto)
                        | exact trivial
                        | assumption
                        | omega
                        | exact wrap_fits (by omega) (by omega)
                        | (refine OpK_callA (k_impl_GraphValid y_2 y_3 (h := hr0)) [4] [] ?_
                           rintro x Hc' ⟨rfl, rfl⟩ hlen
                           simp (maxSteps := 4000000) only [go_sem, Nat.reduceBEq, Nat.reduceLT, Nat.reduceAdd, Nat.reduceLeDiff, Nat.reduceSub, Nat.reduceEqDiff, Int.reduceToNat, reduceCtorEq, ↓reduceIte]
                           repeat' (first | refine And.intro ?_ ?_ | intro hg)
                           all_goals (try simp (disch := omega) only [wrap_fits])
                           all_goals first
                             | (refine hK _ _ ?_; exact Red.selA [0, 1, 2, 3, 4] Red.auto)
                             | exact trivial
                             | assumption
                             | omega
                             | exact wrap_fits (by omega) (by omega)
                             | (refine OpK_callA (k_impl_TurnGraph y_2 y_3 (h := (bite_t hr1 (by first | assumption | (simp only [*, Bool.false_or, Bool.true_or, Bool.or_false, Bool.or_true, Bool.false_and, Bool.true_and, Bool.and_false, Bool.and_true, Bool.not_true, Bool.not_false, beq_self_eq_true]; done) | (simp_all; done))))) [4] [] ?_
                                rintro x Hc' ⟨rfl, rfl⟩ hlen
                                simp (maxSteps := 4000000) only [go_sem, Nat.reduceBEq, Nat.reduceLT, Nat.reduceAdd, Nat.reduceLeDiff, Nat.reduceSub, Nat.reduceEqDiff, Int.reduceToNat, reduceCtorEq, ↓reduceIte]
                                repeat' (first | refine And.intro ?_ ?_ | intro hg)
                                all_goals (try simp (disch := omega) only [wrap_fits])
                                all_goals first
                                  | (refine hK _ _ ?_; exact Red.selA [0, 1, 2, 3, 4] Red.auto)
                                  | exact trivial
                                  | assumption
                                  | omega
                                  | exact wrap_fits (by omega) (by omega)
                                  | (refine OpK_callA (k_laws_sameGraph y_11 y_12 y y_1 (h := (bite_t hr2 (by first | assumption | (simp only [*, Bool.false_or, Bool.true_or, Bool.or_false, Bool.or_true, Bool.false_and, Bool.true_and, Bool.and_false, Bool.and_true, Bool.not_true, Bool.not_false, beq_self_eq_true]; done) | (simp_all; done))))) [5, 2] [] ?_
                                     rintro x Hc' ⟨rfl, rfl⟩ hlen
                                     simp (maxSteps := 4000000) only [go_sem, Nat.reduceBEq, Nat.reduceLT, Nat.reduceAdd, Nat.reduceLeDiff, Nat.reduceSub, Nat.reduceEqDiff, Int.reduceToNat, reduceCtorEq, ↓reduceIte]
                                     repeat' (first | refine And.intro ?_ ?_ | intro hg)
                                     all_goals (try simp (disch := omega) only [wrap_fits])
                                     all_goals first
                                       | (refine hK _ _ ?_; exact Red.selA [0, 1, 2, 3, 4] Red.auto)
                                       | exact trivial
                                       | assumption
                                       | omega
                                       | exact wrap_fits (by omega) (by omega)
                                       | (simp (maxSteps := 4000000) only [go_sem, Nat.reduceBEq, Nat.reduceLT, Nat.reduceAdd, Nat.reduceLeDiff, Nat.reduceSub, Nat.reduceEqDiff, Int.reduceToNat, reduceCtorEq, ↓reduceIte]
                                          repeat' (first | refine And.intro ?_ ?_ | intro hg)
                                          all_goals (try simp (disch := omega) only [wrap_fits])
                                          all_goals first | (refine hK _ _ ?_; exact Red.selA [0, 1, 2, 3, 4] Red.auto) | exact trivial | assumption | omega | exact wrap_fits (by omega) (by omega))
                                       | (simp_all; done)
                                       | (simp_all; omega))
                                  | (simp_all; done)
                                  | (simp_all; omega))
                             | (refine OpK_callA (k_laws_sameGraph y_11 y_12 y y_1 (h := (bite_t hr2 (by first | assumption | (simp only [*, Bool.false_or, Bool.true_or, Bool.or_false, Bool.or_true, Bool.false_and, Bool.true_and, Bool.and_false, Bool.and_true, Bool.not_true, Bool.not_false, beq_self_eq_true]; done) | (simp_all; done))))) [5, 2] [] ?_
                                rintro x Hc' ⟨rfl, rfl⟩ hlen
                                simp (maxSteps := 4000000) only [go_sem, Nat.reduceBEq, Nat.reduceLT, Nat.reduceAdd, Nat.reduceLeDiff, Nat.reduceSub, Nat.reduceEqDiff, Int.reduceToNat, reduceCtorEq, ↓reduceIte]
                                repeat' (first | refine And.intro ?_ ?_ | intro hg)
                                all_goals (try simp (disch := omega) only [wrap_fits])
                                all_goals first
                                  | (refine hK _ _ ?_; exact Red.selA [0, 1, 2, 3, 4] Red.auto)
                                  | exact trivial
                                  | assumption
                                  | omega
                                  | exact wrap_fits (by omega) (by omega)
                                  | (simp (maxSteps := 4000000) only [go_sem, Nat.reduceBEq, Nat.reduceLT, Nat.reduceAdd, Nat.reduceLeDiff, Nat.reduceSub, Nat.reduceEqDiff, Int.reduceToNat, reduceCtorEq, ↓reduceIte]
                                     repeat' (first | refine And.intro ?_ ?_ | intro hg)
                                     all_goals (try simp (disch := omega) only [wrap_fits])
                                     all_goals first | (refine hK _ _ ?_; exact Red.selA [0, 1, 2, 3, 4] Red.auto) | exact trivial | assumption | omega | exact wrap_fits (by omega) (by omega))
                                  | (simp_all; done)
                                  | (simp_all; omega))
                             | (simp_all; done)
                             | (simp_all; omega))
                        | (simp_all; done)
                        | (simp_all; omega)
                    · clear hr0 hr1 hr2
                      refine awp_ret ?_
                      (try simp only [Thn, InBlk, ↓reduceIte, Nat.reduceEqDiff])
                      obtain rfl := Option.some.inj h
                      refine ⟨by simp, _, [0], (by simp only [go_sem, Nat.reduceBEq, Nat.reduceLT, Nat.reduceAdd, Nat.reduceLeDiff, Nat.reduceSub, Nat.reduceEqDiff, Int.reduceToNat, reduceCtorEq, ↓reduceIte]; exact rfl), ?_, ?_, ?_, ?_⟩
                      · first | exact trivial | exact ⟨trivial, trivial⟩ | exact ⟨trivial, trivial, trivial⟩ | exact ⟨trivial, trivial, trivial, trivial⟩ | (simp only [allP, and_true, true_and]; done) | (simp only [allP, and_true, true_and]; omega)
                      · simp [selOk, pos]
                      · simp
                      · first | exact ⟨rfl, rfl⟩ | (simp only [go_sem, Nat.reduceBEq, Nat.reduceLT, Nat.reduceAdd, Nat.reduceLeDiff, Nat.reduceSub, Nat.reduceEqDiff, Int.reduceToNat, reduceCtorEq, ↓reduceIte]; done) | (simp [go_sem, Nat.reduceBEq, Nat.reduceLT, Nat.reduceAdd, Nat.reduceLeDiff, Nat.reduceSub, Nat.reduceEqDiff, Int.reduceToNat, reduceCtorEq, ↓reduceIte]; done) | (simp only [go_sem, Nat.reduceBEq, Nat.reduceLT, Nat.reduceAdd, Nat.reduceLeDiff, Nat.reduceSub, Nat.reduceEqDiff, Int.reduceToNat, reduceCtorEq, ↓reduceIte]; exact ⟨rfl, rfl⟩) | (simp_all [go_sem, Nat.reduceBEq, Nat.reduceLT, Nat.reduceAdd, Nat.reduceLeDiff, Nat.reduceSub, Nat.reduceEqDiff, Int.reduceToNat, reduceCtorEq, ↓reduceIte]; done)
                  · try dsimp only [Sum.elim_inl, Sum.elim_inr] at h
                    try dsimp only [Sum.elim_inl, Sum.elim_inr]
                    (try simp only [Thn, InBlk, ↓reduceIte, Nat.reduceEqDiff])
                    obtain rfl := Option.some.inj h
                    refine ⟨by simp, _, [0], (by simp only [go_sem, Nat.reduceBEq, Nat.reduceLT, Nat.reduceAdd, Nat.reduceLeDiff, Nat.reduceSub, Nat.reduceEqDiff, Int.reduceToNat, reduceCtorEq, ↓reduceIte]; exact rfl), ?_, ?_, ?_, ?_⟩
                    · first | exact trivial | exact ⟨trivial, trivial⟩ | exact ⟨trivial, trivial, trivial⟩ | exact ⟨trivial, trivial, trivial, trivial⟩ | (simp only [allP, and_true, true_and]; done) | (simp only [allP, and_true, true_and]; omega)
                    · simp [selOk, pos]
                    · simp
                    · first | exact ⟨rfl, rfl⟩ | (simp only [go_sem, Nat.reduceBEq, Nat.reduceLT, Nat.reduceAdd, Nat.reduceLeDiff, Nat.reduceSub, Nat.reduceEqDiff, Int.reduceToNat, reduceCtorEq, ↓reduceIte]; done) | (simp [go_sem, Nat.reduceBEq, Nat.reduceLT, Nat.reduceAdd, Nat.reduceLeDiff, Nat.reduceSub, Nat.reduceEqDiff, Int.reduceToNat, reduceCtorEq, ↓reduceIte]; done) | (simp only [go_sem, Nat.reduceBEq, Nat.reduceLT, Nat.reduceAdd, Nat.reduceLeDiff, Nat.reduceSub, Nat.reduceEqDiff, Int.reduceToNat, reduceCtorEq, ↓reduceIte]; exact ⟨rfl, rfl⟩) | (simp_all [go_sem, Nat.reduceBEq, Nat.reduceLT, Nat.reduceAdd, Nat.reduceLeDiff, Nat.reduceSub, Nat.reduceEqDiff, Int.reduceToNat, reduceCtorEq, ↓reduceIte]; done)
end Go.Proofs.Ytdjckcedpnabpaa
