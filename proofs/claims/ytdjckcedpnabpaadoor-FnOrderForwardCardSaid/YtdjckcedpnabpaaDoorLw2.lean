/- The code computes the functions that were taken out of it. -/
import Derived.Test.YtdjckcedpnabpaaDoorLw1
set_option maxRecDepth 100000
set_option maxHeartbeats 4000000
set_option linter.unusedSimpArgs false
set_option linter.unusedVariables false
namespace Go.Proofs.YtdjckcedpnabpaaDoor
open Go Go.Av
attribute [local irreducible] wpA OpK awp
attribute [local go_sem] frs_nil frs_cons pw8_32 pw16_32 pw24_32 pw27_32 eqAgg eqAggV buildQ placesOf buildCells List.toList_toArray vcQg gfind gfree gput un3_agg unI_int unB_bool unK_int guardU skipV resVs resV vcD_nil vcD_cons vcT_fin vcT_free vcT_one vcT_two opS vcD1 roH roOb ftNone ftAdd oneOrTup AV.detup AV.ren AV.ren2 AV.ren1 pos selH AObj.ren fitAll fit fit1 fit1s matchAll matchOb exIds AObj.excl Env.killp pastH setAll upId AObj.past AObj.back AV.killp AV.killp1 AV.killp2 Nat.sub_self Nat.lt_irrefl Bool.or_self vcOps vcOp vcQs vcQ dstOk quiet eff pcall calleeF plain valsOf ev ofConst argEnv List.lookup Nat.add_eq decide_true decide_false Env.put binV wrapTo unV convV loadQ indexQ callQ builtinQ rd rdI globC AObj.globC partAV isAggD isArrayD addrAdd boxE storeE storeCE makeE makeNE buildNE nestZero Cont.child Cont.setChild buildSliceE buildFold appendE appendNE nestApp appendV promoteH sliceE boundAV subObj asCells Value.oneCell' contZero Cont.sets Cont.app Cont.sub Cont.len Cont.esz Cont.cell Cont.cells Cont.flat AV.det AV.det1 guardV AObj.unview AObj.kill Env.kill AV.kill AV.kill1 AV.kill2 fits64 Option.getD_some Option.getD_none Option.map_some Option.map_none Option.bind_some List.map_cons List.map_nil List.getElem?_cons_zero List.getElem?_cons_succ List.getElem?_nil true_and and_true List.getElem?_toArray List.cons_append List.nil_append List.length_cons List.length_nil List.set_cons_zero List.set_cons_succ List.take_succ_cons List.take_zero List.drop_succ_cons List.drop_zero List.drop_nil List.take_nil List.contains_cons List.contains_nil List.elem_cons List.elem_nil Bool.not_true Bool.not_false Bool.false_eq_true Bool.or_false Bool.or_true Bool.and_true Bool.and_false Bool.true_and Bool.false_and List.all_cons List.all_nil List.size_toArray Nat.lt_add_one Nat.zero_lt_succ Nat.one_ne_zero Nat.zero_ne_one and_self List.replicate_succ List.replicate_zero Int.toNat_natCast Int.toNat_zero Value.cells false_implies true_implies forall_const Thn InBlk Nat.zero_add Nat.add_zero Int.zero_add Ele Env.ren Option.some.injEq AV.v.injEq AV.sl.injEq AV.pp.injEq AV.ep.injEq AV.agg.injEq List.cons.injEq Value.int.injEq Value.bool.injEq Value.string.injEq true_or or_true or_false false_or tsz0 tby0 tz0 Tryd.underlying0 tsz1 tby1 tz1 Tryd.underlying1 tsz2 tby2 tz2 Tryd.underlying2 tsz3 tby3 tz3 Tryd.underlying3 tsz4 tby4 tz4 Tryd.underlying4 tsz5 tby5 tz5 Tryd.underlying5 tsz6 tby6 tz6 Tryd.underlying6 tsz7 tby7 tz7 Tryd.underlying7 fo7_0 fo7_1 fo7_2 fo7_3 tsz8 tby8 tz8 Tryd.underlying8 fo8_0 fo8_1 fo8_2 fo8_3 tsz9 tby9 Tryd.underlying9 tsz10 tby10 Tryd.underlying10 tsz12 tby12 tz12 Tryd.underlying12 tsz16 tby16 tz16 Tryd.underlying16 tsz17 tby17 tz17 Tryd.underlying17 tsz20 tby20 tz20 Tryd.underlying20 tsz21 tby21 tz21 Tryd.underlying21 tsz22 tby22 tz22 Tryd.underlying22 tsz23 tby23 tz23 Tryd.underlying23 tsz24 tby24 tz24 Tryd.underlying24 fo24_0 fo24_1 tsz25 tby25 tz25 Tryd.underlying25 fo25_0 fo25_1 tsz30 tby30 tz30 Tryd.underlying30 tsz32 tby32 tz32 Tryd.underlying32 tsz39 tby39 tz39 Tryd.underlying39 tsz40 tby40 tz40 Tryd.underlying40 tsz43 tby43 tz43 Tryd.underlying43 tsz44 tby44 tz44 Tryd.underlying44 tsz46 tby46 tz46 Tryd.underlying46 tsz50 tby50 tz50 Tryd.underlying50 peq50 fo50_0 fo50_1 fo50_2 tsz51 tby51 tz51 Tryd.underlying51 peq51 fo51_0 fo51_1 fo51_2 tsz53 tby53 tz53 Tryd.underlying53 tsz54 tby54 tz54 Tryd.underlying54 tsz55 tby55 tz55 Tryd.underlying55 tsz60 tby60 tz60 Tryd.underlying60 tsz71 tby71 tz71 Tryd.underlying71 fo71_0 fo71_1 tsz72 tby72 tz72 Tryd.underlying72 fo72_0 fo72_1 tsz77 tby77 tz77 Tryd.underlying77 tsz81 tby81 tz81 Tryd.underlying81 tsz86 tby86 tz86 Tryd.underlying86 tsz87 tby87 tz87 Tryd.underlying87 tsz91 tby91 tz91 Tryd.underlying91 tsz94 tby94 tz94 Tryd.underlying94 tsz95 tby95 tz95 Tryd.underlying95 tsz96 tby96 tz96 Tryd.underlying96 tsz100 tby100 tz100 Tryd.underlying100 tsz102 tby102 tz102 Tryd.underlying102 tsz103 tby103 tz103 Tryd.underlying103 tsz108 tby108 tz108 Tryd.underlying108 tsz109 tby109 tz109 Tryd.underlying109 tsz110 tby110 tz110 Tryd.underlying110 tsz111 tby111 tz111 Tryd.underlying111 tsz112 tby112 tz112 Tryd.underlying112 tsz113 tby113 tz113 Tryd.underlying113 tsz114 tby114 tz114 Tryd.underlying114 tsz115 tby115 tz115 Tryd.underlying115 tsz116 tby116 tz116 Tryd.underlying116 tsz117 tby117 tz117 Tryd.underlying117 fo117_0 fo117_1 fo117_2 fo117_3 fo117_4 fo117_5 fo117_6 fo117_7 fo117_8 fo117_9 fo117_10 tsz118 tby118 tz118 Tryd.underlying118 fo118_0 fo118_1 fo118_2 fo118_3 fo118_4 fo118_5 fo118_6 fo118_7 fo118_8 fo118_9 fo118_10 tsz119 tby119 tz119 Tryd.underlying119 l1InG l4BeforeG isNaNG cmpIntG cmpEndsG ftC
abbrev lz0_spec_DrawOrderForward : Array Bool := #[true, true, false, true, true, false, false, false, false, false, true, false, false, false, false, false]
abbrev lz1_spec_DrawOrderForward : Array Bool := #[true, true, true, true, true, true, true, true, true, true, true, true, true, true, true, true]
abbrev lz2_spec_DrawOrderForward : Array Bool := #[true, true, true, true, true, true, true, true, true, true, true, true, true, true, true, false]
abbrev lz3_spec_DrawOrderForward : Array Bool := #[true, true, true, true, true, true, true, true, true, true, true, true, true, true, false, false]
abbrev lz4_spec_DrawOrderForward : Array Bool := #[true, true, true, true, true, true, true, true, true, true, true, true, true, false, false, false]
abbrev lz5_spec_DrawOrderForward : Array Bool := #[true, true, true, true, true, true, true, true, true, true, true, true, false, false, false, false]
abbrev lz6_spec_DrawOrderForward : Array Bool := #[true, true, true, true, true, true, true, true, true, true, true, false, false, false, false, false]
abbrev lz7_spec_DrawOrderForward : Array Bool := #[true, true, true, true, true, true, true, true, true, false, true, true, false, false, false, false]
abbrev lz8_spec_DrawOrderForward : Array Bool := #[true, true, true, true, true, true, true, true, true, false, true, false, false, false, false, false]
abbrev lz9_spec_DrawOrderForward : Array Bool := #[true, true, true, true, true, true, true, true, false, false, true, true, false, false, false, false]
abbrev lz10_spec_DrawOrderForward : Array Bool := #[true, true, true, true, true, true, true, true, false, false, true, false, false, false, false, false]
abbrev lz11_spec_DrawOrderForward : Array Bool := #[true, true, true, true, true, true, true, false, false, false, true, true, false, false, false, false]
abbrev lz12_spec_DrawOrderForward : Array Bool := #[true, true, true, true, true, true, true, false, false, false, true, false, false, false, false, false]
abbrev lz13_spec_DrawOrderForward : Array Bool := #[true, true, true, true, true, false, false, false, false, false, true, true, false, false, false, false]
abbrev lz14_spec_DrawOrderForward : Array Bool := #[true, true, true, true, true, false, false, false, false, false, true, false, false, false, false, false]
abbrev lz15_spec_DrawOrderForward : Array Bool := #[true, true, false, true, true, true, true, true, true, false, true, true, false, false, false, false]
abbrev lz16_spec_DrawOrderForward : Array Bool := #[true, true, false, true, true, true, true, true, true, false, true, false, false, false, false, false]
abbrev lz17_spec_DrawOrderForward : Array Bool := #[true, true, false, true, true, true, true, true, false, false, true, true, false, false, false, false]
abbrev lz18_spec_DrawOrderForward : Array Bool := #[true, true, false, true, true, true, true, true, false, false, true, false, false, false, false, false]
abbrev lz19_spec_DrawOrderForward : Array Bool := #[true, true, false, true, true, true, true, false, false, false, true, true, false, false, false, false]
abbrev lz20_spec_DrawOrderForward : Array Bool := #[true, true, false, true, true, true, true, false, false, false, true, false, false, false, false, false]
abbrev lz21_spec_DrawOrderForward : Array Bool := #[true, true, false, true, true, false, false, false, false, false, true, true, false, false, false, false]
theorem k_spec_DrawOrderForward (a0 : List Int) {r : Int × (List (Int × Int × Int)) × List Int} (h : spec_DrawOrderForward a0 = some r) :
    FnA Tryd.prog 28 [.sl 0] [.row false (.ints .u8 a0)] [] (fun x H => x = .tup [.agg [.v (.int .i64 r.1), .sl 1], .sl 2] ∧ H = [.row false (.ints .u8 a0), .row true (.trips r.2.1), .row true (.ints .i64 r.2.2)]) := by
  unfold spec_DrawOrderForward at h
  refine FnA.of (N := 74) (pin := [0]) (rs := [.cell 2 25, .tmp 3]) Tryd.func28 rfl en28 rfl rfl (by simp) (by simp; try omega) ?_
  refine awp_reg ftCOk [(0, .sl 0), (2, .pp 1 0)] [.row false (.ints .u8 a0), .box [.v (.int .i64 0), .v (.slice none 0 0)]] ?_
  replace h := bind_some h
  obtain ⟨⟨y, y_1⟩, hr0, h⟩ := h
  try dsimp only at h
  refine awp_to [(2, .pp 1 0), (4, .pp 2 0)] [.row false (.ints .u8 a0), .box [.v (.int .i64 0), .v (.slice none 0 0)], .box [.sl 3, .v (.int .i64 y_1)], .row false (.ints .u8 y)] ?_ ?_
  · clear h
    intro K hK
    refine awp_region ftCOk ?_
    simp (maxSteps := 4000000) only [go_sem, Nat.reduceBEq, Nat.reduceLT, Nat.reduceAdd, Nat.reduceLeDiff, Nat.reduceSub, Nat.reduceEqDiff, Int.reduceToNat, reduceCtorEq, ↓reduceIte]
    repeat' (first | refine And.intro ?_ ?_ | intro hg)
    all_goals (try simp (disch := omega) only [wrap_fits])
    all_goals first
      | (refine hK _ _ ?_; exact Red.auto)
      | exact trivial
      | assumption
      | omega
      | exact wrap_fits (by omega) (by omega)
      | (refine wpA_here (k_spec_l20Open_v1 a0 (h := hr0)) ?_
         rintro x Hc' ⟨rfl, rfl⟩ hlen
         refine vcOps_sound ftCOk ?_
         simp (maxSteps := 4000000) only [go_sem, Nat.reduceBEq, Nat.reduceLT, Nat.reduceAdd, Nat.reduceLeDiff, Nat.reduceSub, Nat.reduceEqDiff, Int.reduceToNat, reduceCtorEq, ↓reduceIte]
         repeat' (first | refine And.intro ?_ ?_ | intro hg)
         all_goals (try simp (disch := omega) only [wrap_fits])
         all_goals first
           | (refine hK _ _ ?_; exact Red.auto)
           | exact trivial
           | assumption
           | omega
           | exact wrap_fits (by omega) (by omega)
           | (simp_all; done)
           | (simp_all; omega))
      | (simp_all; done)
      | (simp_all; omega)
  · clear hr0
    replace h := bind_some h
    obtain ⟨⟨y_2, y_3, y_4⟩, hr0, h⟩ := h
    try dsimp only at h
    refine awp_to [(2, .pp 1 0), (4, .pp 2 0), (5, .pp 5 0)] [.row false (.ints .u8 a0), .box [.v (.int .i64 0), .v (.slice none 0 0)], .box [.sl 3, .v (.int .i64 y_4)], .row false (.ints .u8 y), .row true (.trips y_3), .box [.v (.int .i64 y_2), .sl 4]] ?_ ?_
    · clear h
      intro K hK
      refine awp_region ftCOk ?_
      simp (maxSteps := 4000000) only [go_sem, Nat.reduceBEq, Nat.reduceLT, Nat.reduceAdd, Nat.reduceLeDiff, Nat.reduceSub, Nat.reduceEqDiff, Int.reduceToNat, reduceCtorEq, ↓reduceIte]
      repeat' (first | refine And.intro ?_ ?_ | intro hg)
      all_goals (try simp (disch := omega) only [wrap_fits])
      all_goals first
        | (refine hK _ _ ?_; exact Red.auto)
        | exact trivial
        | assumption
        | omega
        | exact wrap_fits (by omega) (by omega)
        | (refine wpA_callA (k_spec_l20Forward y y_1 (h := hr0)) [2, 3] [] ?_
           rintro x Hc' ⟨rfl, rfl⟩ hlen
           refine vcOps_sound ftCOk ?_
           simp (maxSteps := 4000000) only [go_sem, Nat.reduceBEq, Nat.reduceLT, Nat.reduceAdd, Nat.reduceLeDiff, Nat.reduceSub, Nat.reduceEqDiff, Int.reduceToNat, reduceCtorEq, ↓reduceIte]
           repeat' (first | refine And.intro ?_ ?_ | intro hg)
           all_goals (try simp (disch := omega) only [wrap_fits])
           all_goals first
             | (refine hK _ _ ?_; exact Red.auto)
             | exact trivial
             | assumption
             | omega
             | exact wrap_fits (by omega) (by omega)
             | (simp_all; done)
             | (simp_all; omega))
        | (simp_all; done)
        | (simp_all; omega)
    · clear hr0
      replace h := bind_some h
      obtain ⟨⟨y_5, y_6⟩, hr0, h⟩ := h
      try dsimp only at h
      refine awp_to [(2, .pp 1 0), (4, .pp 2 0), (5, .pp 5 0), (6, .sl 6), (7, .v (.bool y_6))] [.row false (.ints .u8 a0), .box [.v (.int .i64 0), .v (.slice none 0 0)], .box [.sl 3, .v (.int .i64 y_4)], .row false (.ints .u8 y), .row true (.trips y_3), .box [.v (.int .i64 y_2), .sl 4], .row true (.ints .i64 y_5)] ?_ ?_
      · clear h
        intro K hK
        refine awp_region ftCOk ?_
        simp (maxSteps := 4000000) only [go_sem, Nat.reduceBEq, Nat.reduceLT, Nat.reduceAdd, Nat.reduceLeDiff, Nat.reduceSub, Nat.reduceEqDiff, Int.reduceToNat, reduceCtorEq, ↓reduceIte]
        repeat' (first | refine And.intro ?_ ?_ | intro hg)
        all_goals (try simp (disch := omega) only [wrap_fits])
        all_goals first
          | (refine hK _ _ ?_; exact Red.auto)
          | exact trivial
          | assumption
          | omega
          | exact wrap_fits (by omega) (by omega)
          | (refine wpA_callA (k_spec_ForwardOrder y_2 y_3 (h := hr0)) [4] [] ?_
             rintro x Hc' ⟨rfl, rfl⟩ hlen
             refine vcOps_sound ftCOk ?_
             simp (maxSteps := 4000000) only [go_sem, Nat.reduceBEq, Nat.reduceLT, Nat.reduceAdd, Nat.reduceLeDiff, Nat.reduceSub, Nat.reduceEqDiff, Int.reduceToNat, reduceCtorEq, ↓reduceIte]
             repeat' (first | refine And.intro ?_ ?_ | intro hg)
             all_goals (try simp (disch := omega) only [wrap_fits])
             all_goals first
               | (refine hK _ _ ?_; exact Red.auto)
               | exact trivial
               | assumption
               | omega
               | exact wrap_fits (by omega) (by omega)
               | (simp_all; done)
               | (simp_all; omega))
          | (simp_all; done)
          | (simp_all; omega)
      · clear hr0
        refine awp_join h (fun ((t4_1, t6s) : Int × List Int) => [(2, .pp 1 0), (4, .pp 2 0), (5, .pp 4 0), (6, .sl 6)]) (fun ((t4_1, t6s) : Int × List Int) => [.row false (.ints .u8 a0), .box [.v (.int .i64 0), .v (.slice none 0 0)], .box [.sl 3, .v (.int .i64 t4_1)], .row false (.ints .u8 y), .box [.v (.int .i64 y_2), .sl 5], .row true (.trips y_3), .row true (.ints .i64 t6s)]) ?_ ?_
        · clear h
          intro k h
          try dsimp only at h
          replace h := bind_some h
          obtain ⟨⟨y_7, y_8⟩, hr0, h⟩ := h
          try dsimp only at h
          refine awp_to [(2, .pp 1 0), (4, .pp 2 0), (5, .pp 5 0), (6, .sl 6), (25, .v (.bool ((!y_6) || (y_7 == 0))))] [.row false (.ints .u8 a0), .box [.v (.int .i64 0), .v (.slice none 0 0)], .box [.sl 3, .v (.int .i64 y_8)], .row false (.ints .u8 y), .row true (.trips y_3), .box [.v (.int .i64 y_2), .sl 4], .row true (.ints .i64 y_5)] ?_ ?_
          · clear h
            intro K hK
            refine awp_region ftCOk ?_
            simp (maxSteps := 4000000) only [go_sem, Nat.reduceBEq, Nat.reduceLT, Nat.reduceAdd, Nat.reduceLeDiff, Nat.reduceSub, Nat.reduceEqDiff, Int.reduceToNat, reduceCtorEq, ↓reduceIte]
            repeat' (first | refine And.intro ?_ ?_ | intro hg)
            all_goals (try simp (disch := omega) only [wrap_fits])
            all_goals first
              | (refine hK _ _ ?_; exact Red.auto)
              | exact trivial
              | assumption
              | omega
              | exact wrap_fits (by omega) (by omega)
              | (refine wpA_guard rfl rfl ?_
                 refine wpA_callA (k_spec_l20Rd_pick y y_4 4 (h := (bite_t hr0 (by rw [Bool.not_eq_true']; exact (by first | assumption | (simp only [*, Bool.false_or, Bool.true_or, Bool.or_false, Bool.or_true, Bool.false_and, Bool.true_and, Bool.and_false, Bool.and_true, Bool.not_true, Bool.not_false, beq_self_eq_true]; done) | (simp_all; done)))))) [2, 3] [] ?_
                 rintro x Hc' ⟨rfl, rfl⟩ hlen
                 refine vcOps_sound ftCOk ?_
                 simp (maxSteps := 4000000) only [go_sem, Nat.reduceBEq, Nat.reduceLT, Nat.reduceAdd, Nat.reduceLeDiff, Nat.reduceSub, Nat.reduceEqDiff, Int.reduceToNat, reduceCtorEq, ↓reduceIte]
                 repeat' (first | refine And.intro ?_ ?_ | intro hg)
                 all_goals (try simp (disch := omega) only [wrap_fits])
                 all_goals first
                   | (refine hK _ _ ?_; exact Red.auto)
                   | exact trivial
                   | assumption
                   | omega
                   | exact wrap_fits (by omega) (by omega)
                   | (simp_all; done)
                   | (simp_all; omega))
              | (simp_all; done)
              | (simp_all; omega)
          · clear hr0
            refine awp_cond (t := 25) rfl (fun hc15 => ?_) (fun hc15 => ?_)
            · replace h := bite_t h hc15
              refine awp_reg ftCOk [(2, .pp 1 0), (4, .pp 2 0), (5, .pp 5 0), (6, .sl 7)] [.row false (.ints .u8 a0), .box [.v (.int .i64 0), .v (.slice none 0 0)], .box [.sl 3, .v (.int .i64 y_8)], .row false (.ints .u8 y), .row true (.trips y_3), .box [.v (.int .i64 y_2), .sl 4], .row true (.ints .i64 y_5), .row true (.ints .i64 [])] ?_
              refine awp_reg ftCOk [(2, .pp 1 0), (4, .pp 2 0), (5, .pp 5 0), (6, .sl 7), (8, .v (.int .i64 0))] [.row false (.ints .u8 a0), .box [.v (.int .i64 0), .v (.slice none 0 0)], .box [.sl 3, .v (.int .i64 y_8)], .row false (.ints .u8 y), .row true (.trips y_3), .box [.v (.int .i64 y_2), .sl 4], .row true (.ints .i64 y_5), .row true (.ints .i64 [])] ?_
              refine awp_block ?_
              replace h := bind_some h
              obtain ⟨x28, hx, h⟩ := h
              refine awp_loopL hx (fun ((t8, t4_1_1, t6s_1) : Int × Int × List Int) => [(2, .pp 1 0), (4, .pp 2 0), (5, .pp 4 0), (6, .sl 6), (8, .v (.int .i64 t8))]) (fun ((t8, t4_1_1, t6s_1) : Int × Int × List Int) => [.row false (.ints .u8 a0), .box [.v (.int .i64 0), .v (.slice none 0 0)], .box [.sl 3, .v (.int .i64 t4_1_1)], .row false (.ints .u8 y), .box [.v (.int .i64 y_2), .sl 5], .row true (.trips y_3), .row true (.ints .i64 t6s_1)]) (fun ((t4_1_2, t6s_2) : Int × List Int) => Exit.exit 0) (fun ((t4_1_2, t6s_2) : Int × List Int) => [(2, .pp 1 0), (4, .pp 2 0), (5, .pp 4 0), (6, .sl 6)]) (fun ((t4_1_2, t6s_2) : Int × List Int) => [.row false (.ints .u8 a0), .box [.v (.int .i64 0), .v (.slice none 0 0)], .box [.sl 3, .v (.int .i64 t4_1_2)], .row false (.ints .u8 y), .box [.v (.int .i64 y_2), .sl 5], .row true (.trips y_3), .row true (.ints .i64 t6s_2)]) ?_ ?_ ?_ ?_
              · rintro ⟨t4_1_2, t6s_2⟩ hy <;> cases hy
              · clear h hx
                exact Red.selA [0, 1, 2, 3, 5, 4, 7] Red.auto
              · clear h hx
                rintro ⟨t8, t4_1_1, t6s_1⟩ r h
                unfold spec_DrawOrderForward_b0 at h
                try dsimp only at h
                try dsimp only
                refine awp_seq fun K25 hK25 => ?_
                refine awp_reg ftCOk [(2, .pp 1 0), (4, .pp 2 0), (5, .pp 4 0), (6, .sl 6), (8, .v (.int .i64 t8)), (30, .v (.bool (decide (t8 < y_2))))] [.row false (.ints .u8 a0), .box [.v (.int .i64 0), .v (.slice none 0 0)], .box [.sl 3, .v (.int .i64 t4_1_1)], .row false (.ints .u8 y), .box [.v (.int .i64 y_2), .sl 5], .row true (.trips y_3), .row true (.ints .i64 t6s_1)] ?_
                refine awp_cond (t := 30) rfl (fun hc26 => ?_) (fun hc26 => ?_)
                · replace h := bite_t h hc26
                  refine awp_skip ?_
                  (try simp only [Thn, InBlk, ↓reduceIte, Nat.reduceEqDiff])
                  refine hK25 _ _ ?_
                  clear hK25
                  refine awp_seq fun K27 hK27 => ?_
                  refine awp_block ?_
                  replace h := chk_some h
                  obtain ⟨hp0, h⟩ := h
                  replace h := bind_some h
                  obtain ⟨⟨y_9, y_10⟩, hr1, h⟩ := h
                  try dsimp only at h
                  refine awp_to [(2, .pp 1 0), (4, .pp 2 0), (5, .pp 4 0), (6, .sl 6), (8, .v (.int .i64 t8)), (9, .v (.int .i64 y_9))] [.row false (.ints .u8 a0), .box [.v (.int .i64 0), .v (.slice none 0 0)], .box [.sl 3, .v (.int .i64 y_10)], .row false (.ints .u8 y), .box [.v (.int .i64 y_2), .sl 5], .row true (.trips y_3), .row true (.ints .i64 t6s_1)] ?_ ?_
                  · clear h
                    intro K hK
                    refine awp_region ftCOk ?_
                    simp (maxSteps := 4000000) only [go_sem, Nat.reduceBEq, Nat.reduceLT, Nat.reduceAdd, Nat.reduceLeDiff, Nat.reduceSub, Nat.reduceEqDiff, Int.reduceToNat, reduceCtorEq, ↓reduceIte]
                    repeat' (first | refine And.intro ?_ ?_ | intro hg)
                    all_goals (try simp (disch := omega) only [wrap_fits])
                    all_goals first
                      | (refine hK _ _ ?_; exact Red.auto)
                      | exact trivial
                      | assumption
                      | omega
                      | exact wrap_fits (by omega) (by omega)
                      | (refine wpA_callA (k_spec_l20Rd_pick y t4_1_1 ((t6s_1.length : Int) + 1) (h := hr1)) [2, 3] [] ?_
                         rintro x Hc' ⟨rfl, rfl⟩ hlen
                         refine vcOps_sound ftCOk ?_
                         simp (maxSteps := 4000000) only [go_sem, Nat.reduceBEq, Nat.reduceLT, Nat.reduceAdd, Nat.reduceLeDiff, Nat.reduceSub, Nat.reduceEqDiff, Int.reduceToNat, reduceCtorEq, ↓reduceIte]
                         repeat' (first | refine And.intro ?_ ?_ | intro hg)
                         all_goals (try simp (disch := omega) only [wrap_fits])
                         all_goals first
                           | (refine hK _ _ ?_; exact Red.auto)
                           | exact trivial
                           | assumption
                           | omega
                           | exact wrap_fits (by omega) (by omega)
                           | (simp_all; done)
                           | (simp_all; omega))
                      | (simp_all; done)
                      | (simp_all; omega)
                  · clear hp0 hr1
                    replace h := chk_some h
                    obtain ⟨hp0, h⟩ := h
                    replace h := chk_some h
                    obtain ⟨hp1, h⟩ := h
                    replace h := chk_some h
                    obtain ⟨hp2, h⟩ := h
                    replace h := chk_some h
                    obtain ⟨hp3, h⟩ := h
                    replace h := chk_some h
                    obtain ⟨hp4, h⟩ := h
                    refine awp_end [(2, .pp 1 0), (4, .pp 2 0), (5, .pp 4 0), (6, .sl 7), (8, .v (.int .i64 t8))] [.row false (.ints .u8 a0), .box [.v (.int .i64 0), .v (.slice none 0 0)], .box [.sl 3, .v (.int .i64 y_10)], .row false (.ints .u8 y), .box [.v (.int .i64 y_2), .sl 5], .row true (.trips y_3), .row true (.ints .i64 t6s_1), .row true (.ints .i64 ((([] ++ ((t6s_1.take y_9.toNat).drop 0)) ++ [t8]) ++ ((t6s_1.take t6s_1.length).drop y_9.toNat))), .view 6 (.ints .i64 ((t6s_1.take y_9.toNat).drop 0)), .row true (.ints .i64 [t8]), .view 6 (.ints .i64 ((t6s_1.take t6s_1.length).drop y_9.toNat))] ?_ ?_
                    · clear h
                      intro K hK
                      refine awp_drawL [0, 1, 2, 3, 4, 5, 6] [1, 2, 5, 8, 9] 8 #[false, true, true, false, false, true, false, false, true, true, false, false, false] mixed ftCOk (by kernel_rfl) (by first | rfl | kernel_rfl) (by rfl) (by simp) fun L hL => ?_
                      have n7 : L 0 #[true, true, true, true, true, true, true, true, true, true, true, true, true] [(2, .pp 1 0), (4, .pp 2 0), (5, .pp 4 0), (6, .sl 7), (8, .v (.int .i64 t8)), (9, .v (.int .i64 y_9)), (39, .sl 6), (40, .v (.int .i64 y_9)), (41, .sl 8), (43, .v (.int .i64 t8)), (44, .sl 9), (46, .sl 6), (47, .v (.int .i64 y_9)), (48, .sl 10), (49, .sl 7)] [.row false (.ints .u8 a0), .box [.v (.int .i64 0), .v (.slice none 0 0)], .box [.sl 3, .v (.int .i64 y_10)], .row false (.ints .u8 y), .box [.v (.int .i64 y_2), .sl 5], .row true (.trips y_3), .row true (.ints .i64 t6s_1), .row true (.ints .i64 ((([] ++ ((t6s_1.take y_9.toNat).drop 0)) ++ [t8]) ++ ((t6s_1.take t6s_1.length).drop y_9.toNat))), .view 6 (.ints .i64 ((t6s_1.take y_9.toNat).drop 0)), .row true (.ints .i64 [t8]), .view 6 (.ints .i64 ((t6s_1.take t6s_1.length).drop y_9.toNat))] := by
                        exact hL.fin (by kernel_rfl) (hK _ _ Red.auto)
                      have n6 : L 2 #[true, true, true, true, true, true, true, true, true, true, true, false, false] [(2, .pp 1 0), (4, .pp 2 0), (5, .pp 4 0), (6, .sl 6), (8, .v (.int .i64 t8)), (9, .v (.int .i64 y_9)), (39, .sl 6), (40, .v (.int .i64 y_9)), (41, .sl 8), (43, .v (.int .i64 t8)), (44, .sl 9), (45, .sl 7), (46, .sl 6), (47, .v (.int .i64 y_9)), (48, .sl 10)] [.row false (.ints .u8 a0), .box [.v (.int .i64 0), .v (.slice none 0 0)], .box [.sl 3, .v (.int .i64 y_10)], .row false (.ints .u8 y), .box [.v (.int .i64 y_2), .sl 5], .row true (.trips y_3), .row true (.ints .i64 t6s_1), .row true (.ints .i64 (([] ++ ((t6s_1.take y_9.toNat).drop 0)) ++ [t8])), .view 6 (.ints .i64 ((t6s_1.take y_9.toNat).drop 0)), .row true (.ints .i64 [t8]), .view 6 (.ints .i64 ((t6s_1.take t6s_1.length).drop y_9.toNat))] := by
                        refine hL.step [(11, [12], 0, #[true, true, true, true, true, true, true, true, true, true, true, true, true])] (by kernel_rfl) ⟨?_, trivial⟩
                        · exact hL.edge n7
                      have n5 : L 3 #[true, true, true, true, true, true, true, true, true, true, false, false, false] [(2, .pp 1 0), (4, .pp 2 0), (5, .pp 4 0), (6, .sl 6), (8, .v (.int .i64 t8)), (9, .v (.int .i64 y_9)), (39, .sl 6), (40, .v (.int .i64 y_9)), (41, .sl 8), (43, .v (.int .i64 t8)), (44, .sl 9), (45, .sl 7), (46, .sl 6), (47, .v (.int .i64 y_9))] [.row false (.ints .u8 a0), .box [.v (.int .i64 0), .v (.slice none 0 0)], .box [.sl 3, .v (.int .i64 y_10)], .row false (.ints .u8 y), .box [.v (.int .i64 y_2), .sl 5], .row true (.trips y_3), .row true (.ints .i64 t6s_1), .row true (.ints .i64 (([] ++ ((t6s_1.take y_9.toNat).drop 0)) ++ [t8])), .view 6 (.ints .i64 ((t6s_1.take y_9.toNat).drop 0)), .row true (.ints .i64 [t8])] := by
                        refine hL.step [(10, [], 2, #[true, true, true, true, true, true, true, true, true, true, true, false, false])] (by kernel_rfl) ⟨?_, trivial⟩
                        · exact hL.edge n6
                      have n8 : L 3 #[true, true, true, true, true, true, true, false, true, true, true, false, false] [(2, .pp 1 0), (4, .pp 2 0), (5, .pp 4 0), (6, .sl 6), (8, .v (.int .i64 t8)), (9, .v (.int .i64 y_9)), (39, .sl 6), (40, .v (.int .i64 y_9)), (41, .sl 8), (42, .sl 7), (43, .v (.int .i64 t8)), (44, .sl 9), (46, .sl 6), (47, .v (.int .i64 y_9)), (48, .sl 10)] [.row false (.ints .u8 a0), .box [.v (.int .i64 0), .v (.slice none 0 0)], .box [.sl 3, .v (.int .i64 y_10)], .row false (.ints .u8 y), .box [.v (.int .i64 y_2), .sl 5], .row true (.trips y_3), .row true (.ints .i64 t6s_1), .row true (.ints .i64 ([] ++ ((t6s_1.take y_9.toNat).drop 0))), .view 6 (.ints .i64 ((t6s_1.take y_9.toNat).drop 0)), .row true (.ints .i64 [t8]), .view 6 (.ints .i64 ((t6s_1.take t6s_1.length).drop y_9.toNat))] := by
                        refine hL.step [(7, [], 2, #[true, true, true, true, true, true, true, true, true, true, true, false, false])] (by kernel_rfl) ⟨?_, trivial⟩
                        · exact hL.edge n6
                      have n4 : L 4 #[true, true, true, true, true, true, true, false, true, true, false, false, false] [(2, .pp 1 0), (4, .pp 2 0), (5, .pp 4 0), (6, .sl 6), (8, .v (.int .i64 t8)), (9, .v (.int .i64 y_9)), (39, .sl 6), (40, .v (.int .i64 y_9)), (41, .sl 8), (42, .sl 7), (43, .v (.int .i64 t8)), (44, .sl 9), (46, .sl 6), (47, .v (.int .i64 y_9))] [.row false (.ints .u8 a0), .box [.v (.int .i64 0), .v (.slice none 0 0)], .box [.sl 3, .v (.int .i64 y_10)], .row false (.ints .u8 y), .box [.v (.int .i64 y_2), .sl 5], .row true (.trips y_3), .row true (.ints .i64 t6s_1), .row true (.ints .i64 ([] ++ ((t6s_1.take y_9.toNat).drop 0))), .view 6 (.ints .i64 ((t6s_1.take y_9.toNat).drop 0)), .row true (.ints .i64 [t8])] := by
                        refine hL.step [(7, [], 3, #[true, true, true, true, true, true, true, true, true, true, false, false, false]), (10, [], 3, #[true, true, true, true, true, true, true, false, true, true, true, false, false])] (by kernel_rfl) ⟨?_, ?_, trivial⟩
                        · exact hL.edge n5
                        · exact hL.edge n8
                      have n9 : L 4 #[true, true, true, true, true, true, false, false, true, true, true, false, false] [(2, .pp 1 0), (4, .pp 2 0), (5, .pp 4 0), (6, .sl 6), (8, .v (.int .i64 t8)), (9, .v (.int .i64 y_9)), (39, .sl 6), (40, .v (.int .i64 y_9)), (41, .sl 8), (42, .sl 7), (43, .v (.int .i64 t8)), (46, .sl 6), (47, .v (.int .i64 y_9)), (48, .sl 9)] [.row false (.ints .u8 a0), .box [.v (.int .i64 0), .v (.slice none 0 0)], .box [.sl 3, .v (.int .i64 y_10)], .row false (.ints .u8 y), .box [.v (.int .i64 y_2), .sl 5], .row true (.trips y_3), .row true (.ints .i64 t6s_1), .row true (.ints .i64 ([] ++ ((t6s_1.take y_9.toNat).drop 0))), .view 6 (.ints .i64 ((t6s_1.take y_9.toNat).drop 0)), .view 6 (.ints .i64 ((t6s_1.take t6s_1.length).drop y_9.toNat))] := by
                        refine hL.step [(6, [], 3, #[true, true, true, true, true, true, true, false, true, true, true, false, false])] (by kernel_rfl) ⟨?_, trivial⟩
                        · exact hL.edgeS [0, 1, 2, 3, 4, 5, 6, 7, 8, 10, 9] n8
                      have n3 : L 5 #[true, true, true, true, true, true, false, false, true, true, false, false, false] [(2, .pp 1 0), (4, .pp 2 0), (5, .pp 4 0), (6, .sl 6), (8, .v (.int .i64 t8)), (9, .v (.int .i64 y_9)), (39, .sl 6), (40, .v (.int .i64 y_9)), (41, .sl 8), (42, .sl 7), (43, .v (.int .i64 t8)), (46, .sl 6), (47, .v (.int .i64 y_9))] [.row false (.ints .u8 a0), .box [.v (.int .i64 0), .v (.slice none 0 0)], .box [.sl 3, .v (.int .i64 y_10)], .row false (.ints .u8 y), .box [.v (.int .i64 y_2), .sl 5], .row true (.trips y_3), .row true (.ints .i64 t6s_1), .row true (.ints .i64 ([] ++ ((t6s_1.take y_9.toNat).drop 0))), .view 6 (.ints .i64 ((t6s_1.take y_9.toNat).drop 0))] := by
                        refine hL.step [(6, [], 4, #[true, true, true, true, true, true, true, false, true, true, false, false, false]), (10, [], 4, #[true, true, true, true, true, true, false, false, true, true, true, false, false])] (by kernel_rfl) ⟨?_, ?_, trivial⟩
                        · exact hL.edge n4
                        · exact hL.edge n9
                      have n11 : L 4 #[true, true, true, true, false, true, true, false, true, true, true, false, false] [(2, .pp 1 0), (4, .pp 2 0), (5, .pp 4 0), (6, .sl 6), (8, .v (.int .i64 t8)), (9, .v (.int .i64 y_9)), (38, .sl 7), (39, .sl 6), (40, .v (.int .i64 y_9)), (41, .sl 8), (43, .v (.int .i64 t8)), (44, .sl 9), (46, .sl 6), (47, .v (.int .i64 y_9)), (48, .sl 10)] [.row false (.ints .u8 a0), .box [.v (.int .i64 0), .v (.slice none 0 0)], .box [.sl 3, .v (.int .i64 y_10)], .row false (.ints .u8 y), .box [.v (.int .i64 y_2), .sl 5], .row true (.trips y_3), .row true (.ints .i64 t6s_1), .row true (.ints .i64 []), .view 6 (.ints .i64 ((t6s_1.take y_9.toNat).drop 0)), .row true (.ints .i64 [t8]), .view 6 (.ints .i64 ((t6s_1.take t6s_1.length).drop y_9.toNat))] := by
                        refine hL.step [(4, [], 3, #[true, true, true, true, true, true, true, false, true, true, true, false, false])] (by kernel_rfl) ⟨?_, trivial⟩
                        · exact hL.edge n8
                      have n10 : L 5 #[true, true, true, true, false, true, true, false, true, true, false, false, false] [(2, .pp 1 0), (4, .pp 2 0), (5, .pp 4 0), (6, .sl 6), (8, .v (.int .i64 t8)), (9, .v (.int .i64 y_9)), (38, .sl 7), (39, .sl 6), (40, .v (.int .i64 y_9)), (41, .sl 8), (43, .v (.int .i64 t8)), (44, .sl 9), (46, .sl 6), (47, .v (.int .i64 y_9))] [.row false (.ints .u8 a0), .box [.v (.int .i64 0), .v (.slice none 0 0)], .box [.sl 3, .v (.int .i64 y_10)], .row false (.ints .u8 y), .box [.v (.int .i64 y_2), .sl 5], .row true (.trips y_3), .row true (.ints .i64 t6s_1), .row true (.ints .i64 []), .view 6 (.ints .i64 ((t6s_1.take y_9.toNat).drop 0)), .row true (.ints .i64 [t8])] := by
                        refine hL.step [(4, [], 4, #[true, true, true, true, true, true, true, false, true, true, false, false, false]), (10, [], 4, #[true, true, true, true, false, true, true, false, true, true, true, false, false])] (by kernel_rfl) ⟨?_, ?_, trivial⟩
                        · exact hL.edge n4
                        · exact hL.edge n11
                      have n12 : L 5 #[true, true, true, true, false, true, false, false, true, true, true, false, false] [(2, .pp 1 0), (4, .pp 2 0), (5, .pp 4 0), (6, .sl 6), (8, .v (.int .i64 t8)), (9, .v (.int .i64 y_9)), (38, .sl 7), (39, .sl 6), (40, .v (.int .i64 y_9)), (41, .sl 8), (43, .v (.int .i64 t8)), (46, .sl 6), (47, .v (.int .i64 y_9)), (48, .sl 9)] [.row false (.ints .u8 a0), .box [.v (.int .i64 0), .v (.slice none 0 0)], .box [.sl 3, .v (.int .i64 y_10)], .row false (.ints .u8 y), .box [.v (.int .i64 y_2), .sl 5], .row true (.trips y_3), .row true (.ints .i64 t6s_1), .row true (.ints .i64 []), .view 6 (.ints .i64 ((t6s_1.take y_9.toNat).drop 0)), .view 6 (.ints .i64 ((t6s_1.take t6s_1.length).drop y_9.toNat))] := by
                        refine hL.step [(4, [], 4, #[true, true, true, true, true, true, false, false, true, true, true, false, false]), (6, [], 4, #[true, true, true, true, false, true, true, false, true, true, true, false, false])] (by kernel_rfl) ⟨?_, ?_, trivial⟩
                        · exact hL.edge n9
                        · exact hL.edgeS [0, 1, 2, 3, 4, 5, 6, 7, 8, 10, 9] n11
                      have n2 : L 6 #[true, true, true, true, false, true, false, false, true, true, false, false, false] [(2, .pp 1 0), (4, .pp 2 0), (5, .pp 4 0), (6, .sl 6), (8, .v (.int .i64 t8)), (9, .v (.int .i64 y_9)), (38, .sl 7), (39, .sl 6), (40, .v (.int .i64 y_9)), (41, .sl 8), (43, .v (.int .i64 t8)), (46, .sl 6), (47, .v (.int .i64 y_9))] [.row false (.ints .u8 a0), .box [.v (.int .i64 0), .v (.slice none 0 0)], .box [.sl 3, .v (.int .i64 y_10)], .row false (.ints .u8 y), .box [.v (.int .i64 y_2), .sl 5], .row true (.trips y_3), .row true (.ints .i64 t6s_1), .row true (.ints .i64 []), .view 6 (.ints .i64 ((t6s_1.take y_9.toNat).drop 0))] := by
                        refine hL.step [(4, [], 5, #[true, true, true, true, true, true, false, false, true, true, false, false, false]), (6, [], 5, #[true, true, true, true, false, true, true, false, true, true, false, false, false]), (10, [], 5, #[true, true, true, true, false, true, false, false, true, true, true, false, false])] (by kernel_rfl) ⟨?_, ?_, ?_, trivial⟩
                        · exact hL.edge n3
                        · exact hL.edge n10
                        · exact hL.edge n12
                      have n14 : L 5 #[true, true, true, false, false, true, true, false, true, true, true, false, false] [(2, .pp 1 0), (4, .pp 2 0), (5, .pp 4 0), (6, .sl 6), (8, .v (.int .i64 t8)), (9, .v (.int .i64 y_9)), (38, .sl 7), (39, .sl 6), (40, .v (.int .i64 y_9)), (43, .v (.int .i64 t8)), (44, .sl 8), (46, .sl 6), (47, .v (.int .i64 y_9)), (48, .sl 9)] [.row false (.ints .u8 a0), .box [.v (.int .i64 0), .v (.slice none 0 0)], .box [.sl 3, .v (.int .i64 y_10)], .row false (.ints .u8 y), .box [.v (.int .i64 y_2), .sl 5], .row true (.trips y_3), .row true (.ints .i64 t6s_1), .row true (.ints .i64 []), .row true (.ints .i64 [t8]), .view 6 (.ints .i64 ((t6s_1.take t6s_1.length).drop y_9.toNat))] := by
                        refine hL.step [(3, [], 4, #[true, true, true, true, false, true, true, false, true, true, true, false, false])] (by kernel_rfl) ⟨?_, trivial⟩
                        · exact hL.edgeS [0, 1, 2, 3, 4, 5, 6, 7, 10, 8, 9] n11
                      have n13 : L 6 #[true, true, true, false, false, true, true, false, true, true, false, false, false] [(2, .pp 1 0), (4, .pp 2 0), (5, .pp 4 0), (6, .sl 6), (8, .v (.int .i64 t8)), (9, .v (.int .i64 y_9)), (38, .sl 7), (39, .sl 6), (40, .v (.int .i64 y_9)), (43, .v (.int .i64 t8)), (44, .sl 8), (46, .sl 6), (47, .v (.int .i64 y_9))] [.row false (.ints .u8 a0), .box [.v (.int .i64 0), .v (.slice none 0 0)], .box [.sl 3, .v (.int .i64 y_10)], .row false (.ints .u8 y), .box [.v (.int .i64 y_2), .sl 5], .row true (.trips y_3), .row true (.ints .i64 t6s_1), .row true (.ints .i64 []), .row true (.ints .i64 [t8])] := by
                        refine hL.step [(3, [], 5, #[true, true, true, true, false, true, true, false, true, true, false, false, false]), (10, [], 5, #[true, true, true, false, false, true, true, false, true, true, true, false, false])] (by kernel_rfl) ⟨?_, ?_, trivial⟩
                        · exact hL.edgeS [0, 1, 2, 3, 4, 5, 6, 7, 9, 8] n10
                        · exact hL.edge n14
                      have n15 : L 6 #[true, true, true, false, false, true, false, false, true, true, true, false, false] [(2, .pp 1 0), (4, .pp 2 0), (5, .pp 4 0), (6, .sl 6), (8, .v (.int .i64 t8)), (9, .v (.int .i64 y_9)), (38, .sl 7), (39, .sl 6), (40, .v (.int .i64 y_9)), (43, .v (.int .i64 t8)), (46, .sl 6), (47, .v (.int .i64 y_9)), (48, .sl 8)] [.row false (.ints .u8 a0), .box [.v (.int .i64 0), .v (.slice none 0 0)], .box [.sl 3, .v (.int .i64 y_10)], .row false (.ints .u8 y), .box [.v (.int .i64 y_2), .sl 5], .row true (.trips y_3), .row true (.ints .i64 t6s_1), .row true (.ints .i64 []), .view 6 (.ints .i64 ((t6s_1.take t6s_1.length).drop y_9.toNat))] := by
                        refine hL.step [(3, [], 5, #[true, true, true, true, false, true, false, false, true, true, true, false, false]), (6, [], 5, #[true, true, true, false, false, true, true, false, true, true, true, false, false])] (by kernel_rfl) ⟨?_, ?_, trivial⟩
                        · exact hL.edgeS [0, 1, 2, 3, 4, 5, 6, 7, 9, 8] n12
                        · exact hL.edgeS [0, 1, 2, 3, 4, 5, 6, 7, 9, 8] n14
                      have n1 : L 7 #[true, true, true, false, false, true, false, false, true, true, false, false, false] [(2, .pp 1 0), (4, .pp 2 0), (5, .pp 4 0), (6, .sl 6), (8, .v (.int .i64 t8)), (9, .v (.int .i64 y_9)), (38, .sl 7), (39, .sl 6), (40, .v (.int .i64 y_9)), (43, .v (.int .i64 t8)), (46, .sl 6), (47, .v (.int .i64 y_9))] [.row false (.ints .u8 a0), .box [.v (.int .i64 0), .v (.slice none 0 0)], .box [.sl 3, .v (.int .i64 y_10)], .row false (.ints .u8 y), .box [.v (.int .i64 y_2), .sl 5], .row true (.trips y_3), .row true (.ints .i64 t6s_1), .row true (.ints .i64 [])] := by
                        refine hL.step [(3, [], 6, #[true, true, true, true, false, true, false, false, true, true, false, false, false]), (6, [], 6, #[true, true, true, false, false, true, true, false, true, true, false, false, false]), (10, [], 6, #[true, true, true, false, false, true, false, false, true, true, true, false, false])] (by kernel_rfl) ⟨?_, ?_, ?_, trivial⟩
                        · exact hL.edge n2
                        · exact hL.edge n13
                        · exact hL.edge n15
                      have n18 : L 5 #[false, true, true, true, false, true, true, false, true, true, true, false, false] [(2, .pp 1 0), (4, .pp 2 0), (5, .pp 4 0), (6, .sl 6), (8, .v (.int .i64 t8)), (9, .v (.int .i64 y_9)), (39, .sl 6), (40, .v (.int .i64 y_9)), (41, .sl 7), (43, .v (.int .i64 t8)), (44, .sl 8), (46, .sl 6), (47, .v (.int .i64 y_9)), (48, .sl 9)] [.row false (.ints .u8 a0), .box [.v (.int .i64 0), .v (.slice none 0 0)], .box [.sl 3, .v (.int .i64 y_10)], .row false (.ints .u8 y), .box [.v (.int .i64 y_2), .sl 5], .row true (.trips y_3), .row true (.ints .i64 t6s_1), .view 6 (.ints .i64 ((t6s_1.take y_9.toNat).drop 0)), .row true (.ints .i64 [t8]), .view 6 (.ints .i64 ((t6s_1.take t6s_1.length).drop y_9.toNat))] := by
                        refine hL.step [(0, [], 4, #[true, true, true, true, false, true, true, false, true, true, true, false, false])] (by kernel_rfl) ⟨?_, trivial⟩
                        · exact hL.edgeS [0, 1, 2, 3, 4, 5, 6, 10, 7, 8, 9] n11
                      have n17 : L 6 #[false, true, true, true, false, true, true, false, true, true, false, false, false] [(2, .pp 1 0), (4, .pp 2 0), (5, .pp 4 0), (6, .sl 6), (8, .v (.int .i64 t8)), (9, .v (.int .i64 y_9)), (39, .sl 6), (40, .v (.int .i64 y_9)), (41, .sl 7), (43, .v (.int .i64 t8)), (44, .sl 8), (46, .sl 6), (47, .v (.int .i64 y_9))] [.row false (.ints .u8 a0), .box [.v (.int .i64 0), .v (.slice none 0 0)], .box [.sl 3, .v (.int .i64 y_10)], .row false (.ints .u8 y), .box [.v (.int .i64 y_2), .sl 5], .row true (.trips y_3), .row true (.ints .i64 t6s_1), .view 6 (.ints .i64 ((t6s_1.take y_9.toNat).drop 0)), .row true (.ints .i64 [t8])] := by
                        refine hL.step [(0, [], 5, #[true, true, true, true, false, true, true, false, true, true, false, false, false]), (10, [], 5, #[false, true, true, true, false, true, true, false, true, true, true, false, false])] (by kernel_rfl) ⟨?_, ?_, trivial⟩
                        · exact hL.edgeS [0, 1, 2, 3, 4, 5, 6, 9, 7, 8] n10
                        · exact hL.edge n18
                      have n19 : L 6 #[false, true, true, true, false, true, false, false, true, true, true, false, false] [(2, .pp 1 0), (4, .pp 2 0), (5, .pp 4 0), (6, .sl 6), (8, .v (.int .i64 t8)), (9, .v (.int .i64 y_9)), (39, .sl 6), (40, .v (.int .i64 y_9)), (41, .sl 7), (43, .v (.int .i64 t8)), (46, .sl 6), (47, .v (.int .i64 y_9)), (48, .sl 8)] [.row false (.ints .u8 a0), .box [.v (.int .i64 0), .v (.slice none 0 0)], .box [.sl 3, .v (.int .i64 y_10)], .row false (.ints .u8 y), .box [.v (.int .i64 y_2), .sl 5], .row true (.trips y_3), .row true (.ints .i64 t6s_1), .view 6 (.ints .i64 ((t6s_1.take y_9.toNat).drop 0)), .view 6 (.ints .i64 ((t6s_1.take t6s_1.length).drop y_9.toNat))] := by
                        refine hL.step [(0, [], 5, #[true, true, true, true, false, true, false, false, true, true, true, false, false]), (6, [], 5, #[false, true, true, true, false, true, true, false, true, true, true, false, false])] (by kernel_rfl) ⟨?_, ?_, trivial⟩
                        · exact hL.edgeS [0, 1, 2, 3, 4, 5, 6, 9, 7, 8] n12
                        · exact hL.edgeS [0, 1, 2, 3, 4, 5, 6, 7, 9, 8] n18
                      have n16 : L 7 #[false, true, true, true, false, true, false, false, true, true, false, false, false] [(2, .pp 1 0), (4, .pp 2 0), (5, .pp 4 0), (6, .sl 6), (8, .v (.int .i64 t8)), (9, .v (.int .i64 y_9)), (39, .sl 6), (40, .v (.int .i64 y_9)), (41, .sl 7), (43, .v (.int .i64 t8)), (46, .sl 6), (47, .v (.int .i64 y_9))] [.row false (.ints .u8 a0), .box [.v (.int .i64 0), .v (.slice none 0 0)], .box [.sl 3, .v (.int .i64 y_10)], .row false (.ints .u8 y), .box [.v (.int .i64 y_2), .sl 5], .row true (.trips y_3), .row true (.ints .i64 t6s_1), .view 6 (.ints .i64 ((t6s_1.take y_9.toNat).drop 0))] := by
                        refine hL.step [(0, [], 6, #[true, true, true, true, false, true, false, false, true, true, false, false, false]), (6, [], 6, #[false, true, true, true, false, true, true, false, true, true, false, false, false]), (10, [], 6, #[false, true, true, true, false, true, false, false, true, true, true, false, false])] (by kernel_rfl) ⟨?_, ?_, ?_, trivial⟩
                        · exact hL.edgeS [0, 1, 2, 3, 4, 5, 6, 8, 7] n2
                        · exact hL.edge n17
                        · exact hL.edge n19
                      have n21 : L 6 #[false, true, true, false, false, true, true, false, true, true, true, false, false] [(2, .pp 1 0), (4, .pp 2 0), (5, .pp 4 0), (6, .sl 6), (8, .v (.int .i64 t8)), (9, .v (.int .i64 y_9)), (39, .sl 6), (40, .v (.int .i64 y_9)), (43, .v (.int .i64 t8)), (44, .sl 7), (46, .sl 6), (47, .v (.int .i64 y_9)), (48, .sl 8)] [.row false (.ints .u8 a0), .box [.v (.int .i64 0), .v (.slice none 0 0)], .box [.sl 3, .v (.int .i64 y_10)], .row false (.ints .u8 y), .box [.v (.int .i64 y_2), .sl 5], .row true (.trips y_3), .row true (.ints .i64 t6s_1), .row true (.ints .i64 [t8]), .view 6 (.ints .i64 ((t6s_1.take t6s_1.length).drop y_9.toNat))] := by
                        refine hL.step [(0, [], 5, #[true, true, true, false, false, true, true, false, true, true, true, false, false]), (3, [], 5, #[false, true, true, true, false, true, true, false, true, true, true, false, false])] (by kernel_rfl) ⟨?_, ?_, trivial⟩
                        · exact hL.edgeS [0, 1, 2, 3, 4, 5, 6, 9, 7, 8] n14
                        · exact hL.edgeS [0, 1, 2, 3, 4, 5, 6, 9, 7, 8] n18
                      have n20 : L 7 #[false, true, true, false, false, true, true, false, true, true, false, false, false] [(2, .pp 1 0), (4, .pp 2 0), (5, .pp 4 0), (6, .sl 6), (8, .v (.int .i64 t8)), (9, .v (.int .i64 y_9)), (39, .sl 6), (40, .v (.int .i64 y_9)), (43, .v (.int .i64 t8)), (44, .sl 7), (46, .sl 6), (47, .v (.int .i64 y_9))] [.row false (.ints .u8 a0), .box [.v (.int .i64 0), .v (.slice none 0 0)], .box [.sl 3, .v (.int .i64 y_10)], .row false (.ints .u8 y), .box [.v (.int .i64 y_2), .sl 5], .row true (.trips y_3), .row true (.ints .i64 t6s_1), .row true (.ints .i64 [t8])] := by
                        refine hL.step [(0, [], 6, #[true, true, true, false, false, true, true, false, true, true, false, false, false]), (3, [], 6, #[false, true, true, true, false, true, true, false, true, true, false, false, false]), (10, [], 6, #[false, true, true, false, false, true, true, false, true, true, true, false, false])] (by kernel_rfl) ⟨?_, ?_, ?_, trivial⟩
                        · exact hL.edgeS [0, 1, 2, 3, 4, 5, 6, 8, 7] n13
                        · exact hL.edgeS [0, 1, 2, 3, 4, 5, 6, 8, 7] n17
                        · exact hL.edge n21
                      have n22 : L 7 #[false, true, true, false, false, true, false, false, true, true, true, false, false] [(2, .pp 1 0), (4, .pp 2 0), (5, .pp 4 0), (6, .sl 6), (8, .v (.int .i64 t8)), (9, .v (.int .i64 y_9)), (39, .sl 6), (40, .v (.int .i64 y_9)), (43, .v (.int .i64 t8)), (46, .sl 6), (47, .v (.int .i64 y_9)), (48, .sl 7)] [.row false (.ints .u8 a0), .box [.v (.int .i64 0), .v (.slice none 0 0)], .box [.sl 3, .v (.int .i64 y_10)], .row false (.ints .u8 y), .box [.v (.int .i64 y_2), .sl 5], .row true (.trips y_3), .row true (.ints .i64 t6s_1), .view 6 (.ints .i64 ((t6s_1.take t6s_1.length).drop y_9.toNat))] := by
                        refine hL.step [(0, [], 6, #[true, true, true, false, false, true, false, false, true, true, true, false, false]), (3, [], 6, #[false, true, true, true, false, true, false, false, true, true, true, false, false]), (6, [], 6, #[false, true, true, false, false, true, true, false, true, true, true, false, false])] (by kernel_rfl) ⟨?_, ?_, ?_, trivial⟩
                        · exact hL.edgeS [0, 1, 2, 3, 4, 5, 6, 8, 7] n15
                        · exact hL.edgeS [0, 1, 2, 3, 4, 5, 6, 8, 7] n19
                        · exact hL.edgeS [0, 1, 2, 3, 4, 5, 6, 8, 7] n21
                      have n0 : L 8 #[false, true, true, false, false, true, false, false, true, true, false, false, false] [(2, .pp 1 0), (4, .pp 2 0), (5, .pp 4 0), (6, .sl 6), (8, .v (.int .i64 t8)), (9, .v (.int .i64 y_9)), (39, .sl 6), (40, .v (.int .i64 y_9)), (43, .v (.int .i64 t8)), (46, .sl 6), (47, .v (.int .i64 y_9))] [.row false (.ints .u8 a0), .box [.v (.int .i64 0), .v (.slice none 0 0)], .box [.sl 3, .v (.int .i64 y_10)], .row false (.ints .u8 y), .box [.v (.int .i64 y_2), .sl 5], .row true (.trips y_3), .row true (.ints .i64 t6s_1)] := by
                        refine hL.step [(0, [], 7, #[true, true, true, false, false, true, false, false, true, true, false, false, false]), (3, [], 7, #[false, true, true, true, false, true, false, false, true, true, false, false, false]), (6, [], 7, #[false, true, true, false, false, true, true, false, true, true, false, false, false]), (10, [], 7, #[false, true, true, false, false, true, false, false, true, true, true, false, false])] (by kernel_rfl) ⟨?_, ?_, ?_, ?_, trivial⟩
                        · exact hL.edge n1
                        · exact hL.edge n16
                        · exact hL.edge n20
                        · exact hL.edge n22
                      simp (maxSteps := 4000000) only [go_sem, Nat.reduceBEq, Nat.reduceLT, Nat.reduceAdd, Nat.reduceLeDiff, Nat.reduceSub, Nat.reduceEqDiff, Int.reduceToNat, reduceCtorEq, ↓reduceIte]
                      repeat' (first | refine And.intro ?_ ?_ | intro hg)
                      all_goals (try simp (disch := omega) only [wrap_fits])
                      all_goals first
                        | (refine hL.red ?_ n0; exact Red.auto)
                        | exact trivial
                        | assumption
                        | omega
                        | exact wrap_fits (by omega) (by omega)
                        | (simp (maxSteps := 4000000) only [go_sem, Nat.reduceBEq, Nat.reduceLT, Nat.reduceAdd, Nat.reduceLeDiff, Nat.reduceSub, Nat.reduceEqDiff, Int.reduceToNat, reduceCtorEq, ↓reduceIte]
                           repeat' (first | refine And.intro ?_ ?_ | intro hg)
                           all_goals (try simp (disch := omega) only [wrap_fits])
                           all_goals first | (refine hL.red ?_ n0; exact Red.auto) | exact trivial | assumption | omega | exact wrap_fits (by omega) (by omega))
                        | (simp_all; done)
                        | (simp_all; omega)
                    · clear hp0 hp1 hp2 hp3 hp4
                      (try simp only [Thn, InBlk, ↓reduceIte, Nat.reduceEqDiff])
                      (try simp only [Thn, InBlk, ↓reduceIte, Nat.reduceEqDiff])
                      refine hK27 _ _ ?_
                      clear hK27
                      replace h := chk_some h
                      obtain ⟨hp0, h⟩ := h
                      refine awp_regE ftCOk [(2, .pp 1 0), (4, .pp 2 0), (5, .pp 4 0), (6, .sl 7), (8, .v (.int .i64 (t8 + 1)))] [.row false (.ints .u8 a0), .box [.v (.int .i64 0), .v (.slice none 0 0)], .box [.sl 3, .v (.int .i64 y_10)], .row false (.ints .u8 y), .box [.v (.int .i64 y_2), .sl 5], .row true (.trips y_3), .row true (.ints .i64 t6s_1), .row true (.ints .i64 ((([] ++ ((t6s_1.take y_9.toNat).drop 0)) ++ [t8]) ++ ((t6s_1.take t6s_1.length).drop y_9.toNat))), .view 6 (.ints .i64 ((t6s_1.take y_9.toNat).drop 0)), .row true (.ints .i64 [t8]), .view 6 (.ints .i64 ((t6s_1.take t6s_1.length).drop y_9.toNat))] ?_
                      clear hp0
                      obtain rfl := Option.some.inj h
                      refine LoopQ.next ?_
                      exact Red.selA [0, 1, 2, 3, 4, 5, 7] Red.auto
                · replace h := bite_f h hc26
                  refine awp_exit ?_
                  (try simp only [Thn, InBlk, ↓reduceIte, Nat.reduceEqDiff])
                  obtain rfl := Option.some.inj h
                  refine LoopQ.out rfl ?_
                  exact Red.auto
              · clear hx
                rcases x28 with ⟨t4_1_2, t6s_2⟩
                · try dsimp only [Sum.elim_inl, Sum.elim_inr] at h
                  try dsimp only [Sum.elim_inl, Sum.elim_inr]
                  (try simp only [Thn, InBlk, ↓reduceIte, Nat.reduceEqDiff])
                  (try simp only [Thn, InBlk, ↓reduceIte, Nat.reduceEqDiff])
                  (try simp only [Thn, InBlk, ↓reduceIte, Nat.reduceEqDiff])
                  refine ⟨_, h, ?_⟩
                  exact Red.auto
            · replace h := bite_f h hc15
              refine awp_skip ?_
              (try simp only [Thn, InBlk, ↓reduceIte, Nat.reduceEqDiff])
              refine ⟨_, h, ?_⟩
              exact Red.selA [0, 1, 2, 3, 5, 4, 6] Red.auto
        · clear h
          rintro ⟨t4_1, t6s⟩ h
          try dsimp only at h
          try dsimp only
          refine awp_join h (fun (t6s_3 : List Int) => [(2, .pp 1 0), (5, .pp 2 0), (6, .sl 4)]) (fun (t6s_3 : List Int) => [.row false (.ints .u8 a0), .box [.v (.int .i64 0), .v (.slice none 0 0)], .box [.v (.int .i64 y_2), .sl 3], .row true (.trips y_3), .row true (.ints .i64 t6s_3)]) ?_ ?_
          · clear h
            intro k_1 h
            try dsimp only at h
            replace h := bind_some h
            obtain ⟨⟨y_11, y_12⟩, hr0, h⟩ := h
            try dsimp only at h
            refine awp_to [(2, .pp 1 0), (4, .pp 2 0), (5, .pp 4 0), (6, .sl 6), (56, .v (.bool (y_11 && (decide (0 < (t6s.length : Int))))))] [.row false (.ints .u8 a0), .box [.v (.int .i64 0), .v (.slice none 0 0)], .box [.sl 3, .v (.int .i64 y_12)], .row false (.ints .u8 y), .box [.v (.int .i64 y_2), .sl 5], .row true (.trips y_3), .row true (.ints .i64 t6s)] ?_ ?_
            · clear h
              intro K hK
              refine awp_region ftCOk ?_
              simp (maxSteps := 4000000) only [go_sem, Nat.reduceBEq, Nat.reduceLT, Nat.reduceAdd, Nat.reduceLeDiff, Nat.reduceSub, Nat.reduceEqDiff, Int.reduceToNat, reduceCtorEq, ↓reduceIte]
              repeat' (first | refine And.intro ?_ ?_ | intro hg)
              all_goals (try simp (disch := omega) only [wrap_fits])
              all_goals first
                | (refine hK _ _ ?_; exact Red.auto)
                | exact trivial
                | assumption
                | omega
                | exact wrap_fits (by omega) (by omega)
                | (refine wpA_callA (k_spec_l20Rd_odd y t4_1 9 (h := hr0)) [2, 3] [] ?_
                   rintro x Hc' ⟨rfl, rfl⟩ hlen
                   refine vcOps_sound ftCOk ?_
                   simp (maxSteps := 4000000) only [go_sem, Nat.reduceBEq, Nat.reduceLT, Nat.reduceAdd, Nat.reduceLeDiff, Nat.reduceSub, Nat.reduceEqDiff, Int.reduceToNat, reduceCtorEq, ↓reduceIte]
                   repeat' (first | refine And.intro ?_ ?_ | intro hg)
                   all_goals (try simp (disch := omega) only [wrap_fits])
                   all_goals first
                     | (refine hK _ _ ?_; exact Red.auto)
                     | exact trivial
                     | assumption
                     | omega
                     | exact wrap_fits (by omega) (by omega)
                     | (simp_all; done)
                     | (simp_all; omega))
                | (simp_all; done)
                | (simp_all; omega)
            · clear hr0
              refine awp_cond (t := 56) rfl (fun hc30 => ?_) (fun hc30 => ?_)
              · replace h := bite_t h hc30
                replace h := chk_some h
                obtain ⟨hp0, h⟩ := h
                have hwhp0 := wrap_fits hp0.1 hp0.2
                replace h := chk_some h
                obtain ⟨hp1, h⟩ := h
                replace h := bind_some h
                obtain ⟨⟨y_13, y_14⟩, hr2, h⟩ := h
                try dsimp only at h
                replace h := chk_some h
                obtain ⟨hp3, h⟩ := h
                replace h := chk_some h
                obtain ⟨hp4, h⟩ := h
                refine awp_end [(2, .pp 1 0), (5, .pp 4 0), (6, .sl 6)] [.row false (.ints .u8 a0), .box [.v (.int .i64 0), .v (.slice none 0 0)], .box [.sl 3, .v (.int .i64 y_14)], .row false (.ints .u8 y), .box [.v (.int .i64 y_2), .sl 5], .row true (.trips y_3), .row true (.ints .i64 (t6s.set 0 (([(-1), (t6s.length : Int), (t6s.getD (((t6s.length : Int) - 1).toNat) 0)] : List Int).getD y_13.toNat 0))), .row true (.ints .i64 [(-1), (t6s.length : Int), (t6s.getD (((t6s.length : Int) - 1).toNat) 0)])] ?_ ?_
                · clear h
                  intro K hK
                  refine awp_drawL [0, 1, 2, 3, 4, 5, 6] [0, 1, 3, 4, 10] 11 lz0_spec_DrawOrderForward mixed ftCOk (by kernel_rfl) (by first | rfl | kernel_rfl) (by rfl) (by simp) fun L hL => ?_
                  have n10 : L 0 lz1_spec_DrawOrderForward [(2, .pp 1 0), (4, .pp 2 0), (5, .pp 4 0), (6, .sl 6), (56, .v (.bool (y_11 && (decide (0 < (t6s.length : Int)))))), (57, .sl 6), (58, .sl 6), (59, .v (.int .i64 (t6s.length : Int))), (60, .sl 6), (61, .sl 6), (62, .v (.int .i64 (t6s.length : Int))), (63, .v (.int .i64 ((t6s.length : Int) - 1))), (64, .ep 6 (((t6s.length : Int) - 1).toNat) 1 0), (65, .v (.int .i64 (t6s.getD (((t6s.length : Int) - 1).toNat) 0))), (66, .sl 7), (67, .pp 2 0), (68, .v (.int .i64 y_13)), (69, .ep 7 y_13.toNat 1 0), (70, .v (.int .i64 (([(-1), (t6s.length : Int), (t6s.getD (((t6s.length : Int) - 1).toNat) 0)] : List Int).getD y_13.toNat 0))), (71, .ep 6 0 1 0)] [.row false (.ints .u8 a0), .box [.v (.int .i64 0), .v (.slice none 0 0)], .box [.sl 3, .v (.int .i64 y_14)], .row false (.ints .u8 y), .box [.v (.int .i64 y_2), .sl 5], .row true (.trips y_3), .row true (.ints .i64 (t6s.set 0 (([(-1), (t6s.length : Int), (t6s.getD (((t6s.length : Int) - 1).toNat) 0)] : List Int).getD y_13.toNat 0))), .row true (.ints .i64 [(-1), (t6s.length : Int), (t6s.getD (((t6s.length : Int) - 1).toNat) 0)])] := by
                    exact hL.fin (by kernel_rfl) (hK _ _ Red.auto)
                  have n9 : L 1 lz2_spec_DrawOrderForward [(2, .pp 1 0), (4, .pp 2 0), (5, .pp 4 0), (6, .sl 6), (56, .v (.bool (y_11 && (decide (0 < (t6s.length : Int)))))), (57, .sl 6), (58, .sl 6), (59, .v (.int .i64 (t6s.length : Int))), (60, .sl 6), (61, .sl 6), (62, .v (.int .i64 (t6s.length : Int))), (63, .v (.int .i64 ((t6s.length : Int) - 1))), (64, .ep 6 (((t6s.length : Int) - 1).toNat) 1 0), (65, .v (.int .i64 (t6s.getD (((t6s.length : Int) - 1).toNat) 0))), (66, .sl 7), (67, .pp 2 0), (68, .v (.int .i64 y_13)), (69, .ep 7 y_13.toNat 1 0), (70, .v (.int .i64 (([(-1), (t6s.length : Int), (t6s.getD (((t6s.length : Int) - 1).toNat) 0)] : List Int).getD y_13.toNat 0))), (71, .ep 6 0 1 0)] [.row false (.ints .u8 a0), .box [.v (.int .i64 0), .v (.slice none 0 0)], .box [.sl 3, .v (.int .i64 y_14)], .row false (.ints .u8 y), .box [.v (.int .i64 y_2), .sl 5], .row true (.trips y_3), .row true (.ints .i64 t6s), .row true (.ints .i64 [(-1), (t6s.length : Int), (t6s.getD (((t6s.length : Int) - 1).toNat) 0)])] := by
                    refine hL.step [(15, [], 0, lz1_spec_DrawOrderForward)] (by kernel_rfl) ⟨?_, trivial⟩
                    · exact hL.edge n10
                  have n8 : L 2 lz3_spec_DrawOrderForward [(2, .pp 1 0), (4, .pp 2 0), (5, .pp 4 0), (6, .sl 6), (56, .v (.bool (y_11 && (decide (0 < (t6s.length : Int)))))), (57, .sl 6), (58, .sl 6), (59, .v (.int .i64 (t6s.length : Int))), (60, .sl 6), (61, .sl 6), (62, .v (.int .i64 (t6s.length : Int))), (63, .v (.int .i64 ((t6s.length : Int) - 1))), (64, .ep 6 (((t6s.length : Int) - 1).toNat) 1 0), (65, .v (.int .i64 (t6s.getD (((t6s.length : Int) - 1).toNat) 0))), (66, .sl 7), (67, .pp 2 0), (68, .v (.int .i64 y_13)), (69, .ep 7 y_13.toNat 1 0), (70, .v (.int .i64 (([(-1), (t6s.length : Int), (t6s.getD (((t6s.length : Int) - 1).toNat) 0)] : List Int).getD y_13.toNat 0)))] [.row false (.ints .u8 a0), .box [.v (.int .i64 0), .v (.slice none 0 0)], .box [.sl 3, .v (.int .i64 y_14)], .row false (.ints .u8 y), .box [.v (.int .i64 y_2), .sl 5], .row true (.trips y_3), .row true (.ints .i64 t6s), .row true (.ints .i64 [(-1), (t6s.length : Int), (t6s.getD (((t6s.length : Int) - 1).toNat) 0)])] := by
                    refine hL.step [(14, [], 1, lz2_spec_DrawOrderForward)] (by kernel_rfl) ⟨?_, trivial⟩
                    · exact hL.edge n9
                  have n7 : L 3 lz4_spec_DrawOrderForward [(2, .pp 1 0), (4, .pp 2 0), (5, .pp 4 0), (6, .sl 6), (56, .v (.bool (y_11 && (decide (0 < (t6s.length : Int)))))), (57, .sl 6), (58, .sl 6), (59, .v (.int .i64 (t6s.length : Int))), (60, .sl 6), (61, .sl 6), (62, .v (.int .i64 (t6s.length : Int))), (63, .v (.int .i64 ((t6s.length : Int) - 1))), (64, .ep 6 (((t6s.length : Int) - 1).toNat) 1 0), (65, .v (.int .i64 (t6s.getD (((t6s.length : Int) - 1).toNat) 0))), (66, .sl 7), (67, .pp 2 0), (68, .v (.int .i64 y_13)), (69, .ep 7 y_13.toNat 1 0)] [.row false (.ints .u8 a0), .box [.v (.int .i64 0), .v (.slice none 0 0)], .box [.sl 3, .v (.int .i64 y_14)], .row false (.ints .u8 y), .box [.v (.int .i64 y_2), .sl 5], .row true (.trips y_3), .row true (.ints .i64 t6s), .row true (.ints .i64 [(-1), (t6s.length : Int), (t6s.getD (((t6s.length : Int) - 1).toNat) 0)])] := by
                    refine hL.step [(13, [], 2, lz3_spec_DrawOrderForward)] (by kernel_rfl) ⟨?_, trivial⟩
                    · exact hL.edge n8
                  have n6 : L 4 lz5_spec_DrawOrderForward [(2, .pp 1 0), (4, .pp 2 0), (5, .pp 4 0), (6, .sl 6), (56, .v (.bool (y_11 && (decide (0 < (t6s.length : Int)))))), (57, .sl 6), (58, .sl 6), (59, .v (.int .i64 (t6s.length : Int))), (60, .sl 6), (61, .sl 6), (62, .v (.int .i64 (t6s.length : Int))), (63, .v (.int .i64 ((t6s.length : Int) - 1))), (64, .ep 6 (((t6s.length : Int) - 1).toNat) 1 0), (65, .v (.int .i64 (t6s.getD (((t6s.length : Int) - 1).toNat) 0))), (66, .sl 7), (67, .pp 2 0), (68, .v (.int .i64 y_13))] [.row false (.ints .u8 a0), .box [.v (.int .i64 0), .v (.slice none 0 0)], .box [.sl 3, .v (.int .i64 y_14)], .row false (.ints .u8 y), .box [.v (.int .i64 y_2), .sl 5], .row true (.trips y_3), .row true (.ints .i64 t6s), .row true (.ints .i64 [(-1), (t6s.length : Int), (t6s.getD (((t6s.length : Int) - 1).toNat) 0)])] := by
                    refine hL.step [(12, [], 3, lz4_spec_DrawOrderForward)] (by kernel_rfl) ⟨?_, trivial⟩
                    · exact hL.edge n7
                  have n5 : L 5 lz6_spec_DrawOrderForward [(2, .pp 1 0), (4, .pp 2 0), (5, .pp 4 0), (6, .sl 6), (56, .v (.bool (y_11 && (decide (0 < (t6s.length : Int)))))), (57, .sl 6), (58, .sl 6), (59, .v (.int .i64 (t6s.length : Int))), (60, .sl 6), (61, .sl 6), (62, .v (.int .i64 (t6s.length : Int))), (63, .v (.int .i64 ((t6s.length : Int) - 1))), (64, .ep 6 (((t6s.length : Int) - 1).toNat) 1 0), (65, .v (.int .i64 (t6s.getD (((t6s.length : Int) - 1).toNat) 0))), (66, .sl 7), (67, .pp 2 0)] [.row false (.ints .u8 a0), .box [.v (.int .i64 0), .v (.slice none 0 0)], .box [.sl 3, .v (.int .i64 y_12)], .row false (.ints .u8 y), .box [.v (.int .i64 y_2), .sl 5], .row true (.trips y_3), .row true (.ints .i64 t6s), .row true (.ints .i64 [(-1), (t6s.length : Int), (t6s.getD (((t6s.length : Int) - 1).toNat) 0)])] := by
                    refine hL.step [(11, [], 4, lz5_spec_DrawOrderForward)] (by kernel_rfl) ⟨?_, trivial⟩
                    · simp (maxSteps := 4000000) only [go_sem, Nat.reduceBEq, Nat.reduceLT, Nat.reduceAdd, Nat.reduceLeDiff, Nat.reduceSub, Nat.reduceEqDiff, Int.reduceToNat, reduceCtorEq, ↓reduceIte]
                      repeat' (first | refine And.intro ?_ ?_ | intro hg)
                      all_goals (try simp (disch := omega) only [wrap_fits])
                      all_goals first
                        | (refine hL.red ?_ n6; exact Red.auto)
                        | exact trivial
                        | assumption
                        | omega
                        | exact wrap_fits (by omega) (by omega)
                        | (refine OpK_callA (k_spec_l20Rd_pick y y_12 3 (h := hr2)) [2, 3] [] ?_
                           rintro x Hc' ⟨rfl, rfl⟩ hlen
                           simp (maxSteps := 4000000) only [go_sem, Nat.reduceBEq, Nat.reduceLT, Nat.reduceAdd, Nat.reduceLeDiff, Nat.reduceSub, Nat.reduceEqDiff, Int.reduceToNat, reduceCtorEq, ↓reduceIte]
                           repeat' (first | refine And.intro ?_ ?_ | intro hg)
                           all_goals (try simp (disch := omega) only [wrap_fits])
                           all_goals first
                             | (refine hL.red ?_ n6; exact Red.auto)
                             | exact trivial
                             | assumption
                             | omega
                             | exact wrap_fits (by omega) (by omega)
                             | (simp_all; done)
                             | (simp_all; omega))
                        | (simp (maxSteps := 4000000) only [go_sem, Nat.reduceBEq, Nat.reduceLT, Nat.reduceAdd, Nat.reduceLeDiff, Nat.reduceSub, Nat.reduceEqDiff, Int.reduceToNat, reduceCtorEq, ↓reduceIte]
                           repeat' (first | refine And.intro ?_ ?_ | intro hg)
                           all_goals (try simp (disch := omega) only [wrap_fits])
                           all_goals first | (refine hL.red ?_ n6; exact Red.auto) | exact trivial | assumption | omega | exact wrap_fits (by omega) (by omega))
                        | (simp_all; done)
                        | (simp_all; omega)
                  have n11 : L 5 lz7_spec_DrawOrderForward [(2, .pp 1 0), (4, .pp 2 0), (5, .pp 4 0), (6, .sl 6), (56, .v (.bool (y_11 && (decide (0 < (t6s.length : Int)))))), (57, .sl 6), (58, .sl 6), (59, .v (.int .i64 (t6s.length : Int))), (60, .sl 6), (61, .sl 6), (62, .v (.int .i64 (t6s.length : Int))), (63, .v (.int .i64 ((t6s.length : Int) - 1))), (64, .ep 6 (((t6s.length : Int) - 1).toNat) 1 0), (65, .v (.int .i64 (t6s.getD (((t6s.length : Int) - 1).toNat) 0))), (67, .pp 2 0), (68, .v (.int .i64 y_13))] [.row false (.ints .u8 a0), .box [.v (.int .i64 0), .v (.slice none 0 0)], .box [.sl 3, .v (.int .i64 y_14)], .row false (.ints .u8 y), .box [.v (.int .i64 y_2), .sl 5], .row true (.trips y_3), .row true (.ints .i64 t6s)] := by
                    refine hL.step [(9, [], 4, lz5_spec_DrawOrderForward)] (by kernel_rfl) ⟨?_, trivial⟩
                    · exact hL.edge n6
                  have n4 : L 6 lz8_spec_DrawOrderForward [(2, .pp 1 0), (4, .pp 2 0), (5, .pp 4 0), (6, .sl 6), (56, .v (.bool (y_11 && (decide (0 < (t6s.length : Int)))))), (57, .sl 6), (58, .sl 6), (59, .v (.int .i64 (t6s.length : Int))), (60, .sl 6), (61, .sl 6), (62, .v (.int .i64 (t6s.length : Int))), (63, .v (.int .i64 ((t6s.length : Int) - 1))), (64, .ep 6 (((t6s.length : Int) - 1).toNat) 1 0), (65, .v (.int .i64 (t6s.getD (((t6s.length : Int) - 1).toNat) 0))), (67, .pp 2 0)] [.row false (.ints .u8 a0), .box [.v (.int .i64 0), .v (.slice none 0 0)], .box [.sl 3, .v (.int .i64 y_12)], .row false (.ints .u8 y), .box [.v (.int .i64 y_2), .sl 5], .row true (.trips y_3), .row true (.ints .i64 t6s)] := by
                    refine hL.step [(9, [], 5, lz6_spec_DrawOrderForward), (11, [], 5, lz7_spec_DrawOrderForward)] (by kernel_rfl) ⟨?_, ?_, trivial⟩
                    · exact hL.edge n5
                    · simp (maxSteps := 4000000) only [go_sem, Nat.reduceBEq, Nat.reduceLT, Nat.reduceAdd, Nat.reduceLeDiff, Nat.reduceSub, Nat.reduceEqDiff, Int.reduceToNat, reduceCtorEq, ↓reduceIte]
                      repeat' (first | refine And.intro ?_ ?_ | intro hg)
                      all_goals (try simp (disch := omega) only [wrap_fits])
                      all_goals first
                        | (refine hL.red ?_ n11; exact Red.auto)
                        | exact trivial
                        | assumption
                        | omega
                        | exact wrap_fits (by omega) (by omega)
                        | (refine OpK_callA (k_spec_l20Rd_pick y y_12 3 (h := hr2)) [2, 3] [] ?_
                           rintro x Hc' ⟨rfl, rfl⟩ hlen
                           simp (maxSteps := 4000000) only [go_sem, Nat.reduceBEq, Nat.reduceLT, Nat.reduceAdd, Nat.reduceLeDiff, Nat.reduceSub, Nat.reduceEqDiff, Int.reduceToNat, reduceCtorEq, ↓reduceIte]
                           repeat' (first | refine And.intro ?_ ?_ | intro hg)
                           all_goals (try simp (disch := omega) only [wrap_fits])
                           all_goals first
                             | (refine hL.red ?_ n11; exact Red.auto)
                             | exact trivial
                             | assumption
                             | omega
                             | exact wrap_fits (by omega) (by omega)
                             | (simp_all; done)
                             | (simp_all; omega))
                        | (simp (maxSteps := 4000000) only [go_sem, Nat.reduceBEq, Nat.reduceLT, Nat.reduceAdd, Nat.reduceLeDiff, Nat.reduceSub, Nat.reduceEqDiff, Int.reduceToNat, reduceCtorEq, ↓reduceIte]
                           repeat' (first | refine And.intro ?_ ?_ | intro hg)
                           all_goals (try simp (disch := omega) only [wrap_fits])
                           all_goals first | (refine hL.red ?_ n11; exact Red.auto) | exact trivial | assumption | omega | exact wrap_fits (by omega) (by omega))
                        | (simp_all; done)
                        | (simp_all; omega)
                  have n12 : L 6 lz9_spec_DrawOrderForward [(2, .pp 1 0), (4, .pp 2 0), (5, .pp 4 0), (6, .sl 6), (56, .v (.bool (y_11 && (decide (0 < (t6s.length : Int)))))), (57, .sl 6), (58, .sl 6), (59, .v (.int .i64 (t6s.length : Int))), (60, .sl 6), (61, .sl 6), (62, .v (.int .i64 (t6s.length : Int))), (63, .v (.int .i64 ((t6s.length : Int) - 1))), (64, .ep 6 (((t6s.length : Int) - 1).toNat) 1 0), (67, .pp 2 0), (68, .v (.int .i64 y_13))] [.row false (.ints .u8 a0), .box [.v (.int .i64 0), .v (.slice none 0 0)], .box [.sl 3, .v (.int .i64 y_14)], .row false (.ints .u8 y), .box [.v (.int .i64 y_2), .sl 5], .row true (.trips y_3), .row true (.ints .i64 t6s)] := by
                    refine hL.step [(8, [], 5, lz7_spec_DrawOrderForward)] (by kernel_rfl) ⟨?_, trivial⟩
                    · exact hL.edge n11
                  have n3 : L 7 lz10_spec_DrawOrderForward [(2, .pp 1 0), (4, .pp 2 0), (5, .pp 4 0), (6, .sl 6), (56, .v (.bool (y_11 && (decide (0 < (t6s.length : Int)))))), (57, .sl 6), (58, .sl 6), (59, .v (.int .i64 (t6s.length : Int))), (60, .sl 6), (61, .sl 6), (62, .v (.int .i64 (t6s.length : Int))), (63, .v (.int .i64 ((t6s.length : Int) - 1))), (64, .ep 6 (((t6s.length : Int) - 1).toNat) 1 0), (67, .pp 2 0)] [.row false (.ints .u8 a0), .box [.v (.int .i64 0), .v (.slice none 0 0)], .box [.sl 3, .v (.int .i64 y_12)], .row false (.ints .u8 y), .box [.v (.int .i64 y_2), .sl 5], .row true (.trips y_3), .row true (.ints .i64 t6s)] := by
                    refine hL.step [(8, [], 6, lz8_spec_DrawOrderForward), (11, [], 6, lz9_spec_DrawOrderForward)] (by kernel_rfl) ⟨?_, ?_, trivial⟩
                    · exact hL.edge n4
                    · simp (maxSteps := 4000000) only [go_sem, Nat.reduceBEq, Nat.reduceLT, Nat.reduceAdd, Nat.reduceLeDiff, Nat.reduceSub, Nat.reduceEqDiff, Int.reduceToNat, reduceCtorEq, ↓reduceIte]
                      repeat' (first | refine And.intro ?_ ?_ | intro hg)
                      all_goals (try simp (disch := omega) only [wrap_fits])
                      all_goals first
                        | (refine hL.red ?_ n12; exact Red.auto)
                        | exact trivial
                        | assumption
                        | omega
                        | exact wrap_fits (by omega) (by omega)
                        | (refine OpK_callA (k_spec_l20Rd_pick y y_12 3 (h := hr2)) [2, 3] [] ?_
                           rintro x Hc' ⟨rfl, rfl⟩ hlen
                           simp (maxSteps := 4000000) only [go_sem, Nat.reduceBEq, Nat.reduceLT, Nat.reduceAdd, Nat.reduceLeDiff, Nat.reduceSub, Nat.reduceEqDiff, Int.reduceToNat, reduceCtorEq, ↓reduceIte]
                           repeat' (first | refine And.intro ?_ ?_ | intro hg)
                           all_goals (try simp (disch := omega) only [wrap_fits])
                           all_goals first
                             | (refine hL.red ?_ n12; exact Red.auto)
                             | exact trivial
                             | assumption
                             | omega
                             | exact wrap_fits (by omega) (by omega)
                             | (simp_all; done)
                             | (simp_all; omega))
                        | (simp (maxSteps := 4000000) only [go_sem, Nat.reduceBEq, Nat.reduceLT, Nat.reduceAdd, Nat.reduceLeDiff, Nat.reduceSub, Nat.reduceEqDiff, Int.reduceToNat, reduceCtorEq, ↓reduceIte]
                           repeat' (first | refine And.intro ?_ ?_ | intro hg)
                           all_goals (try simp (disch := omega) only [wrap_fits])
                           all_goals first | (refine hL.red ?_ n12; exact Red.auto) | exact trivial | assumption | omega | exact wrap_fits (by omega) (by omega))
                        | (simp_all; done)
                        | (simp_all; omega)
                  have n13 : L 7 lz11_spec_DrawOrderForward [(2, .pp 1 0), (4, .pp 2 0), (5, .pp 4 0), (6, .sl 6), (56, .v (.bool (y_11 && (decide (0 < (t6s.length : Int)))))), (57, .sl 6), (58, .sl 6), (59, .v (.int .i64 (t6s.length : Int))), (60, .sl 6), (61, .sl 6), (62, .v (.int .i64 (t6s.length : Int))), (63, .v (.int .i64 ((t6s.length : Int) - 1))), (67, .pp 2 0), (68, .v (.int .i64 y_13))] [.row false (.ints .u8 a0), .box [.v (.int .i64 0), .v (.slice none 0 0)], .box [.sl 3, .v (.int .i64 y_14)], .row false (.ints .u8 y), .box [.v (.int .i64 y_2), .sl 5], .row true (.trips y_3), .row true (.ints .i64 t6s)] := by
                    refine hL.step [(7, [], 6, lz9_spec_DrawOrderForward)] (by kernel_rfl) ⟨?_, trivial⟩
                    · exact hL.edge n12
                  have n2 : L 8 lz12_spec_DrawOrderForward [(2, .pp 1 0), (4, .pp 2 0), (5, .pp 4 0), (6, .sl 6), (56, .v (.bool (y_11 && (decide (0 < (t6s.length : Int)))))), (57, .sl 6), (58, .sl 6), (59, .v (.int .i64 (t6s.length : Int))), (60, .sl 6), (61, .sl 6), (62, .v (.int .i64 (t6s.length : Int))), (63, .v (.int .i64 ((t6s.length : Int) - 1))), (67, .pp 2 0)] [.row false (.ints .u8 a0), .box [.v (.int .i64 0), .v (.slice none 0 0)], .box [.sl 3, .v (.int .i64 y_12)], .row false (.ints .u8 y), .box [.v (.int .i64 y_2), .sl 5], .row true (.trips y_3), .row true (.ints .i64 t6s)] := by
                    refine hL.step [(7, [], 7, lz10_spec_DrawOrderForward), (11, [], 7, lz11_spec_DrawOrderForward)] (by kernel_rfl) ⟨?_, ?_, trivial⟩
                    · exact hL.edge n3
                    · simp (maxSteps := 4000000) only [go_sem, Nat.reduceBEq, Nat.reduceLT, Nat.reduceAdd, Nat.reduceLeDiff, Nat.reduceSub, Nat.reduceEqDiff, Int.reduceToNat, reduceCtorEq, ↓reduceIte]
                      repeat' (first | refine And.intro ?_ ?_ | intro hg)
                      all_goals (try simp (disch := omega) only [wrap_fits])
                      all_goals first
                        | (refine hL.red ?_ n13; exact Red.auto)
                        | exact trivial
                        | assumption
                        | omega
                        | exact wrap_fits (by omega) (by omega)
                        | (refine OpK_callA (k_spec_l20Rd_pick y y_12 3 (h := hr2)) [2, 3] [] ?_
                           rintro x Hc' ⟨rfl, rfl⟩ hlen
                           simp (maxSteps := 4000000) only [go_sem, Nat.reduceBEq, Nat.reduceLT, Nat.reduceAdd, Nat.reduceLeDiff, Nat.reduceSub, Nat.reduceEqDiff, Int.reduceToNat, reduceCtorEq, ↓reduceIte]
                           repeat' (first | refine And.intro ?_ ?_ | intro hg)
                           all_goals (try simp (disch := omega) only [wrap_fits])
                           all_goals first
                             | (refine hL.red ?_ n13; exact Red.auto)
                             | exact trivial
                             | assumption
                             | omega
                             | exact wrap_fits (by omega) (by omega)
                             | (simp_all; done)
                             | (simp_all; omega))
                        | (simp (maxSteps := 4000000) only [go_sem, Nat.reduceBEq, Nat.reduceLT, Nat.reduceAdd, Nat.reduceLeDiff, Nat.reduceSub, Nat.reduceEqDiff, Int.reduceToNat, reduceCtorEq, ↓reduceIte]
                           repeat' (first | refine And.intro ?_ ?_ | intro hg)
                           all_goals (try simp (disch := omega) only [wrap_fits])
                           all_goals first | (refine hL.red ?_ n13; exact Red.auto) | exact trivial | assumption | omega | exact wrap_fits (by omega) (by omega))
                        | (simp_all; done)
                        | (simp_all; omega)
                  have n14 : L 9 lz13_spec_DrawOrderForward [(2, .pp 1 0), (4, .pp 2 0), (5, .pp 4 0), (6, .sl 6), (56, .v (.bool (y_11 && (decide (0 < (t6s.length : Int)))))), (57, .sl 6), (58, .sl 6), (59, .v (.int .i64 (t6s.length : Int))), (60, .sl 6), (61, .sl 6), (67, .pp 2 0), (68, .v (.int .i64 y_13))] [.row false (.ints .u8 a0), .box [.v (.int .i64 0), .v (.slice none 0 0)], .box [.sl 3, .v (.int .i64 y_14)], .row false (.ints .u8 y), .box [.v (.int .i64 y_2), .sl 5], .row true (.trips y_3), .row true (.ints .i64 t6s)] := by
                    refine hL.step [(5, [6], 7, lz11_spec_DrawOrderForward)] (by kernel_rfl) ⟨?_, trivial⟩
                    · exact hL.edge n13
                  have n1 : L 10 lz14_spec_DrawOrderForward [(2, .pp 1 0), (4, .pp 2 0), (5, .pp 4 0), (6, .sl 6), (56, .v (.bool (y_11 && (decide (0 < (t6s.length : Int)))))), (57, .sl 6), (58, .sl 6), (59, .v (.int .i64 (t6s.length : Int))), (60, .sl 6), (61, .sl 6), (67, .pp 2 0)] [.row false (.ints .u8 a0), .box [.v (.int .i64 0), .v (.slice none 0 0)], .box [.sl 3, .v (.int .i64 y_12)], .row false (.ints .u8 y), .box [.v (.int .i64 y_2), .sl 5], .row true (.trips y_3), .row true (.ints .i64 t6s)] := by
                    refine hL.step [(5, [6], 8, lz12_spec_DrawOrderForward), (11, [], 9, lz13_spec_DrawOrderForward)] (by kernel_rfl) ⟨?_, ?_, trivial⟩
                    · exact hL.edge n2
                    · simp (maxSteps := 4000000) only [go_sem, Nat.reduceBEq, Nat.reduceLT, Nat.reduceAdd, Nat.reduceLeDiff, Nat.reduceSub, Nat.reduceEqDiff, Int.reduceToNat, reduceCtorEq, ↓reduceIte]
                      repeat' (first | refine And.intro ?_ ?_ | intro hg)
                      all_goals (try simp (disch := omega) only [wrap_fits])
                      all_goals first
                        | (refine hL.red ?_ n14; exact Red.auto)
                        | exact trivial
                        | assumption
                        | omega
                        | exact wrap_fits (by omega) (by omega)
                        | (refine OpK_callA (k_spec_l20Rd_pick y y_12 3 (h := hr2)) [2, 3] [] ?_
                           rintro x Hc' ⟨rfl, rfl⟩ hlen
                           simp (maxSteps := 4000000) only [go_sem, Nat.reduceBEq, Nat.reduceLT, Nat.reduceAdd, Nat.reduceLeDiff, Nat.reduceSub, Nat.reduceEqDiff, Int.reduceToNat, reduceCtorEq, ↓reduceIte]
                           repeat' (first | refine And.intro ?_ ?_ | intro hg)
                           all_goals (try simp (disch := omega) only [wrap_fits])
                           all_goals first
                             | (refine hL.red ?_ n14; exact Red.auto)
                             | exact trivial
                             | assumption
                             | omega
                             | exact wrap_fits (by omega) (by omega)
                             | (simp_all; done)
                             | (simp_all; omega))
                        | (simp (maxSteps := 4000000) only [go_sem, Nat.reduceBEq, Nat.reduceLT, Nat.reduceAdd, Nat.reduceLeDiff, Nat.reduceSub, Nat.reduceEqDiff, Int.reduceToNat, reduceCtorEq, ↓reduceIte]
                           repeat' (first | refine And.intro ?_ ?_ | intro hg)
                           all_goals (try simp (disch := omega) only [wrap_fits])
                           all_goals first | (refine hL.red ?_ n14; exact Red.auto) | exact trivial | assumption | omega | exact wrap_fits (by omega) (by omega))
                        | (simp_all; done)
                        | (simp_all; omega)
                  have n18 : L 6 lz15_spec_DrawOrderForward [(2, .pp 1 0), (4, .pp 2 0), (5, .pp 4 0), (6, .sl 6), (56, .v (.bool (y_11 && (decide (0 < (t6s.length : Int)))))), (57, .sl 6), (58, .sl 6), (60, .sl 6), (61, .sl 6), (62, .v (.int .i64 (t6s.length : Int))), (63, .v (.int .i64 ((t6s.length : Int) - 1))), (64, .ep 6 (((t6s.length : Int) - 1).toNat) 1 0), (65, .v (.int .i64 (t6s.getD (((t6s.length : Int) - 1).toNat) 0))), (67, .pp 2 0), (68, .v (.int .i64 y_13))] [.row false (.ints .u8 a0), .box [.v (.int .i64 0), .v (.slice none 0 0)], .box [.sl 3, .v (.int .i64 y_14)], .row false (.ints .u8 y), .box [.v (.int .i64 y_2), .sl 5], .row true (.trips y_3), .row true (.ints .i64 t6s)] := by
                    refine hL.step [(2, [], 5, lz7_spec_DrawOrderForward)] (by kernel_rfl) ⟨?_, trivial⟩
                    · exact hL.edge n11
                  have n17 : L 7 lz16_spec_DrawOrderForward [(2, .pp 1 0), (4, .pp 2 0), (5, .pp 4 0), (6, .sl 6), (56, .v (.bool (y_11 && (decide (0 < (t6s.length : Int)))))), (57, .sl 6), (58, .sl 6), (60, .sl 6), (61, .sl 6), (62, .v (.int .i64 (t6s.length : Int))), (63, .v (.int .i64 ((t6s.length : Int) - 1))), (64, .ep 6 (((t6s.length : Int) - 1).toNat) 1 0), (65, .v (.int .i64 (t6s.getD (((t6s.length : Int) - 1).toNat) 0))), (67, .pp 2 0)] [.row false (.ints .u8 a0), .box [.v (.int .i64 0), .v (.slice none 0 0)], .box [.sl 3, .v (.int .i64 y_12)], .row false (.ints .u8 y), .box [.v (.int .i64 y_2), .sl 5], .row true (.trips y_3), .row true (.ints .i64 t6s)] := by
                    refine hL.step [(2, [], 6, lz8_spec_DrawOrderForward), (11, [], 6, lz15_spec_DrawOrderForward)] (by kernel_rfl) ⟨?_, ?_, trivial⟩
                    · exact hL.edge n4
                    · simp (maxSteps := 4000000) only [go_sem, Nat.reduceBEq, Nat.reduceLT, Nat.reduceAdd, Nat.reduceLeDiff, Nat.reduceSub, Nat.reduceEqDiff, Int.reduceToNat, reduceCtorEq, ↓reduceIte]
                      repeat' (first | refine And.intro ?_ ?_ | intro hg)
                      all_goals (try simp (disch := omega) only [wrap_fits])
                      all_goals first
                        | (refine hL.red ?_ n18; exact Red.auto)
                        | exact trivial
                        | assumption
                        | omega
                        | exact wrap_fits (by omega) (by omega)
                        | (refine OpK_callA (k_spec_l20Rd_pick y y_12 3 (h := hr2)) [2, 3] [] ?_
                           rintro x Hc' ⟨rfl, rfl⟩ hlen
                           simp (maxSteps := 4000000) only [go_sem, Nat.reduceBEq, Nat.reduceLT, Nat.reduceAdd, Nat.reduceLeDiff, Nat.reduceSub, Nat.reduceEqDiff, Int.reduceToNat, reduceCtorEq, ↓reduceIte]
                           repeat' (first | refine And.intro ?_ ?_ | intro hg)
                           all_goals (try simp (disch := omega) only [wrap_fits])
                           all_goals first
                             | (refine hL.red ?_ n18; exact Red.auto)
                             | exact trivial
                             | assumption
                             | omega
                             | exact wrap_fits (by omega) (by omega)
                             | (simp_all; done)
                             | (simp_all; omega))
                        | (simp (maxSteps := 4000000) only [go_sem, Nat.reduceBEq, Nat.reduceLT, Nat.reduceAdd, Nat.reduceLeDiff, Nat.reduceSub, Nat.reduceEqDiff, Int.reduceToNat, reduceCtorEq, ↓reduceIte]
                           repeat' (first | refine And.intro ?_ ?_ | intro hg)
                           all_goals (try simp (disch := omega) only [wrap_fits])
                           all_goals first | (refine hL.red ?_ n18; exact Red.auto) | exact trivial | assumption | omega | exact wrap_fits (by omega) (by omega))
                        | (simp_all; done)
                        | (simp_all; omega)
                  have n19 : L 7 lz17_spec_DrawOrderForward [(2, .pp 1 0), (4, .pp 2 0), (5, .pp 4 0), (6, .sl 6), (56, .v (.bool (y_11 && (decide (0 < (t6s.length : Int)))))), (57, .sl 6), (58, .sl 6), (60, .sl 6), (61, .sl 6), (62, .v (.int .i64 (t6s.length : Int))), (63, .v (.int .i64 ((t6s.length : Int) - 1))), (64, .ep 6 (((t6s.length : Int) - 1).toNat) 1 0), (67, .pp 2 0), (68, .v (.int .i64 y_13))] [.row false (.ints .u8 a0), .box [.v (.int .i64 0), .v (.slice none 0 0)], .box [.sl 3, .v (.int .i64 y_14)], .row false (.ints .u8 y), .box [.v (.int .i64 y_2), .sl 5], .row true (.trips y_3), .row true (.ints .i64 t6s)] := by
                    refine hL.step [(2, [], 6, lz9_spec_DrawOrderForward), (8, [], 6, lz15_spec_DrawOrderForward)] (by kernel_rfl) ⟨?_, ?_, trivial⟩
                    · exact hL.edge n12
                    · exact hL.edge n18
                  have n16 : L 8 lz18_spec_DrawOrderForward [(2, .pp 1 0), (4, .pp 2 0), (5, .pp 4 0), (6, .sl 6), (56, .v (.bool (y_11 && (decide (0 < (t6s.length : Int)))))), (57, .sl 6), (58, .sl 6), (60, .sl 6), (61, .sl 6), (62, .v (.int .i64 (t6s.length : Int))), (63, .v (.int .i64 ((t6s.length : Int) - 1))), (64, .ep 6 (((t6s.length : Int) - 1).toNat) 1 0), (67, .pp 2 0)] [.row false (.ints .u8 a0), .box [.v (.int .i64 0), .v (.slice none 0 0)], .box [.sl 3, .v (.int .i64 y_12)], .row false (.ints .u8 y), .box [.v (.int .i64 y_2), .sl 5], .row true (.trips y_3), .row true (.ints .i64 t6s)] := by
                    refine hL.step [(2, [], 7, lz10_spec_DrawOrderForward), (8, [], 7, lz16_spec_DrawOrderForward), (11, [], 7, lz17_spec_DrawOrderForward)] (by kernel_rfl) ⟨?_, ?_, ?_, trivial⟩
                    · exact hL.edge n3
                    · exact hL.edge n17
                    · simp (maxSteps := 4000000) only [go_sem, Nat.reduceBEq, Nat.reduceLT, Nat.reduceAdd, Nat.reduceLeDiff, Nat.reduceSub, Nat.reduceEqDiff, Int.reduceToNat, reduceCtorEq, ↓reduceIte]
                      repeat' (first | refine And.intro ?_ ?_ | intro hg)
                      all_goals (try simp (disch := omega) only [wrap_fits])
                      all_goals first
                        | (refine hL.red ?_ n19; exact Red.auto)
                        | exact trivial
                        | assumption
                        | omega
                        | exact wrap_fits (by omega) (by omega)
                        | (refine OpK_callA (k_spec_l20Rd_pick y y_12 3 (h := hr2)) [2, 3] [] ?_
                           rintro x Hc' ⟨rfl, rfl⟩ hlen
                           simp (maxSteps := 4000000) only [go_sem, Nat.reduceBEq, Nat.reduceLT, Nat.reduceAdd, Nat.reduceLeDiff, Nat.reduceSub, Nat.reduceEqDiff, Int.reduceToNat, reduceCtorEq, ↓reduceIte]
                           repeat' (first | refine And.intro ?_ ?_ | intro hg)
                           all_goals (try simp (disch := omega) only [wrap_fits])
                           all_goals first
                             | (refine hL.red ?_ n19; exact Red.auto)
                             | exact trivial
                             | assumption
                             | omega
                             | exact wrap_fits (by omega) (by omega)
                             | (simp_all; done)
                             | (simp_all; omega))
                        | (simp (maxSteps := 4000000) only [go_sem, Nat.reduceBEq, Nat.reduceLT, Nat.reduceAdd, Nat.reduceLeDiff, Nat.reduceSub, Nat.reduceEqDiff, Int.reduceToNat, reduceCtorEq, ↓reduceIte]
                           repeat' (first | refine And.intro ?_ ?_ | intro hg)
                           all_goals (try simp (disch := omega) only [wrap_fits])
                           all_goals first | (refine hL.red ?_ n19; exact Red.auto) | exact trivial | assumption | omega | exact wrap_fits (by omega) (by omega))
                        | (simp_all; done)
                        | (simp_all; omega)
                  have n20 : L 8 lz19_spec_DrawOrderForward [(2, .pp 1 0), (4, .pp 2 0), (5, .pp 4 0), (6, .sl 6), (56, .v (.bool (y_11 && (decide (0 < (t6s.length : Int)))))), (57, .sl 6), (58, .sl 6), (60, .sl 6), (61, .sl 6), (62, .v (.int .i64 (t6s.length : Int))), (63, .v (.int .i64 ((t6s.length : Int) - 1))), (67, .pp 2 0), (68, .v (.int .i64 y_13))] [.row false (.ints .u8 a0), .box [.v (.int .i64 0), .v (.slice none 0 0)], .box [.sl 3, .v (.int .i64 y_14)], .row false (.ints .u8 y), .box [.v (.int .i64 y_2), .sl 5], .row true (.trips y_3), .row true (.ints .i64 t6s)] := by
                    refine hL.step [(2, [], 7, lz11_spec_DrawOrderForward), (7, [], 7, lz17_spec_DrawOrderForward)] (by kernel_rfl) ⟨?_, ?_, trivial⟩
                    · exact hL.edge n13
                    · exact hL.edge n19
                  have n15 : L 9 lz20_spec_DrawOrderForward [(2, .pp 1 0), (4, .pp 2 0), (5, .pp 4 0), (6, .sl 6), (56, .v (.bool (y_11 && (decide (0 < (t6s.length : Int)))))), (57, .sl 6), (58, .sl 6), (60, .sl 6), (61, .sl 6), (62, .v (.int .i64 (t6s.length : Int))), (63, .v (.int .i64 ((t6s.length : Int) - 1))), (67, .pp 2 0)] [.row false (.ints .u8 a0), .box [.v (.int .i64 0), .v (.slice none 0 0)], .box [.sl 3, .v (.int .i64 y_12)], .row false (.ints .u8 y), .box [.v (.int .i64 y_2), .sl 5], .row true (.trips y_3), .row true (.ints .i64 t6s)] := by
                    refine hL.step [(2, [], 8, lz12_spec_DrawOrderForward), (7, [], 8, lz18_spec_DrawOrderForward), (11, [], 8, lz19_spec_DrawOrderForward)] (by kernel_rfl) ⟨?_, ?_, ?_, trivial⟩
                    · exact hL.edge n2
                    · exact hL.edge n16
                    · simp (maxSteps := 4000000) only [go_sem, Nat.reduceBEq, Nat.reduceLT, Nat.reduceAdd, Nat.reduceLeDiff, Nat.reduceSub, Nat.reduceEqDiff, Int.reduceToNat, reduceCtorEq, ↓reduceIte]
                      repeat' (first | refine And.intro ?_ ?_ | intro hg)
                      all_goals (try simp (disch := omega) only [wrap_fits])
                      all_goals first
                        | (refine hL.red ?_ n20; exact Red.auto)
                        | exact trivial
                        | assumption
                        | omega
                        | exact wrap_fits (by omega) (by omega)
                        | (refine OpK_callA (k_spec_l20Rd_pick y y_12 3 (h := hr2)) [2, 3] [] ?_
                           rintro x Hc' ⟨rfl, rfl⟩ hlen
                           simp (maxSteps := 4000000) only [go_sem, Nat.reduceBEq, Nat.reduceLT, Nat.reduceAdd, Nat.reduceLeDiff, Nat.reduceSub, Nat.reduceEqDiff, Int.reduceToNat, reduceCtorEq, ↓reduceIte]
                           repeat' (first | refine And.intro ?_ ?_ | intro hg)
                           all_goals (try simp (disch := omega) only [wrap_fits])
                           all_goals first
                             | (refine hL.red ?_ n20; exact Red.auto)
                             | exact trivial
                             | assumption
                             | omega
                             | exact wrap_fits (by omega) (by omega)
                             | (simp_all; done)
                             | (simp_all; omega))
                        | (simp (maxSteps := 4000000) only [go_sem, Nat.reduceBEq, Nat.reduceLT, Nat.reduceAdd, Nat.reduceLeDiff, Nat.reduceSub, Nat.reduceEqDiff, Int.reduceToNat, reduceCtorEq, ↓reduceIte]
                           repeat' (first | refine And.intro ?_ ?_ | intro hg)
                           all_goals (try simp (disch := omega) only [wrap_fits])
                           all_goals first | (refine hL.red ?_ n20; exact Red.auto) | exact trivial | assumption | omega | exact wrap_fits (by omega) (by omega))
                        | (simp_all; done)
                        | (simp_all; omega)
                  have n21 : L 10 lz21_spec_DrawOrderForward [(2, .pp 1 0), (4, .pp 2 0), (5, .pp 4 0), (6, .sl 6), (56, .v (.bool (y_11 && (decide (0 < (t6s.length : Int)))))), (57, .sl 6), (58, .sl 6), (60, .sl 6), (61, .sl 6), (67, .pp 2 0), (68, .v (.int .i64 y_13))] [.row false (.ints .u8 a0), .box [.v (.int .i64 0), .v (.slice none 0 0)], .box [.sl 3, .v (.int .i64 y_14)], .row false (.ints .u8 y), .box [.v (.int .i64 y_2), .sl 5], .row true (.trips y_3), .row true (.ints .i64 t6s)] := by
                    refine hL.step [(2, [], 9, lz13_spec_DrawOrderForward), (5, [6], 8, lz19_spec_DrawOrderForward)] (by kernel_rfl) ⟨?_, ?_, trivial⟩
                    · exact hL.edge n14
                    · exact hL.edge n20
                  have n0 : L 11 lz0_spec_DrawOrderForward [(2, .pp 1 0), (4, .pp 2 0), (5, .pp 4 0), (6, .sl 6), (56, .v (.bool (y_11 && (decide (0 < (t6s.length : Int)))))), (57, .sl 6), (58, .sl 6), (60, .sl 6), (61, .sl 6), (67, .pp 2 0)] [.row false (.ints .u8 a0), .box [.v (.int .i64 0), .v (.slice none 0 0)], .box [.sl 3, .v (.int .i64 y_12)], .row false (.ints .u8 y), .box [.v (.int .i64 y_2), .sl 5], .row true (.trips y_3), .row true (.ints .i64 t6s)] := by
                    refine hL.step [(2, [], 10, lz14_spec_DrawOrderForward), (5, [6], 9, lz20_spec_DrawOrderForward), (11, [], 10, lz21_spec_DrawOrderForward)] (by kernel_rfl) ⟨?_, ?_, ?_, trivial⟩
                    · exact hL.edge n1
                    · exact hL.edge n15
                    · simp (maxSteps := 4000000) only [go_sem, Nat.reduceBEq, Nat.reduceLT, Nat.reduceAdd, Nat.reduceLeDiff, Nat.reduceSub, Nat.reduceEqDiff, Int.reduceToNat, reduceCtorEq, ↓reduceIte]
                      repeat' (first | refine And.intro ?_ ?_ | intro hg)
                      all_goals (try simp (disch := omega) only [wrap_fits])
                      all_goals first
                        | (refine hL.red ?_ n21; exact Red.auto)
                        | exact trivial
                        | assumption
                        | omega
                        | exact wrap_fits (by omega) (by omega)
                        | (refine OpK_callA (k_spec_l20Rd_pick y y_12 3 (h := hr2)) [2, 3] [] ?_
                           rintro x Hc' ⟨rfl, rfl⟩ hlen
                           simp (maxSteps := 4000000) only [go_sem, Nat.reduceBEq, Nat.reduceLT, Nat.reduceAdd, Nat.reduceLeDiff, Nat.reduceSub, Nat.reduceEqDiff, Int.reduceToNat, reduceCtorEq, ↓reduceIte]
                           repeat' (first | refine And.intro ?_ ?_ | intro hg)
                           all_goals (try simp (disch := omega) only [wrap_fits])
                           all_goals first
                             | (refine hL.red ?_ n21; exact Red.auto)
                             | exact trivial
                             | assumption
                             | omega
                             | exact wrap_fits (by omega) (by omega)
                             | (simp_all; done)
                             | (simp_all; omega))
                        | (simp (maxSteps := 4000000) only [go_sem, Nat.reduceBEq, Nat.reduceLT, Nat.reduceAdd, Nat.reduceLeDiff, Nat.reduceSub, Nat.reduceEqDiff, Int.reduceToNat, reduceCtorEq, ↓reduceIte]
                           repeat' (first | refine And.intro ?_ ?_ | intro hg)
                           all_goals (try simp (disch := omega) only [wrap_fits])
                           all_goals first | (refine hL.red ?_ n21; exact Red.auto) | exact trivial | assumption | omega | exact wrap_fits (by omega) (by omega))
                        | (simp_all; done)
                        | (simp_all; omega)
                  simp (maxSteps := 4000000) only [go_sem, Nat.reduceBEq, Nat.reduceLT, Nat.reduceAdd, Nat.reduceLeDiff, Nat.reduceSub, Nat.reduceEqDiff, Int.reduceToNat, reduceCtorEq, ↓reduceIte]
                  repeat' (first | refine And.intro ?_ ?_ | intro hg)
                  all_goals (try simp (disch := omega) only [wrap_fits])
                  all_goals first
                    | (refine hL.red ?_ n0; exact Red.auto)
                    | exact trivial
                    | assumption
                    | omega
                    | exact wrap_fits (by omega) (by omega)
                    | (simp (maxSteps := 4000000) only [go_sem, Nat.reduceBEq, Nat.reduceLT, Nat.reduceAdd, Nat.reduceLeDiff, Nat.reduceSub, Nat.reduceEqDiff, Int.reduceToNat, reduceCtorEq, ↓reduceIte]
                       repeat' (first | refine And.intro ?_ ?_ | intro hg)
                       all_goals (try simp (disch := omega) only [wrap_fits])
                       all_goals first | (refine hL.red ?_ n0; exact Red.auto) | exact trivial | assumption | omega | exact wrap_fits (by omega) (by omega))
                    | (simp_all; done)
                    | (simp_all; omega)
                · clear hp0 hp1 hr2 hp3 hp4
                  (try simp only [Thn, InBlk, ↓reduceIte, Nat.reduceEqDiff])
                  refine ⟨_, h, ?_⟩
                  exact Red.selA [0, 1, 4, 5, 6] Red.auto
              · replace h := bite_f h hc30
                refine awp_skip ?_
                (try simp only [Thn, InBlk, ↓reduceIte, Nat.reduceEqDiff])
                refine ⟨_, h, ?_⟩
                exact Red.selA [0, 1, 4, 5, 6] Red.auto
          · clear h
            rintro t6s_3 h
            try dsimp only at h
            try dsimp only
            refine awp_reg ftCOk [(2, .pp 1 0), (3, .sl 4)] [.row false (.ints .u8 a0), .box [.v (.int .i64 y_2), .sl 3], .box [.v (.int .i64 y_2), .sl 3], .row true (.trips y_3), .row true (.ints .i64 t6s_3)] ?_
            refine awp_ret ?_
            (try simp only [Thn, InBlk, ↓reduceIte, Nat.reduceEqDiff])
            obtain rfl := Option.some.inj h
            refine ⟨by simp, _, [0, 3, 4], (by simp only [go_sem, Nat.reduceBEq, Nat.reduceLT, Nat.reduceAdd, Nat.reduceLeDiff, Nat.reduceSub, Nat.reduceEqDiff, Int.reduceToNat, reduceCtorEq, ↓reduceIte]; exact rfl), ?_, ?_, ?_, ?_⟩
            · first | exact trivial | exact ⟨trivial, trivial⟩ | exact ⟨trivial, trivial, trivial⟩ | exact ⟨trivial, trivial, trivial, trivial⟩ | (simp only [allP, and_true, true_and]; done) | (simp only [allP, and_true, true_and]; omega)
            · simp [selOk, pos]
            · simp
            · first | exact ⟨rfl, rfl⟩ | (simp only [go_sem, Nat.reduceBEq, Nat.reduceLT, Nat.reduceAdd, Nat.reduceLeDiff, Nat.reduceSub, Nat.reduceEqDiff, Int.reduceToNat, reduceCtorEq, ↓reduceIte]; done) | (simp [go_sem, Nat.reduceBEq, Nat.reduceLT, Nat.reduceAdd, Nat.reduceLeDiff, Nat.reduceSub, Nat.reduceEqDiff, Int.reduceToNat, reduceCtorEq, ↓reduceIte]; done) | (simp only [go_sem, Nat.reduceBEq, Nat.reduceLT, Nat.reduceAdd, Nat.reduceLeDiff, Nat.reduceSub, Nat.reduceEqDiff, Int.reduceToNat, reduceCtorEq, ↓reduceIte]; exact ⟨rfl, rfl⟩) | (simp_all [go_sem, Nat.reduceBEq, Nat.reduceLT, Nat.reduceAdd, Nat.reduceLeDiff, Nat.reduceSub, Nat.reduceEqDiff, Int.reduceToNat, reduceCtorEq, ↓reduceIte]; done)
theorem k_impl_Graph_has (a0_0 : Int) (a0_1 : List (Int × Int × Int)) (a1 : Int) {r : Bool} (h : impl_Graph_has a0_0 a0_1 a1 = some r) :
    FnA Tryd.prog 40 [.agg [.v (.int .i64 a0_0), .sl 0], .v (.int .i64 a1)] [.row false (.trips a0_1)] [] (fun x H => x = .v (.bool r) ∧ H = [.row false (.trips a0_1)]) := by
  unfold impl_Graph_has at h
  refine FnA.of (N := 13) (pin := [0]) (rs := [.tmp 4]) Tryd.func40 rfl en40 rfl rfl (by simp) (by simp; try omega) ?_
  refine awp_reg ftCOk [(1, .v (.int .i64 a1)), (2, .pp 1 0)] [.row false (.trips a0_1), .box [.v (.int .i64 a0_0), .sl 0]] ?_
  refine awp_freeze 2 (by rfl) (by rfl) (by exact rfl) ?_
  refine awp_reg ftCOk [(4, .v (.bool ((decide (0 ≤ a1)) && (decide (a1 < a0_0)))))] [.row false (.trips a0_1), .rbox [.v (.int .i64 a0_0), .sl 0]] ?_
  refine awp_ret ?_
  (try simp only [Thn, InBlk, ↓reduceIte, Nat.reduceEqDiff])
  obtain rfl := Option.some.inj h
  refine ⟨by simp, _, [0], (by simp only [go_sem, Nat.reduceBEq, Nat.reduceLT, Nat.reduceAdd, Nat.reduceLeDiff, Nat.reduceSub, Nat.reduceEqDiff, Int.reduceToNat, reduceCtorEq, ↓reduceIte]; exact rfl), ?_, ?_, ?_, ?_⟩
  · first | exact trivial | exact ⟨trivial, trivial⟩ | exact ⟨trivial, trivial, trivial⟩ | exact ⟨trivial, trivial, trivial, trivial⟩ | (simp only [allP, and_true, true_and]; done) | (simp only [allP, and_true, true_and]; omega)
  · simp [selOk, pos]
  · simp
  · first | exact ⟨rfl, rfl⟩ | (simp only [go_sem, Nat.reduceBEq, Nat.reduceLT, Nat.reduceAdd, Nat.reduceLeDiff, Nat.reduceSub, Nat.reduceEqDiff, Int.reduceToNat, reduceCtorEq, ↓reduceIte]; done) | (simp [go_sem, Nat.reduceBEq, Nat.reduceLT, Nat.reduceAdd, Nat.reduceLeDiff, Nat.reduceSub, Nat.reduceEqDiff, Int.reduceToNat, reduceCtorEq, ↓reduceIte]; done) | (simp only [go_sem, Nat.reduceBEq, Nat.reduceLT, Nat.reduceAdd, Nat.reduceLeDiff, Nat.reduceSub, Nat.reduceEqDiff, Int.reduceToNat, reduceCtorEq, ↓reduceIte]; exact ⟨rfl, rfl⟩) | (simp_all [go_sem, Nat.reduceBEq, Nat.reduceLT, Nat.reduceAdd, Nat.reduceLeDiff, Nat.reduceSub, Nat.reduceEqDiff, Int.reduceToNat, reduceCtorEq, ↓reduceIte]; done)
theorem k_impl_GraphValid (a0_0 : Int) (a0_1 : List (Int × Int × Int)) {r : Bool} (h : impl_GraphValid a0_0 a0_1 = some r) :
    FnA Tryd.prog 26 [.agg [.v (.int .i64 a0_0), .sl 0]] [.row false (.trips a0_1)] [] (fun x H => x = .v (.bool r) ∧ H = [.row false (.trips a0_1)]) := by
  unfold impl_GraphValid at h
  refine FnA.of (N := 68) (pin := [0]) (rs := [.tmp 2]) Tryd.func26 rfl en26 rfl rfl (by simp) (by simp; try omega) ?_
  refine awp_reg ftCOk [(1, .pp 1 0)] [.row false (.trips a0_1), .box [.v (.int .i64 a0_0), .sl 0]] ?_
  refine awp_freeze 1 (by rfl) (by rfl) (by exact rfl) ?_
  refine awp_seq fun K2 hK2 => ?_
  refine awp_reg ftCOk [(1, .pp 1 0), (18, .v (.bool (((decide (a0_0 < 0)) || (decide (16 < a0_0))) || (decide (40 < (a0_1.length : Int))))))] [.row false (.trips a0_1), .rbox [.v (.int .i64 a0_0), .sl 0]] ?_
  refine awp_cond (t := 18) rfl (fun hc3 => ?_) (fun hc3 => ?_)
  · replace h := bite_t h hc3
    refine awp_reg ftCOk [(2, .v (.bool false))] [.row false (.trips a0_1), .rbox [.v (.int .i64 a0_0), .sl 0]] ?_
    refine awp_ret ?_
    (try simp only [Thn, InBlk, ↓reduceIte, Nat.reduceEqDiff])
    obtain rfl := Option.some.inj h
    refine ⟨by simp, _, [0], (by simp only [go_sem, Nat.reduceBEq, Nat.reduceLT, Nat.reduceAdd, Nat.reduceLeDiff, Nat.reduceSub, Nat.reduceEqDiff, Int.reduceToNat, reduceCtorEq, ↓reduceIte]; exact rfl), ?_, ?_, ?_, ?_⟩
    · first | exact trivial | exact ⟨trivial, trivial⟩ | exact ⟨trivial, trivial, trivial⟩ | exact ⟨trivial, trivial, trivial, trivial⟩ | (simp only [allP, and_true, true_and]; done) | (simp only [allP, and_true, true_and]; omega)
    · simp [selOk, pos]
    · simp
    · first | exact ⟨rfl, rfl⟩ | (simp only [go_sem, Nat.reduceBEq, Nat.reduceLT, Nat.reduceAdd, Nat.reduceLeDiff, Nat.reduceSub, Nat.reduceEqDiff, Int.reduceToNat, reduceCtorEq, ↓reduceIte]; done) | (simp [go_sem, Nat.reduceBEq, Nat.reduceLT, Nat.reduceAdd, Nat.reduceLeDiff, Nat.reduceSub, Nat.reduceEqDiff, Int.reduceToNat, reduceCtorEq, ↓reduceIte]; done) | (simp only [go_sem, Nat.reduceBEq, Nat.reduceLT, Nat.reduceAdd, Nat.reduceLeDiff, Nat.reduceSub, Nat.reduceEqDiff, Int.reduceToNat, reduceCtorEq, ↓reduceIte]; exact ⟨rfl, rfl⟩) | (simp_all [go_sem, Nat.reduceBEq, Nat.reduceLT, Nat.reduceAdd, Nat.reduceLeDiff, Nat.reduceSub, Nat.reduceEqDiff, Int.reduceToNat, reduceCtorEq, ↓reduceIte]; done)
  · replace h := bite_f h hc3
    refine awp_skip ?_
    (try simp only [Thn, InBlk, ↓reduceIte, Nat.reduceEqDiff])
    refine hK2 _ _ ?_
    clear hK2
    refine awp_seq fun K59 hK59 => ?_
    refine awp_reg ftCOk [(1, .pp 1 0), (20, .sl 0), (21, .v (.int .i64 (a0_1.length : Int))), (22, .v (.int .i64 0))] [.row false (.trips a0_1), .rbox [.v (.int .i64 a0_0), .sl 0]] ?_
    refine awp_block ?_
    replace h := bind_some h
    obtain ⟨x114, hx, h⟩ := h
    refine awp_loopL hx (fun (t22 : Int) => [(1, .pp 1 0), (20, .sl 0), (21, .v (.int .i64 (a0_1.length : Int))), (22, .v (.int .i64 t22))]) (fun (t22 : Int) => [.row false (.trips a0_1), .rbox [.v (.int .i64 a0_0), .sl 0]]) (Sum.elim (fun (_ : Unit) => Exit.exit 0) (fun (_ : Unit) => Exit.ret)) (Sum.elim (fun (_ : Unit) => []) (fun (_ : Unit) => [(2, .v (.bool false))])) (Sum.elim (fun (_ : Unit) => [.row false (.trips a0_1)]) (fun (_ : Unit) => [.row false (.trips a0_1)])) ?_ ?_ ?_ ?_
    · rintro (⟨⟩ | ⟨⟩) hy <;> cases hy
    · clear h hx
      exact Red.auto
    · clear h hx
      rintro t22 r h
      unfold impl_GraphValid_b0 at h
      try dsimp only at h
      try dsimp only
      refine awp_reg ftCOk [(1, .pp 1 0), (20, .sl 0), (21, .v (.int .i64 (a0_1.length : Int))), (22, .v (.int .i64 t22)), (23, .v (.bool (decide (t22 < (a0_1.length : Int)))))] [.row false (.trips a0_1), .rbox [.v (.int .i64 a0_0), .sl 0]] ?_
      refine awp_seq fun K97 hK97 => ?_
      refine awp_cond (t := 23) rfl (fun hc98 => ?_) (fun hc98 => ?_)
      · replace h := bite_t h hc98
        refine awp_skip ?_
        (try simp only [Thn, InBlk, ↓reduceIte, Nat.reduceEqDiff])
        refine hK97 _ _ ?_
        clear hK97
        refine awp_seq fun K106 hK106 => ?_
        refine awp_block ?_
        replace h := chk_some h
        obtain ⟨hp0, h⟩ := h
        refine awp_reg ftCOk [(1, .pp 1 0), (3, .v (.int .i64 t22)), (4, .pp 2 0), (20, .sl 0), (21, .v (.int .i64 (a0_1.length : Int))), (22, .v (.int .i64 t22))] [.row false (.trips a0_1), .rbox [.v (.int .i64 a0_0), .sl 0], .box [.v (.int .i64 ((a0_1.getD t22.toNat (0, 0, 0)).1)), .v (.int .i64 ((a0_1.getD t22.toNat (0, 0, 0)).2.1)), .v (.int .i64 ((a0_1.getD t22.toNat (0, 0, 0)).2.2))]] ?_
        clear hp0
        refine awp_seq fun K108 hK108 => ?_
        replace h := bind_some h
        obtain ⟨y, hr0, h⟩ := h
        try dsimp only at h
        replace h := bind_some h
        obtain ⟨y_1, hr1, h⟩ := h
        try dsimp only at h
        refine awp_to [(1, .pp 1 0), (3, .v (.int .i64 t22)), (4, .pp 2 0), (20, .sl 0), (21, .v (.int .i64 (a0_1.length : Int))), (22, .v (.int .i64 t22)), (45, .v (.bool (((!y) || (!y_1)) || ((a0_1.getD t22.toNat (0, 0, 0)).1 == (a0_1.getD t22.toNat (0, 0, 0)).2.1))))] [.row false (.trips a0_1), .rbox [.v (.int .i64 a0_0), .sl 0], .box [.v (.int .i64 ((a0_1.getD t22.toNat (0, 0, 0)).1)), .v (.int .i64 ((a0_1.getD t22.toNat (0, 0, 0)).2.1)), .v (.int .i64 ((a0_1.getD t22.toNat (0, 0, 0)).2.2))]] ?_ ?_
        · clear h
          intro K hK
          refine awp_regionA ?_
          refine wpA_cutAt 12 [(1, .pp 1 0), (3, .v (.int .i64 t22)), (4, .pp 2 0), (20, .sl 0), (21, .v (.int .i64 (a0_1.length : Int))), (22, .v (.int .i64 t22)), (38, .v (.bool ((!y) || (!y_1))))] [.row false (.trips a0_1), .rbox [.v (.int .i64 a0_0), .sl 0], .box [.v (.int .i64 ((a0_1.getD t22.toNat (0, 0, 0)).1)), .v (.int .i64 ((a0_1.getD t22.toNat (0, 0, 0)).2.1)), .v (.int .i64 ((a0_1.getD t22.toNat (0, 0, 0)).2.2))]] ?_ ?_
          · clear hK K
            intro K hK
            refine vcOps_sound ftCOk ?_
            simp (maxSteps := 4000000) only [go_sem, Nat.reduceBEq, Nat.reduceLT, Nat.reduceAdd, Nat.reduceLeDiff, Nat.reduceSub, Nat.reduceEqDiff, Int.reduceToNat, reduceCtorEq, ↓reduceIte]
            repeat' (first | refine And.intro ?_ ?_ | intro hg)
            all_goals (try simp (disch := omega) only [wrap_fits])
            all_goals first
              | (refine hK _ _ ?_; exact Red.auto)
              | exact trivial
              | assumption
              | omega
              | exact wrap_fits (by omega) (by omega)
              | (refine wpA_callA (k_impl_Graph_has a0_0 a0_1 ((a0_1.getD t22.toNat (0, 0, 0)).1) (h := hr0)) [0] [] ?_
                 rintro x Hc' ⟨rfl, rfl⟩ hlen
                 refine vcOps_sound ftCOk ?_
                 simp (maxSteps := 4000000) only [go_sem, Nat.reduceBEq, Nat.reduceLT, Nat.reduceAdd, Nat.reduceLeDiff, Nat.reduceSub, Nat.reduceEqDiff, Int.reduceToNat, reduceCtorEq, ↓reduceIte]
                 repeat' (first | refine And.intro ?_ ?_ | intro hg)
                 all_goals (try simp (disch := omega) only [wrap_fits])
                 all_goals first
                   | (refine hK _ _ ?_; exact Red.auto)
                   | exact trivial
                   | assumption
                   | omega
                   | exact wrap_fits (by omega) (by omega)
                   | (refine wpA_guard rfl rfl ?_
                      refine wpA_callA (k_impl_Graph_has a0_0 a0_1 ((a0_1.getD t22.toNat (0, 0, 0)).2.1) (h := (bite_t hr1 (by rw [Bool.not_eq_true']; exact (by first | assumption | (simp only [*, Bool.false_or, Bool.true_or, Bool.or_false, Bool.or_true, Bool.false_and, Bool.true_and, Bool.and_false, Bool.and_true, Bool.not_true, Bool.not_false, beq_self_eq_true]; done) | (simp_all; done)))))) [0] [] ?_
                      rintro x Hc' ⟨rfl, rfl⟩ hlen
                      refine vcOps_sound ftCOk ?_
                      simp (maxSteps := 4000000) only [go_sem, Nat.reduceBEq, Nat.reduceLT, Nat.reduceAdd, Nat.reduceLeDiff, Nat.reduceSub, Nat.reduceEqDiff, Int.reduceToNat, reduceCtorEq, ↓reduceIte]
                      repeat' (first | refine And.intro ?_ ?_ | intro hg)
                      all_goals (try simp (disch := omega) only [wrap_fits])
                      all_goals first
                        | (refine hK _ _ ?_; exact Red.auto)
                        | exact trivial
                        | assumption
                        | omega
                        | exact wrap_fits (by omega) (by omega)
                        | (simp_all; done)
                        | (simp_all; omega))
                   | (simp_all; done)
                   | (simp_all; omega))
              | (simp_all; done)
              | (simp_all; omega)
          refine vcOps_sound ftCOk ?_
          simp (maxSteps := 4000000) only [go_sem, Nat.reduceBEq, Nat.reduceLT, Nat.reduceAdd, Nat.reduceLeDiff, Nat.reduceSub, Nat.reduceEqDiff, Int.reduceToNat, reduceCtorEq, ↓reduceIte]
          repeat' (first | refine And.intro ?_ ?_ | intro hg)
          all_goals (try simp (disch := omega) only [wrap_fits])
          all_goals first
            | (refine hK _ _ ?_; exact Red.auto)
            | exact trivial
            | assumption
            | omega
            | exact wrap_fits (by omega) (by omega)
            | (simp_all; done)
            | (simp_all; omega)
        · clear hr0 hr1
          refine awp_cond (t := 45) rfl (fun hc109 => ?_) (fun hc109 => ?_)
          · replace h := bite_t h hc109
            refine awp_reg ftCOk [(2, .v (.bool false))] [.row false (.trips a0_1), .rbox [.v (.int .i64 a0_0), .sl 0], .box [.v (.int .i64 ((a0_1.getD t22.toNat (0, 0, 0)).1)), .v (.int .i64 ((a0_1.getD t22.toNat (0, 0, 0)).2.1)), .v (.int .i64 ((a0_1.getD t22.toNat (0, 0, 0)).2.2))]] ?_
            refine awp_ret ?_
            (try simp only [Thn, InBlk, ↓reduceIte, Nat.reduceEqDiff])
            obtain rfl := Option.some.inj h
            refine LoopQ.out rfl ?_
            exact Red.selA [0] Red.auto
          · replace h := bite_f h hc109
            refine awp_skip ?_
            (try simp only [Thn, InBlk, ↓reduceIte, Nat.reduceEqDiff])
            refine hK108 _ _ ?_
            clear hK108
            refine awp_seq fun K111 hK111 => ?_
            refine awp_reg ftCOk [(1, .pp 1 0), (3, .v (.int .i64 t22)), (4, .pp 2 0), (20, .sl 0), (21, .v (.int .i64 (a0_1.length : Int))), (22, .v (.int .i64 t22)), (53, .v (.bool ((decide ((a0_1.getD t22.toNat (0, 0, 0)).2.2 < 0)) || (decide (20 < (a0_1.getD t22.toNat (0, 0, 0)).2.2)))))] [.row false (.trips a0_1), .rbox [.v (.int .i64 a0_0), .sl 0], .box [.v (.int .i64 ((a0_1.getD t22.toNat (0, 0, 0)).1)), .v (.int .i64 ((a0_1.getD t22.toNat (0, 0, 0)).2.1)), .v (.int .i64 ((a0_1.getD t22.toNat (0, 0, 0)).2.2))]] ?_
            refine awp_cond (t := 53) rfl (fun hc112 => ?_) (fun hc112 => ?_)
            · replace h := bite_t h hc112
              refine awp_reg ftCOk [(2, .v (.bool false))] [.row false (.trips a0_1), .rbox [.v (.int .i64 a0_0), .sl 0], .box [.v (.int .i64 ((a0_1.getD t22.toNat (0, 0, 0)).1)), .v (.int .i64 ((a0_1.getD t22.toNat (0, 0, 0)).2.1)), .v (.int .i64 ((a0_1.getD t22.toNat (0, 0, 0)).2.2))]] ?_
              refine awp_ret ?_
              (try simp only [Thn, InBlk, ↓reduceIte, Nat.reduceEqDiff])
              obtain rfl := Option.some.inj h
              refine LoopQ.out rfl ?_
              exact Red.selA [0] Red.auto
            · replace h := bite_f h hc112
              refine awp_skip ?_
              (try simp only [Thn, InBlk, ↓reduceIte, Nat.reduceEqDiff])
              refine hK111 _ _ ?_
              clear hK111
              replace h := chk_some h
              obtain ⟨hp0, h⟩ := h
              have hwhp0 := wrap_fits hp0.1 hp0.2
              replace h := chk_some h
              obtain ⟨hp1, h⟩ := h
              refine awp_to [(1, .pp 1 0), (20, .sl 0), (21, .v (.int .i64 (a0_1.length : Int))), (22, .v (.int .i64 t22)), (66, .v (.bool ((decide (0 < t22)) && (decide (0 ≤ (orF [cmpI (a0_1.getD ((t22 - 1).toNat) (0, 0, 0)).1 (a0_1.getD t22.toNat (0, 0, 0)).1, cmpI (a0_1.getD ((t22 - 1).toNat) (0, 0, 0)).2.1 (a0_1.getD t22.toNat (0, 0, 0)).2.1]))))))] [.row false (.trips a0_1), .rbox [.v (.int .i64 a0_0), .sl 0], .box [.v (.int .i64 ((a0_1.getD t22.toNat (0, 0, 0)).1)), .v (.int .i64 ((a0_1.getD t22.toNat (0, 0, 0)).2.1)), .v (.int .i64 ((a0_1.getD t22.toNat (0, 0, 0)).2.2))]] ?_ ?_
              · clear h
                intro K hK
                refine awp_quietg mixed ftCOk (by kernel_rfl) ?_
                simp (maxSteps := 4000000) only [go_sem, Nat.reduceBEq, Nat.reduceLT, Nat.reduceAdd, Nat.reduceLeDiff, Nat.reduceSub, Nat.reduceEqDiff, Int.reduceToNat, reduceCtorEq, ↓reduceIte]
                repeat' (first | refine And.intro ?_ ?_ | intro hg)
                all_goals (try simp (disch := omega) only [wrap_fits])
                all_goals first
                  | (refine hK _ _ ?_; exact Red.auto)
                  | exact trivial
                  | assumption
                  | omega
                  | exact wrap_fits (by omega) (by omega)
                  | (have hq := hp1 (by first | assumption | (simp only [*, Bool.false_or, Bool.true_or, Bool.or_false, Bool.or_true, Bool.false_and, Bool.true_and, Bool.and_false, Bool.and_true, Bool.not_true, Bool.not_false, beq_self_eq_true]; done) | (simp_all; done)); omega)
                  | (simp_all; done)
                  | (simp_all; omega)
              · clear hp0 hp1
                refine awp_cond (t := 66) rfl (fun hc113 => ?_) (fun hc113 => ?_)
                · replace h := bite_t h hc113
                  refine awp_reg ftCOk [(2, .v (.bool false))] [.row false (.trips a0_1), .rbox [.v (.int .i64 a0_0), .sl 0], .box [.v (.int .i64 ((a0_1.getD t22.toNat (0, 0, 0)).1)), .v (.int .i64 ((a0_1.getD t22.toNat (0, 0, 0)).2.1)), .v (.int .i64 ((a0_1.getD t22.toNat (0, 0, 0)).2.2))]] ?_
                  refine awp_ret ?_
                  (try simp only [Thn, InBlk, ↓reduceIte, Nat.reduceEqDiff])
                  obtain rfl := Option.some.inj h
                  refine LoopQ.out rfl ?_
                  exact Red.selA [0] Red.auto
                · replace h := bite_f h hc113
                  refine awp_skip ?_
                  (try simp only [Thn, InBlk, ↓reduceIte, Nat.reduceEqDiff])
                  (try simp only [Thn, InBlk, ↓reduceIte, Nat.reduceEqDiff])
                  refine hK106 _ _ ?_
                  clear hK106
                  replace h := chk_some h
                  obtain ⟨hp0, h⟩ := h
                  refine awp_regE ftCOk [(1, .pp 1 0), (20, .sl 0), (21, .v (.int .i64 (a0_1.length : Int))), (22, .v (.int .i64 (t22 + 1)))] [.row false (.trips a0_1), .rbox [.v (.int .i64 a0_0), .sl 0], .box [.v (.int .i64 ((a0_1.getD t22.toNat (0, 0, 0)).1)), .v (.int .i64 ((a0_1.getD t22.toNat (0, 0, 0)).2.1)), .v (.int .i64 ((a0_1.getD t22.toNat (0, 0, 0)).2.2))]] ?_
                  clear hp0
                  obtain rfl := Option.some.inj h
                  refine LoopQ.next ?_
                  exact Red.selA [0, 1] Red.auto
      · replace h := bite_f h hc98
        refine awp_exit ?_
        (try simp only [Thn, InBlk, ↓reduceIte, Nat.reduceEqDiff])
        obtain rfl := Option.some.inj h
        refine LoopQ.out rfl ?_
        exact Red.selA [0] Red.auto
    · clear hx
      rcases x114 with (⟨⟩ | ⟨⟩)
      · try dsimp only [Sum.elim_inl, Sum.elim_inr] at h
        try dsimp only [Sum.elim_inl, Sum.elim_inr]
        (try simp only [Thn, InBlk, ↓reduceIte, Nat.reduceEqDiff])
        (try simp only [Thn, InBlk, ↓reduceIte, Nat.reduceEqDiff])
        (try simp only [Thn, InBlk, ↓reduceIte, Nat.reduceEqDiff])
        refine hK59 _ _ ?_
        clear hK59
        refine awp_reg ftCOk [(2, .v (.bool true))] [.row false (.trips a0_1)] ?_
        refine awp_ret ?_
        (try simp only [Thn, InBlk, ↓reduceIte, Nat.reduceEqDiff])
        obtain rfl := Option.some.inj h
        refine ⟨by simp, _, [0], (by simp only [go_sem, Nat.reduceBEq, Nat.reduceLT, Nat.reduceAdd, Nat.reduceLeDiff, Nat.reduceSub, Nat.reduceEqDiff, Int.reduceToNat, reduceCtorEq, ↓reduceIte]; exact rfl), ?_, ?_, ?_, ?_⟩
        · first | exact trivial | exact ⟨trivial, trivial⟩ | exact ⟨trivial, trivial, trivial⟩ | exact ⟨trivial, trivial, trivial, trivial⟩ | (simp only [allP, and_true, true_and]; done) | (simp only [allP, and_true, true_and]; omega)
        · simp [selOk, pos]
        · simp
        · first | exact ⟨rfl, rfl⟩ | (simp only [go_sem, Nat.reduceBEq, Nat.reduceLT, Nat.reduceAdd, Nat.reduceLeDiff, Nat.reduceSub, Nat.reduceEqDiff, Int.reduceToNat, reduceCtorEq, ↓reduceIte]; done) | (simp [go_sem, Nat.reduceBEq, Nat.reduceLT, Nat.reduceAdd, Nat.reduceLeDiff, Nat.reduceSub, Nat.reduceEqDiff, Int.reduceToNat, reduceCtorEq, ↓reduceIte]; done) | (simp only [go_sem, Nat.reduceBEq, Nat.reduceLT, Nat.reduceAdd, Nat.reduceLeDiff, Nat.reduceSub, Nat.reduceEqDiff, Int.reduceToNat, reduceCtorEq, ↓reduceIte]; exact ⟨rfl, rfl⟩) | (simp_all [go_sem, Nat.reduceBEq, Nat.reduceLT, Nat.reduceAdd, Nat.reduceLeDiff, Nat.reduceSub, Nat.reduceEqDiff, Int.reduceToNat, reduceCtorEq, ↓reduceIte]; done)
      · try dsimp only [Sum.elim_inl, Sum.elim_inr] at h
        try dsimp only [Sum.elim_inl, Sum.elim_inr]
        (try simp only [Thn, InBlk, ↓reduceIte, Nat.reduceEqDiff])
        obtain rfl := Option.some.inj h
        refine ⟨by simp, _, [0], (by simp only [go_sem, Nat.reduceBEq, Nat.reduceLT, Nat.reduceAdd, Nat.reduceLeDiff, Nat.reduceSub, Nat.reduceEqDiff, Int.reduceToNat, reduceCtorEq, ↓reduceIte]; exact rfl), ?_, ?_, ?_, ?_⟩
        · first | exact trivial | exact ⟨trivial, trivial⟩ | exact ⟨trivial, trivial, trivial⟩ | exact ⟨trivial, trivial, trivial, trivial⟩ | (simp only [allP, and_true, true_and]; done) | (simp only [allP, and_true, true_and]; omega)
        · simp [selOk, pos]
        · simp
        · first | exact ⟨rfl, rfl⟩ | (simp only [go_sem, Nat.reduceBEq, Nat.reduceLT, Nat.reduceAdd, Nat.reduceLeDiff, Nat.reduceSub, Nat.reduceEqDiff, Int.reduceToNat, reduceCtorEq, ↓reduceIte]; done) | (simp [go_sem, Nat.reduceBEq, Nat.reduceLT, Nat.reduceAdd, Nat.reduceLeDiff, Nat.reduceSub, Nat.reduceEqDiff, Int.reduceToNat, reduceCtorEq, ↓reduceIte]; done) | (simp only [go_sem, Nat.reduceBEq, Nat.reduceLT, Nat.reduceAdd, Nat.reduceLeDiff, Nat.reduceSub, Nat.reduceEqDiff, Int.reduceToNat, reduceCtorEq, ↓reduceIte]; exact ⟨rfl, rfl⟩) | (simp_all [go_sem, Nat.reduceBEq, Nat.reduceLT, Nat.reduceAdd, Nat.reduceLeDiff, Nat.reduceSub, Nat.reduceEqDiff, Int.reduceToNat, reduceCtorEq, ↓reduceIte]; done)
theorem k_impl_unknowns (a0 : Int) {r : List Int} (h : impl_unknowns a0 = some r) :
    FnA Tryd.prog 54 [.v (.int .i64 a0)] [] [] (fun x H => x = .sl 0 ∧ H = [.row true (.ints .i64 r)]) := by
  unfold impl_unknowns at h
  refine FnA.of (N := 17) (pin := []) (rs := [.tmp 2]) Tryd.func54 rfl en54 rfl rfl (by simp) (by simp; try omega) ?_
  refine awp_reg ftCOk [(0, .v (.int .i64 a0))] [] ?_
  replace h := chk_some h
  obtain ⟨hp0, h⟩ := h
  refine awp_reg ftCOk [(3, .sl 0)] [.row true (.ints .i64 (List.replicate a0.toNat 0))] ?_
  clear hp0
  refine awp_seq fun K14 hK14 => ?_
  refine awp_reg ftCOk [(3, .sl 0), (8, .v (.int .i64 ((List.replicate a0.toNat 0).length : Int))), (9, .v (.int .i64 0))] [.row true (.ints .i64 (List.replicate a0.toNat 0))] ?_
  refine awp_block ?_
  replace h := bind_some h
  obtain ⟨t3s_1, hx, h⟩ := h
  refine awp_loopL hx (fun ((t9, t3s) : Int × List Int) => [(3, .sl 0), (8, .v (.int .i64 ((List.replicate a0.toNat 0).length : Int))), (9, .v (.int .i64 t9))]) (fun ((t9, t3s) : Int × List Int) => [.row true (.ints .i64 t3s)]) (fun (t3s_1 : List Int) => Exit.exit 0) (fun (t3s_1 : List Int) => [(3, .sl 0)]) (fun (t3s_1 : List Int) => [.row true (.ints .i64 t3s_1)]) ?_ ?_ ?_ ?_
  · rintro t3s_1 hy <;> cases hy
  · clear h hx
    exact Red.auto
  · clear h hx
    rintro ⟨t9, t3s⟩ r h
    unfold impl_unknowns_b0 at h
    try dsimp only at h
    try dsimp only
    refine awp_reg ftCOk [(3, .sl 0), (8, .v (.int .i64 ((List.replicate a0.toNat 0).length : Int))), (9, .v (.int .i64 t9)), (10, .v (.bool (decide (t9 < ((List.replicate a0.toNat 0).length : Int)))))] [.row true (.ints .i64 t3s)] ?_
    refine awp_seq fun K24 hK24 => ?_
    refine awp_cond (t := 10) rfl (fun hc25 => ?_) (fun hc25 => ?_)
    · replace h := bite_t h hc25
      refine awp_skip ?_
      (try simp only [Thn, InBlk, ↓reduceIte, Nat.reduceEqDiff])
      refine hK24 _ _ ?_
      clear hK24
      refine awp_seq fun K26 hK26 => ?_
      refine awp_block ?_
      refine awp_reg ftCOk [(3, .sl 0), (4, .v (.int .i64 t9)), (8, .v (.int .i64 ((List.replicate a0.toNat 0).length : Int))), (9, .v (.int .i64 t9))] [.row true (.ints .i64 t3s)] ?_
      replace h := chk_some h
      obtain ⟨hp0, h⟩ := h
      refine awp_regE ftCOk [(3, .sl 0), (8, .v (.int .i64 ((List.replicate a0.toNat 0).length : Int))), (9, .v (.int .i64 t9))] [.row true (.ints .i64 (t3s.set t9.toNat (-1)))] ?_
      clear hp0
      (try simp only [Thn, InBlk, ↓reduceIte, Nat.reduceEqDiff])
      (try simp only [Thn, InBlk, ↓reduceIte, Nat.reduceEqDiff])
      refine hK26 _ _ ?_
      clear hK26
      replace h := chk_some h
      obtain ⟨hp0, h⟩ := h
      refine awp_regE ftCOk [(3, .sl 0), (8, .v (.int .i64 ((List.replicate a0.toNat 0).length : Int))), (9, .v (.int .i64 (t9 + 1)))] [.row true (.ints .i64 (t3s.set t9.toNat (-1)))] ?_
      clear hp0
      obtain rfl := Option.some.inj h
      refine LoopQ.next ?_
      exact Red.auto
    · replace h := bite_f h hc25
      refine awp_exit ?_
      (try simp only [Thn, InBlk, ↓reduceIte, Nat.reduceEqDiff])
      obtain rfl := Option.some.inj h
      refine LoopQ.out rfl ?_
      exact Red.auto
  · clear hx
    skip
    · try dsimp only [Sum.elim_inl, Sum.elim_inr] at h
      try dsimp only [Sum.elim_inl, Sum.elim_inr]
      (try simp only [Thn, InBlk, ↓reduceIte, Nat.reduceEqDiff])
      (try simp only [Thn, InBlk, ↓reduceIte, Nat.reduceEqDiff])
      (try simp only [Thn, InBlk, ↓reduceIte, Nat.reduceEqDiff])
      refine hK14 _ _ ?_
      clear hK14
      refine awp_reg ftCOk [(2, .sl 0)] [.row true (.ints .i64 t3s_1)] ?_
      refine awp_ret ?_
      (try simp only [Thn, InBlk, ↓reduceIte, Nat.reduceEqDiff])
      obtain rfl := Option.some.inj h
      refine ⟨by simp, _, [0], (by simp only [go_sem, Nat.reduceBEq, Nat.reduceLT, Nat.reduceAdd, Nat.reduceLeDiff, Nat.reduceSub, Nat.reduceEqDiff, Int.reduceToNat, reduceCtorEq, ↓reduceIte]; exact rfl), ?_, ?_, ?_, ?_⟩
      · first | exact trivial | exact ⟨trivial, trivial⟩ | exact ⟨trivial, trivial, trivial⟩ | exact ⟨trivial, trivial, trivial, trivial⟩ | (simp only [allP, and_true, true_and]; done) | (simp only [allP, and_true, true_and]; omega)
      · simp [selOk, pos]
      · simp
      · first | exact ⟨rfl, rfl⟩ | (simp only [go_sem, Nat.reduceBEq, Nat.reduceLT, Nat.reduceAdd, Nat.reduceLeDiff, Nat.reduceSub, Nat.reduceEqDiff, Int.reduceToNat, reduceCtorEq, ↓reduceIte]; done) | (simp [go_sem, Nat.reduceBEq, Nat.reduceLT, Nat.reduceAdd, Nat.reduceLeDiff, Nat.reduceSub, Nat.reduceEqDiff, Int.reduceToNat, reduceCtorEq, ↓reduceIte]; done) | (simp only [go_sem, Nat.reduceBEq, Nat.reduceLT, Nat.reduceAdd, Nat.reduceLeDiff, Nat.reduceSub, Nat.reduceEqDiff, Int.reduceToNat, reduceCtorEq, ↓reduceIte]; exact ⟨rfl, rfl⟩) | (simp_all [go_sem, Nat.reduceBEq, Nat.reduceLT, Nat.reduceAdd, Nat.reduceLeDiff, Nat.reduceSub, Nat.reduceEqDiff, Int.reduceToNat, reduceCtorEq, ↓reduceIte]; done)
theorem k_impl_OrderForward (a0_0 : Int) (a0_1 : List (Int × Int × Int)) (a1 : List Int) {r : Bool} (h : impl_OrderForward a0_0 a0_1 a1 = some r) :
    FnA Tryd.prog 27 [.agg [.v (.int .i64 a0_0), .sl 0], .sl 1] [.row false (.trips a0_1), .row false (.ints .i64 a1)] [] (fun x H => x = .v (.bool r) ∧ H = [.row false (.trips a0_1), .row false (.ints .i64 a1)]) := by
  unfold impl_OrderForward at h
  refine FnA.of (N := 65) (pin := [0, 1]) (rs := [.tmp 4]) Tryd.func27 rfl en27 rfl rfl (by simp) (by simp; try omega) ?_
  refine awp_reg ftCOk [(1, .sl 1), (2, .pp 2 0)] [.row false (.trips a0_1), .row false (.ints .i64 a1), .box [.v (.int .i64 a0_0), .sl 0]] ?_
  refine awp_freeze 2 (by rfl) (by rfl) (by exact rfl) ?_
  refine awp_seq fun K2 hK2 => ?_
  replace h := bind_some h
  obtain ⟨y, hr0, h⟩ := h
  try dsimp only at h
  refine awp_to [(1, .sl 1), (2, .pp 2 0), (19, .v (.bool ((!y) || ((a1.length : Int) != a0_0))))] [.row false (.trips a0_1), .row false (.ints .i64 a1), .rbox [.v (.int .i64 a0_0), .sl 0]] ?_ ?_
  · clear h
    intro K hK
    refine awp_region ftCOk ?_
    simp (maxSteps := 4000000) only [go_sem, Nat.reduceBEq, Nat.reduceLT, Nat.reduceAdd, Nat.reduceLeDiff, Nat.reduceSub, Nat.reduceEqDiff, Int.reduceToNat, reduceCtorEq, ↓reduceIte]
    repeat' (first | refine And.intro ?_ ?_ | intro hg)
    all_goals (try simp (disch := omega) only [wrap_fits])
    all_goals first
      | (refine hK _ _ ?_; exact Red.auto)
      | exact trivial
      | assumption
      | omega
      | exact wrap_fits (by omega) (by omega)
      | (refine wpA_callA (k_impl_GraphValid a0_0 a0_1 (h := hr0)) [0] [] ?_
         rintro x Hc' ⟨rfl, rfl⟩ hlen
         refine vcOps_sound ftCOk ?_
         simp (maxSteps := 4000000) only [go_sem, Nat.reduceBEq, Nat.reduceLT, Nat.reduceAdd, Nat.reduceLeDiff, Nat.reduceSub, Nat.reduceEqDiff, Int.reduceToNat, reduceCtorEq, ↓reduceIte]
         repeat' (first | refine And.intro ?_ ?_ | intro hg)
         all_goals (try simp (disch := omega) only [wrap_fits])
         all_goals first
           | (refine hK _ _ ?_; exact Red.auto)
           | exact trivial
           | assumption
           | omega
           | exact wrap_fits (by omega) (by omega)
           | (simp_all; done)
           | (simp_all; omega))
      | (simp_all; done)
      | (simp_all; omega)
  · clear hr0
    refine awp_cond (t := 19) rfl (fun hc3 => ?_) (fun hc3 => ?_)
    · replace h := bite_t h hc3
      refine awp_reg ftCOk [(4, .v (.bool false))] [.row false (.trips a0_1), .row false (.ints .i64 a1), .rbox [.v (.int .i64 a0_0), .sl 0]] ?_
      refine awp_ret ?_
      (try simp only [Thn, InBlk, ↓reduceIte, Nat.reduceEqDiff])
      obtain rfl := Option.some.inj h
      refine ⟨by simp, _, [0, 1], (by simp only [go_sem, Nat.reduceBEq, Nat.reduceLT, Nat.reduceAdd, Nat.reduceLeDiff, Nat.reduceSub, Nat.reduceEqDiff, Int.reduceToNat, reduceCtorEq, ↓reduceIte]; exact rfl), ?_, ?_, ?_, ?_⟩
      · first | exact trivial | exact ⟨trivial, trivial⟩ | exact ⟨trivial, trivial, trivial⟩ | exact ⟨trivial, trivial, trivial, trivial⟩ | (simp only [allP, and_true, true_and]; done) | (simp only [allP, and_true, true_and]; omega)
      · simp [selOk, pos]
      · simp
      · first | exact ⟨rfl, rfl⟩ | (simp only [go_sem, Nat.reduceBEq, Nat.reduceLT, Nat.reduceAdd, Nat.reduceLeDiff, Nat.reduceSub, Nat.reduceEqDiff, Int.reduceToNat, reduceCtorEq, ↓reduceIte]; done) | (simp [go_sem, Nat.reduceBEq, Nat.reduceLT, Nat.reduceAdd, Nat.reduceLeDiff, Nat.reduceSub, Nat.reduceEqDiff, Int.reduceToNat, reduceCtorEq, ↓reduceIte]; done) | (simp only [go_sem, Nat.reduceBEq, Nat.reduceLT, Nat.reduceAdd, Nat.reduceLeDiff, Nat.reduceSub, Nat.reduceEqDiff, Int.reduceToNat, reduceCtorEq, ↓reduceIte]; exact ⟨rfl, rfl⟩) | (simp_all [go_sem, Nat.reduceBEq, Nat.reduceLT, Nat.reduceAdd, Nat.reduceLeDiff, Nat.reduceSub, Nat.reduceEqDiff, Int.reduceToNat, reduceCtorEq, ↓reduceIte]; done)
    · replace h := bite_f h hc3
      refine awp_skip ?_
      (try simp only [Thn, InBlk, ↓reduceIte, Nat.reduceEqDiff])
      refine hK2 _ _ ?_
      clear hK2
      replace h := bind_some h
      obtain ⟨y_1, hr0, h⟩ := h
      try dsimp only at h
      refine awp_to [(1, .sl 1), (2, .pp 2 0), (5, .sl 3)] [.row false (.trips a0_1), .row false (.ints .i64 a1), .rbox [.v (.int .i64 a0_0), .sl 0], .row true (.ints .i64 y_1)] ?_ ?_
      · clear h
        intro K hK
        refine awp_region ftCOk ?_
        simp (maxSteps := 4000000) only [go_sem, Nat.reduceBEq, Nat.reduceLT, Nat.reduceAdd, Nat.reduceLeDiff, Nat.reduceSub, Nat.reduceEqDiff, Int.reduceToNat, reduceCtorEq, ↓reduceIte]
        repeat' (first | refine And.intro ?_ ?_ | intro hg)
        all_goals (try simp (disch := omega) only [wrap_fits])
        all_goals first
          | (refine hK _ _ ?_; exact Red.auto)
          | exact trivial
          | assumption
          | omega
          | exact wrap_fits (by omega) (by omega)
          | (refine wpA_callA (k_impl_unknowns a0_0 (h := hr0)) [] [] ?_
             rintro x Hc' ⟨rfl, rfl⟩ hlen
             refine vcOps_sound ftCOk ?_
             simp (maxSteps := 4000000) only [go_sem, Nat.reduceBEq, Nat.reduceLT, Nat.reduceAdd, Nat.reduceLeDiff, Nat.reduceSub, Nat.reduceEqDiff, Int.reduceToNat, reduceCtorEq, ↓reduceIte]
             repeat' (first | refine And.intro ?_ ?_ | intro hg)
             all_goals (try simp (disch := omega) only [wrap_fits])
             all_goals first
               | (refine hK _ _ ?_; exact Red.auto)
               | exact trivial
               | assumption
               | omega
               | exact wrap_fits (by omega) (by omega)
               | (simp_all; done)
               | (simp_all; omega))
          | (simp_all; done)
          | (simp_all; omega)
      · clear hr0
        refine awp_seq fun K35 hK35 => ?_
        refine awp_reg ftCOk [(2, .pp 2 0), (5, .sl 3), (23, .sl 1), (24, .v (.int .i64 (a1.length : Int))), (25, .v (.int .i64 0))] [.row false (.trips a0_1), .row false (.ints .i64 a1), .rbox [.v (.int .i64 a0_0), .sl 0], .row true (.ints .i64 y_1)] ?_
        refine awp_block ?_
        replace h := bind_some h
        obtain ⟨x66, hx, h⟩ := h
        refine awp_loopL hx (fun ((t25, t5s) : Int × List Int) => [(2, .pp 2 0), (5, .sl 3), (23, .sl 1), (24, .v (.int .i64 (a1.length : Int))), (25, .v (.int .i64 t25))]) (fun ((t25, t5s) : Int × List Int) => [.row false (.trips a0_1), .row false (.ints .i64 a1), .rbox [.v (.int .i64 a0_0), .sl 0], .row true (.ints .i64 t5s)]) (Sum.elim (fun (t5s_1 : List Int) => Exit.exit 0) (fun (_ : Unit) => Exit.ret)) (Sum.elim (fun (t5s_1 : List Int) => [(2, .pp 2 0), (5, .sl 3)]) (fun (_ : Unit) => [(4, .v (.bool false))])) (Sum.elim (fun (t5s_1 : List Int) => [.row false (.trips a0_1), .row false (.ints .i64 a1), .rbox [.v (.int .i64 a0_0), .sl 0], .row true (.ints .i64 t5s_1)]) (fun (_ : Unit) => [.row false (.trips a0_1), .row false (.ints .i64 a1)])) ?_ ?_ ?_ ?_
        · rintro (t5s_1 | ⟨⟩) hy <;> cases hy
        · clear h hx
          exact Red.auto
        · clear h hx
          rintro ⟨t25, t5s⟩ r h
          unfold impl_OrderForward_b0 at h
          try dsimp only at h
          try dsimp only
          refine awp_reg ftCOk [(2, .pp 2 0), (5, .sl 3), (23, .sl 1), (24, .v (.int .i64 (a1.length : Int))), (25, .v (.int .i64 t25)), (26, .v (.bool (decide (t25 < (a1.length : Int)))))] [.row false (.trips a0_1), .row false (.ints .i64 a1), .rbox [.v (.int .i64 a0_0), .sl 0], .row true (.ints .i64 t5s)] ?_
          refine awp_seq fun K57 hK57 => ?_
          refine awp_cond (t := 26) rfl (fun hc58 => ?_) (fun hc58 => ?_)
          · replace h := bite_t h hc58
            refine awp_skip ?_
            (try simp only [Thn, InBlk, ↓reduceIte, Nat.reduceEqDiff])
            refine hK57 _ _ ?_
            clear hK57
            refine awp_seq fun K62 hK62 => ?_
            refine awp_block ?_
            replace h := chk_some h
            obtain ⟨hp0, h⟩ := h
            refine awp_reg ftCOk [(2, .pp 2 0), (5, .sl 3), (6, .v (.int .i64 t25)), (7, .v (.int .i64 (a1.getD t25.toNat 0))), (23, .sl 1), (24, .v (.int .i64 (a1.length : Int))), (25, .v (.int .i64 t25))] [.row false (.trips a0_1), .row false (.ints .i64 a1), .rbox [.v (.int .i64 a0_0), .sl 0], .row true (.ints .i64 t5s)] ?_
            clear hp0
            refine awp_seq fun K64 hK64 => ?_
            replace h := bind_some h
            obtain ⟨y_2, hr0, h⟩ := h
            try dsimp only at h
            replace h := chk_some h
            obtain ⟨hp1, h⟩ := h
            refine awp_to [(2, .pp 2 0), (5, .sl 3), (6, .v (.int .i64 t25)), (7, .v (.int .i64 (a1.getD t25.toNat 0))), (23, .sl 1), (24, .v (.int .i64 (a1.length : Int))), (25, .v (.int .i64 t25)), (40, .v (.bool ((!y_2) || ((t5s.getD ((a1.getD t25.toNat 0).toNat) 0) != (-1)))))] [.row false (.trips a0_1), .row false (.ints .i64 a1), .rbox [.v (.int .i64 a0_0), .sl 0], .row true (.ints .i64 t5s)] ?_ ?_
            · clear h
              intro K hK
              refine awp_region ftCOk ?_
              simp (maxSteps := 4000000) only [go_sem, Nat.reduceBEq, Nat.reduceLT, Nat.reduceAdd, Nat.reduceLeDiff, Nat.reduceSub, Nat.reduceEqDiff, Int.reduceToNat, reduceCtorEq, ↓reduceIte]
              repeat' (first | refine And.intro ?_ ?_ | intro hg)
              all_goals (try simp (disch := omega) only [wrap_fits])
              all_goals first
                | (refine hK _ _ ?_; exact Red.auto)
                | exact trivial
                | assumption
                | omega
                | exact wrap_fits (by omega) (by omega)
                | (have hq := hp1 (by first | assumption | (simp only [*, Bool.false_or, Bool.true_or, Bool.or_false, Bool.or_true, Bool.false_and, Bool.true_and, Bool.and_false, Bool.and_true, Bool.not_true, Bool.not_false, beq_self_eq_true]; done) | (simp_all; done)); omega)
                | (refine wpA_callA (k_impl_Graph_has a0_0 a0_1 (a1.getD t25.toNat 0) (h := hr0)) [0] [] ?_
                   rintro x Hc' ⟨rfl, rfl⟩ hlen
                   refine vcOps_sound ftCOk ?_
                   simp (maxSteps := 4000000) only [go_sem, Nat.reduceBEq, Nat.reduceLT, Nat.reduceAdd, Nat.reduceLeDiff, Nat.reduceSub, Nat.reduceEqDiff, Int.reduceToNat, reduceCtorEq, ↓reduceIte]
                   repeat' (first | refine And.intro ?_ ?_ | intro hg)
                   all_goals (try simp (disch := omega) only [wrap_fits])
                   all_goals first
                     | (refine hK _ _ ?_; exact Red.auto)
                     | exact trivial
                     | assumption
                     | omega
                     | exact wrap_fits (by omega) (by omega)
                     | (have hq := hp1 (by first | assumption | (simp only [*, Bool.false_or, Bool.true_or, Bool.or_false, Bool.or_true, Bool.false_and, Bool.true_and, Bool.and_false, Bool.and_true, Bool.not_true, Bool.not_false, beq_self_eq_true]; done) | (simp_all; done)); omega)
                     | (simp_all; done)
                     | (simp_all; omega))
                | (simp_all; done)
                | (simp_all; omega)
            · clear hr0 hp1
              refine awp_cond (t := 40) rfl (fun hc65 => ?_) (fun hc65 => ?_)
              · replace h := bite_t h hc65
                refine awp_reg ftCOk [(4, .v (.bool false))] [.row false (.trips a0_1), .row false (.ints .i64 a1), .rbox [.v (.int .i64 a0_0), .sl 0], .row true (.ints .i64 t5s)] ?_
                refine awp_ret ?_
                (try simp only [Thn, InBlk, ↓reduceIte, Nat.reduceEqDiff])
                obtain rfl := Option.some.inj h
                refine LoopQ.out rfl ?_
                exact Red.selA [0, 1] Red.auto
              · replace h := bite_f h hc65
                refine awp_skip ?_
                (try simp only [Thn, InBlk, ↓reduceIte, Nat.reduceEqDiff])
                refine hK64 _ _ ?_
                clear hK64
                replace h := chk_some h
                obtain ⟨hp0, h⟩ := h
                refine awp_regE ftCOk [(2, .pp 2 0), (5, .sl 3), (23, .sl 1), (24, .v (.int .i64 (a1.length : Int))), (25, .v (.int .i64 t25))] [.row false (.trips a0_1), .row false (.ints .i64 a1), .rbox [.v (.int .i64 a0_0), .sl 0], .row true (.ints .i64 (t5s.set ((a1.getD t25.toNat 0).toNat) t25))] ?_
                clear hp0
                (try simp only [Thn, InBlk, ↓reduceIte, Nat.reduceEqDiff])
                (try simp only [Thn, InBlk, ↓reduceIte, Nat.reduceEqDiff])
                refine hK62 _ _ ?_
                clear hK62
                replace h := chk_some h
                obtain ⟨hp0, h⟩ := h
                refine awp_regE ftCOk [(2, .pp 2 0), (5, .sl 3), (23, .sl 1), (24, .v (.int .i64 (a1.length : Int))), (25, .v (.int .i64 (t25 + 1)))] [.row false (.trips a0_1), .row false (.ints .i64 a1), .rbox [.v (.int .i64 a0_0), .sl 0], .row true (.ints .i64 (t5s.set ((a1.getD t25.toNat 0).toNat) t25))] ?_
                clear hp0
                obtain rfl := Option.some.inj h
                refine LoopQ.next ?_
                exact Red.auto
          · replace h := bite_f h hc58
            refine awp_exit ?_
            (try simp only [Thn, InBlk, ↓reduceIte, Nat.reduceEqDiff])
            obtain rfl := Option.some.inj h
            refine LoopQ.out rfl ?_
            exact Red.auto
        · clear hx
          rcases x66 with (t5s_1 | ⟨⟩)
          · try dsimp only [Sum.elim_inl, Sum.elim_inr] at h
            try dsimp only [Sum.elim_inl, Sum.elim_inr]
            (try simp only [Thn, InBlk, ↓reduceIte, Nat.reduceEqDiff])
            (try simp only [Thn, InBlk, ↓reduceIte, Nat.reduceEqDiff])
            (try simp only [Thn, InBlk, ↓reduceIte, Nat.reduceEqDiff])
            refine hK35 _ _ ?_
            clear hK35
            refine awp_seq fun K86 hK86 => ?_
            refine awp_reg ftCOk [(5, .sl 3), (47, .sl 0), (48, .v (.int .i64 (a0_1.length : Int))), (49, .v (.int .i64 0))] [.row false (.trips a0_1), .row false (.ints .i64 a1), .rbox [.v (.int .i64 a0_0), .sl 0], .row true (.ints .i64 t5s_1)] ?_
            refine awp_block ?_
            replace h := bind_some h
            obtain ⟨x105, hx, h⟩ := h
            refine awp_loopL hx (fun (t49 : Int) => [(5, .sl 2), (47, .sl 0), (48, .v (.int .i64 (a0_1.length : Int))), (49, .v (.int .i64 t49))]) (fun (t49 : Int) => [.row false (.trips a0_1), .row false (.ints .i64 a1), .row true (.ints .i64 t5s_1)]) (Sum.elim (fun (_ : Unit) => Exit.exit 2) (fun (_ : Unit) => Exit.ret)) (Sum.elim (fun (_ : Unit) => []) (fun (_ : Unit) => [(4, .v (.bool false))])) (Sum.elim (fun (_ : Unit) => [.row false (.trips a0_1), .row false (.ints .i64 a1)]) (fun (_ : Unit) => [.row false (.trips a0_1), .row false (.ints .i64 a1)])) ?_ ?_ ?_ ?_
            · rintro (⟨⟩ | ⟨⟩) hy <;> cases hy
            · clear h hx
              exact Red.selA [0, 1, 3] Red.auto
            · clear h hx
              rintro t49 r h
              unfold impl_OrderForward_b1 at h
              try dsimp only at h
              try dsimp only
              refine awp_reg ftCOk [(5, .sl 2), (47, .sl 0), (48, .v (.int .i64 (a0_1.length : Int))), (49, .v (.int .i64 t49)), (50, .v (.bool (decide (t49 < (a0_1.length : Int)))))] [.row false (.trips a0_1), .row false (.ints .i64 a1), .row true (.ints .i64 t5s_1)] ?_
              refine awp_seq fun K100 hK100 => ?_
              refine awp_cond (t := 50) rfl (fun hc101 => ?_) (fun hc101 => ?_)
              · replace h := bite_t h hc101
                refine awp_skip ?_
                (try simp only [Thn, InBlk, ↓reduceIte, Nat.reduceEqDiff])
                refine hK100 _ _ ?_
                clear hK100
                refine awp_seq fun K103 hK103 => ?_
                refine awp_block ?_
                replace h := chk_some h
                obtain ⟨hp0, h⟩ := h
                refine awp_reg ftCOk [(5, .sl 2), (9, .pp 3 0), (47, .sl 0), (48, .v (.int .i64 (a0_1.length : Int))), (49, .v (.int .i64 t49))] [.row false (.trips a0_1), .row false (.ints .i64 a1), .row true (.ints .i64 t5s_1), .box [.v (.int .i64 ((a0_1.getD t49.toNat (0, 0, 0)).1)), .v (.int .i64 ((a0_1.getD t49.toNat (0, 0, 0)).2.1)), .v (.int .i64 ((a0_1.getD t49.toNat (0, 0, 0)).2.2))]] ?_
                clear hp0
                replace h := chk_some h
                obtain ⟨hp0, h⟩ := h
                replace h := chk_some h
                obtain ⟨hp1, h⟩ := h
                refine awp_regQ mixed ftCOk [(5, .sl 2), (47, .sl 0), (48, .v (.int .i64 (a0_1.length : Int))), (49, .v (.int .i64 t49)), (63, .v (.bool (decide ((t5s_1.getD (((a0_1.getD t49.toNat (0, 0, 0)).2.1).toNat) 0) ≤ (t5s_1.getD (((a0_1.getD t49.toNat (0, 0, 0)).1).toNat) 0)))))] [.row false (.trips a0_1), .row false (.ints .i64 a1), .row true (.ints .i64 t5s_1), .box [.v (.int .i64 ((a0_1.getD t49.toNat (0, 0, 0)).1)), .v (.int .i64 ((a0_1.getD t49.toNat (0, 0, 0)).2.1)), .v (.int .i64 ((a0_1.getD t49.toNat (0, 0, 0)).2.2))]] ?_
                clear hp0 hp1
                refine awp_cond (t := 63) rfl (fun hc104 => ?_) (fun hc104 => ?_)
                · replace h := bite_t h hc104
                  refine awp_reg ftCOk [(4, .v (.bool false))] [.row false (.trips a0_1), .row false (.ints .i64 a1), .row true (.ints .i64 t5s_1), .box [.v (.int .i64 ((a0_1.getD t49.toNat (0, 0, 0)).1)), .v (.int .i64 ((a0_1.getD t49.toNat (0, 0, 0)).2.1)), .v (.int .i64 ((a0_1.getD t49.toNat (0, 0, 0)).2.2))]] ?_
                  refine awp_ret ?_
                  (try simp only [Thn, InBlk, ↓reduceIte, Nat.reduceEqDiff])
                  obtain rfl := Option.some.inj h
                  refine LoopQ.out rfl ?_
                  exact Red.selA [0, 1] Red.auto
                · replace h := bite_f h hc104
                  refine awp_skip ?_
                  (try simp only [Thn, InBlk, ↓reduceIte, Nat.reduceEqDiff])
                  (try simp only [Thn, InBlk, ↓reduceIte, Nat.reduceEqDiff])
                  refine hK103 _ _ ?_
                  clear hK103
                  replace h := chk_some h
                  obtain ⟨hp0, h⟩ := h
                  refine awp_regE ftCOk [(5, .sl 2), (47, .sl 0), (48, .v (.int .i64 (a0_1.length : Int))), (49, .v (.int .i64 (t49 + 1)))] [.row false (.trips a0_1), .row false (.ints .i64 a1), .row true (.ints .i64 t5s_1), .box [.v (.int .i64 ((a0_1.getD t49.toNat (0, 0, 0)).1)), .v (.int .i64 ((a0_1.getD t49.toNat (0, 0, 0)).2.1)), .v (.int .i64 ((a0_1.getD t49.toNat (0, 0, 0)).2.2))]] ?_
                  clear hp0
                  obtain rfl := Option.some.inj h
                  refine LoopQ.next ?_
                  exact Red.selA [0, 1, 2] Red.auto
              · replace h := bite_f h hc101
                refine awp_exit ?_
                (try simp only [Thn, InBlk, ↓reduceIte, Nat.reduceEqDiff])
                obtain rfl := Option.some.inj h
                refine LoopQ.out rfl ?_
                exact Red.selA [0, 1] Red.auto
            · clear hx
              rcases x105 with (⟨⟩ | ⟨⟩)
              · try dsimp only [Sum.elim_inl, Sum.elim_inr] at h
                try dsimp only [Sum.elim_inl, Sum.elim_inr]
                (try simp only [Thn, InBlk, ↓reduceIte, Nat.reduceEqDiff])
                (try simp only [Thn, InBlk, ↓reduceIte, Nat.reduceEqDiff])
                (try simp only [Thn, InBlk, ↓reduceIte, Nat.reduceEqDiff])
                refine hK86 _ _ ?_
                clear hK86
                refine awp_reg ftCOk [(4, .v (.bool true))] [.row false (.trips a0_1), .row false (.ints .i64 a1)] ?_
                refine awp_ret ?_
                (try simp only [Thn, InBlk, ↓reduceIte, Nat.reduceEqDiff])
                obtain rfl := Option.some.inj h
                refine ⟨by simp, _, [0, 1], (by simp only [go_sem, Nat.reduceBEq, Nat.reduceLT, Nat.reduceAdd, Nat.reduceLeDiff, Nat.reduceSub, Nat.reduceEqDiff, Int.reduceToNat, reduceCtorEq, ↓reduceIte]; exact rfl), ?_, ?_, ?_, ?_⟩
                · first | exact trivial | exact ⟨trivial, trivial⟩ | exact ⟨trivial, trivial, trivial⟩ | exact ⟨trivial, trivial, trivial, trivial⟩ | (simp only [allP, and_true, true_and]; done) | (simp only [allP, and_true, true_and]; omega)
                · simp [selOk, pos]
                · simp
                · first | exact ⟨rfl, rfl⟩ | (simp only [go_sem, Nat.reduceBEq, Nat.reduceLT, Nat.reduceAdd, Nat.reduceLeDiff, Nat.reduceSub, Nat.reduceEqDiff, Int.reduceToNat, reduceCtorEq, ↓reduceIte]; done) | (simp [go_sem, Nat.reduceBEq, Nat.reduceLT, Nat.reduceAdd, Nat.reduceLeDiff, Nat.reduceSub, Nat.reduceEqDiff, Int.reduceToNat, reduceCtorEq, ↓reduceIte]; done) | (simp only [go_sem, Nat.reduceBEq, Nat.reduceLT, Nat.reduceAdd, Nat.reduceLeDiff, Nat.reduceSub, Nat.reduceEqDiff, Int.reduceToNat, reduceCtorEq, ↓reduceIte]; exact ⟨rfl, rfl⟩) | (simp_all [go_sem, Nat.reduceBEq, Nat.reduceLT, Nat.reduceAdd, Nat.reduceLeDiff, Nat.reduceSub, Nat.reduceEqDiff, Int.reduceToNat, reduceCtorEq, ↓reduceIte]; done)
              · try dsimp only [Sum.elim_inl, Sum.elim_inr] at h
                try dsimp only [Sum.elim_inl, Sum.elim_inr]
                (try simp only [Thn, InBlk, ↓reduceIte, Nat.reduceEqDiff])
                obtain rfl := Option.some.inj h
                refine ⟨by simp, _, [0, 1], (by simp only [go_sem, Nat.reduceBEq, Nat.reduceLT, Nat.reduceAdd, Nat.reduceLeDiff, Nat.reduceSub, Nat.reduceEqDiff, Int.reduceToNat, reduceCtorEq, ↓reduceIte]; exact rfl), ?_, ?_, ?_, ?_⟩
                · first | exact trivial | exact ⟨trivial, trivial⟩ | exact ⟨trivial, trivial, trivial⟩ | exact ⟨trivial, trivial, trivial, trivial⟩ | (simp only [allP, and_true, true_and]; done) | (simp only [allP, and_true, true_and]; omega)
                · simp [selOk, pos]
                · simp
                · first | exact ⟨rfl, rfl⟩ | (simp only [go_sem, Nat.reduceBEq, Nat.reduceLT, Nat.reduceAdd, Nat.reduceLeDiff, Nat.reduceSub, Nat.reduceEqDiff, Int.reduceToNat, reduceCtorEq, ↓reduceIte]; done) | (simp [go_sem, Nat.reduceBEq, Nat.reduceLT, Nat.reduceAdd, Nat.reduceLeDiff, Nat.reduceSub, Nat.reduceEqDiff, Int.reduceToNat, reduceCtorEq, ↓reduceIte]; done) | (simp only [go_sem, Nat.reduceBEq, Nat.reduceLT, Nat.reduceAdd, Nat.reduceLeDiff, Nat.reduceSub, Nat.reduceEqDiff, Int.reduceToNat, reduceCtorEq, ↓reduceIte]; exact ⟨rfl, rfl⟩) | (simp_all [go_sem, Nat.reduceBEq, Nat.reduceLT, Nat.reduceAdd, Nat.reduceLeDiff, Nat.reduceSub, Nat.reduceEqDiff, Int.reduceToNat, reduceCtorEq, ↓reduceIte]; done)
          · try dsimp only [Sum.elim_inl, Sum.elim_inr] at h
            try dsimp only [Sum.elim_inl, Sum.elim_inr]
            (try simp only [Thn, InBlk, ↓reduceIte, Nat.reduceEqDiff])
            obtain rfl := Option.some.inj h
            refine ⟨by simp, _, [0, 1], (by simp only [go_sem, Nat.reduceBEq, Nat.reduceLT, Nat.reduceAdd, Nat.reduceLeDiff, Nat.reduceSub, Nat.reduceEqDiff, Int.reduceToNat, reduceCtorEq, ↓reduceIte]; exact rfl), ?_, ?_, ?_, ?_⟩
            · first | exact trivial | exact ⟨trivial, trivial⟩ | exact ⟨trivial, trivial, trivial⟩ | exact ⟨trivial, trivial, trivial, trivial⟩ | (simp only [allP, and_true, true_and]; done) | (simp only [allP, and_true, true_and]; omega)
            · simp [selOk, pos]
            · simp
            · first | exact ⟨rfl, rfl⟩ | (simp only [go_sem, Nat.reduceBEq, Nat.reduceLT, Nat.reduceAdd, Nat.reduceLeDiff, Nat.reduceSub, Nat.reduceEqDiff, Int.reduceToNat, reduceCtorEq, ↓reduceIte]; done) | (simp [go_sem, Nat.reduceBEq, Nat.reduceLT, Nat.reduceAdd, Nat.reduceLeDiff, Nat.reduceSub, Nat.reduceEqDiff, Int.reduceToNat, reduceCtorEq, ↓reduceIte]; done) | (simp only [go_sem, Nat.reduceBEq, Nat.reduceLT, Nat.reduceAdd, Nat.reduceLeDiff, Nat.reduceSub, Nat.reduceEqDiff, Int.reduceToNat, reduceCtorEq, ↓reduceIte]; exact ⟨rfl, rfl⟩) | (simp_all [go_sem, Nat.reduceBEq, Nat.reduceLT, Nat.reduceAdd, Nat.reduceLeDiff, Nat.reduceSub, Nat.reduceEqDiff, Int.reduceToNat, reduceCtorEq, ↓reduceIte]; done)
theorem k_spec_l8Fill (a0 : Int) (a1 : Int) {r : List Int} (h : spec_l8Fill a0 a1 = some r) :
    FnA Tryd.prog 50 [.v (.int .i64 a0), .v (.int .i64 a1)] [] [] (fun x H => x = .sl 0 ∧ H = [.row true (.ints .i64 r)]) := by
  unfold spec_l8Fill at h
  refine FnA.of (N := 18) (pin := []) (rs := [.tmp 4]) Tryd.func50 rfl en50 rfl rfl (by simp) (by simp; try omega) ?_
  refine awp_reg ftCOk [(0, .v (.int .i64 a0)), (1, .v (.int .i64 a1))] [] ?_
  refine awp_reg ftCOk [(0, .v (.int .i64 a0)), (1, .v (.int .i64 a1)), (5, .sl 0)] [.row true (.ints .i64 [])] ?_
  refine awp_seq fun K14 hK14 => ?_
  refine awp_reg ftCOk [(0, .v (.int .i64 a0)), (1, .v (.int .i64 a1)), (5, .sl 0), (6, .v (.int .i64 0))] [.row true (.ints .i64 [])] ?_
  refine awp_block ?_
  replace h := bind_some h
  obtain ⟨t5s_1, hx, h⟩ := h
  refine awp_loopL hx (fun ((t6, t5s) : Int × List Int) => [(0, .v (.int .i64 a0)), (1, .v (.int .i64 a1)), (5, .sl 0), (6, .v (.int .i64 t6))]) (fun ((t6, t5s) : Int × List Int) => [.row true (.ints .i64 t5s)]) (fun (t5s_1 : List Int) => Exit.exit 0) (fun (t5s_1 : List Int) => [(5, .sl 0)]) (fun (t5s_1 : List Int) => [.row true (.ints .i64 t5s_1)]) ?_ ?_ ?_ ?_
  · rintro t5s_1 hy <;> cases hy
  · clear h hx
    exact Red.auto
  · clear h hx
    rintro ⟨t6, t5s⟩ r h
    unfold spec_l8Fill_b0 at h
    try dsimp only at h
    try dsimp only
    refine awp_seq fun K24 hK24 => ?_
    refine awp_reg ftCOk [(0, .v (.int .i64 a0)), (1, .v (.int .i64 a1)), (5, .sl 0), (6, .v (.int .i64 t6)), (10, .v (.bool (decide (t6 < a0))))] [.row true (.ints .i64 t5s)] ?_
    refine awp_cond (t := 10) rfl (fun hc25 => ?_) (fun hc25 => ?_)
    · replace h := bite_t h hc25
      refine awp_skip ?_
      (try simp only [Thn, InBlk, ↓reduceIte, Nat.reduceEqDiff])
      refine hK24 _ _ ?_
      clear hK24
      refine awp_seq fun K26 hK26 => ?_
      refine awp_block ?_
      replace h := chk_some h
      obtain ⟨hp0, h⟩ := h
      refine awp_regE ftCOk [(0, .v (.int .i64 a0)), (1, .v (.int .i64 a1)), (5, .sl 0), (6, .v (.int .i64 t6))] [.row true (.ints .i64 (t5s ++ [a1])), .row true (.ints .i64 [a1])] ?_
      clear hp0
      (try simp only [Thn, InBlk, ↓reduceIte, Nat.reduceEqDiff])
      (try simp only [Thn, InBlk, ↓reduceIte, Nat.reduceEqDiff])
      refine hK26 _ _ ?_
      clear hK26
      replace h := chk_some h
      obtain ⟨hp0, h⟩ := h
      refine awp_regE ftCOk [(0, .v (.int .i64 a0)), (1, .v (.int .i64 a1)), (5, .sl 0), (6, .v (.int .i64 (t6 + 1)))] [.row true (.ints .i64 (t5s ++ [a1])), .row true (.ints .i64 [a1])] ?_
      clear hp0
      obtain rfl := Option.some.inj h
      refine LoopQ.next ?_
      exact Red.selA [0] Red.auto
    · replace h := bite_f h hc25
      refine awp_exit ?_
      (try simp only [Thn, InBlk, ↓reduceIte, Nat.reduceEqDiff])
      obtain rfl := Option.some.inj h
      refine LoopQ.out rfl ?_
      exact Red.auto
  · clear hx
    skip
    · try dsimp only [Sum.elim_inl, Sum.elim_inr] at h
      try dsimp only [Sum.elim_inl, Sum.elim_inr]
      (try simp only [Thn, InBlk, ↓reduceIte, Nat.reduceEqDiff])
      (try simp only [Thn, InBlk, ↓reduceIte, Nat.reduceEqDiff])
      (try simp only [Thn, InBlk, ↓reduceIte, Nat.reduceEqDiff])
      refine hK14 _ _ ?_
      clear hK14
      refine awp_reg ftCOk [(4, .sl 0)] [.row true (.ints .i64 t5s_1)] ?_
      refine awp_ret ?_
      (try simp only [Thn, InBlk, ↓reduceIte, Nat.reduceEqDiff])
      obtain rfl := Option.some.inj h
      refine ⟨by simp, _, [0], (by simp only [go_sem, Nat.reduceBEq, Nat.reduceLT, Nat.reduceAdd, Nat.reduceLeDiff, Nat.reduceSub, Nat.reduceEqDiff, Int.reduceToNat, reduceCtorEq, ↓reduceIte]; exact rfl), ?_, ?_, ?_, ?_⟩
      · first | exact trivial | exact ⟨trivial, trivial⟩ | exact ⟨trivial, trivial, trivial⟩ | exact ⟨trivial, trivial, trivial, trivial⟩ | (simp only [allP, and_true, true_and]; done) | (simp only [allP, and_true, true_and]; omega)
      · simp [selOk, pos]
      · simp
      · first | exact ⟨rfl, rfl⟩ | (simp only [go_sem, Nat.reduceBEq, Nat.reduceLT, Nat.reduceAdd, Nat.reduceLeDiff, Nat.reduceSub, Nat.reduceEqDiff, Int.reduceToNat, reduceCtorEq, ↓reduceIte]; done) | (simp [go_sem, Nat.reduceBEq, Nat.reduceLT, Nat.reduceAdd, Nat.reduceLeDiff, Nat.reduceSub, Nat.reduceEqDiff, Int.reduceToNat, reduceCtorEq, ↓reduceIte]; done) | (simp only [go_sem, Nat.reduceBEq, Nat.reduceLT, Nat.reduceAdd, Nat.reduceLeDiff, Nat.reduceSub, Nat.reduceEqDiff, Int.reduceToNat, reduceCtorEq, ↓reduceIte]; exact ⟨rfl, rfl⟩) | (simp_all [go_sem, Nat.reduceBEq, Nat.reduceLT, Nat.reduceAdd, Nat.reduceLeDiff, Nat.reduceSub, Nat.reduceEqDiff, Int.reduceToNat, reduceCtorEq, ↓reduceIte]; done)
theorem k_spec_OrderForward (a0_0 : Int) (a0_1 : List (Int × Int × Int)) (a1 : List Int) {r : Bool} (h : spec_OrderForward a0_0 a0_1 a1 = some r) :
    FnA Tryd.prog 29 [.agg [.v (.int .i64 a0_0), .sl 0], .sl 1] [.row false (.trips a0_1), .row false (.ints .i64 a1)] [] (fun x H => x = .v (.bool r) ∧ H = [.row false (.trips a0_1), .row false (.ints .i64 a1)]) := by
  unfold spec_OrderForward at h
  refine FnA.of (N := 79) (pin := [0, 1]) (rs := [.tmp 4]) Tryd.func29 rfl en29 rfl rfl (by simp) (by simp; try omega) ?_
  refine awp_reg ftCOk [(1, .sl 1), (2, .pp 2 0)] [.row false (.trips a0_1), .row false (.ints .i64 a1), .box [.v (.int .i64 a0_0), .sl 0]] ?_
  refine awp_freeze 2 (by rfl) (by rfl) (by exact rfl) ?_
  refine awp_seq fun K2 hK2 => ?_
  replace h := bind_some h
  obtain ⟨y, hr0, h⟩ := h
  try dsimp only at h
  refine awp_to [(1, .sl 1), (2, .pp 2 0), (17, .v (.bool ((!y) || ((a1.length : Int) != a0_0))))] [.row false (.trips a0_1), .row false (.ints .i64 a1), .rbox [.v (.int .i64 a0_0), .sl 0]] ?_ ?_
  · clear h
    intro K hK
    refine awp_region ftCOk ?_
    simp (maxSteps := 4000000) only [go_sem, Nat.reduceBEq, Nat.reduceLT, Nat.reduceAdd, Nat.reduceLeDiff, Nat.reduceSub, Nat.reduceEqDiff, Int.reduceToNat, reduceCtorEq, ↓reduceIte]
    repeat' (first | refine And.intro ?_ ?_ | intro hg)
    all_goals (try simp (disch := omega) only [wrap_fits])
    all_goals first
      | (refine hK _ _ ?_; exact Red.auto)
      | exact trivial
      | assumption
      | omega
      | exact wrap_fits (by omega) (by omega)
      | (refine wpA_callA (k_spec_GraphValid a0_0 a0_1 (h := hr0)) [0] [] ?_
         rintro x Hc' ⟨rfl, rfl⟩ hlen
         refine vcOps_sound ftCOk ?_
         simp (maxSteps := 4000000) only [go_sem, Nat.reduceBEq, Nat.reduceLT, Nat.reduceAdd, Nat.reduceLeDiff, Nat.reduceSub, Nat.reduceEqDiff, Int.reduceToNat, reduceCtorEq, ↓reduceIte]
         repeat' (first | refine And.intro ?_ ?_ | intro hg)
         all_goals (try simp (disch := omega) only [wrap_fits])
         all_goals first
           | (refine hK _ _ ?_; exact Red.auto)
           | exact trivial
           | assumption
           | omega
           | exact wrap_fits (by omega) (by omega)
           | (simp_all; done)
           | (simp_all; omega))
      | (simp_all; done)
      | (simp_all; omega)
  · clear hr0
    refine awp_cond (t := 17) rfl (fun hc3 => ?_) (fun hc3 => ?_)
    · replace h := bite_t h hc3
      refine awp_reg ftCOk [(4, .v (.bool false))] [.row false (.trips a0_1), .row false (.ints .i64 a1), .rbox [.v (.int .i64 a0_0), .sl 0]] ?_
      refine awp_ret ?_
      (try simp only [Thn, InBlk, ↓reduceIte, Nat.reduceEqDiff])
      obtain rfl := Option.some.inj h
      refine ⟨by simp, _, [0, 1], (by simp only [go_sem, Nat.reduceBEq, Nat.reduceLT, Nat.reduceAdd, Nat.reduceLeDiff, Nat.reduceSub, Nat.reduceEqDiff, Int.reduceToNat, reduceCtorEq, ↓reduceIte]; exact rfl), ?_, ?_, ?_, ?_⟩
      · first | exact trivial | exact ⟨trivial, trivial⟩ | exact ⟨trivial, trivial, trivial⟩ | exact ⟨trivial, trivial, trivial, trivial⟩ | (simp only [allP, and_true, true_and]; done) | (simp only [allP, and_true, true_and]; omega)
      · simp [selOk, pos]
      · simp
      · first | exact ⟨rfl, rfl⟩ | (simp only [go_sem, Nat.reduceBEq, Nat.reduceLT, Nat.reduceAdd, Nat.reduceLeDiff, Nat.reduceSub, Nat.reduceEqDiff, Int.reduceToNat, reduceCtorEq, ↓reduceIte]; done) | (simp [go_sem, Nat.reduceBEq, Nat.reduceLT, Nat.reduceAdd, Nat.reduceLeDiff, Nat.reduceSub, Nat.reduceEqDiff, Int.reduceToNat, reduceCtorEq, ↓reduceIte]; done) | (simp only [go_sem, Nat.reduceBEq, Nat.reduceLT, Nat.reduceAdd, Nat.reduceLeDiff, Nat.reduceSub, Nat.reduceEqDiff, Int.reduceToNat, reduceCtorEq, ↓reduceIte]; exact ⟨rfl, rfl⟩) | (simp_all [go_sem, Nat.reduceBEq, Nat.reduceLT, Nat.reduceAdd, Nat.reduceLeDiff, Nat.reduceSub, Nat.reduceEqDiff, Int.reduceToNat, reduceCtorEq, ↓reduceIte]; done)
    · replace h := bite_f h hc3
      refine awp_skip ?_
      (try simp only [Thn, InBlk, ↓reduceIte, Nat.reduceEqDiff])
      refine hK2 _ _ ?_
      clear hK2
      replace h := bind_some h
      obtain ⟨y_1, hr0, h⟩ := h
      try dsimp only at h
      refine awp_to [(1, .sl 1), (2, .pp 2 0), (5, .sl 3)] [.row false (.trips a0_1), .row false (.ints .i64 a1), .rbox [.v (.int .i64 a0_0), .sl 0], .row true (.ints .i64 y_1)] ?_ ?_
      · clear h
        intro K hK
        refine awp_region ftCOk ?_
        simp (maxSteps := 4000000) only [go_sem, Nat.reduceBEq, Nat.reduceLT, Nat.reduceAdd, Nat.reduceLeDiff, Nat.reduceSub, Nat.reduceEqDiff, Int.reduceToNat, reduceCtorEq, ↓reduceIte]
        repeat' (first | refine And.intro ?_ ?_ | intro hg)
        all_goals (try simp (disch := omega) only [wrap_fits])
        all_goals first
          | (refine hK _ _ ?_; exact Red.auto)
          | exact trivial
          | assumption
          | omega
          | exact wrap_fits (by omega) (by omega)
          | (refine wpA_callA (k_spec_l8Fill a0_0 (-1) (h := hr0)) [] [] ?_
             rintro x Hc' ⟨rfl, rfl⟩ hlen
             refine vcOps_sound ftCOk ?_
             simp (maxSteps := 4000000) only [go_sem, Nat.reduceBEq, Nat.reduceLT, Nat.reduceAdd, Nat.reduceLeDiff, Nat.reduceSub, Nat.reduceEqDiff, Int.reduceToNat, reduceCtorEq, ↓reduceIte]
             repeat' (first | refine And.intro ?_ ?_ | intro hg)
             all_goals (try simp (disch := omega) only [wrap_fits])
             all_goals first
               | (refine hK _ _ ?_; exact Red.auto)
               | exact trivial
               | assumption
               | omega
               | exact wrap_fits (by omega) (by omega)
               | (simp_all; done)
               | (simp_all; omega))
          | (simp_all; done)
          | (simp_all; omega)
      · clear hr0
        refine awp_seq fun K35 hK35 => ?_
        refine awp_reg ftCOk [(1, .sl 1), (2, .pp 2 0), (5, .sl 3), (6, .v (.int .i64 0))] [.row false (.trips a0_1), .row false (.ints .i64 a1), .rbox [.v (.int .i64 a0_0), .sl 0], .row true (.ints .i64 y_1)] ?_
        refine awp_block ?_
        replace h := bind_some h
        obtain ⟨x66, hx, h⟩ := h
        refine awp_loopL hx (fun ((t6, t5s) : Int × List Int) => [(1, .sl 1), (2, .pp 2 0), (5, .sl 3), (6, .v (.int .i64 t6))]) (fun ((t6, t5s) : Int × List Int) => [.row false (.trips a0_1), .row false (.ints .i64 a1), .rbox [.v (.int .i64 a0_0), .sl 0], .row true (.ints .i64 t5s)]) (Sum.elim (fun (t5s_1 : List Int) => Exit.exit 0) (fun (_ : Unit) => Exit.ret)) (Sum.elim (fun (t5s_1 : List Int) => [(2, .pp 2 0), (5, .sl 3)]) (fun (_ : Unit) => [(4, .v (.bool false))])) (Sum.elim (fun (t5s_1 : List Int) => [.row false (.trips a0_1), .row false (.ints .i64 a1), .rbox [.v (.int .i64 a0_0), .sl 0], .row true (.ints .i64 t5s_1)]) (fun (_ : Unit) => [.row false (.trips a0_1), .row false (.ints .i64 a1)])) ?_ ?_ ?_ ?_
        · rintro (t5s_1 | ⟨⟩) hy <;> cases hy
        · clear h hx
          exact Red.auto
        · clear h hx
          rintro ⟨t6, t5s⟩ r h
          unfold spec_OrderForward_b0 at h
          try dsimp only at h
          try dsimp only
          refine awp_seq fun K57 hK57 => ?_
          refine awp_reg ftCOk [(1, .sl 1), (2, .pp 2 0), (5, .sl 3), (6, .v (.int .i64 t6)), (24, .v (.bool (decide (t6 < (a1.length : Int)))))] [.row false (.trips a0_1), .row false (.ints .i64 a1), .rbox [.v (.int .i64 a0_0), .sl 0], .row true (.ints .i64 t5s)] ?_
          refine awp_cond (t := 24) rfl (fun hc58 => ?_) (fun hc58 => ?_)
          · replace h := bite_t h hc58
            refine awp_skip ?_
            (try simp only [Thn, InBlk, ↓reduceIte, Nat.reduceEqDiff])
            refine hK57 _ _ ?_
            clear hK57
            refine awp_seq fun K62 hK62 => ?_
            refine awp_block ?_
            refine awp_seq fun K64 hK64 => ?_
            replace h := chk_some h
            obtain ⟨hp0, h⟩ := h
            replace h := chk_some h
            obtain ⟨hp1, h⟩ := h
            have hwhp1 := wrap_fits hp1.1 hp1.2
            replace h := chk_some h
            obtain ⟨hp2, h⟩ := h
            replace h := chk_some h
            obtain ⟨hp3, h⟩ := h
            refine awp_to [(1, .sl 1), (2, .pp 2 0), (5, .sl 3), (6, .v (.int .i64 t6)), (45, .v (.bool ((!(decide (0 ≤ (a1.getD t6.toNat 0)) && decide ((a1.getD t6.toNat 0) ≤ (a0_0 - 1)))) || (decide (0 ≤ (t5s.getD ((a1.getD t6.toNat 0).toNat) 0))))))] [.row false (.trips a0_1), .row false (.ints .i64 a1), .rbox [.v (.int .i64 a0_0), .sl 0], .row true (.ints .i64 t5s)] ?_ ?_
            · clear h
              intro K hK
              refine awp_quietg mixed ftCOk (by kernel_rfl) ?_
              simp (maxSteps := 4000000) only [go_sem, Nat.reduceBEq, Nat.reduceLT, Nat.reduceAdd, Nat.reduceLeDiff, Nat.reduceSub, Nat.reduceEqDiff, Int.reduceToNat, reduceCtorEq, ↓reduceIte]
              repeat' (first | refine And.intro ?_ ?_ | intro hg)
              all_goals (try simp (disch := omega) only [wrap_fits])
              all_goals first
                | (refine hK _ _ ?_; exact Red.auto)
                | exact trivial
                | assumption
                | omega
                | exact wrap_fits (by omega) (by omega)
                | (have hq := hp2 (by first | assumption | (simp only [*, Bool.false_or, Bool.true_or, Bool.or_false, Bool.or_true, Bool.false_and, Bool.true_and, Bool.and_false, Bool.and_true, Bool.not_true, Bool.not_false, beq_self_eq_true]; done) | (simp_all; done)); omega)
                | (have hq := hp3 (by first | assumption | (simp only [*, Bool.false_or, Bool.true_or, Bool.or_false, Bool.or_true, Bool.false_and, Bool.true_and, Bool.and_false, Bool.and_true, Bool.not_true, Bool.not_false, beq_self_eq_true]; done) | (simp_all; done)); omega)
                | (simp_all; done)
                | (simp_all; omega)
            · clear hp0 hp1 hp2 hp3
              refine awp_cond (t := 45) rfl (fun hc65 => ?_) (fun hc65 => ?_)
              · replace h := bite_t h hc65
                refine awp_reg ftCOk [(4, .v (.bool false))] [.row false (.trips a0_1), .row false (.ints .i64 a1), .rbox [.v (.int .i64 a0_0), .sl 0], .row true (.ints .i64 t5s)] ?_
                refine awp_ret ?_
                (try simp only [Thn, InBlk, ↓reduceIte, Nat.reduceEqDiff])
                obtain rfl := Option.some.inj h
                refine LoopQ.out rfl ?_
                exact Red.selA [0, 1] Red.auto
              · replace h := bite_f h hc65
                refine awp_skip ?_
                (try simp only [Thn, InBlk, ↓reduceIte, Nat.reduceEqDiff])
                refine hK64 _ _ ?_
                clear hK64
                replace h := chk_some h
                obtain ⟨hp0, h⟩ := h
                replace h := chk_some h
                obtain ⟨hp1, h⟩ := h
                refine awp_regE ftCOk [(1, .sl 1), (2, .pp 2 0), (5, .sl 3), (6, .v (.int .i64 t6))] [.row false (.trips a0_1), .row false (.ints .i64 a1), .rbox [.v (.int .i64 a0_0), .sl 0], .row true (.ints .i64 (t5s.set ((a1.getD t6.toNat 0).toNat) t6))] ?_
                clear hp0 hp1
                (try simp only [Thn, InBlk, ↓reduceIte, Nat.reduceEqDiff])
                (try simp only [Thn, InBlk, ↓reduceIte, Nat.reduceEqDiff])
                refine hK62 _ _ ?_
                clear hK62
                replace h := chk_some h
                obtain ⟨hp0, h⟩ := h
                refine awp_regE ftCOk [(1, .sl 1), (2, .pp 2 0), (5, .sl 3), (6, .v (.int .i64 (t6 + 1)))] [.row false (.trips a0_1), .row false (.ints .i64 a1), .rbox [.v (.int .i64 a0_0), .sl 0], .row true (.ints .i64 (t5s.set ((a1.getD t6.toNat 0).toNat) t6))] ?_
                clear hp0
                obtain rfl := Option.some.inj h
                refine LoopQ.next ?_
                exact Red.auto
          · replace h := bite_f h hc58
            refine awp_exit ?_
            (try simp only [Thn, InBlk, ↓reduceIte, Nat.reduceEqDiff])
            obtain rfl := Option.some.inj h
            refine LoopQ.out rfl ?_
            exact Red.auto
        · clear hx
          rcases x66 with (t5s_1 | ⟨⟩)
          · try dsimp only [Sum.elim_inl, Sum.elim_inr] at h
            try dsimp only [Sum.elim_inl, Sum.elim_inr]
            (try simp only [Thn, InBlk, ↓reduceIte, Nat.reduceEqDiff])
            (try simp only [Thn, InBlk, ↓reduceIte, Nat.reduceEqDiff])
            (try simp only [Thn, InBlk, ↓reduceIte, Nat.reduceEqDiff])
            refine hK35 _ _ ?_
            clear hK35
            refine awp_seq fun K86 hK86 => ?_
            refine awp_reg ftCOk [(2, .pp 2 0), (5, .sl 3), (7, .v (.int .i64 0))] [.row false (.trips a0_1), .row false (.ints .i64 a1), .rbox [.v (.int .i64 a0_0), .sl 0], .row true (.ints .i64 t5s_1)] ?_
            refine awp_block ?_
            replace h := bind_some h
            obtain ⟨x105, hx, h⟩ := h
            refine awp_loopL hx (fun (t7 : Int) => [(2, .pp 2 0), (5, .sl 3), (7, .v (.int .i64 t7))]) (fun (t7 : Int) => [.row false (.trips a0_1), .row false (.ints .i64 a1), .rbox [.v (.int .i64 a0_0), .sl 0], .row true (.ints .i64 t5s_1)]) (Sum.elim (fun (_ : Unit) => Exit.exit 2) (fun (_ : Unit) => Exit.ret)) (Sum.elim (fun (_ : Unit) => []) (fun (_ : Unit) => [(4, .v (.bool false))])) (Sum.elim (fun (_ : Unit) => [.row false (.trips a0_1), .row false (.ints .i64 a1)]) (fun (_ : Unit) => [.row false (.trips a0_1), .row false (.ints .i64 a1)])) ?_ ?_ ?_ ?_
            · rintro (⟨⟩ | ⟨⟩) hy <;> cases hy
            · clear h hx
              exact Red.auto
            · clear h hx
              rintro t7 r h
              unfold spec_OrderForward_b1 at h
              try dsimp only at h
              try dsimp only
              refine awp_seq fun K100 hK100 => ?_
              refine awp_reg ftCOk [(2, .pp 2 0), (5, .sl 3), (7, .v (.int .i64 t7)), (57, .v (.bool (decide (t7 < (a0_1.length : Int)))))] [.row false (.trips a0_1), .row false (.ints .i64 a1), .rbox [.v (.int .i64 a0_0), .sl 0], .row true (.ints .i64 t5s_1)] ?_
              refine awp_cond (t := 57) rfl (fun hc101 => ?_) (fun hc101 => ?_)
              · replace h := bite_t h hc101
                refine awp_skip ?_
                (try simp only [Thn, InBlk, ↓reduceIte, Nat.reduceEqDiff])
                refine hK100 _ _ ?_
                clear hK100
                refine awp_seq fun K103 hK103 => ?_
                refine awp_block ?_
                replace h := chk_some h
                obtain ⟨hp0, h⟩ := h
                replace h := chk_some h
                obtain ⟨hp1, h⟩ := h
                replace h := chk_some h
                obtain ⟨hp2, h⟩ := h
                refine awp_regQ mixed ftCOk [(2, .pp 2 0), (5, .sl 3), (7, .v (.int .i64 t7)), (78, .v (.bool (decide ((t5s_1.getD (((a0_1.getD t7.toNat (0, 0, 0)).2.1).toNat) 0) ≤ (t5s_1.getD (((a0_1.getD t7.toNat (0, 0, 0)).1).toNat) 0)))))] [.row false (.trips a0_1), .row false (.ints .i64 a1), .rbox [.v (.int .i64 a0_0), .sl 0], .row true (.ints .i64 t5s_1)] ?_
                clear hp0 hp1 hp2
                refine awp_cond (t := 78) rfl (fun hc104 => ?_) (fun hc104 => ?_)
                · replace h := bite_t h hc104
                  refine awp_reg ftCOk [(4, .v (.bool false))] [.row false (.trips a0_1), .row false (.ints .i64 a1), .rbox [.v (.int .i64 a0_0), .sl 0], .row true (.ints .i64 t5s_1)] ?_
                  refine awp_ret ?_
                  (try simp only [Thn, InBlk, ↓reduceIte, Nat.reduceEqDiff])
                  obtain rfl := Option.some.inj h
                  refine LoopQ.out rfl ?_
                  exact Red.selA [0, 1] Red.auto
                · replace h := bite_f h hc104
                  refine awp_skip ?_
                  (try simp only [Thn, InBlk, ↓reduceIte, Nat.reduceEqDiff])
                  (try simp only [Thn, InBlk, ↓reduceIte, Nat.reduceEqDiff])
                  refine hK103 _ _ ?_
                  clear hK103
                  replace h := chk_some h
                  obtain ⟨hp0, h⟩ := h
                  refine awp_regE ftCOk [(2, .pp 2 0), (5, .sl 3), (7, .v (.int .i64 (t7 + 1)))] [.row false (.trips a0_1), .row false (.ints .i64 a1), .rbox [.v (.int .i64 a0_0), .sl 0], .row true (.ints .i64 t5s_1)] ?_
                  clear hp0
                  obtain rfl := Option.some.inj h
                  refine LoopQ.next ?_
                  exact Red.auto
              · replace h := bite_f h hc101
                refine awp_exit ?_
                (try simp only [Thn, InBlk, ↓reduceIte, Nat.reduceEqDiff])
                obtain rfl := Option.some.inj h
                refine LoopQ.out rfl ?_
                exact Red.selA [0, 1] Red.auto
            · clear hx
              rcases x105 with (⟨⟩ | ⟨⟩)
              · try dsimp only [Sum.elim_inl, Sum.elim_inr] at h
                try dsimp only [Sum.elim_inl, Sum.elim_inr]
                (try simp only [Thn, InBlk, ↓reduceIte, Nat.reduceEqDiff])
                (try simp only [Thn, InBlk, ↓reduceIte, Nat.reduceEqDiff])
                (try simp only [Thn, InBlk, ↓reduceIte, Nat.reduceEqDiff])
                refine hK86 _ _ ?_
                clear hK86
                refine awp_reg ftCOk [(4, .v (.bool true))] [.row false (.trips a0_1), .row false (.ints .i64 a1)] ?_
                refine awp_ret ?_
                (try simp only [Thn, InBlk, ↓reduceIte, Nat.reduceEqDiff])
                obtain rfl := Option.some.inj h
                refine ⟨by simp, _, [0, 1], (by simp only [go_sem, Nat.reduceBEq, Nat.reduceLT, Nat.reduceAdd, Nat.reduceLeDiff, Nat.reduceSub, Nat.reduceEqDiff, Int.reduceToNat, reduceCtorEq, ↓reduceIte]; exact rfl), ?_, ?_, ?_, ?_⟩
                · first | exact trivial | exact ⟨trivial, trivial⟩ | exact ⟨trivial, trivial, trivial⟩ | exact ⟨trivial, trivial, trivial, trivial⟩ | (simp only [allP, and_true, true_and]; done) | (simp only [allP, and_true, true_and]; omega)
                · simp [selOk, pos]
                · simp
                · first | exact ⟨rfl, rfl⟩ | (simp only [go_sem, Nat.reduceBEq, Nat.reduceLT, Nat.reduceAdd, Nat.reduceLeDiff, Nat.reduceSub, Nat.reduceEqDiff, Int.reduceToNat, reduceCtorEq, ↓reduceIte]; done) | (simp [go_sem, Nat.reduceBEq, Nat.reduceLT, Nat.reduceAdd, Nat.reduceLeDiff, Nat.reduceSub, Nat.reduceEqDiff, Int.reduceToNat, reduceCtorEq, ↓reduceIte]; done) | (simp only [go_sem, Nat.reduceBEq, Nat.reduceLT, Nat.reduceAdd, Nat.reduceLeDiff, Nat.reduceSub, Nat.reduceEqDiff, Int.reduceToNat, reduceCtorEq, ↓reduceIte]; exact ⟨rfl, rfl⟩) | (simp_all [go_sem, Nat.reduceBEq, Nat.reduceLT, Nat.reduceAdd, Nat.reduceLeDiff, Nat.reduceSub, Nat.reduceEqDiff, Int.reduceToNat, reduceCtorEq, ↓reduceIte]; done)
              · try dsimp only [Sum.elim_inl, Sum.elim_inr] at h
                try dsimp only [Sum.elim_inl, Sum.elim_inr]
                (try simp only [Thn, InBlk, ↓reduceIte, Nat.reduceEqDiff])
                obtain rfl := Option.some.inj h
                refine ⟨by simp, _, [0, 1], (by simp only [go_sem, Nat.reduceBEq, Nat.reduceLT, Nat.reduceAdd, Nat.reduceLeDiff, Nat.reduceSub, Nat.reduceEqDiff, Int.reduceToNat, reduceCtorEq, ↓reduceIte]; exact rfl), ?_, ?_, ?_, ?_⟩
                · first | exact trivial | exact ⟨trivial, trivial⟩ | exact ⟨trivial, trivial, trivial⟩ | exact ⟨trivial, trivial, trivial, trivial⟩ | (simp only [allP, and_true, true_and]; done) | (simp only [allP, and_true, true_and]; omega)
                · simp [selOk, pos]
                · simp
                · first | exact ⟨rfl, rfl⟩ | (simp only [go_sem, Nat.reduceBEq, Nat.reduceLT, Nat.reduceAdd, Nat.reduceLeDiff, Nat.reduceSub, Nat.reduceEqDiff, Int.reduceToNat, reduceCtorEq, ↓reduceIte]; done) | (simp [go_sem, Nat.reduceBEq, Nat.reduceLT, Nat.reduceAdd, Nat.reduceLeDiff, Nat.reduceSub, Nat.reduceEqDiff, Int.reduceToNat, reduceCtorEq, ↓reduceIte]; done) | (simp only [go_sem, Nat.reduceBEq, Nat.reduceLT, Nat.reduceAdd, Nat.reduceLeDiff, Nat.reduceSub, Nat.reduceEqDiff, Int.reduceToNat, reduceCtorEq, ↓reduceIte]; exact ⟨rfl, rfl⟩) | (simp_all [go_sem, Nat.reduceBEq, Nat.reduceLT, Nat.reduceAdd, Nat.reduceLeDiff, Nat.reduceSub, Nat.reduceEqDiff, Int.reduceToNat, reduceCtorEq, ↓reduceIte]; done)
          · try dsimp only [Sum.elim_inl, Sum.elim_inr] at h
            try dsimp only [Sum.elim_inl, Sum.elim_inr]
            (try simp only [Thn, InBlk, ↓reduceIte, Nat.reduceEqDiff])
            obtain rfl := Option.some.inj h
            refine ⟨by simp, _, [0, 1], (by simp only [go_sem, Nat.reduceBEq, Nat.reduceLT, Nat.reduceAdd, Nat.reduceLeDiff, Nat.reduceSub, Nat.reduceEqDiff, Int.reduceToNat, reduceCtorEq, ↓reduceIte]; exact rfl), ?_, ?_, ?_, ?_⟩
            · first | exact trivial | exact ⟨trivial, trivial⟩ | exact ⟨trivial, trivial, trivial⟩ | exact ⟨trivial, trivial, trivial, trivial⟩ | (simp only [allP, and_true, true_and]; done) | (simp only [allP, and_true, true_and]; omega)
            · simp [selOk, pos]
            · simp
            · first | exact ⟨rfl, rfl⟩ | (simp only [go_sem, Nat.reduceBEq, Nat.reduceLT, Nat.reduceAdd, Nat.reduceLeDiff, Nat.reduceSub, Nat.reduceEqDiff, Int.reduceToNat, reduceCtorEq, ↓reduceIte]; done) | (simp [go_sem, Nat.reduceBEq, Nat.reduceLT, Nat.reduceAdd, Nat.reduceLeDiff, Nat.reduceSub, Nat.reduceEqDiff, Int.reduceToNat, reduceCtorEq, ↓reduceIte]; done) | (simp only [go_sem, Nat.reduceBEq, Nat.reduceLT, Nat.reduceAdd, Nat.reduceLeDiff, Nat.reduceSub, Nat.reduceEqDiff, Int.reduceToNat, reduceCtorEq, ↓reduceIte]; exact ⟨rfl, rfl⟩) | (simp_all [go_sem, Nat.reduceBEq, Nat.reduceLT, Nat.reduceAdd, Nat.reduceLeDiff, Nat.reduceSub, Nat.reduceEqDiff, Int.reduceToNat, reduceCtorEq, ↓reduceIte]; done)
theorem k_impl_BytesValid (a0 : List Int) {r : Bool} (h : impl_BytesValid a0 = some r) :
    FnA Tryd.prog 68 [.sl 0] [.row false (.ints .i64 a0)] [] (fun x H => x = .v (.bool r) ∧ H = [.row false (.ints .i64 a0)]) := by
  unfold impl_BytesValid at h
  refine FnA.of (N := 21) (pin := [0]) (rs := [.tmp 2]) Tryd.func68 rfl en68 rfl rfl (by simp) (by simp; try omega) ?_
  refine awp_reg ftCOk [(0, .sl 0)] [.row false (.ints .i64 a0)] ?_
  refine awp_seq fun K2 hK2 => ?_
  refine awp_reg ftCOk [(0, .sl 0), (7, .v (.bool (decide (2000 < (a0.length : Int)))))] [.row false (.ints .i64 a0)] ?_
  refine awp_cond (t := 7) rfl (fun hc3 => ?_) (fun hc3 => ?_)
  · replace h := bite_t h hc3
    refine awp_reg ftCOk [(2, .v (.bool false))] [.row false (.ints .i64 a0)] ?_
    refine awp_ret ?_
    (try simp only [Thn, InBlk, ↓reduceIte, Nat.reduceEqDiff])
    obtain rfl := Option.some.inj h
    refine ⟨by simp, _, [0], (by simp only [go_sem, Nat.reduceBEq, Nat.reduceLT, Nat.reduceAdd, Nat.reduceLeDiff, Nat.reduceSub, Nat.reduceEqDiff, Int.reduceToNat, reduceCtorEq, ↓reduceIte]; exact rfl), ?_, ?_, ?_, ?_⟩
    · first | exact trivial | exact ⟨trivial, trivial⟩ | exact ⟨trivial, trivial, trivial⟩ | exact ⟨trivial, trivial, trivial, trivial⟩ | (simp only [allP, and_true, true_and]; done) | (simp only [allP, and_true, true_and]; omega)
    · simp [selOk, pos]
    · simp
    · first | exact ⟨rfl, rfl⟩ | (simp only [go_sem, Nat.reduceBEq, Nat.reduceLT, Nat.reduceAdd, Nat.reduceLeDiff, Nat.reduceSub, Nat.reduceEqDiff, Int.reduceToNat, reduceCtorEq, ↓reduceIte]; done) | (simp [go_sem, Nat.reduceBEq, Nat.reduceLT, Nat.reduceAdd, Nat.reduceLeDiff, Nat.reduceSub, Nat.reduceEqDiff, Int.reduceToNat, reduceCtorEq, ↓reduceIte]; done) | (simp only [go_sem, Nat.reduceBEq, Nat.reduceLT, Nat.reduceAdd, Nat.reduceLeDiff, Nat.reduceSub, Nat.reduceEqDiff, Int.reduceToNat, reduceCtorEq, ↓reduceIte]; exact ⟨rfl, rfl⟩) | (simp_all [go_sem, Nat.reduceBEq, Nat.reduceLT, Nat.reduceAdd, Nat.reduceLeDiff, Nat.reduceSub, Nat.reduceEqDiff, Int.reduceToNat, reduceCtorEq, ↓reduceIte]; done)
  · replace h := bite_f h hc3
    refine awp_skip ?_
    (try simp only [Thn, InBlk, ↓reduceIte, Nat.reduceEqDiff])
    refine hK2 _ _ ?_
    clear hK2
    refine awp_seq fun K23 hK23 => ?_
    refine awp_reg ftCOk [(8, .sl 0), (9, .v (.int .i64 (a0.length : Int))), (10, .v (.int .i64 0))] [.row false (.ints .i64 a0)] ?_
    refine awp_block ?_
    replace h := bind_some h
    obtain ⟨x42, hx, h⟩ := h
    refine awp_loopL hx (fun (t10 : Int) => [(8, .sl 0), (9, .v (.int .i64 (a0.length : Int))), (10, .v (.int .i64 t10))]) (fun (t10 : Int) => [.row false (.ints .i64 a0)]) (Sum.elim (fun (_ : Unit) => Exit.exit 0) (fun (_ : Unit) => Exit.ret)) (Sum.elim (fun (_ : Unit) => []) (fun (_ : Unit) => [(2, .v (.bool false))])) (Sum.elim (fun (_ : Unit) => [.row false (.ints .i64 a0)]) (fun (_ : Unit) => [.row false (.ints .i64 a0)])) ?_ ?_ ?_ ?_
    · rintro (⟨⟩ | ⟨⟩) hy <;> cases hy
    · clear h hx
      exact Red.auto
    · clear h hx
      rintro t10 r h
      unfold impl_BytesValid_b0 at h
      try dsimp only at h
      try dsimp only
      refine awp_reg ftCOk [(8, .sl 0), (9, .v (.int .i64 (a0.length : Int))), (10, .v (.int .i64 t10)), (11, .v (.bool (decide (t10 < (a0.length : Int)))))] [.row false (.ints .i64 a0)] ?_
      refine awp_seq fun K37 hK37 => ?_
      refine awp_cond (t := 11) rfl (fun hc38 => ?_) (fun hc38 => ?_)
      · replace h := bite_t h hc38
        refine awp_skip ?_
        (try simp only [Thn, InBlk, ↓reduceIte, Nat.reduceEqDiff])
        refine hK37 _ _ ?_
        clear hK37
        refine awp_seq fun K40 hK40 => ?_
        refine awp_block ?_
        replace h := chk_some h
        obtain ⟨hp0, h⟩ := h
        refine awp_reg ftCOk [(4, .v (.int .i64 (a0.getD t10.toNat 0))), (8, .sl 0), (9, .v (.int .i64 (a0.length : Int))), (10, .v (.int .i64 t10))] [.row false (.ints .i64 a0)] ?_
        clear hp0
        refine awp_reg ftCOk [(8, .sl 0), (9, .v (.int .i64 (a0.length : Int))), (10, .v (.int .i64 t10)), (19, .v (.bool ((decide ((a0.getD t10.toNat 0) < 0)) || (decide (255 < (a0.getD t10.toNat 0))))))] [.row false (.ints .i64 a0)] ?_
        refine awp_cond (t := 19) rfl (fun hc41 => ?_) (fun hc41 => ?_)
        · replace h := bite_t h hc41
          refine awp_reg ftCOk [(2, .v (.bool false))] [.row false (.ints .i64 a0)] ?_
          refine awp_ret ?_
          (try simp only [Thn, InBlk, ↓reduceIte, Nat.reduceEqDiff])
          obtain rfl := Option.some.inj h
          refine LoopQ.out rfl ?_
          exact Red.auto
        · replace h := bite_f h hc41
          refine awp_skip ?_
          (try simp only [Thn, InBlk, ↓reduceIte, Nat.reduceEqDiff])
          (try simp only [Thn, InBlk, ↓reduceIte, Nat.reduceEqDiff])
          refine hK40 _ _ ?_
          clear hK40
          replace h := chk_some h
          obtain ⟨hp0, h⟩ := h
          refine awp_regE ftCOk [(8, .sl 0), (9, .v (.int .i64 (a0.length : Int))), (10, .v (.int .i64 (t10 + 1)))] [.row false (.ints .i64 a0)] ?_
          clear hp0
          obtain rfl := Option.some.inj h
          refine LoopQ.next ?_
          exact Red.auto
      · replace h := bite_f h hc38
        refine awp_exit ?_
        (try simp only [Thn, InBlk, ↓reduceIte, Nat.reduceEqDiff])
        obtain rfl := Option.some.inj h
        refine LoopQ.out rfl ?_
        exact Red.auto
    · clear hx
      rcases x42 with (⟨⟩ | ⟨⟩)
      · try dsimp only [Sum.elim_inl, Sum.elim_inr] at h
        try dsimp only [Sum.elim_inl, Sum.elim_inr]
        (try simp only [Thn, InBlk, ↓reduceIte, Nat.reduceEqDiff])
        (try simp only [Thn, InBlk, ↓reduceIte, Nat.reduceEqDiff])
        (try simp only [Thn, InBlk, ↓reduceIte, Nat.reduceEqDiff])
        refine hK23 _ _ ?_
        clear hK23
        refine awp_reg ftCOk [(2, .v (.bool true))] [.row false (.ints .i64 a0)] ?_
        refine awp_ret ?_
        (try simp only [Thn, InBlk, ↓reduceIte, Nat.reduceEqDiff])
        obtain rfl := Option.some.inj h
        refine ⟨by simp, _, [0], (by simp only [go_sem, Nat.reduceBEq, Nat.reduceLT, Nat.reduceAdd, Nat.reduceLeDiff, Nat.reduceSub, Nat.reduceEqDiff, Int.reduceToNat, reduceCtorEq, ↓reduceIte]; exact rfl), ?_, ?_, ?_, ?_⟩
        · first | exact trivial | exact ⟨trivial, trivial⟩ | exact ⟨trivial, trivial, trivial⟩ | exact ⟨trivial, trivial, trivial, trivial⟩ | (simp only [allP, and_true, true_and]; done) | (simp only [allP, and_true, true_and]; omega)
        · simp [selOk, pos]
        · simp
        · first | exact ⟨rfl, rfl⟩ | (simp only [go_sem, Nat.reduceBEq, Nat.reduceLT, Nat.reduceAdd, Nat.reduceLeDiff, Nat.reduceSub, Nat.reduceEqDiff, Int.reduceToNat, reduceCtorEq, ↓reduceIte]; done) | (simp [go_sem, Nat.reduceBEq, Nat.reduceLT, Nat.reduceAdd, Nat.reduceLeDiff, Nat.reduceSub, Nat.reduceEqDiff, Int.reduceToNat, reduceCtorEq, ↓reduceIte]; done) | (simp only [go_sem, Nat.reduceBEq, Nat.reduceLT, Nat.reduceAdd, Nat.reduceLeDiff, Nat.reduceSub, Nat.reduceEqDiff, Int.reduceToNat, reduceCtorEq, ↓reduceIte]; exact ⟨rfl, rfl⟩) | (simp_all [go_sem, Nat.reduceBEq, Nat.reduceLT, Nat.reduceAdd, Nat.reduceLeDiff, Nat.reduceSub, Nat.reduceEqDiff, Int.reduceToNat, reduceCtorEq, ↓reduceIte]; done)
      · try dsimp only [Sum.elim_inl, Sum.elim_inr] at h
        try dsimp only [Sum.elim_inl, Sum.elim_inr]
        (try simp only [Thn, InBlk, ↓reduceIte, Nat.reduceEqDiff])
        obtain rfl := Option.some.inj h
        refine ⟨by simp, _, [0], (by simp only [go_sem, Nat.reduceBEq, Nat.reduceLT, Nat.reduceAdd, Nat.reduceLeDiff, Nat.reduceSub, Nat.reduceEqDiff, Int.reduceToNat, reduceCtorEq, ↓reduceIte]; exact rfl), ?_, ?_, ?_, ?_⟩
        · first | exact trivial | exact ⟨trivial, trivial⟩ | exact ⟨trivial, trivial, trivial⟩ | exact ⟨trivial, trivial, trivial, trivial⟩ | (simp only [allP, and_true, true_and]; done) | (simp only [allP, and_true, true_and]; omega)
        · simp [selOk, pos]
        · simp
        · first | exact ⟨rfl, rfl⟩ | (simp only [go_sem, Nat.reduceBEq, Nat.reduceLT, Nat.reduceAdd, Nat.reduceLeDiff, Nat.reduceSub, Nat.reduceEqDiff, Int.reduceToNat, reduceCtorEq, ↓reduceIte]; done) | (simp [go_sem, Nat.reduceBEq, Nat.reduceLT, Nat.reduceAdd, Nat.reduceLeDiff, Nat.reduceSub, Nat.reduceEqDiff, Int.reduceToNat, reduceCtorEq, ↓reduceIte]; done) | (simp only [go_sem, Nat.reduceBEq, Nat.reduceLT, Nat.reduceAdd, Nat.reduceLeDiff, Nat.reduceSub, Nat.reduceEqDiff, Int.reduceToNat, reduceCtorEq, ↓reduceIte]; exact ⟨rfl, rfl⟩) | (simp_all [go_sem, Nat.reduceBEq, Nat.reduceLT, Nat.reduceAdd, Nat.reduceLeDiff, Nat.reduceSub, Nat.reduceEqDiff, Int.reduceToNat, reduceCtorEq, ↓reduceIte]; done)
theorem k_impl_CheckSum (a0 : List Int) {r : Int} (h : impl_CheckSum a0 = some r) :
    FnA Tryd.prog 46 [.sl 0] [.row false (.ints .i64 a0)] [] (fun x H => x = .v (.int .i64 r) ∧ H = [.row false (.ints .i64 a0)]) := by
  unfold impl_CheckSum at h
  refine FnA.of (N := 23) (pin := [0]) (rs := [.tmp 2]) Tryd.func46 rfl en46 rfl rfl (by simp) (by simp; try omega) ?_
  refine awp_reg ftCOk [(0, .sl 0)] [.row false (.ints .i64 a0)] ?_
  refine awp_seq fun K2 hK2 => ?_
  replace h := bind_some h
  obtain ⟨y, hr0, h⟩ := h
  try dsimp only at h
  refine awp_to [(0, .sl 0), (8, .v (.bool (!y)))] [.row false (.ints .i64 a0)] ?_ ?_
  · clear h
    intro K hK
    refine awp_region ftCOk ?_
    simp (maxSteps := 4000000) only [go_sem, Nat.reduceBEq, Nat.reduceLT, Nat.reduceAdd, Nat.reduceLeDiff, Nat.reduceSub, Nat.reduceEqDiff, Int.reduceToNat, reduceCtorEq, ↓reduceIte]
    repeat' (first | refine And.intro ?_ ?_ | intro hg)
    all_goals (try simp (disch := omega) only [wrap_fits])
    all_goals first
      | (refine hK _ _ ?_; exact Red.auto)
      | exact trivial
      | assumption
      | omega
      | exact wrap_fits (by omega) (by omega)
      | (refine wpA_callA (k_impl_BytesValid a0 (h := hr0)) [0] [] ?_
         rintro x Hc' ⟨rfl, rfl⟩ hlen
         refine vcOps_sound ftCOk ?_
         simp (maxSteps := 4000000) only [go_sem, Nat.reduceBEq, Nat.reduceLT, Nat.reduceAdd, Nat.reduceLeDiff, Nat.reduceSub, Nat.reduceEqDiff, Int.reduceToNat, reduceCtorEq, ↓reduceIte]
         repeat' (first | refine And.intro ?_ ?_ | intro hg)
         all_goals (try simp (disch := omega) only [wrap_fits])
         all_goals first
           | (refine hK _ _ ?_; exact Red.auto)
           | exact trivial
           | assumption
           | omega
           | exact wrap_fits (by omega) (by omega)
           | (simp_all; done)
           | (simp_all; omega))
      | (simp_all; done)
      | (simp_all; omega)
  · clear hr0
    refine awp_cond (t := 8) rfl (fun hc3 => ?_) (fun hc3 => ?_)
    · replace h := bite_t h hc3
      refine awp_reg ftCOk [(2, .v (.int .i64 (-1)))] [.row false (.ints .i64 a0)] ?_
      refine awp_ret ?_
      (try simp only [Thn, InBlk, ↓reduceIte, Nat.reduceEqDiff])
      obtain rfl := Option.some.inj h
      refine ⟨by simp, _, [0], (by simp only [go_sem, Nat.reduceBEq, Nat.reduceLT, Nat.reduceAdd, Nat.reduceLeDiff, Nat.reduceSub, Nat.reduceEqDiff, Int.reduceToNat, reduceCtorEq, ↓reduceIte]; exact rfl), ?_, ?_, ?_, ?_⟩
      · first | exact trivial | exact ⟨trivial, trivial⟩ | exact ⟨trivial, trivial, trivial⟩ | exact ⟨trivial, trivial, trivial, trivial⟩ | (simp only [allP, and_true, true_and]; done) | (simp only [allP, and_true, true_and]; omega)
      · simp [selOk, pos]
      · simp
      · first | exact ⟨rfl, rfl⟩ | (simp only [go_sem, Nat.reduceBEq, Nat.reduceLT, Nat.reduceAdd, Nat.reduceLeDiff, Nat.reduceSub, Nat.reduceEqDiff, Int.reduceToNat, reduceCtorEq, ↓reduceIte]; done) | (simp [go_sem, Nat.reduceBEq, Nat.reduceLT, Nat.reduceAdd, Nat.reduceLeDiff, Nat.reduceSub, Nat.reduceEqDiff, Int.reduceToNat, reduceCtorEq, ↓reduceIte]; done) | (simp only [go_sem, Nat.reduceBEq, Nat.reduceLT, Nat.reduceAdd, Nat.reduceLeDiff, Nat.reduceSub, Nat.reduceEqDiff, Int.reduceToNat, reduceCtorEq, ↓reduceIte]; exact ⟨rfl, rfl⟩) | (simp_all [go_sem, Nat.reduceBEq, Nat.reduceLT, Nat.reduceAdd, Nat.reduceLeDiff, Nat.reduceSub, Nat.reduceEqDiff, Int.reduceToNat, reduceCtorEq, ↓reduceIte]; done)
    · replace h := bite_f h hc3
      refine awp_skip ?_
      (try simp only [Thn, InBlk, ↓reduceIte, Nat.reduceEqDiff])
      refine hK2 _ _ ?_
      clear hK2
      refine awp_reg ftCOk [(0, .sl 0), (3, .v (.int .i64 7))] [.row false (.ints .i64 a0)] ?_
      refine awp_seq fun K17 hK17 => ?_
      refine awp_reg ftCOk [(3, .v (.int .i64 7)), (9, .sl 0), (10, .v (.int .i64 (a0.length : Int))), (11, .v (.int .i64 0))] [.row false (.ints .i64 a0)] ?_
      refine awp_block ?_
      replace h := bind_some h
      obtain ⟨t3_1, hx, h⟩ := h
      refine awp_loopL hx (fun ((t3, t11) : Int × Int) => [(3, .v (.int .i64 t3)), (9, .sl 0), (10, .v (.int .i64 (a0.length : Int))), (11, .v (.int .i64 t11))]) (fun ((t3, t11) : Int × Int) => [.row false (.ints .i64 a0)]) (fun (t3_1 : Int) => Exit.exit 0) (fun (t3_1 : Int) => [(3, .v (.int .i64 t3_1))]) (fun (t3_1 : Int) => [.row false (.ints .i64 a0)]) ?_ ?_ ?_ ?_
      · rintro t3_1 hy <;> cases hy
      · clear h hx
        exact Red.auto
      · clear h hx
        rintro ⟨t3, t11⟩ r h
        unfold impl_CheckSum_b0 at h
        try dsimp only at h
        try dsimp only
        refine awp_reg ftCOk [(3, .v (.int .i64 t3)), (9, .sl 0), (10, .v (.int .i64 (a0.length : Int))), (11, .v (.int .i64 t11)), (12, .v (.bool (decide (t11 < (a0.length : Int)))))] [.row false (.ints .i64 a0)] ?_
        refine awp_seq fun K27 hK27 => ?_
        refine awp_cond (t := 12) rfl (fun hc28 => ?_) (fun hc28 => ?_)
        · replace h := bite_t h hc28
          refine awp_skip ?_
          (try simp only [Thn, InBlk, ↓reduceIte, Nat.reduceEqDiff])
          refine hK27 _ _ ?_
          clear hK27
          refine awp_seq fun K29 hK29 => ?_
          refine awp_block ?_
          replace h := chk_some h
          obtain ⟨hp0, h⟩ := h
          refine awp_reg ftCOk [(3, .v (.int .i64 t3)), (5, .v (.int .i64 (a0.getD t11.toNat 0))), (9, .sl 0), (10, .v (.int .i64 (a0.length : Int))), (11, .v (.int .i64 t11))] [.row false (.ints .i64 a0)] ?_
          clear hp0
          replace h := chk_some h
          obtain ⟨hp0, h⟩ := h
          replace h := chk_some h
          obtain ⟨hp1, h⟩ := h
          replace h := chk_some h
          obtain ⟨hp2, h⟩ := h
          replace h := chk_some h
          obtain ⟨hp3, h⟩ := h
          refine awp_regE ftCOk [(3, .v (.int .i64 ((((31 * t3) + (a0.getD t11.toNat 0)) + 1) % 251))), (9, .sl 0), (10, .v (.int .i64 (a0.length : Int))), (11, .v (.int .i64 t11))] [.row false (.ints .i64 a0)] ?_
          clear hp0 hp1 hp2 hp3
          (try simp only [Thn, InBlk, ↓reduceIte, Nat.reduceEqDiff])
          (try simp only [Thn, InBlk, ↓reduceIte, Nat.reduceEqDiff])
          refine hK29 _ _ ?_
          clear hK29
          replace h := chk_some h
          obtain ⟨hp0, h⟩ := h
          refine awp_regE ftCOk [(3, .v (.int .i64 ((((31 * t3) + (a0.getD t11.toNat 0)) + 1) % 251))), (9, .sl 0), (10, .v (.int .i64 (a0.length : Int))), (11, .v (.int .i64 (t11 + 1)))] [.row false (.ints .i64 a0)] ?_
          clear hp0
          obtain rfl := Option.some.inj h
          refine LoopQ.next ?_
          exact Red.auto
        · replace h := bite_f h hc28
          refine awp_exit ?_
          (try simp only [Thn, InBlk, ↓reduceIte, Nat.reduceEqDiff])
          obtain rfl := Option.some.inj h
          refine LoopQ.out rfl ?_
          exact Red.auto
      · clear hx
        skip
        · try dsimp only [Sum.elim_inl, Sum.elim_inr] at h
          try dsimp only [Sum.elim_inl, Sum.elim_inr]
          (try simp only [Thn, InBlk, ↓reduceIte, Nat.reduceEqDiff])
          (try simp only [Thn, InBlk, ↓reduceIte, Nat.reduceEqDiff])
          (try simp only [Thn, InBlk, ↓reduceIte, Nat.reduceEqDiff])
          refine hK17 _ _ ?_
          clear hK17
          refine awp_reg ftCOk [(2, .v (.int .i64 t3_1))] [.row false (.ints .i64 a0)] ?_
          refine awp_ret ?_
          (try simp only [Thn, InBlk, ↓reduceIte, Nat.reduceEqDiff])
          obtain rfl := Option.some.inj h
          refine ⟨by simp, _, [0], (by simp only [go_sem, Nat.reduceBEq, Nat.reduceLT, Nat.reduceAdd, Nat.reduceLeDiff, Nat.reduceSub, Nat.reduceEqDiff, Int.reduceToNat, reduceCtorEq, ↓reduceIte]; exact rfl), ?_, ?_, ?_, ?_⟩
          · first | exact trivial | exact ⟨trivial, trivial⟩ | exact ⟨trivial, trivial, trivial⟩ | exact ⟨trivial, trivial, trivial, trivial⟩ | (simp only [allP, and_true, true_and]; done) | (simp only [allP, and_true, true_and]; omega)
          · simp [selOk, pos]
          · simp
          · first | exact ⟨rfl, rfl⟩ | (simp only [go_sem, Nat.reduceBEq, Nat.reduceLT, Nat.reduceAdd, Nat.reduceLeDiff, Nat.reduceSub, Nat.reduceEqDiff, Int.reduceToNat, reduceCtorEq, ↓reduceIte]; done) | (simp [go_sem, Nat.reduceBEq, Nat.reduceLT, Nat.reduceAdd, Nat.reduceLeDiff, Nat.reduceSub, Nat.reduceEqDiff, Int.reduceToNat, reduceCtorEq, ↓reduceIte]; done) | (simp only [go_sem, Nat.reduceBEq, Nat.reduceLT, Nat.reduceAdd, Nat.reduceLeDiff, Nat.reduceSub, Nat.reduceEqDiff, Int.reduceToNat, reduceCtorEq, ↓reduceIte]; exact ⟨rfl, rfl⟩) | (simp_all [go_sem, Nat.reduceBEq, Nat.reduceLT, Nat.reduceAdd, Nat.reduceLeDiff, Nat.reduceSub, Nat.reduceEqDiff, Int.reduceToNat, reduceCtorEq, ↓reduceIte]; done)
theorem k_laws_alive {r : Bool} (h : laws_alive = some r) :
    FnA Tryd.prog 15 [] [] [] (fun x H => x = .v (.bool r) ∧ H = []) := by
  unfold laws_alive at h
  refine FnA.of (N := 4) (pin := []) (rs := [.tmp 0]) Tryd.func15 rfl en15 rfl rfl (by simp) (by simp; try omega) ?_
  refine awp_reg ftCOk [] [] ?_
  replace h := bind_some h
  obtain ⟨y, hr0, h⟩ := h
  try dsimp only at h
  refine awp_to [(0, .v (.bool (y == 7)))] [.row true (.ints .i64 [])] ?_ ?_
  · clear h
    intro K hK
    refine awp_region ftCOk ?_
    simp (maxSteps := 4000000) only [go_sem, Nat.reduceBEq, Nat.reduceLT, Nat.reduceAdd, Nat.reduceLeDiff, Nat.reduceSub, Nat.reduceEqDiff, Int.reduceToNat, reduceCtorEq, ↓reduceIte]
    repeat' (first | refine And.intro ?_ ?_ | intro hg)
    all_goals (try simp (disch := omega) only [wrap_fits])
    all_goals first
      | (refine hK _ _ ?_; exact Red.auto)
      | exact trivial
      | assumption
      | omega
      | exact wrap_fits (by omega) (by omega)
      | (refine wpA_callA (k_impl_CheckSum [] (h := hr0)) [0] [] ?_
         rintro x Hc' ⟨rfl, rfl⟩ hlen
         refine vcOps_sound ftCOk ?_
         simp (maxSteps := 4000000) only [go_sem, Nat.reduceBEq, Nat.reduceLT, Nat.reduceAdd, Nat.reduceLeDiff, Nat.reduceSub, Nat.reduceEqDiff, Int.reduceToNat, reduceCtorEq, ↓reduceIte]
         repeat' (first | refine And.intro ?_ ?_ | intro hg)
         all_goals (try simp (disch := omega) only [wrap_fits])
         all_goals first
           | (refine hK _ _ ?_; exact Red.auto)
           | exact trivial
           | assumption
           | omega
           | exact wrap_fits (by omega) (by omega)
           | (simp_all; done)
           | (simp_all; omega))
      | (simp_all; done)
      | (simp_all; omega)
  · clear hr0
    refine awp_ret ?_
    (try simp only [Thn, InBlk, ↓reduceIte, Nat.reduceEqDiff])
    obtain rfl := Option.some.inj h
    refine ⟨by simp, _, [], (by simp only [go_sem, Nat.reduceBEq, Nat.reduceLT, Nat.reduceAdd, Nat.reduceLeDiff, Nat.reduceSub, Nat.reduceEqDiff, Int.reduceToNat, reduceCtorEq, ↓reduceIte]; exact rfl), ?_, ?_, ?_, ?_⟩
    · first | exact trivial | exact ⟨trivial, trivial⟩ | exact ⟨trivial, trivial, trivial⟩ | exact ⟨trivial, trivial, trivial, trivial⟩ | (simp only [allP, and_true, true_and]; done) | (simp only [allP, and_true, true_and]; omega)
    · simp [selOk, pos]
    · simp
    · first | exact ⟨rfl, rfl⟩ | (simp only [go_sem, Nat.reduceBEq, Nat.reduceLT, Nat.reduceAdd, Nat.reduceLeDiff, Nat.reduceSub, Nat.reduceEqDiff, Int.reduceToNat, reduceCtorEq, ↓reduceIte]; done) | (simp [go_sem, Nat.reduceBEq, Nat.reduceLT, Nat.reduceAdd, Nat.reduceLeDiff, Nat.reduceSub, Nat.reduceEqDiff, Int.reduceToNat, reduceCtorEq, ↓reduceIte]; done) | (simp only [go_sem, Nat.reduceBEq, Nat.reduceLT, Nat.reduceAdd, Nat.reduceLeDiff, Nat.reduceSub, Nat.reduceEqDiff, Int.reduceToNat, reduceCtorEq, ↓reduceIte]; exact ⟨rfl, rfl⟩) | (simp_all [go_sem, Nat.reduceBEq, Nat.reduceLT, Nat.reduceAdd, Nat.reduceLeDiff, Nat.reduceSub, Nat.reduceEqDiff, Int.reduceToNat, reduceCtorEq, ↓reduceIte]; done)
theorem k_impl_maskOf (a0 : Int) {r : Int} (h : impl_maskOf a0 = some r) :
    FnA Tryd.prog 57 [.v (.int .i64 a0)] [] [] (fun x H => x = .v (.int .u32 r) ∧ H = []) := by
  unfold impl_maskOf at h
  refine FnA.of (N := 6) (pin := []) (rs := [.tmp 2]) Tryd.func57 rfl en57 rfl rfl (by simp) (by simp; try omega) ?_
  refine awp_reg ftCOk [(0, .v (.int .i64 a0))] [] ?_
  replace h := chk_some h
  obtain ⟨hp0, h⟩ := h
  refine awp_reg ftCOk [(2, .v (.int .u32 (IntKind.u32.wrap (1 * 2 ^ min (IntKind.u64.wrap a0).toNat IntKind.u32.bits))))] [] ?_
  clear hp0
  refine awp_ret ?_
  (try simp only [Thn, InBlk, ↓reduceIte, Nat.reduceEqDiff])
  obtain rfl := Option.some.inj h
  refine ⟨by simp, _, [], (by simp only [go_sem, Nat.reduceBEq, Nat.reduceLT, Nat.reduceAdd, Nat.reduceLeDiff, Nat.reduceSub, Nat.reduceEqDiff, Int.reduceToNat, reduceCtorEq, ↓reduceIte]; exact rfl), ?_, ?_, ?_, ?_⟩
  · first | exact trivial | exact ⟨trivial, trivial⟩ | exact ⟨trivial, trivial, trivial⟩ | exact ⟨trivial, trivial, trivial, trivial⟩ | (simp only [allP, and_true, true_and]; done) | (simp only [allP, and_true, true_and]; omega)
  · simp [selOk, pos]
  · simp
  · first | exact ⟨rfl, rfl⟩ | (simp only [go_sem, Nat.reduceBEq, Nat.reduceLT, Nat.reduceAdd, Nat.reduceLeDiff, Nat.reduceSub, Nat.reduceEqDiff, Int.reduceToNat, reduceCtorEq, ↓reduceIte]; done) | (simp [go_sem, Nat.reduceBEq, Nat.reduceLT, Nat.reduceAdd, Nat.reduceLeDiff, Nat.reduceSub, Nat.reduceEqDiff, Int.reduceToNat, reduceCtorEq, ↓reduceIte]; done) | (simp only [go_sem, Nat.reduceBEq, Nat.reduceLT, Nat.reduceAdd, Nat.reduceLeDiff, Nat.reduceSub, Nat.reduceEqDiff, Int.reduceToNat, reduceCtorEq, ↓reduceIte]; exact ⟨rfl, rfl⟩) | (simp_all [go_sem, Nat.reduceBEq, Nat.reduceLT, Nat.reduceAdd, Nat.reduceLeDiff, Nat.reduceSub, Nat.reduceEqDiff, Int.reduceToNat, reduceCtorEq, ↓reduceIte]; done)
theorem k_impl_nextMasks (a0_0 : Int) (a0_1 : List (Int × Int × Int)) {r : List Int} (h : impl_nextMasks a0_0 a0_1 = some r) :
    FnA Tryd.prog 41 [.agg [.v (.int .i64 a0_0), .sl 0]] [.row false (.trips a0_1)] [] (fun x H => x = .sl 1 ∧ H = [.row false (.trips a0_1), .row true (.ints .u32 r)]) := by
  unfold impl_nextMasks at h
  refine FnA.of (N := 28) (pin := [0]) (rs := [.tmp 2]) Tryd.func41 rfl en41 rfl rfl (by simp) (by simp; try omega) ?_
  refine awp_reg ftCOk [(1, .pp 1 0)] [.row false (.trips a0_1), .box [.v (.int .i64 a0_0), .sl 0]] ?_
  refine awp_freeze 1 (by rfl) (by rfl) (by exact rfl) ?_
  replace h := chk_some h
  obtain ⟨hp0, h⟩ := h
  refine awp_reg ftCOk [(1, .pp 1 0), (3, .sl 2)] [.row false (.trips a0_1), .rbox [.v (.int .i64 a0_0), .sl 0], .row true (.ints .u32 (List.replicate a0_0.toNat 0))] ?_
  clear hp0
  refine awp_seq fun K14 hK14 => ?_
  refine awp_reg ftCOk [(3, .sl 2), (10, .sl 0), (11, .v (.int .i64 (a0_1.length : Int))), (12, .v (.int .i64 0))] [.row false (.trips a0_1), .rbox [.v (.int .i64 a0_0), .sl 0], .row true (.ints .u32 (List.replicate a0_0.toNat 0))] ?_
  refine awp_block ?_
  replace h := bind_some h
  obtain ⟨t3s_1, hx, h⟩ := h
  refine awp_loopL hx (fun ((t12, t3s) : Int × List Int) => [(3, .sl 1), (10, .sl 0), (11, .v (.int .i64 (a0_1.length : Int))), (12, .v (.int .i64 t12))]) (fun ((t12, t3s) : Int × List Int) => [.row false (.trips a0_1), .row true (.ints .u32 t3s)]) (fun (t3s_1 : List Int) => Exit.exit 0) (fun (t3s_1 : List Int) => [(3, .sl 1)]) (fun (t3s_1 : List Int) => [.row false (.trips a0_1), .row true (.ints .u32 t3s_1)]) ?_ ?_ ?_ ?_
  · rintro t3s_1 hy <;> cases hy
  · clear h hx
    exact Red.selA [0, 2] Red.auto
  · clear h hx
    rintro ⟨t12, t3s⟩ r h
    unfold impl_nextMasks_b0 at h
    try dsimp only at h
    try dsimp only
    refine awp_reg ftCOk [(3, .sl 1), (10, .sl 0), (11, .v (.int .i64 (a0_1.length : Int))), (12, .v (.int .i64 t12)), (13, .v (.bool (decide (t12 < (a0_1.length : Int)))))] [.row false (.trips a0_1), .row true (.ints .u32 t3s)] ?_
    refine awp_seq fun K24 hK24 => ?_
    refine awp_cond (t := 13) rfl (fun hc25 => ?_) (fun hc25 => ?_)
    · replace h := bite_t h hc25
      refine awp_skip ?_
      (try simp only [Thn, InBlk, ↓reduceIte, Nat.reduceEqDiff])
      refine hK24 _ _ ?_
      clear hK24
      refine awp_seq fun K26 hK26 => ?_
      refine awp_block ?_
      replace h := chk_some h
      obtain ⟨hp0, h⟩ := h
      refine awp_reg ftCOk [(3, .sl 1), (5, .pp 2 0), (10, .sl 0), (11, .v (.int .i64 (a0_1.length : Int))), (12, .v (.int .i64 t12))] [.row false (.trips a0_1), .row true (.ints .u32 t3s), .box [.v (.int .i64 ((a0_1.getD t12.toNat (0, 0, 0)).1)), .v (.int .i64 ((a0_1.getD t12.toNat (0, 0, 0)).2.1)), .v (.int .i64 ((a0_1.getD t12.toNat (0, 0, 0)).2.2))]] ?_
      clear hp0
      replace h := chk_some h
      obtain ⟨hp0, h⟩ := h
      replace h := bind_some h
      obtain ⟨y, hr1, h⟩ := h
      try dsimp only at h
      refine awp_end [(3, .sl 1), (10, .sl 0), (11, .v (.int .i64 (a0_1.length : Int))), (12, .v (.int .i64 t12))] [.row false (.trips a0_1), .row true (.ints .u32 (t3s.set (((a0_1.getD t12.toNat (0, 0, 0)).1).toNat) (bitsV .or .u32 (t3s.getD (((a0_1.getD t12.toNat (0, 0, 0)).1).toNat) 0) y))), .box [.v (.int .i64 ((a0_1.getD t12.toNat (0, 0, 0)).1)), .v (.int .i64 ((a0_1.getD t12.toNat (0, 0, 0)).2.1)), .v (.int .i64 ((a0_1.getD t12.toNat (0, 0, 0)).2.2))]] ?_ ?_
      · clear h
        intro K hK
        refine awp_drawT mixed ftCOk (.free 0 (.free 1 (.free 5 (.two 2 6 (.two 3 6 (.two 4 6 (.one 6 (.one 7 (.one 8 (.one 9 (.one 10 .fin))))) (.two 4 7 (.one 7 (.one 8 (.one 9 (.one 10 .fin)))) (.one 4 (.one 8 (.one 9 (.one 10 .fin)))))) (.two 3 7 (.two 4 7 (.one 7 (.one 8 (.one 9 (.one 10 .fin)))) (.one 4 (.one 8 (.one 9 (.one 10 .fin))))) (.one 3 (.one 4 (.one 8 (.one 9 (.one 10 .fin))))))) (.two 2 7 (.two 3 7 (.two 4 7 (.one 7 (.one 8 (.one 9 (.one 10 .fin)))) (.one 4 (.one 8 (.one 9 (.one 10 .fin))))) (.one 3 (.one 4 (.one 8 (.one 9 (.one 10 .fin)))))) (.one 2 (.one 3 (.one 4 (.one 8 (.one 9 (.one 10 .fin))))))))))) (by kernel_rfl) (by simp) ?_
        simp (maxSteps := 4000000) only [go_sem, Nat.reduceBEq, Nat.reduceLT, Nat.reduceAdd, Nat.reduceLeDiff, Nat.reduceSub, Nat.reduceEqDiff, Int.reduceToNat, reduceCtorEq, ↓reduceIte]
        repeat' (first | refine And.intro ?_ ?_ | intro hg)
        all_goals (try simp (disch := omega) only [wrap_fits])
        all_goals first
          | (refine hK _ _ ?_; exact Red.auto)
          | exact trivial
          | assumption
          | omega
          | exact wrap_fits (by omega) (by omega)
          | (refine OpK_callA (k_impl_maskOf ((a0_1.getD t12.toNat (0, 0, 0)).2.1) (h := hr1)) [] [] ?_
             rintro x Hc' ⟨rfl, rfl⟩ hlen
             simp (maxSteps := 4000000) only [go_sem, Nat.reduceBEq, Nat.reduceLT, Nat.reduceAdd, Nat.reduceLeDiff, Nat.reduceSub, Nat.reduceEqDiff, Int.reduceToNat, reduceCtorEq, ↓reduceIte]
             repeat' (first | refine And.intro ?_ ?_ | intro hg)
             all_goals (try simp (disch := omega) only [wrap_fits])
             all_goals first
               | (refine hK _ _ ?_; exact Red.auto)
               | exact trivial
               | assumption
               | omega
               | exact wrap_fits (by omega) (by omega)
               | (simp (maxSteps := 4000000) only [go_sem, Nat.reduceBEq, Nat.reduceLT, Nat.reduceAdd, Nat.reduceLeDiff, Nat.reduceSub, Nat.reduceEqDiff, Int.reduceToNat, reduceCtorEq, ↓reduceIte]
                  repeat' (first | refine And.intro ?_ ?_ | intro hg)
                  all_goals (try simp (disch := omega) only [wrap_fits])
                  all_goals first | (refine hK _ _ ?_; exact Red.auto) | exact trivial | assumption | omega | exact wrap_fits (by omega) (by omega))
               | (simp_all; done)
               | (simp_all; omega))
          | (simp_all; done)
          | (simp_all; omega)
      · clear hp0 hr1
        (try simp only [Thn, InBlk, ↓reduceIte, Nat.reduceEqDiff])
        (try simp only [Thn, InBlk, ↓reduceIte, Nat.reduceEqDiff])
        refine hK26 _ _ ?_
        clear hK26
        replace h := chk_some h
        obtain ⟨hp0, h⟩ := h
        refine awp_regE ftCOk [(3, .sl 1), (10, .sl 0), (11, .v (.int .i64 (a0_1.length : Int))), (12, .v (.int .i64 (t12 + 1)))] [.row false (.trips a0_1), .row true (.ints .u32 (t3s.set (((a0_1.getD t12.toNat (0, 0, 0)).1).toNat) (bitsV .or .u32 (t3s.getD (((a0_1.getD t12.toNat (0, 0, 0)).1).toNat) 0) y))), .box [.v (.int .i64 ((a0_1.getD t12.toNat (0, 0, 0)).1)), .v (.int .i64 ((a0_1.getD t12.toNat (0, 0, 0)).2.1)), .v (.int .i64 ((a0_1.getD t12.toNat (0, 0, 0)).2.2))]] ?_
        clear hp0
        obtain rfl := Option.some.inj h
        refine LoopQ.next ?_
        exact Red.selA [0, 1] Red.auto
    · replace h := bite_f h hc25
      refine awp_exit ?_
      (try simp only [Thn, InBlk, ↓reduceIte, Nat.reduceEqDiff])
      obtain rfl := Option.some.inj h
      refine LoopQ.out rfl ?_
      exact Red.auto
  · clear hx
    skip
    · try dsimp only [Sum.elim_inl, Sum.elim_inr] at h
      try dsimp only [Sum.elim_inl, Sum.elim_inr]
      (try simp only [Thn, InBlk, ↓reduceIte, Nat.reduceEqDiff])
      (try simp only [Thn, InBlk, ↓reduceIte, Nat.reduceEqDiff])
      (try simp only [Thn, InBlk, ↓reduceIte, Nat.reduceEqDiff])
      refine hK14 _ _ ?_
      clear hK14
      refine awp_reg ftCOk [(2, .sl 1)] [.row false (.trips a0_1), .row true (.ints .u32 t3s_1)] ?_
      refine awp_ret ?_
      (try simp only [Thn, InBlk, ↓reduceIte, Nat.reduceEqDiff])
      obtain rfl := Option.some.inj h
      refine ⟨by simp, _, [0, 1], (by simp only [go_sem, Nat.reduceBEq, Nat.reduceLT, Nat.reduceAdd, Nat.reduceLeDiff, Nat.reduceSub, Nat.reduceEqDiff, Int.reduceToNat, reduceCtorEq, ↓reduceIte]; exact rfl), ?_, ?_, ?_, ?_⟩
      · first | exact trivial | exact ⟨trivial, trivial⟩ | exact ⟨trivial, trivial, trivial⟩ | exact ⟨trivial, trivial, trivial, trivial⟩ | (simp only [allP, and_true, true_and]; done) | (simp only [allP, and_true, true_and]; omega)
      · simp [selOk, pos]
      · simp
      · first | exact ⟨rfl, rfl⟩ | (simp only [go_sem, Nat.reduceBEq, Nat.reduceLT, Nat.reduceAdd, Nat.reduceLeDiff, Nat.reduceSub, Nat.reduceEqDiff, Int.reduceToNat, reduceCtorEq, ↓reduceIte]; done) | (simp [go_sem, Nat.reduceBEq, Nat.reduceLT, Nat.reduceAdd, Nat.reduceLeDiff, Nat.reduceSub, Nat.reduceEqDiff, Int.reduceToNat, reduceCtorEq, ↓reduceIte]; done) | (simp only [go_sem, Nat.reduceBEq, Nat.reduceLT, Nat.reduceAdd, Nat.reduceLeDiff, Nat.reduceSub, Nat.reduceEqDiff, Int.reduceToNat, reduceCtorEq, ↓reduceIte]; exact ⟨rfl, rfl⟩) | (simp_all [go_sem, Nat.reduceBEq, Nat.reduceLT, Nat.reduceAdd, Nat.reduceLeDiff, Nat.reduceSub, Nat.reduceEqDiff, Int.reduceToNat, reduceCtorEq, ↓reduceIte]; done)
theorem k_math_bits_TrailingZeros32 (a0 : Int) {r : Int} (h : math_bits_TrailingZeros32 a0 = some r) :
    FnA Tryd.prog 72 [.v (.int .u32 a0)] [.glob 0 (.ints .u8 tab0)] [] (fun x H => x = .v (.int .i64 r) ∧ H = [.glob 0 (.ints .u8 tab0)]) := by
  unfold math_bits_TrailingZeros32 at h
  refine FnA.of (N := 14) (pin := [0]) (rs := [.tmp 2]) Tryd.func72 rfl en72 rfl rfl (by simp) (by simp; try omega) ?_
  refine awp_reg ftCOk [(0, .v (.int .u32 a0))] [.glob 0 (.ints .u8 tab0)] ?_
  refine awp_seq fun K2 hK2 => ?_
  refine awp_reg ftCOk [(0, .v (.int .u32 a0)), (4, .v (.bool (a0 == 0)))] [.glob 0 (.ints .u8 tab0)] ?_
  refine awp_cond (t := 4) rfl (fun hc3 => ?_) (fun hc3 => ?_)
  · replace h := bite_t h hc3
    refine awp_reg ftCOk [(2, .v (.int .i64 32))] [.glob 0 (.ints .u8 tab0)] ?_
    refine awp_ret ?_
    (try simp only [Thn, InBlk, ↓reduceIte, Nat.reduceEqDiff])
    obtain rfl := Option.some.inj h
    refine ⟨by simp, _, [0], (by simp only [go_sem, Nat.reduceBEq, Nat.reduceLT, Nat.reduceAdd, Nat.reduceLeDiff, Nat.reduceSub, Nat.reduceEqDiff, Int.reduceToNat, reduceCtorEq, ↓reduceIte]; exact rfl), ?_, ?_, ?_, ?_⟩
    · first | exact trivial | exact ⟨trivial, trivial⟩ | exact ⟨trivial, trivial, trivial⟩ | exact ⟨trivial, trivial, trivial, trivial⟩ | (simp only [allP, and_true, true_and]; done) | (simp only [allP, and_true, true_and]; omega)
    · simp [selOk, pos]
    · simp
    · first | exact ⟨rfl, rfl⟩ | (simp only [go_sem, Nat.reduceBEq, Nat.reduceLT, Nat.reduceAdd, Nat.reduceLeDiff, Nat.reduceSub, Nat.reduceEqDiff, Int.reduceToNat, reduceCtorEq, ↓reduceIte]; done) | (simp [go_sem, Nat.reduceBEq, Nat.reduceLT, Nat.reduceAdd, Nat.reduceLeDiff, Nat.reduceSub, Nat.reduceEqDiff, Int.reduceToNat, reduceCtorEq, ↓reduceIte]; done) | (simp only [go_sem, Nat.reduceBEq, Nat.reduceLT, Nat.reduceAdd, Nat.reduceLeDiff, Nat.reduceSub, Nat.reduceEqDiff, Int.reduceToNat, reduceCtorEq, ↓reduceIte]; exact ⟨rfl, rfl⟩) | (simp_all [go_sem, Nat.reduceBEq, Nat.reduceLT, Nat.reduceAdd, Nat.reduceLeDiff, Nat.reduceSub, Nat.reduceEqDiff, Int.reduceToNat, reduceCtorEq, ↓reduceIte]; done)
  · replace h := bite_f h hc3
    refine awp_skip ?_
    (try simp only [Thn, InBlk, ↓reduceIte, Nat.reduceEqDiff])
    refine hK2 _ _ ?_
    clear hK2
    replace h := chk_some h
    obtain ⟨hp0, h⟩ := h
    replace h := chk_some h
    obtain ⟨hp1, h⟩ := h
    replace h := chk_some h
    obtain ⟨hp2, h⟩ := h
    refine awp_reg ftCOk [(2, .v (.int .i64 (tab0.getD (((IntKind.u32.wrap ((bitsV .and .u32 a0 (IntKind.u32.wrap (-a0))) * 125613361)).fdiv 134217728).toNat) 0)))] [.glob 0 (.ints .u8 tab0)] ?_
    clear hp0 hp1 hp2
    refine awp_ret ?_
    (try simp only [Thn, InBlk, ↓reduceIte, Nat.reduceEqDiff])
    obtain rfl := Option.some.inj h
    refine ⟨by simp, _, [0], (by simp only [go_sem, Nat.reduceBEq, Nat.reduceLT, Nat.reduceAdd, Nat.reduceLeDiff, Nat.reduceSub, Nat.reduceEqDiff, Int.reduceToNat, reduceCtorEq, ↓reduceIte]; exact rfl), ?_, ?_, ?_, ?_⟩
    · first | exact trivial | exact ⟨trivial, trivial⟩ | exact ⟨trivial, trivial, trivial⟩ | exact ⟨trivial, trivial, trivial, trivial⟩ | (simp only [allP, and_true, true_and]; done) | (simp only [allP, and_true, true_and]; omega)
    · simp [selOk, pos]
    · simp
    · first | exact ⟨rfl, rfl⟩ | (simp only [go_sem, Nat.reduceBEq, Nat.reduceLT, Nat.reduceAdd, Nat.reduceLeDiff, Nat.reduceSub, Nat.reduceEqDiff, Int.reduceToNat, reduceCtorEq, ↓reduceIte]; done) | (simp [go_sem, Nat.reduceBEq, Nat.reduceLT, Nat.reduceAdd, Nat.reduceLeDiff, Nat.reduceSub, Nat.reduceEqDiff, Int.reduceToNat, reduceCtorEq, ↓reduceIte]; done) | (simp only [go_sem, Nat.reduceBEq, Nat.reduceLT, Nat.reduceAdd, Nat.reduceLeDiff, Nat.reduceSub, Nat.reduceEqDiff, Int.reduceToNat, reduceCtorEq, ↓reduceIte]; exact ⟨rfl, rfl⟩) | (simp_all [go_sem, Nat.reduceBEq, Nat.reduceLT, Nat.reduceAdd, Nat.reduceLeDiff, Nat.reduceSub, Nat.reduceEqDiff, Int.reduceToNat, reduceCtorEq, ↓reduceIte]; done)
theorem k_impl_vertexMask_least (a0 : Int) {r : Int} (h : impl_vertexMask_least a0 = some r) :
    FnA Tryd.prog 62 [.v (.int .u32 a0)] [.glob 0 (.ints .u8 tab0)] [] (fun x H => x = .v (.int .i64 r) ∧ H = [.glob 0 (.ints .u8 tab0)]) := by
  unfold impl_vertexMask_least at h
  refine FnA.of (N := 5) (pin := [0]) (rs := [.tmp 2]) Tryd.func62 rfl en62 rfl rfl (by simp) (by simp; try omega) ?_
  refine awp_reg ftCOk [(0, .v (.int .u32 a0))] [.glob 0 (.ints .u8 tab0)] ?_
  replace h := bind_some h
  obtain ⟨y, hr0, h⟩ := h
  try dsimp only at h
  refine awp_to [(2, .v (.int .i64 y))] [.glob 0 (.ints .u8 tab0)] ?_ ?_
  · clear h
    intro K hK
    refine awp_region ftCOk ?_
    simp (maxSteps := 4000000) only [go_sem, Nat.reduceBEq, Nat.reduceLT, Nat.reduceAdd, Nat.reduceLeDiff, Nat.reduceSub, Nat.reduceEqDiff, Int.reduceToNat, reduceCtorEq, ↓reduceIte]
    repeat' (first | refine And.intro ?_ ?_ | intro hg)
    all_goals (try simp (disch := omega) only [wrap_fits])
    all_goals first
      | (refine hK _ _ ?_; exact Red.auto)
      | exact trivial
      | assumption
      | omega
      | exact wrap_fits (by omega) (by omega)
      | (refine wpA_callA (k_math_bits_TrailingZeros32 a0 (h := hr0)) [0] [] ?_
         rintro x Hc' ⟨rfl, rfl⟩ hlen
         refine vcOps_sound ftCOk ?_
         simp (maxSteps := 4000000) only [go_sem, Nat.reduceBEq, Nat.reduceLT, Nat.reduceAdd, Nat.reduceLeDiff, Nat.reduceSub, Nat.reduceEqDiff, Int.reduceToNat, reduceCtorEq, ↓reduceIte]
         repeat' (first | refine And.intro ?_ ?_ | intro hg)
         all_goals (try simp (disch := omega) only [wrap_fits])
         all_goals first
           | (refine hK _ _ ?_; exact Red.auto)
           | exact trivial
           | assumption
           | omega
           | exact wrap_fits (by omega) (by omega)
           | (simp_all; done)
           | (simp_all; omega))
      | (simp_all; done)
      | (simp_all; omega)
  · clear hr0
    refine awp_ret ?_
    (try simp only [Thn, InBlk, ↓reduceIte, Nat.reduceEqDiff])
    obtain rfl := Option.some.inj h
    refine ⟨by simp, _, [0], (by simp only [go_sem, Nat.reduceBEq, Nat.reduceLT, Nat.reduceAdd, Nat.reduceLeDiff, Nat.reduceSub, Nat.reduceEqDiff, Int.reduceToNat, reduceCtorEq, ↓reduceIte]; exact rfl), ?_, ?_, ?_, ?_⟩
    · first | exact trivial | exact ⟨trivial, trivial⟩ | exact ⟨trivial, trivial, trivial⟩ | exact ⟨trivial, trivial, trivial, trivial⟩ | (simp only [allP, and_true, true_and]; done) | (simp only [allP, and_true, true_and]; omega)
    · simp [selOk, pos]
    · simp
    · first | exact ⟨rfl, rfl⟩ | (simp only [go_sem, Nat.reduceBEq, Nat.reduceLT, Nat.reduceAdd, Nat.reduceLeDiff, Nat.reduceSub, Nat.reduceEqDiff, Int.reduceToNat, reduceCtorEq, ↓reduceIte]; done) | (simp [go_sem, Nat.reduceBEq, Nat.reduceLT, Nat.reduceAdd, Nat.reduceLeDiff, Nat.reduceSub, Nat.reduceEqDiff, Int.reduceToNat, reduceCtorEq, ↓reduceIte]; done) | (simp only [go_sem, Nat.reduceBEq, Nat.reduceLT, Nat.reduceAdd, Nat.reduceLeDiff, Nat.reduceSub, Nat.reduceEqDiff, Int.reduceToNat, reduceCtorEq, ↓reduceIte]; exact ⟨rfl, rfl⟩) | (simp_all [go_sem, Nat.reduceBEq, Nat.reduceLT, Nat.reduceAdd, Nat.reduceLeDiff, Nat.reduceSub, Nat.reduceEqDiff, Int.reduceToNat, reduceCtorEq, ↓reduceIte]; done)
theorem k_impl_vertexMask_list (a0 : Int) {r : List Int} (h : impl_vertexMask_list a0 = some r) :
    FnA Tryd.prog 42 [.v (.int .u32 a0)] [.glob 0 (.ints .u8 tab0)] [] (fun x H => x = .sl 1 ∧ H = [.glob 0 (.ints .u8 tab0), .row true (.ints .i64 r)]) := by
  unfold impl_vertexMask_list at h
  refine FnA.of (N := 16) (pin := [0]) (rs := [.tmp 2]) Tryd.func42 rfl en42 rfl rfl (by simp) (by simp; try omega) ?_
  refine awp_reg ftCOk [(0, .v (.int .u32 a0))] [.glob 0 (.ints .u8 tab0)] ?_
  refine awp_reg ftCOk [(0, .v (.int .u32 a0)), (3, .v (.slice none 0 0))] [.glob 0 (.ints .u8 tab0)] ?_
  refine awp_seq fun K18 hK18 => ?_
  refine awp_block ?_
  replace h := bind_some h
  obtain ⟨t3s_1, hx, h⟩ := h
  refine awp_loopL hx (fun ((t0, t3s) : Int × List Int) => [(0, .v (.int .u32 t0)), (3, .sl 1)]) (fun ((t0, t3s) : Int × List Int) => [.glob 0 (.ints .u8 tab0), .row true (.ints .i64 t3s)]) (fun (t3s_1 : List Int) => Exit.exit 0) (fun (t3s_1 : List Int) => [(3, .sl 1)]) (fun (t3s_1 : List Int) => [.glob 0 (.ints .u8 tab0), .row true (.ints .i64 t3s_1)]) ?_ ?_ ?_ ?_
  · rintro t3s_1 hy <;> cases hy
  · clear h hx
    refine Red.trans (Red.nil (t := 3) (.ints .i64 []) rfl rfl) ?_
    exact Red.auto
  · clear h hx
    rintro ⟨t0, t3s⟩ r h
    unfold impl_vertexMask_list_b0 at h
    try dsimp only at h
    try dsimp only
    refine awp_seq fun K32 hK32 => ?_
    refine awp_reg ftCOk [(0, .v (.int .u32 t0)), (3, .sl 1), (5, .v (.bool (t0 != 0)))] [.glob 0 (.ints .u8 tab0), .row true (.ints .i64 t3s)] ?_
    refine awp_cond (t := 5) rfl (fun hc33 => ?_) (fun hc33 => ?_)
    · replace h := bite_t h hc33
      refine awp_skip ?_
      (try simp only [Thn, InBlk, ↓reduceIte, Nat.reduceEqDiff])
      refine hK32 _ _ ?_
      clear hK32
      refine awp_seq fun K34 hK34 => ?_
      refine awp_block ?_
      replace h := bind_some h
      obtain ⟨y, hr0, h⟩ := h
      try dsimp only at h
      replace h := chk_some h
      obtain ⟨hp1, h⟩ := h
      refine awp_end [(0, .v (.int .u32 t0)), (3, .sl 1)] [.glob 0 (.ints .u8 tab0), .row true (.ints .i64 (t3s ++ [y])), .row true (.ints .i64 [y])] ?_ ?_
      · clear h
        intro K hK
        refine awp_region ftCOk ?_
        simp (maxSteps := 4000000) only [go_sem, Nat.reduceBEq, Nat.reduceLT, Nat.reduceAdd, Nat.reduceLeDiff, Nat.reduceSub, Nat.reduceEqDiff, Int.reduceToNat, reduceCtorEq, ↓reduceIte]
        repeat' (first | refine And.intro ?_ ?_ | intro hg)
        all_goals (try simp (disch := omega) only [wrap_fits])
        all_goals first
          | (refine hK _ _ ?_; exact Red.auto)
          | exact trivial
          | assumption
          | omega
          | exact wrap_fits (by omega) (by omega)
          | (refine wpA_callA (k_impl_vertexMask_least t0 (h := hr0)) [0] [] ?_
             rintro x Hc' ⟨rfl, rfl⟩ hlen
             refine vcOps_sound ftCOk ?_
             simp (maxSteps := 4000000) only [go_sem, Nat.reduceBEq, Nat.reduceLT, Nat.reduceAdd, Nat.reduceLeDiff, Nat.reduceSub, Nat.reduceEqDiff, Int.reduceToNat, reduceCtorEq, ↓reduceIte]
             repeat' (first | refine And.intro ?_ ?_ | intro hg)
             all_goals (try simp (disch := omega) only [wrap_fits])
             all_goals first
               | (refine hK _ _ ?_; exact Red.auto)
               | exact trivial
               | assumption
               | omega
               | exact wrap_fits (by omega) (by omega)
               | (simp_all; done)
               | (simp_all; omega))
          | (simp_all; done)
          | (simp_all; omega)
      · clear hr0 hp1
        (try simp only [Thn, InBlk, ↓reduceIte, Nat.reduceEqDiff])
        (try simp only [Thn, InBlk, ↓reduceIte, Nat.reduceEqDiff])
        refine hK34 _ _ ?_
        clear hK34
        refine awp_regE ftCOk [(0, .v (.int .u32 (bitsV .and .u32 t0 (IntKind.u32.wrap (t0 - 1))))), (3, .sl 1)] [.glob 0 (.ints .u8 tab0), .row true (.ints .i64 (t3s ++ [y])), .row true (.ints .i64 [y])] ?_
        obtain rfl := Option.some.inj h
        refine LoopQ.next ?_
        exact Red.selA [0, 1] Red.auto
    · replace h := bite_f h hc33
      refine awp_exit ?_
      (try simp only [Thn, InBlk, ↓reduceIte, Nat.reduceEqDiff])
      obtain rfl := Option.some.inj h
      refine LoopQ.out rfl ?_
      exact Red.auto
  · clear hx
    skip
    · try dsimp only [Sum.elim_inl, Sum.elim_inr] at h
      try dsimp only [Sum.elim_inl, Sum.elim_inr]
      (try simp only [Thn, InBlk, ↓reduceIte, Nat.reduceEqDiff])
      (try simp only [Thn, InBlk, ↓reduceIte, Nat.reduceEqDiff])
      (try simp only [Thn, InBlk, ↓reduceIte, Nat.reduceEqDiff])
      refine hK18 _ _ ?_
      clear hK18
      refine awp_reg ftCOk [(2, .sl 1)] [.glob 0 (.ints .u8 tab0), .row true (.ints .i64 t3s_1)] ?_
      refine awp_ret ?_
      (try simp only [Thn, InBlk, ↓reduceIte, Nat.reduceEqDiff])
      obtain rfl := Option.some.inj h
      refine ⟨by simp, _, [0, 1], (by simp only [go_sem, Nat.reduceBEq, Nat.reduceLT, Nat.reduceAdd, Nat.reduceLeDiff, Nat.reduceSub, Nat.reduceEqDiff, Int.reduceToNat, reduceCtorEq, ↓reduceIte]; exact rfl), ?_, ?_, ?_, ?_⟩
      · first | exact trivial | exact ⟨trivial, trivial⟩ | exact ⟨trivial, trivial, trivial⟩ | exact ⟨trivial, trivial, trivial, trivial⟩ | (simp only [allP, and_true, true_and]; done) | (simp only [allP, and_true, true_and]; omega)
      · simp [selOk, pos]
      · simp
      · first | exact ⟨rfl, rfl⟩ | (simp only [go_sem, Nat.reduceBEq, Nat.reduceLT, Nat.reduceAdd, Nat.reduceLeDiff, Nat.reduceSub, Nat.reduceEqDiff, Int.reduceToNat, reduceCtorEq, ↓reduceIte]; done) | (simp [go_sem, Nat.reduceBEq, Nat.reduceLT, Nat.reduceAdd, Nat.reduceLeDiff, Nat.reduceSub, Nat.reduceEqDiff, Int.reduceToNat, reduceCtorEq, ↓reduceIte]; done) | (simp only [go_sem, Nat.reduceBEq, Nat.reduceLT, Nat.reduceAdd, Nat.reduceLeDiff, Nat.reduceSub, Nat.reduceEqDiff, Int.reduceToNat, reduceCtorEq, ↓reduceIte]; exact ⟨rfl, rfl⟩) | (simp_all [go_sem, Nat.reduceBEq, Nat.reduceLT, Nat.reduceAdd, Nat.reduceLeDiff, Nat.reduceSub, Nat.reduceEqDiff, Int.reduceToNat, reduceCtorEq, ↓reduceIte]; done)
end Go.Proofs.YtdjckcedpnabpaaDoor
