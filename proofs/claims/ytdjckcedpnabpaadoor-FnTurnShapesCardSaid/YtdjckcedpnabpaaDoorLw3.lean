/- The code computes the functions that were taken out of it. -/
import Derived.Test.YtdjckcedpnabpaaDoorLw2
set_option maxRecDepth 100000
set_option maxHeartbeats 4000000
set_option linter.unusedSimpArgs false
set_option linter.unusedVariables false
namespace Go.Proofs.YtdjckcedpnabpaaDoor
open Go Go.Av
attribute [local irreducible] wpA OpK awp
attribute [local go_sem] frs_nil frs_cons pw8_32 pw16_32 pw24_32 pw27_32 eqAgg eqAggV buildQ placesOf buildCells List.toList_toArray vcQg gfind gfree gput un3_agg unI_int unB_bool unK_int guardU skipV resVs resV vcD_nil vcD_cons vcT_fin vcT_free vcT_one vcT_two opS vcD1 roH roOb ftNone ftAdd oneOrTup AV.detup AV.ren AV.ren2 AV.ren1 pos selH AObj.ren fitAll fit fit1 fit1s matchAll matchOb exIds AObj.excl Env.killp pastH setAll upId AObj.past AObj.back AV.killp AV.killp1 AV.killp2 Nat.sub_self Nat.lt_irrefl Bool.or_self vcOps vcOp vcQs vcQ dstOk quiet eff pcall calleeF plain valsOf ev ofConst argEnv List.lookup Nat.add_eq decide_true decide_false Env.put binV wrapTo unV convV loadQ indexQ callQ builtinQ rd rdI globC AObj.globC partAV isAggD isArrayD addrAdd boxE storeE storeCE makeE makeNE buildNE nestZero Cont.child Cont.setChild buildSliceE buildFold appendE appendNE nestApp appendV promoteH sliceE boundAV subObj asCells Value.oneCell' contZero Cont.sets Cont.app Cont.sub Cont.len Cont.esz Cont.cell Cont.cells Cont.flat AV.det AV.det1 guardV AObj.unview AObj.kill Env.kill AV.kill AV.kill1 AV.kill2 fits64 Option.getD_some Option.getD_none Option.map_some Option.map_none Option.bind_some List.map_cons List.map_nil List.getElem?_cons_zero List.getElem?_cons_succ List.getElem?_nil true_and and_true List.getElem?_toArray List.cons_append List.nil_append List.length_cons List.length_nil List.set_cons_zero List.set_cons_succ List.take_succ_cons List.take_zero List.drop_succ_cons List.drop_zero List.drop_nil List.take_nil List.contains_cons List.contains_nil List.elem_cons List.elem_nil Bool.not_true Bool.not_false Bool.false_eq_true Bool.or_false Bool.or_true Bool.and_true Bool.and_false Bool.true_and Bool.false_and List.all_cons List.all_nil List.size_toArray Nat.lt_add_one Nat.zero_lt_succ Nat.one_ne_zero Nat.zero_ne_one and_self List.replicate_succ List.replicate_zero Int.toNat_natCast Int.toNat_zero Value.cells false_implies true_implies forall_const Thn InBlk Nat.zero_add Nat.add_zero Int.zero_add Ele Env.ren Option.some.injEq AV.v.injEq AV.sl.injEq AV.pp.injEq AV.ep.injEq AV.agg.injEq List.cons.injEq Value.int.injEq Value.bool.injEq Value.string.injEq true_or or_true or_false false_or tsz0 tby0 tz0 Tryd.underlying0 tsz1 tby1 tz1 Tryd.underlying1 tsz2 tby2 tz2 Tryd.underlying2 tsz3 tby3 tz3 Tryd.underlying3 tsz4 tby4 tz4 Tryd.underlying4 tsz5 tby5 tz5 Tryd.underlying5 tsz6 tby6 tz6 Tryd.underlying6 tsz7 tby7 tz7 Tryd.underlying7 fo7_0 fo7_1 fo7_2 fo7_3 tsz8 tby8 tz8 Tryd.underlying8 fo8_0 fo8_1 fo8_2 fo8_3 tsz9 tby9 Tryd.underlying9 tsz10 tby10 Tryd.underlying10 tsz12 tby12 tz12 Tryd.underlying12 tsz16 tby16 tz16 Tryd.underlying16 tsz17 tby17 tz17 Tryd.underlying17 tsz20 tby20 tz20 Tryd.underlying20 tsz21 tby21 tz21 Tryd.underlying21 tsz22 tby22 tz22 Tryd.underlying22 tsz23 tby23 tz23 Tryd.underlying23 tsz24 tby24 tz24 Tryd.underlying24 fo24_0 fo24_1 tsz25 tby25 tz25 Tryd.underlying25 fo25_0 fo25_1 tsz30 tby30 tz30 Tryd.underlying30 tsz32 tby32 tz32 Tryd.underlying32 tsz40 tby40 tz40 Tryd.underlying40 tsz44 tby44 tz44 Tryd.underlying44 tsz46 tby46 tz46 Tryd.underlying46 tsz50 tby50 tz50 Tryd.underlying50 peq50 fo50_0 fo50_1 fo50_2 tsz51 tby51 tz51 Tryd.underlying51 peq51 fo51_0 fo51_1 fo51_2 tsz53 tby53 tz53 Tryd.underlying53 tsz54 tby54 tz54 Tryd.underlying54 tsz55 tby55 tz55 Tryd.underlying55 tsz60 tby60 tz60 Tryd.underlying60 tsz69 tby69 tz69 Tryd.underlying69 tsz71 tby71 tz71 Tryd.underlying71 fo71_0 fo71_1 tsz72 tby72 tz72 Tryd.underlying72 fo72_0 fo72_1 tsz77 tby77 tz77 Tryd.underlying77 tsz81 tby81 tz81 Tryd.underlying81 tsz86 tby86 tz86 Tryd.underlying86 tsz87 tby87 tz87 Tryd.underlying87 tsz91 tby91 tz91 Tryd.underlying91 tsz94 tby94 tz94 Tryd.underlying94 tsz95 tby95 tz95 Tryd.underlying95 tsz96 tby96 tz96 Tryd.underlying96 tsz100 tby100 tz100 Tryd.underlying100 tsz102 tby102 tz102 Tryd.underlying102 tsz103 tby103 tz103 Tryd.underlying103 tsz108 tby108 tz108 Tryd.underlying108 tsz109 tby109 tz109 Tryd.underlying109 tsz110 tby110 tz110 Tryd.underlying110 tsz111 tby111 tz111 Tryd.underlying111 tsz112 tby112 tz112 Tryd.underlying112 tsz113 tby113 tz113 Tryd.underlying113 tsz114 tby114 tz114 Tryd.underlying114 tsz115 tby115 tz115 Tryd.underlying115 tsz116 tby116 tz116 Tryd.underlying116 tsz117 tby117 tz117 Tryd.underlying117 fo117_0 fo117_1 fo117_2 fo117_3 fo117_4 fo117_5 fo117_6 fo117_7 fo117_8 fo117_9 fo117_10 tsz118 tby118 tz118 Tryd.underlying118 fo118_0 fo118_1 fo118_2 fo118_3 fo118_4 fo118_5 fo118_6 fo118_7 fo118_8 fo118_9 fo118_10 tsz119 tby119 tz119 Tryd.underlying119 l1InG l4BeforeG isNaNG cmpIntG cmpEndsG ftC
abbrev lz0_laws_FnTurnShapes : Array Bool := #[false, false, false, false, false, false, false, false, false, false, false, false, false, false, false, false, false, false, false, false, false, false, false, false, false, false, false, false, false, false, false, false, false, false]
abbrev lz1_laws_FnTurnShapes : Array Bool := #[true, true, true, true, true, true, true, true, true, true, true, true, true, true, true, true, true, true, true, true, true, true, true, true, true, true, true, true, true, true, true, true, true, true]
abbrev lz2_laws_FnTurnShapes : Array Bool := #[true, true, true, true, true, true, true, true, true, true, true, true, true, true, true, true, true, true, true, true, true, true, true, true, true, true, true, true, true, true, true, false, false, false]
abbrev lz3_laws_FnTurnShapes : Array Bool := #[true, true, true, true, true, true, true, true, true, true, true, true, true, true, true, true, true, true, true, true, true, true, true, true, true, true, true, true, false, false, false, false, false, false]
abbrev lz4_laws_FnTurnShapes : Array Bool := #[true, true, true, true, true, true, true, true, true, true, true, true, true, true, true, true, true, true, true, true, true, true, true, true, true, true, true, false, false, false, false, false, false, false]
abbrev lz5_laws_FnTurnShapes : Array Bool := #[true, true, true, true, true, true, true, true, true, true, true, true, true, true, true, true, true, true, true, true, true, true, true, true, true, true, false, false, false, false, false, false, false, false]
abbrev lz6_laws_FnTurnShapes : Array Bool := #[true, true, true, true, true, true, true, true, true, true, true, true, true, true, true, true, true, true, true, true, true, true, true, true, false, true, false, false, false, false, false, false, false, false]
abbrev lz7_laws_FnTurnShapes : Array Bool := #[true, true, true, true, true, true, true, true, true, true, true, true, true, true, true, true, true, true, true, true, true, false, false, false, false, false, false, false, false, false, false, false, false, false]
abbrev lz8_laws_FnTurnShapes : Array Bool := #[true, true, true, true, true, true, true, true, true, true, true, true, true, true, true, true, true, true, true, true, false, false, false, false, false, false, false, false, false, false, false, false, false, false]
abbrev lz9_laws_FnTurnShapes : Array Bool := #[true, true, true, true, true, true, true, true, true, true, true, true, true, true, true, true, true, true, true, false, false, false, false, false, false, false, false, false, false, false, false, false, false, false]
abbrev lz10_laws_FnTurnShapes : Array Bool := #[true, true, true, true, true, true, true, true, true, true, true, true, true, true, true, true, true, false, true, false, false, false, false, false, false, false, false, false, false, false, false, false, false, false]
abbrev lz11_laws_FnTurnShapes : Array Bool := #[true, true, true, true, true, true, true, true, true, true, true, true, true, true, false, false, false, false, false, false, false, false, false, false, false, false, false, false, false, false, false, false, false, false]
abbrev lz12_laws_FnTurnShapes : Array Bool := #[true, true, true, true, true, true, true, true, true, true, true, true, true, false, false, false, false, false, false, false, false, false, false, false, false, false, false, false, false, false, false, false, false, false]
abbrev lz13_laws_FnTurnShapes : Array Bool := #[true, true, true, true, true, true, true, true, true, true, true, true, false, false, false, false, false, false, false, false, false, false, false, false, false, false, false, false, false, false, false, false, false, false]
abbrev lz14_laws_FnTurnShapes : Array Bool := #[true, true, true, true, true, true, true, true, true, true, false, true, false, false, false, false, false, false, false, false, false, false, false, false, false, false, false, false, false, false, false, false, false, false]
abbrev lz15_laws_FnTurnShapes : Array Bool := #[true, true, true, true, true, true, true, false, false, false, false, false, false, false, false, false, false, false, false, false, false, false, false, false, false, false, false, false, false, false, false, false, false, false]
abbrev lz16_laws_FnTurnShapes : Array Bool := #[true, true, true, true, true, false, true, false, false, false, false, false, false, false, false, false, false, false, false, false, false, false, false, false, false, false, false, false, false, false, false, false, false, false]
abbrev lz17_laws_FnTurnShapes : Array Bool := #[true, true, true, true, false, false, true, false, false, false, false, false, false, false, false, false, false, false, false, false, false, false, false, false, false, false, false, false, false, false, false, false, false, false]
abbrev lz18_laws_FnTurnShapes : Array Bool := #[true, false, false, false, false, false, false, false, false, false, false, false, false, false, false, false, false, false, false, false, false, false, false, false, false, false, false, false, false, false, false, false, false, false]
abbrev lz19_laws_FnTurnShapes : Array Bool := #[true, true, true, true, true, true, true, true, true, true, true, true, true, true, true, true, true, true, true, true, true, true, true, true, true, false, false, false, false, false, false, false, false, false]
abbrev lz20_laws_FnTurnShapes : Array Bool := #[true, true, true, true, true, true, true, true, true, true, true, true, true, true, true, true, true, true, true, true, true, true, true, true, false, false, false, false, false, false, false, false, false, false]
abbrev lz21_laws_FnTurnShapes : Array Bool := #[true, true, true, true, true, true, true, true, true, true, true, true, true, true, true, true, true, true, true, true, true, true, true, false, false, true, false, false, false, false, false, false, false, false]
abbrev lz22_laws_FnTurnShapes : Array Bool := #[true, true, true, true, true, true, true, true, true, true, true, true, true, true, true, true, true, true, true, true, true, true, true, false, false, false, false, false, false, false, false, false, false, false]
abbrev lz23_laws_FnTurnShapes : Array Bool := #[true, true, true, true, true, true, true, true, true, true, true, true, true, true, true, true, true, true, false, false, false, false, false, false, false, false, false, false, false, false, false, false, false, false]
abbrev lz24_laws_FnTurnShapes : Array Bool := #[true, true, true, true, true, true, true, true, true, true, true, true, true, true, true, true, true, false, false, false, false, false, false, false, false, false, false, false, false, false, false, false, false, false]
abbrev lz25_laws_FnTurnShapes : Array Bool := #[true, true, true, true, true, true, true, true, true, true, true, true, true, true, true, true, false, false, true, false, false, false, false, false, false, false, false, false, false, false, false, false, false, false]
abbrev lz26_laws_FnTurnShapes : Array Bool := #[true, true, true, true, true, true, true, true, true, true, true, true, true, true, true, true, false, false, false, false, false, false, false, false, false, false, false, false, false, false, false, false, false, false]
abbrev lz27_laws_FnTurnShapes : Array Bool := #[true, true, true, true, true, true, true, true, true, true, true, false, false, false, false, false, false, false, false, false, false, false, false, false, false, false, false, false, false, false, false, false, false, false]
abbrev lz28_laws_FnTurnShapes : Array Bool := #[true, true, true, true, true, true, true, true, true, true, false, false, false, false, false, false, false, false, false, false, false, false, false, false, false, false, false, false, false, false, false, false, false, false]
abbrev lz29_laws_FnTurnShapes : Array Bool := #[true, true, true, true, true, true, true, true, true, false, false, true, false, false, false, false, false, false, false, false, false, false, false, false, false, false, false, false, false, false, false, false, false, false]
abbrev lz30_laws_FnTurnShapes : Array Bool := #[true, true, true, true, true, true, true, true, true, false, false, false, false, false, false, false, false, false, false, false, false, false, false, false, false, false, false, false, false, false, false, false, false, false]
theorem k_laws_FnTurnShapes (a0 : List Int) {r : Bool} (h : laws_FnTurnShapes a0 = some r) :
    FnA Tryd.prog 8 [.sl 0] [.row false (.ints .u8 a0), .glob 0 (.ints .u8 tab0)] [] (fun x H => x = .v (.bool r) ∧ H = [.row false (.ints .u8 a0), .glob 0 (.ints .u8 tab0)]) := by
  unfold laws_FnTurnShapes at h
  refine FnA.of (N := 53) (pin := [0, 1]) (rs := [.tmp 2]) Tryd.func8 rfl en8 rfl rfl (by simp) (by simp; try omega) ?_
  refine awp_reg ftCOk [(0, .sl 0)] [.row false (.ints .u8 a0), .glob 0 (.ints .u8 tab0)] ?_
  refine awp_seq fun K2 hK2 => ?_
  refine awp_reg ftCOk [(0, .sl 0), (8, .v (.bool (decide (1048576 < (a0.length : Int)))))] [.row false (.ints .u8 a0), .glob 0 (.ints .u8 tab0)] ?_
  refine awp_cond (t := 8) rfl (fun hc3 => ?_) (fun hc3 => ?_)
  · replace h := bite_t h hc3
    refine awp_reg ftCOk [(2, .v (.bool true))] [.row false (.ints .u8 a0), .glob 0 (.ints .u8 tab0)] ?_
    refine awp_ret ?_
    (try simp only [Thn, InBlk, ↓reduceIte, Nat.reduceEqDiff])
    obtain rfl := Option.some.inj h
    refine ⟨by simp, _, [0, 1], (by simp only [go_sem, Nat.reduceBEq, Nat.reduceLT, Nat.reduceAdd, Nat.reduceLeDiff, Nat.reduceSub, Nat.reduceEqDiff, Int.reduceToNat, reduceCtorEq, ↓reduceIte]; exact rfl), ?_, ?_, ?_, ?_⟩
    · first | exact trivial | exact ⟨trivial, trivial⟩ | exact ⟨trivial, trivial, trivial⟩ | exact ⟨trivial, trivial, trivial, trivial⟩ | (simp only [allP, and_true, true_and]; done) | (simp only [allP, and_true, true_and]; omega)
    · simp [selOk, pos]
    · simp
    · first | exact ⟨rfl, rfl⟩ | (simp only [go_sem, Nat.reduceBEq, Nat.reduceLT, Nat.reduceAdd, Nat.reduceLeDiff, Nat.reduceSub, Nat.reduceEqDiff, Int.reduceToNat, reduceCtorEq, ↓reduceIte]; done) | (simp [go_sem, Nat.reduceBEq, Nat.reduceLT, Nat.reduceAdd, Nat.reduceLeDiff, Nat.reduceSub, Nat.reduceEqDiff, Int.reduceToNat, reduceCtorEq, ↓reduceIte]; done) | (simp only [go_sem, Nat.reduceBEq, Nat.reduceLT, Nat.reduceAdd, Nat.reduceLeDiff, Nat.reduceSub, Nat.reduceEqDiff, Int.reduceToNat, reduceCtorEq, ↓reduceIte]; exact ⟨rfl, rfl⟩) | (simp_all [go_sem, Nat.reduceBEq, Nat.reduceLT, Nat.reduceAdd, Nat.reduceLeDiff, Nat.reduceSub, Nat.reduceEqDiff, Int.reduceToNat, reduceCtorEq, ↓reduceIte]; done)
  · replace h := bite_f h hc3
    refine awp_skip ?_
    (try simp only [Thn, InBlk, ↓reduceIte, Nat.reduceEqDiff])
    refine hK2 _ _ ?_
    clear hK2
    replace h := bind_some h
    obtain ⟨⟨y, y_1⟩, hr0, h⟩ := h
    try dsimp only at h
    refine awp_to [(3, .pp 3 0)] [.row false (.ints .u8 a0), .glob 0 (.ints .u8 tab0), .row true (.trips y_1), .box [.v (.int .i64 y), .sl 2]] ?_ ?_
    · clear h
      intro K hK
      refine awp_region ftCOk ?_
      simp (maxSteps := 4000000) only [go_sem, Nat.reduceBEq, Nat.reduceLT, Nat.reduceAdd, Nat.reduceLeDiff, Nat.reduceSub, Nat.reduceEqDiff, Int.reduceToNat, reduceCtorEq, ↓reduceIte]
      repeat' (first | refine And.intro ?_ ?_ | intro hg)
      all_goals (try simp (disch := omega) only [wrap_fits])
      all_goals first
        | (refine hK _ _ ?_; exact Red.auto)
        | exact trivial
        | assumption
        | omega
        | exact wrap_fits (by omega) (by omega)
        | (refine wpA_callA (k_spec_DrawCoresOf a0 (h := hr0)) [0] [] ?_
           rintro x Hc' ⟨rfl, rfl⟩ hlen
           refine vcOps_sound ftCOk ?_
           simp (maxSteps := 4000000) only [go_sem, Nat.reduceBEq, Nat.reduceLT, Nat.reduceAdd, Nat.reduceLeDiff, Nat.reduceSub, Nat.reduceEqDiff, Int.reduceToNat, reduceCtorEq, ↓reduceIte]
           repeat' (first | refine And.intro ?_ ?_ | intro hg)
           all_goals (try simp (disch := omega) only [wrap_fits])
           all_goals first
             | (refine hK _ _ ?_; exact Red.auto)
             | exact trivial
             | assumption
             | omega
             | exact wrap_fits (by omega) (by omega)
             | (simp_all; done)
             | (simp_all; omega))
        | (simp_all; done)
        | (simp_all; omega)
    · clear hr0
      replace h := bind_some h
      obtain ⟨y_2, hr0, h⟩ := h
      try dsimp only at h
      refine awp_to [(3, .pp 3 0), (4, .sl 4)] [.row false (.ints .u8 a0), .glob 0 (.ints .u8 tab0), .row true (.trips y_1), .box [.v (.int .i64 y), .sl 2], .row true (.ints .i64 y_2)] ?_ ?_
      · clear h
        intro K hK
        refine awp_region ftCOk ?_
        simp (maxSteps := 4000000) only [go_sem, Nat.reduceBEq, Nat.reduceLT, Nat.reduceAdd, Nat.reduceLeDiff, Nat.reduceSub, Nat.reduceEqDiff, Int.reduceToNat, reduceCtorEq, ↓reduceIte]
        repeat' (first | refine And.intro ?_ ?_ | intro hg)
        all_goals (try simp (disch := omega) only [wrap_fits])
        all_goals first
          | (refine hK _ _ ?_; exact Red.auto)
          | exact trivial
          | assumption
          | omega
          | exact wrap_fits (by omega) (by omega)
          | (refine wpA_callA (k_impl_CoresOf y y_1 (h := hr0)) [2, 1] [] ?_
             rintro x Hc' ⟨rfl, rfl⟩ hlen
             refine vcOps_sound ftCOk ?_
             simp (maxSteps := 4000000) only [go_sem, Nat.reduceBEq, Nat.reduceLT, Nat.reduceAdd, Nat.reduceLeDiff, Nat.reduceSub, Nat.reduceEqDiff, Int.reduceToNat, reduceCtorEq, ↓reduceIte]
             repeat' (first | refine And.intro ?_ ?_ | intro hg)
             all_goals (try simp (disch := omega) only [wrap_fits])
             all_goals first
               | (refine hK _ _ ?_; exact Red.auto)
               | exact trivial
               | assumption
               | omega
               | exact wrap_fits (by omega) (by omega)
               | (simp_all; done)
               | (simp_all; omega))
          | (simp_all; done)
          | (simp_all; omega)
      · clear hr0
        refine awp_seq fun K5 hK5 => ?_
        replace h := bind_some h
        obtain ⟨y_3, hr0, h⟩ := h
        try dsimp only at h
        replace h := bind_some h
        obtain ⟨y_4, hr1, h⟩ := h
        try dsimp only at h
        refine awp_to [(3, .pp 3 0), (4, .sl 4), (17, .v (.bool (!y_4)))] [.row false (.ints .u8 a0), .glob 0 (.ints .u8 tab0), .row true (.trips y_1), .box [.v (.int .i64 y), .sl 2], .row true (.ints .i64 y_2), .row true (.ints .i64 y_3)] ?_ ?_
        · clear h
          intro K hK
          refine awp_region ftCOk ?_
          simp (maxSteps := 4000000) only [go_sem, Nat.reduceBEq, Nat.reduceLT, Nat.reduceAdd, Nat.reduceLeDiff, Nat.reduceSub, Nat.reduceEqDiff, Int.reduceToNat, reduceCtorEq, ↓reduceIte]
          repeat' (first | refine And.intro ?_ ?_ | intro hg)
          all_goals (try simp (disch := omega) only [wrap_fits])
          all_goals first
            | (refine hK _ _ ?_; exact Red.auto)
            | exact trivial
            | assumption
            | omega
            | exact wrap_fits (by omega) (by omega)
            | (refine wpA_callA (k_spec_CoresOf y y_1 (h := hr0)) [2] [] ?_
               rintro x Hc' ⟨rfl, rfl⟩ hlen
               refine vcOps_sound ftCOk ?_
               simp (maxSteps := 4000000) only [go_sem, Nat.reduceBEq, Nat.reduceLT, Nat.reduceAdd, Nat.reduceLeDiff, Nat.reduceSub, Nat.reduceEqDiff, Int.reduceToNat, reduceCtorEq, ↓reduceIte]
               repeat' (first | refine And.intro ?_ ?_ | intro hg)
               all_goals (try simp (disch := omega) only [wrap_fits])
               all_goals first
                 | (refine hK _ _ ?_; exact Red.auto)
                 | exact trivial
                 | assumption
                 | omega
                 | exact wrap_fits (by omega) (by omega)
                 | (refine wpA_callA (k_laws_sameInts y_2 y_3 (h := hr1)) [4, 5] [] ?_
                    rintro x Hc' ⟨rfl, rfl⟩ hlen
                    refine vcOps_sound ftCOk ?_
                    simp (maxSteps := 4000000) only [go_sem, Nat.reduceBEq, Nat.reduceLT, Nat.reduceAdd, Nat.reduceLeDiff, Nat.reduceSub, Nat.reduceEqDiff, Int.reduceToNat, reduceCtorEq, ↓reduceIte]
                    repeat' (first | refine And.intro ?_ ?_ | intro hg)
                    all_goals (try simp (disch := omega) only [wrap_fits])
                    all_goals first
                      | (refine hK _ _ ?_; exact Red.auto)
                      | exact trivial
                      | assumption
                      | omega
                      | exact wrap_fits (by omega) (by omega)
                      | (simp_all; done)
                      | (simp_all; omega))
                 | (simp_all; done)
                 | (simp_all; omega))
            | (simp_all; done)
            | (simp_all; omega)
        · clear hr0 hr1
          refine awp_cond (t := 17) rfl (fun hc6 => ?_) (fun hc6 => ?_)
          · replace h := bite_t h hc6
            refine awp_reg ftCOk [(2, .v (.bool false))] [.row false (.ints .u8 a0), .glob 0 (.ints .u8 tab0), .row true (.trips y_1), .box [.v (.int .i64 y), .sl 2], .row true (.ints .i64 y_2), .row true (.ints .i64 y_3)] ?_
            refine awp_ret ?_
            (try simp only [Thn, InBlk, ↓reduceIte, Nat.reduceEqDiff])
            obtain rfl := Option.some.inj h
            refine ⟨by simp, _, [0, 1], (by simp only [go_sem, Nat.reduceBEq, Nat.reduceLT, Nat.reduceAdd, Nat.reduceLeDiff, Nat.reduceSub, Nat.reduceEqDiff, Int.reduceToNat, reduceCtorEq, ↓reduceIte]; exact rfl), ?_, ?_, ?_, ?_⟩
            · first | exact trivial | exact ⟨trivial, trivial⟩ | exact ⟨trivial, trivial, trivial⟩ | exact ⟨trivial, trivial, trivial, trivial⟩ | (simp only [allP, and_true, true_and]; done) | (simp only [allP, and_true, true_and]; omega)
            · simp [selOk, pos]
            · simp
            · first | exact ⟨rfl, rfl⟩ | (simp only [go_sem, Nat.reduceBEq, Nat.reduceLT, Nat.reduceAdd, Nat.reduceLeDiff, Nat.reduceSub, Nat.reduceEqDiff, Int.reduceToNat, reduceCtorEq, ↓reduceIte]; done) | (simp [go_sem, Nat.reduceBEq, Nat.reduceLT, Nat.reduceAdd, Nat.reduceLeDiff, Nat.reduceSub, Nat.reduceEqDiff, Int.reduceToNat, reduceCtorEq, ↓reduceIte]; done) | (simp only [go_sem, Nat.reduceBEq, Nat.reduceLT, Nat.reduceAdd, Nat.reduceLeDiff, Nat.reduceSub, Nat.reduceEqDiff, Int.reduceToNat, reduceCtorEq, ↓reduceIte]; exact ⟨rfl, rfl⟩) | (simp_all [go_sem, Nat.reduceBEq, Nat.reduceLT, Nat.reduceAdd, Nat.reduceLeDiff, Nat.reduceSub, Nat.reduceEqDiff, Int.reduceToNat, reduceCtorEq, ↓reduceIte]; done)
          · replace h := bite_f h hc6
            refine awp_skip ?_
            (try simp only [Thn, InBlk, ↓reduceIte, Nat.reduceEqDiff])
            refine hK5 _ _ ?_
            clear hK5
            replace h := bind_some h
            obtain ⟨⟨y_5, y_6⟩, hr0, h⟩ := h
            try dsimp only at h
            refine awp_to [(3, .pp 3 0), (4, .sl 4), (5, .pp 7 0)] [.row false (.ints .u8 a0), .glob 0 (.ints .u8 tab0), .row true (.trips y_1), .box [.v (.int .i64 y), .sl 2], .row true (.ints .i64 y_2), .row true (.ints .i64 y_3), .row true (.trips y_6), .box [.v (.int .i64 y_5), .sl 6]] ?_ ?_
            · clear h
              intro K hK
              refine awp_region ftCOk ?_
              simp (maxSteps := 4000000) only [go_sem, Nat.reduceBEq, Nat.reduceLT, Nat.reduceAdd, Nat.reduceLeDiff, Nat.reduceSub, Nat.reduceEqDiff, Int.reduceToNat, reduceCtorEq, ↓reduceIte]
              repeat' (first | refine And.intro ?_ ?_ | intro hg)
              all_goals (try simp (disch := omega) only [wrap_fits])
              all_goals first
                | (refine hK _ _ ?_; exact Red.auto)
                | exact trivial
                | assumption
                | omega
                | exact wrap_fits (by omega) (by omega)
                | (refine wpA_callA (k_impl_TurnGraph y y_1 (h := hr0)) [2] [] ?_
                   rintro x Hc' ⟨rfl, rfl⟩ hlen
                   refine vcOps_sound ftCOk ?_
                   simp (maxSteps := 4000000) only [go_sem, Nat.reduceBEq, Nat.reduceLT, Nat.reduceAdd, Nat.reduceLeDiff, Nat.reduceSub, Nat.reduceEqDiff, Int.reduceToNat, reduceCtorEq, ↓reduceIte]
                   repeat' (first | refine And.intro ?_ ?_ | intro hg)
                   all_goals (try simp (disch := omega) only [wrap_fits])
                   all_goals first
                     | (refine hK _ _ ?_; exact Red.auto)
                     | exact trivial
                     | assumption
                     | omega
                     | exact wrap_fits (by omega) (by omega)
                     | (simp_all; done)
                     | (simp_all; omega))
                | (simp_all; done)
                | (simp_all; omega)
            · clear hr0
              replace h := bind_some h
              obtain ⟨y_7, hr0, h⟩ := h
              try dsimp only at h
              cases y_7
              · replace h := bite_f h rfl
                replace h := bind_some h
                obtain ⟨y_8, hr1, h⟩ := h
                try dsimp only at h
                refine awp_to [(2, .v (.bool y_8))] [.row false (.ints .u8 a0), .glob 0 (.ints .u8 tab0), .row true (.trips y_1), .box [.v (.int .i64 y), .sl 2], .row true (.ints .i64 y_2), .row true (.ints .i64 y_3), .row true (.trips y_6), .box [.v (.int .i64 y_5), .sl 6]] ?_ ?_
                · clear h
                  intro K hK
                  refine awp_drawL [0, 1, 2, 3, 4, 5, 6, 7] [] 34 lz0_laws_FnTurnShapes mixed ftCOk (by kernel_rfl) (by first | rfl | kernel_rfl) (by rfl) (by simp) fun L hL => ?_
                  have n18 : L 0 lz1_laws_FnTurnShapes [(2, .v (.bool y_8))] [.row false (.ints .u8 a0), .glob 0 (.ints .u8 tab0), .row true (.trips y_1), .box [.v (.int .i64 y), .sl 2], .row true (.ints .i64 y_2), .row true (.ints .i64 y_3), .row true (.trips y_6), .box [.v (.int .i64 y_5), .sl 6]] := by
                    exact hL.fin (by kernel_rfl) (hK _ _ Red.auto)
                  have n17 : L 3 lz2_laws_FnTurnShapes [(50, .v (.bool true))] [.row false (.ints .u8 a0), .glob 0 (.ints .u8 tab0), .row true (.trips y_1), .box [.v (.int .i64 y), .sl 2], .row true (.ints .i64 y_2), .row true (.ints .i64 y_3), .row true (.trips y_6), .box [.v (.int .i64 y_5), .sl 6]] := by
                    refine hL.step [(31, [32, 33], 0, lz1_laws_FnTurnShapes)] (by kernel_rfl) ⟨?_, trivial⟩
                    · simp (maxSteps := 4000000) only [go_sem, Nat.reduceBEq, Nat.reduceLT, Nat.reduceAdd, Nat.reduceLeDiff, Nat.reduceSub, Nat.reduceEqDiff, Int.reduceToNat, reduceCtorEq, ↓reduceIte]
                      repeat' (first | refine And.intro ?_ ?_ | intro hg)
                      all_goals (try simp (disch := omega) only [wrap_fits])
                      all_goals first
                        | (refine hL.red ?_ n18; exact Red.auto)
                        | exact trivial
                        | assumption
                        | omega
                        | exact wrap_fits (by omega) (by omega)
                        | (refine OpK_callA (k_laws_alive  (h := hr1)) [] [] ?_
                           rintro x Hc' ⟨rfl, rfl⟩ hlen
                           simp (maxSteps := 4000000) only [go_sem, Nat.reduceBEq, Nat.reduceLT, Nat.reduceAdd, Nat.reduceLeDiff, Nat.reduceSub, Nat.reduceEqDiff, Int.reduceToNat, reduceCtorEq, ↓reduceIte]
                           repeat' (first | refine And.intro ?_ ?_ | intro hg)
                           all_goals (try simp (disch := omega) only [wrap_fits])
                           all_goals first
                             | (refine hL.red ?_ n18; exact Red.auto)
                             | exact trivial
                             | assumption
                             | omega
                             | exact wrap_fits (by omega) (by omega)
                             | (simp_all; done)
                             | (simp_all; omega))
                        | (simp (maxSteps := 4000000) only [go_sem, Nat.reduceBEq, Nat.reduceLT, Nat.reduceAdd, Nat.reduceLeDiff, Nat.reduceSub, Nat.reduceEqDiff, Int.reduceToNat, reduceCtorEq, ↓reduceIte]
                           repeat' (first | refine And.intro ?_ ?_ | intro hg)
                           all_goals (try simp (disch := omega) only [wrap_fits])
                           all_goals first | (refine hL.red ?_ n18; exact Red.auto) | exact trivial | assumption | omega | exact wrap_fits (by omega) (by omega))
                        | (simp_all; done)
                        | (simp_all; omega)
                  have n16 : L 6 lz3_laws_FnTurnShapes [(23, .v (.bool true)), (42, .v (.tuple #[])), (47, .v (.tuple #[]))] [.row false (.ints .u8 a0), .glob 0 (.ints .u8 tab0), .row true (.trips y_1), .box [.v (.int .i64 y), .sl 2], .row true (.ints .i64 y_2), .row true (.ints .i64 y_3), .row true (.trips y_6), .box [.v (.int .i64 y_5), .sl 6]] := by
                    refine hL.step [(28, [29, 30], 3, lz2_laws_FnTurnShapes)] (by kernel_rfl) ⟨?_, trivial⟩
                    · exact hL.edge n17
                  have n15 : L 7 lz4_laws_FnTurnShapes [(23, .v (.bool true)), (42, .v (.tuple #[])), (44, .v (.tuple #[])), (46, .v (.tuple #[]))] [.row false (.ints .u8 a0), .glob 0 (.ints .u8 tab0), .row true (.trips y_1), .box [.v (.int .i64 y), .sl 2], .row true (.ints .i64 y_2), .row true (.ints .i64 y_3), .row true (.trips y_6), .box [.v (.int .i64 y_5), .sl 6]] := by
                    refine hL.step [(27, [], 6, lz3_laws_FnTurnShapes)] (by kernel_rfl) ⟨?_, trivial⟩
                    · exact hL.edge n16
                  have n14 : L 8 lz5_laws_FnTurnShapes [(23, .v (.bool true)), (42, .v (.tuple #[])), (44, .v (.tuple #[])), (45, .v (.tuple #[]))] [.row false (.ints .u8 a0), .glob 0 (.ints .u8 tab0), .row true (.trips y_1), .box [.v (.int .i64 y), .sl 2], .row true (.ints .i64 y_2), .row true (.ints .i64 y_3), .row true (.trips y_6), .box [.v (.int .i64 y_5), .sl 6]] := by
                    refine hL.step [(26, [], 7, lz4_laws_FnTurnShapes)] (by kernel_rfl) ⟨?_, trivial⟩
                    · exact hL.edge n15
                  have n13 : L 9 lz6_laws_FnTurnShapes [(23, .v (.bool true)), (42, .v (.tuple #[])), (43, .v (.tuple #[])), (45, .v (.tuple #[]))] [.row false (.ints .u8 a0), .glob 0 (.ints .u8 tab0), .row true (.trips y_1), .box [.v (.int .i64 y), .sl 2], .row true (.ints .i64 y_2), .row true (.ints .i64 y_3), .row true (.trips y_6), .box [.v (.int .i64 y_5), .sl 6]] := by
                    refine hL.step [(24, [], 8, lz5_laws_FnTurnShapes)] (by kernel_rfl) ⟨?_, trivial⟩
                    · exact hL.edge n14
                  have n12 : L 13 lz7_laws_FnTurnShapes [(3, .pp 3 0), (5, .pp 7 0), (23, .v (.bool true)), (35, .v (.tuple #[])), (40, .v (.tuple #[]))] [.row false (.ints .u8 a0), .glob 0 (.ints .u8 tab0), .row true (.trips y_1), .box [.v (.int .i64 y), .sl 2], .row true (.ints .i64 y_2), .row true (.ints .i64 y_3), .row true (.trips y_6), .box [.v (.int .i64 y_5), .sl 6]] := by
                    refine hL.step [(21, [22, 23, 25], 9, lz6_laws_FnTurnShapes)] (by kernel_rfl) ⟨?_, trivial⟩
                    · exact hL.edge n13
                  have n11 : L 14 lz8_laws_FnTurnShapes [(3, .pp 3 0), (5, .pp 7 0), (23, .v (.bool true)), (35, .v (.tuple #[])), (37, .v (.tuple #[])), (39, .v (.tuple #[]))] [.row false (.ints .u8 a0), .glob 0 (.ints .u8 tab0), .row true (.trips y_1), .box [.v (.int .i64 y), .sl 2], .row true (.ints .i64 y_2), .row true (.ints .i64 y_3), .row true (.trips y_6), .box [.v (.int .i64 y_5), .sl 6]] := by
                    refine hL.step [(20, [], 13, lz7_laws_FnTurnShapes)] (by kernel_rfl) ⟨?_, trivial⟩
                    · exact hL.edge n12
                  have n10 : L 15 lz9_laws_FnTurnShapes [(3, .pp 3 0), (5, .pp 7 0), (23, .v (.bool true)), (35, .v (.tuple #[])), (37, .v (.tuple #[])), (38, .v (.tuple #[]))] [.row false (.ints .u8 a0), .glob 0 (.ints .u8 tab0), .row true (.trips y_1), .box [.v (.int .i64 y), .sl 2], .row true (.ints .i64 y_2), .row true (.ints .i64 y_3), .row true (.trips y_6), .box [.v (.int .i64 y_5), .sl 6]] := by
                    refine hL.step [(19, [], 14, lz8_laws_FnTurnShapes)] (by kernel_rfl) ⟨?_, trivial⟩
                    · exact hL.edge n11
                  have n9 : L 16 lz10_laws_FnTurnShapes [(3, .pp 3 0), (5, .pp 7 0), (23, .v (.bool true)), (35, .v (.tuple #[])), (36, .v (.tuple #[])), (38, .v (.tuple #[]))] [.row false (.ints .u8 a0), .glob 0 (.ints .u8 tab0), .row true (.trips y_1), .box [.v (.int .i64 y), .sl 2], .row true (.ints .i64 y_2), .row true (.ints .i64 y_3), .row true (.trips y_6), .box [.v (.int .i64 y_5), .sl 6]] := by
                    refine hL.step [(17, [], 15, lz9_laws_FnTurnShapes)] (by kernel_rfl) ⟨?_, trivial⟩
                    · exact hL.edge n10
                  have n8 : L 20 lz11_laws_FnTurnShapes [(3, .pp 3 0), (5, .pp 7 0), (23, .v (.bool true)), (28, .v (.tuple #[])), (33, .v (.tuple #[]))] [.row false (.ints .u8 a0), .glob 0 (.ints .u8 tab0), .row true (.trips y_1), .box [.v (.int .i64 y), .sl 2], .row true (.ints .i64 y_2), .row true (.ints .i64 y_3), .row true (.trips y_6), .box [.v (.int .i64 y_5), .sl 6]] := by
                    refine hL.step [(14, [15, 16, 18], 16, lz10_laws_FnTurnShapes)] (by kernel_rfl) ⟨?_, trivial⟩
                    · exact hL.edge n9
                  have n7 : L 21 lz12_laws_FnTurnShapes [(3, .pp 3 0), (5, .pp 7 0), (23, .v (.bool true)), (28, .v (.tuple #[])), (30, .v (.tuple #[])), (32, .v (.tuple #[]))] [.row false (.ints .u8 a0), .glob 0 (.ints .u8 tab0), .row true (.trips y_1), .box [.v (.int .i64 y), .sl 2], .row true (.ints .i64 y_2), .row true (.ints .i64 y_3), .row true (.trips y_6), .box [.v (.int .i64 y_5), .sl 6]] := by
                    refine hL.step [(13, [], 20, lz11_laws_FnTurnShapes)] (by kernel_rfl) ⟨?_, trivial⟩
                    · exact hL.edge n8
                  have n6 : L 22 lz13_laws_FnTurnShapes [(3, .pp 3 0), (5, .pp 7 0), (23, .v (.bool true)), (28, .v (.tuple #[])), (30, .v (.tuple #[])), (31, .v (.tuple #[]))] [.row false (.ints .u8 a0), .glob 0 (.ints .u8 tab0), .row true (.trips y_1), .box [.v (.int .i64 y), .sl 2], .row true (.ints .i64 y_2), .row true (.ints .i64 y_3), .row true (.trips y_6), .box [.v (.int .i64 y_5), .sl 6]] := by
                    refine hL.step [(12, [], 21, lz12_laws_FnTurnShapes)] (by kernel_rfl) ⟨?_, trivial⟩
                    · exact hL.edge n7
                  have n5 : L 23 lz14_laws_FnTurnShapes [(3, .pp 3 0), (5, .pp 7 0), (23, .v (.bool true)), (28, .v (.tuple #[])), (29, .v (.tuple #[])), (31, .v (.tuple #[]))] [.row false (.ints .u8 a0), .glob 0 (.ints .u8 tab0), .row true (.trips y_1), .box [.v (.int .i64 y), .sl 2], .row true (.ints .i64 y_2), .row true (.ints .i64 y_3), .row true (.trips y_6), .box [.v (.int .i64 y_5), .sl 6]] := by
                    refine hL.step [(10, [], 22, lz13_laws_FnTurnShapes)] (by kernel_rfl) ⟨?_, trivial⟩
                    · exact hL.edge n6
                  have n4 : L 27 lz15_laws_FnTurnShapes [(3, .pp 3 0), (5, .pp 7 0), (23, .v (.bool true)), (25, .v (.tuple #[])), (26, .v (.tuple #[]))] [.row false (.ints .u8 a0), .glob 0 (.ints .u8 tab0), .row true (.trips y_1), .box [.v (.int .i64 y), .sl 2], .row true (.ints .i64 y_2), .row true (.ints .i64 y_3), .row true (.trips y_6), .box [.v (.int .i64 y_5), .sl 6]] := by
                    refine hL.step [(7, [8, 9, 11], 23, lz14_laws_FnTurnShapes)] (by kernel_rfl) ⟨?_, trivial⟩
                    · exact hL.edge n5
                  have n3 : L 28 lz16_laws_FnTurnShapes [(3, .pp 3 0), (5, .pp 7 0), (23, .v (.bool true)), (24, .v (.tuple #[])), (26, .v (.tuple #[]))] [.row false (.ints .u8 a0), .glob 0 (.ints .u8 tab0), .row true (.trips y_1), .box [.v (.int .i64 y), .sl 2], .row true (.ints .i64 y_2), .row true (.ints .i64 y_3), .row true (.trips y_6), .box [.v (.int .i64 y_5), .sl 6]] := by
                    refine hL.step [(5, [], 27, lz15_laws_FnTurnShapes)] (by kernel_rfl) ⟨?_, trivial⟩
                    · exact hL.edge n4
                  have n2 : L 29 lz17_laws_FnTurnShapes [(3, .pp 3 0), (5, .pp 7 0), (23, .v (.bool true)), (26, .v (.tuple #[]))] [.row false (.ints .u8 a0), .glob 0 (.ints .u8 tab0), .row true (.trips y_1), .box [.v (.int .i64 y), .sl 2], .row true (.ints .i64 y_2), .row true (.ints .i64 y_3), .row true (.trips y_6), .box [.v (.int .i64 y_5), .sl 6]] := by
                    refine hL.step [(4, [], 28, lz16_laws_FnTurnShapes)] (by kernel_rfl) ⟨?_, trivial⟩
                    · exact hL.edge n3
                  have n1 : L 33 lz18_laws_FnTurnShapes [(3, .pp 3 0), (4, .sl 4), (5, .pp 7 0), (20, .agg [.v (.int .i64 y), .sl 2])] [.row false (.ints .u8 a0), .glob 0 (.ints .u8 tab0), .row true (.trips y_1), .box [.v (.int .i64 y), .sl 2], .row true (.ints .i64 y_2), .row true (.ints .i64 y_3), .row true (.trips y_6), .box [.v (.int .i64 y_5), .sl 6]] := by
                    refine hL.step [(1, [2, 3, 6], 29, lz17_laws_FnTurnShapes)] (by kernel_rfl) ⟨?_, trivial⟩
                    · simp (maxSteps := 4000000) only [go_sem, Nat.reduceBEq, Nat.reduceLT, Nat.reduceAdd, Nat.reduceLeDiff, Nat.reduceSub, Nat.reduceEqDiff, Int.reduceToNat, reduceCtorEq, ↓reduceIte]
                      repeat' (first | refine And.intro ?_ ?_ | intro hg)
                      all_goals (try simp (disch := omega) only [wrap_fits])
                      all_goals first
                        | (refine hL.red ?_ n2; exact Red.auto)
                        | exact trivial
                        | assumption
                        | omega
                        | exact wrap_fits (by omega) (by omega)
                        | (refine OpK_callA (k_spec_GraphValid y y_1 (h := hr0)) [2] [] ?_
                           rintro x Hc' ⟨rfl, rfl⟩ hlen
                           simp (maxSteps := 4000000) only [go_sem, Nat.reduceBEq, Nat.reduceLT, Nat.reduceAdd, Nat.reduceLeDiff, Nat.reduceSub, Nat.reduceEqDiff, Int.reduceToNat, reduceCtorEq, ↓reduceIte]
                           repeat' (first | refine And.intro ?_ ?_ | intro hg)
                           all_goals (try simp (disch := omega) only [wrap_fits])
                           all_goals first
                             | (refine hL.red ?_ n2; exact Red.auto)
                             | exact trivial
                             | assumption
                             | omega
                             | exact wrap_fits (by omega) (by omega)
                             | (simp_all; done)
                             | (simp_all; omega))
                        | (simp (maxSteps := 4000000) only [go_sem, Nat.reduceBEq, Nat.reduceLT, Nat.reduceAdd, Nat.reduceLeDiff, Nat.reduceSub, Nat.reduceEqDiff, Int.reduceToNat, reduceCtorEq, ↓reduceIte]
                           repeat' (first | refine And.intro ?_ ?_ | intro hg)
                           all_goals (try simp (disch := omega) only [wrap_fits])
                           all_goals first | (refine hL.red ?_ n2; exact Red.auto) | exact trivial | assumption | omega | exact wrap_fits (by omega) (by omega))
                        | (simp_all; done)
                        | (simp_all; omega)
                  have n0 : L 34 lz0_laws_FnTurnShapes [(3, .pp 3 0), (4, .sl 4), (5, .pp 7 0)] [.row false (.ints .u8 a0), .glob 0 (.ints .u8 tab0), .row true (.trips y_1), .box [.v (.int .i64 y), .sl 2], .row true (.ints .i64 y_2), .row true (.ints .i64 y_3), .row true (.trips y_6), .box [.v (.int .i64 y_5), .sl 6]] := by
                    refine hL.step [(0, [], 33, lz18_laws_FnTurnShapes)] (by kernel_rfl) ⟨?_, trivial⟩
                    · exact hL.edge n1
                  simp (maxSteps := 4000000) only [go_sem, Nat.reduceBEq, Nat.reduceLT, Nat.reduceAdd, Nat.reduceLeDiff, Nat.reduceSub, Nat.reduceEqDiff, Int.reduceToNat, reduceCtorEq, ↓reduceIte]
                  repeat' (first | refine And.intro ?_ ?_ | intro hg)
                  all_goals (try simp (disch := omega) only [wrap_fits])
                  all_goals first
                    | (refine hL.red ?_ n0; exact Red.auto)
                    | exact trivial
                    | assumption
                    | omega
                    | exact wrap_fits (by omega) (by omega)
                    | (simp (maxSteps := 4000000) only [go_sem, Nat.reduceBEq, Nat.reduceLT, Nat.reduceAdd, Nat.reduceLeDiff, Nat.reduceSub, Nat.reduceEqDiff, Int.reduceToNat, reduceCtorEq, ↓reduceIte]
                       repeat' (first | refine And.intro ?_ ?_ | intro hg)
                       all_goals (try simp (disch := omega) only [wrap_fits])
                       all_goals first | (refine hL.red ?_ n0; exact Red.auto) | exact trivial | assumption | omega | exact wrap_fits (by omega) (by omega))
                    | (simp_all; done)
                    | (simp_all; omega)
                · clear hr0 hr1
                  refine awp_ret ?_
                  (try simp only [Thn, InBlk, ↓reduceIte, Nat.reduceEqDiff])
                  obtain rfl := Option.some.inj h
                  refine ⟨by simp, _, [0, 1], (by simp only [go_sem, Nat.reduceBEq, Nat.reduceLT, Nat.reduceAdd, Nat.reduceLeDiff, Nat.reduceSub, Nat.reduceEqDiff, Int.reduceToNat, reduceCtorEq, ↓reduceIte]; exact rfl), ?_, ?_, ?_, ?_⟩
                  · first | exact trivial | exact ⟨trivial, trivial⟩ | exact ⟨trivial, trivial, trivial⟩ | exact ⟨trivial, trivial, trivial, trivial⟩ | (simp only [allP, and_true, true_and]; done) | (simp only [allP, and_true, true_and]; omega)
                  · simp [selOk, pos]
                  · simp
                  · first | exact ⟨rfl, rfl⟩ | (simp only [go_sem, Nat.reduceBEq, Nat.reduceLT, Nat.reduceAdd, Nat.reduceLeDiff, Nat.reduceSub, Nat.reduceEqDiff, Int.reduceToNat, reduceCtorEq, ↓reduceIte]; done) | (simp [go_sem, Nat.reduceBEq, Nat.reduceLT, Nat.reduceAdd, Nat.reduceLeDiff, Nat.reduceSub, Nat.reduceEqDiff, Int.reduceToNat, reduceCtorEq, ↓reduceIte]; done) | (simp only [go_sem, Nat.reduceBEq, Nat.reduceLT, Nat.reduceAdd, Nat.reduceLeDiff, Nat.reduceSub, Nat.reduceEqDiff, Int.reduceToNat, reduceCtorEq, ↓reduceIte]; exact ⟨rfl, rfl⟩) | (simp_all [go_sem, Nat.reduceBEq, Nat.reduceLT, Nat.reduceAdd, Nat.reduceLeDiff, Nat.reduceSub, Nat.reduceEqDiff, Int.reduceToNat, reduceCtorEq, ↓reduceIte]; done)
              · replace h := bite_t h rfl
                replace h := bind_some h
                obtain ⟨y_8, hr1, h⟩ := h
                try dsimp only at h
                replace h := bind_some h
                obtain ⟨y_9, hr2, h⟩ := h
                try dsimp only at h
                cases y_9
                · replace h := bite_f h rfl
                  refine awp_to [(2, .v (.bool false))] [.row false (.ints .u8 a0), .glob 0 (.ints .u8 tab0), .row true (.trips y_1), .box [.v (.int .i64 y), .sl 2], .row true (.ints .i64 y_2), .row true (.ints .i64 y_3), .row true (.trips y_6), .box [.v (.int .i64 y_5), .sl 6], .row true (.ints .i64 y_8)] ?_ ?_
                  · clear h
                    intro K hK
                    refine awp_drawL [0, 1, 2, 3, 4, 5, 6, 7] [] 34 lz0_laws_FnTurnShapes mixed ftCOk (by kernel_rfl) (by first | rfl | kernel_rfl) (by rfl) (by simp) fun L hL => ?_
                    have n21 : L 0 lz1_laws_FnTurnShapes [(2, .v (.bool false))] [.row false (.ints .u8 a0), .glob 0 (.ints .u8 tab0), .row true (.trips y_1), .box [.v (.int .i64 y), .sl 2], .row true (.ints .i64 y_2), .row true (.ints .i64 y_3), .row true (.trips y_6), .box [.v (.int .i64 y_5), .sl 6], .row true (.ints .i64 y_8)] := by
                      exact hL.fin (by kernel_rfl) (hK _ _ Red.auto)
                    have n20 : L 3 lz2_laws_FnTurnShapes [(50, .v (.bool false))] [.row false (.ints .u8 a0), .glob 0 (.ints .u8 tab0), .row true (.trips y_1), .box [.v (.int .i64 y), .sl 2], .row true (.ints .i64 y_2), .row true (.ints .i64 y_3), .row true (.trips y_6), .box [.v (.int .i64 y_5), .sl 6], .row true (.ints .i64 y_8)] := by
                      refine hL.step [(31, [32, 33], 0, lz1_laws_FnTurnShapes)] (by kernel_rfl) ⟨?_, trivial⟩
                      · exact hL.edge n21
                    have n19 : L 7 lz4_laws_FnTurnShapes [(23, .v (.bool false)), (42, .v (.bool false)), (44, .v (.tuple #[])), (46, .v (.tuple #[]))] [.row false (.ints .u8 a0), .glob 0 (.ints .u8 tab0), .row true (.trips y_1), .box [.v (.int .i64 y), .sl 2], .row true (.ints .i64 y_2), .row true (.ints .i64 y_3), .row true (.trips y_6), .box [.v (.int .i64 y_5), .sl 6], .row true (.ints .i64 y_8)] := by
                      refine hL.step [(27, [28, 29, 30], 3, lz2_laws_FnTurnShapes)] (by kernel_rfl) ⟨?_, trivial⟩
                      · exact hL.edge n20
                    have n18 : L 8 lz5_laws_FnTurnShapes [(23, .v (.bool false)), (42, .v (.bool false)), (44, .v (.tuple #[])), (45, .v (.tuple #[]))] [.row false (.ints .u8 a0), .glob 0 (.ints .u8 tab0), .row true (.trips y_1), .box [.v (.int .i64 y), .sl 2], .row true (.ints .i64 y_2), .row true (.ints .i64 y_3), .row true (.trips y_6), .box [.v (.int .i64 y_5), .sl 6], .row true (.ints .i64 y_8)] := by
                      refine hL.step [(26, [], 7, lz4_laws_FnTurnShapes)] (by kernel_rfl) ⟨?_, trivial⟩
                      · exact hL.edge n19
                    have n17 : L 9 lz19_laws_FnTurnShapes [(3, .pp 3 0), (23, .v (.bool false)), (42, .v (.bool false)), (44, .v (.tuple #[]))] [.row false (.ints .u8 a0), .glob 0 (.ints .u8 tab0), .row true (.trips y_1), .box [.v (.int .i64 y), .sl 2], .row true (.ints .i64 y_2), .row true (.ints .i64 y_3), .row true (.trips y_6), .box [.v (.int .i64 y_5), .sl 6], .row true (.ints .i64 y_8)] := by
                      refine hL.step [(25, [], 8, lz5_laws_FnTurnShapes)] (by kernel_rfl) ⟨?_, trivial⟩
                      · exact hL.edge n18
                    have n22 : L 9 lz6_laws_FnTurnShapes [(23, .v (.bool false)), (42, .v (.bool false)), (43, .v (.tuple #[])), (45, .v (.tuple #[]))] [.row false (.ints .u8 a0), .glob 0 (.ints .u8 tab0), .row true (.trips y_1), .box [.v (.int .i64 y), .sl 2], .row true (.ints .i64 y_2), .row true (.ints .i64 y_3), .row true (.trips y_6), .box [.v (.int .i64 y_5), .sl 6], .row true (.ints .i64 y_8)] := by
                      refine hL.step [(24, [], 8, lz5_laws_FnTurnShapes)] (by kernel_rfl) ⟨?_, trivial⟩
                      · exact hL.edge n18
                    have n16 : L 10 lz20_laws_FnTurnShapes [(3, .pp 3 0), (23, .v (.bool false)), (42, .v (.bool false)), (43, .v (.tuple #[]))] [.row false (.ints .u8 a0), .glob 0 (.ints .u8 tab0), .row true (.trips y_1), .box [.v (.int .i64 y), .sl 2], .row true (.ints .i64 y_2), .row true (.ints .i64 y_3), .row true (.trips y_6), .box [.v (.int .i64 y_5), .sl 6], .row true (.ints .i64 y_8)] := by
                      refine hL.step [(24, [], 9, lz19_laws_FnTurnShapes), (25, [], 9, lz6_laws_FnTurnShapes)] (by kernel_rfl) ⟨?_, ?_, trivial⟩
                      · exact hL.edge n17
                      · exact hL.edge n22
                    have n23 : L 10 lz21_laws_FnTurnShapes [(5, .pp 7 0), (23, .v (.bool false)), (42, .v (.bool false)), (45, .v (.tuple #[]))] [.row false (.ints .u8 a0), .glob 0 (.ints .u8 tab0), .row true (.trips y_1), .box [.v (.int .i64 y), .sl 2], .row true (.ints .i64 y_2), .row true (.ints .i64 y_3), .row true (.trips y_6), .box [.v (.int .i64 y_5), .sl 6], .row true (.ints .i64 y_8)] := by
                      refine hL.step [(23, [], 9, lz6_laws_FnTurnShapes)] (by kernel_rfl) ⟨?_, trivial⟩
                      · exact hL.edge n22
                    have n15 : L 11 lz22_laws_FnTurnShapes [(3, .pp 3 0), (5, .pp 7 0), (23, .v (.bool false)), (42, .v (.bool false))] [.row false (.ints .u8 a0), .glob 0 (.ints .u8 tab0), .row true (.trips y_1), .box [.v (.int .i64 y), .sl 2], .row true (.ints .i64 y_2), .row true (.ints .i64 y_3), .row true (.trips y_6), .box [.v (.int .i64 y_5), .sl 6], .row true (.ints .i64 y_8)] := by
                      refine hL.step [(23, [], 10, lz20_laws_FnTurnShapes), (25, [], 10, lz21_laws_FnTurnShapes)] (by kernel_rfl) ⟨?_, ?_, trivial⟩
                      · exact hL.edge n16
                      · exact hL.edge n23
                    have n14 : L 14 lz8_laws_FnTurnShapes [(3, .pp 3 0), (5, .pp 7 0), (23, .v (.bool false)), (35, .v (.bool false)), (37, .v (.tuple #[])), (39, .v (.tuple #[]))] [.row false (.ints .u8 a0), .glob 0 (.ints .u8 tab0), .row true (.trips y_1), .box [.v (.int .i64 y), .sl 2], .row true (.ints .i64 y_2), .row true (.ints .i64 y_3), .row true (.trips y_6), .box [.v (.int .i64 y_5), .sl 6], .row true (.ints .i64 y_8)] := by
                      refine hL.step [(20, [21, 22], 11, lz22_laws_FnTurnShapes)] (by kernel_rfl) ⟨?_, trivial⟩
                      · exact hL.edge n15
                    have n13 : L 15 lz9_laws_FnTurnShapes [(3, .pp 3 0), (5, .pp 7 0), (23, .v (.bool false)), (35, .v (.bool false)), (37, .v (.tuple #[])), (38, .v (.tuple #[]))] [.row false (.ints .u8 a0), .glob 0 (.ints .u8 tab0), .row true (.trips y_1), .box [.v (.int .i64 y), .sl 2], .row true (.ints .i64 y_2), .row true (.ints .i64 y_3), .row true (.trips y_6), .box [.v (.int .i64 y_5), .sl 6], .row true (.ints .i64 y_8)] := by
                      refine hL.step [(19, [], 14, lz8_laws_FnTurnShapes)] (by kernel_rfl) ⟨?_, trivial⟩
                      · exact hL.edge n14
                    have n12 : L 16 lz23_laws_FnTurnShapes [(3, .pp 3 0), (5, .pp 7 0), (23, .v (.bool false)), (35, .v (.bool false)), (37, .v (.tuple #[]))] [.row false (.ints .u8 a0), .glob 0 (.ints .u8 tab0), .row true (.trips y_1), .box [.v (.int .i64 y), .sl 2], .row true (.ints .i64 y_2), .row true (.ints .i64 y_3), .row true (.trips y_6), .box [.v (.int .i64 y_5), .sl 6], .row true (.ints .i64 y_8)] := by
                      refine hL.step [(18, [], 15, lz9_laws_FnTurnShapes)] (by kernel_rfl) ⟨?_, trivial⟩
                      · exact hL.edge n13
                    have n24 : L 16 lz10_laws_FnTurnShapes [(3, .pp 3 0), (5, .pp 7 0), (23, .v (.bool false)), (35, .v (.bool false)), (36, .v (.tuple #[])), (38, .v (.tuple #[]))] [.row false (.ints .u8 a0), .glob 0 (.ints .u8 tab0), .row true (.trips y_1), .box [.v (.int .i64 y), .sl 2], .row true (.ints .i64 y_2), .row true (.ints .i64 y_3), .row true (.trips y_6), .box [.v (.int .i64 y_5), .sl 6], .row true (.ints .i64 y_8)] := by
                      refine hL.step [(17, [], 15, lz9_laws_FnTurnShapes)] (by kernel_rfl) ⟨?_, trivial⟩
                      · exact hL.edge n13
                    have n11 : L 17 lz24_laws_FnTurnShapes [(3, .pp 3 0), (5, .pp 7 0), (23, .v (.bool false)), (35, .v (.bool false)), (36, .v (.tuple #[]))] [.row false (.ints .u8 a0), .glob 0 (.ints .u8 tab0), .row true (.trips y_1), .box [.v (.int .i64 y), .sl 2], .row true (.ints .i64 y_2), .row true (.ints .i64 y_3), .row true (.trips y_6), .box [.v (.int .i64 y_5), .sl 6], .row true (.ints .i64 y_8)] := by
                      refine hL.step [(17, [], 16, lz23_laws_FnTurnShapes), (18, [], 16, lz10_laws_FnTurnShapes)] (by kernel_rfl) ⟨?_, ?_, trivial⟩
                      · exact hL.edge n12
                      · exact hL.edge n24
                    have n25 : L 17 lz25_laws_FnTurnShapes [(3, .pp 3 0), (5, .pp 7 0), (23, .v (.bool false)), (35, .v (.bool false)), (38, .v (.tuple #[]))] [.row false (.ints .u8 a0), .glob 0 (.ints .u8 tab0), .row true (.trips y_1), .box [.v (.int .i64 y), .sl 2], .row true (.ints .i64 y_2), .row true (.ints .i64 y_3), .row true (.trips y_6), .box [.v (.int .i64 y_5), .sl 6], .row true (.ints .i64 y_8)] := by
                      refine hL.step [(16, [], 16, lz10_laws_FnTurnShapes)] (by kernel_rfl) ⟨?_, trivial⟩
                      · exact hL.edge n24
                    have n10 : L 18 lz26_laws_FnTurnShapes [(3, .pp 3 0), (5, .pp 7 0), (23, .v (.bool false)), (35, .v (.bool false))] [.row false (.ints .u8 a0), .glob 0 (.ints .u8 tab0), .row true (.trips y_1), .box [.v (.int .i64 y), .sl 2], .row true (.ints .i64 y_2), .row true (.ints .i64 y_3), .row true (.trips y_6), .box [.v (.int .i64 y_5), .sl 6], .row true (.ints .i64 y_8)] := by
                      refine hL.step [(16, [], 17, lz24_laws_FnTurnShapes), (18, [], 17, lz25_laws_FnTurnShapes)] (by kernel_rfl) ⟨?_, ?_, trivial⟩
                      · exact hL.edge n11
                      · exact hL.edge n25
                    have n9 : L 21 lz12_laws_FnTurnShapes [(3, .pp 3 0), (5, .pp 7 0), (23, .v (.bool false)), (28, .v (.bool false)), (30, .v (.tuple #[])), (32, .v (.tuple #[]))] [.row false (.ints .u8 a0), .glob 0 (.ints .u8 tab0), .row true (.trips y_1), .box [.v (.int .i64 y), .sl 2], .row true (.ints .i64 y_2), .row true (.ints .i64 y_3), .row true (.trips y_6), .box [.v (.int .i64 y_5), .sl 6], .row true (.ints .i64 y_8)] := by
                      refine hL.step [(13, [14, 15], 18, lz26_laws_FnTurnShapes)] (by kernel_rfl) ⟨?_, trivial⟩
                      · exact hL.edge n10
                    have n8 : L 22 lz13_laws_FnTurnShapes [(3, .pp 3 0), (5, .pp 7 0), (23, .v (.bool false)), (28, .v (.bool false)), (30, .v (.tuple #[])), (31, .v (.tuple #[]))] [.row false (.ints .u8 a0), .glob 0 (.ints .u8 tab0), .row true (.trips y_1), .box [.v (.int .i64 y), .sl 2], .row true (.ints .i64 y_2), .row true (.ints .i64 y_3), .row true (.trips y_6), .box [.v (.int .i64 y_5), .sl 6], .row true (.ints .i64 y_8)] := by
                      refine hL.step [(12, [], 21, lz12_laws_FnTurnShapes)] (by kernel_rfl) ⟨?_, trivial⟩
                      · exact hL.edge n9
                    have n7 : L 23 lz27_laws_FnTurnShapes [(3, .pp 3 0), (5, .pp 7 0), (23, .v (.bool false)), (28, .v (.bool false)), (30, .v (.tuple #[]))] [.row false (.ints .u8 a0), .glob 0 (.ints .u8 tab0), .row true (.trips y_1), .box [.v (.int .i64 y), .sl 2], .row true (.ints .i64 y_2), .row true (.ints .i64 y_3), .row true (.trips y_6), .box [.v (.int .i64 y_5), .sl 6], .row true (.ints .i64 y_8)] := by
                      refine hL.step [(11, [], 22, lz13_laws_FnTurnShapes)] (by kernel_rfl) ⟨?_, trivial⟩
                      · exact hL.edge n8
                    have n26 : L 23 lz14_laws_FnTurnShapes [(3, .pp 3 0), (5, .pp 7 0), (23, .v (.bool false)), (28, .v (.bool false)), (29, .v (.tuple #[])), (31, .v (.tuple #[]))] [.row false (.ints .u8 a0), .glob 0 (.ints .u8 tab0), .row true (.trips y_1), .box [.v (.int .i64 y), .sl 2], .row true (.ints .i64 y_2), .row true (.ints .i64 y_3), .row true (.trips y_6), .box [.v (.int .i64 y_5), .sl 6], .row true (.ints .i64 y_8)] := by
                      refine hL.step [(10, [], 22, lz13_laws_FnTurnShapes)] (by kernel_rfl) ⟨?_, trivial⟩
                      · exact hL.edge n8
                    have n6 : L 24 lz28_laws_FnTurnShapes [(3, .pp 3 0), (5, .pp 7 0), (23, .v (.bool false)), (28, .v (.bool false)), (29, .v (.tuple #[]))] [.row false (.ints .u8 a0), .glob 0 (.ints .u8 tab0), .row true (.trips y_1), .box [.v (.int .i64 y), .sl 2], .row true (.ints .i64 y_2), .row true (.ints .i64 y_3), .row true (.trips y_6), .box [.v (.int .i64 y_5), .sl 6], .row true (.ints .i64 y_8)] := by
                      refine hL.step [(10, [], 23, lz27_laws_FnTurnShapes), (11, [], 23, lz14_laws_FnTurnShapes)] (by kernel_rfl) ⟨?_, ?_, trivial⟩
                      · exact hL.edge n7
                      · exact hL.edge n26
                    have n27 : L 24 lz29_laws_FnTurnShapes [(3, .pp 3 0), (5, .pp 7 0), (23, .v (.bool false)), (28, .v (.bool false)), (31, .v (.tuple #[]))] [.row false (.ints .u8 a0), .glob 0 (.ints .u8 tab0), .row true (.trips y_1), .box [.v (.int .i64 y), .sl 2], .row true (.ints .i64 y_2), .row true (.ints .i64 y_3), .row true (.trips y_6), .box [.v (.int .i64 y_5), .sl 6], .row true (.ints .i64 y_8)] := by
                      refine hL.step [(9, [], 23, lz14_laws_FnTurnShapes)] (by kernel_rfl) ⟨?_, trivial⟩
                      · exact hL.edge n26
                    have n5 : L 25 lz30_laws_FnTurnShapes [(3, .pp 3 0), (5, .pp 7 0), (23, .v (.bool false)), (28, .v (.bool false))] [.row false (.ints .u8 a0), .glob 0 (.ints .u8 tab0), .row true (.trips y_1), .box [.v (.int .i64 y), .sl 2], .row true (.ints .i64 y_2), .row true (.ints .i64 y_3), .row true (.trips y_6), .box [.v (.int .i64 y_5), .sl 6], .row true (.ints .i64 y_8)] := by
                      refine hL.step [(9, [], 24, lz28_laws_FnTurnShapes), (11, [], 24, lz29_laws_FnTurnShapes)] (by kernel_rfl) ⟨?_, ?_, trivial⟩
                      · exact hL.edge n6
                      · exact hL.edge n27
                    have n4 : L 27 lz15_laws_FnTurnShapes [(3, .pp 3 0), (5, .pp 7 0), (23, .v (.bool false)), (25, .sl 8), (26, .sl 4)] [.row false (.ints .u8 a0), .glob 0 (.ints .u8 tab0), .row true (.trips y_1), .box [.v (.int .i64 y), .sl 2], .row true (.ints .i64 y_2), .row true (.ints .i64 y_3), .row true (.trips y_6), .box [.v (.int .i64 y_5), .sl 6], .row true (.ints .i64 y_8)] := by
                      refine hL.step [(7, [8], 25, lz30_laws_FnTurnShapes)] (by kernel_rfl) ⟨?_, trivial⟩
                      · simp (maxSteps := 4000000) only [go_sem, Nat.reduceBEq, Nat.reduceLT, Nat.reduceAdd, Nat.reduceLeDiff, Nat.reduceSub, Nat.reduceEqDiff, Int.reduceToNat, reduceCtorEq, ↓reduceIte]
                        repeat' (first | refine And.intro ?_ ?_ | intro hg)
                        all_goals (try simp (disch := omega) only [wrap_fits])
                        all_goals first
                          | (refine hL.red ?_ n5; exact Red.auto)
                          | exact trivial
                          | assumption
                          | omega
                          | exact wrap_fits (by omega) (by omega)
                          | (refine OpK_callA (k_laws_sameInts y_8 y_2 (h := hr2)) [8, 4] [] ?_
                             rintro x Hc' ⟨rfl, rfl⟩ hlen
                             simp (maxSteps := 4000000) only [go_sem, Nat.reduceBEq, Nat.reduceLT, Nat.reduceAdd, Nat.reduceLeDiff, Nat.reduceSub, Nat.reduceEqDiff, Int.reduceToNat, reduceCtorEq, ↓reduceIte]
                             repeat' (first | refine And.intro ?_ ?_ | intro hg)
                             all_goals (try simp (disch := omega) only [wrap_fits])
                             all_goals first
                               | (refine hL.red ?_ n5; exact Red.auto)
                               | exact trivial
                               | assumption
                               | omega
                               | exact wrap_fits (by omega) (by omega)
                               | (simp_all; done)
                               | (simp_all; omega))
                          | (simp (maxSteps := 4000000) only [go_sem, Nat.reduceBEq, Nat.reduceLT, Nat.reduceAdd, Nat.reduceLeDiff, Nat.reduceSub, Nat.reduceEqDiff, Int.reduceToNat, reduceCtorEq, ↓reduceIte]
                             repeat' (first | refine And.intro ?_ ?_ | intro hg)
                             all_goals (try simp (disch := omega) only [wrap_fits])
                             all_goals first | (refine hL.red ?_ n5; exact Red.auto) | exact trivial | assumption | omega | exact wrap_fits (by omega) (by omega))
                          | (simp_all; done)
                          | (simp_all; omega)
                    have n3 : L 28 lz16_laws_FnTurnShapes [(3, .pp 3 0), (5, .pp 7 0), (23, .v (.bool false)), (24, .agg [.v (.int .i64 y_5), .sl 6]), (26, .sl 4)] [.row false (.ints .u8 a0), .glob 0 (.ints .u8 tab0), .row true (.trips y_1), .box [.v (.int .i64 y), .sl 2], .row true (.ints .i64 y_2), .row true (.ints .i64 y_3), .row true (.trips y_6), .box [.v (.int .i64 y_5), .sl 6]] := by
                      refine hL.step [(5, [], 27, lz15_laws_FnTurnShapes)] (by kernel_rfl) ⟨?_, trivial⟩
                      · simp (maxSteps := 4000000) only [go_sem, Nat.reduceBEq, Nat.reduceLT, Nat.reduceAdd, Nat.reduceLeDiff, Nat.reduceSub, Nat.reduceEqDiff, Int.reduceToNat, reduceCtorEq, ↓reduceIte]
                        repeat' (first | refine And.intro ?_ ?_ | intro hg)
                        all_goals (try simp (disch := omega) only [wrap_fits])
                        all_goals first
                          | (refine hL.red ?_ n4; exact Red.auto)
                          | exact trivial
                          | assumption
                          | omega
                          | exact wrap_fits (by omega) (by omega)
                          | (refine OpK_callA (k_impl_CoresOf y_5 y_6 (h := hr1)) [6, 1] [] ?_
                             rintro x Hc' ⟨rfl, rfl⟩ hlen
                             simp (maxSteps := 4000000) only [go_sem, Nat.reduceBEq, Nat.reduceLT, Nat.reduceAdd, Nat.reduceLeDiff, Nat.reduceSub, Nat.reduceEqDiff, Int.reduceToNat, reduceCtorEq, ↓reduceIte]
                             repeat' (first | refine And.intro ?_ ?_ | intro hg)
                             all_goals (try simp (disch := omega) only [wrap_fits])
                             all_goals first
                               | (refine hL.red ?_ n4; exact Red.auto)
                               | exact trivial
                               | assumption
                               | omega
                               | exact wrap_fits (by omega) (by omega)
                               | (simp_all; done)
                               | (simp_all; omega))
                          | (simp (maxSteps := 4000000) only [go_sem, Nat.reduceBEq, Nat.reduceLT, Nat.reduceAdd, Nat.reduceLeDiff, Nat.reduceSub, Nat.reduceEqDiff, Int.reduceToNat, reduceCtorEq, ↓reduceIte]
                             repeat' (first | refine And.intro ?_ ?_ | intro hg)
                             all_goals (try simp (disch := omega) only [wrap_fits])
                             all_goals first | (refine hL.red ?_ n4; exact Red.auto) | exact trivial | assumption | omega | exact wrap_fits (by omega) (by omega))
                          | (simp_all; done)
                          | (simp_all; omega)
                    have n2 : L 29 lz17_laws_FnTurnShapes [(3, .pp 3 0), (5, .pp 7 0), (23, .v (.bool false)), (26, .sl 4)] [.row false (.ints .u8 a0), .glob 0 (.ints .u8 tab0), .row true (.trips y_1), .box [.v (.int .i64 y), .sl 2], .row true (.ints .i64 y_2), .row true (.ints .i64 y_3), .row true (.trips y_6), .box [.v (.int .i64 y_5), .sl 6]] := by
                      refine hL.step [(4, [], 28, lz16_laws_FnTurnShapes)] (by kernel_rfl) ⟨?_, trivial⟩
                      · exact hL.edge n3
                    have n1 : L 33 lz18_laws_FnTurnShapes [(3, .pp 3 0), (4, .sl 4), (5, .pp 7 0), (20, .agg [.v (.int .i64 y), .sl 2])] [.row false (.ints .u8 a0), .glob 0 (.ints .u8 tab0), .row true (.trips y_1), .box [.v (.int .i64 y), .sl 2], .row true (.ints .i64 y_2), .row true (.ints .i64 y_3), .row true (.trips y_6), .box [.v (.int .i64 y_5), .sl 6]] := by
                      refine hL.step [(1, [2, 3, 6], 29, lz17_laws_FnTurnShapes)] (by kernel_rfl) ⟨?_, trivial⟩
                      · simp (maxSteps := 4000000) only [go_sem, Nat.reduceBEq, Nat.reduceLT, Nat.reduceAdd, Nat.reduceLeDiff, Nat.reduceSub, Nat.reduceEqDiff, Int.reduceToNat, reduceCtorEq, ↓reduceIte]
                        repeat' (first | refine And.intro ?_ ?_ | intro hg)
                        all_goals (try simp (disch := omega) only [wrap_fits])
                        all_goals first
                          | (refine hL.red ?_ n2; exact Red.auto)
                          | exact trivial
                          | assumption
                          | omega
                          | exact wrap_fits (by omega) (by omega)
                          | (refine OpK_callA (k_spec_GraphValid y y_1 (h := hr0)) [2] [] ?_
                             rintro x Hc' ⟨rfl, rfl⟩ hlen
                             simp (maxSteps := 4000000) only [go_sem, Nat.reduceBEq, Nat.reduceLT, Nat.reduceAdd, Nat.reduceLeDiff, Nat.reduceSub, Nat.reduceEqDiff, Int.reduceToNat, reduceCtorEq, ↓reduceIte]
                             repeat' (first | refine And.intro ?_ ?_ | intro hg)
                             all_goals (try simp (disch := omega) only [wrap_fits])
                             all_goals first
                               | (refine hL.red ?_ n2; exact Red.auto)
                               | exact trivial
                               | assumption
                               | omega
                               | exact wrap_fits (by omega) (by omega)
                               | (simp_all; done)
                               | (simp_all; omega))
                          | (simp (maxSteps := 4000000) only [go_sem, Nat.reduceBEq, Nat.reduceLT, Nat.reduceAdd, Nat.reduceLeDiff, Nat.reduceSub, Nat.reduceEqDiff, Int.reduceToNat, reduceCtorEq, ↓reduceIte]
                             repeat' (first | refine And.intro ?_ ?_ | intro hg)
                             all_goals (try simp (disch := omega) only [wrap_fits])
                             all_goals first | (refine hL.red ?_ n2; exact Red.auto) | exact trivial | assumption | omega | exact wrap_fits (by omega) (by omega))
                          | (simp_all; done)
                          | (simp_all; omega)
                    have n0 : L 34 lz0_laws_FnTurnShapes [(3, .pp 3 0), (4, .sl 4), (5, .pp 7 0)] [.row false (.ints .u8 a0), .glob 0 (.ints .u8 tab0), .row true (.trips y_1), .box [.v (.int .i64 y), .sl 2], .row true (.ints .i64 y_2), .row true (.ints .i64 y_3), .row true (.trips y_6), .box [.v (.int .i64 y_5), .sl 6]] := by
                      refine hL.step [(0, [], 33, lz18_laws_FnTurnShapes)] (by kernel_rfl) ⟨?_, trivial⟩
                      · exact hL.edge n1
                    simp (maxSteps := 4000000) only [go_sem, Nat.reduceBEq, Nat.reduceLT, Nat.reduceAdd, Nat.reduceLeDiff, Nat.reduceSub, Nat.reduceEqDiff, Int.reduceToNat, reduceCtorEq, ↓reduceIte]
                    repeat' (first | refine And.intro ?_ ?_ | intro hg)
                    all_goals (try simp (disch := omega) only [wrap_fits])
                    all_goals first
                      | (refine hL.red ?_ n0; exact Red.auto)
                      | exact trivial
                      | assumption
                      | omega
                      | exact wrap_fits (by omega) (by omega)
                      | (simp (maxSteps := 4000000) only [go_sem, Nat.reduceBEq, Nat.reduceLT, Nat.reduceAdd, Nat.reduceLeDiff, Nat.reduceSub, Nat.reduceEqDiff, Int.reduceToNat, reduceCtorEq, ↓reduceIte]
                         repeat' (first | refine And.intro ?_ ?_ | intro hg)
                         all_goals (try simp (disch := omega) only [wrap_fits])
                         all_goals first | (refine hL.red ?_ n0; exact Red.auto) | exact trivial | assumption | omega | exact wrap_fits (by omega) (by omega))
                      | (simp_all; done)
                      | (simp_all; omega)
                  · clear hr0 hr1 hr2
                    refine awp_ret ?_
                    (try simp only [Thn, InBlk, ↓reduceIte, Nat.reduceEqDiff])
                    obtain rfl := Option.some.inj h
                    refine ⟨by simp, _, [0, 1], (by simp only [go_sem, Nat.reduceBEq, Nat.reduceLT, Nat.reduceAdd, Nat.reduceLeDiff, Nat.reduceSub, Nat.reduceEqDiff, Int.reduceToNat, reduceCtorEq, ↓reduceIte]; exact rfl), ?_, ?_, ?_, ?_⟩
                    · first | exact trivial | exact ⟨trivial, trivial⟩ | exact ⟨trivial, trivial, trivial⟩ | exact ⟨trivial, trivial, trivial, trivial⟩ | (simp only [allP, and_true, true_and]; done) | (simp only [allP, and_true, true_and]; omega)
                    · simp [selOk, pos]
                    · simp
                    · first | exact ⟨rfl, rfl⟩ | (simp only [go_sem, Nat.reduceBEq, Nat.reduceLT, Nat.reduceAdd, Nat.reduceLeDiff, Nat.reduceSub, Nat.reduceEqDiff, Int.reduceToNat, reduceCtorEq, ↓reduceIte]; done) | (simp [go_sem, Nat.reduceBEq, Nat.reduceLT, Nat.reduceAdd, Nat.reduceLeDiff, Nat.reduceSub, Nat.reduceEqDiff, Int.reduceToNat, reduceCtorEq, ↓reduceIte]; done) | (simp only [go_sem, Nat.reduceBEq, Nat.reduceLT, Nat.reduceAdd, Nat.reduceLeDiff, Nat.reduceSub, Nat.reduceEqDiff, Int.reduceToNat, reduceCtorEq, ↓reduceIte]; exact ⟨rfl, rfl⟩) | (simp_all [go_sem, Nat.reduceBEq, Nat.reduceLT, Nat.reduceAdd, Nat.reduceLeDiff, Nat.reduceSub, Nat.reduceEqDiff, Int.reduceToNat, reduceCtorEq, ↓reduceIte]; done)
                · replace h := bite_t h rfl
                  replace h := bind_some h
                  obtain ⟨y_10, hr3, h⟩ := h
                  try dsimp only at h
                  replace h := bind_some h
                  obtain ⟨y_11, hr4, h⟩ := h
                  try dsimp only at h
                  replace h := bind_some h
                  obtain ⟨y_12, hr5, h⟩ := h
                  try dsimp only at h
                  cases y_12
                  · replace h := bite_f h rfl
                    refine awp_to [(2, .v (.bool false))] [.row false (.ints .u8 a0), .glob 0 (.ints .u8 tab0), .row true (.trips y_1), .box [.v (.int .i64 y), .sl 2], .row true (.ints .i64 y_2), .row true (.ints .i64 y_3), .row true (.trips y_6), .box [.v (.int .i64 y_5), .sl 6], .row true (.ints .i64 y_8), .row true (.ints .i64 y_10), .row true (.ints .i64 y_11)] ?_ ?_
                    · clear h
                      intro K hK
                      refine awp_drawL [0, 1, 2, 3, 4, 5, 6, 7] [] 34 lz0_laws_FnTurnShapes mixed ftCOk (by kernel_rfl) (by first | rfl | kernel_rfl) (by rfl) (by simp) fun L hL => ?_
                      have n21 : L 0 lz1_laws_FnTurnShapes [(2, .v (.bool false))] [.row false (.ints .u8 a0), .glob 0 (.ints .u8 tab0), .row true (.trips y_1), .box [.v (.int .i64 y), .sl 2], .row true (.ints .i64 y_2), .row true (.ints .i64 y_3), .row true (.trips y_6), .box [.v (.int .i64 y_5), .sl 6], .row true (.ints .i64 y_8), .row true (.ints .i64 y_10), .row true (.ints .i64 y_11)] := by
                        exact hL.fin (by kernel_rfl) (hK _ _ Red.auto)
                      have n20 : L 3 lz2_laws_FnTurnShapes [(50, .v (.bool false))] [.row false (.ints .u8 a0), .glob 0 (.ints .u8 tab0), .row true (.trips y_1), .box [.v (.int .i64 y), .sl 2], .row true (.ints .i64 y_2), .row true (.ints .i64 y_3), .row true (.trips y_6), .box [.v (.int .i64 y_5), .sl 6], .row true (.ints .i64 y_8), .row true (.ints .i64 y_10), .row true (.ints .i64 y_11)] := by
                        refine hL.step [(31, [32, 33], 0, lz1_laws_FnTurnShapes)] (by kernel_rfl) ⟨?_, trivial⟩
                        · exact hL.edge n21
                      have n19 : L 7 lz4_laws_FnTurnShapes [(23, .v (.bool false)), (42, .v (.bool false)), (44, .v (.tuple #[])), (46, .v (.tuple #[]))] [.row false (.ints .u8 a0), .glob 0 (.ints .u8 tab0), .row true (.trips y_1), .box [.v (.int .i64 y), .sl 2], .row true (.ints .i64 y_2), .row true (.ints .i64 y_3), .row true (.trips y_6), .box [.v (.int .i64 y_5), .sl 6], .row true (.ints .i64 y_8), .row true (.ints .i64 y_10), .row true (.ints .i64 y_11)] := by
                        refine hL.step [(27, [28, 29, 30], 3, lz2_laws_FnTurnShapes)] (by kernel_rfl) ⟨?_, trivial⟩
                        · exact hL.edge n20
                      have n18 : L 8 lz5_laws_FnTurnShapes [(23, .v (.bool false)), (42, .v (.bool false)), (44, .v (.tuple #[])), (45, .v (.tuple #[]))] [.row false (.ints .u8 a0), .glob 0 (.ints .u8 tab0), .row true (.trips y_1), .box [.v (.int .i64 y), .sl 2], .row true (.ints .i64 y_2), .row true (.ints .i64 y_3), .row true (.trips y_6), .box [.v (.int .i64 y_5), .sl 6], .row true (.ints .i64 y_8), .row true (.ints .i64 y_10), .row true (.ints .i64 y_11)] := by
                        refine hL.step [(26, [], 7, lz4_laws_FnTurnShapes)] (by kernel_rfl) ⟨?_, trivial⟩
                        · exact hL.edge n19
                      have n17 : L 9 lz19_laws_FnTurnShapes [(3, .pp 3 0), (23, .v (.bool false)), (42, .v (.bool false)), (44, .v (.tuple #[]))] [.row false (.ints .u8 a0), .glob 0 (.ints .u8 tab0), .row true (.trips y_1), .box [.v (.int .i64 y), .sl 2], .row true (.ints .i64 y_2), .row true (.ints .i64 y_3), .row true (.trips y_6), .box [.v (.int .i64 y_5), .sl 6], .row true (.ints .i64 y_8), .row true (.ints .i64 y_10), .row true (.ints .i64 y_11)] := by
                        refine hL.step [(25, [], 8, lz5_laws_FnTurnShapes)] (by kernel_rfl) ⟨?_, trivial⟩
                        · exact hL.edge n18
                      have n22 : L 9 lz6_laws_FnTurnShapes [(23, .v (.bool false)), (42, .v (.bool false)), (43, .v (.tuple #[])), (45, .v (.tuple #[]))] [.row false (.ints .u8 a0), .glob 0 (.ints .u8 tab0), .row true (.trips y_1), .box [.v (.int .i64 y), .sl 2], .row true (.ints .i64 y_2), .row true (.ints .i64 y_3), .row true (.trips y_6), .box [.v (.int .i64 y_5), .sl 6], .row true (.ints .i64 y_8), .row true (.ints .i64 y_10), .row true (.ints .i64 y_11)] := by
                        refine hL.step [(24, [], 8, lz5_laws_FnTurnShapes)] (by kernel_rfl) ⟨?_, trivial⟩
                        · exact hL.edge n18
                      have n16 : L 10 lz20_laws_FnTurnShapes [(3, .pp 3 0), (23, .v (.bool false)), (42, .v (.bool false)), (43, .v (.tuple #[]))] [.row false (.ints .u8 a0), .glob 0 (.ints .u8 tab0), .row true (.trips y_1), .box [.v (.int .i64 y), .sl 2], .row true (.ints .i64 y_2), .row true (.ints .i64 y_3), .row true (.trips y_6), .box [.v (.int .i64 y_5), .sl 6], .row true (.ints .i64 y_8), .row true (.ints .i64 y_10), .row true (.ints .i64 y_11)] := by
                        refine hL.step [(24, [], 9, lz19_laws_FnTurnShapes), (25, [], 9, lz6_laws_FnTurnShapes)] (by kernel_rfl) ⟨?_, ?_, trivial⟩
                        · exact hL.edge n17
                        · exact hL.edge n22
                      have n23 : L 10 lz21_laws_FnTurnShapes [(5, .pp 7 0), (23, .v (.bool false)), (42, .v (.bool false)), (45, .v (.tuple #[]))] [.row false (.ints .u8 a0), .glob 0 (.ints .u8 tab0), .row true (.trips y_1), .box [.v (.int .i64 y), .sl 2], .row true (.ints .i64 y_2), .row true (.ints .i64 y_3), .row true (.trips y_6), .box [.v (.int .i64 y_5), .sl 6], .row true (.ints .i64 y_8), .row true (.ints .i64 y_10), .row true (.ints .i64 y_11)] := by
                        refine hL.step [(23, [], 9, lz6_laws_FnTurnShapes)] (by kernel_rfl) ⟨?_, trivial⟩
                        · exact hL.edge n22
                      have n15 : L 11 lz22_laws_FnTurnShapes [(3, .pp 3 0), (5, .pp 7 0), (23, .v (.bool false)), (42, .v (.bool false))] [.row false (.ints .u8 a0), .glob 0 (.ints .u8 tab0), .row true (.trips y_1), .box [.v (.int .i64 y), .sl 2], .row true (.ints .i64 y_2), .row true (.ints .i64 y_3), .row true (.trips y_6), .box [.v (.int .i64 y_5), .sl 6], .row true (.ints .i64 y_8), .row true (.ints .i64 y_10), .row true (.ints .i64 y_11)] := by
                        refine hL.step [(23, [], 10, lz20_laws_FnTurnShapes), (25, [], 10, lz21_laws_FnTurnShapes)] (by kernel_rfl) ⟨?_, ?_, trivial⟩
                        · exact hL.edge n16
                        · exact hL.edge n23
                      have n14 : L 14 lz8_laws_FnTurnShapes [(3, .pp 3 0), (5, .pp 7 0), (23, .v (.bool false)), (35, .v (.bool false)), (37, .v (.tuple #[])), (39, .v (.tuple #[]))] [.row false (.ints .u8 a0), .glob 0 (.ints .u8 tab0), .row true (.trips y_1), .box [.v (.int .i64 y), .sl 2], .row true (.ints .i64 y_2), .row true (.ints .i64 y_3), .row true (.trips y_6), .box [.v (.int .i64 y_5), .sl 6], .row true (.ints .i64 y_8), .row true (.ints .i64 y_10), .row true (.ints .i64 y_11)] := by
                        refine hL.step [(20, [21, 22], 11, lz22_laws_FnTurnShapes)] (by kernel_rfl) ⟨?_, trivial⟩
                        · exact hL.edge n15
                      have n13 : L 15 lz9_laws_FnTurnShapes [(3, .pp 3 0), (5, .pp 7 0), (23, .v (.bool false)), (35, .v (.bool false)), (37, .v (.tuple #[])), (38, .v (.tuple #[]))] [.row false (.ints .u8 a0), .glob 0 (.ints .u8 tab0), .row true (.trips y_1), .box [.v (.int .i64 y), .sl 2], .row true (.ints .i64 y_2), .row true (.ints .i64 y_3), .row true (.trips y_6), .box [.v (.int .i64 y_5), .sl 6], .row true (.ints .i64 y_8), .row true (.ints .i64 y_10), .row true (.ints .i64 y_11)] := by
                        refine hL.step [(19, [], 14, lz8_laws_FnTurnShapes)] (by kernel_rfl) ⟨?_, trivial⟩
                        · exact hL.edge n14
                      have n12 : L 16 lz23_laws_FnTurnShapes [(3, .pp 3 0), (5, .pp 7 0), (23, .v (.bool false)), (35, .v (.bool false)), (37, .v (.tuple #[]))] [.row false (.ints .u8 a0), .glob 0 (.ints .u8 tab0), .row true (.trips y_1), .box [.v (.int .i64 y), .sl 2], .row true (.ints .i64 y_2), .row true (.ints .i64 y_3), .row true (.trips y_6), .box [.v (.int .i64 y_5), .sl 6], .row true (.ints .i64 y_8), .row true (.ints .i64 y_10), .row true (.ints .i64 y_11)] := by
                        refine hL.step [(18, [], 15, lz9_laws_FnTurnShapes)] (by kernel_rfl) ⟨?_, trivial⟩
                        · exact hL.edge n13
                      have n24 : L 16 lz10_laws_FnTurnShapes [(3, .pp 3 0), (5, .pp 7 0), (23, .v (.bool false)), (35, .v (.bool false)), (36, .v (.tuple #[])), (38, .v (.tuple #[]))] [.row false (.ints .u8 a0), .glob 0 (.ints .u8 tab0), .row true (.trips y_1), .box [.v (.int .i64 y), .sl 2], .row true (.ints .i64 y_2), .row true (.ints .i64 y_3), .row true (.trips y_6), .box [.v (.int .i64 y_5), .sl 6], .row true (.ints .i64 y_8), .row true (.ints .i64 y_10), .row true (.ints .i64 y_11)] := by
                        refine hL.step [(17, [], 15, lz9_laws_FnTurnShapes)] (by kernel_rfl) ⟨?_, trivial⟩
                        · exact hL.edge n13
                      have n11 : L 17 lz24_laws_FnTurnShapes [(3, .pp 3 0), (5, .pp 7 0), (23, .v (.bool false)), (35, .v (.bool false)), (36, .v (.tuple #[]))] [.row false (.ints .u8 a0), .glob 0 (.ints .u8 tab0), .row true (.trips y_1), .box [.v (.int .i64 y), .sl 2], .row true (.ints .i64 y_2), .row true (.ints .i64 y_3), .row true (.trips y_6), .box [.v (.int .i64 y_5), .sl 6], .row true (.ints .i64 y_8), .row true (.ints .i64 y_10), .row true (.ints .i64 y_11)] := by
                        refine hL.step [(17, [], 16, lz23_laws_FnTurnShapes), (18, [], 16, lz10_laws_FnTurnShapes)] (by kernel_rfl) ⟨?_, ?_, trivial⟩
                        · exact hL.edge n12
                        · exact hL.edge n24
                      have n25 : L 17 lz25_laws_FnTurnShapes [(3, .pp 3 0), (5, .pp 7 0), (23, .v (.bool false)), (35, .v (.bool false)), (38, .v (.tuple #[]))] [.row false (.ints .u8 a0), .glob 0 (.ints .u8 tab0), .row true (.trips y_1), .box [.v (.int .i64 y), .sl 2], .row true (.ints .i64 y_2), .row true (.ints .i64 y_3), .row true (.trips y_6), .box [.v (.int .i64 y_5), .sl 6], .row true (.ints .i64 y_8), .row true (.ints .i64 y_10), .row true (.ints .i64 y_11)] := by
                        refine hL.step [(16, [], 16, lz10_laws_FnTurnShapes)] (by kernel_rfl) ⟨?_, trivial⟩
                        · exact hL.edge n24
                      have n10 : L 18 lz26_laws_FnTurnShapes [(3, .pp 3 0), (5, .pp 7 0), (23, .v (.bool false)), (35, .v (.bool false))] [.row false (.ints .u8 a0), .glob 0 (.ints .u8 tab0), .row true (.trips y_1), .box [.v (.int .i64 y), .sl 2], .row true (.ints .i64 y_2), .row true (.ints .i64 y_3), .row true (.trips y_6), .box [.v (.int .i64 y_5), .sl 6], .row true (.ints .i64 y_8), .row true (.ints .i64 y_10), .row true (.ints .i64 y_11)] := by
                        refine hL.step [(16, [], 17, lz24_laws_FnTurnShapes), (18, [], 17, lz25_laws_FnTurnShapes)] (by kernel_rfl) ⟨?_, ?_, trivial⟩
                        · exact hL.edge n11
                        · exact hL.edge n25
                      have n9 : L 21 lz12_laws_FnTurnShapes [(3, .pp 3 0), (5, .pp 7 0), (23, .v (.bool false)), (28, .v (.bool true)), (30, .sl 9), (32, .sl 10)] [.row false (.ints .u8 a0), .glob 0 (.ints .u8 tab0), .row true (.trips y_1), .box [.v (.int .i64 y), .sl 2], .row true (.ints .i64 y_2), .row true (.ints .i64 y_3), .row true (.trips y_6), .box [.v (.int .i64 y_5), .sl 6], .row true (.ints .i64 y_8), .row true (.ints .i64 y_10), .row true (.ints .i64 y_11)] := by
                        refine hL.step [(13, [14, 15], 18, lz26_laws_FnTurnShapes)] (by kernel_rfl) ⟨?_, trivial⟩
                        · simp (maxSteps := 4000000) only [go_sem, Nat.reduceBEq, Nat.reduceLT, Nat.reduceAdd, Nat.reduceLeDiff, Nat.reduceSub, Nat.reduceEqDiff, Int.reduceToNat, reduceCtorEq, ↓reduceIte]
                          repeat' (first | refine And.intro ?_ ?_ | intro hg)
                          all_goals (try simp (disch := omega) only [wrap_fits])
                          all_goals first
                            | (refine hL.red ?_ n10; exact Red.auto)
                            | exact trivial
                            | assumption
                            | omega
                            | exact wrap_fits (by omega) (by omega)
                            | (refine OpK_callA (k_laws_sameInts y_10 y_11 (h := hr5)) [9, 10] [] ?_
                               rintro x Hc' ⟨rfl, rfl⟩ hlen
                               simp (maxSteps := 4000000) only [go_sem, Nat.reduceBEq, Nat.reduceLT, Nat.reduceAdd, Nat.reduceLeDiff, Nat.reduceSub, Nat.reduceEqDiff, Int.reduceToNat, reduceCtorEq, ↓reduceIte]
                               repeat' (first | refine And.intro ?_ ?_ | intro hg)
                               all_goals (try simp (disch := omega) only [wrap_fits])
                               all_goals first
                                 | (refine hL.red ?_ n10; exact Red.auto)
                                 | exact trivial
                                 | assumption
                                 | omega
                                 | exact wrap_fits (by omega) (by omega)
                                 | (simp_all; done)
                                 | (simp_all; omega))
                            | (simp (maxSteps := 4000000) only [go_sem, Nat.reduceBEq, Nat.reduceLT, Nat.reduceAdd, Nat.reduceLeDiff, Nat.reduceSub, Nat.reduceEqDiff, Int.reduceToNat, reduceCtorEq, ↓reduceIte]
                               repeat' (first | refine And.intro ?_ ?_ | intro hg)
                               all_goals (try simp (disch := omega) only [wrap_fits])
                               all_goals first | (refine hL.red ?_ n10; exact Red.auto) | exact trivial | assumption | omega | exact wrap_fits (by omega) (by omega))
                            | (simp_all; done)
                            | (simp_all; omega)
                      have n8 : L 22 lz13_laws_FnTurnShapes [(3, .pp 3 0), (5, .pp 7 0), (23, .v (.bool false)), (28, .v (.bool true)), (30, .sl 9), (31, .agg [.v (.int .i64 y), .sl 2])] [.row false (.ints .u8 a0), .glob 0 (.ints .u8 tab0), .row true (.trips y_1), .box [.v (.int .i64 y), .sl 2], .row true (.ints .i64 y_2), .row true (.ints .i64 y_3), .row true (.trips y_6), .box [.v (.int .i64 y_5), .sl 6], .row true (.ints .i64 y_8), .row true (.ints .i64 y_10)] := by
                        refine hL.step [(12, [], 21, lz12_laws_FnTurnShapes)] (by kernel_rfl) ⟨?_, trivial⟩
                        · simp (maxSteps := 4000000) only [go_sem, Nat.reduceBEq, Nat.reduceLT, Nat.reduceAdd, Nat.reduceLeDiff, Nat.reduceSub, Nat.reduceEqDiff, Int.reduceToNat, reduceCtorEq, ↓reduceIte]
                          repeat' (first | refine And.intro ?_ ?_ | intro hg)
                          all_goals (try simp (disch := omega) only [wrap_fits])
                          all_goals first
                            | (refine hL.red ?_ n9; exact Red.auto)
                            | exact trivial
                            | assumption
                            | omega
                            | exact wrap_fits (by omega) (by omega)
                            | (refine OpK_callA (k_impl_DegreesOf y y_1 (h := hr4)) [2] [] ?_
                               rintro x Hc' ⟨rfl, rfl⟩ hlen
                               simp (maxSteps := 4000000) only [go_sem, Nat.reduceBEq, Nat.reduceLT, Nat.reduceAdd, Nat.reduceLeDiff, Nat.reduceSub, Nat.reduceEqDiff, Int.reduceToNat, reduceCtorEq, ↓reduceIte]
                               repeat' (first | refine And.intro ?_ ?_ | intro hg)
                               all_goals (try simp (disch := omega) only [wrap_fits])
                               all_goals first
                                 | (refine hL.red ?_ n9; exact Red.auto)
                                 | exact trivial
                                 | assumption
                                 | omega
                                 | exact wrap_fits (by omega) (by omega)
                                 | (simp_all; done)
                                 | (simp_all; omega))
                            | (simp (maxSteps := 4000000) only [go_sem, Nat.reduceBEq, Nat.reduceLT, Nat.reduceAdd, Nat.reduceLeDiff, Nat.reduceSub, Nat.reduceEqDiff, Int.reduceToNat, reduceCtorEq, ↓reduceIte]
                               repeat' (first | refine And.intro ?_ ?_ | intro hg)
                               all_goals (try simp (disch := omega) only [wrap_fits])
                               all_goals first | (refine hL.red ?_ n9; exact Red.auto) | exact trivial | assumption | omega | exact wrap_fits (by omega) (by omega))
                            | (simp_all; done)
                            | (simp_all; omega)
                      have n7 : L 23 lz27_laws_FnTurnShapes [(3, .pp 3 0), (5, .pp 7 0), (23, .v (.bool false)), (28, .v (.bool true)), (30, .sl 9)] [.row false (.ints .u8 a0), .glob 0 (.ints .u8 tab0), .row true (.trips y_1), .box [.v (.int .i64 y), .sl 2], .row true (.ints .i64 y_2), .row true (.ints .i64 y_3), .row true (.trips y_6), .box [.v (.int .i64 y_5), .sl 6], .row true (.ints .i64 y_8), .row true (.ints .i64 y_10)] := by
                        refine hL.step [(11, [], 22, lz13_laws_FnTurnShapes)] (by kernel_rfl) ⟨?_, trivial⟩
                        · exact hL.edge n8
                      have n26 : L 23 lz14_laws_FnTurnShapes [(3, .pp 3 0), (5, .pp 7 0), (23, .v (.bool false)), (28, .v (.bool true)), (29, .agg [.v (.int .i64 y_5), .sl 6]), (31, .agg [.v (.int .i64 y), .sl 2])] [.row false (.ints .u8 a0), .glob 0 (.ints .u8 tab0), .row true (.trips y_1), .box [.v (.int .i64 y), .sl 2], .row true (.ints .i64 y_2), .row true (.ints .i64 y_3), .row true (.trips y_6), .box [.v (.int .i64 y_5), .sl 6], .row true (.ints .i64 y_8)] := by
                        refine hL.step [(10, [], 22, lz13_laws_FnTurnShapes)] (by kernel_rfl) ⟨?_, trivial⟩
                        · simp (maxSteps := 4000000) only [go_sem, Nat.reduceBEq, Nat.reduceLT, Nat.reduceAdd, Nat.reduceLeDiff, Nat.reduceSub, Nat.reduceEqDiff, Int.reduceToNat, reduceCtorEq, ↓reduceIte]
                          repeat' (first | refine And.intro ?_ ?_ | intro hg)
                          all_goals (try simp (disch := omega) only [wrap_fits])
                          all_goals first
                            | (refine hL.red ?_ n8; exact Red.auto)
                            | exact trivial
                            | assumption
                            | omega
                            | exact wrap_fits (by omega) (by omega)
                            | (refine OpK_callA (k_impl_DegreesOf y_5 y_6 (h := hr3)) [6] [] ?_
                               rintro x Hc' ⟨rfl, rfl⟩ hlen
                               simp (maxSteps := 4000000) only [go_sem, Nat.reduceBEq, Nat.reduceLT, Nat.reduceAdd, Nat.reduceLeDiff, Nat.reduceSub, Nat.reduceEqDiff, Int.reduceToNat, reduceCtorEq, ↓reduceIte]
                               repeat' (first | refine And.intro ?_ ?_ | intro hg)
                               all_goals (try simp (disch := omega) only [wrap_fits])
                               all_goals first
                                 | (refine hL.red ?_ n8; exact Red.auto)
                                 | exact trivial
                                 | assumption
                                 | omega
                                 | exact wrap_fits (by omega) (by omega)
                                 | (simp_all; done)
                                 | (simp_all; omega))
                            | (simp (maxSteps := 4000000) only [go_sem, Nat.reduceBEq, Nat.reduceLT, Nat.reduceAdd, Nat.reduceLeDiff, Nat.reduceSub, Nat.reduceEqDiff, Int.reduceToNat, reduceCtorEq, ↓reduceIte]
                               repeat' (first | refine And.intro ?_ ?_ | intro hg)
                               all_goals (try simp (disch := omega) only [wrap_fits])
                               all_goals first | (refine hL.red ?_ n8; exact Red.auto) | exact trivial | assumption | omega | exact wrap_fits (by omega) (by omega))
                            | (simp_all; done)
                            | (simp_all; omega)
                      have n6 : L 24 lz28_laws_FnTurnShapes [(3, .pp 3 0), (5, .pp 7 0), (23, .v (.bool false)), (28, .v (.bool true)), (29, .agg [.v (.int .i64 y_5), .sl 6])] [.row false (.ints .u8 a0), .glob 0 (.ints .u8 tab0), .row true (.trips y_1), .box [.v (.int .i64 y), .sl 2], .row true (.ints .i64 y_2), .row true (.ints .i64 y_3), .row true (.trips y_6), .box [.v (.int .i64 y_5), .sl 6], .row true (.ints .i64 y_8)] := by
                        refine hL.step [(10, [], 23, lz27_laws_FnTurnShapes), (11, [], 23, lz14_laws_FnTurnShapes)] (by kernel_rfl) ⟨?_, ?_, trivial⟩
                        · simp (maxSteps := 4000000) only [go_sem, Nat.reduceBEq, Nat.reduceLT, Nat.reduceAdd, Nat.reduceLeDiff, Nat.reduceSub, Nat.reduceEqDiff, Int.reduceToNat, reduceCtorEq, ↓reduceIte]
                          repeat' (first | refine And.intro ?_ ?_ | intro hg)
                          all_goals (try simp (disch := omega) only [wrap_fits])
                          all_goals first
                            | (refine hL.red ?_ n7; exact Red.auto)
                            | exact trivial
                            | assumption
                            | omega
                            | exact wrap_fits (by omega) (by omega)
                            | (refine OpK_callA (k_impl_DegreesOf y_5 y_6 (h := hr3)) [6] [] ?_
                               rintro x Hc' ⟨rfl, rfl⟩ hlen
                               simp (maxSteps := 4000000) only [go_sem, Nat.reduceBEq, Nat.reduceLT, Nat.reduceAdd, Nat.reduceLeDiff, Nat.reduceSub, Nat.reduceEqDiff, Int.reduceToNat, reduceCtorEq, ↓reduceIte]
                               repeat' (first | refine And.intro ?_ ?_ | intro hg)
                               all_goals (try simp (disch := omega) only [wrap_fits])
                               all_goals first
                                 | (refine hL.red ?_ n7; exact Red.auto)
                                 | exact trivial
                                 | assumption
                                 | omega
                                 | exact wrap_fits (by omega) (by omega)
                                 | (simp_all; done)
                                 | (simp_all; omega))
                            | (simp (maxSteps := 4000000) only [go_sem, Nat.reduceBEq, Nat.reduceLT, Nat.reduceAdd, Nat.reduceLeDiff, Nat.reduceSub, Nat.reduceEqDiff, Int.reduceToNat, reduceCtorEq, ↓reduceIte]
                               repeat' (first | refine And.intro ?_ ?_ | intro hg)
                               all_goals (try simp (disch := omega) only [wrap_fits])
                               all_goals first | (refine hL.red ?_ n7; exact Red.auto) | exact trivial | assumption | omega | exact wrap_fits (by omega) (by omega))
                            | (simp_all; done)
                            | (simp_all; omega)
                        · exact hL.edge n26
                      have n27 : L 24 lz29_laws_FnTurnShapes [(3, .pp 3 0), (5, .pp 7 0), (23, .v (.bool false)), (28, .v (.bool true)), (31, .agg [.v (.int .i64 y), .sl 2])] [.row false (.ints .u8 a0), .glob 0 (.ints .u8 tab0), .row true (.trips y_1), .box [.v (.int .i64 y), .sl 2], .row true (.ints .i64 y_2), .row true (.ints .i64 y_3), .row true (.trips y_6), .box [.v (.int .i64 y_5), .sl 6], .row true (.ints .i64 y_8)] := by
                        refine hL.step [(9, [], 23, lz14_laws_FnTurnShapes)] (by kernel_rfl) ⟨?_, trivial⟩
                        · exact hL.edge n26
                      have n5 : L 25 lz30_laws_FnTurnShapes [(3, .pp 3 0), (5, .pp 7 0), (23, .v (.bool false)), (28, .v (.bool true))] [.row false (.ints .u8 a0), .glob 0 (.ints .u8 tab0), .row true (.trips y_1), .box [.v (.int .i64 y), .sl 2], .row true (.ints .i64 y_2), .row true (.ints .i64 y_3), .row true (.trips y_6), .box [.v (.int .i64 y_5), .sl 6], .row true (.ints .i64 y_8)] := by
                        refine hL.step [(9, [], 24, lz28_laws_FnTurnShapes), (11, [], 24, lz29_laws_FnTurnShapes)] (by kernel_rfl) ⟨?_, ?_, trivial⟩
                        · exact hL.edge n6
                        · exact hL.edge n27
                      have n4 : L 27 lz15_laws_FnTurnShapes [(3, .pp 3 0), (5, .pp 7 0), (23, .v (.bool false)), (25, .sl 8), (26, .sl 4)] [.row false (.ints .u8 a0), .glob 0 (.ints .u8 tab0), .row true (.trips y_1), .box [.v (.int .i64 y), .sl 2], .row true (.ints .i64 y_2), .row true (.ints .i64 y_3), .row true (.trips y_6), .box [.v (.int .i64 y_5), .sl 6], .row true (.ints .i64 y_8)] := by
                        refine hL.step [(7, [8], 25, lz30_laws_FnTurnShapes)] (by kernel_rfl) ⟨?_, trivial⟩
                        · simp (maxSteps := 4000000) only [go_sem, Nat.reduceBEq, Nat.reduceLT, Nat.reduceAdd, Nat.reduceLeDiff, Nat.reduceSub, Nat.reduceEqDiff, Int.reduceToNat, reduceCtorEq, ↓reduceIte]
                          repeat' (first | refine And.intro ?_ ?_ | intro hg)
                          all_goals (try simp (disch := omega) only [wrap_fits])
                          all_goals first
                            | (refine hL.red ?_ n5; exact Red.auto)
                            | exact trivial
                            | assumption
                            | omega
                            | exact wrap_fits (by omega) (by omega)
                            | (refine OpK_callA (k_laws_sameInts y_8 y_2 (h := hr2)) [8, 4] [] ?_
                               rintro x Hc' ⟨rfl, rfl⟩ hlen
                               simp (maxSteps := 4000000) only [go_sem, Nat.reduceBEq, Nat.reduceLT, Nat.reduceAdd, Nat.reduceLeDiff, Nat.reduceSub, Nat.reduceEqDiff, Int.reduceToNat, reduceCtorEq, ↓reduceIte]
                               repeat' (first | refine And.intro ?_ ?_ | intro hg)
                               all_goals (try simp (disch := omega) only [wrap_fits])
                               all_goals first
                                 | (refine hL.red ?_ n5; exact Red.auto)
                                 | exact trivial
                                 | assumption
                                 | omega
                                 | exact wrap_fits (by omega) (by omega)
                                 | (simp_all; done)
                                 | (simp_all; omega))
                            | (simp (maxSteps := 4000000) only [go_sem, Nat.reduceBEq, Nat.reduceLT, Nat.reduceAdd, Nat.reduceLeDiff, Nat.reduceSub, Nat.reduceEqDiff, Int.reduceToNat, reduceCtorEq, ↓reduceIte]
                               repeat' (first | refine And.intro ?_ ?_ | intro hg)
                               all_goals (try simp (disch := omega) only [wrap_fits])
                               all_goals first | (refine hL.red ?_ n5; exact Red.auto) | exact trivial | assumption | omega | exact wrap_fits (by omega) (by omega))
                            | (simp_all; done)
                            | (simp_all; omega)
                      have n3 : L 28 lz16_laws_FnTurnShapes [(3, .pp 3 0), (5, .pp 7 0), (23, .v (.bool false)), (24, .agg [.v (.int .i64 y_5), .sl 6]), (26, .sl 4)] [.row false (.ints .u8 a0), .glob 0 (.ints .u8 tab0), .row true (.trips y_1), .box [.v (.int .i64 y), .sl 2], .row true (.ints .i64 y_2), .row true (.ints .i64 y_3), .row true (.trips y_6), .box [.v (.int .i64 y_5), .sl 6]] := by
                        refine hL.step [(5, [], 27, lz15_laws_FnTurnShapes)] (by kernel_rfl) ⟨?_, trivial⟩
                        · simp (maxSteps := 4000000) only [go_sem, Nat.reduceBEq, Nat.reduceLT, Nat.reduceAdd, Nat.reduceLeDiff, Nat.reduceSub, Nat.reduceEqDiff, Int.reduceToNat, reduceCtorEq, ↓reduceIte]
                          repeat' (first | refine And.intro ?_ ?_ | intro hg)
                          all_goals (try simp (disch := omega) only [wrap_fits])
                          all_goals first
                            | (refine hL.red ?_ n4; exact Red.auto)
                            | exact trivial
                            | assumption
                            | omega
                            | exact wrap_fits (by omega) (by omega)
                            | (refine OpK_callA (k_impl_CoresOf y_5 y_6 (h := hr1)) [6, 1] [] ?_
                               rintro x Hc' ⟨rfl, rfl⟩ hlen
                               simp (maxSteps := 4000000) only [go_sem, Nat.reduceBEq, Nat.reduceLT, Nat.reduceAdd, Nat.reduceLeDiff, Nat.reduceSub, Nat.reduceEqDiff, Int.reduceToNat, reduceCtorEq, ↓reduceIte]
                               repeat' (first | refine And.intro ?_ ?_ | intro hg)
                               all_goals (try simp (disch := omega) only [wrap_fits])
                               all_goals first
                                 | (refine hL.red ?_ n4; exact Red.auto)
                                 | exact trivial
                                 | assumption
                                 | omega
                                 | exact wrap_fits (by omega) (by omega)
                                 | (simp_all; done)
                                 | (simp_all; omega))
                            | (simp (maxSteps := 4000000) only [go_sem, Nat.reduceBEq, Nat.reduceLT, Nat.reduceAdd, Nat.reduceLeDiff, Nat.reduceSub, Nat.reduceEqDiff, Int.reduceToNat, reduceCtorEq, ↓reduceIte]
                               repeat' (first | refine And.intro ?_ ?_ | intro hg)
                               all_goals (try simp (disch := omega) only [wrap_fits])
                               all_goals first | (refine hL.red ?_ n4; exact Red.auto) | exact trivial | assumption | omega | exact wrap_fits (by omega) (by omega))
                            | (simp_all; done)
                            | (simp_all; omega)
                      have n2 : L 29 lz17_laws_FnTurnShapes [(3, .pp 3 0), (5, .pp 7 0), (23, .v (.bool false)), (26, .sl 4)] [.row false (.ints .u8 a0), .glob 0 (.ints .u8 tab0), .row true (.trips y_1), .box [.v (.int .i64 y), .sl 2], .row true (.ints .i64 y_2), .row true (.ints .i64 y_3), .row true (.trips y_6), .box [.v (.int .i64 y_5), .sl 6]] := by
                        refine hL.step [(4, [], 28, lz16_laws_FnTurnShapes)] (by kernel_rfl) ⟨?_, trivial⟩
                        · exact hL.edge n3
                      have n1 : L 33 lz18_laws_FnTurnShapes [(3, .pp 3 0), (4, .sl 4), (5, .pp 7 0), (20, .agg [.v (.int .i64 y), .sl 2])] [.row false (.ints .u8 a0), .glob 0 (.ints .u8 tab0), .row true (.trips y_1), .box [.v (.int .i64 y), .sl 2], .row true (.ints .i64 y_2), .row true (.ints .i64 y_3), .row true (.trips y_6), .box [.v (.int .i64 y_5), .sl 6]] := by
                        refine hL.step [(1, [2, 3, 6], 29, lz17_laws_FnTurnShapes)] (by kernel_rfl) ⟨?_, trivial⟩
                        · simp (maxSteps := 4000000) only [go_sem, Nat.reduceBEq, Nat.reduceLT, Nat.reduceAdd, Nat.reduceLeDiff, Nat.reduceSub, Nat.reduceEqDiff, Int.reduceToNat, reduceCtorEq, ↓reduceIte]
                          repeat' (first | refine And.intro ?_ ?_ | intro hg)
                          all_goals (try simp (disch := omega) only [wrap_fits])
                          all_goals first
                            | (refine hL.red ?_ n2; exact Red.auto)
                            | exact trivial
                            | assumption
                            | omega
                            | exact wrap_fits (by omega) (by omega)
                            | (refine OpK_callA (k_spec_GraphValid y y_1 (h := hr0)) [2] [] ?_
                               rintro x Hc' ⟨rfl, rfl⟩ hlen
                               simp (maxSteps := 4000000) only [go_sem, Nat.reduceBEq, Nat.reduceLT, Nat.reduceAdd, Nat.reduceLeDiff, Nat.reduceSub, Nat.reduceEqDiff, Int.reduceToNat, reduceCtorEq, ↓reduceIte]
                               repeat' (first | refine And.intro ?_ ?_ | intro hg)
                               all_goals (try simp (disch := omega) only [wrap_fits])
                               all_goals first
                                 | (refine hL.red ?_ n2; exact Red.auto)
                                 | exact trivial
                                 | assumption
                                 | omega
                                 | exact wrap_fits (by omega) (by omega)
                                 | (simp_all; done)
                                 | (simp_all; omega))
                            | (simp (maxSteps := 4000000) only [go_sem, Nat.reduceBEq, Nat.reduceLT, Nat.reduceAdd, Nat.reduceLeDiff, Nat.reduceSub, Nat.reduceEqDiff, Int.reduceToNat, reduceCtorEq, ↓reduceIte]
                               repeat' (first | refine And.intro ?_ ?_ | intro hg)
                               all_goals (try simp (disch := omega) only [wrap_fits])
                               all_goals first | (refine hL.red ?_ n2; exact Red.auto) | exact trivial | assumption | omega | exact wrap_fits (by omega) (by omega))
                            | (simp_all; done)
                            | (simp_all; omega)
                      have n0 : L 34 lz0_laws_FnTurnShapes [(3, .pp 3 0), (4, .sl 4), (5, .pp 7 0)] [.row false (.ints .u8 a0), .glob 0 (.ints .u8 tab0), .row true (.trips y_1), .box [.v (.int .i64 y), .sl 2], .row true (.ints .i64 y_2), .row true (.ints .i64 y_3), .row true (.trips y_6), .box [.v (.int .i64 y_5), .sl 6]] := by
                        refine hL.step [(0, [], 33, lz18_laws_FnTurnShapes)] (by kernel_rfl) ⟨?_, trivial⟩
                        · exact hL.edge n1
                      simp (maxSteps := 4000000) only [go_sem, Nat.reduceBEq, Nat.reduceLT, Nat.reduceAdd, Nat.reduceLeDiff, Nat.reduceSub, Nat.reduceEqDiff, Int.reduceToNat, reduceCtorEq, ↓reduceIte]
                      repeat' (first | refine And.intro ?_ ?_ | intro hg)
                      all_goals (try simp (disch := omega) only [wrap_fits])
                      all_goals first
                        | (refine hL.red ?_ n0; exact Red.auto)
                        | exact trivial
                        | assumption
                        | omega
                        | exact wrap_fits (by omega) (by omega)
                        | (simp (maxSteps := 4000000) only [go_sem, Nat.reduceBEq, Nat.reduceLT, Nat.reduceAdd, Nat.reduceLeDiff, Nat.reduceSub, Nat.reduceEqDiff, Int.reduceToNat, reduceCtorEq, ↓reduceIte]
                           repeat' (first | refine And.intro ?_ ?_ | intro hg)
                           all_goals (try simp (disch := omega) only [wrap_fits])
                           all_goals first | (refine hL.red ?_ n0; exact Red.auto) | exact trivial | assumption | omega | exact wrap_fits (by omega) (by omega))
                        | (simp_all; done)
                        | (simp_all; omega)
                    · clear hr0 hr1 hr2 hr3 hr4 hr5
                      refine awp_ret ?_
                      (try simp only [Thn, InBlk, ↓reduceIte, Nat.reduceEqDiff])
                      obtain rfl := Option.some.inj h
                      refine ⟨by simp, _, [0, 1], (by simp only [go_sem, Nat.reduceBEq, Nat.reduceLT, Nat.reduceAdd, Nat.reduceLeDiff, Nat.reduceSub, Nat.reduceEqDiff, Int.reduceToNat, reduceCtorEq, ↓reduceIte]; exact rfl), ?_, ?_, ?_, ?_⟩
                      · first | exact trivial | exact ⟨trivial, trivial⟩ | exact ⟨trivial, trivial, trivial⟩ | exact ⟨trivial, trivial, trivial, trivial⟩ | (simp only [allP, and_true, true_and]; done) | (simp only [allP, and_true, true_and]; omega)
                      · simp [selOk, pos]
                      · simp
                      · first | exact ⟨rfl, rfl⟩ | (simp only [go_sem, Nat.reduceBEq, Nat.reduceLT, Nat.reduceAdd, Nat.reduceLeDiff, Nat.reduceSub, Nat.reduceEqDiff, Int.reduceToNat, reduceCtorEq, ↓reduceIte]; done) | (simp [go_sem, Nat.reduceBEq, Nat.reduceLT, Nat.reduceAdd, Nat.reduceLeDiff, Nat.reduceSub, Nat.reduceEqDiff, Int.reduceToNat, reduceCtorEq, ↓reduceIte]; done) | (simp only [go_sem, Nat.reduceBEq, Nat.reduceLT, Nat.reduceAdd, Nat.reduceLeDiff, Nat.reduceSub, Nat.reduceEqDiff, Int.reduceToNat, reduceCtorEq, ↓reduceIte]; exact ⟨rfl, rfl⟩) | (simp_all [go_sem, Nat.reduceBEq, Nat.reduceLT, Nat.reduceAdd, Nat.reduceLeDiff, Nat.reduceSub, Nat.reduceEqDiff, Int.reduceToNat, reduceCtorEq, ↓reduceIte]; done)
                  · replace h := bite_t h rfl
                    replace h := bind_some h
                    obtain ⟨y_13, hr6, h⟩ := h
                    try dsimp only at h
                    replace h := bind_some h
                    obtain ⟨y_14, hr7, h⟩ := h
                    try dsimp only at h
                    replace h := bind_some h
                    obtain ⟨y_15, hr8, h⟩ := h
                    try dsimp only at h
                    cases y_15
                    · replace h := bite_f h rfl
                      refine awp_to [(2, .v (.bool false))] [.row false (.ints .u8 a0), .glob 0 (.ints .u8 tab0), .row true (.trips y_1), .box [.v (.int .i64 y), .sl 2], .row true (.ints .i64 y_2), .row true (.ints .i64 y_3), .row true (.trips y_6), .box [.v (.int .i64 y_5), .sl 6], .row true (.ints .i64 y_8), .row true (.ints .i64 y_10), .row true (.ints .i64 y_11), .row true (.ints .i64 y_13), .row true (.ints .i64 y_14)] ?_ ?_
                      · clear h
                        intro K hK
                        refine awp_drawL [0, 1, 2, 3, 4, 5, 6, 7] [] 34 lz0_laws_FnTurnShapes mixed ftCOk (by kernel_rfl) (by first | rfl | kernel_rfl) (by rfl) (by simp) fun L hL => ?_
                        have n21 : L 0 lz1_laws_FnTurnShapes [(2, .v (.bool false))] [.row false (.ints .u8 a0), .glob 0 (.ints .u8 tab0), .row true (.trips y_1), .box [.v (.int .i64 y), .sl 2], .row true (.ints .i64 y_2), .row true (.ints .i64 y_3), .row true (.trips y_6), .box [.v (.int .i64 y_5), .sl 6], .row true (.ints .i64 y_8), .row true (.ints .i64 y_10), .row true (.ints .i64 y_11), .row true (.ints .i64 y_13), .row true (.ints .i64 y_14)] := by
                          exact hL.fin (by kernel_rfl) (hK _ _ Red.auto)
                        have n20 : L 3 lz2_laws_FnTurnShapes [(50, .v (.bool false))] [.row false (.ints .u8 a0), .glob 0 (.ints .u8 tab0), .row true (.trips y_1), .box [.v (.int .i64 y), .sl 2], .row true (.ints .i64 y_2), .row true (.ints .i64 y_3), .row true (.trips y_6), .box [.v (.int .i64 y_5), .sl 6], .row true (.ints .i64 y_8), .row true (.ints .i64 y_10), .row true (.ints .i64 y_11), .row true (.ints .i64 y_13), .row true (.ints .i64 y_14)] := by
                          refine hL.step [(31, [32, 33], 0, lz1_laws_FnTurnShapes)] (by kernel_rfl) ⟨?_, trivial⟩
                          · exact hL.edge n21
                        have n19 : L 7 lz4_laws_FnTurnShapes [(23, .v (.bool false)), (42, .v (.bool false)), (44, .v (.tuple #[])), (46, .v (.tuple #[]))] [.row false (.ints .u8 a0), .glob 0 (.ints .u8 tab0), .row true (.trips y_1), .box [.v (.int .i64 y), .sl 2], .row true (.ints .i64 y_2), .row true (.ints .i64 y_3), .row true (.trips y_6), .box [.v (.int .i64 y_5), .sl 6], .row true (.ints .i64 y_8), .row true (.ints .i64 y_10), .row true (.ints .i64 y_11), .row true (.ints .i64 y_13), .row true (.ints .i64 y_14)] := by
                          refine hL.step [(27, [28, 29, 30], 3, lz2_laws_FnTurnShapes)] (by kernel_rfl) ⟨?_, trivial⟩
                          · exact hL.edge n20
                        have n18 : L 8 lz5_laws_FnTurnShapes [(23, .v (.bool false)), (42, .v (.bool false)), (44, .v (.tuple #[])), (45, .v (.tuple #[]))] [.row false (.ints .u8 a0), .glob 0 (.ints .u8 tab0), .row true (.trips y_1), .box [.v (.int .i64 y), .sl 2], .row true (.ints .i64 y_2), .row true (.ints .i64 y_3), .row true (.trips y_6), .box [.v (.int .i64 y_5), .sl 6], .row true (.ints .i64 y_8), .row true (.ints .i64 y_10), .row true (.ints .i64 y_11), .row true (.ints .i64 y_13), .row true (.ints .i64 y_14)] := by
                          refine hL.step [(26, [], 7, lz4_laws_FnTurnShapes)] (by kernel_rfl) ⟨?_, trivial⟩
                          · exact hL.edge n19
                        have n17 : L 9 lz19_laws_FnTurnShapes [(3, .pp 3 0), (23, .v (.bool false)), (42, .v (.bool false)), (44, .v (.tuple #[]))] [.row false (.ints .u8 a0), .glob 0 (.ints .u8 tab0), .row true (.trips y_1), .box [.v (.int .i64 y), .sl 2], .row true (.ints .i64 y_2), .row true (.ints .i64 y_3), .row true (.trips y_6), .box [.v (.int .i64 y_5), .sl 6], .row true (.ints .i64 y_8), .row true (.ints .i64 y_10), .row true (.ints .i64 y_11), .row true (.ints .i64 y_13), .row true (.ints .i64 y_14)] := by
                          refine hL.step [(25, [], 8, lz5_laws_FnTurnShapes)] (by kernel_rfl) ⟨?_, trivial⟩
                          · exact hL.edge n18
                        have n22 : L 9 lz6_laws_FnTurnShapes [(23, .v (.bool false)), (42, .v (.bool false)), (43, .v (.tuple #[])), (45, .v (.tuple #[]))] [.row false (.ints .u8 a0), .glob 0 (.ints .u8 tab0), .row true (.trips y_1), .box [.v (.int .i64 y), .sl 2], .row true (.ints .i64 y_2), .row true (.ints .i64 y_3), .row true (.trips y_6), .box [.v (.int .i64 y_5), .sl 6], .row true (.ints .i64 y_8), .row true (.ints .i64 y_10), .row true (.ints .i64 y_11), .row true (.ints .i64 y_13), .row true (.ints .i64 y_14)] := by
                          refine hL.step [(24, [], 8, lz5_laws_FnTurnShapes)] (by kernel_rfl) ⟨?_, trivial⟩
                          · exact hL.edge n18
                        have n16 : L 10 lz20_laws_FnTurnShapes [(3, .pp 3 0), (23, .v (.bool false)), (42, .v (.bool false)), (43, .v (.tuple #[]))] [.row false (.ints .u8 a0), .glob 0 (.ints .u8 tab0), .row true (.trips y_1), .box [.v (.int .i64 y), .sl 2], .row true (.ints .i64 y_2), .row true (.ints .i64 y_3), .row true (.trips y_6), .box [.v (.int .i64 y_5), .sl 6], .row true (.ints .i64 y_8), .row true (.ints .i64 y_10), .row true (.ints .i64 y_11), .row true (.ints .i64 y_13), .row true (.ints .i64 y_14)] := by
                          refine hL.step [(24, [], 9, lz19_laws_FnTurnShapes), (25, [], 9, lz6_laws_FnTurnShapes)] (by kernel_rfl) ⟨?_, ?_, trivial⟩
                          · exact hL.edge n17
                          · exact hL.edge n22
                        have n23 : L 10 lz21_laws_FnTurnShapes [(5, .pp 7 0), (23, .v (.bool false)), (42, .v (.bool false)), (45, .v (.tuple #[]))] [.row false (.ints .u8 a0), .glob 0 (.ints .u8 tab0), .row true (.trips y_1), .box [.v (.int .i64 y), .sl 2], .row true (.ints .i64 y_2), .row true (.ints .i64 y_3), .row true (.trips y_6), .box [.v (.int .i64 y_5), .sl 6], .row true (.ints .i64 y_8), .row true (.ints .i64 y_10), .row true (.ints .i64 y_11), .row true (.ints .i64 y_13), .row true (.ints .i64 y_14)] := by
                          refine hL.step [(23, [], 9, lz6_laws_FnTurnShapes)] (by kernel_rfl) ⟨?_, trivial⟩
                          · exact hL.edge n22
                        have n15 : L 11 lz22_laws_FnTurnShapes [(3, .pp 3 0), (5, .pp 7 0), (23, .v (.bool false)), (42, .v (.bool false))] [.row false (.ints .u8 a0), .glob 0 (.ints .u8 tab0), .row true (.trips y_1), .box [.v (.int .i64 y), .sl 2], .row true (.ints .i64 y_2), .row true (.ints .i64 y_3), .row true (.trips y_6), .box [.v (.int .i64 y_5), .sl 6], .row true (.ints .i64 y_8), .row true (.ints .i64 y_10), .row true (.ints .i64 y_11), .row true (.ints .i64 y_13), .row true (.ints .i64 y_14)] := by
                          refine hL.step [(23, [], 10, lz20_laws_FnTurnShapes), (25, [], 10, lz21_laws_FnTurnShapes)] (by kernel_rfl) ⟨?_, ?_, trivial⟩
                          · exact hL.edge n16
                          · exact hL.edge n23
                        have n14 : L 14 lz8_laws_FnTurnShapes [(3, .pp 3 0), (5, .pp 7 0), (23, .v (.bool false)), (35, .v (.bool true)), (37, .sl 11), (39, .sl 12)] [.row false (.ints .u8 a0), .glob 0 (.ints .u8 tab0), .row true (.trips y_1), .box [.v (.int .i64 y), .sl 2], .row true (.ints .i64 y_2), .row true (.ints .i64 y_3), .row true (.trips y_6), .box [.v (.int .i64 y_5), .sl 6], .row true (.ints .i64 y_8), .row true (.ints .i64 y_10), .row true (.ints .i64 y_11), .row true (.ints .i64 y_13), .row true (.ints .i64 y_14)] := by
                          refine hL.step [(20, [21, 22], 11, lz22_laws_FnTurnShapes)] (by kernel_rfl) ⟨?_, trivial⟩
                          · simp (maxSteps := 4000000) only [go_sem, Nat.reduceBEq, Nat.reduceLT, Nat.reduceAdd, Nat.reduceLeDiff, Nat.reduceSub, Nat.reduceEqDiff, Int.reduceToNat, reduceCtorEq, ↓reduceIte]
                            repeat' (first | refine And.intro ?_ ?_ | intro hg)
                            all_goals (try simp (disch := omega) only [wrap_fits])
                            all_goals first
                              | (refine hL.red ?_ n15; exact Red.auto)
                              | exact trivial
                              | assumption
                              | omega
                              | exact wrap_fits (by omega) (by omega)
                              | (refine OpK_callA (k_laws_sameInts y_13 y_14 (h := hr8)) [11, 12] [] ?_
                                 rintro x Hc' ⟨rfl, rfl⟩ hlen
                                 simp (maxSteps := 4000000) only [go_sem, Nat.reduceBEq, Nat.reduceLT, Nat.reduceAdd, Nat.reduceLeDiff, Nat.reduceSub, Nat.reduceEqDiff, Int.reduceToNat, reduceCtorEq, ↓reduceIte]
                                 repeat' (first | refine And.intro ?_ ?_ | intro hg)
                                 all_goals (try simp (disch := omega) only [wrap_fits])
                                 all_goals first
                                   | (refine hL.red ?_ n15; exact Red.auto)
                                   | exact trivial
                                   | assumption
                                   | omega
                                   | exact wrap_fits (by omega) (by omega)
                                   | (simp_all; done)
                                   | (simp_all; omega))
                              | (simp (maxSteps := 4000000) only [go_sem, Nat.reduceBEq, Nat.reduceLT, Nat.reduceAdd, Nat.reduceLeDiff, Nat.reduceSub, Nat.reduceEqDiff, Int.reduceToNat, reduceCtorEq, ↓reduceIte]
                                 repeat' (first | refine And.intro ?_ ?_ | intro hg)
                                 all_goals (try simp (disch := omega) only [wrap_fits])
                                 all_goals first | (refine hL.red ?_ n15; exact Red.auto) | exact trivial | assumption | omega | exact wrap_fits (by omega) (by omega))
                              | (simp_all; done)
                              | (simp_all; omega)
                        have n13 : L 15 lz9_laws_FnTurnShapes [(3, .pp 3 0), (5, .pp 7 0), (23, .v (.bool false)), (35, .v (.bool true)), (37, .sl 11), (38, .agg [.v (.int .i64 y), .sl 2])] [.row false (.ints .u8 a0), .glob 0 (.ints .u8 tab0), .row true (.trips y_1), .box [.v (.int .i64 y), .sl 2], .row true (.ints .i64 y_2), .row true (.ints .i64 y_3), .row true (.trips y_6), .box [.v (.int .i64 y_5), .sl 6], .row true (.ints .i64 y_8), .row true (.ints .i64 y_10), .row true (.ints .i64 y_11), .row true (.ints .i64 y_13)] := by
                          refine hL.step [(19, [], 14, lz8_laws_FnTurnShapes)] (by kernel_rfl) ⟨?_, trivial⟩
                          · simp (maxSteps := 4000000) only [go_sem, Nat.reduceBEq, Nat.reduceLT, Nat.reduceAdd, Nat.reduceLeDiff, Nat.reduceSub, Nat.reduceEqDiff, Int.reduceToNat, reduceCtorEq, ↓reduceIte]
                            repeat' (first | refine And.intro ?_ ?_ | intro hg)
                            all_goals (try simp (disch := omega) only [wrap_fits])
                            all_goals first
                              | (refine hL.red ?_ n14; exact Red.auto)
                              | exact trivial
                              | assumption
                              | omega
                              | exact wrap_fits (by omega) (by omega)
                              | (refine OpK_callA (k_impl_LeastInPart y y_1 (h := hr7)) [2, 1] [] ?_
                                 rintro x Hc' ⟨rfl, rfl⟩ hlen
                                 simp (maxSteps := 4000000) only [go_sem, Nat.reduceBEq, Nat.reduceLT, Nat.reduceAdd, Nat.reduceLeDiff, Nat.reduceSub, Nat.reduceEqDiff, Int.reduceToNat, reduceCtorEq, ↓reduceIte]
                                 repeat' (first | refine And.intro ?_ ?_ | intro hg)
                                 all_goals (try simp (disch := omega) only [wrap_fits])
                                 all_goals first
                                   | (refine hL.red ?_ n14; exact Red.auto)
                                   | exact trivial
                                   | assumption
                                   | omega
                                   | exact wrap_fits (by omega) (by omega)
                                   | (simp_all; done)
                                   | (simp_all; omega))
                              | (simp (maxSteps := 4000000) only [go_sem, Nat.reduceBEq, Nat.reduceLT, Nat.reduceAdd, Nat.reduceLeDiff, Nat.reduceSub, Nat.reduceEqDiff, Int.reduceToNat, reduceCtorEq, ↓reduceIte]
                                 repeat' (first | refine And.intro ?_ ?_ | intro hg)
                                 all_goals (try simp (disch := omega) only [wrap_fits])
                                 all_goals first | (refine hL.red ?_ n14; exact Red.auto) | exact trivial | assumption | omega | exact wrap_fits (by omega) (by omega))
                              | (simp_all; done)
                              | (simp_all; omega)
                        have n12 : L 16 lz23_laws_FnTurnShapes [(3, .pp 3 0), (5, .pp 7 0), (23, .v (.bool false)), (35, .v (.bool true)), (37, .sl 11)] [.row false (.ints .u8 a0), .glob 0 (.ints .u8 tab0), .row true (.trips y_1), .box [.v (.int .i64 y), .sl 2], .row true (.ints .i64 y_2), .row true (.ints .i64 y_3), .row true (.trips y_6), .box [.v (.int .i64 y_5), .sl 6], .row true (.ints .i64 y_8), .row true (.ints .i64 y_10), .row true (.ints .i64 y_11), .row true (.ints .i64 y_13)] := by
                          refine hL.step [(18, [], 15, lz9_laws_FnTurnShapes)] (by kernel_rfl) ⟨?_, trivial⟩
                          · exact hL.edge n13
                        have n24 : L 16 lz10_laws_FnTurnShapes [(3, .pp 3 0), (5, .pp 7 0), (23, .v (.bool false)), (35, .v (.bool true)), (36, .agg [.v (.int .i64 y_5), .sl 6]), (38, .agg [.v (.int .i64 y), .sl 2])] [.row false (.ints .u8 a0), .glob 0 (.ints .u8 tab0), .row true (.trips y_1), .box [.v (.int .i64 y), .sl 2], .row true (.ints .i64 y_2), .row true (.ints .i64 y_3), .row true (.trips y_6), .box [.v (.int .i64 y_5), .sl 6], .row true (.ints .i64 y_8), .row true (.ints .i64 y_10), .row true (.ints .i64 y_11)] := by
                          refine hL.step [(17, [], 15, lz9_laws_FnTurnShapes)] (by kernel_rfl) ⟨?_, trivial⟩
                          · simp (maxSteps := 4000000) only [go_sem, Nat.reduceBEq, Nat.reduceLT, Nat.reduceAdd, Nat.reduceLeDiff, Nat.reduceSub, Nat.reduceEqDiff, Int.reduceToNat, reduceCtorEq, ↓reduceIte]
                            repeat' (first | refine And.intro ?_ ?_ | intro hg)
                            all_goals (try simp (disch := omega) only [wrap_fits])
                            all_goals first
                              | (refine hL.red ?_ n13; exact Red.auto)
                              | exact trivial
                              | assumption
                              | omega
                              | exact wrap_fits (by omega) (by omega)
                              | (refine OpK_callA (k_impl_LeastInPart y_5 y_6 (h := hr6)) [6, 1] [] ?_
                                 rintro x Hc' ⟨rfl, rfl⟩ hlen
                                 simp (maxSteps := 4000000) only [go_sem, Nat.reduceBEq, Nat.reduceLT, Nat.reduceAdd, Nat.reduceLeDiff, Nat.reduceSub, Nat.reduceEqDiff, Int.reduceToNat, reduceCtorEq, ↓reduceIte]
                                 repeat' (first | refine And.intro ?_ ?_ | intro hg)
                                 all_goals (try simp (disch := omega) only [wrap_fits])
                                 all_goals first
                                   | (refine hL.red ?_ n13; exact Red.auto)
                                   | exact trivial
                                   | assumption
                                   | omega
                                   | exact wrap_fits (by omega) (by omega)
                                   | (simp_all; done)
                                   | (simp_all; omega))
                              | (simp (maxSteps := 4000000) only [go_sem, Nat.reduceBEq, Nat.reduceLT, Nat.reduceAdd, Nat.reduceLeDiff, Nat.reduceSub, Nat.reduceEqDiff, Int.reduceToNat, reduceCtorEq, ↓reduceIte]
                                 repeat' (first | refine And.intro ?_ ?_ | intro hg)
                                 all_goals (try simp (disch := omega) only [wrap_fits])
                                 all_goals first | (refine hL.red ?_ n13; exact Red.auto) | exact trivial | assumption | omega | exact wrap_fits (by omega) (by omega))
                              | (simp_all; done)
                              | (simp_all; omega)
                        have n11 : L 17 lz24_laws_FnTurnShapes [(3, .pp 3 0), (5, .pp 7 0), (23, .v (.bool false)), (35, .v (.bool true)), (36, .agg [.v (.int .i64 y_5), .sl 6])] [.row false (.ints .u8 a0), .glob 0 (.ints .u8 tab0), .row true (.trips y_1), .box [.v (.int .i64 y), .sl 2], .row true (.ints .i64 y_2), .row true (.ints .i64 y_3), .row true (.trips y_6), .box [.v (.int .i64 y_5), .sl 6], .row true (.ints .i64 y_8), .row true (.ints .i64 y_10), .row true (.ints .i64 y_11)] := by
                          refine hL.step [(17, [], 16, lz23_laws_FnTurnShapes), (18, [], 16, lz10_laws_FnTurnShapes)] (by kernel_rfl) ⟨?_, ?_, trivial⟩
                          · simp (maxSteps := 4000000) only [go_sem, Nat.reduceBEq, Nat.reduceLT, Nat.reduceAdd, Nat.reduceLeDiff, Nat.reduceSub, Nat.reduceEqDiff, Int.reduceToNat, reduceCtorEq, ↓reduceIte]
                            repeat' (first | refine And.intro ?_ ?_ | intro hg)
                            all_goals (try simp (disch := omega) only [wrap_fits])
                            all_goals first
                              | (refine hL.red ?_ n12; exact Red.auto)
                              | exact trivial
                              | assumption
                              | omega
                              | exact wrap_fits (by omega) (by omega)
                              | (refine OpK_callA (k_impl_LeastInPart y_5 y_6 (h := hr6)) [6, 1] [] ?_
                                 rintro x Hc' ⟨rfl, rfl⟩ hlen
                                 simp (maxSteps := 4000000) only [go_sem, Nat.reduceBEq, Nat.reduceLT, Nat.reduceAdd, Nat.reduceLeDiff, Nat.reduceSub, Nat.reduceEqDiff, Int.reduceToNat, reduceCtorEq, ↓reduceIte]
                                 repeat' (first | refine And.intro ?_ ?_ | intro hg)
                                 all_goals (try simp (disch := omega) only [wrap_fits])
                                 all_goals first
                                   | (refine hL.red ?_ n12; exact Red.auto)
                                   | exact trivial
                                   | assumption
                                   | omega
                                   | exact wrap_fits (by omega) (by omega)
                                   | (simp_all; done)
                                   | (simp_all; omega))
                              | (simp (maxSteps := 4000000) only [go_sem, Nat.reduceBEq, Nat.reduceLT, Nat.reduceAdd, Nat.reduceLeDiff, Nat.reduceSub, Nat.reduceEqDiff, Int.reduceToNat, reduceCtorEq, ↓reduceIte]
                                 repeat' (first | refine And.intro ?_ ?_ | intro hg)
                                 all_goals (try simp (disch := omega) only [wrap_fits])
                                 all_goals first | (refine hL.red ?_ n12; exact Red.auto) | exact trivial | assumption | omega | exact wrap_fits (by omega) (by omega))
                              | (simp_all; done)
                              | (simp_all; omega)
                          · exact hL.edge n24
                        have n25 : L 17 lz25_laws_FnTurnShapes [(3, .pp 3 0), (5, .pp 7 0), (23, .v (.bool false)), (35, .v (.bool true)), (38, .agg [.v (.int .i64 y), .sl 2])] [.row false (.ints .u8 a0), .glob 0 (.ints .u8 tab0), .row true (.trips y_1), .box [.v (.int .i64 y), .sl 2], .row true (.ints .i64 y_2), .row true (.ints .i64 y_3), .row true (.trips y_6), .box [.v (.int .i64 y_5), .sl 6], .row true (.ints .i64 y_8), .row true (.ints .i64 y_10), .row true (.ints .i64 y_11)] := by
                          refine hL.step [(16, [], 16, lz10_laws_FnTurnShapes)] (by kernel_rfl) ⟨?_, trivial⟩
                          · exact hL.edge n24
                        have n10 : L 18 lz26_laws_FnTurnShapes [(3, .pp 3 0), (5, .pp 7 0), (23, .v (.bool false)), (35, .v (.bool true))] [.row false (.ints .u8 a0), .glob 0 (.ints .u8 tab0), .row true (.trips y_1), .box [.v (.int .i64 y), .sl 2], .row true (.ints .i64 y_2), .row true (.ints .i64 y_3), .row true (.trips y_6), .box [.v (.int .i64 y_5), .sl 6], .row true (.ints .i64 y_8), .row true (.ints .i64 y_10), .row true (.ints .i64 y_11)] := by
                          refine hL.step [(16, [], 17, lz24_laws_FnTurnShapes), (18, [], 17, lz25_laws_FnTurnShapes)] (by kernel_rfl) ⟨?_, ?_, trivial⟩
                          · exact hL.edge n11
                          · exact hL.edge n25
                        have n9 : L 21 lz12_laws_FnTurnShapes [(3, .pp 3 0), (5, .pp 7 0), (23, .v (.bool false)), (28, .v (.bool true)), (30, .sl 9), (32, .sl 10)] [.row false (.ints .u8 a0), .glob 0 (.ints .u8 tab0), .row true (.trips y_1), .box [.v (.int .i64 y), .sl 2], .row true (.ints .i64 y_2), .row true (.ints .i64 y_3), .row true (.trips y_6), .box [.v (.int .i64 y_5), .sl 6], .row true (.ints .i64 y_8), .row true (.ints .i64 y_10), .row true (.ints .i64 y_11)] := by
                          refine hL.step [(13, [14, 15], 18, lz26_laws_FnTurnShapes)] (by kernel_rfl) ⟨?_, trivial⟩
                          · simp (maxSteps := 4000000) only [go_sem, Nat.reduceBEq, Nat.reduceLT, Nat.reduceAdd, Nat.reduceLeDiff, Nat.reduceSub, Nat.reduceEqDiff, Int.reduceToNat, reduceCtorEq, ↓reduceIte]
                            repeat' (first | refine And.intro ?_ ?_ | intro hg)
                            all_goals (try simp (disch := omega) only [wrap_fits])
                            all_goals first
                              | (refine hL.red ?_ n10; exact Red.auto)
                              | exact trivial
                              | assumption
                              | omega
                              | exact wrap_fits (by omega) (by omega)
                              | (refine OpK_callA (k_laws_sameInts y_10 y_11 (h := hr5)) [9, 10] [] ?_
                                 rintro x Hc' ⟨rfl, rfl⟩ hlen
                                 simp (maxSteps := 4000000) only [go_sem, Nat.reduceBEq, Nat.reduceLT, Nat.reduceAdd, Nat.reduceLeDiff, Nat.reduceSub, Nat.reduceEqDiff, Int.reduceToNat, reduceCtorEq, ↓reduceIte]
                                 repeat' (first | refine And.intro ?_ ?_ | intro hg)
                                 all_goals (try simp (disch := omega) only [wrap_fits])
                                 all_goals first
                                   | (refine hL.red ?_ n10; exact Red.auto)
                                   | exact trivial
                                   | assumption
                                   | omega
                                   | exact wrap_fits (by omega) (by omega)
                                   | (simp_all; done)
                                   | (simp_all; omega))
                              | (simp (maxSteps := 4000000) only [go_sem, Nat.reduceBEq, Nat.reduceLT, Nat.reduceAdd, Nat.reduceLeDiff, Nat.reduceSub, Nat.reduceEqDiff, Int.reduceToNat, reduceCtorEq, ↓reduceIte]
                                 repeat' (first | refine And.intro ?_ ?_ | intro hg)
                                 all_goals (try simp (disch := omega) only [wrap_fits])
                                 all_goals first | (refine hL.red ?_ n10; exact Red.auto) | exact trivial | assumption | omega | exact wrap_fits (by omega) (by omega))
                              | (simp_all; done)
                              | (simp_all; omega)
                        have n8 : L 22 lz13_laws_FnTurnShapes [(3, .pp 3 0), (5, .pp 7 0), (23, .v (.bool false)), (28, .v (.bool true)), (30, .sl 9), (31, .agg [.v (.int .i64 y), .sl 2])] [.row false (.ints .u8 a0), .glob 0 (.ints .u8 tab0), .row true (.trips y_1), .box [.v (.int .i64 y), .sl 2], .row true (.ints .i64 y_2), .row true (.ints .i64 y_3), .row true (.trips y_6), .box [.v (.int .i64 y_5), .sl 6], .row true (.ints .i64 y_8), .row true (.ints .i64 y_10)] := by
                          refine hL.step [(12, [], 21, lz12_laws_FnTurnShapes)] (by kernel_rfl) ⟨?_, trivial⟩
                          · simp (maxSteps := 4000000) only [go_sem, Nat.reduceBEq, Nat.reduceLT, Nat.reduceAdd, Nat.reduceLeDiff, Nat.reduceSub, Nat.reduceEqDiff, Int.reduceToNat, reduceCtorEq, ↓reduceIte]
                            repeat' (first | refine And.intro ?_ ?_ | intro hg)
                            all_goals (try simp (disch := omega) only [wrap_fits])
                            all_goals first
                              | (refine hL.red ?_ n9; exact Red.auto)
                              | exact trivial
                              | assumption
                              | omega
                              | exact wrap_fits (by omega) (by omega)
                              | (refine OpK_callA (k_impl_DegreesOf y y_1 (h := hr4)) [2] [] ?_
                                 rintro x Hc' ⟨rfl, rfl⟩ hlen
                                 simp (maxSteps := 4000000) only [go_sem, Nat.reduceBEq, Nat.reduceLT, Nat.reduceAdd, Nat.reduceLeDiff, Nat.reduceSub, Nat.reduceEqDiff, Int.reduceToNat, reduceCtorEq, ↓reduceIte]
                                 repeat' (first | refine And.intro ?_ ?_ | intro hg)
                                 all_goals (try simp (disch := omega) only [wrap_fits])
                                 all_goals first
                                   | (refine hL.red ?_ n9; exact Red.auto)
                                   | exact trivial
                                   | assumption
                                   | omega
                                   | exact wrap_fits (by omega) (by omega)
                                   | (simp_all; done)
                                   | (simp_all; omega))
                              | (simp (maxSteps := 4000000) only [go_sem, Nat.reduceBEq, Nat.reduceLT, Nat.reduceAdd, Nat.reduceLeDiff, Nat.reduceSub, Nat.reduceEqDiff, Int.reduceToNat, reduceCtorEq, ↓reduceIte]
                                 repeat' (first | refine And.intro ?_ ?_ | intro hg)
                                 all_goals (try simp (disch := omega) only [wrap_fits])
                                 all_goals first | (refine hL.red ?_ n9; exact Red.auto) | exact trivial | assumption | omega | exact wrap_fits (by omega) (by omega))
                              | (simp_all; done)
                              | (simp_all; omega)
                        have n7 : L 23 lz27_laws_FnTurnShapes [(3, .pp 3 0), (5, .pp 7 0), (23, .v (.bool false)), (28, .v (.bool true)), (30, .sl 9)] [.row false (.ints .u8 a0), .glob 0 (.ints .u8 tab0), .row true (.trips y_1), .box [.v (.int .i64 y), .sl 2], .row true (.ints .i64 y_2), .row true (.ints .i64 y_3), .row true (.trips y_6), .box [.v (.int .i64 y_5), .sl 6], .row true (.ints .i64 y_8), .row true (.ints .i64 y_10)] := by
                          refine hL.step [(11, [], 22, lz13_laws_FnTurnShapes)] (by kernel_rfl) ⟨?_, trivial⟩
                          · exact hL.edge n8
                        have n26 : L 23 lz14_laws_FnTurnShapes [(3, .pp 3 0), (5, .pp 7 0), (23, .v (.bool false)), (28, .v (.bool true)), (29, .agg [.v (.int .i64 y_5), .sl 6]), (31, .agg [.v (.int .i64 y), .sl 2])] [.row false (.ints .u8 a0), .glob 0 (.ints .u8 tab0), .row true (.trips y_1), .box [.v (.int .i64 y), .sl 2], .row true (.ints .i64 y_2), .row true (.ints .i64 y_3), .row true (.trips y_6), .box [.v (.int .i64 y_5), .sl 6], .row true (.ints .i64 y_8)] := by
                          refine hL.step [(10, [], 22, lz13_laws_FnTurnShapes)] (by kernel_rfl) ⟨?_, trivial⟩
                          · simp (maxSteps := 4000000) only [go_sem, Nat.reduceBEq, Nat.reduceLT, Nat.reduceAdd, Nat.reduceLeDiff, Nat.reduceSub, Nat.reduceEqDiff, Int.reduceToNat, reduceCtorEq, ↓reduceIte]
                            repeat' (first | refine And.intro ?_ ?_ | intro hg)
                            all_goals (try simp (disch := omega) only [wrap_fits])
                            all_goals first
                              | (refine hL.red ?_ n8; exact Red.auto)
                              | exact trivial
                              | assumption
                              | omega
                              | exact wrap_fits (by omega) (by omega)
                              | (refine OpK_callA (k_impl_DegreesOf y_5 y_6 (h := hr3)) [6] [] ?_
                                 rintro x Hc' ⟨rfl, rfl⟩ hlen
                                 simp (maxSteps := 4000000) only [go_sem, Nat.reduceBEq, Nat.reduceLT, Nat.reduceAdd, Nat.reduceLeDiff, Nat.reduceSub, Nat.reduceEqDiff, Int.reduceToNat, reduceCtorEq, ↓reduceIte]
                                 repeat' (first | refine And.intro ?_ ?_ | intro hg)
                                 all_goals (try simp (disch := omega) only [wrap_fits])
                                 all_goals first
                                   | (refine hL.red ?_ n8; exact Red.auto)
                                   | exact trivial
                                   | assumption
                                   | omega
                                   | exact wrap_fits (by omega) (by omega)
                                   | (simp_all; done)
                                   | (simp_all; omega))
                              | (simp (maxSteps := 4000000) only [go_sem, Nat.reduceBEq, Nat.reduceLT, Nat.reduceAdd, Nat.reduceLeDiff, Nat.reduceSub, Nat.reduceEqDiff, Int.reduceToNat, reduceCtorEq, ↓reduceIte]
                                 repeat' (first | refine And.intro ?_ ?_ | intro hg)
                                 all_goals (try simp (disch := omega) only [wrap_fits])
                                 all_goals first | (refine hL.red ?_ n8; exact Red.auto) | exact trivial | assumption | omega | exact wrap_fits (by omega) (by omega))
                              | (simp_all; done)
                              | (simp_all; omega)
                        have n6 : L 24 lz28_laws_FnTurnShapes [(3, .pp 3 0), (5, .pp 7 0), (23, .v (.bool false)), (28, .v (.bool true)), (29, .agg [.v (.int .i64 y_5), .sl 6])] [.row false (.ints .u8 a0), .glob 0 (.ints .u8 tab0), .row true (.trips y_1), .box [.v (.int .i64 y), .sl 2], .row true (.ints .i64 y_2), .row true (.ints .i64 y_3), .row true (.trips y_6), .box [.v (.int .i64 y_5), .sl 6], .row true (.ints .i64 y_8)] := by
                          refine hL.step [(10, [], 23, lz27_laws_FnTurnShapes), (11, [], 23, lz14_laws_FnTurnShapes)] (by kernel_rfl) ⟨?_, ?_, trivial⟩
                          · simp (maxSteps := 4000000) only [go_sem, Nat.reduceBEq, Nat.reduceLT, Nat.reduceAdd, Nat.reduceLeDiff, Nat.reduceSub, Nat.reduceEqDiff, Int.reduceToNat, reduceCtorEq, ↓reduceIte]
                            repeat' (first | refine And.intro ?_ ?_ | intro hg)
                            all_goals (try simp (disch := omega) only [wrap_fits])
                            all_goals first
                              | (refine hL.red ?_ n7; exact Red.auto)
                              | exact trivial
                              | assumption
                              | omega
                              | exact wrap_fits (by omega) (by omega)
                              | (refine OpK_callA (k_impl_DegreesOf y_5 y_6 (h := hr3)) [6] [] ?_
                                 rintro x Hc' ⟨rfl, rfl⟩ hlen
                                 simp (maxSteps := 4000000) only [go_sem, Nat.reduceBEq, Nat.reduceLT, Nat.reduceAdd, Nat.reduceLeDiff, Nat.reduceSub, Nat.reduceEqDiff, Int.reduceToNat, reduceCtorEq, ↓reduceIte]
                                 repeat' (first | refine And.intro ?_ ?_ | intro hg)
                                 all_goals (try simp (disch := omega) only [wrap_fits])
                                 all_goals first
                                   | (refine hL.red ?_ n7; exact Red.auto)
                                   | exact trivial
                                   | assumption
                                   | omega
                                   | exact wrap_fits (by omega) (by omega)
                                   | (simp_all; done)
                                   | (simp_all; omega))
                              | (simp (maxSteps := 4000000) only [go_sem, Nat.reduceBEq, Nat.reduceLT, Nat.reduceAdd, Nat.reduceLeDiff, Nat.reduceSub, Nat.reduceEqDiff, Int.reduceToNat, reduceCtorEq, ↓reduceIte]
                                 repeat' (first | refine And.intro ?_ ?_ | intro hg)
                                 all_goals (try simp (disch := omega) only [wrap_fits])
                                 all_goals first | (refine hL.red ?_ n7; exact Red.auto) | exact trivial | assumption | omega | exact wrap_fits (by omega) (by omega))
                              | (simp_all; done)
                              | (simp_all; omega)
                          · exact hL.edge n26
                        have n27 : L 24 lz29_laws_FnTurnShapes [(3, .pp 3 0), (5, .pp 7 0), (23, .v (.bool false)), (28, .v (.bool true)), (31, .agg [.v (.int .i64 y), .sl 2])] [.row false (.ints .u8 a0), .glob 0 (.ints .u8 tab0), .row true (.trips y_1), .box [.v (.int .i64 y), .sl 2], .row true (.ints .i64 y_2), .row true (.ints .i64 y_3), .row true (.trips y_6), .box [.v (.int .i64 y_5), .sl 6], .row true (.ints .i64 y_8)] := by
                          refine hL.step [(9, [], 23, lz14_laws_FnTurnShapes)] (by kernel_rfl) ⟨?_, trivial⟩
                          · exact hL.edge n26
                        have n5 : L 25 lz30_laws_FnTurnShapes [(3, .pp 3 0), (5, .pp 7 0), (23, .v (.bool false)), (28, .v (.bool true))] [.row false (.ints .u8 a0), .glob 0 (.ints .u8 tab0), .row true (.trips y_1), .box [.v (.int .i64 y), .sl 2], .row true (.ints .i64 y_2), .row true (.ints .i64 y_3), .row true (.trips y_6), .box [.v (.int .i64 y_5), .sl 6], .row true (.ints .i64 y_8)] := by
                          refine hL.step [(9, [], 24, lz28_laws_FnTurnShapes), (11, [], 24, lz29_laws_FnTurnShapes)] (by kernel_rfl) ⟨?_, ?_, trivial⟩
                          · exact hL.edge n6
                          · exact hL.edge n27
                        have n4 : L 27 lz15_laws_FnTurnShapes [(3, .pp 3 0), (5, .pp 7 0), (23, .v (.bool false)), (25, .sl 8), (26, .sl 4)] [.row false (.ints .u8 a0), .glob 0 (.ints .u8 tab0), .row true (.trips y_1), .box [.v (.int .i64 y), .sl 2], .row true (.ints .i64 y_2), .row true (.ints .i64 y_3), .row true (.trips y_6), .box [.v (.int .i64 y_5), .sl 6], .row true (.ints .i64 y_8)] := by
                          refine hL.step [(7, [8], 25, lz30_laws_FnTurnShapes)] (by kernel_rfl) ⟨?_, trivial⟩
                          · simp (maxSteps := 4000000) only [go_sem, Nat.reduceBEq, Nat.reduceLT, Nat.reduceAdd, Nat.reduceLeDiff, Nat.reduceSub, Nat.reduceEqDiff, Int.reduceToNat, reduceCtorEq, ↓reduceIte]
                            repeat' (first | refine And.intro ?_ ?_ | intro hg)
                            all_goals (try simp (disch := omega) only [wrap_fits])
                            all_goals first
                              | (refine hL.red ?_ n5; exact Red.auto)
                              | exact trivial
                              | assumption
                              | omega
                              | exact wrap_fits (by omega) (by omega)
                              | (refine OpK_callA (k_laws_sameInts y_8 y_2 (h := hr2)) [8, 4] [] ?_
                                 rintro x Hc' ⟨rfl, rfl⟩ hlen
                                 simp (maxSteps := 4000000) only [go_sem, Nat.reduceBEq, Nat.reduceLT, Nat.reduceAdd, Nat.reduceLeDiff, Nat.reduceSub, Nat.reduceEqDiff, Int.reduceToNat, reduceCtorEq, ↓reduceIte]
                                 repeat' (first | refine And.intro ?_ ?_ | intro hg)
                                 all_goals (try simp (disch := omega) only [wrap_fits])
                                 all_goals first
                                   | (refine hL.red ?_ n5; exact Red.auto)
                                   | exact trivial
                                   | assumption
                                   | omega
                                   | exact wrap_fits (by omega) (by omega)
                                   | (simp_all; done)
                                   | (simp_all; omega))
                              | (simp (maxSteps := 4000000) only [go_sem, Nat.reduceBEq, Nat.reduceLT, Nat.reduceAdd, Nat.reduceLeDiff, Nat.reduceSub, Nat.reduceEqDiff, Int.reduceToNat, reduceCtorEq, ↓reduceIte]
                                 repeat' (first | refine And.intro ?_ ?_ | intro hg)
                                 all_goals (try simp (disch := omega) only [wrap_fits])
                                 all_goals first | (refine hL.red ?_ n5; exact Red.auto) | exact trivial | assumption | omega | exact wrap_fits (by omega) (by omega))
                              | (simp_all; done)
                              | (simp_all; omega)
                        have n3 : L 28 lz16_laws_FnTurnShapes [(3, .pp 3 0), (5, .pp 7 0), (23, .v (.bool false)), (24, .agg [.v (.int .i64 y_5), .sl 6]), (26, .sl 4)] [.row false (.ints .u8 a0), .glob 0 (.ints .u8 tab0), .row true (.trips y_1), .box [.v (.int .i64 y), .sl 2], .row true (.ints .i64 y_2), .row true (.ints .i64 y_3), .row true (.trips y_6), .box [.v (.int .i64 y_5), .sl 6]] := by
                          refine hL.step [(5, [], 27, lz15_laws_FnTurnShapes)] (by kernel_rfl) ⟨?_, trivial⟩
                          · simp (maxSteps := 4000000) only [go_sem, Nat.reduceBEq, Nat.reduceLT, Nat.reduceAdd, Nat.reduceLeDiff, Nat.reduceSub, Nat.reduceEqDiff, Int.reduceToNat, reduceCtorEq, ↓reduceIte]
                            repeat' (first | refine And.intro ?_ ?_ | intro hg)
                            all_goals (try simp (disch := omega) only [wrap_fits])
                            all_goals first
                              | (refine hL.red ?_ n4; exact Red.auto)
                              | exact trivial
                              | assumption
                              | omega
                              | exact wrap_fits (by omega) (by omega)
                              | (refine OpK_callA (k_impl_CoresOf y_5 y_6 (h := hr1)) [6, 1] [] ?_
                                 rintro x Hc' ⟨rfl, rfl⟩ hlen
                                 simp (maxSteps := 4000000) only [go_sem, Nat.reduceBEq, Nat.reduceLT, Nat.reduceAdd, Nat.reduceLeDiff, Nat.reduceSub, Nat.reduceEqDiff, Int.reduceToNat, reduceCtorEq, ↓reduceIte]
                                 repeat' (first | refine And.intro ?_ ?_ | intro hg)
                                 all_goals (try simp (disch := omega) only [wrap_fits])
                                 all_goals first
                                   | (refine hL.red ?_ n4; exact Red.auto)
                                   | exact trivial
                                   | assumption
                                   | omega
                                   | exact wrap_fits (by omega) (by omega)
                                   | (simp_all; done)
                                   | (simp_all; omega))
                              | (simp (maxSteps := 4000000) only [go_sem, Nat.reduceBEq, Nat.reduceLT, Nat.reduceAdd, Nat.reduceLeDiff, Nat.reduceSub, Nat.reduceEqDiff, Int.reduceToNat, reduceCtorEq, ↓reduceIte]
                                 repeat' (first | refine And.intro ?_ ?_ | intro hg)
                                 all_goals (try simp (disch := omega) only [wrap_fits])
                                 all_goals first | (refine hL.red ?_ n4; exact Red.auto) | exact trivial | assumption | omega | exact wrap_fits (by omega) (by omega))
                              | (simp_all; done)
                              | (simp_all; omega)
                        have n2 : L 29 lz17_laws_FnTurnShapes [(3, .pp 3 0), (5, .pp 7 0), (23, .v (.bool false)), (26, .sl 4)] [.row false (.ints .u8 a0), .glob 0 (.ints .u8 tab0), .row true (.trips y_1), .box [.v (.int .i64 y), .sl 2], .row true (.ints .i64 y_2), .row true (.ints .i64 y_3), .row true (.trips y_6), .box [.v (.int .i64 y_5), .sl 6]] := by
                          refine hL.step [(4, [], 28, lz16_laws_FnTurnShapes)] (by kernel_rfl) ⟨?_, trivial⟩
                          · exact hL.edge n3
                        have n1 : L 33 lz18_laws_FnTurnShapes [(3, .pp 3 0), (4, .sl 4), (5, .pp 7 0), (20, .agg [.v (.int .i64 y), .sl 2])] [.row false (.ints .u8 a0), .glob 0 (.ints .u8 tab0), .row true (.trips y_1), .box [.v (.int .i64 y), .sl 2], .row true (.ints .i64 y_2), .row true (.ints .i64 y_3), .row true (.trips y_6), .box [.v (.int .i64 y_5), .sl 6]] := by
                          refine hL.step [(1, [2, 3, 6], 29, lz17_laws_FnTurnShapes)] (by kernel_rfl) ⟨?_, trivial⟩
                          · simp (maxSteps := 4000000) only [go_sem, Nat.reduceBEq, Nat.reduceLT, Nat.reduceAdd, Nat.reduceLeDiff, Nat.reduceSub, Nat.reduceEqDiff, Int.reduceToNat, reduceCtorEq, ↓reduceIte]
                            repeat' (first | refine And.intro ?_ ?_ | intro hg)
                            all_goals (try simp (disch := omega) only [wrap_fits])
                            all_goals first
                              | (refine hL.red ?_ n2; exact Red.auto)
                              | exact trivial
                              | assumption
                              | omega
                              | exact wrap_fits (by omega) (by omega)
                              | (refine OpK_callA (k_spec_GraphValid y y_1 (h := hr0)) [2] [] ?_
                                 rintro x Hc' ⟨rfl, rfl⟩ hlen
                                 simp (maxSteps := 4000000) only [go_sem, Nat.reduceBEq, Nat.reduceLT, Nat.reduceAdd, Nat.reduceLeDiff, Nat.reduceSub, Nat.reduceEqDiff, Int.reduceToNat, reduceCtorEq, ↓reduceIte]
                                 repeat' (first | refine And.intro ?_ ?_ | intro hg)
                                 all_goals (try simp (disch := omega) only [wrap_fits])
                                 all_goals first
                                   | (refine hL.red ?_ n2; exact Red.auto)
                                   | exact trivial
                                   | assumption
                                   | omega
                                   | exact wrap_fits (by omega) (by omega)
                                   | (simp_all; done)
                                   | (simp_all; omega))
                              | (simp (maxSteps := 4000000) only [go_sem, Nat.reduceBEq, Nat.reduceLT, Nat.reduceAdd, Nat.reduceLeDiff, Nat.reduceSub, Nat.reduceEqDiff, Int.reduceToNat, reduceCtorEq, ↓reduceIte]
                                 repeat' (first | refine And.intro ?_ ?_ | intro hg)
                                 all_goals (try simp (disch := omega) only [wrap_fits])
                                 all_goals first | (refine hL.red ?_ n2; exact Red.auto) | exact trivial | assumption | omega | exact wrap_fits (by omega) (by omega))
                              | (simp_all; done)
                              | (simp_all; omega)
                        have n0 : L 34 lz0_laws_FnTurnShapes [(3, .pp 3 0), (4, .sl 4), (5, .pp 7 0)] [.row false (.ints .u8 a0), .glob 0 (.ints .u8 tab0), .row true (.trips y_1), .box [.v (.int .i64 y), .sl 2], .row true (.ints .i64 y_2), .row true (.ints .i64 y_3), .row true (.trips y_6), .box [.v (.int .i64 y_5), .sl 6]] := by
                          refine hL.step [(0, [], 33, lz18_laws_FnTurnShapes)] (by kernel_rfl) ⟨?_, trivial⟩
                          · exact hL.edge n1
                        simp (maxSteps := 4000000) only [go_sem, Nat.reduceBEq, Nat.reduceLT, Nat.reduceAdd, Nat.reduceLeDiff, Nat.reduceSub, Nat.reduceEqDiff, Int.reduceToNat, reduceCtorEq, ↓reduceIte]
                        repeat' (first | refine And.intro ?_ ?_ | intro hg)
                        all_goals (try simp (disch := omega) only [wrap_fits])
                        all_goals first
                          | (refine hL.red ?_ n0; exact Red.auto)
                          | exact trivial
                          | assumption
                          | omega
                          | exact wrap_fits (by omega) (by omega)
                          | (simp (maxSteps := 4000000) only [go_sem, Nat.reduceBEq, Nat.reduceLT, Nat.reduceAdd, Nat.reduceLeDiff, Nat.reduceSub, Nat.reduceEqDiff, Int.reduceToNat, reduceCtorEq, ↓reduceIte]
                             repeat' (first | refine And.intro ?_ ?_ | intro hg)
                             all_goals (try simp (disch := omega) only [wrap_fits])
                             all_goals first | (refine hL.red ?_ n0; exact Red.auto) | exact trivial | assumption | omega | exact wrap_fits (by omega) (by omega))
                          | (simp_all; done)
                          | (simp_all; omega)
                      · clear hr0 hr1 hr2 hr3 hr4 hr5 hr6 hr7 hr8
                        refine awp_ret ?_
                        (try simp only [Thn, InBlk, ↓reduceIte, Nat.reduceEqDiff])
                        obtain rfl := Option.some.inj h
                        refine ⟨by simp, _, [0, 1], (by simp only [go_sem, Nat.reduceBEq, Nat.reduceLT, Nat.reduceAdd, Nat.reduceLeDiff, Nat.reduceSub, Nat.reduceEqDiff, Int.reduceToNat, reduceCtorEq, ↓reduceIte]; exact rfl), ?_, ?_, ?_, ?_⟩
                        · first | exact trivial | exact ⟨trivial, trivial⟩ | exact ⟨trivial, trivial, trivial⟩ | exact ⟨trivial, trivial, trivial, trivial⟩ | (simp only [allP, and_true, true_and]; done) | (simp only [allP, and_true, true_and]; omega)
                        · simp [selOk, pos]
                        · simp
                        · first | exact ⟨rfl, rfl⟩ | (simp only [go_sem, Nat.reduceBEq, Nat.reduceLT, Nat.reduceAdd, Nat.reduceLeDiff, Nat.reduceSub, Nat.reduceEqDiff, Int.reduceToNat, reduceCtorEq, ↓reduceIte]; done) | (simp [go_sem, Nat.reduceBEq, Nat.reduceLT, Nat.reduceAdd, Nat.reduceLeDiff, Nat.reduceSub, Nat.reduceEqDiff, Int.reduceToNat, reduceCtorEq, ↓reduceIte]; done) | (simp only [go_sem, Nat.reduceBEq, Nat.reduceLT, Nat.reduceAdd, Nat.reduceLeDiff, Nat.reduceSub, Nat.reduceEqDiff, Int.reduceToNat, reduceCtorEq, ↓reduceIte]; exact ⟨rfl, rfl⟩) | (simp_all [go_sem, Nat.reduceBEq, Nat.reduceLT, Nat.reduceAdd, Nat.reduceLeDiff, Nat.reduceSub, Nat.reduceEqDiff, Int.reduceToNat, reduceCtorEq, ↓reduceIte]; done)
                    · replace h := bite_t h rfl
                      replace h := bind_some h
                      obtain ⟨y_16, hr9, h⟩ := h
                      try dsimp only at h
                      replace h := bind_some h
                      obtain ⟨y_17, hr10, h⟩ := h
                      try dsimp only at h
                      replace h := bind_some h
                      obtain ⟨y_18, hr11, h⟩ := h
                      try dsimp only at h
                      cases y_18
                      · replace h := bite_f h rfl
                        refine awp_to [(2, .v (.bool false))] [.row false (.ints .u8 a0), .glob 0 (.ints .u8 tab0), .row true (.trips y_1), .box [.v (.int .i64 y), .sl 2], .row true (.ints .i64 y_2), .row true (.ints .i64 y_3), .row true (.trips y_6), .box [.v (.int .i64 y_5), .sl 6], .row true (.ints .i64 y_8), .row true (.ints .i64 y_10), .row true (.ints .i64 y_11), .row true (.ints .i64 y_13), .row true (.ints .i64 y_14), .row true (.ints .i64 y_16), .row true (.ints .i64 y_17)] ?_ ?_
                        · clear h
                          intro K hK
                          refine awp_drawL [0, 1, 2, 3, 4, 5, 6, 7] [] 34 lz0_laws_FnTurnShapes mixed ftCOk (by kernel_rfl) (by first | rfl | kernel_rfl) (by rfl) (by simp) fun L hL => ?_
                          have n21 : L 0 lz1_laws_FnTurnShapes [(2, .v (.bool false))] [.row false (.ints .u8 a0), .glob 0 (.ints .u8 tab0), .row true (.trips y_1), .box [.v (.int .i64 y), .sl 2], .row true (.ints .i64 y_2), .row true (.ints .i64 y_3), .row true (.trips y_6), .box [.v (.int .i64 y_5), .sl 6], .row true (.ints .i64 y_8), .row true (.ints .i64 y_10), .row true (.ints .i64 y_11), .row true (.ints .i64 y_13), .row true (.ints .i64 y_14), .row true (.ints .i64 y_16), .row true (.ints .i64 y_17)] := by
                            exact hL.fin (by kernel_rfl) (hK _ _ Red.auto)
                          have n20 : L 3 lz2_laws_FnTurnShapes [(50, .v (.bool false))] [.row false (.ints .u8 a0), .glob 0 (.ints .u8 tab0), .row true (.trips y_1), .box [.v (.int .i64 y), .sl 2], .row true (.ints .i64 y_2), .row true (.ints .i64 y_3), .row true (.trips y_6), .box [.v (.int .i64 y_5), .sl 6], .row true (.ints .i64 y_8), .row true (.ints .i64 y_10), .row true (.ints .i64 y_11), .row true (.ints .i64 y_13), .row true (.ints .i64 y_14), .row true (.ints .i64 y_16), .row true (.ints .i64 y_17)] := by
                            refine hL.step [(31, [32, 33], 0, lz1_laws_FnTurnShapes)] (by kernel_rfl) ⟨?_, trivial⟩
                            · exact hL.edge n21
                          have n19 : L 7 lz4_laws_FnTurnShapes [(23, .v (.bool false)), (42, .v (.bool true)), (44, .sl 13), (46, .sl 14)] [.row false (.ints .u8 a0), .glob 0 (.ints .u8 tab0), .row true (.trips y_1), .box [.v (.int .i64 y), .sl 2], .row true (.ints .i64 y_2), .row true (.ints .i64 y_3), .row true (.trips y_6), .box [.v (.int .i64 y_5), .sl 6], .row true (.ints .i64 y_8), .row true (.ints .i64 y_10), .row true (.ints .i64 y_11), .row true (.ints .i64 y_13), .row true (.ints .i64 y_14), .row true (.ints .i64 y_16), .row true (.ints .i64 y_17)] := by
                            refine hL.step [(27, [28, 29, 30], 3, lz2_laws_FnTurnShapes)] (by kernel_rfl) ⟨?_, trivial⟩
                            · simp (maxSteps := 4000000) only [go_sem, Nat.reduceBEq, Nat.reduceLT, Nat.reduceAdd, Nat.reduceLeDiff, Nat.reduceSub, Nat.reduceEqDiff, Int.reduceToNat, reduceCtorEq, ↓reduceIte]
                              repeat' (first | refine And.intro ?_ ?_ | intro hg)
                              all_goals (try simp (disch := omega) only [wrap_fits])
                              all_goals first
                                | (refine hL.red ?_ n20; exact Red.auto)
                                | exact trivial
                                | assumption
                                | omega
                                | exact wrap_fits (by omega) (by omega)
                                | (refine OpK_callA (k_laws_sameInts y_16 y_17 (h := hr11)) [13, 14] [] ?_
                                   rintro x Hc' ⟨rfl, rfl⟩ hlen
                                   simp (maxSteps := 4000000) only [go_sem, Nat.reduceBEq, Nat.reduceLT, Nat.reduceAdd, Nat.reduceLeDiff, Nat.reduceSub, Nat.reduceEqDiff, Int.reduceToNat, reduceCtorEq, ↓reduceIte]
                                   repeat' (first | refine And.intro ?_ ?_ | intro hg)
                                   all_goals (try simp (disch := omega) only [wrap_fits])
                                   all_goals first
                                     | (refine hL.red ?_ n20; exact Red.auto)
                                     | exact trivial
                                     | assumption
                                     | omega
                                     | exact wrap_fits (by omega) (by omega)
                                     | (simp_all; done)
                                     | (simp_all; omega))
                                | (simp (maxSteps := 4000000) only [go_sem, Nat.reduceBEq, Nat.reduceLT, Nat.reduceAdd, Nat.reduceLeDiff, Nat.reduceSub, Nat.reduceEqDiff, Int.reduceToNat, reduceCtorEq, ↓reduceIte]
                                   repeat' (first | refine And.intro ?_ ?_ | intro hg)
                                   all_goals (try simp (disch := omega) only [wrap_fits])
                                   all_goals first | (refine hL.red ?_ n20; exact Red.auto) | exact trivial | assumption | omega | exact wrap_fits (by omega) (by omega))
                                | (simp_all; done)
                                | (simp_all; omega)
                          have n18 : L 8 lz5_laws_FnTurnShapes [(23, .v (.bool false)), (42, .v (.bool true)), (44, .sl 13), (45, .agg [.v (.int .i64 y), .sl 2])] [.row false (.ints .u8 a0), .glob 0 (.ints .u8 tab0), .row true (.trips y_1), .box [.v (.int .i64 y), .sl 2], .row true (.ints .i64 y_2), .row true (.ints .i64 y_3), .row true (.trips y_6), .box [.v (.int .i64 y_5), .sl 6], .row true (.ints .i64 y_8), .row true (.ints .i64 y_10), .row true (.ints .i64 y_11), .row true (.ints .i64 y_13), .row true (.ints .i64 y_14), .row true (.ints .i64 y_16)] := by
                            refine hL.step [(26, [], 7, lz4_laws_FnTurnShapes)] (by kernel_rfl) ⟨?_, trivial⟩
                            · simp (maxSteps := 4000000) only [go_sem, Nat.reduceBEq, Nat.reduceLT, Nat.reduceAdd, Nat.reduceLeDiff, Nat.reduceSub, Nat.reduceEqDiff, Int.reduceToNat, reduceCtorEq, ↓reduceIte]
                              repeat' (first | refine And.intro ?_ ?_ | intro hg)
                              all_goals (try simp (disch := omega) only [wrap_fits])
                              all_goals first
                                | (refine hL.red ?_ n19; exact Red.auto)
                                | exact trivial
                                | assumption
                                | omega
                                | exact wrap_fits (by omega) (by omega)
                                | (refine OpK_callA (k_impl_TrianglesAt y y_1 (h := hr10)) [2, 1] [] ?_
                                   rintro x Hc' ⟨rfl, rfl⟩ hlen
                                   simp (maxSteps := 4000000) only [go_sem, Nat.reduceBEq, Nat.reduceLT, Nat.reduceAdd, Nat.reduceLeDiff, Nat.reduceSub, Nat.reduceEqDiff, Int.reduceToNat, reduceCtorEq, ↓reduceIte]
                                   repeat' (first | refine And.intro ?_ ?_ | intro hg)
                                   all_goals (try simp (disch := omega) only [wrap_fits])
                                   all_goals first
                                     | (refine hL.red ?_ n19; exact Red.auto)
                                     | exact trivial
                                     | assumption
                                     | omega
                                     | exact wrap_fits (by omega) (by omega)
                                     | (simp_all; done)
                                     | (simp_all; omega))
                                | (simp (maxSteps := 4000000) only [go_sem, Nat.reduceBEq, Nat.reduceLT, Nat.reduceAdd, Nat.reduceLeDiff, Nat.reduceSub, Nat.reduceEqDiff, Int.reduceToNat, reduceCtorEq, ↓reduceIte]
                                   repeat' (first | refine And.intro ?_ ?_ | intro hg)
                                   all_goals (try simp (disch := omega) only [wrap_fits])
                                   all_goals first | (refine hL.red ?_ n19; exact Red.auto) | exact trivial | assumption | omega | exact wrap_fits (by omega) (by omega))
                                | (simp_all; done)
                                | (simp_all; omega)
                          have n17 : L 9 lz19_laws_FnTurnShapes [(3, .pp 3 0), (23, .v (.bool false)), (42, .v (.bool true)), (44, .sl 13)] [.row false (.ints .u8 a0), .glob 0 (.ints .u8 tab0), .row true (.trips y_1), .box [.v (.int .i64 y), .sl 2], .row true (.ints .i64 y_2), .row true (.ints .i64 y_3), .row true (.trips y_6), .box [.v (.int .i64 y_5), .sl 6], .row true (.ints .i64 y_8), .row true (.ints .i64 y_10), .row true (.ints .i64 y_11), .row true (.ints .i64 y_13), .row true (.ints .i64 y_14), .row true (.ints .i64 y_16)] := by
                            refine hL.step [(25, [], 8, lz5_laws_FnTurnShapes)] (by kernel_rfl) ⟨?_, trivial⟩
                            · exact hL.edge n18
                          have n22 : L 9 lz6_laws_FnTurnShapes [(23, .v (.bool false)), (42, .v (.bool true)), (43, .agg [.v (.int .i64 y_5), .sl 6]), (45, .agg [.v (.int .i64 y), .sl 2])] [.row false (.ints .u8 a0), .glob 0 (.ints .u8 tab0), .row true (.trips y_1), .box [.v (.int .i64 y), .sl 2], .row true (.ints .i64 y_2), .row true (.ints .i64 y_3), .row true (.trips y_6), .box [.v (.int .i64 y_5), .sl 6], .row true (.ints .i64 y_8), .row true (.ints .i64 y_10), .row true (.ints .i64 y_11), .row true (.ints .i64 y_13), .row true (.ints .i64 y_14)] := by
                            refine hL.step [(24, [], 8, lz5_laws_FnTurnShapes)] (by kernel_rfl) ⟨?_, trivial⟩
                            · simp (maxSteps := 4000000) only [go_sem, Nat.reduceBEq, Nat.reduceLT, Nat.reduceAdd, Nat.reduceLeDiff, Nat.reduceSub, Nat.reduceEqDiff, Int.reduceToNat, reduceCtorEq, ↓reduceIte]
                              repeat' (first | refine And.intro ?_ ?_ | intro hg)
                              all_goals (try simp (disch := omega) only [wrap_fits])
                              all_goals first
                                | (refine hL.red ?_ n18; exact Red.auto)
                                | exact trivial
                                | assumption
                                | omega
                                | exact wrap_fits (by omega) (by omega)
                                | (refine OpK_callA (k_impl_TrianglesAt y_5 y_6 (h := hr9)) [6, 1] [] ?_
                                   rintro x Hc' ⟨rfl, rfl⟩ hlen
                                   simp (maxSteps := 4000000) only [go_sem, Nat.reduceBEq, Nat.reduceLT, Nat.reduceAdd, Nat.reduceLeDiff, Nat.reduceSub, Nat.reduceEqDiff, Int.reduceToNat, reduceCtorEq, ↓reduceIte]
                                   repeat' (first | refine And.intro ?_ ?_ | intro hg)
                                   all_goals (try simp (disch := omega) only [wrap_fits])
                                   all_goals first
                                     | (refine hL.red ?_ n18; exact Red.auto)
                                     | exact trivial
                                     | assumption
                                     | omega
                                     | exact wrap_fits (by omega) (by omega)
                                     | (simp_all; done)
                                     | (simp_all; omega))
                                | (simp (maxSteps := 4000000) only [go_sem, Nat.reduceBEq, Nat.reduceLT, Nat.reduceAdd, Nat.reduceLeDiff, Nat.reduceSub, Nat.reduceEqDiff, Int.reduceToNat, reduceCtorEq, ↓reduceIte]
                                   repeat' (first | refine And.intro ?_ ?_ | intro hg)
                                   all_goals (try simp (disch := omega) only [wrap_fits])
                                   all_goals first | (refine hL.red ?_ n18; exact Red.auto) | exact trivial | assumption | omega | exact wrap_fits (by omega) (by omega))
                                | (simp_all; done)
                                | (simp_all; omega)
                          have n16 : L 10 lz20_laws_FnTurnShapes [(3, .pp 3 0), (23, .v (.bool false)), (42, .v (.bool true)), (43, .agg [.v (.int .i64 y_5), .sl 6])] [.row false (.ints .u8 a0), .glob 0 (.ints .u8 tab0), .row true (.trips y_1), .box [.v (.int .i64 y), .sl 2], .row true (.ints .i64 y_2), .row true (.ints .i64 y_3), .row true (.trips y_6), .box [.v (.int .i64 y_5), .sl 6], .row true (.ints .i64 y_8), .row true (.ints .i64 y_10), .row true (.ints .i64 y_11), .row true (.ints .i64 y_13), .row true (.ints .i64 y_14)] := by
                            refine hL.step [(24, [], 9, lz19_laws_FnTurnShapes), (25, [], 9, lz6_laws_FnTurnShapes)] (by kernel_rfl) ⟨?_, ?_, trivial⟩
                            · simp (maxSteps := 4000000) only [go_sem, Nat.reduceBEq, Nat.reduceLT, Nat.reduceAdd, Nat.reduceLeDiff, Nat.reduceSub, Nat.reduceEqDiff, Int.reduceToNat, reduceCtorEq, ↓reduceIte]
                              repeat' (first | refine And.intro ?_ ?_ | intro hg)
                              all_goals (try simp (disch := omega) only [wrap_fits])
                              all_goals first
                                | (refine hL.red ?_ n17; exact Red.auto)
                                | exact trivial
                                | assumption
                                | omega
                                | exact wrap_fits (by omega) (by omega)
                                | (refine OpK_callA (k_impl_TrianglesAt y_5 y_6 (h := hr9)) [6, 1] [] ?_
                                   rintro x Hc' ⟨rfl, rfl⟩ hlen
                                   simp (maxSteps := 4000000) only [go_sem, Nat.reduceBEq, Nat.reduceLT, Nat.reduceAdd, Nat.reduceLeDiff, Nat.reduceSub, Nat.reduceEqDiff, Int.reduceToNat, reduceCtorEq, ↓reduceIte]
                                   repeat' (first | refine And.intro ?_ ?_ | intro hg)
                                   all_goals (try simp (disch := omega) only [wrap_fits])
                                   all_goals first
                                     | (refine hL.red ?_ n17; exact Red.auto)
                                     | exact trivial
                                     | assumption
                                     | omega
                                     | exact wrap_fits (by omega) (by omega)
                                     | (simp_all; done)
                                     | (simp_all; omega))
                                | (simp (maxSteps := 4000000) only [go_sem, Nat.reduceBEq, Nat.reduceLT, Nat.reduceAdd, Nat.reduceLeDiff, Nat.reduceSub, Nat.reduceEqDiff, Int.reduceToNat, reduceCtorEq, ↓reduceIte]
                                   repeat' (first | refine And.intro ?_ ?_ | intro hg)
                                   all_goals (try simp (disch := omega) only [wrap_fits])
                                   all_goals first | (refine hL.red ?_ n17; exact Red.auto) | exact trivial | assumption | omega | exact wrap_fits (by omega) (by omega))
                                | (simp_all; done)
                                | (simp_all; omega)
                            · exact hL.edge n22
                          have n23 : L 10 lz21_laws_FnTurnShapes [(5, .pp 7 0), (23, .v (.bool false)), (42, .v (.bool true)), (45, .agg [.v (.int .i64 y), .sl 2])] [.row false (.ints .u8 a0), .glob 0 (.ints .u8 tab0), .row true (.trips y_1), .box [.v (.int .i64 y), .sl 2], .row true (.ints .i64 y_2), .row true (.ints .i64 y_3), .row true (.trips y_6), .box [.v (.int .i64 y_5), .sl 6], .row true (.ints .i64 y_8), .row true (.ints .i64 y_10), .row true (.ints .i64 y_11), .row true (.ints .i64 y_13), .row true (.ints .i64 y_14)] := by
                            refine hL.step [(23, [], 9, lz6_laws_FnTurnShapes)] (by kernel_rfl) ⟨?_, trivial⟩
                            · exact hL.edge n22
                          have n15 : L 11 lz22_laws_FnTurnShapes [(3, .pp 3 0), (5, .pp 7 0), (23, .v (.bool false)), (42, .v (.bool true))] [.row false (.ints .u8 a0), .glob 0 (.ints .u8 tab0), .row true (.trips y_1), .box [.v (.int .i64 y), .sl 2], .row true (.ints .i64 y_2), .row true (.ints .i64 y_3), .row true (.trips y_6), .box [.v (.int .i64 y_5), .sl 6], .row true (.ints .i64 y_8), .row true (.ints .i64 y_10), .row true (.ints .i64 y_11), .row true (.ints .i64 y_13), .row true (.ints .i64 y_14)] := by
                            refine hL.step [(23, [], 10, lz20_laws_FnTurnShapes), (25, [], 10, lz21_laws_FnTurnShapes)] (by kernel_rfl) ⟨?_, ?_, trivial⟩
                            · exact hL.edge n16
                            · exact hL.edge n23
                          have n14 : L 14 lz8_laws_FnTurnShapes [(3, .pp 3 0), (5, .pp 7 0), (23, .v (.bool false)), (35, .v (.bool true)), (37, .sl 11), (39, .sl 12)] [.row false (.ints .u8 a0), .glob 0 (.ints .u8 tab0), .row true (.trips y_1), .box [.v (.int .i64 y), .sl 2], .row true (.ints .i64 y_2), .row true (.ints .i64 y_3), .row true (.trips y_6), .box [.v (.int .i64 y_5), .sl 6], .row true (.ints .i64 y_8), .row true (.ints .i64 y_10), .row true (.ints .i64 y_11), .row true (.ints .i64 y_13), .row true (.ints .i64 y_14)] := by
                            refine hL.step [(20, [21, 22], 11, lz22_laws_FnTurnShapes)] (by kernel_rfl) ⟨?_, trivial⟩
                            · simp (maxSteps := 4000000) only [go_sem, Nat.reduceBEq, Nat.reduceLT, Nat.reduceAdd, Nat.reduceLeDiff, Nat.reduceSub, Nat.reduceEqDiff, Int.reduceToNat, reduceCtorEq, ↓reduceIte]
                              repeat' (first | refine And.intro ?_ ?_ | intro hg)
                              all_goals (try simp (disch := omega) only [wrap_fits])
                              all_goals first
                                | (refine hL.red ?_ n15; exact Red.auto)
                                | exact trivial
                                | assumption
                                | omega
                                | exact wrap_fits (by omega) (by omega)
                                | (refine OpK_callA (k_laws_sameInts y_13 y_14 (h := hr8)) [11, 12] [] ?_
                                   rintro x Hc' ⟨rfl, rfl⟩ hlen
                                   simp (maxSteps := 4000000) only [go_sem, Nat.reduceBEq, Nat.reduceLT, Nat.reduceAdd, Nat.reduceLeDiff, Nat.reduceSub, Nat.reduceEqDiff, Int.reduceToNat, reduceCtorEq, ↓reduceIte]
                                   repeat' (first | refine And.intro ?_ ?_ | intro hg)
                                   all_goals (try simp (disch := omega) only [wrap_fits])
                                   all_goals first
                                     | (refine hL.red ?_ n15; exact Red.auto)
                                     | exact trivial
                                     | assumption
                                     | omega
                                     | exact wrap_fits (by omega) (by omega)
                                     | (simp_all; done)
                                     | (simp_all; omega))
                                | (simp (maxSteps := 4000000) only [go_sem, Nat.reduceBEq, Nat.reduceLT, Nat.reduceAdd, Nat.reduceLeDiff, Nat.reduceSub, Nat.reduceEqDiff, Int.reduceToNat, reduceCtorEq, ↓reduceIte]
                                   repeat' (first | refine And.intro ?_ ?_ | intro hg)
                                   all_goals (try simp (disch := omega) only [wrap_fits])
                                   all_goals first | (refine hL.red ?_ n15; exact Red.auto) | exact trivial | assumption | omega | exact wrap_fits (by omega) (by omega))
                                | (simp_all; done)
                                | (simp_all; omega)
                          have n13 : L 15 lz9_laws_FnTurnShapes [(3, .pp 3 0), (5, .pp 7 0), (23, .v (.bool false)), (35, .v (.bool true)), (37, .sl 11), (38, .agg [.v (.int .i64 y), .sl 2])] [.row false (.ints .u8 a0), .glob 0 (.ints .u8 tab0), .row true (.trips y_1), .box [.v (.int .i64 y), .sl 2], .row true (.ints .i64 y_2), .row true (.ints .i64 y_3), .row true (.trips y_6), .box [.v (.int .i64 y_5), .sl 6], .row true (.ints .i64 y_8), .row true (.ints .i64 y_10), .row true (.ints .i64 y_11), .row true (.ints .i64 y_13)] := by
                            refine hL.step [(19, [], 14, lz8_laws_FnTurnShapes)] (by kernel_rfl) ⟨?_, trivial⟩
                            · simp (maxSteps := 4000000) only [go_sem, Nat.reduceBEq, Nat.reduceLT, Nat.reduceAdd, Nat.reduceLeDiff, Nat.reduceSub, Nat.reduceEqDiff, Int.reduceToNat, reduceCtorEq, ↓reduceIte]
                              repeat' (first | refine And.intro ?_ ?_ | intro hg)
                              all_goals (try simp (disch := omega) only [wrap_fits])
                              all_goals first
                                | (refine hL.red ?_ n14; exact Red.auto)
                                | exact trivial
                                | assumption
                                | omega
                                | exact wrap_fits (by omega) (by omega)
                                | (refine OpK_callA (k_impl_LeastInPart y y_1 (h := hr7)) [2, 1] [] ?_
                                   rintro x Hc' ⟨rfl, rfl⟩ hlen
                                   simp (maxSteps := 4000000) only [go_sem, Nat.reduceBEq, Nat.reduceLT, Nat.reduceAdd, Nat.reduceLeDiff, Nat.reduceSub, Nat.reduceEqDiff, Int.reduceToNat, reduceCtorEq, ↓reduceIte]
                                   repeat' (first | refine And.intro ?_ ?_ | intro hg)
                                   all_goals (try simp (disch := omega) only [wrap_fits])
                                   all_goals first
                                     | (refine hL.red ?_ n14; exact Red.auto)
                                     | exact trivial
                                     | assumption
                                     | omega
                                     | exact wrap_fits (by omega) (by omega)
                                     | (simp_all; done)
                                     | (simp_all; omega))
                                | (simp (maxSteps := 4000000) only [go_sem, Nat.reduceBEq, Nat.reduceLT, Nat.reduceAdd, Nat.reduceLeDiff, Nat.reduceSub, Nat.reduceEqDiff, Int.reduceToNat, reduceCtorEq, ↓reduceIte]
                                   repeat' (first | refine And.intro ?_ ?_ | intro hg)
                                   all_goals (try simp (disch := omega) only [wrap_fits])
                                   all_goals first | (refine hL.red ?_ n14; exact Red.auto) | exact trivial | assumption | omega | exact wrap_fits (by omega) (by omega))
                                | (simp_all; done)
                                | (simp_all; omega)
                          have n12 : L 16 lz23_laws_FnTurnShapes [(3, .pp 3 0), (5, .pp 7 0), (23, .v (.bool false)), (35, .v (.bool true)), (37, .sl 11)] [.row false (.ints .u8 a0), .glob 0 (.ints .u8 tab0), .row true (.trips y_1), .box [.v (.int .i64 y), .sl 2], .row true (.ints .i64 y_2), .row true (.ints .i64 y_3), .row true (.trips y_6), .box [.v (.int .i64 y_5), .sl 6], .row true (.ints .i64 y_8), .row true (.ints .i64 y_10), .row true (.ints .i64 y_11), .row true (.ints .i64 y_13)] := by
                            refine hL.step [(18, [], 15, lz9_laws_FnTurnShapes)] (by kernel_rfl) ⟨?_, trivial⟩
                            · exact hL.edge n13
                          have n24 : L 16 lz10_laws_FnTurnShapes [(3, .pp 3 0), (5, .pp 7 0), (23, .v (.bool false)), (35, .v (.bool true)), (36, .agg [.v (.int .i64 y_5), .sl 6]), (38, .agg [.v (.int .i64 y), .sl 2])] [.row false (.ints .u8 a0), .glob 0 (.ints .u8 tab0), .row true (.trips y_1), .box [.v (.int .i64 y), .sl 2], .row true (.ints .i64 y_2), .row true (.ints .i64 y_3), .row true (.trips y_6), .box [.v (.int .i64 y_5), .sl 6], .row true (.ints .i64 y_8), .row true (.ints .i64 y_10), .row true (.ints .i64 y_11)] := by
                            refine hL.step [(17, [], 15, lz9_laws_FnTurnShapes)] (by kernel_rfl) ⟨?_, trivial⟩
                            · simp (maxSteps := 4000000) only [go_sem, Nat.reduceBEq, Nat.reduceLT, Nat.reduceAdd, Nat.reduceLeDiff, Nat.reduceSub, Nat.reduceEqDiff, Int.reduceToNat, reduceCtorEq, ↓reduceIte]
                              repeat' (first | refine And.intro ?_ ?_ | intro hg)
                              all_goals (try simp (disch := omega) only [wrap_fits])
                              all_goals first
                                | (refine hL.red ?_ n13; exact Red.auto)
                                | exact trivial
                                | assumption
                                | omega
                                | exact wrap_fits (by omega) (by omega)
                                | (refine OpK_callA (k_impl_LeastInPart y_5 y_6 (h := hr6)) [6, 1] [] ?_
                                   rintro x Hc' ⟨rfl, rfl⟩ hlen
                                   simp (maxSteps := 4000000) only [go_sem, Nat.reduceBEq, Nat.reduceLT, Nat.reduceAdd, Nat.reduceLeDiff, Nat.reduceSub, Nat.reduceEqDiff, Int.reduceToNat, reduceCtorEq, ↓reduceIte]
                                   repeat' (first | refine And.intro ?_ ?_ | intro hg)
                                   all_goals (try simp (disch := omega) only [wrap_fits])
                                   all_goals first
                                     | (refine hL.red ?_ n13; exact Red.auto)
                                     | exact trivial
                                     | assumption
                                     | omega
                                     | exact wrap_fits (by omega) (by omega)
                                     | (simp_all; done)
                                     | (simp_all; omega))
                                | (simp (maxSteps := 4000000) only [go_sem, Nat.reduceBEq, Nat.reduceLT, Nat.reduceAdd, Nat.reduceLeDiff, Nat.reduceSub, Nat.reduceEqDiff, Int.reduceToNat, reduceCtorEq, ↓reduceIte]
                                   repeat' (first | refine And.intro ?_ ?_ | intro hg)
                                   all_goals (try simp (disch := omega) only [wrap_fits])
                                   all_goals first | (refine hL.red ?_ n13; exact Red.auto) | exact trivial | assumption | omega | exact wrap_fits (by omega) (by omega))
                                | (simp_all; done)
                                | (simp_all; omega)
                          have n11 : L 17 lz24_laws_FnTurnShapes [(3, .pp 3 0), (5, .pp 7 0), (23, .v (.bool false)), (35, .v (.bool true)), (36, .agg [.v (.int .i64 y_5), .sl 6])] [.row false (.ints .u8 a0), .glob 0 (.ints .u8 tab0), .row true (.trips y_1), .box [.v (.int .i64 y), .sl 2], .row true (.ints .i64 y_2), .row true (.ints .i64 y_3), .row true (.trips y_6), .box [.v (.int .i64 y_5), .sl 6], .row true (.ints .i64 y_8), .row true (.ints .i64 y_10), .row true (.ints .i64 y_11)] := by
                            refine hL.step [(17, [], 16, lz23_laws_FnTurnShapes), (18, [], 16, lz10_laws_FnTurnShapes)] (by kernel_rfl) ⟨?_, ?_, trivial⟩
                            · simp (maxSteps := 4000000) only [go_sem, Nat.reduceBEq, Nat.reduceLT, Nat.reduceAdd, Nat.reduceLeDiff, Nat.reduceSub, Nat.reduceEqDiff, Int.reduceToNat, reduceCtorEq, ↓reduceIte]
                              repeat' (first | refine And.intro ?_ ?_ | intro hg)
                              all_goals (try simp (disch := omega) only [wrap_fits])
                              all_goals first
                                | (refine hL.red ?_ n12; exact Red.auto)
                                | exact trivial
                                | assumption
                                | omega
                                | exact wrap_fits (by omega) (by omega)
                                | (refine OpK_callA (k_impl_LeastInPart y_5 y_6 (h := hr6)) [6, 1] [] ?_
                                   rintro x Hc' ⟨rfl, rfl⟩ hlen
                                   simp (maxSteps := 4000000) only [go_sem, Nat.reduceBEq, Nat.reduceLT, Nat.reduceAdd, Nat.reduceLeDiff, Nat.reduceSub, Nat.reduceEqDiff, Int.reduceToNat, reduceCtorEq, ↓reduceIte]
                                   repeat' (first | refine And.intro ?_ ?_ | intro hg)
                                   all_goals (try simp (disch := omega) only [wrap_fits])
                                   all_goals first
                                     | (refine hL.red ?_ n12; exact Red.auto)
                                     | exact trivial
                                     | assumption
                                     | omega
                                     | exact wrap_fits (by omega) (by omega)
                                     | (simp_all; done)
                                     | (simp_all; omega))
                                | (simp (maxSteps := 4000000) only [go_sem, Nat.reduceBEq, Nat.reduceLT, Nat.reduceAdd, Nat.reduceLeDiff, Nat.reduceSub, Nat.reduceEqDiff, Int.reduceToNat, reduceCtorEq, ↓reduceIte]
                                   repeat' (first | refine And.intro ?_ ?_ | intro hg)
                                   all_goals (try simp (disch := omega) only [wrap_fits])
                                   all_goals first | (refine hL.red ?_ n12; exact Red.auto) | exact trivial | assumption | omega | exact wrap_fits (by omega) (by omega))
                                | (simp_all; done)
                                | (simp_all; omega)
                            · exact hL.edge n24
                          have n25 : L 17 lz25_laws_FnTurnShapes [(3, .pp 3 0), (5, .pp 7 0), (23, .v (.bool false)), (35, .v (.bool true)), (38, .agg [.v (.int .i64 y), .sl 2])] [.row false (.ints .u8 a0), .glob 0 (.ints .u8 tab0), .row true (.trips y_1), .box [.v (.int .i64 y), .sl 2], .row true (.ints .i64 y_2), .row true (.ints .i64 y_3), .row true (.trips y_6), .box [.v (.int .i64 y_5), .sl 6], .row true (.ints .i64 y_8), .row true (.ints .i64 y_10), .row true (.ints .i64 y_11)] := by
                            refine hL.step [(16, [], 16, lz10_laws_FnTurnShapes)] (by kernel_rfl) ⟨?_, trivial⟩
                            · exact hL.edge n24
                          have n10 : L 18 lz26_laws_FnTurnShapes [(3, .pp 3 0), (5, .pp 7 0), (23, .v (.bool false)), (35, .v (.bool true))] [.row false (.ints .u8 a0), .glob 0 (.ints .u8 tab0), .row true (.trips y_1), .box [.v (.int .i64 y), .sl 2], .row true (.ints .i64 y_2), .row true (.ints .i64 y_3), .row true (.trips y_6), .box [.v (.int .i64 y_5), .sl 6], .row true (.ints .i64 y_8), .row true (.ints .i64 y_10), .row true (.ints .i64 y_11)] := by
                            refine hL.step [(16, [], 17, lz24_laws_FnTurnShapes), (18, [], 17, lz25_laws_FnTurnShapes)] (by kernel_rfl) ⟨?_, ?_, trivial⟩
                            · exact hL.edge n11
                            · exact hL.edge n25
                          have n9 : L 21 lz12_laws_FnTurnShapes [(3, .pp 3 0), (5, .pp 7 0), (23, .v (.bool false)), (28, .v (.bool true)), (30, .sl 9), (32, .sl 10)] [.row false (.ints .u8 a0), .glob 0 (.ints .u8 tab0), .row true (.trips y_1), .box [.v (.int .i64 y), .sl 2], .row true (.ints .i64 y_2), .row true (.ints .i64 y_3), .row true (.trips y_6), .box [.v (.int .i64 y_5), .sl 6], .row true (.ints .i64 y_8), .row true (.ints .i64 y_10), .row true (.ints .i64 y_11)] := by
                            refine hL.step [(13, [14, 15], 18, lz26_laws_FnTurnShapes)] (by kernel_rfl) ⟨?_, trivial⟩
                            · simp (maxSteps := 4000000) only [go_sem, Nat.reduceBEq, Nat.reduceLT, Nat.reduceAdd, Nat.reduceLeDiff, Nat.reduceSub, Nat.reduceEqDiff, Int.reduceToNat, reduceCtorEq, ↓reduceIte]
                              repeat' (first | refine And.intro ?_ ?_ | intro hg)
                              all_goals (try simp (disch := omega) only [wrap_fits])
                              all_goals first
                                | (refine hL.red ?_ n10; exact Red.auto)
                                | exact trivial
                                | assumption
                                | omega
                                | exact wrap_fits (by omega) (by omega)
                                | (refine OpK_callA (k_laws_sameInts y_10 y_11 (h := hr5)) [9, 10] [] ?_
                                   rintro x Hc' ⟨rfl, rfl⟩ hlen
                                   simp (maxSteps := 4000000) only [go_sem, Nat.reduceBEq, Nat.reduceLT, Nat.reduceAdd, Nat.reduceLeDiff, Nat.reduceSub, Nat.reduceEqDiff, Int.reduceToNat, reduceCtorEq, ↓reduceIte]
                                   repeat' (first | refine And.intro ?_ ?_ | intro hg)
                                   all_goals (try simp (disch := omega) only [wrap_fits])
                                   all_goals first
                                     | (refine hL.red ?_ n10; exact Red.auto)
                                     | exact trivial
                                     | assumption
                                     | omega
                                     | exact wrap_fits (by omega) (by omega)
                                     | (simp_all; done)
                                     | (simp_all; omega))
                                | (simp (maxSteps := 4000000) only [go_sem, Nat.reduceBEq, Nat.reduceLT, Nat.reduceAdd, Nat.reduceLeDiff, Nat.reduceSub, Nat.reduceEqDiff, Int.reduceToNat, reduceCtorEq, ↓reduceIte]
                                   repeat' (first | refine And.intro ?_ ?_ | intro hg)
                                   all_goals (try simp (disch := omega) only [wrap_fits])
                                   all_goals first | (refine hL.red ?_ n10; exact Red.auto) | exact trivial | assumption | omega | exact wrap_fits (by omega) (by omega))
                                | (simp_all; done)
                                | (simp_all; omega)
                          have n8 : L 22 lz13_laws_FnTurnShapes [(3, .pp 3 0), (5, .pp 7 0), (23, .v (.bool false)), (28, .v (.bool true)), (30, .sl 9), (31, .agg [.v (.int .i64 y), .sl 2])] [.row false (.ints .u8 a0), .glob 0 (.ints .u8 tab0), .row true (.trips y_1), .box [.v (.int .i64 y), .sl 2], .row true (.ints .i64 y_2), .row true (.ints .i64 y_3), .row true (.trips y_6), .box [.v (.int .i64 y_5), .sl 6], .row true (.ints .i64 y_8), .row true (.ints .i64 y_10)] := by
                            refine hL.step [(12, [], 21, lz12_laws_FnTurnShapes)] (by kernel_rfl) ⟨?_, trivial⟩
                            · simp (maxSteps := 4000000) only [go_sem, Nat.reduceBEq, Nat.reduceLT, Nat.reduceAdd, Nat.reduceLeDiff, Nat.reduceSub, Nat.reduceEqDiff, Int.reduceToNat, reduceCtorEq, ↓reduceIte]
                              repeat' (first | refine And.intro ?_ ?_ | intro hg)
                              all_goals (try simp (disch := omega) only [wrap_fits])
                              all_goals first
                                | (refine hL.red ?_ n9; exact Red.auto)
                                | exact trivial
                                | assumption
                                | omega
                                | exact wrap_fits (by omega) (by omega)
                                | (refine OpK_callA (k_impl_DegreesOf y y_1 (h := hr4)) [2] [] ?_
                                   rintro x Hc' ⟨rfl, rfl⟩ hlen
                                   simp (maxSteps := 4000000) only [go_sem, Nat.reduceBEq, Nat.reduceLT, Nat.reduceAdd, Nat.reduceLeDiff, Nat.reduceSub, Nat.reduceEqDiff, Int.reduceToNat, reduceCtorEq, ↓reduceIte]
                                   repeat' (first | refine And.intro ?_ ?_ | intro hg)
                                   all_goals (try simp (disch := omega) only [wrap_fits])
                                   all_goals first
                                     | (refine hL.red ?_ n9; exact Red.auto)
                                     | exact trivial
                                     | assumption
                                     | omega
                                     | exact wrap_fits (by omega) (by omega)
                                     | (simp_all; done)
                                     | (simp_all; omega))
                                | (simp (maxSteps := 4000000) only [go_sem, Nat.reduceBEq, Nat.reduceLT, Nat.reduceAdd, Nat.reduceLeDiff, Nat.reduceSub, Nat.reduceEqDiff, Int.reduceToNat, reduceCtorEq, ↓reduceIte]
                                   repeat' (first | refine And.intro ?_ ?_ | intro hg)
                                   all_goals (try simp (disch := omega) only [wrap_fits])
                                   all_goals first | (refine hL.red ?_ n9; exact Red.auto) | exact trivial | assumption | omega | exact wrap_fits (by omega) (by omega))
                                | (simp_all; done)
                                | (simp_all; omega)
                          have n7 : L 23 lz27_laws_FnTurnShapes [(3, .pp 3 0), (5, .pp 7 0), (23, .v (.bool false)), (28, .v (.bool true)), (30, .sl 9)] [.row false (.ints .u8 a0), .glob 0 (.ints .u8 tab0), .row true (.trips y_1), .box [.v (.int .i64 y), .sl 2], .row true (.ints .i64 y_2), .row true (.ints .i64 y_3), .row true (.trips y_6), .box [.v (.int .i64 y_5), .sl 6], .row true (.ints .i64 y_8), .row true (.ints .i64 y_10)] := by
                            refine hL.step [(11, [], 22, lz13_laws_FnTurnShapes)] (by kernel_rfl) ⟨?_, trivial⟩
                            · exact hL.edge n8
                          have n26 : L 23 lz14_laws_FnTurnShapes [(3, .pp 3 0), (5, .pp 7 0), (23, .v (.bool false)), (28, .v (.bool true)), (29, .agg [.v (.int .i64 y_5), .sl 6]), (31, .agg [.v (.int .i64 y), .sl 2])] [.row false (.ints .u8 a0), .glob 0 (.ints .u8 tab0), .row true (.trips y_1), .box [.v (.int .i64 y), .sl 2], .row true (.ints .i64 y_2), .row true (.ints .i64 y_3), .row true (.trips y_6), .box [.v (.int .i64 y_5), .sl 6], .row true (.ints .i64 y_8)] := by
                            refine hL.step [(10, [], 22, lz13_laws_FnTurnShapes)] (by kernel_rfl) ⟨?_, trivial⟩
                            · simp (maxSteps := 4000000) only [go_sem, Nat.reduceBEq, Nat.reduceLT, Nat.reduceAdd, Nat.reduceLeDiff, Nat.reduceSub, Nat.reduceEqDiff, Int.reduceToNat, reduceCtorEq, ↓reduceIte]
                              repeat' (first | refine And.intro ?_ ?_ | intro hg)
                              all_goals (try simp (disch := omega) only [wrap_fits])
                              all_goals first
                                | (refine hL.red ?_ n8; exact Red.auto)
                                | exact trivial
                                | assumption
                                | omega
                                | exact wrap_fits (by omega) (by omega)
                                | (refine OpK_callA (k_impl_DegreesOf y_5 y_6 (h := hr3)) [6] [] ?_
                                   rintro x Hc' ⟨rfl, rfl⟩ hlen
                                   simp (maxSteps := 4000000) only [go_sem, Nat.reduceBEq, Nat.reduceLT, Nat.reduceAdd, Nat.reduceLeDiff, Nat.reduceSub, Nat.reduceEqDiff, Int.reduceToNat, reduceCtorEq, ↓reduceIte]
                                   repeat' (first | refine And.intro ?_ ?_ | intro hg)
                                   all_goals (try simp (disch := omega) only [wrap_fits])
                                   all_goals first
                                     | (refine hL.red ?_ n8; exact Red.auto)
                                     | exact trivial
                                     | assumption
                                     | omega
                                     | exact wrap_fits (by omega) (by omega)
                                     | (simp_all; done)
                                     | (simp_all; omega))
                                | (simp (maxSteps := 4000000) only [go_sem, Nat.reduceBEq, Nat.reduceLT, Nat.reduceAdd, Nat.reduceLeDiff, Nat.reduceSub, Nat.reduceEqDiff, Int.reduceToNat, reduceCtorEq, ↓reduceIte]
                                   repeat' (first | refine And.intro ?_ ?_ | intro hg)
                                   all_goals (try simp (disch := omega) only [wrap_fits])
                                   all_goals first | (refine hL.red ?_ n8; exact Red.auto) | exact trivial | assumption | omega | exact wrap_fits (by omega) (by omega))
                                | (simp_all; done)
                                | (simp_all; omega)
                          have n6 : L 24 lz28_laws_FnTurnShapes [(3, .pp 3 0), (5, .pp 7 0), (23, .v (.bool false)), (28, .v (.bool true)), (29, .agg [.v (.int .i64 y_5), .sl 6])] [.row false (.ints .u8 a0), .glob 0 (.ints .u8 tab0), .row true (.trips y_1), .box [.v (.int .i64 y), .sl 2], .row true (.ints .i64 y_2), .row true (.ints .i64 y_3), .row true (.trips y_6), .box [.v (.int .i64 y_5), .sl 6], .row true (.ints .i64 y_8)] := by
                            refine hL.step [(10, [], 23, lz27_laws_FnTurnShapes), (11, [], 23, lz14_laws_FnTurnShapes)] (by kernel_rfl) ⟨?_, ?_, trivial⟩
                            · simp (maxSteps := 4000000) only [go_sem, Nat.reduceBEq, Nat.reduceLT, Nat.reduceAdd, Nat.reduceLeDiff, Nat.reduceSub, Nat.reduceEqDiff, Int.reduceToNat, reduceCtorEq, ↓reduceIte]
                              repeat' (first | refine And.intro ?_ ?_ | intro hg)
                              all_goals (try simp (disch := omega) only [wrap_fits])
                              all_goals first
                                | (refine hL.red ?_ n7; exact Red.auto)
                                | exact trivial
                                | assumption
                                | omega
                                | exact wrap_fits (by omega) (by omega)
                                | (refine OpK_callA (k_impl_DegreesOf y_5 y_6 (h := hr3)) [6] [] ?_
                                   rintro x Hc' ⟨rfl, rfl⟩ hlen
                                   simp (maxSteps := 4000000) only [go_sem, Nat.reduceBEq, Nat.reduceLT, Nat.reduceAdd, Nat.reduceLeDiff, Nat.reduceSub, Nat.reduceEqDiff, Int.reduceToNat, reduceCtorEq, ↓reduceIte]
                                   repeat' (first | refine And.intro ?_ ?_ | intro hg)
                                   all_goals (try simp (disch := omega) only [wrap_fits])
                                   all_goals first
                                     | (refine hL.red ?_ n7; exact Red.auto)
                                     | exact trivial
                                     | assumption
                                     | omega
                                     | exact wrap_fits (by omega) (by omega)
                                     | (simp_all; done)
                                     | (simp_all; omega))
                                | (simp (maxSteps := 4000000) only [go_sem, Nat.reduceBEq, Nat.reduceLT, Nat.reduceAdd, Nat.reduceLeDiff, Nat.reduceSub, Nat.reduceEqDiff, Int.reduceToNat, reduceCtorEq, ↓reduceIte]
                                   repeat' (first | refine And.intro ?_ ?_ | intro hg)
                                   all_goals (try simp (disch := omega) only [wrap_fits])
                                   all_goals first | (refine hL.red ?_ n7; exact Red.auto) | exact trivial | assumption | omega | exact wrap_fits (by omega) (by omega))
                                | (simp_all; done)
                                | (simp_all; omega)
                            · exact hL.edge n26
                          have n27 : L 24 lz29_laws_FnTurnShapes [(3, .pp 3 0), (5, .pp 7 0), (23, .v (.bool false)), (28, .v (.bool true)), (31, .agg [.v (.int .i64 y), .sl 2])] [.row false (.ints .u8 a0), .glob 0 (.ints .u8 tab0), .row true (.trips y_1), .box [.v (.int .i64 y), .sl 2], .row true (.ints .i64 y_2), .row true (.ints .i64 y_3), .row true (.trips y_6), .box [.v (.int .i64 y_5), .sl 6], .row true (.ints .i64 y_8)] := by
                            refine hL.step [(9, [], 23, lz14_laws_FnTurnShapes)] (by kernel_rfl) ⟨?_, trivial⟩
                            · exact hL.edge n26
                          have n5 : L 25 lz30_laws_FnTurnShapes [(3, .pp 3 0), (5, .pp 7 0), (23, .v (.bool false)), (28, .v (.bool true))] [.row false (.ints .u8 a0), .glob 0 (.ints .u8 tab0), .row true (.trips y_1), .box [.v (.int .i64 y), .sl 2], .row true (.ints .i64 y_2), .row true (.ints .i64 y_3), .row true (.trips y_6), .box [.v (.int .i64 y_5), .sl 6], .row true (.ints .i64 y_8)] := by
                            refine hL.step [(9, [], 24, lz28_laws_FnTurnShapes), (11, [], 24, lz29_laws_FnTurnShapes)] (by kernel_rfl) ⟨?_, ?_, trivial⟩
                            · exact hL.edge n6
                            · exact hL.edge n27
                          have n4 : L 27 lz15_laws_FnTurnShapes [(3, .pp 3 0), (5, .pp 7 0), (23, .v (.bool false)), (25, .sl 8), (26, .sl 4)] [.row false (.ints .u8 a0), .glob 0 (.ints .u8 tab0), .row true (.trips y_1), .box [.v (.int .i64 y), .sl 2], .row true (.ints .i64 y_2), .row true (.ints .i64 y_3), .row true (.trips y_6), .box [.v (.int .i64 y_5), .sl 6], .row true (.ints .i64 y_8)] := by
                            refine hL.step [(7, [8], 25, lz30_laws_FnTurnShapes)] (by kernel_rfl) ⟨?_, trivial⟩
                            · simp (maxSteps := 4000000) only [go_sem, Nat.reduceBEq, Nat.reduceLT, Nat.reduceAdd, Nat.reduceLeDiff, Nat.reduceSub, Nat.reduceEqDiff, Int.reduceToNat, reduceCtorEq, ↓reduceIte]
                              repeat' (first | refine And.intro ?_ ?_ | intro hg)
                              all_goals (try simp (disch := omega) only [wrap_fits])
                              all_goals first
                                | (refine hL.red ?_ n5; exact Red.auto)
                                | exact trivial
                                | assumption
                                | omega
                                | exact wrap_fits (by omega) (by omega)
                                | (refine OpK_callA (k_laws_sameInts y_8 y_2 (h := hr2)) [8, 4] [] ?_
                                   rintro x Hc' ⟨rfl, rfl⟩ hlen
                                   simp (maxSteps := 4000000) only [go_sem, Nat.reduceBEq, Nat.reduceLT, Nat.reduceAdd, Nat.reduceLeDiff, Nat.reduceSub, Nat.reduceEqDiff, Int.reduceToNat, reduceCtorEq, ↓reduceIte]
                                   repeat' (first | refine And.intro ?_ ?_ | intro hg)
                                   all_goals (try simp (disch := omega) only [wrap_fits])
                                   all_goals first
                                     | (refine hL.red ?_ n5; exact Red.auto)
                                     | exact trivial
                                     | assumption
                                     | omega
                                     | exact wrap_fits (by omega) (by omega)
                                     | (simp_all; done)
                                     | (simp_all; omega))
                                | (simp (maxSteps := 4000000) only [go_sem, Nat.reduceBEq, Nat.reduceLT, Nat.reduceAdd, Nat.reduceLeDiff, Nat.reduceSub, Nat.reduceEqDiff, Int.reduceToNat, reduceCtorEq, ↓reduceIte]
                                   repeat' (first | refine And.intro ?_ ?_ | intro hg)
                                   all_goals (try simp (disch := omega) only [wrap_fits])
                                   all_goals first | (refine hL.red ?_ n5; exact Red.auto) | exact trivial | assumption | omega | exact wrap_fits (by omega) (by omega))
                                | (simp_all; done)
                                | (simp_all; omega)
                          have n3 : L 28 lz16_laws_FnTurnShapes [(3, .pp 3 0), (5, .pp 7 0), (23, .v (.bool false)), (24, .agg [.v (.int .i64 y_5), .sl 6]), (26, .sl 4)] [.row false (.ints .u8 a0), .glob 0 (.ints .u8 tab0), .row true (.trips y_1), .box [.v (.int .i64 y), .sl 2], .row true (.ints .i64 y_2), .row true (.ints .i64 y_3), .row true (.trips y_6), .box [.v (.int .i64 y_5), .sl 6]] := by
                            refine hL.step [(5, [], 27, lz15_laws_FnTurnShapes)] (by kernel_rfl) ⟨?_, trivial⟩
                            · simp (maxSteps := 4000000) only [go_sem, Nat.reduceBEq, Nat.reduceLT, Nat.reduceAdd, Nat.reduceLeDiff, Nat.reduceSub, Nat.reduceEqDiff, Int.reduceToNat, reduceCtorEq, ↓reduceIte]
                              repeat' (first | refine And.intro ?_ ?_ | intro hg)
                              all_goals (try simp (disch := omega) only [wrap_fits])
                              all_goals first
                                | (refine hL.red ?_ n4; exact Red.auto)
                                | exact trivial
                                | assumption
                                | omega
                                | exact wrap_fits (by omega) (by omega)
                                | (refine OpK_callA (k_impl_CoresOf y_5 y_6 (h := hr1)) [6, 1] [] ?_
                                   rintro x Hc' ⟨rfl, rfl⟩ hlen
                                   simp (maxSteps := 4000000) only [go_sem, Nat.reduceBEq, Nat.reduceLT, Nat.reduceAdd, Nat.reduceLeDiff, Nat.reduceSub, Nat.reduceEqDiff, Int.reduceToNat, reduceCtorEq, ↓reduceIte]
                                   repeat' (first | refine And.intro ?_ ?_ | intro hg)
                                   all_goals (try simp (disch := omega) only [wrap_fits])
                                   all_goals first
                                     | (refine hL.red ?_ n4; exact Red.auto)
                                     | exact trivial
                                     | assumption
                                     | omega
                                     | exact wrap_fits (by omega) (by omega)
                                     | (simp_all; done)
                                     | (simp_all; omega))
                                | (simp (maxSteps := 4000000) only [go_sem, Nat.reduceBEq, Nat.reduceLT, Nat.reduceAdd, Nat.reduceLeDiff, Nat.reduceSub, Nat.reduceEqDiff, Int.reduceToNat, reduceCtorEq, ↓reduceIte]
                                   repeat' (first | refine And.intro ?_ ?_ | intro hg)
                                   all_goals (try simp (disch := omega) only [wrap_fits])
                                   all_goals first | (refine hL.red ?_ n4; exact Red.auto) | exact trivial | assumption | omega | exact wrap_fits (by omega) (by omega))
                                | (simp_all; done)
                                | (simp_all; omega)
                          have n2 : L 29 lz17_laws_FnTurnShapes [(3, .pp 3 0), (5, .pp 7 0), (23, .v (.bool false)), (26, .sl 4)] [.row false (.ints .u8 a0), .glob 0 (.ints .u8 tab0), .row true (.trips y_1), .box [.v (.int .i64 y), .sl 2], .row true (.ints .i64 y_2), .row true (.ints .i64 y_3), .row true (.trips y_6), .box [.v (.int .i64 y_5), .sl 6]] := by
                            refine hL.step [(4, [], 28, lz16_laws_FnTurnShapes)] (by kernel_rfl) ⟨?_, trivial⟩
                            · exact hL.edge n3
                          have n1 : L 33 lz18_laws_FnTurnShapes [(3, .pp 3 0), (4, .sl 4), (5, .pp 7 0), (20, .agg [.v (.int .i64 y), .sl 2])] [.row false (.ints .u8 a0), .glob 0 (.ints .u8 tab0), .row true (.trips y_1), .box [.v (.int .i64 y), .sl 2], .row true (.ints .i64 y_2), .row true (.ints .i64 y_3), .row true (.trips y_6), .box [.v (.int .i64 y_5), .sl 6]] := by
                            refine hL.step [(1, [2, 3, 6], 29, lz17_laws_FnTurnShapes)] (by kernel_rfl) ⟨?_, trivial⟩
                            · simp (maxSteps := 4000000) only [go_sem, Nat.reduceBEq, Nat.reduceLT, Nat.reduceAdd, Nat.reduceLeDiff, Nat.reduceSub, Nat.reduceEqDiff, Int.reduceToNat, reduceCtorEq, ↓reduceIte]
                              repeat' (first | refine And.intro ?_ ?_ | intro hg)
                              all_goals (try simp (disch := omega) only [wrap_fits])
                              all_goals first
                                | (refine hL.red ?_ n2; exact Red.auto)
                                | exact trivial
                                | assumption
                                | omega
                                | exact wrap_fits (by omega) (by omega)
                                | (refine OpK_callA (k_spec_GraphValid y y_1 (h := hr0)) [2] [] ?_
                                   rintro x Hc' ⟨rfl, rfl⟩ hlen
                                   simp (maxSteps := 4000000) only [go_sem, Nat.reduceBEq, Nat.reduceLT, Nat.reduceAdd, Nat.reduceLeDiff, Nat.reduceSub, Nat.reduceEqDiff, Int.reduceToNat, reduceCtorEq, ↓reduceIte]
                                   repeat' (first | refine And.intro ?_ ?_ | intro hg)
                                   all_goals (try simp (disch := omega) only [wrap_fits])
                                   all_goals first
                                     | (refine hL.red ?_ n2; exact Red.auto)
                                     | exact trivial
                                     | assumption
                                     | omega
                                     | exact wrap_fits (by omega) (by omega)
                                     | (simp_all; done)
                                     | (simp_all; omega))
                                | (simp (maxSteps := 4000000) only [go_sem, Nat.reduceBEq, Nat.reduceLT, Nat.reduceAdd, Nat.reduceLeDiff, Nat.reduceSub, Nat.reduceEqDiff, Int.reduceToNat, reduceCtorEq, ↓reduceIte]
                                   repeat' (first | refine And.intro ?_ ?_ | intro hg)
                                   all_goals (try simp (disch := omega) only [wrap_fits])
                                   all_goals first | (refine hL.red ?_ n2; exact Red.auto) | exact trivial | assumption | omega | exact wrap_fits (by omega) (by omega))
                                | (simp_all; done)
                                | (simp_all; omega)
                          have n0 : L 34 lz0_laws_FnTurnShapes [(3, .pp 3 0), (4, .sl 4), (5, .pp 7 0)] [.row false (.ints .u8 a0), .glob 0 (.ints .u8 tab0), .row true (.trips y_1), .box [.v (.int .i64 y), .sl 2], .row true (.ints .i64 y_2), .row true (.ints .i64 y_3), .row true (.trips y_6), .box [.v (.int .i64 y_5), .sl 6]] := by
                            refine hL.step [(0, [], 33, lz18_laws_FnTurnShapes)] (by kernel_rfl) ⟨?_, trivial⟩
                            · exact hL.edge n1
                          simp (maxSteps := 4000000) only [go_sem, Nat.reduceBEq, Nat.reduceLT, Nat.reduceAdd, Nat.reduceLeDiff, Nat.reduceSub, Nat.reduceEqDiff, Int.reduceToNat, reduceCtorEq, ↓reduceIte]
                          repeat' (first | refine And.intro ?_ ?_ | intro hg)
                          all_goals (try simp (disch := omega) only [wrap_fits])
                          all_goals first
                            | (refine hL.red ?_ n0; exact Red.auto)
                            | exact trivial
                            | assumption
                            | omega
                            | exact wrap_fits (by omega) (by omega)
                            | (simp (maxSteps := 4000000) only [go_sem, Nat.reduceBEq, Nat.reduceLT, Nat.reduceAdd, Nat.reduceLeDiff, Nat.reduceSub, Nat.reduceEqDiff, Int.reduceToNat, reduceCtorEq, ↓reduceIte]
                               repeat' (first | refine And.intro ?_ ?_ | intro hg)
                               all_goals (try simp (disch := omega) only [wrap_fits])
                               all_goals first | (refine hL.red ?_ n0; exact Red.auto) | exact trivial | assumption | omega | exact wrap_fits (by omega) (by omega))
                            | (simp_all; done)
                            | (simp_all; omega)
                        · clear hr0 hr1 hr2 hr3 hr4 hr5 hr6 hr7 hr8 hr9 hr10 hr11
                          refine awp_ret ?_
                          (try simp only [Thn, InBlk, ↓reduceIte, Nat.reduceEqDiff])
                          obtain rfl := Option.some.inj h
                          refine ⟨by simp, _, [0, 1], (by simp only [go_sem, Nat.reduceBEq, Nat.reduceLT, Nat.reduceAdd, Nat.reduceLeDiff, Nat.reduceSub, Nat.reduceEqDiff, Int.reduceToNat, reduceCtorEq, ↓reduceIte]; exact rfl), ?_, ?_, ?_, ?_⟩
                          · first | exact trivial | exact ⟨trivial, trivial⟩ | exact ⟨trivial, trivial, trivial⟩ | exact ⟨trivial, trivial, trivial, trivial⟩ | (simp only [allP, and_true, true_and]; done) | (simp only [allP, and_true, true_and]; omega)
                          · simp [selOk, pos]
                          · simp
                          · first | exact ⟨rfl, rfl⟩ | (simp only [go_sem, Nat.reduceBEq, Nat.reduceLT, Nat.reduceAdd, Nat.reduceLeDiff, Nat.reduceSub, Nat.reduceEqDiff, Int.reduceToNat, reduceCtorEq, ↓reduceIte]; done) | (simp [go_sem, Nat.reduceBEq, Nat.reduceLT, Nat.reduceAdd, Nat.reduceLeDiff, Nat.reduceSub, Nat.reduceEqDiff, Int.reduceToNat, reduceCtorEq, ↓reduceIte]; done) | (simp only [go_sem, Nat.reduceBEq, Nat.reduceLT, Nat.reduceAdd, Nat.reduceLeDiff, Nat.reduceSub, Nat.reduceEqDiff, Int.reduceToNat, reduceCtorEq, ↓reduceIte]; exact ⟨rfl, rfl⟩) | (simp_all [go_sem, Nat.reduceBEq, Nat.reduceLT, Nat.reduceAdd, Nat.reduceLeDiff, Nat.reduceSub, Nat.reduceEqDiff, Int.reduceToNat, reduceCtorEq, ↓reduceIte]; done)
                      · replace h := bite_t h rfl
                        replace h := bind_some h
                        obtain ⟨y_19, hr12, h⟩ := h
                        try dsimp only at h
                        refine awp_to [(2, .v (.bool y_19))] [.row false (.ints .u8 a0), .glob 0 (.ints .u8 tab0), .row true (.trips y_1), .box [.v (.int .i64 y), .sl 2], .row true (.ints .i64 y_2), .row true (.ints .i64 y_3), .row true (.trips y_6), .box [.v (.int .i64 y_5), .sl 6], .row true (.ints .i64 y_8), .row true (.ints .i64 y_10), .row true (.ints .i64 y_11), .row true (.ints .i64 y_13), .row true (.ints .i64 y_14), .row true (.ints .i64 y_16), .row true (.ints .i64 y_17)] ?_ ?_
                        · clear h
                          intro K hK
                          refine awp_drawL [0, 1, 2, 3, 4, 5, 6, 7] [] 34 lz0_laws_FnTurnShapes mixed ftCOk (by kernel_rfl) (by first | rfl | kernel_rfl) (by rfl) (by simp) fun L hL => ?_
                          have n21 : L 0 lz1_laws_FnTurnShapes [(2, .v (.bool y_19))] [.row false (.ints .u8 a0), .glob 0 (.ints .u8 tab0), .row true (.trips y_1), .box [.v (.int .i64 y), .sl 2], .row true (.ints .i64 y_2), .row true (.ints .i64 y_3), .row true (.trips y_6), .box [.v (.int .i64 y_5), .sl 6], .row true (.ints .i64 y_8), .row true (.ints .i64 y_10), .row true (.ints .i64 y_11), .row true (.ints .i64 y_13), .row true (.ints .i64 y_14), .row true (.ints .i64 y_16), .row true (.ints .i64 y_17)] := by
                            exact hL.fin (by kernel_rfl) (hK _ _ Red.auto)
                          have n20 : L 3 lz2_laws_FnTurnShapes [(50, .v (.bool true))] [.row false (.ints .u8 a0), .glob 0 (.ints .u8 tab0), .row true (.trips y_1), .box [.v (.int .i64 y), .sl 2], .row true (.ints .i64 y_2), .row true (.ints .i64 y_3), .row true (.trips y_6), .box [.v (.int .i64 y_5), .sl 6], .row true (.ints .i64 y_8), .row true (.ints .i64 y_10), .row true (.ints .i64 y_11), .row true (.ints .i64 y_13), .row true (.ints .i64 y_14), .row true (.ints .i64 y_16), .row true (.ints .i64 y_17)] := by
                            refine hL.step [(31, [32, 33], 0, lz1_laws_FnTurnShapes)] (by kernel_rfl) ⟨?_, trivial⟩
                            · simp (maxSteps := 4000000) only [go_sem, Nat.reduceBEq, Nat.reduceLT, Nat.reduceAdd, Nat.reduceLeDiff, Nat.reduceSub, Nat.reduceEqDiff, Int.reduceToNat, reduceCtorEq, ↓reduceIte]
                              repeat' (first | refine And.intro ?_ ?_ | intro hg)
                              all_goals (try simp (disch := omega) only [wrap_fits])
                              all_goals first
                                | (refine hL.red ?_ n21; exact Red.auto)
                                | exact trivial
                                | assumption
                                | omega
                                | exact wrap_fits (by omega) (by omega)
                                | (refine OpK_callA (k_laws_alive  (h := hr12)) [] [] ?_
                                   rintro x Hc' ⟨rfl, rfl⟩ hlen
                                   simp (maxSteps := 4000000) only [go_sem, Nat.reduceBEq, Nat.reduceLT, Nat.reduceAdd, Nat.reduceLeDiff, Nat.reduceSub, Nat.reduceEqDiff, Int.reduceToNat, reduceCtorEq, ↓reduceIte]
                                   repeat' (first | refine And.intro ?_ ?_ | intro hg)
                                   all_goals (try simp (disch := omega) only [wrap_fits])
                                   all_goals first
                                     | (refine hL.red ?_ n21; exact Red.auto)
                                     | exact trivial
                                     | assumption
                                     | omega
                                     | exact wrap_fits (by omega) (by omega)
                                     | (simp_all; done)
                                     | (simp_all; omega))
                                | (simp (maxSteps := 4000000) only [go_sem, Nat.reduceBEq, Nat.reduceLT, Nat.reduceAdd, Nat.reduceLeDiff, Nat.reduceSub, Nat.reduceEqDiff, Int.reduceToNat, reduceCtorEq, ↓reduceIte]
                                   repeat' (first | refine And.intro ?_ ?_ | intro hg)
                                   all_goals (try simp (disch := omega) only [wrap_fits])
                                   all_goals first | (refine hL.red ?_ n21; exact Red.auto) | exact trivial | assumption | omega | exact wrap_fits (by omega) (by omega))
                                | (simp_all; done)
                                | (simp_all; omega)
                          have n19 : L 7 lz4_laws_FnTurnShapes [(23, .v (.bool false)), (42, .v (.bool true)), (44, .sl 13), (46, .sl 14)] [.row false (.ints .u8 a0), .glob 0 (.ints .u8 tab0), .row true (.trips y_1), .box [.v (.int .i64 y), .sl 2], .row true (.ints .i64 y_2), .row true (.ints .i64 y_3), .row true (.trips y_6), .box [.v (.int .i64 y_5), .sl 6], .row true (.ints .i64 y_8), .row true (.ints .i64 y_10), .row true (.ints .i64 y_11), .row true (.ints .i64 y_13), .row true (.ints .i64 y_14), .row true (.ints .i64 y_16), .row true (.ints .i64 y_17)] := by
                            refine hL.step [(27, [28, 29, 30], 3, lz2_laws_FnTurnShapes)] (by kernel_rfl) ⟨?_, trivial⟩
                            · simp (maxSteps := 4000000) only [go_sem, Nat.reduceBEq, Nat.reduceLT, Nat.reduceAdd, Nat.reduceLeDiff, Nat.reduceSub, Nat.reduceEqDiff, Int.reduceToNat, reduceCtorEq, ↓reduceIte]
                              repeat' (first | refine And.intro ?_ ?_ | intro hg)
                              all_goals (try simp (disch := omega) only [wrap_fits])
                              all_goals first
                                | (refine hL.red ?_ n20; exact Red.auto)
                                | exact trivial
                                | assumption
                                | omega
                                | exact wrap_fits (by omega) (by omega)
                                | (refine OpK_callA (k_laws_sameInts y_16 y_17 (h := hr11)) [13, 14] [] ?_
                                   rintro x Hc' ⟨rfl, rfl⟩ hlen
                                   simp (maxSteps := 4000000) only [go_sem, Nat.reduceBEq, Nat.reduceLT, Nat.reduceAdd, Nat.reduceLeDiff, Nat.reduceSub, Nat.reduceEqDiff, Int.reduceToNat, reduceCtorEq, ↓reduceIte]
                                   repeat' (first | refine And.intro ?_ ?_ | intro hg)
                                   all_goals (try simp (disch := omega) only [wrap_fits])
                                   all_goals first
                                     | (refine hL.red ?_ n20; exact Red.auto)
                                     | exact trivial
                                     | assumption
                                     | omega
                                     | exact wrap_fits (by omega) (by omega)
                                     | (simp_all; done)
                                     | (simp_all; omega))
                                | (simp (maxSteps := 4000000) only [go_sem, Nat.reduceBEq, Nat.reduceLT, Nat.reduceAdd, Nat.reduceLeDiff, Nat.reduceSub, Nat.reduceEqDiff, Int.reduceToNat, reduceCtorEq, ↓reduceIte]
                                   repeat' (first | refine And.intro ?_ ?_ | intro hg)
                                   all_goals (try simp (disch := omega) only [wrap_fits])
                                   all_goals first | (refine hL.red ?_ n20; exact Red.auto) | exact trivial | assumption | omega | exact wrap_fits (by omega) (by omega))
                                | (simp_all; done)
                                | (simp_all; omega)
                          have n18 : L 8 lz5_laws_FnTurnShapes [(23, .v (.bool false)), (42, .v (.bool true)), (44, .sl 13), (45, .agg [.v (.int .i64 y), .sl 2])] [.row false (.ints .u8 a0), .glob 0 (.ints .u8 tab0), .row true (.trips y_1), .box [.v (.int .i64 y), .sl 2], .row true (.ints .i64 y_2), .row true (.ints .i64 y_3), .row true (.trips y_6), .box [.v (.int .i64 y_5), .sl 6], .row true (.ints .i64 y_8), .row true (.ints .i64 y_10), .row true (.ints .i64 y_11), .row true (.ints .i64 y_13), .row true (.ints .i64 y_14), .row true (.ints .i64 y_16)] := by
                            refine hL.step [(26, [], 7, lz4_laws_FnTurnShapes)] (by kernel_rfl) ⟨?_, trivial⟩
                            · simp (maxSteps := 4000000) only [go_sem, Nat.reduceBEq, Nat.reduceLT, Nat.reduceAdd, Nat.reduceLeDiff, Nat.reduceSub, Nat.reduceEqDiff, Int.reduceToNat, reduceCtorEq, ↓reduceIte]
                              repeat' (first | refine And.intro ?_ ?_ | intro hg)
                              all_goals (try simp (disch := omega) only [wrap_fits])
                              all_goals first
                                | (refine hL.red ?_ n19; exact Red.auto)
                                | exact trivial
                                | assumption
                                | omega
                                | exact wrap_fits (by omega) (by omega)
                                | (refine OpK_callA (k_impl_TrianglesAt y y_1 (h := hr10)) [2, 1] [] ?_
                                   rintro x Hc' ⟨rfl, rfl⟩ hlen
                                   simp (maxSteps := 4000000) only [go_sem, Nat.reduceBEq, Nat.reduceLT, Nat.reduceAdd, Nat.reduceLeDiff, Nat.reduceSub, Nat.reduceEqDiff, Int.reduceToNat, reduceCtorEq, ↓reduceIte]
                                   repeat' (first | refine And.intro ?_ ?_ | intro hg)
                                   all_goals (try simp (disch := omega) only [wrap_fits])
                                   all_goals first
                                     | (refine hL.red ?_ n19; exact Red.auto)
                                     | exact trivial
                                     | assumption
                                     | omega
                                     | exact wrap_fits (by omega) (by omega)
                                     | (simp_all; done)
                                     | (simp_all; omega))
                                | (simp (maxSteps := 4000000) only [go_sem, Nat.reduceBEq, Nat.reduceLT, Nat.reduceAdd, Nat.reduceLeDiff, Nat.reduceSub, Nat.reduceEqDiff, Int.reduceToNat, reduceCtorEq, ↓reduceIte]
                                   repeat' (first | refine And.intro ?_ ?_ | intro hg)
                                   all_goals (try simp (disch := omega) only [wrap_fits])
                                   all_goals first | (refine hL.red ?_ n19; exact Red.auto) | exact trivial | assumption | omega | exact wrap_fits (by omega) (by omega))
                                | (simp_all; done)
                                | (simp_all; omega)
                          have n17 : L 9 lz19_laws_FnTurnShapes [(3, .pp 3 0), (23, .v (.bool false)), (42, .v (.bool true)), (44, .sl 13)] [.row false (.ints .u8 a0), .glob 0 (.ints .u8 tab0), .row true (.trips y_1), .box [.v (.int .i64 y), .sl 2], .row true (.ints .i64 y_2), .row true (.ints .i64 y_3), .row true (.trips y_6), .box [.v (.int .i64 y_5), .sl 6], .row true (.ints .i64 y_8), .row true (.ints .i64 y_10), .row true (.ints .i64 y_11), .row true (.ints .i64 y_13), .row true (.ints .i64 y_14), .row true (.ints .i64 y_16)] := by
                            refine hL.step [(25, [], 8, lz5_laws_FnTurnShapes)] (by kernel_rfl) ⟨?_, trivial⟩
                            · exact hL.edge n18
                          have n22 : L 9 lz6_laws_FnTurnShapes [(23, .v (.bool false)), (42, .v (.bool true)), (43, .agg [.v (.int .i64 y_5), .sl 6]), (45, .agg [.v (.int .i64 y), .sl 2])] [.row false (.ints .u8 a0), .glob 0 (.ints .u8 tab0), .row true (.trips y_1), .box [.v (.int .i64 y), .sl 2], .row true (.ints .i64 y_2), .row true (.ints .i64 y_3), .row true (.trips y_6), .box [.v (.int .i64 y_5), .sl 6], .row true (.ints .i64 y_8), .row true (.ints .i64 y_10), .row true (.ints .i64 y_11), .row true (.ints .i64 y_13), .row true (.ints .i64 y_14)] := by
                            refine hL.step [(24, [], 8, lz5_laws_FnTurnShapes)] (by kernel_rfl) ⟨?_, trivial⟩
                            · simp (maxSteps := 4000000) only [go_sem, Nat.reduceBEq, Nat.reduceLT, Nat.reduceAdd, Nat.reduceLeDiff, Nat.reduceSub, Nat.reduceEqDiff, Int.reduceToNat, reduceCtorEq, ↓reduceIte]
                              repeat' (first | refine And.intro ?_ ?_ | intro hg)
                              all_goals (try simp (disch := omega) only [wrap_fits])
                              all_goals first
                                | (refine hL.red ?_ n18; exact Red.auto)
                                | exact trivial
                                | assumption
                                | omega
                                | exact wrap_fits (by omega) (by omega)
                                | (refine OpK_callA (k_impl_TrianglesAt y_5 y_6 (h := hr9)) [6, 1] [] ?_
                                   rintro x Hc' ⟨rfl, rfl⟩ hlen
                                   simp (maxSteps := 4000000) only [go_sem, Nat.reduceBEq, Nat.reduceLT, Nat.reduceAdd, Nat.reduceLeDiff, Nat.reduceSub, Nat.reduceEqDiff, Int.reduceToNat, reduceCtorEq, ↓reduceIte]
                                   repeat' (first | refine And.intro ?_ ?_ | intro hg)
                                   all_goals (try simp (disch := omega) only [wrap_fits])
                                   all_goals first
                                     | (refine hL.red ?_ n18; exact Red.auto)
                                     | exact trivial
                                     | assumption
                                     | omega
                                     | exact wrap_fits (by omega) (by omega)
                                     | (simp_all; done)
                                     | (simp_all; omega))
                                | (simp (maxSteps := 4000000) only [go_sem, Nat.reduceBEq, Nat.reduceLT, Nat.reduceAdd, Nat.reduceLeDiff, Nat.reduceSub, Nat.reduceEqDiff, Int.reduceToNat, reduceCtorEq, ↓reduceIte]
                                   repeat' (first | refine And.intro ?_ ?_ | intro hg)
                                   all_goals (try simp (disch := omega) only [wrap_fits])
                                   all_goals first | (refine hL.red ?_ n18; exact Red.auto) | exact trivial | assumption | omega | exact wrap_fits (by omega) (by omega))
                                | (simp_all; done)
                                | (simp_all; omega)
                          have n16 : L 10 lz20_laws_FnTurnShapes [(3, .pp 3 0), (23, .v (.bool false)), (42, .v (.bool true)), (43, .agg [.v (.int .i64 y_5), .sl 6])] [.row false (.ints .u8 a0), .glob 0 (.ints .u8 tab0), .row true (.trips y_1), .box [.v (.int .i64 y), .sl 2], .row true (.ints .i64 y_2), .row true (.ints .i64 y_3), .row true (.trips y_6), .box [.v (.int .i64 y_5), .sl 6], .row true (.ints .i64 y_8), .row true (.ints .i64 y_10), .row true (.ints .i64 y_11), .row true (.ints .i64 y_13), .row true (.ints .i64 y_14)] := by
                            refine hL.step [(24, [], 9, lz19_laws_FnTurnShapes), (25, [], 9, lz6_laws_FnTurnShapes)] (by kernel_rfl) ⟨?_, ?_, trivial⟩
                            · simp (maxSteps := 4000000) only [go_sem, Nat.reduceBEq, Nat.reduceLT, Nat.reduceAdd, Nat.reduceLeDiff, Nat.reduceSub, Nat.reduceEqDiff, Int.reduceToNat, reduceCtorEq, ↓reduceIte]
                              repeat' (first | refine And.intro ?_ ?_ | intro hg)
                              all_goals (try simp (disch := omega) only [wrap_fits])
                              all_goals first
                                | (refine hL.red ?_ n17; exact Red.auto)
                                | exact trivial
                                | assumption
                                | omega
                                | exact wrap_fits (by omega) (by omega)
                                | (refine OpK_callA (k_impl_TrianglesAt y_5 y_6 (h := hr9)) [6, 1] [] ?_
                                   rintro x Hc' ⟨rfl, rfl⟩ hlen
                                   simp (maxSteps := 4000000) only [go_sem, Nat.reduceBEq, Nat.reduceLT, Nat.reduceAdd, Nat.reduceLeDiff, Nat.reduceSub, Nat.reduceEqDiff, Int.reduceToNat, reduceCtorEq, ↓reduceIte]
                                   repeat' (first | refine And.intro ?_ ?_ | intro hg)
                                   all_goals (try simp (disch := omega) only [wrap_fits])
                                   all_goals first
                                     | (refine hL.red ?_ n17; exact Red.auto)
                                     | exact trivial
                                     | assumption
                                     | omega
                                     | exact wrap_fits (by omega) (by omega)
                                     | (simp_all; done)
                                     | (simp_all; omega))
                                | (simp (maxSteps := 4000000) only [go_sem, Nat.reduceBEq, Nat.reduceLT, Nat.reduceAdd, Nat.reduceLeDiff, Nat.reduceSub, Nat.reduceEqDiff, Int.reduceToNat, reduceCtorEq, ↓reduceIte]
                                   repeat' (first | refine And.intro ?_ ?_ | intro hg)
                                   all_goals (try simp (disch := omega) only [wrap_fits])
                                   all_goals first | (refine hL.red ?_ n17; exact Red.auto) | exact trivial | assumption | omega | exact wrap_fits (by omega) (by omega))
                                | (simp_all; done)
                                | (simp_all; omega)
                            · exact hL.edge n22
                          have n23 : L 10 lz21_laws_FnTurnShapes [(5, .pp 7 0), (23, .v (.bool false)), (42, .v (.bool true)), (45, .agg [.v (.int .i64 y), .sl 2])] [.row false (.ints .u8 a0), .glob 0 (.ints .u8 tab0), .row true (.trips y_1), .box [.v (.int .i64 y), .sl 2], .row true (.ints .i64 y_2), .row true (.ints .i64 y_3), .row true (.trips y_6), .box [.v (.int .i64 y_5), .sl 6], .row true (.ints .i64 y_8), .row true (.ints .i64 y_10), .row true (.ints .i64 y_11), .row true (.ints .i64 y_13), .row true (.ints .i64 y_14)] := by
                            refine hL.step [(23, [], 9, lz6_laws_FnTurnShapes)] (by kernel_rfl) ⟨?_, trivial⟩
                            · exact hL.edge n22
                          have n15 : L 11 lz22_laws_FnTurnShapes [(3, .pp 3 0), (5, .pp 7 0), (23, .v (.bool false)), (42, .v (.bool true))] [.row false (.ints .u8 a0), .glob 0 (.ints .u8 tab0), .row true (.trips y_1), .box [.v (.int .i64 y), .sl 2], .row true (.ints .i64 y_2), .row true (.ints .i64 y_3), .row true (.trips y_6), .box [.v (.int .i64 y_5), .sl 6], .row true (.ints .i64 y_8), .row true (.ints .i64 y_10), .row true (.ints .i64 y_11), .row true (.ints .i64 y_13), .row true (.ints .i64 y_14)] := by
                            refine hL.step [(23, [], 10, lz20_laws_FnTurnShapes), (25, [], 10, lz21_laws_FnTurnShapes)] (by kernel_rfl) ⟨?_, ?_, trivial⟩
                            · exact hL.edge n16
                            · exact hL.edge n23
                          have n14 : L 14 lz8_laws_FnTurnShapes [(3, .pp 3 0), (5, .pp 7 0), (23, .v (.bool false)), (35, .v (.bool true)), (37, .sl 11), (39, .sl 12)] [.row false (.ints .u8 a0), .glob 0 (.ints .u8 tab0), .row true (.trips y_1), .box [.v (.int .i64 y), .sl 2], .row true (.ints .i64 y_2), .row true (.ints .i64 y_3), .row true (.trips y_6), .box [.v (.int .i64 y_5), .sl 6], .row true (.ints .i64 y_8), .row true (.ints .i64 y_10), .row true (.ints .i64 y_11), .row true (.ints .i64 y_13), .row true (.ints .i64 y_14)] := by
                            refine hL.step [(20, [21, 22], 11, lz22_laws_FnTurnShapes)] (by kernel_rfl) ⟨?_, trivial⟩
                            · simp (maxSteps := 4000000) only [go_sem, Nat.reduceBEq, Nat.reduceLT, Nat.reduceAdd, Nat.reduceLeDiff, Nat.reduceSub, Nat.reduceEqDiff, Int.reduceToNat, reduceCtorEq, ↓reduceIte]
                              repeat' (first | refine And.intro ?_ ?_ | intro hg)
                              all_goals (try simp (disch := omega) only [wrap_fits])
                              all_goals first
                                | (refine hL.red ?_ n15; exact Red.auto)
                                | exact trivial
                                | assumption
                                | omega
                                | exact wrap_fits (by omega) (by omega)
                                | (refine OpK_callA (k_laws_sameInts y_13 y_14 (h := hr8)) [11, 12] [] ?_
                                   rintro x Hc' ⟨rfl, rfl⟩ hlen
                                   simp (maxSteps := 4000000) only [go_sem, Nat.reduceBEq, Nat.reduceLT, Nat.reduceAdd, Nat.reduceLeDiff, Nat.reduceSub, Nat.reduceEqDiff, Int.reduceToNat, reduceCtorEq, ↓reduceIte]
                                   repeat' (first | refine And.intro ?_ ?_ | intro hg)
                                   all_goals (try simp (disch := omega) only [wrap_fits])
                                   all_goals first
                                     | (refine hL.red ?_ n15; exact Red.auto)
                                     | exact trivial
                                     | assumption
                                     | omega
                                     | exact wrap_fits (by omega) (by omega)
                                     | (simp_all; done)
                                     | (simp_all; omega))
                                | (simp (maxSteps := 4000000) only [go_sem, Nat.reduceBEq, Nat.reduceLT, Nat.reduceAdd, Nat.reduceLeDiff, Nat.reduceSub, Nat.reduceEqDiff, Int.reduceToNat, reduceCtorEq, ↓reduceIte]
                                   repeat' (first | refine And.intro ?_ ?_ | intro hg)
                                   all_goals (try simp (disch := omega) only [wrap_fits])
                                   all_goals first | (refine hL.red ?_ n15; exact Red.auto) | exact trivial | assumption | omega | exact wrap_fits (by omega) (by omega))
                                | (simp_all; done)
                                | (simp_all; omega)
                          have n13 : L 15 lz9_laws_FnTurnShapes [(3, .pp 3 0), (5, .pp 7 0), (23, .v (.bool false)), (35, .v (.bool true)), (37, .sl 11), (38, .agg [.v (.int .i64 y), .sl 2])] [.row false (.ints .u8 a0), .glob 0 (.ints .u8 tab0), .row true (.trips y_1), .box [.v (.int .i64 y), .sl 2], .row true (.ints .i64 y_2), .row true (.ints .i64 y_3), .row true (.trips y_6), .box [.v (.int .i64 y_5), .sl 6], .row true (.ints .i64 y_8), .row true (.ints .i64 y_10), .row true (.ints .i64 y_11), .row true (.ints .i64 y_13)] := by
                            refine hL.step [(19, [], 14, lz8_laws_FnTurnShapes)] (by kernel_rfl) ⟨?_, trivial⟩
                            · simp (maxSteps := 4000000) only [go_sem, Nat.reduceBEq, Nat.reduceLT, Nat.reduceAdd, Nat.reduceLeDiff, Nat.reduceSub, Nat.reduceEqDiff, Int.reduceToNat, reduceCtorEq, ↓reduceIte]
                              repeat' (first | refine And.intro ?_ ?_ | intro hg)
                              all_goals (try simp (disch := omega) only [wrap_fits])
                              all_goals first
                                | (refine hL.red ?_ n14; exact Red.auto)
                                | exact trivial
                                | assumption
                                | omega
                                | exact wrap_fits (by omega) (by omega)
                                | (refine OpK_callA (k_impl_LeastInPart y y_1 (h := hr7)) [2, 1] [] ?_
                                   rintro x Hc' ⟨rfl, rfl⟩ hlen
                                   simp (maxSteps := 4000000) only [go_sem, Nat.reduceBEq, Nat.reduceLT, Nat.reduceAdd, Nat.reduceLeDiff, Nat.reduceSub, Nat.reduceEqDiff, Int.reduceToNat, reduceCtorEq, ↓reduceIte]
                                   repeat' (first | refine And.intro ?_ ?_ | intro hg)
                                   all_goals (try simp (disch := omega) only [wrap_fits])
                                   all_goals first
                                     | (refine hL.red ?_ n14; exact Red.auto)
                                     | exact trivial
                                     | assumption
                                     | omega
                                     | exact wrap_fits (by omega) (by omega)
                                     | (simp_all; done)
                                     | (simp_all; omega))
                                | (simp (maxSteps := 4000000) only [go_sem, Nat.reduceBEq, Nat.reduceLT, Nat.reduceAdd, Nat.reduceLeDiff, Nat.reduceSub, Nat.reduceEqDiff, Int.reduceToNat, reduceCtorEq, ↓reduceIte]
                                   repeat' (first | refine And.intro ?_ ?_ | intro hg)
                                   all_goals (try simp (disch := omega) only [wrap_fits])
                                   all_goals first | (refine hL.red ?_ n14; exact Red.auto) | exact trivial | assumption | omega | exact wrap_fits (by omega) (by omega))
                                | (simp_all; done)
                                | (simp_all; omega)
                          have n12 : L 16 lz23_laws_FnTurnShapes [(3, .pp 3 0), (5, .pp 7 0), (23, .v (.bool false)), (35, .v (.bool true)), (37, .sl 11)] [.row false (.ints .u8 a0), .glob 0 (.ints .u8 tab0), .row true (.trips y_1), .box [.v (.int .i64 y), .sl 2], .row true (.ints .i64 y_2), .row true (.ints .i64 y_3), .row true (.trips y_6), .box [.v (.int .i64 y_5), .sl 6], .row true (.ints .i64 y_8), .row true (.ints .i64 y_10), .row true (.ints .i64 y_11), .row true (.ints .i64 y_13)] := by
                            refine hL.step [(18, [], 15, lz9_laws_FnTurnShapes)] (by kernel_rfl) ⟨?_, trivial⟩
                            · exact hL.edge n13
                          have n24 : L 16 lz10_laws_FnTurnShapes [(3, .pp 3 0), (5, .pp 7 0), (23, .v (.bool false)), (35, .v (.bool true)), (36, .agg [.v (.int .i64 y_5), .sl 6]), (38, .agg [.v (.int .i64 y), .sl 2])] [.row false (.ints .u8 a0), .glob 0 (.ints .u8 tab0), .row true (.trips y_1), .box [.v (.int .i64 y), .sl 2], .row true (.ints .i64 y_2), .row true (.ints .i64 y_3), .row true (.trips y_6), .box [.v (.int .i64 y_5), .sl 6], .row true (.ints .i64 y_8), .row true (.ints .i64 y_10), .row true (.ints .i64 y_11)] := by
                            refine hL.step [(17, [], 15, lz9_laws_FnTurnShapes)] (by kernel_rfl) ⟨?_, trivial⟩
                            · simp (maxSteps := 4000000) only [go_sem, Nat.reduceBEq, Nat.reduceLT, Nat.reduceAdd, Nat.reduceLeDiff, Nat.reduceSub, Nat.reduceEqDiff, Int.reduceToNat, reduceCtorEq, ↓reduceIte]
                              repeat' (first | refine And.intro ?_ ?_ | intro hg)
                              all_goals (try simp (disch := omega) only [wrap_fits])
                              all_goals first
                                | (refine hL.red ?_ n13; exact Red.auto)
                                | exact trivial
                                | assumption
                                | omega
                                | exact wrap_fits (by omega) (by omega)
                                | (refine OpK_callA (k_impl_LeastInPart y_5 y_6 (h := hr6)) [6, 1] [] ?_
                                   rintro x Hc' ⟨rfl, rfl⟩ hlen
                                   simp (maxSteps := 4000000) only [go_sem, Nat.reduceBEq, Nat.reduceLT, Nat.reduceAdd, Nat.reduceLeDiff, Nat.reduceSub, Nat.reduceEqDiff, Int.reduceToNat, reduceCtorEq, ↓reduceIte]
                                   repeat' (first | refine And.intro ?_ ?_ | intro hg)
                                   all_goals (try simp (disch := omega) only [wrap_fits])
                                   all_goals first
                                     | (refine hL.red ?_ n13; exact Red.auto)
                                     | exact trivial
                                     | assumption
                                     | omega
                                     | exact wrap_fits (by omega) (by omega)
                                     | (simp_all; done)
                                     | (simp_all; omega))
                                | (simp (maxSteps := 4000000) only [go_sem, Nat.reduceBEq, Nat.reduceLT, Nat.reduceAdd, Nat.reduceLeDiff, Nat.reduceSub, Nat.reduceEqDiff, Int.reduceToNat, reduceCtorEq, ↓reduceIte]
                                   repeat' (first | refine And.intro ?_ ?_ | intro hg)
                                   all_goals (try simp (disch := omega) only [wrap_fits])
                                   all_goals first | (refine hL.red ?_ n13; exact Red.auto) | exact trivial | assumption | omega | exact wrap_fits (by omega) (by omega))
                                | (simp_all; done)
                                | (simp_all; omega)
                          have n11 : L 17 lz24_laws_FnTurnShapes [(3, .pp 3 0), (5, .pp 7 0), (23, .v (.bool false)), (35, .v (.bool true)), (36, .agg [.v (.int .i64 y_5), .sl 6])] [.row false (.ints .u8 a0), .glob 0 (.ints .u8 tab0), .row true (.trips y_1), .box [.v (.int .i64 y), .sl 2], .row true (.ints .i64 y_2), .row true (.ints .i64 y_3), .row true (.trips y_6), .box [.v (.int .i64 y_5), .sl 6], .row true (.ints .i64 y_8), .row true (.ints .i64 y_10), .row true (.ints .i64 y_11)] := by
                            refine hL.step [(17, [], 16, lz23_laws_FnTurnShapes), (18, [], 16, lz10_laws_FnTurnShapes)] (by kernel_rfl) ⟨?_, ?_, trivial⟩
                            · simp (maxSteps := 4000000) only [go_sem, Nat.reduceBEq, Nat.reduceLT, Nat.reduceAdd, Nat.reduceLeDiff, Nat.reduceSub, Nat.reduceEqDiff, Int.reduceToNat, reduceCtorEq, ↓reduceIte]
                              repeat' (first | refine And.intro ?_ ?_ | intro hg)
                              all_goals (try simp (disch := omega) only [wrap_fits])
                              all_goals first
                                | (refine hL.red ?_ n12; exact Red.auto)
                                | exact trivial
                                | assumption
                                | omega
                                | exact wrap_fits (by omega) (by omega)
                                | (refine OpK_callA (k_impl_LeastInPart y_5 y_6 (h := hr6)) [6, 1] [] ?_
                                   rintro x Hc' ⟨rfl, rfl⟩ hlen
                                   simp (maxSteps := 4000000) only [go_sem, Nat.reduceBEq, Nat.reduceLT, Nat.reduceAdd, Nat.reduceLeDiff, Nat.reduceSub, Nat.reduceEqDiff, Int.reduceToNat, reduceCtorEq, ↓reduceIte]
                                   repeat' (first | refine And.intro ?_ ?_ | intro hg)
                                   all_goals (try simp (disch := omega) only [wrap_fits])
                                   all_goals first
                                     | (refine hL.red ?_ n12; exact Red.auto)
                                     | exact trivial
                                     | assumption
                                     | omega
                                     | exact wrap_fits (by omega) (by omega)
                                     | (simp_all; done)
                                     | (simp_all; omega))
                                | (simp (maxSteps := 4000000) only [go_sem, Nat.reduceBEq, Nat.reduceLT, Nat.reduceAdd, Nat.reduceLeDiff, Nat.reduceSub, Nat.reduceEqDiff, Int.reduceToNat, reduceCtorEq, ↓reduceIte]
                                   repeat' (first | refine And.intro ?_ ?_ | intro hg)
                                   all_goals (try simp (disch := omega) only [wrap_fits])
                                   all_goals first | (refine hL.red ?_ n12; exact Red.auto) | exact trivial | assumption | omega | exact wrap_fits (by omega) (by omega))
                                | (simp_all; done)
                                | (simp_all; omega)
                            · exact hL.edge n24
                          have n25 : L 17 lz25_laws_FnTurnShapes [(3, .pp 3 0), (5, .pp 7 0), (23, .v (.bool false)), (35, .v (.bool true)), (38, .agg [.v (.int .i64 y), .sl 2])] [.row false (.ints .u8 a0), .glob 0 (.ints .u8 tab0), .row true (.trips y_1), .box [.v (.int .i64 y), .sl 2], .row true (.ints .i64 y_2), .row true (.ints .i64 y_3), .row true (.trips y_6), .box [.v (.int .i64 y_5), .sl 6], .row true (.ints .i64 y_8), .row true (.ints .i64 y_10), .row true (.ints .i64 y_11)] := by
                            refine hL.step [(16, [], 16, lz10_laws_FnTurnShapes)] (by kernel_rfl) ⟨?_, trivial⟩
                            · exact hL.edge n24
                          have n10 : L 18 lz26_laws_FnTurnShapes [(3, .pp 3 0), (5, .pp 7 0), (23, .v (.bool false)), (35, .v (.bool true))] [.row false (.ints .u8 a0), .glob 0 (.ints .u8 tab0), .row true (.trips y_1), .box [.v (.int .i64 y), .sl 2], .row true (.ints .i64 y_2), .row true (.ints .i64 y_3), .row true (.trips y_6), .box [.v (.int .i64 y_5), .sl 6], .row true (.ints .i64 y_8), .row true (.ints .i64 y_10), .row true (.ints .i64 y_11)] := by
                            refine hL.step [(16, [], 17, lz24_laws_FnTurnShapes), (18, [], 17, lz25_laws_FnTurnShapes)] (by kernel_rfl) ⟨?_, ?_, trivial⟩
                            · exact hL.edge n11
                            · exact hL.edge n25
                          have n9 : L 21 lz12_laws_FnTurnShapes [(3, .pp 3 0), (5, .pp 7 0), (23, .v (.bool false)), (28, .v (.bool true)), (30, .sl 9), (32, .sl 10)] [.row false (.ints .u8 a0), .glob 0 (.ints .u8 tab0), .row true (.trips y_1), .box [.v (.int .i64 y), .sl 2], .row true (.ints .i64 y_2), .row true (.ints .i64 y_3), .row true (.trips y_6), .box [.v (.int .i64 y_5), .sl 6], .row true (.ints .i64 y_8), .row true (.ints .i64 y_10), .row true (.ints .i64 y_11)] := by
                            refine hL.step [(13, [14, 15], 18, lz26_laws_FnTurnShapes)] (by kernel_rfl) ⟨?_, trivial⟩
                            · simp (maxSteps := 4000000) only [go_sem, Nat.reduceBEq, Nat.reduceLT, Nat.reduceAdd, Nat.reduceLeDiff, Nat.reduceSub, Nat.reduceEqDiff, Int.reduceToNat, reduceCtorEq, ↓reduceIte]
                              repeat' (first | refine And.intro ?_ ?_ | intro hg)
                              all_goals (try simp (disch := omega) only [wrap_fits])
                              all_goals first
                                | (refine hL.red ?_ n10; exact Red.auto)
                                | exact trivial
                                | assumption
                                | omega
                                | exact wrap_fits (by omega) (by omega)
                                | (refine OpK_callA (k_laws_sameInts y_10 y_11 (h := hr5)) [9, 10] [] ?_
                                   rintro x Hc' ⟨rfl, rfl⟩ hlen
                                   simp (maxSteps := 4000000) only [go_sem, Nat.reduceBEq, Nat.reduceLT, Nat.reduceAdd, Nat.reduceLeDiff, Nat.reduceSub, Nat.reduceEqDiff, Int.reduceToNat, reduceCtorEq, ↓reduceIte]
                                   repeat' (first | refine And.intro ?_ ?_ | intro hg)
                                   all_goals (try simp (disch := omega) only [wrap_fits])
                                   all_goals first
                                     | (refine hL.red ?_ n10; exact Red.auto)
                                     | exact trivial
                                     | assumption
                                     | omega
                                     | exact wrap_fits (by omega) (by omega)
                                     | (simp_all; done)
                                     | (simp_all; omega))
                                | (simp (maxSteps := 4000000) only [go_sem, Nat.reduceBEq, Nat.reduceLT, Nat.reduceAdd, Nat.reduceLeDiff, Nat.reduceSub, Nat.reduceEqDiff, Int.reduceToNat, reduceCtorEq, ↓reduceIte]
                                   repeat' (first | refine And.intro ?_ ?_ | intro hg)
                                   all_goals (try simp (disch := omega) only [wrap_fits])
                                   all_goals first | (refine hL.red ?_ n10; exact Red.auto) | exact trivial | assumption | omega | exact wrap_fits (by omega) (by omega))
                                | (simp_all; done)
                                | (simp_all; omega)
                          have n8 : L 22 lz13_laws_FnTurnShapes [(3, .pp 3 0), (5, .pp 7 0), (23, .v (.bool false)), (28, .v (.bool true)), (30, .sl 9), (31, .agg [.v (.int .i64 y), .sl 2])] [.row false (.ints .u8 a0), .glob 0 (.ints .u8 tab0), .row true (.trips y_1), .box [.v (.int .i64 y), .sl 2], .row true (.ints .i64 y_2), .row true (.ints .i64 y_3), .row true (.trips y_6), .box [.v (.int .i64 y_5), .sl 6], .row true (.ints .i64 y_8), .row true (.ints .i64 y_10)] := by
                            refine hL.step [(12, [], 21, lz12_laws_FnTurnShapes)] (by kernel_rfl) ⟨?_, trivial⟩
                            · simp (maxSteps := 4000000) only [go_sem, Nat.reduceBEq, Nat.reduceLT, Nat.reduceAdd, Nat.reduceLeDiff, Nat.reduceSub, Nat.reduceEqDiff, Int.reduceToNat, reduceCtorEq, ↓reduceIte]
                              repeat' (first | refine And.intro ?_ ?_ | intro hg)
                              all_goals (try simp (disch := omega) only [wrap_fits])
                              all_goals first
                                | (refine hL.red ?_ n9; exact Red.auto)
                                | exact trivial
                                | assumption
                                | omega
                                | exact wrap_fits (by omega) (by omega)
                                | (refine OpK_callA (k_impl_DegreesOf y y_1 (h := hr4)) [2] [] ?_
                                   rintro x Hc' ⟨rfl, rfl⟩ hlen
                                   simp (maxSteps := 4000000) only [go_sem, Nat.reduceBEq, Nat.reduceLT, Nat.reduceAdd, Nat.reduceLeDiff, Nat.reduceSub, Nat.reduceEqDiff, Int.reduceToNat, reduceCtorEq, ↓reduceIte]
                                   repeat' (first | refine And.intro ?_ ?_ | intro hg)
                                   all_goals (try simp (disch := omega) only [wrap_fits])
                                   all_goals first
                                     | (refine hL.red ?_ n9; exact Red.auto)
                                     | exact trivial
                                     | assumption
                                     | omega
                                     | exact wrap_fits (by omega) (by omega)
                                     | (simp_all; done)
                                     | (simp_all; omega))
                                | (simp (maxSteps := 4000000) only [go_sem, Nat.reduceBEq, Nat.reduceLT, Nat.reduceAdd, Nat.reduceLeDiff, Nat.reduceSub, Nat.reduceEqDiff, Int.reduceToNat, reduceCtorEq, ↓reduceIte]
                                   repeat' (first | refine And.intro ?_ ?_ | intro hg)
                                   all_goals (try simp (disch := omega) only [wrap_fits])
                                   all_goals first | (refine hL.red ?_ n9; exact Red.auto) | exact trivial | assumption | omega | exact wrap_fits (by omega) (by omega))
                                | (simp_all; done)
                                | (simp_all; omega)
                          have n7 : L 23 lz27_laws_FnTurnShapes [(3, .pp 3 0), (5, .pp 7 0), (23, .v (.bool false)), (28, .v (.bool true)), (30, .sl 9)] [.row false (.ints .u8 a0), .glob 0 (.ints .u8 tab0), .row true (.trips y_1), .box [.v (.int .i64 y), .sl 2], .row true (.ints .i64 y_2), .row true (.ints .i64 y_3), .row true (.trips y_6), .box [.v (.int .i64 y_5), .sl 6], .row true (.ints .i64 y_8), .row true (.ints .i64 y_10)] := by
                            refine hL.step [(11, [], 22, lz13_laws_FnTurnShapes)] (by kernel_rfl) ⟨?_, trivial⟩
                            · exact hL.edge n8
                          have n26 : L 23 lz14_laws_FnTurnShapes [(3, .pp 3 0), (5, .pp 7 0), (23, .v (.bool false)), (28, .v (.bool true)), (29, .agg [.v (.int .i64 y_5), .sl 6]), (31, .agg [.v (.int .i64 y), .sl 2])] [.row false (.ints .u8 a0), .glob 0 (.ints .u8 tab0), .row true (.trips y_1), .box [.v (.int .i64 y), .sl 2], .row true (.ints .i64 y_2), .row true (.ints .i64 y_3), .row true (.trips y_6), .box [.v (.int .i64 y_5), .sl 6], .row true (.ints .i64 y_8)] := by
                            refine hL.step [(10, [], 22, lz13_laws_FnTurnShapes)] (by kernel_rfl) ⟨?_, trivial⟩
                            · simp (maxSteps := 4000000) only [go_sem, Nat.reduceBEq, Nat.reduceLT, Nat.reduceAdd, Nat.reduceLeDiff, Nat.reduceSub, Nat.reduceEqDiff, Int.reduceToNat, reduceCtorEq, ↓reduceIte]
                              repeat' (first | refine And.intro ?_ ?_ | intro hg)
                              all_goals (try simp (disch := omega) only [wrap_fits])
                              all_goals first
                                | (refine hL.red ?_ n8; exact Red.auto)
                                | exact trivial
                                | assumption
                                | omega
                                | exact wrap_fits (by omega) (by omega)
                                | (refine OpK_callA (k_impl_DegreesOf y_5 y_6 (h := hr3)) [6] [] ?_
                                   rintro x Hc' ⟨rfl, rfl⟩ hlen
                                   simp (maxSteps := 4000000) only [go_sem, Nat.reduceBEq, Nat.reduceLT, Nat.reduceAdd, Nat.reduceLeDiff, Nat.reduceSub, Nat.reduceEqDiff, Int.reduceToNat, reduceCtorEq, ↓reduceIte]
                                   repeat' (first | refine And.intro ?_ ?_ | intro hg)
                                   all_goals (try simp (disch := omega) only [wrap_fits])
                                   all_goals first
                                     | (refine hL.red ?_ n8; exact Red.auto)
                                     | exact trivial
                                     | assumption
                                     | omega
                                     | exact wrap_fits (by omega) (by omega)
                                     | (simp_all; done)
                                     | (simp_all; omega))
                                | (simp (maxSteps := 4000000) only [go_sem, Nat.reduceBEq, Nat.reduceLT, Nat.reduceAdd, Nat.reduceLeDiff, Nat.reduceSub, Nat.reduceEqDiff, Int.reduceToNat, reduceCtorEq, ↓reduceIte]
                                   repeat' (first | refine And.intro ?_ ?_ | intro hg)
                                   all_goals (try simp (disch := omega) only [wrap_fits])
                                   all_goals first | (refine hL.red ?_ n8; exact Red.auto) | exact trivial | assumption | omega | exact wrap_fits (by omega) (by omega))
                                | (simp_all; done)
                                | (simp_all; omega)
                          have n6 : L 24 lz28_laws_FnTurnShapes [(3, .pp 3 0), (5, .pp 7 0), (23, .v (.bool false)), (28, .v (.bool true)), (29, .agg [.v (.int .i64 y_5), .sl 6])] [.row false (.ints .u8 a0), .glob 0 (.ints .u8 tab0), .row true (.trips y_1), .box [.v (.int .i64 y), .sl 2], .row true (.ints .i64 y_2), .row true (.ints .i64 y_3), .row true (.trips y_6), .box [.v (.int .i64 y_5), .sl 6], .row true (.ints .i64 y_8)] := by
                            refine hL.step [(10, [], 23, lz27_laws_FnTurnShapes), (11, [], 23, lz14_laws_FnTurnShapes)] (by kernel_rfl) ⟨?_, ?_, trivial⟩
                            · simp (maxSteps := 4000000) only [go_sem, Nat.reduceBEq, Nat.reduceLT, Nat.reduceAdd, Nat.reduceLeDiff, Nat.reduceSub, Nat.reduceEqDiff, Int.reduceToNat, reduceCtorEq, ↓reduceIte]
                              repeat' (first | refine And.intro ?_ ?_ | intro hg)
                              all_goals (try simp (disch := omega) only [wrap_fits])
                              all_goals first
                                | (refine hL.red ?_ n7; exact Red.auto)
                                | exact trivial
                                | assumption
                                | omega
                                | exact wrap_fits (by omega) (by omega)
                                | (refine OpK_callA (k_impl_DegreesOf y_5 y_6 (h := hr3)) [6] [] ?_
                                   rintro x Hc' ⟨rfl, rfl⟩ hlen
                                   simp (maxSteps := 4000000) only [go_sem, Nat.reduceBEq, Nat.reduceLT, Nat.reduceAdd, Nat.reduceLeDiff, Nat.reduceSub, Nat.reduceEqDiff, Int.reduceToNat, reduceCtorEq, ↓reduceIte]
                                   repeat' (first | refine And.intro ?_ ?_ | intro hg)
                                   all_goals (try simp (disch := omega) only [wrap_fits])
                                   all_goals first
                                     | (refine hL.red ?_ n7; exact Red.auto)
                                     | exact trivial
                                     | assumption
                                     | omega
                                     | exact wrap_fits (by omega) (by omega)
                                     | (simp_all; done)
                                     | (simp_all; omega))
                                | (simp (maxSteps := 4000000) only [go_sem, Nat.reduceBEq, Nat.reduceLT, Nat.reduceAdd, Nat.reduceLeDiff, Nat.reduceSub, Nat.reduceEqDiff, Int.reduceToNat, reduceCtorEq, ↓reduceIte]
                                   repeat' (first | refine And.intro ?_ ?_ | intro hg)
                                   all_goals (try simp (disch := omega) only [wrap_fits])
                                   all_goals first | (refine hL.red ?_ n7; exact Red.auto) | exact trivial | assumption | omega | exact wrap_fits (by omega) (by omega))
                                | (simp_all; done)
                                | (simp_all; omega)
                            · exact hL.edge n26
                          have n27 : L 24 lz29_laws_FnTurnShapes [(3, .pp 3 0), (5, .pp 7 0), (23, .v (.bool false)), (28, .v (.bool true)), (31, .agg [.v (.int .i64 y), .sl 2])] [.row false (.ints .u8 a0), .glob 0 (.ints .u8 tab0), .row true (.trips y_1), .box [.v (.int .i64 y), .sl 2], .row true (.ints .i64 y_2), .row true (.ints .i64 y_3), .row true (.trips y_6), .box [.v (.int .i64 y_5), .sl 6], .row true (.ints .i64 y_8)] := by
                            refine hL.step [(9, [], 23, lz14_laws_FnTurnShapes)] (by kernel_rfl) ⟨?_, trivial⟩
                            · exact hL.edge n26
                          have n5 : L 25 lz30_laws_FnTurnShapes [(3, .pp 3 0), (5, .pp 7 0), (23, .v (.bool false)), (28, .v (.bool true))] [.row false (.ints .u8 a0), .glob 0 (.ints .u8 tab0), .row true (.trips y_1), .box [.v (.int .i64 y), .sl 2], .row true (.ints .i64 y_2), .row true (.ints .i64 y_3), .row true (.trips y_6), .box [.v (.int .i64 y_5), .sl 6], .row true (.ints .i64 y_8)] := by
                            refine hL.step [(9, [], 24, lz28_laws_FnTurnShapes), (11, [], 24, lz29_laws_FnTurnShapes)] (by kernel_rfl) ⟨?_, ?_, trivial⟩
                            · exact hL.edge n6
                            · exact hL.edge n27
                          have n4 : L 27 lz15_laws_FnTurnShapes [(3, .pp 3 0), (5, .pp 7 0), (23, .v (.bool false)), (25, .sl 8), (26, .sl 4)] [.row false (.ints .u8 a0), .glob 0 (.ints .u8 tab0), .row true (.trips y_1), .box [.v (.int .i64 y), .sl 2], .row true (.ints .i64 y_2), .row true (.ints .i64 y_3), .row true (.trips y_6), .box [.v (.int .i64 y_5), .sl 6], .row true (.ints .i64 y_8)] := by
                            refine hL.step [(7, [8], 25, lz30_laws_FnTurnShapes)] (by kernel_rfl) ⟨?_, trivial⟩
                            · simp (maxSteps := 4000000) only [go_sem, Nat.reduceBEq, Nat.reduceLT, Nat.reduceAdd, Nat.reduceLeDiff, Nat.reduceSub, Nat.reduceEqDiff, Int.reduceToNat, reduceCtorEq, ↓reduceIte]
                              repeat' (first | refine And.intro ?_ ?_ | intro hg)
                              all_goals (try simp (disch := omega) only [wrap_fits])
                              all_goals first
                                | (refine hL.red ?_ n5; exact Red.auto)
                                | exact trivial
                                | assumption
                                | omega
                                | exact wrap_fits (by omega) (by omega)
                                | (refine OpK_callA (k_laws_sameInts y_8 y_2 (h := hr2)) [8, 4] [] ?_
                                   rintro x Hc' ⟨rfl, rfl⟩ hlen
                                   simp (maxSteps := 4000000) only [go_sem, Nat.reduceBEq, Nat.reduceLT, Nat.reduceAdd, Nat.reduceLeDiff, Nat.reduceSub, Nat.reduceEqDiff, Int.reduceToNat, reduceCtorEq, ↓reduceIte]
                                   repeat' (first | refine And.intro ?_ ?_ | intro hg)
                                   all_goals (try simp (disch := omega) only [wrap_fits])
                                   all_goals first
                                     | (refine hL.red ?_ n5; exact Red.auto)
                                     | exact trivial
                                     | assumption
                                     | omega
                                     | exact wrap_fits (by omega) (by omega)
                                     | (simp_all; done)
                                     | (simp_all; omega))
                                | (simp (maxSteps := 4000000) only [go_sem, Nat.reduceBEq, Nat.reduceLT, Nat.reduceAdd, Nat.reduceLeDiff, Nat.reduceSub, Nat.reduceEqDiff, Int.reduceToNat, reduceCtorEq, ↓reduceIte]
                                   repeat' (first | refine And.intro ?_ ?_ | intro hg)
                                   all_goals (try simp (disch := omega) only [wrap_fits])
                                   all_goals first | (refine hL.red ?_ n5; exact Red.auto) | exact trivial | assumption | omega | exact wrap_fits (by omega) (by omega))
                                | (simp_all; done)
                                | (simp_all; omega)
                          have n3 : L 28 lz16_laws_FnTurnShapes [(3, .pp 3 0), (5, .pp 7 0), (23, .v (.bool false)), (24, .agg [.v (.int .i64 y_5), .sl 6]), (26, .sl 4)] [.row false (.ints .u8 a0), .glob 0 (.ints .u8 tab0), .row true (.trips y_1), .box [.v (.int .i64 y), .sl 2], .row true (.ints .i64 y_2), .row true (.ints .i64 y_3), .row true (.trips y_6), .box [.v (.int .i64 y_5), .sl 6]] := by
                            refine hL.step [(5, [], 27, lz15_laws_FnTurnShapes)] (by kernel_rfl) ⟨?_, trivial⟩
                            · simp (maxSteps := 4000000) only [go_sem, Nat.reduceBEq, Nat.reduceLT, Nat.reduceAdd, Nat.reduceLeDiff, Nat.reduceSub, Nat.reduceEqDiff, Int.reduceToNat, reduceCtorEq, ↓reduceIte]
                              repeat' (first | refine And.intro ?_ ?_ | intro hg)
                              all_goals (try simp (disch := omega) only [wrap_fits])
                              all_goals first
                                | (refine hL.red ?_ n4; exact Red.auto)
                                | exact trivial
                                | assumption
                                | omega
                                | exact wrap_fits (by omega) (by omega)
                                | (refine OpK_callA (k_impl_CoresOf y_5 y_6 (h := hr1)) [6, 1] [] ?_
                                   rintro x Hc' ⟨rfl, rfl⟩ hlen
                                   simp (maxSteps := 4000000) only [go_sem, Nat.reduceBEq, Nat.reduceLT, Nat.reduceAdd, Nat.reduceLeDiff, Nat.reduceSub, Nat.reduceEqDiff, Int.reduceToNat, reduceCtorEq, ↓reduceIte]
                                   repeat' (first | refine And.intro ?_ ?_ | intro hg)
                                   all_goals (try simp (disch := omega) only [wrap_fits])
                                   all_goals first
                                     | (refine hL.red ?_ n4; exact Red.auto)
                                     | exact trivial
                                     | assumption
                                     | omega
                                     | exact wrap_fits (by omega) (by omega)
                                     | (simp_all; done)
                                     | (simp_all; omega))
                                | (simp (maxSteps := 4000000) only [go_sem, Nat.reduceBEq, Nat.reduceLT, Nat.reduceAdd, Nat.reduceLeDiff, Nat.reduceSub, Nat.reduceEqDiff, Int.reduceToNat, reduceCtorEq, ↓reduceIte]
                                   repeat' (first | refine And.intro ?_ ?_ | intro hg)
                                   all_goals (try simp (disch := omega) only [wrap_fits])
                                   all_goals first | (refine hL.red ?_ n4; exact Red.auto) | exact trivial | assumption | omega | exact wrap_fits (by omega) (by omega))
                                | (simp_all; done)
                                | (simp_all; omega)
                          have n2 : L 29 lz17_laws_FnTurnShapes [(3, .pp 3 0), (5, .pp 7 0), (23, .v (.bool false)), (26, .sl 4)] [.row false (.ints .u8 a0), .glob 0 (.ints .u8 tab0), .row true (.trips y_1), .box [.v (.int .i64 y), .sl 2], .row true (.ints .i64 y_2), .row true (.ints .i64 y_3), .row true (.trips y_6), .box [.v (.int .i64 y_5), .sl 6]] := by
                            refine hL.step [(4, [], 28, lz16_laws_FnTurnShapes)] (by kernel_rfl) ⟨?_, trivial⟩
                            · exact hL.edge n3
                          have n1 : L 33 lz18_laws_FnTurnShapes [(3, .pp 3 0), (4, .sl 4), (5, .pp 7 0), (20, .agg [.v (.int .i64 y), .sl 2])] [.row false (.ints .u8 a0), .glob 0 (.ints .u8 tab0), .row true (.trips y_1), .box [.v (.int .i64 y), .sl 2], .row true (.ints .i64 y_2), .row true (.ints .i64 y_3), .row true (.trips y_6), .box [.v (.int .i64 y_5), .sl 6]] := by
                            refine hL.step [(1, [2, 3, 6], 29, lz17_laws_FnTurnShapes)] (by kernel_rfl) ⟨?_, trivial⟩
                            · simp (maxSteps := 4000000) only [go_sem, Nat.reduceBEq, Nat.reduceLT, Nat.reduceAdd, Nat.reduceLeDiff, Nat.reduceSub, Nat.reduceEqDiff, Int.reduceToNat, reduceCtorEq, ↓reduceIte]
                              repeat' (first | refine And.intro ?_ ?_ | intro hg)
                              all_goals (try simp (disch := omega) only [wrap_fits])
                              all_goals first
                                | (refine hL.red ?_ n2; exact Red.auto)
                                | exact trivial
                                | assumption
                                | omega
                                | exact wrap_fits (by omega) (by omega)
                                | (refine OpK_callA (k_spec_GraphValid y y_1 (h := hr0)) [2] [] ?_
                                   rintro x Hc' ⟨rfl, rfl⟩ hlen
                                   simp (maxSteps := 4000000) only [go_sem, Nat.reduceBEq, Nat.reduceLT, Nat.reduceAdd, Nat.reduceLeDiff, Nat.reduceSub, Nat.reduceEqDiff, Int.reduceToNat, reduceCtorEq, ↓reduceIte]
                                   repeat' (first | refine And.intro ?_ ?_ | intro hg)
                                   all_goals (try simp (disch := omega) only [wrap_fits])
                                   all_goals first
                                     | (refine hL.red ?_ n2; exact Red.auto)
                                     | exact trivial
                                     | assumption
                                     | omega
                                     | exact wrap_fits (by omega) (by omega)
                                     | (simp_all; done)
                                     | (simp_all; omega))
                                | (simp (maxSteps := 4000000) only [go_sem, Nat.reduceBEq, Nat.reduceLT, Nat.reduceAdd, Nat.reduceLeDiff, Nat.reduceSub, Nat.reduceEqDiff, Int.reduceToNat, reduceCtorEq, ↓reduceIte]
                                   repeat' (first | refine And.intro ?_ ?_ | intro hg)
                                   all_goals (try simp (disch := omega) only [wrap_fits])
                                   all_goals first | (refine hL.red ?_ n2; exact Red.auto) | exact trivial | assumption | omega | exact wrap_fits (by omega) (by omega))
                                | (simp_all; done)
                                | (simp_all; omega)
                          have n0 : L 34 lz0_laws_FnTurnShapes [(3, .pp 3 0), (4, .sl 4), (5, .pp 7 0)] [.row false (.ints .u8 a0), .glob 0 (.ints .u8 tab0), .row true (.trips y_1), .box [.v (.int .i64 y), .sl 2], .row true (.ints .i64 y_2), .row true (.ints .i64 y_3), .row true (.trips y_6), .box [.v (.int .i64 y_5), .sl 6]] := by
                            refine hL.step [(0, [], 33, lz18_laws_FnTurnShapes)] (by kernel_rfl) ⟨?_, trivial⟩
                            · exact hL.edge n1
                          simp (maxSteps := 4000000) only [go_sem, Nat.reduceBEq, Nat.reduceLT, Nat.reduceAdd, Nat.reduceLeDiff, Nat.reduceSub, Nat.reduceEqDiff, Int.reduceToNat, reduceCtorEq, ↓reduceIte]
                          repeat' (first | refine And.intro ?_ ?_ | intro hg)
                          all_goals (try simp (disch := omega) only [wrap_fits])
                          all_goals first
                            | (refine hL.red ?_ n0; exact Red.auto)
                            | exact trivial
                            | assumption
                            | omega
                            | exact wrap_fits (by omega) (by omega)
                            | (simp (maxSteps := 4000000) only [go_sem, Nat.reduceBEq, Nat.reduceLT, Nat.reduceAdd, Nat.reduceLeDiff, Nat.reduceSub, Nat.reduceEqDiff, Int.reduceToNat, reduceCtorEq, ↓reduceIte]
                               repeat' (first | refine And.intro ?_ ?_ | intro hg)
                               all_goals (try simp (disch := omega) only [wrap_fits])
                               all_goals first | (refine hL.red ?_ n0; exact Red.auto) | exact trivial | assumption | omega | exact wrap_fits (by omega) (by omega))
                            | (simp_all; done)
                            | (simp_all; omega)
                        · clear hr0 hr1 hr2 hr3 hr4 hr5 hr6 hr7 hr8 hr9 hr10 hr11 hr12
                          refine awp_ret ?_
                          (try simp only [Thn, InBlk, ↓reduceIte, Nat.reduceEqDiff])
                          obtain rfl := Option.some.inj h
                          refine ⟨by simp, _, [0, 1], (by simp only [go_sem, Nat.reduceBEq, Nat.reduceLT, Nat.reduceAdd, Nat.reduceLeDiff, Nat.reduceSub, Nat.reduceEqDiff, Int.reduceToNat, reduceCtorEq, ↓reduceIte]; exact rfl), ?_, ?_, ?_, ?_⟩
                          · first | exact trivial | exact ⟨trivial, trivial⟩ | exact ⟨trivial, trivial, trivial⟩ | exact ⟨trivial, trivial, trivial, trivial⟩ | (simp only [allP, and_true, true_and]; done) | (simp only [allP, and_true, true_and]; omega)
                          · simp [selOk, pos]
                          · simp
                          · first | exact ⟨rfl, rfl⟩ | (simp only [go_sem, Nat.reduceBEq, Nat.reduceLT, Nat.reduceAdd, Nat.reduceLeDiff, Nat.reduceSub, Nat.reduceEqDiff, Int.reduceToNat, reduceCtorEq, ↓reduceIte]; done) | (simp [go_sem, Nat.reduceBEq, Nat.reduceLT, Nat.reduceAdd, Nat.reduceLeDiff, Nat.reduceSub, Nat.reduceEqDiff, Int.reduceToNat, reduceCtorEq, ↓reduceIte]; done) | (simp only [go_sem, Nat.reduceBEq, Nat.reduceLT, Nat.reduceAdd, Nat.reduceLeDiff, Nat.reduceSub, Nat.reduceEqDiff, Int.reduceToNat, reduceCtorEq, ↓reduceIte]; exact ⟨rfl, rfl⟩) | (simp_all [go_sem, Nat.reduceBEq, Nat.reduceLT, Nat.reduceAdd, Nat.reduceLeDiff, Nat.reduceSub, Nat.reduceEqDiff, Int.reduceToNat, reduceCtorEq, ↓reduceIte]; done)
end Go.Proofs.YtdjckcedpnabpaaDoor
