/- The code computes the functions that were taken out of it. -/
import Derived.Test.YtbdncdmkogbdhaaLw1
set_option maxRecDepth 100000
set_option maxHeartbeats 4000000
set_option linter.unusedSimpArgs false
set_option linter.unusedVariables false
namespace Go.Proofs.Ytbdncdmkogbdhaa
open Go Go.Av
attribute [local irreducible] wpA OpK awp
attribute [local go_sem] frs_nil frs_cons pw8_32 pw16_32 pw24_32 pw27_32 eqAgg eqAggV buildQ placesOf buildCells List.toList_toArray vcQg gfind gfree gput un3_agg unI_int unB_bool unK_int guardU skipV resVs resV vcD_nil vcD_cons vcT_fin vcT_free vcT_one vcT_two opS vcD1 roH roOb ftNone ftAdd oneOrTup AV.detup AV.ren AV.ren2 AV.ren1 pos selH AObj.ren fitAll fit fit1 fit1s matchAll matchOb exIds AObj.excl Env.killp pastH setAll upId AObj.past AObj.back AV.killp AV.killp1 AV.killp2 Nat.sub_self Nat.lt_irrefl Bool.or_self vcOps vcOp vcQs vcQ dstOk quiet eff pcall calleeF plain valsOf ev ofConst argEnv List.lookup Nat.add_eq decide_true decide_false Env.put binV quoC isTwo_2 isTwo_1 isTwo_3 isTwo_4 isTwo_5 isTwo_6 isTwo_7 isTwo_8 isTwo_9 isTwo_10 isTwo_11 isTwo_12 isTwo_13 isTwo_14 isTwo_15 isTwo_16 isTwo_17 isTwo_20 isTwo_24 isTwo_32 isTwo_60 isTwo_64 isTwo_100 isTwo_128 isTwo_256 isTwo_1000 wrapTo unV convV loadQ indexQ callQ builtinQ rd rdI globC AObj.globC partAV isAggD isArrayD addrAdd boxE storeE storeXE storeCE storeGE storeFE storeAE storeHE allocAE buildME appendME plainVs isIfaceD ifaceQ assertQ List.all_cons aggQ arrD arrL arrL_map arrV makeE makeXE makeNE makeGE buildXE buildNE buildGE nestZero Cont.child Cont.setChild buildSliceE buildFold appendE appendXE appendNE appendGE Cont.setG nestApp appendV promoteH sliceE boundAV subObj asCells Value.oneCell' contZero Cont.sets Cont.app Cont.sub Cont.len Cont.esz Cont.cell Cont.cells Cont.flat AV.det AV.det1 guardV AObj.unview AObj.kill Env.kill AV.kill AV.kill1 AV.kill2 fits64 Option.getD_some Option.getD_none Option.map_some Option.map_none Option.bind_some List.map_cons List.map_nil List.getElem?_cons_zero List.getElem?_cons_succ List.getElem?_nil true_and and_true and_false false_and List.getElem?_toArray List.cons_append List.nil_append List.length_cons List.length_nil List.set_cons_zero List.set_cons_succ List.take_succ_cons List.take_zero List.drop_succ_cons List.drop_zero List.drop_nil List.take_nil List.contains_cons List.contains_nil List.elem_cons List.elem_nil Bool.not_true Bool.not_false Bool.false_eq_true Bool.or_false Bool.or_true Bool.and_true Bool.and_false Bool.true_and Bool.false_and List.all_cons List.all_nil List.size_toArray Nat.lt_add_one Nat.zero_lt_succ Nat.one_ne_zero Nat.zero_ne_one and_self List.replicate_succ List.replicate_zero Int.toNat_natCast Int.toNat_zero Value.cells false_implies true_implies forall_const Thn InBlk Nat.zero_add Nat.add_zero Int.zero_add Ele Env.ren Option.some.injEq AV.v.injEq AV.sl.injEq AV.pp.injEq AV.ep.injEq AV.agg.injEq List.cons.injEq Value.int.injEq Value.bool.injEq Value.string.injEq true_or or_true or_false false_or tsz0 tby0 tz0 Try.underlying0 tsz1 tby1 tz1 Try.underlying1 tsz2 tby2 tz2 Try.underlying2 tsz3 tby3 tz3 Try.underlying3 tsz4 tby4 tz4 Try.underlying4 tsz5 tby5 tz5 Try.underlying5 tsz6 tby6 tz6 Try.underlying6 tsz7 tby7 tz7 Try.underlying7 fo7_0 fo7_1 fo7_2 fo7_3 tsz8 tby8 tz8 Try.underlying8 fo8_0 fo8_1 fo8_2 fo8_3 tsz9 tby9 Try.underlying9 tsz10 tby10 Try.underlying10 tsz12 tby12 tz12 Try.underlying12 tsz16 tby16 tz16 Try.underlying16 tsz17 tby17 tz17 Try.underlying17 tsz20 tby20 tz20 Try.underlying20 tsz21 tby21 tz21 Try.underlying21 tsz22 tby22 tz22 Try.underlying22 tsz23 tby23 tz23 Try.underlying23 tsz24 tby24 tz24 Try.underlying24 fo24_0 fo24_1 tsz25 tby25 tz25 Try.underlying25 fo25_0 fo25_1 tsz26 tby26 tz26 Try.underlying26 tsz28 tby28 tz28 Try.underlying28 tsz32 tby32 tz32 Try.underlying32 tsz35 tby35 tz35 Try.underlying35 tsz40 tby40 tz40 Try.underlying40 tsz44 tby44 tz44 Try.underlying44 peq44 fo44_0 fo44_1 fo44_2 tsz45 tby45 tz45 Try.underlying45 peq45 fo45_0 fo45_1 fo45_2 tsz48 tby48 tz48 Try.underlying48 tsz52 tby52 tz52 Try.underlying52 fo52_0 fo52_1 tsz53 tby53 tz53 Try.underlying53 fo53_0 fo53_1 tsz55 tby55 tz55 Try.underlying55 tsz56 tby56 tz56 Try.underlying56 peq56 fo56_0 fo56_1 tsz57 tby57 tz57 Try.underlying57 peq57 fo57_0 fo57_1 tsz58 tby58 tz58 Try.underlying58 tsz59 tby59 tz59 Try.underlying59 tsz60 tby60 tz60 Try.underlying60 tsz61 tby61 tz61 Try.underlying61 tsz68 tby68 tz68 Try.underlying68 tsz72 tby72 tz72 Try.underlying72 tsz75 tby75 tz75 Try.underlying75 tsz76 tby76 tz76 Try.underlying76 tsz77 tby77 tz77 Try.underlying77 tsz79 tby79 tz79 Try.underlying79 tsz80 tby80 tz80 Try.underlying80 tsz83 tby83 tz83 Try.underlying83 tsz84 tby84 tz84 Try.underlying84 tsz88 tby88 tz88 Try.underlying88 tsz91 tby91 tz91 Try.underlying91 tsz93 tby93 tz93 Try.underlying93 tsz94 tby94 tz94 Try.underlying94 tsz95 tby95 tz95 Try.underlying95 tsz99 tby99 tz99 Try.underlying99 tsz101 tby101 tz101 Try.underlying101 tsz102 tby102 tz102 Try.underlying102 tsz107 tby107 tz107 Try.underlying107 tsz108 tby108 tz108 Try.underlying108 tsz109 tby109 tz109 Try.underlying109 tsz110 tby110 tz110 Try.underlying110 tsz111 tby111 tz111 Try.underlying111 tsz112 tby112 tz112 Try.underlying112 tsz113 tby113 tz113 Try.underlying113 tsz114 tby114 tz114 Try.underlying114 tsz115 tby115 tz115 Try.underlying115 tsz116 tby116 tz116 Try.underlying116 fo116_0 fo116_1 fo116_2 fo116_3 fo116_4 fo116_5 fo116_6 fo116_7 fo116_8 fo116_9 fo116_10 tsz117 tby117 tz117 Try.underlying117 fo117_0 fo117_1 fo117_2 fo117_3 fo117_4 fo117_5 fo117_6 fo117_7 fo117_8 fo117_9 fo117_10 tsz118 tby118 tz118 Try.underlying118 l1InG l4BeforeG isNaNG cmpIntG cmpEndsG ftC
theorem k_impl_CostsFrom (a0_0 : Int) (a0_1 : List (Int × Int × Int)) (a1 : Int) {r : List Int} (h : impl_CostsFrom a0_0 a0_1 a1 = some r) :
    FnA Try.prog 5 [.agg [.v (.int .i64 a0_0), .sl 0], .v (.int .i64 a1)] [.row false (.trips a0_1)] [] (fun x H => x = .sl 1 ∧ H = [.row false (.trips a0_1), .row true (.ints .i64 r)]) := by
  unfold impl_CostsFrom at h
  refine FnA.of (N := 18) (pin := [0]) (rs := [.tmp 4]) Try.func5 rfl en5 rfl rfl (by simp) (by simp; try omega) ?_
  refine awp_reg ftCOk [(1, .v (.int .i64 a1)), (2, .pp 1 0)] [.row false (.trips a0_1), .box [.v (.int .i64 a0_0), .sl 0]] ?_
  refine awp_freeze 2 (by rfl) (by rfl) (by exact rfl) ?_
  refine awp_seq fun K2 hK2 => ?_
  replace h := bind_some h
  obtain ⟨y, hr0, h⟩ := h
  try dsimp only at h
  replace h := bind_some h
  obtain ⟨y_1, hr1, h⟩ := h
  try dsimp only at h
  refine awp_to [(1, .v (.int .i64 a1)), (2, .pp 1 0), (13, .v (.bool ((!y) || (!y_1))))] [.row false (.trips a0_1), .rbox [.v (.int .i64 a0_0), .sl 0]] ?_ ?_
  · clear h
    intro K hK
    refine awp_region ftCOk ?_
    simp (maxSteps := 4000000) only [go_sem, Nat.reduceBEq, Nat.reduceLT, Nat.reduceAdd, Nat.reduceLeDiff, Nat.reduceSub, Nat.reduceEqDiff, Int.reduceToNat, reduceCtorEq, ↓reduceIte]
    repeat' (first | refine And.intro ?_ ?_ | intro hg)
    all_goals (try simp (disch := omega) only [wrap_fits])
    all_goals first
      | (refine hK _ _ ?_; exact Red.auto)
      | exact trivial
      | assumption
      | omega
      | exact wrap_fits (by omega) (by omega)
      | (refine wpA_callA (k_impl_GraphValid a0_0 a0_1 (h := hr0)) [0] [] ?_
         rintro x Hc' ⟨rfl, rfl⟩ hlen
         refine vcOps_sound ftCOk ?_
         simp (maxSteps := 4000000) only [go_sem, Nat.reduceBEq, Nat.reduceLT, Nat.reduceAdd, Nat.reduceLeDiff, Nat.reduceSub, Nat.reduceEqDiff, Int.reduceToNat, reduceCtorEq, ↓reduceIte]
         repeat' (first | refine And.intro ?_ ?_ | intro hg)
         all_goals (try simp (disch := omega) only [wrap_fits])
         all_goals first
           | (refine hK _ _ ?_; exact Red.auto)
           | exact trivial
           | assumption
           | omega
           | exact wrap_fits (by omega) (by omega)
           | (refine wpA_guard rfl rfl ?_
              refine wpA_callA (k_impl_Graph_has a0_0 a0_1 a1 (h := (bite_t hr1 (by rw [Bool.not_eq_true']; exact (by first | assumption | (simp only [*, Bool.false_or, Bool.true_or, Bool.or_false, Bool.or_true, Bool.false_and, Bool.true_and, Bool.and_false, Bool.and_true, Bool.not_true, Bool.not_false, beq_self_eq_true]; done) | (simp_all; done)))))) [0] [] ?_
              rintro x Hc' ⟨rfl, rfl⟩ hlen
              refine vcOps_sound ftCOk ?_
              simp (maxSteps := 4000000) only [go_sem, Nat.reduceBEq, Nat.reduceLT, Nat.reduceAdd, Nat.reduceLeDiff, Nat.reduceSub, Nat.reduceEqDiff, Int.reduceToNat, reduceCtorEq, ↓reduceIte]
              repeat' (first | refine And.intro ?_ ?_ | intro hg)
              all_goals (try simp (disch := omega) only [wrap_fits])
              all_goals first
                | (refine hK _ _ ?_; exact Red.auto)
                | exact trivial
                | assumption
                | omega
                | exact wrap_fits (by omega) (by omega)
                | (simp_all; done)
                | (simp_all; omega))
           | (simp_all; done)
           | (simp_all; omega))
      | (simp_all; done)
      | (simp_all; omega)
  · clear hr0 hr1
    refine awp_cond (t := 13) rfl (fun hc3 => ?_) (fun hc3 => ?_)
    · replace h := bite_t h hc3
      refine awp_reg ftCOk [(4, .v (.slice none 0 0))] [.row false (.trips a0_1), .rbox [.v (.int .i64 a0_0), .sl 0]] ?_
      refine awp_red (Red.nil (t := 4) (.ints .i64 []) rfl rfl) ?_
      refine awp_ret ?_
      (try simp only [Thn, InBlk, ↓reduceIte, Nat.reduceEqDiff])
      obtain rfl := Option.some.inj h
      refine ⟨by simp, _, [0, 2], (by simp only [go_sem, Nat.reduceBEq, Nat.reduceLT, Nat.reduceAdd, Nat.reduceLeDiff, Nat.reduceSub, Nat.reduceEqDiff, Int.reduceToNat, reduceCtorEq, ↓reduceIte]; exact rfl), ?_, ?_, ?_, ?_⟩
      · first | exact trivial | exact ⟨trivial, trivial⟩ | exact ⟨trivial, trivial, trivial⟩ | exact ⟨trivial, trivial, trivial, trivial⟩ | (simp only [allP, and_true, true_and]; done) | (simp only [allP, and_true, true_and]; omega)
      · simp [selOk, pos]
      · simp
      · first | exact ⟨rfl, rfl⟩ | (simp only [go_sem, Nat.reduceBEq, Nat.reduceLT, Nat.reduceAdd, Nat.reduceLeDiff, Nat.reduceSub, Nat.reduceEqDiff, Int.reduceToNat, reduceCtorEq, ↓reduceIte]; done) | (simp [go_sem, Nat.reduceBEq, Nat.reduceLT, Nat.reduceAdd, Nat.reduceLeDiff, Nat.reduceSub, Nat.reduceEqDiff, Int.reduceToNat, reduceCtorEq, ↓reduceIte]; done) | (simp only [go_sem, Nat.reduceBEq, Nat.reduceLT, Nat.reduceAdd, Nat.reduceLeDiff, Nat.reduceSub, Nat.reduceEqDiff, Int.reduceToNat, reduceCtorEq, ↓reduceIte]; exact ⟨rfl, rfl⟩) | (simp_all [go_sem, Nat.reduceBEq, Nat.reduceLT, Nat.reduceAdd, Nat.reduceLeDiff, Nat.reduceSub, Nat.reduceEqDiff, Int.reduceToNat, reduceCtorEq, ↓reduceIte]; done)
    · replace h := bite_f h hc3
      refine awp_skip ?_
      (try simp only [Thn, InBlk, ↓reduceIte, Nat.reduceEqDiff])
      refine hK2 _ _ ?_
      clear hK2
      replace h := bind_some h
      obtain ⟨y_2, hr0, h⟩ := h
      try dsimp only at h
      replace h := bind_some h
      obtain ⟨y_3, hr1, h⟩ := h
      try dsimp only at h
      refine awp_to [(4, .sl 3)] [.row false (.trips a0_1), .rbox [.v (.int .i64 a0_0), .sl 0], .row true (.tripss y_2), .row true (.ints .i64 y_3)] ?_ ?_
      · clear h
        intro K hK
        refine awp_region ftCOk ?_
        simp (maxSteps := 4000000) only [go_sem, Nat.reduceBEq, Nat.reduceLT, Nat.reduceAdd, Nat.reduceLeDiff, Nat.reduceSub, Nat.reduceEqDiff, Int.reduceToNat, reduceCtorEq, ↓reduceIte]
        repeat' (first | refine And.intro ?_ ?_ | intro hg)
        all_goals (try simp (disch := omega) only [wrap_fits])
        all_goals first
          | (refine hK _ _ ?_; exact Red.auto)
          | exact trivial
          | assumption
          | omega
          | exact wrap_fits (by omega) (by omega)
          | (refine wpA_callA (k_impl_Graph_lists a0_0 a0_1 (h := hr0)) [0] [] ?_
             rintro x Hc' ⟨rfl, rfl⟩ hlen
             refine vcOps_sound ftCOk ?_
             simp (maxSteps := 4000000) only [go_sem, Nat.reduceBEq, Nat.reduceLT, Nat.reduceAdd, Nat.reduceLeDiff, Nat.reduceSub, Nat.reduceEqDiff, Int.reduceToNat, reduceCtorEq, ↓reduceIte]
             repeat' (first | refine And.intro ?_ ?_ | intro hg)
             all_goals (try simp (disch := omega) only [wrap_fits])
             all_goals first
               | (refine hK _ _ ?_; exact Red.auto)
               | exact trivial
               | assumption
               | omega
               | exact wrap_fits (by omega) (by omega)
               | (refine wpA_callA (k_impl_leastCosts y_2 a1 (h := hr1)) [2] [] ?_
                  rintro x Hc' ⟨rfl, rfl⟩ hlen
                  refine vcOps_sound ftCOk ?_
                  simp (maxSteps := 4000000) only [go_sem, Nat.reduceBEq, Nat.reduceLT, Nat.reduceAdd, Nat.reduceLeDiff, Nat.reduceSub, Nat.reduceEqDiff, Int.reduceToNat, reduceCtorEq, ↓reduceIte]
                  repeat' (first | refine And.intro ?_ ?_ | intro hg)
                  all_goals (try simp (disch := omega) only [wrap_fits])
                  all_goals first
                    | (refine hK _ _ ?_; exact Red.auto)
                    | exact trivial
                    | assumption
                    | omega
                    | exact wrap_fits (by omega) (by omega)
                    | (simp_all; done)
                    | (simp_all; omega))
               | (simp_all; done)
               | (simp_all; omega))
          | (simp_all; done)
          | (simp_all; omega)
      · clear hr0 hr1
        refine awp_ret ?_
        (try simp only [Thn, InBlk, ↓reduceIte, Nat.reduceEqDiff])
        obtain rfl := Option.some.inj h
        refine ⟨by simp, _, [0, 3], (by simp only [go_sem, Nat.reduceBEq, Nat.reduceLT, Nat.reduceAdd, Nat.reduceLeDiff, Nat.reduceSub, Nat.reduceEqDiff, Int.reduceToNat, reduceCtorEq, ↓reduceIte]; exact rfl), ?_, ?_, ?_, ?_⟩
        · first | exact trivial | exact ⟨trivial, trivial⟩ | exact ⟨trivial, trivial, trivial⟩ | exact ⟨trivial, trivial, trivial, trivial⟩ | (simp only [allP, and_true, true_and]; done) | (simp only [allP, and_true, true_and]; omega)
        · simp [selOk, pos]
        · simp
        · first | exact ⟨rfl, rfl⟩ | (simp only [go_sem, Nat.reduceBEq, Nat.reduceLT, Nat.reduceAdd, Nat.reduceLeDiff, Nat.reduceSub, Nat.reduceEqDiff, Int.reduceToNat, reduceCtorEq, ↓reduceIte]; done) | (simp [go_sem, Nat.reduceBEq, Nat.reduceLT, Nat.reduceAdd, Nat.reduceLeDiff, Nat.reduceSub, Nat.reduceEqDiff, Int.reduceToNat, reduceCtorEq, ↓reduceIte]; done) | (simp only [go_sem, Nat.reduceBEq, Nat.reduceLT, Nat.reduceAdd, Nat.reduceLeDiff, Nat.reduceSub, Nat.reduceEqDiff, Int.reduceToNat, reduceCtorEq, ↓reduceIte]; exact ⟨rfl, rfl⟩) | (simp_all [go_sem, Nat.reduceBEq, Nat.reduceLT, Nat.reduceAdd, Nat.reduceLeDiff, Nat.reduceSub, Nat.reduceEqDiff, Int.reduceToNat, reduceCtorEq, ↓reduceIte]; done)
theorem k_spec_l8Fill (a0 : Int) (a1 : Int) {r : List Int} (h : spec_l8Fill a0 a1 = some r) :
    FnA Try.prog 18 [.v (.int .i64 a0), .v (.int .i64 a1)] [] [] (fun x H => x = .sl 0 ∧ H = [.row true (.ints .i64 r)]) := by
  unfold spec_l8Fill at h
  refine FnA.of (N := 18) (pin := []) (rs := [.tmp 4]) Try.func18 rfl en18 rfl rfl (by simp) (by simp; try omega) ?_
  refine awp_reg ftCOk [(0, .v (.int .i64 a0)), (1, .v (.int .i64 a1))] [] ?_
  refine awp_reg ftCOk [(0, .v (.int .i64 a0)), (1, .v (.int .i64 a1)), (5, .sl 0)] [.row true (.ints .i64 [])] ?_
  refine awp_seq fun K14 hK14 => ?_
  refine awp_reg ftCOk [(0, .v (.int .i64 a0)), (1, .v (.int .i64 a1)), (5, .sl 0), (6, .v (.int .i64 0))] [.row true (.ints .i64 [])] ?_
  refine awp_block ?_
  replace h := bind_some h
  obtain ⟨t5s_1, hx, h⟩ := h
  refine awp_loopL hx (fun ((t6, t5s) : Int × List Int) => [(0, .v (.int .i64 a0)), (1, .v (.int .i64 a1)), (5, .sl 0), (6, .v (.int .i64 t6))]) (fun ((t6, t5s) : Int × List Int) => [.row true (.ints .i64 t5s)]) (fun (t5s_1 : List Int) => Exit.exit 0) (fun (t5s_1 : List Int) => [(5, .sl 0)]) (fun (t5s_1 : List Int) => [.row true (.ints .i64 t5s_1)]) ?_ ?_ ?_ ?_
  · rintro t5s_1 hy <;> cases hy
  · clear h hx
    exact Red.auto
  · clear h hx
    rintro ⟨t6, t5s⟩ r h
    unfold spec_l8Fill_b0 at h
    try dsimp only at h
    try dsimp only
    refine awp_seq fun K24 hK24 => ?_
    refine awp_reg ftCOk [(0, .v (.int .i64 a0)), (1, .v (.int .i64 a1)), (5, .sl 0), (6, .v (.int .i64 t6)), (10, .v (.bool (decide (t6 < a0))))] [.row true (.ints .i64 t5s)] ?_
    refine awp_cond (t := 10) rfl (fun hc25 => ?_) (fun hc25 => ?_)
    · replace h := bite_t h hc25
      refine awp_skip ?_
      (try simp only [Thn, InBlk, ↓reduceIte, Nat.reduceEqDiff])
      refine hK24 _ _ ?_
      clear hK24
      refine awp_seq fun K26 hK26 => ?_
      refine awp_block ?_
      replace h := chk_some h
      obtain ⟨hp0, h⟩ := h
      refine awp_regE ftCOk [(0, .v (.int .i64 a0)), (1, .v (.int .i64 a1)), (5, .sl 0), (6, .v (.int .i64 t6))] [.row true (.ints .i64 (t5s ++ [a1])), .row true (.ints .i64 [a1])] ?_
      clear hp0
      (try simp only [Thn, InBlk, ↓reduceIte, Nat.reduceEqDiff])
      (try simp only [Thn, InBlk, ↓reduceIte, Nat.reduceEqDiff])
      refine hK26 _ _ ?_
      clear hK26
      replace h := chk_some h
      obtain ⟨hp0, h⟩ := h
      refine awp_regE ftCOk [(0, .v (.int .i64 a0)), (1, .v (.int .i64 a1)), (5, .sl 0), (6, .v (.int .i64 (t6 + 1)))] [.row true (.ints .i64 (t5s ++ [a1])), .row true (.ints .i64 [a1])] ?_
      clear hp0
      obtain rfl := Option.some.inj h
      refine LoopQ.next ?_
      exact Red.selA [0] Red.auto
    · replace h := bite_f h hc25
      refine awp_exit ?_
      (try simp only [Thn, InBlk, ↓reduceIte, Nat.reduceEqDiff])
      obtain rfl := Option.some.inj h
      refine LoopQ.out rfl ?_
      exact Red.auto
  · clear hx
    skip
    · try dsimp only [Sum.elim_inl, Sum.elim_inr] at h
      try dsimp only [Sum.elim_inl, Sum.elim_inr]
      (try simp only [Thn, InBlk, ↓reduceIte, Nat.reduceEqDiff])
      (try simp only [Thn, InBlk, ↓reduceIte, Nat.reduceEqDiff])
      (try simp only [Thn, InBlk, ↓reduceIte, Nat.reduceEqDiff])
      refine hK14 _ _ ?_
      clear hK14
      refine awp_reg ftCOk [(4, .sl 0)] [.row true (.ints .i64 t5s_1)] ?_
      refine awp_ret ?_
      (try simp only [Thn, InBlk, ↓reduceIte, Nat.reduceEqDiff])
      obtain rfl := Option.some.inj h
      refine ⟨by simp, _, [0], (by simp only [go_sem, Nat.reduceBEq, Nat.reduceLT, Nat.reduceAdd, Nat.reduceLeDiff, Nat.reduceSub, Nat.reduceEqDiff, Int.reduceToNat, reduceCtorEq, ↓reduceIte]; exact rfl), ?_, ?_, ?_, ?_⟩
      · first | exact trivial | exact ⟨trivial, trivial⟩ | exact ⟨trivial, trivial, trivial⟩ | exact ⟨trivial, trivial, trivial, trivial⟩ | (simp only [allP, and_true, true_and]; done) | (simp only [allP, and_true, true_and]; omega)
      · simp [selOk, pos]
      · simp
      · first | exact ⟨rfl, rfl⟩ | (simp only [go_sem, Nat.reduceBEq, Nat.reduceLT, Nat.reduceAdd, Nat.reduceLeDiff, Nat.reduceSub, Nat.reduceEqDiff, Int.reduceToNat, reduceCtorEq, ↓reduceIte]; done) | (simp [go_sem, Nat.reduceBEq, Nat.reduceLT, Nat.reduceAdd, Nat.reduceLeDiff, Nat.reduceSub, Nat.reduceEqDiff, Int.reduceToNat, reduceCtorEq, ↓reduceIte]; done) | (simp only [go_sem, Nat.reduceBEq, Nat.reduceLT, Nat.reduceAdd, Nat.reduceLeDiff, Nat.reduceSub, Nat.reduceEqDiff, Int.reduceToNat, reduceCtorEq, ↓reduceIte]; exact ⟨rfl, rfl⟩) | (simp_all [go_sem, Nat.reduceBEq, Nat.reduceLT, Nat.reduceAdd, Nat.reduceLeDiff, Nat.reduceSub, Nat.reduceEqDiff, Int.reduceToNat, reduceCtorEq, ↓reduceIte]; done)
theorem k_spec_CostsFrom (a0_0 : Int) (a0_1 : List (Int × Int × Int)) (a1 : Int) {r : List Int} (h : spec_CostsFrom a0_0 a0_1 a1 = some r) :
    FnA Try.prog 7 [.agg [.v (.int .i64 a0_0), .sl 0], .v (.int .i64 a1)] [.row false (.trips a0_1)] [] (fun x H => x = .sl 1 ∧ H = [.row false (.trips a0_1), .row true (.ints .i64 r)]) := by
  unfold spec_CostsFrom at h
  refine FnA.of (N := 83) (pin := [0]) (rs := [.tmp 4]) Try.func7 rfl en7 rfl rfl (by simp) (by simp; try omega) ?_
  refine awp_reg ftCOk [(1, .v (.int .i64 a1)), (2, .pp 1 0)] [.row false (.trips a0_1), .box [.v (.int .i64 a0_0), .sl 0]] ?_
  refine awp_freeze 2 (by rfl) (by rfl) (by exact rfl) ?_
  refine awp_seq fun K2 hK2 => ?_
  replace h := bind_some h
  obtain ⟨y, hr0, h⟩ := h
  try dsimp only at h
  refine awp_to [(1, .v (.int .i64 a1)), (2, .pp 1 0), (20, .v (.bool ((!y) || (!(decide (0 ≤ a1) && decide (a1 ≤ (IntKind.i64.wrap (a0_0 - 1))))))))] [.row false (.trips a0_1), .rbox [.v (.int .i64 a0_0), .sl 0]] ?_ ?_
  · clear h
    intro K hK
    refine awp_region ftCOk ?_
    simp (maxSteps := 4000000) only [go_sem, Nat.reduceBEq, Nat.reduceLT, Nat.reduceAdd, Nat.reduceLeDiff, Nat.reduceSub, Nat.reduceEqDiff, Int.reduceToNat, reduceCtorEq, ↓reduceIte]
    repeat' (first | refine And.intro ?_ ?_ | intro hg)
    all_goals (try simp (disch := omega) only [wrap_fits])
    all_goals first
      | (refine hK _ _ ?_; exact Red.auto)
      | exact trivial
      | assumption
      | omega
      | exact wrap_fits (by omega) (by omega)
      | (refine wpA_callA (k_spec_GraphValid a0_0 a0_1 (h := hr0)) [0] [] ?_
         rintro x Hc' ⟨rfl, rfl⟩ hlen
         refine vcOps_sound ftCOk ?_
         simp (maxSteps := 4000000) only [go_sem, Nat.reduceBEq, Nat.reduceLT, Nat.reduceAdd, Nat.reduceLeDiff, Nat.reduceSub, Nat.reduceEqDiff, Int.reduceToNat, reduceCtorEq, ↓reduceIte]
         repeat' (first | refine And.intro ?_ ?_ | intro hg)
         all_goals (try simp (disch := omega) only [wrap_fits])
         all_goals first
           | (refine hK _ _ ?_; exact Red.auto)
           | exact trivial
           | assumption
           | omega
           | exact wrap_fits (by omega) (by omega)
           | (simp_all; done)
           | (simp_all; omega))
      | (simp_all; done)
      | (simp_all; omega)
  · clear hr0
    refine awp_cond (t := 20) rfl (fun hc3 => ?_) (fun hc3 => ?_)
    · replace h := bite_t h hc3
      refine awp_reg ftCOk [(4, .sl 2)] [.row false (.trips a0_1), .rbox [.v (.int .i64 a0_0), .sl 0], .row true (.ints .i64 [])] ?_
      refine awp_ret ?_
      (try simp only [Thn, InBlk, ↓reduceIte, Nat.reduceEqDiff])
      obtain rfl := Option.some.inj h
      refine ⟨by simp, _, [0, 2], (by simp only [go_sem, Nat.reduceBEq, Nat.reduceLT, Nat.reduceAdd, Nat.reduceLeDiff, Nat.reduceSub, Nat.reduceEqDiff, Int.reduceToNat, reduceCtorEq, ↓reduceIte]; exact rfl), ?_, ?_, ?_, ?_⟩
      · first | exact trivial | exact ⟨trivial, trivial⟩ | exact ⟨trivial, trivial, trivial⟩ | exact ⟨trivial, trivial, trivial, trivial⟩ | (simp only [allP, and_true, true_and]; done) | (simp only [allP, and_true, true_and]; omega)
      · simp [selOk, pos]
      · simp
      · first | exact ⟨rfl, rfl⟩ | (simp only [go_sem, Nat.reduceBEq, Nat.reduceLT, Nat.reduceAdd, Nat.reduceLeDiff, Nat.reduceSub, Nat.reduceEqDiff, Int.reduceToNat, reduceCtorEq, ↓reduceIte]; done) | (simp [go_sem, Nat.reduceBEq, Nat.reduceLT, Nat.reduceAdd, Nat.reduceLeDiff, Nat.reduceSub, Nat.reduceEqDiff, Int.reduceToNat, reduceCtorEq, ↓reduceIte]; done) | (simp only [go_sem, Nat.reduceBEq, Nat.reduceLT, Nat.reduceAdd, Nat.reduceLeDiff, Nat.reduceSub, Nat.reduceEqDiff, Int.reduceToNat, reduceCtorEq, ↓reduceIte]; exact ⟨rfl, rfl⟩) | (simp_all [go_sem, Nat.reduceBEq, Nat.reduceLT, Nat.reduceAdd, Nat.reduceLeDiff, Nat.reduceSub, Nat.reduceEqDiff, Int.reduceToNat, reduceCtorEq, ↓reduceIte]; done)
    · replace h := bite_f h hc3
      refine awp_skip ?_
      (try simp only [Thn, InBlk, ↓reduceIte, Nat.reduceEqDiff])
      refine hK2 _ _ ?_
      clear hK2
      replace h := bind_some h
      obtain ⟨y_1, hr0, h⟩ := h
      try dsimp only at h
      refine awp_to [(1, .v (.int .i64 a1)), (2, .pp 1 0), (5, .sl 2)] [.row false (.trips a0_1), .rbox [.v (.int .i64 a0_0), .sl 0], .row true (.ints .i64 y_1)] ?_ ?_
      · clear h
        intro K hK
        refine awp_region ftCOk ?_
        simp (maxSteps := 4000000) only [go_sem, Nat.reduceBEq, Nat.reduceLT, Nat.reduceAdd, Nat.reduceLeDiff, Nat.reduceSub, Nat.reduceEqDiff, Int.reduceToNat, reduceCtorEq, ↓reduceIte]
        repeat' (first | refine And.intro ?_ ?_ | intro hg)
        all_goals (try simp (disch := omega) only [wrap_fits])
        all_goals first
          | (refine hK _ _ ?_; exact Red.auto)
          | exact trivial
          | assumption
          | omega
          | exact wrap_fits (by omega) (by omega)
          | (refine wpA_callA (k_spec_l8Fill a0_0 (-1) (h := hr0)) [] [] ?_
             rintro x Hc' ⟨rfl, rfl⟩ hlen
             refine vcOps_sound ftCOk ?_
             simp (maxSteps := 4000000) only [go_sem, Nat.reduceBEq, Nat.reduceLT, Nat.reduceAdd, Nat.reduceLeDiff, Nat.reduceSub, Nat.reduceEqDiff, Int.reduceToNat, reduceCtorEq, ↓reduceIte]
             repeat' (first | refine And.intro ?_ ?_ | intro hg)
             all_goals (try simp (disch := omega) only [wrap_fits])
             all_goals first
               | (refine hK _ _ ?_; exact Red.auto)
               | exact trivial
               | assumption
               | omega
               | exact wrap_fits (by omega) (by omega)
               | (simp_all; done)
               | (simp_all; omega))
          | (simp_all; done)
          | (simp_all; omega)
      · clear hr0
        replace h := chk_some h
        obtain ⟨hp0, h⟩ := h
        refine awp_reg ftCOk [(2, .pp 1 0), (5, .sl 2)] [.row false (.trips a0_1), .rbox [.v (.int .i64 a0_0), .sl 0], .row true (.ints .i64 (y_1.set a1.toNat 0))] ?_
        clear hp0
        refine awp_seq fun K113 hK113 => ?_
        refine awp_reg ftCOk [(2, .pp 1 0), (5, .sl 2), (6, .v (.int .i64 0))] [.row false (.trips a0_1), .rbox [.v (.int .i64 a0_0), .sl 0], .row true (.ints .i64 (y_1.set a1.toNat 0))] ?_
        refine awp_block ?_
        replace h := bind_some h
        obtain ⟨t5s_1, hx, h⟩ := h
        refine awp_loopL hx (fun ((t6, t5s) : Int × List Int) => [(2, .pp 1 0), (5, .sl 2), (6, .v (.int .i64 t6))]) (fun ((t6, t5s) : Int × List Int) => [.row false (.trips a0_1), .rbox [.v (.int .i64 a0_0), .sl 0], .row true (.ints .i64 t5s)]) (fun (t5s_1 : List Int) => Exit.exit 0) (fun (t5s_1 : List Int) => [(5, .sl 1)]) (fun (t5s_1 : List Int) => [.row false (.trips a0_1), .row true (.ints .i64 t5s_1)]) ?_ ?_ ?_ ?_
        · rintro t5s_1 hy <;> cases hy
        · clear h hx
          exact Red.auto
        · clear h hx
          rintro ⟨t6, t5s⟩ r h
          unfold spec_CostsFrom_b1 at h
          try dsimp only at h
          try dsimp only
          refine awp_seq fun K187 hK187 => ?_
          refine awp_reg ftCOk [(2, .pp 1 0), (5, .sl 2), (6, .v (.int .i64 t6)), (31, .v (.bool (decide (t6 < a0_0))))] [.row false (.trips a0_1), .rbox [.v (.int .i64 a0_0), .sl 0], .row true (.ints .i64 t5s)] ?_
          refine awp_cond (t := 31) rfl (fun hc188 => ?_) (fun hc188 => ?_)
          · replace h := bite_t h hc188
            refine awp_skip ?_
            (try simp only [Thn, InBlk, ↓reduceIte, Nat.reduceEqDiff])
            refine hK187 _ _ ?_
            clear hK187
            refine awp_seq fun K205 hK205 => ?_
            refine awp_block ?_
            refine awp_reg ftCOk [(2, .pp 1 0), (5, .sl 2), (6, .v (.int .i64 t6)), (7, .v (.int .i64 0))] [.row false (.trips a0_1), .rbox [.v (.int .i64 a0_0), .sl 0], .row true (.ints .i64 t5s)] ?_
            refine awp_block ?_
            replace h := bind_some h
            obtain ⟨t5s_3, hx, h⟩ := h
            refine awp_loopL hx (fun ((t7, t5s_2) : Int × List Int) => [(2, .pp 1 0), (5, .sl 2), (6, .v (.int .i64 t6)), (7, .v (.int .i64 t7))]) (fun ((t7, t5s_2) : Int × List Int) => [.row false (.trips a0_1), .rbox [.v (.int .i64 a0_0), .sl 0], .row true (.ints .i64 t5s_2)]) (fun (t5s_3 : List Int) => Exit.exit 2) (fun (t5s_3 : List Int) => [(2, .pp 1 0), (5, .sl 2), (6, .v (.int .i64 t6))]) (fun (t5s_3 : List Int) => [.row false (.trips a0_1), .rbox [.v (.int .i64 a0_0), .sl 0], .row true (.ints .i64 t5s_3)]) ?_ ?_ ?_ ?_
            · rintro t5s_3 hy <;> cases hy
            · clear h hx
              exact Red.auto
            · clear h hx
              rintro ⟨t7, t5s_2⟩ r h
              unfold spec_CostsFrom_b0 at h
              try dsimp only at h
              try dsimp only
              refine awp_seq fun K217 hK217 => ?_
              refine awp_reg ftCOk [(2, .pp 1 0), (5, .sl 2), (6, .v (.int .i64 t6)), (7, .v (.int .i64 t7)), (38, .v (.bool (decide (t7 < (a0_1.length : Int)))))] [.row false (.trips a0_1), .rbox [.v (.int .i64 a0_0), .sl 0], .row true (.ints .i64 t5s_2)] ?_
              refine awp_cond (t := 38) rfl (fun hc218 => ?_) (fun hc218 => ?_)
              · replace h := bite_t h hc218
                refine awp_skip ?_
                (try simp only [Thn, InBlk, ↓reduceIte, Nat.reduceEqDiff])
                refine hK217 _ _ ?_
                clear hK217
                refine awp_join h (fun (t5s_4 : List Int) => [(2, .pp 1 0), (5, .sl 2), (6, .v (.int .i64 t6)), (7, .v (.int .i64 t7))]) (fun (t5s_4 : List Int) => [.row false (.trips a0_1), .rbox [.v (.int .i64 a0_0), .sl 0], .row true (.ints .i64 t5s_4)]) ?_ ?_
                · clear h
                  intro k h
                  try dsimp only at h
                  refine awp_block ?_
                  replace h := chk_some h
                  obtain ⟨hp0, h⟩ := h
                  refine awp_reg ftCOk [(2, .pp 1 0), (5, .sl 2), (6, .v (.int .i64 t6)), (7, .v (.int .i64 t7)), (8, .pp 3 0)] [.row false (.trips a0_1), .rbox [.v (.int .i64 a0_0), .sl 0], .row true (.ints .i64 t5s_2), .box [.v (.int .i64 ((a0_1.getD t7.toNat (0, 0, 0)).1)), .v (.int .i64 ((a0_1.getD t7.toNat (0, 0, 0)).2.1)), .v (.int .i64 ((a0_1.getD t7.toNat (0, 0, 0)).2.2))]] ?_
                  clear hp0
                  replace h := chk_some h
                  obtain ⟨hp0, h⟩ := h
                  replace h := chk_some h
                  obtain ⟨hp1, h⟩ := h
                  refine awp_regQ mixed ftCOk [(2, .pp 1 0), (5, .sl 2), (6, .v (.int .i64 t6)), (7, .v (.int .i64 t7)), (8, .pp 3 0), (9, .v (.int .i64 ((t5s_2.getD (((a0_1.getD t7.toNat (0, 0, 0)).1).toNat) 0) + (a0_1.getD t7.toNat (0, 0, 0)).2.2)))] [.row false (.trips a0_1), .rbox [.v (.int .i64 a0_0), .sl 0], .row true (.ints .i64 t5s_2), .box [.v (.int .i64 ((a0_1.getD t7.toNat (0, 0, 0)).1)), .v (.int .i64 ((a0_1.getD t7.toNat (0, 0, 0)).2.1)), .v (.int .i64 ((a0_1.getD t7.toNat (0, 0, 0)).2.2))]] ?_
                  clear hp0 hp1
                  replace h := chk_some h
                  obtain ⟨hp0, h⟩ := h
                  replace h := chk_some h
                  obtain ⟨hp1, h⟩ := h
                  replace h := chk_some h
                  obtain ⟨hp2, h⟩ := h
                  refine awp_to [(2, .pp 1 0), (5, .sl 2), (6, .v (.int .i64 t6)), (7, .v (.int .i64 t7)), (8, .pp 3 0), (9, .v (.int .i64 ((t5s_2.getD (((a0_1.getD t7.toNat (0, 0, 0)).1).toNat) 0) + (a0_1.getD t7.toNat (0, 0, 0)).2.2))), (76, .v (.bool ((decide (0 ≤ (t5s_2.getD (((a0_1.getD t7.toNat (0, 0, 0)).1).toNat) 0))) && ((decide ((t5s_2.getD (((a0_1.getD t7.toNat (0, 0, 0)).2.1).toNat) 0) < 0)) || (decide (((t5s_2.getD (((a0_1.getD t7.toNat (0, 0, 0)).1).toNat) 0) + (a0_1.getD t7.toNat (0, 0, 0)).2.2) < (t5s_2.getD (((a0_1.getD t7.toNat (0, 0, 0)).2.1).toNat) 0)))))))] [.row false (.trips a0_1), .rbox [.v (.int .i64 a0_0), .sl 0], .row true (.ints .i64 t5s_2), .box [.v (.int .i64 ((a0_1.getD t7.toNat (0, 0, 0)).1)), .v (.int .i64 ((a0_1.getD t7.toNat (0, 0, 0)).2.1)), .v (.int .i64 ((a0_1.getD t7.toNat (0, 0, 0)).2.2))]] ?_ ?_
                  · clear h
                    intro K hK
                    refine awp_region ftCOk ?_
                    simp (maxSteps := 4000000) only [go_sem, Nat.reduceBEq, Nat.reduceLT, Nat.reduceAdd, Nat.reduceLeDiff, Nat.reduceSub, Nat.reduceEqDiff, Int.reduceToNat, reduceCtorEq, ↓reduceIte]
                    repeat' (first | refine And.intro ?_ ?_ | intro hg)
                    all_goals (try simp (disch := omega) only [wrap_fits])
                    all_goals first
                      | (refine hK _ _ ?_; exact Red.auto)
                      | exact trivial
                      | assumption
                      | omega
                      | exact wrap_fits (by omega) (by omega)
                      | (have hq := hp1 (by first | assumption | (simp only [*, Bool.false_or, Bool.true_or, Bool.or_false, Bool.or_true, Bool.false_and, Bool.true_and, Bool.and_false, Bool.and_true, Bool.not_true, Bool.not_false, beq_self_eq_true]; done) | (simp_all; done)); omega)
                      | (have hq := hp2 (by first | assumption | (simp only [*, Bool.false_or, Bool.true_or, Bool.or_false, Bool.or_true, Bool.false_and, Bool.true_and, Bool.and_false, Bool.and_true, Bool.not_true, Bool.not_false, beq_self_eq_true]; done) | (simp_all; done)) (by first | assumption | (simp only [*, Bool.false_or, Bool.true_or, Bool.or_false, Bool.or_true, Bool.false_and, Bool.true_and, Bool.and_false, Bool.and_true, Bool.not_true, Bool.not_false, beq_self_eq_true]; done) | (simp_all; done)); omega)
                      | (simp_all; done)
                      | (simp_all; omega)
                  · clear hp0 hp1 hp2
                    refine awp_cond (t := 76) rfl (fun hc220 => ?_) (fun hc220 => ?_)
                    · replace h := bite_t h hc220
                      replace h := chk_some h
                      obtain ⟨hp0, h⟩ := h
                      refine awp_regE ftCOk [(2, .pp 1 0), (5, .sl 2), (6, .v (.int .i64 t6)), (7, .v (.int .i64 t7))] [.row false (.trips a0_1), .rbox [.v (.int .i64 a0_0), .sl 0], .row true (.ints .i64 (t5s_2.set (((a0_1.getD t7.toNat (0, 0, 0)).2.1).toNat) ((t5s_2.getD (((a0_1.getD t7.toNat (0, 0, 0)).1).toNat) 0) + (a0_1.getD t7.toNat (0, 0, 0)).2.2))), .box [.v (.int .i64 ((a0_1.getD t7.toNat (0, 0, 0)).1)), .v (.int .i64 ((a0_1.getD t7.toNat (0, 0, 0)).2.1)), .v (.int .i64 ((a0_1.getD t7.toNat (0, 0, 0)).2.2))]] ?_
                      clear hp0
                      (try simp only [Thn, InBlk, ↓reduceIte, Nat.reduceEqDiff])
                      (try simp only [Thn, InBlk, ↓reduceIte, Nat.reduceEqDiff])
                      refine ⟨_, h, ?_⟩
                      exact Red.selA [0, 1, 2] Red.auto
                    · replace h := bite_f h hc220
                      refine awp_skip ?_
                      (try simp only [Thn, InBlk, ↓reduceIte, Nat.reduceEqDiff])
                      (try simp only [Thn, InBlk, ↓reduceIte, Nat.reduceEqDiff])
                      refine ⟨_, h, ?_⟩
                      exact Red.selA [0, 1, 2] Red.auto
                · clear h
                  rintro t5s_4 h
                  try dsimp only at h
                  try dsimp only
                  replace h := chk_some h
                  obtain ⟨hp0, h⟩ := h
                  refine awp_regE ftCOk [(2, .pp 1 0), (5, .sl 2), (6, .v (.int .i64 t6)), (7, .v (.int .i64 (t7 + 1)))] [.row false (.trips a0_1), .rbox [.v (.int .i64 a0_0), .sl 0], .row true (.ints .i64 t5s_4)] ?_
                  clear hp0
                  obtain rfl := Option.some.inj h
                  refine LoopQ.next ?_
                  exact Red.auto
              · replace h := bite_f h hc218
                refine awp_exit ?_
                (try simp only [Thn, InBlk, ↓reduceIte, Nat.reduceEqDiff])
                obtain rfl := Option.some.inj h
                refine LoopQ.out rfl ?_
                exact Red.auto
            · clear hx
              skip
              · try dsimp only [Sum.elim_inl, Sum.elim_inr] at h
                try dsimp only [Sum.elim_inl, Sum.elim_inr]
                (try simp only [Thn, InBlk, ↓reduceIte, Nat.reduceEqDiff])
                (try simp only [Thn, InBlk, ↓reduceIte, Nat.reduceEqDiff])
                (try simp only [Thn, InBlk, ↓reduceIte, Nat.reduceEqDiff])
                (try simp only [Thn, InBlk, ↓reduceIte, Nat.reduceEqDiff])
                refine hK205 _ _ ?_
                clear hK205
                replace h := chk_some h
                obtain ⟨hp0, h⟩ := h
                refine awp_regE ftCOk [(2, .pp 1 0), (5, .sl 2), (6, .v (.int .i64 (t6 + 1)))] [.row false (.trips a0_1), .rbox [.v (.int .i64 a0_0), .sl 0], .row true (.ints .i64 t5s_3)] ?_
                clear hp0
                obtain rfl := Option.some.inj h
                refine LoopQ.next ?_
                exact Red.auto
          · replace h := bite_f h hc188
            refine awp_exit ?_
            (try simp only [Thn, InBlk, ↓reduceIte, Nat.reduceEqDiff])
            obtain rfl := Option.some.inj h
            refine LoopQ.out rfl ?_
            exact Red.selA [0, 2] Red.auto
        · clear hx
          skip
          · try dsimp only [Sum.elim_inl, Sum.elim_inr] at h
            try dsimp only [Sum.elim_inl, Sum.elim_inr]
            (try simp only [Thn, InBlk, ↓reduceIte, Nat.reduceEqDiff])
            (try simp only [Thn, InBlk, ↓reduceIte, Nat.reduceEqDiff])
            (try simp only [Thn, InBlk, ↓reduceIte, Nat.reduceEqDiff])
            refine hK113 _ _ ?_
            clear hK113
            refine awp_reg ftCOk [(4, .sl 1)] [.row false (.trips a0_1), .row true (.ints .i64 t5s_1)] ?_
            refine awp_ret ?_
            (try simp only [Thn, InBlk, ↓reduceIte, Nat.reduceEqDiff])
            obtain rfl := Option.some.inj h
            refine ⟨by simp, _, [0, 1], (by simp only [go_sem, Nat.reduceBEq, Nat.reduceLT, Nat.reduceAdd, Nat.reduceLeDiff, Nat.reduceSub, Nat.reduceEqDiff, Int.reduceToNat, reduceCtorEq, ↓reduceIte]; exact rfl), ?_, ?_, ?_, ?_⟩
            · first | exact trivial | exact ⟨trivial, trivial⟩ | exact ⟨trivial, trivial, trivial⟩ | exact ⟨trivial, trivial, trivial, trivial⟩ | (simp only [allP, and_true, true_and]; done) | (simp only [allP, and_true, true_and]; omega)
            · simp [selOk, pos]
            · simp
            · first | exact ⟨rfl, rfl⟩ | (simp only [go_sem, Nat.reduceBEq, Nat.reduceLT, Nat.reduceAdd, Nat.reduceLeDiff, Nat.reduceSub, Nat.reduceEqDiff, Int.reduceToNat, reduceCtorEq, ↓reduceIte]; done) | (simp [go_sem, Nat.reduceBEq, Nat.reduceLT, Nat.reduceAdd, Nat.reduceLeDiff, Nat.reduceSub, Nat.reduceEqDiff, Int.reduceToNat, reduceCtorEq, ↓reduceIte]; done) | (simp only [go_sem, Nat.reduceBEq, Nat.reduceLT, Nat.reduceAdd, Nat.reduceLeDiff, Nat.reduceSub, Nat.reduceEqDiff, Int.reduceToNat, reduceCtorEq, ↓reduceIte]; exact ⟨rfl, rfl⟩) | (simp_all [go_sem, Nat.reduceBEq, Nat.reduceLT, Nat.reduceAdd, Nat.reduceLeDiff, Nat.reduceSub, Nat.reduceEqDiff, Int.reduceToNat, reduceCtorEq, ↓reduceIte]; done)
theorem k_laws_sameInts (a0 : List Int) (a1 : List Int) {r : Bool} (h : laws_sameInts a0 a1 = some r) :
    FnA Try.prog 6 [.sl 0, .sl 1] [.row false (.ints .i64 a0), .row false (.ints .i64 a1)] [] (fun x H => x = .v (.bool r) ∧ H = [.row false (.ints .i64 a0), .row false (.ints .i64 a1)]) := by
  unfold laws_sameInts at h
  refine FnA.of (N := 26) (pin := [0, 1]) (rs := [.tmp 4]) Try.func6 rfl en6 rfl rfl (by simp) (by simp; try omega) ?_
  refine awp_reg ftCOk [(0, .sl 0), (1, .sl 1)] [.row false (.ints .i64 a0), .row false (.ints .i64 a1)] ?_
  refine awp_seq fun K2 hK2 => ?_
  refine awp_reg ftCOk [(0, .sl 0), (1, .sl 1), (10, .v (.bool ((a0.length : Int) != (a1.length : Int))))] [.row false (.ints .i64 a0), .row false (.ints .i64 a1)] ?_
  refine awp_cond (t := 10) rfl (fun hc3 => ?_) (fun hc3 => ?_)
  · replace h := bite_t h hc3
    refine awp_reg ftCOk [(4, .v (.bool false))] [.row false (.ints .i64 a0), .row false (.ints .i64 a1)] ?_
    refine awp_ret ?_
    (try simp only [Thn, InBlk, ↓reduceIte, Nat.reduceEqDiff])
    obtain rfl := Option.some.inj h
    refine ⟨by simp, _, [0, 1], (by simp only [go_sem, Nat.reduceBEq, Nat.reduceLT, Nat.reduceAdd, Nat.reduceLeDiff, Nat.reduceSub, Nat.reduceEqDiff, Int.reduceToNat, reduceCtorEq, ↓reduceIte]; exact rfl), ?_, ?_, ?_, ?_⟩
    · first | exact trivial | exact ⟨trivial, trivial⟩ | exact ⟨trivial, trivial, trivial⟩ | exact ⟨trivial, trivial, trivial, trivial⟩ | (simp only [allP, and_true, true_and]; done) | (simp only [allP, and_true, true_and]; omega)
    · simp [selOk, pos]
    · simp
    · first | exact ⟨rfl, rfl⟩ | (simp only [go_sem, Nat.reduceBEq, Nat.reduceLT, Nat.reduceAdd, Nat.reduceLeDiff, Nat.reduceSub, Nat.reduceEqDiff, Int.reduceToNat, reduceCtorEq, ↓reduceIte]; done) | (simp [go_sem, Nat.reduceBEq, Nat.reduceLT, Nat.reduceAdd, Nat.reduceLeDiff, Nat.reduceSub, Nat.reduceEqDiff, Int.reduceToNat, reduceCtorEq, ↓reduceIte]; done) | (simp only [go_sem, Nat.reduceBEq, Nat.reduceLT, Nat.reduceAdd, Nat.reduceLeDiff, Nat.reduceSub, Nat.reduceEqDiff, Int.reduceToNat, reduceCtorEq, ↓reduceIte]; exact ⟨rfl, rfl⟩) | (simp_all [go_sem, Nat.reduceBEq, Nat.reduceLT, Nat.reduceAdd, Nat.reduceLeDiff, Nat.reduceSub, Nat.reduceEqDiff, Int.reduceToNat, reduceCtorEq, ↓reduceIte]; done)
  · replace h := bite_f h hc3
    refine awp_skip ?_
    (try simp only [Thn, InBlk, ↓reduceIte, Nat.reduceEqDiff])
    refine hK2 _ _ ?_
    clear hK2
    refine awp_seq fun K23 hK23 => ?_
    refine awp_reg ftCOk [(0, .sl 0), (1, .sl 1), (5, .v (.int .i64 0))] [.row false (.ints .i64 a0), .row false (.ints .i64 a1)] ?_
    refine awp_block ?_
    replace h := bind_some h
    obtain ⟨x42, hx, h⟩ := h
    refine awp_loopL hx (fun (t5 : Int) => [(0, .sl 0), (1, .sl 1), (5, .v (.int .i64 t5))]) (fun (t5 : Int) => [.row false (.ints .i64 a0), .row false (.ints .i64 a1)]) (Sum.elim (fun (_ : Unit) => Exit.exit 0) (fun (_ : Unit) => Exit.ret)) (Sum.elim (fun (_ : Unit) => []) (fun (_ : Unit) => [(4, .v (.bool false))])) (Sum.elim (fun (_ : Unit) => [.row false (.ints .i64 a0), .row false (.ints .i64 a1)]) (fun (_ : Unit) => [.row false (.ints .i64 a0), .row false (.ints .i64 a1)])) ?_ ?_ ?_ ?_
    · rintro (⟨⟩ | ⟨⟩) hy <;> cases hy
    · clear h hx
      exact Red.auto
    · clear h hx
      rintro t5 r h
      unfold laws_sameInts_b0 at h
      try dsimp only at h
      try dsimp only
      refine awp_seq fun K37 hK37 => ?_
      refine awp_reg ftCOk [(0, .sl 0), (1, .sl 1), (5, .v (.int .i64 t5)), (14, .v (.bool (decide (t5 < (a0.length : Int)))))] [.row false (.ints .i64 a0), .row false (.ints .i64 a1)] ?_
      refine awp_cond (t := 14) rfl (fun hc38 => ?_) (fun hc38 => ?_)
      · replace h := bite_t h hc38
        refine awp_skip ?_
        (try simp only [Thn, InBlk, ↓reduceIte, Nat.reduceEqDiff])
        refine hK37 _ _ ?_
        clear hK37
        refine awp_seq fun K40 hK40 => ?_
        refine awp_block ?_
        replace h := chk_some h
        obtain ⟨hp0, h⟩ := h
        replace h := chk_some h
        obtain ⟨hp1, h⟩ := h
        refine awp_regQ mixed ftCOk [(0, .sl 0), (1, .sl 1), (5, .v (.int .i64 t5)), (25, .v (.bool ((a0.getD t5.toNat 0) != (a1.getD t5.toNat 0))))] [.row false (.ints .i64 a0), .row false (.ints .i64 a1)] ?_
        clear hp0 hp1
        refine awp_cond (t := 25) rfl (fun hc41 => ?_) (fun hc41 => ?_)
        · replace h := bite_t h hc41
          refine awp_reg ftCOk [(4, .v (.bool false))] [.row false (.ints .i64 a0), .row false (.ints .i64 a1)] ?_
          refine awp_ret ?_
          (try simp only [Thn, InBlk, ↓reduceIte, Nat.reduceEqDiff])
          obtain rfl := Option.some.inj h
          refine LoopQ.out rfl ?_
          exact Red.auto
        · replace h := bite_f h hc41
          refine awp_skip ?_
          (try simp only [Thn, InBlk, ↓reduceIte, Nat.reduceEqDiff])
          (try simp only [Thn, InBlk, ↓reduceIte, Nat.reduceEqDiff])
          refine hK40 _ _ ?_
          clear hK40
          replace h := chk_some h
          obtain ⟨hp0, h⟩ := h
          refine awp_regE ftCOk [(0, .sl 0), (1, .sl 1), (5, .v (.int .i64 (t5 + 1)))] [.row false (.ints .i64 a0), .row false (.ints .i64 a1)] ?_
          clear hp0
          obtain rfl := Option.some.inj h
          refine LoopQ.next ?_
          exact Red.auto
      · replace h := bite_f h hc38
        refine awp_exit ?_
        (try simp only [Thn, InBlk, ↓reduceIte, Nat.reduceEqDiff])
        obtain rfl := Option.some.inj h
        refine LoopQ.out rfl ?_
        exact Red.auto
    · clear hx
      rcases x42 with (⟨⟩ | ⟨⟩)
      · try dsimp only [Sum.elim_inl, Sum.elim_inr] at h
        try dsimp only [Sum.elim_inl, Sum.elim_inr]
        (try simp only [Thn, InBlk, ↓reduceIte, Nat.reduceEqDiff])
        (try simp only [Thn, InBlk, ↓reduceIte, Nat.reduceEqDiff])
        (try simp only [Thn, InBlk, ↓reduceIte, Nat.reduceEqDiff])
        refine hK23 _ _ ?_
        clear hK23
        refine awp_reg ftCOk [(4, .v (.bool true))] [.row false (.ints .i64 a0), .row false (.ints .i64 a1)] ?_
        refine awp_ret ?_
        (try simp only [Thn, InBlk, ↓reduceIte, Nat.reduceEqDiff])
        obtain rfl := Option.some.inj h
        refine ⟨by simp, _, [0, 1], (by simp only [go_sem, Nat.reduceBEq, Nat.reduceLT, Nat.reduceAdd, Nat.reduceLeDiff, Nat.reduceSub, Nat.reduceEqDiff, Int.reduceToNat, reduceCtorEq, ↓reduceIte]; exact rfl), ?_, ?_, ?_, ?_⟩
        · first | exact trivial | exact ⟨trivial, trivial⟩ | exact ⟨trivial, trivial, trivial⟩ | exact ⟨trivial, trivial, trivial, trivial⟩ | (simp only [allP, and_true, true_and]; done) | (simp only [allP, and_true, true_and]; omega)
        · simp [selOk, pos]
        · simp
        · first | exact ⟨rfl, rfl⟩ | (simp only [go_sem, Nat.reduceBEq, Nat.reduceLT, Nat.reduceAdd, Nat.reduceLeDiff, Nat.reduceSub, Nat.reduceEqDiff, Int.reduceToNat, reduceCtorEq, ↓reduceIte]; done) | (simp [go_sem, Nat.reduceBEq, Nat.reduceLT, Nat.reduceAdd, Nat.reduceLeDiff, Nat.reduceSub, Nat.reduceEqDiff, Int.reduceToNat, reduceCtorEq, ↓reduceIte]; done) | (simp only [go_sem, Nat.reduceBEq, Nat.reduceLT, Nat.reduceAdd, Nat.reduceLeDiff, Nat.reduceSub, Nat.reduceEqDiff, Int.reduceToNat, reduceCtorEq, ↓reduceIte]; exact ⟨rfl, rfl⟩) | (simp_all [go_sem, Nat.reduceBEq, Nat.reduceLT, Nat.reduceAdd, Nat.reduceLeDiff, Nat.reduceSub, Nat.reduceEqDiff, Int.reduceToNat, reduceCtorEq, ↓reduceIte]; done)
      · try dsimp only [Sum.elim_inl, Sum.elim_inr] at h
        try dsimp only [Sum.elim_inl, Sum.elim_inr]
        (try simp only [Thn, InBlk, ↓reduceIte, Nat.reduceEqDiff])
        obtain rfl := Option.some.inj h
        refine ⟨by simp, _, [0, 1], (by simp only [go_sem, Nat.reduceBEq, Nat.reduceLT, Nat.reduceAdd, Nat.reduceLeDiff, Nat.reduceSub, Nat.reduceEqDiff, Int.reduceToNat, reduceCtorEq, ↓reduceIte]; exact rfl), ?_, ?_, ?_, ?_⟩
        · first | exact trivial | exact ⟨trivial, trivial⟩ | exact ⟨trivial, trivial, trivial⟩ | exact ⟨trivial, trivial, trivial, trivial⟩ | (simp only [allP, and_true, true_and]; done) | (simp only [allP, and_true, true_and]; omega)
        · simp [selOk, pos]
        · simp
        · first | exact ⟨rfl, rfl⟩ | (simp only [go_sem, Nat.reduceBEq, Nat.reduceLT, Nat.reduceAdd, Nat.reduceLeDiff, Nat.reduceSub, Nat.reduceEqDiff, Int.reduceToNat, reduceCtorEq, ↓reduceIte]; done) | (simp [go_sem, Nat.reduceBEq, Nat.reduceLT, Nat.reduceAdd, Nat.reduceLeDiff, Nat.reduceSub, Nat.reduceEqDiff, Int.reduceToNat, reduceCtorEq, ↓reduceIte]; done) | (simp only [go_sem, Nat.reduceBEq, Nat.reduceLT, Nat.reduceAdd, Nat.reduceLeDiff, Nat.reduceSub, Nat.reduceEqDiff, Int.reduceToNat, reduceCtorEq, ↓reduceIte]; exact ⟨rfl, rfl⟩) | (simp_all [go_sem, Nat.reduceBEq, Nat.reduceLT, Nat.reduceAdd, Nat.reduceLeDiff, Nat.reduceSub, Nat.reduceEqDiff, Int.reduceToNat, reduceCtorEq, ↓reduceIte]; done)
theorem k_slices_Clone_impl_Edge_impl_Edge (a0 : List (Int × Int × Int)) {r : (List (Int × Int × Int))} (h : slices_Clone_impl_Edge_impl_Edge a0 = some r) :
    FnA Try.prog 30 [.sl 0] [.row false (.trips a0)] [] (fun x H => x = .sl 1 ∧ H = [.row false (.trips a0), .row true (.trips r)]) := by
  unfold slices_Clone_impl_Edge_impl_Edge at h
  refine FnA.of (N := 8) (pin := [0]) (rs := [.tmp 2]) Try.func30 rfl en30 rfl rfl (by simp) (by simp; try omega) ?_
  refine awp_reg ftCOk [(0, .sl 0)] [.row false (.trips a0)] ?_
  refine awp_seq fun K2 hK2 => ?_
  have hboth := both_some h
  refine awp_isnil (by rfl) (by rfl) Try.underlying23 rfl rfl fun b hb => ?_
  replace h := hboth b hb
  clear hboth
  refine awp_cond (t := 4) rfl (fun hc3 => ?_) (fun hc3 => ?_)
  · replace h := bite_t h hc3
    refine awp_reg ftCOk [(2, .v (.slice none 0 0))] [.row false (.trips a0)] ?_
    refine awp_red (Red.nil (t := 2) (.trips []) rfl rfl) ?_
    refine awp_ret ?_
    (try simp only [Thn, InBlk, ↓reduceIte, Nat.reduceEqDiff])
    obtain rfl := Option.some.inj h
    refine ⟨by simp, _, [0, 1], (by simp only [go_sem, Nat.reduceBEq, Nat.reduceLT, Nat.reduceAdd, Nat.reduceLeDiff, Nat.reduceSub, Nat.reduceEqDiff, Int.reduceToNat, reduceCtorEq, ↓reduceIte]; exact rfl), ?_, ?_, ?_, ?_⟩
    · first | exact trivial | exact ⟨trivial, trivial⟩ | exact ⟨trivial, trivial, trivial⟩ | exact ⟨trivial, trivial, trivial, trivial⟩ | (simp only [allP, and_true, true_and]; done) | (simp only [allP, and_true, true_and]; omega)
    · simp [selOk, pos]
    · simp
    · first | exact ⟨rfl, rfl⟩ | (simp only [go_sem, Nat.reduceBEq, Nat.reduceLT, Nat.reduceAdd, Nat.reduceLeDiff, Nat.reduceSub, Nat.reduceEqDiff, Int.reduceToNat, reduceCtorEq, ↓reduceIte]; done) | (simp [go_sem, Nat.reduceBEq, Nat.reduceLT, Nat.reduceAdd, Nat.reduceLeDiff, Nat.reduceSub, Nat.reduceEqDiff, Int.reduceToNat, reduceCtorEq, ↓reduceIte]; done) | (simp only [go_sem, Nat.reduceBEq, Nat.reduceLT, Nat.reduceAdd, Nat.reduceLeDiff, Nat.reduceSub, Nat.reduceEqDiff, Int.reduceToNat, reduceCtorEq, ↓reduceIte]; exact ⟨rfl, rfl⟩) | (simp_all [go_sem, Nat.reduceBEq, Nat.reduceLT, Nat.reduceAdd, Nat.reduceLeDiff, Nat.reduceSub, Nat.reduceEqDiff, Int.reduceToNat, reduceCtorEq, ↓reduceIte]; done)
  · replace h := bite_f h hc3
    refine awp_skip ?_
    (try simp only [Thn, InBlk, ↓reduceIte, Nat.reduceEqDiff])
    refine hK2 _ _ ?_
    clear hK2
    replace h := chk_some h
    obtain ⟨hp0, h⟩ := h
    refine awp_reg ftCOk [(2, .sl 1)] [.row false (.trips a0), .row true (.trips ([] ++ a0))] ?_
    clear hp0
    refine awp_ret ?_
    (try simp only [Thn, InBlk, ↓reduceIte, Nat.reduceEqDiff])
    obtain rfl := Option.some.inj h
    refine ⟨by simp, _, [0, 1], (by simp only [go_sem, Nat.reduceBEq, Nat.reduceLT, Nat.reduceAdd, Nat.reduceLeDiff, Nat.reduceSub, Nat.reduceEqDiff, Int.reduceToNat, reduceCtorEq, ↓reduceIte]; exact rfl), ?_, ?_, ?_, ?_⟩
    · first | exact trivial | exact ⟨trivial, trivial⟩ | exact ⟨trivial, trivial, trivial⟩ | exact ⟨trivial, trivial, trivial, trivial⟩ | (simp only [allP, and_true, true_and]; done) | (simp only [allP, and_true, true_and]; omega)
    · simp [selOk, pos]
    · simp
    · first | exact ⟨rfl, rfl⟩ | (simp only [go_sem, Nat.reduceBEq, Nat.reduceLT, Nat.reduceAdd, Nat.reduceLeDiff, Nat.reduceSub, Nat.reduceEqDiff, Int.reduceToNat, reduceCtorEq, ↓reduceIte]; done) | (simp [go_sem, Nat.reduceBEq, Nat.reduceLT, Nat.reduceAdd, Nat.reduceLeDiff, Nat.reduceSub, Nat.reduceEqDiff, Int.reduceToNat, reduceCtorEq, ↓reduceIte]; done) | (simp only [go_sem, Nat.reduceBEq, Nat.reduceLT, Nat.reduceAdd, Nat.reduceLeDiff, Nat.reduceSub, Nat.reduceEqDiff, Int.reduceToNat, reduceCtorEq, ↓reduceIte]; exact ⟨rfl, rfl⟩) | (simp_all [go_sem, Nat.reduceBEq, Nat.reduceLT, Nat.reduceAdd, Nat.reduceLeDiff, Nat.reduceSub, Nat.reduceEqDiff, Int.reduceToNat, reduceCtorEq, ↓reduceIte]; done)
theorem k_impl_Graph_copied (a0_0 : Int) (a0_1 : List (Int × Int × Int)) {r : Int × (List (Int × Int × Int))} (h : impl_Graph_copied a0_0 a0_1 = some r) :
    FnA Try.prog 19 [.agg [.v (.int .i64 a0_0), .sl 0]] [.row false (.trips a0_1)] [] (fun x H => x = .agg [.v (.int .i64 r.1), .sl 1] ∧ H = [.row false (.trips a0_1), .row true (.trips r.2)]) := by
  unfold impl_Graph_copied at h
  refine FnA.of (N := 9) (pin := [0]) (rs := [.cell 2 25]) Try.func19 rfl en19 rfl rfl (by simp) (by simp; try omega) ?_
  refine awp_reg ftCOk [(1, .pp 1 0), (2, .pp 2 0)] [.row false (.trips a0_1), .box [.v (.int .i64 a0_0), .sl 0], .box [.v (.int .i64 0), .v (.slice none 0 0)]] ?_
  refine awp_freeze 1 (by rfl) (by rfl) (by exact rfl) ?_
  replace h := bind_some h
  obtain ⟨y, hr0, h⟩ := h
  try dsimp only at h
  refine awp_to [(2, .pp 2 0)] [.row false (.trips a0_1), .rbox [.v (.int .i64 a0_0), .sl 0], .box [.v (.int .i64 a0_0), .sl 3], .row true (.trips y)] ?_ ?_
  · clear h
    intro K hK
    refine awp_drawT mixed ftCOk (.free 0 (.free 2 (.free 1 (.one 3 (.one 4 (.one 5 (.one 6 .fin))))))) (by kernel_rfl) (by simp) ?_
    simp (maxSteps := 4000000) only [go_sem, Nat.reduceBEq, Nat.reduceLT, Nat.reduceAdd, Nat.reduceLeDiff, Nat.reduceSub, Nat.reduceEqDiff, Int.reduceToNat, reduceCtorEq, ↓reduceIte]
    repeat' (first | refine And.intro ?_ ?_ | intro hg)
    all_goals (try simp (disch := omega) only [wrap_fits])
    all_goals first
      | (refine hK _ _ ?_; exact Red.auto)
      | exact trivial
      | assumption
      | omega
      | exact wrap_fits (by omega) (by omega)
      | (refine OpK_callA (k_slices_Clone_impl_Edge_impl_Edge a0_1 (h := hr0)) [0] [] ?_
         rintro x Hc' ⟨rfl, rfl⟩ hlen
         simp (maxSteps := 4000000) only [go_sem, Nat.reduceBEq, Nat.reduceLT, Nat.reduceAdd, Nat.reduceLeDiff, Nat.reduceSub, Nat.reduceEqDiff, Int.reduceToNat, reduceCtorEq, ↓reduceIte]
         repeat' (first | refine And.intro ?_ ?_ | intro hg)
         all_goals (try simp (disch := omega) only [wrap_fits])
         all_goals first
           | (refine hK _ _ ?_; exact Red.auto)
           | exact trivial
           | assumption
           | omega
           | exact wrap_fits (by omega) (by omega)
           | (simp (maxSteps := 4000000) only [go_sem, Nat.reduceBEq, Nat.reduceLT, Nat.reduceAdd, Nat.reduceLeDiff, Nat.reduceSub, Nat.reduceEqDiff, Int.reduceToNat, reduceCtorEq, ↓reduceIte]
              repeat' (first | refine And.intro ?_ ?_ | intro hg)
              all_goals (try simp (disch := omega) only [wrap_fits])
              all_goals first | (refine hK _ _ ?_; exact Red.auto) | exact trivial | assumption | omega | exact wrap_fits (by omega) (by omega))
           | (simp_all; done)
           | (simp_all; omega))
      | (simp_all; done)
      | (simp_all; omega)
  · clear hr0
    refine awp_ret ?_
    (try simp only [Thn, InBlk, ↓reduceIte, Nat.reduceEqDiff])
    obtain rfl := Option.some.inj h
    refine ⟨by simp, _, [0, 3], (by simp only [go_sem, Nat.reduceBEq, Nat.reduceLT, Nat.reduceAdd, Nat.reduceLeDiff, Nat.reduceSub, Nat.reduceEqDiff, Int.reduceToNat, reduceCtorEq, ↓reduceIte]; exact rfl), ?_, ?_, ?_, ?_⟩
    · first | exact trivial | exact ⟨trivial, trivial⟩ | exact ⟨trivial, trivial, trivial⟩ | exact ⟨trivial, trivial, trivial, trivial⟩ | (simp only [allP, and_true, true_and]; done) | (simp only [allP, and_true, true_and]; omega)
    · simp [selOk, pos]
    · simp
    · first | exact ⟨rfl, rfl⟩ | (simp only [go_sem, Nat.reduceBEq, Nat.reduceLT, Nat.reduceAdd, Nat.reduceLeDiff, Nat.reduceSub, Nat.reduceEqDiff, Int.reduceToNat, reduceCtorEq, ↓reduceIte]; done) | (simp [go_sem, Nat.reduceBEq, Nat.reduceLT, Nat.reduceAdd, Nat.reduceLeDiff, Nat.reduceSub, Nat.reduceEqDiff, Int.reduceToNat, reduceCtorEq, ↓reduceIte]; done) | (simp only [go_sem, Nat.reduceBEq, Nat.reduceLT, Nat.reduceAdd, Nat.reduceLeDiff, Nat.reduceSub, Nat.reduceEqDiff, Int.reduceToNat, reduceCtorEq, ↓reduceIte]; exact ⟨rfl, rfl⟩) | (simp_all [go_sem, Nat.reduceBEq, Nat.reduceLT, Nat.reduceAdd, Nat.reduceLeDiff, Nat.reduceSub, Nat.reduceEqDiff, Int.reduceToNat, reduceCtorEq, ↓reduceIte]; done)
theorem k_slices_SortFunc__impl_compareEnds (a0 : List (Int × Int × Int)) {r : List (Int × Int × Int)} (h : slices_SortFunc__impl_compareEnds a0 = some r) :
    FnA Try.prog 20 [.sl 0, .v (.func (.func 21) #[] #[])] [.row true (.trips a0)] [] (fun x H => x = .tup [] ∧ H = [.row true (.trips r)]) := by
  unfold slices_SortFunc__impl_compareEnds at h
  obtain ⟨h1, h⟩ := chk_some h
  simp only [Option.some.injEq] at h
  subst h
  exact sortFunc_trips Go.Proofs.sortL Try.isAgg45 Try.sizeOf45 endsC endsSWO rfl en20 en21 (fun x y W => cmpEndsP.calls [.agg (encT x).toArray, .agg (encT y).toArray] True _ rfl trivial W) a0 h1
theorem k_impl_TurnGraph (a0_0 : Int) (a0_1 : List (Int × Int × Int)) {r : Int × (List (Int × Int × Int))} (h : impl_TurnGraph a0_0 a0_1 = some r) :
    FnA Try.prog 8 [.agg [.v (.int .i64 a0_0), .sl 0]] [.row false (.trips a0_1)] [] (fun x H => x = .agg [.v (.int .i64 r.1), .sl 1] ∧ H = [.row false (.trips a0_1), .row true (.trips r.2)]) := by
  unfold impl_TurnGraph at h
  refine FnA.of (N := 36) (pin := [0]) (rs := [.cell 2 25]) Try.func8 rfl en8 rfl rfl (by simp) (by simp; try omega) ?_
  refine awp_reg ftCOk [(1, .pp 1 0), (2, .pp 2 0)] [.row false (.trips a0_1), .box [.v (.int .i64 a0_0), .sl 0], .box [.v (.int .i64 0), .v (.slice none 0 0)]] ?_
  refine awp_freeze 1 (by rfl) (by rfl) (by exact rfl) ?_
  refine awp_seq fun K2 hK2 => ?_
  replace h := bind_some h
  obtain ⟨y, hr0, h⟩ := h
  try dsimp only at h
  refine awp_to [(1, .pp 1 0), (2, .pp 2 0), (8, .v (.bool (!y)))] [.row false (.trips a0_1), .rbox [.v (.int .i64 a0_0), .sl 0], .box [.v (.int .i64 0), .v (.slice none 0 0)]] ?_ ?_
  · clear h
    intro K hK
    refine awp_region ftCOk ?_
    simp (maxSteps := 4000000) only [go_sem, Nat.reduceBEq, Nat.reduceLT, Nat.reduceAdd, Nat.reduceLeDiff, Nat.reduceSub, Nat.reduceEqDiff, Int.reduceToNat, reduceCtorEq, ↓reduceIte]
    repeat' (first | refine And.intro ?_ ?_ | intro hg)
    all_goals (try simp (disch := omega) only [wrap_fits])
    all_goals first
      | (refine hK _ _ ?_; exact Red.auto)
      | exact trivial
      | assumption
      | omega
      | exact wrap_fits (by omega) (by omega)
      | (refine wpA_callA (k_impl_GraphValid a0_0 a0_1 (h := hr0)) [0] [] ?_
         rintro x Hc' ⟨rfl, rfl⟩ hlen
         refine vcOps_sound ftCOk ?_
         simp (maxSteps := 4000000) only [go_sem, Nat.reduceBEq, Nat.reduceLT, Nat.reduceAdd, Nat.reduceLeDiff, Nat.reduceSub, Nat.reduceEqDiff, Int.reduceToNat, reduceCtorEq, ↓reduceIte]
         repeat' (first | refine And.intro ?_ ?_ | intro hg)
         all_goals (try simp (disch := omega) only [wrap_fits])
         all_goals first
           | (refine hK _ _ ?_; exact Red.auto)
           | exact trivial
           | assumption
           | omega
           | exact wrap_fits (by omega) (by omega)
           | (simp_all; done)
           | (simp_all; omega))
      | (simp_all; done)
      | (simp_all; omega)
  · clear hr0
    refine awp_cond (t := 8) rfl (fun hc3 => ?_) (fun hc3 => ?_)
    · replace h := bite_t h hc3
      refine awp_reg ftCOk [(2, .pp 2 0)] [.row false (.trips a0_1), .rbox [.v (.int .i64 a0_0), .sl 0], .box [.v (.int .i64 0), .v (.slice none 0 0)]] ?_
      refine awp_red (Red.nilCell (o := 2) (i := 1) (.trips []) rfl rfl rfl) ?_
      refine awp_ret ?_
      (try simp only [Thn, InBlk, ↓reduceIte, Nat.reduceEqDiff])
      obtain rfl := Option.some.inj h
      refine ⟨by simp, _, [0, 3], (by simp only [go_sem, Nat.reduceBEq, Nat.reduceLT, Nat.reduceAdd, Nat.reduceLeDiff, Nat.reduceSub, Nat.reduceEqDiff, Int.reduceToNat, reduceCtorEq, ↓reduceIte]; exact rfl), ?_, ?_, ?_, ?_⟩
      · first | exact trivial | exact ⟨trivial, trivial⟩ | exact ⟨trivial, trivial, trivial⟩ | exact ⟨trivial, trivial, trivial, trivial⟩ | (simp only [allP, and_true, true_and]; done) | (simp only [allP, and_true, true_and]; omega)
      · simp [selOk, pos]
      · simp
      · first | exact ⟨rfl, rfl⟩ | (simp only [go_sem, Nat.reduceBEq, Nat.reduceLT, Nat.reduceAdd, Nat.reduceLeDiff, Nat.reduceSub, Nat.reduceEqDiff, Int.reduceToNat, reduceCtorEq, ↓reduceIte]; done) | (simp [go_sem, Nat.reduceBEq, Nat.reduceLT, Nat.reduceAdd, Nat.reduceLeDiff, Nat.reduceSub, Nat.reduceEqDiff, Int.reduceToNat, reduceCtorEq, ↓reduceIte]; done) | (simp only [go_sem, Nat.reduceBEq, Nat.reduceLT, Nat.reduceAdd, Nat.reduceLeDiff, Nat.reduceSub, Nat.reduceEqDiff, Int.reduceToNat, reduceCtorEq, ↓reduceIte]; exact ⟨rfl, rfl⟩) | (simp_all [go_sem, Nat.reduceBEq, Nat.reduceLT, Nat.reduceAdd, Nat.reduceLeDiff, Nat.reduceSub, Nat.reduceEqDiff, Int.reduceToNat, reduceCtorEq, ↓reduceIte]; done)
    · replace h := bite_f h hc3
      refine awp_skip ?_
      (try simp only [Thn, InBlk, ↓reduceIte, Nat.reduceEqDiff])
      refine hK2 _ _ ?_
      clear hK2
      replace h := bind_some h
      obtain ⟨⟨y_1, y_2⟩, hr0, h⟩ := h
      try dsimp only at h
      refine awp_to [(2, .pp 2 0), (3, .pp 4 0)] [.row false (.trips a0_1), .rbox [.v (.int .i64 a0_0), .sl 0], .box [.v (.int .i64 0), .v (.slice none 0 0)], .row true (.trips y_2), .box [.v (.int .i64 y_1), .sl 3]] ?_ ?_
      · clear h
        intro K hK
        refine awp_region ftCOk ?_
        simp (maxSteps := 4000000) only [go_sem, Nat.reduceBEq, Nat.reduceLT, Nat.reduceAdd, Nat.reduceLeDiff, Nat.reduceSub, Nat.reduceEqDiff, Int.reduceToNat, reduceCtorEq, ↓reduceIte]
        repeat' (first | refine And.intro ?_ ?_ | intro hg)
        all_goals (try simp (disch := omega) only [wrap_fits])
        all_goals first
          | (refine hK _ _ ?_; exact Red.auto)
          | exact trivial
          | assumption
          | omega
          | exact wrap_fits (by omega) (by omega)
          | (refine wpA_callA (k_impl_Graph_copied a0_0 a0_1 (h := hr0)) [0] [] ?_
             rintro x Hc' ⟨rfl, rfl⟩ hlen
             refine vcOps_sound ftCOk ?_
             simp (maxSteps := 4000000) only [go_sem, Nat.reduceBEq, Nat.reduceLT, Nat.reduceAdd, Nat.reduceLeDiff, Nat.reduceSub, Nat.reduceEqDiff, Int.reduceToNat, reduceCtorEq, ↓reduceIte]
             repeat' (first | refine And.intro ?_ ?_ | intro hg)
             all_goals (try simp (disch := omega) only [wrap_fits])
             all_goals first
               | (refine hK _ _ ?_; exact Red.auto)
               | exact trivial
               | assumption
               | omega
               | exact wrap_fits (by omega) (by omega)
               | (simp_all; done)
               | (simp_all; omega))
          | (simp_all; done)
          | (simp_all; omega)
      · clear hr0
        refine awp_seq fun K17 hK17 => ?_
        refine awp_reg ftCOk [(2, .pp 2 0), (3, .pp 4 0), (13, .sl 3), (14, .v (.int .i64 (y_2.length : Int))), (15, .v (.int .i64 0))] [.row false (.trips a0_1), .rbox [.v (.int .i64 a0_0), .sl 0], .box [.v (.int .i64 0), .v (.slice none 0 0)], .row true (.trips y_2), .box [.v (.int .i64 y_1), .sl 3]] ?_
        refine awp_block ?_
        replace h := bind_some h
        obtain ⟨t3_1s_1, hx, h⟩ := h
        refine awp_loopL hx (fun ((t15, t3_1s) : Int × (List (Int × Int × Int))) => [(2, .pp 1 0), (3, .pp 2 0), (13, .sl 3), (14, .v (.int .i64 (y_2.length : Int))), (15, .v (.int .i64 t15))]) (fun ((t15, t3_1s) : Int × (List (Int × Int × Int))) => [.row false (.trips a0_1), .box [.v (.int .i64 0), .v (.slice none 0 0)], .box [.v (.int .i64 y_1), .sl 3], .row true (.trips t3_1s)]) (fun (t3_1s_1 : List (Int × Int × Int)) => Exit.exit 0) (fun (t3_1s_1 : List (Int × Int × Int)) => [(2, .pp 1 0), (3, .pp 2 0)]) (fun (t3_1s_1 : List (Int × Int × Int)) => [.row false (.trips a0_1), .box [.v (.int .i64 0), .v (.slice none 0 0)], .box [.v (.int .i64 y_1), .sl 3], .row true (.trips t3_1s_1)]) ?_ ?_ ?_ ?_
        · rintro t3_1s_1 hy <;> cases hy
        · clear h hx
          exact Red.selA [0, 2, 4, 3] Red.auto
        · clear h hx
          rintro ⟨t15, t3_1s⟩ r h
          unfold impl_TurnGraph_b0 at h
          try dsimp only at h
          try dsimp only
          refine awp_reg ftCOk [(2, .pp 1 0), (3, .pp 2 0), (13, .sl 3), (14, .v (.int .i64 (y_2.length : Int))), (15, .v (.int .i64 t15)), (16, .v (.bool (decide (t15 < (y_2.length : Int)))))] [.row false (.trips a0_1), .box [.v (.int .i64 0), .v (.slice none 0 0)], .box [.v (.int .i64 y_1), .sl 3], .row true (.trips t3_1s)] ?_
          refine awp_seq fun K27 hK27 => ?_
          refine awp_cond (t := 16) rfl (fun hc28 => ?_) (fun hc28 => ?_)
          · replace h := bite_t h hc28
            refine awp_skip ?_
            (try simp only [Thn, InBlk, ↓reduceIte, Nat.reduceEqDiff])
            refine hK27 _ _ ?_
            clear hK27
            refine awp_seq fun K29 hK29 => ?_
            refine awp_block ?_
            replace h := chk_some h
            obtain ⟨hp0, h⟩ := h
            refine awp_reg ftCOk [(2, .pp 1 0), (3, .pp 2 0), (4, .v (.int .i64 t15)), (5, .pp 4 0), (13, .sl 3), (14, .v (.int .i64 (y_2.length : Int))), (15, .v (.int .i64 t15))] [.row false (.trips a0_1), .box [.v (.int .i64 0), .v (.slice none 0 0)], .box [.v (.int .i64 y_1), .sl 3], .row true (.trips t3_1s), .box [.v (.int .i64 ((t3_1s.getD t15.toNat (0, 0, 0)).1)), .v (.int .i64 ((t3_1s.getD t15.toNat (0, 0, 0)).2.1)), .v (.int .i64 ((t3_1s.getD t15.toNat (0, 0, 0)).2.2))]] ?_
            clear hp0
            replace h := chk_some h
            obtain ⟨hp0, h⟩ := h
            refine awp_regE ftCOk [(2, .pp 1 0), (3, .pp 2 0), (13, .sl 3), (14, .v (.int .i64 (y_2.length : Int))), (15, .v (.int .i64 t15))] [.row false (.trips a0_1), .box [.v (.int .i64 0), .v (.slice none 0 0)], .box [.v (.int .i64 y_1), .sl 3], .row true (.trips (t3_1s.set t15.toNat ((t3_1s.getD t15.toNat (0, 0, 0)).2.1, (t3_1s.getD t15.toNat (0, 0, 0)).1, (t3_1s.getD t15.toNat (0, 0, 0)).2.2))), .box [.v (.int .i64 ((t3_1s.getD t15.toNat (0, 0, 0)).1)), .v (.int .i64 ((t3_1s.getD t15.toNat (0, 0, 0)).2.1)), .v (.int .i64 ((t3_1s.getD t15.toNat (0, 0, 0)).2.2))]] ?_
            clear hp0
            (try simp only [Thn, InBlk, ↓reduceIte, Nat.reduceEqDiff])
            (try simp only [Thn, InBlk, ↓reduceIte, Nat.reduceEqDiff])
            refine hK29 _ _ ?_
            clear hK29
            replace h := chk_some h
            obtain ⟨hp0, h⟩ := h
            refine awp_regE ftCOk [(2, .pp 1 0), (3, .pp 2 0), (13, .sl 3), (14, .v (.int .i64 (y_2.length : Int))), (15, .v (.int .i64 (t15 + 1)))] [.row false (.trips a0_1), .box [.v (.int .i64 0), .v (.slice none 0 0)], .box [.v (.int .i64 y_1), .sl 3], .row true (.trips (t3_1s.set t15.toNat ((t3_1s.getD t15.toNat (0, 0, 0)).2.1, (t3_1s.getD t15.toNat (0, 0, 0)).1, (t3_1s.getD t15.toNat (0, 0, 0)).2.2))), .box [.v (.int .i64 ((t3_1s.getD t15.toNat (0, 0, 0)).1)), .v (.int .i64 ((t3_1s.getD t15.toNat (0, 0, 0)).2.1)), .v (.int .i64 ((t3_1s.getD t15.toNat (0, 0, 0)).2.2))]] ?_
            clear hp0
            obtain rfl := Option.some.inj h
            refine LoopQ.next ?_
            exact Red.selA [0, 1, 2, 3] Red.auto
          · replace h := bite_f h hc28
            refine awp_exit ?_
            (try simp only [Thn, InBlk, ↓reduceIte, Nat.reduceEqDiff])
            obtain rfl := Option.some.inj h
            refine LoopQ.out rfl ?_
            exact Red.auto
        · clear hx
          skip
          · try dsimp only [Sum.elim_inl, Sum.elim_inr] at h
            try dsimp only [Sum.elim_inl, Sum.elim_inr]
            (try simp only [Thn, InBlk, ↓reduceIte, Nat.reduceEqDiff])
            (try simp only [Thn, InBlk, ↓reduceIte, Nat.reduceEqDiff])
            (try simp only [Thn, InBlk, ↓reduceIte, Nat.reduceEqDiff])
            refine hK17 _ _ ?_
            clear hK17
            replace h := bind_some h
            obtain ⟨y_3, hr0, h⟩ := h
            try dsimp only at h
            refine awp_to [(2, .pp 1 0), (3, .pp 2 0)] [.row false (.trips a0_1), .box [.v (.int .i64 0), .v (.slice none 0 0)], .box [.v (.int .i64 y_1), .sl 3], .row true (.trips y_3)] ?_ ?_
            · clear h
              intro K hK
              refine awp_region ftCOk ?_
              simp (maxSteps := 4000000) only [go_sem, Nat.reduceBEq, Nat.reduceLT, Nat.reduceAdd, Nat.reduceLeDiff, Nat.reduceSub, Nat.reduceEqDiff, Int.reduceToNat, reduceCtorEq, ↓reduceIte]
              repeat' (first | refine And.intro ?_ ?_ | intro hg)
              all_goals (try simp (disch := omega) only [wrap_fits])
              all_goals first
                | (refine hK _ _ ?_; exact Red.auto)
                | exact trivial
                | assumption
                | omega
                | exact wrap_fits (by omega) (by omega)
                | (refine wpA_callA (k_slices_SortFunc__impl_compareEnds t3_1s_1 (h := hr0)) [3] [] ?_
                   rintro x Hc' ⟨rfl, rfl⟩ hlen
                   refine vcOps_sound ftCOk ?_
                   simp (maxSteps := 4000000) only [go_sem, Nat.reduceBEq, Nat.reduceLT, Nat.reduceAdd, Nat.reduceLeDiff, Nat.reduceSub, Nat.reduceEqDiff, Int.reduceToNat, reduceCtorEq, ↓reduceIte]
                   repeat' (first | refine And.intro ?_ ?_ | intro hg)
                   all_goals (try simp (disch := omega) only [wrap_fits])
                   all_goals first
                     | (refine hK _ _ ?_; exact Red.auto)
                     | exact trivial
                     | assumption
                     | omega
                     | exact wrap_fits (by omega) (by omega)
                     | (simp_all; done)
                     | (simp_all; omega))
                | (simp_all; done)
                | (simp_all; omega)
            · clear hr0
              refine awp_reg ftCOk [(2, .pp 1 0)] [.row false (.trips a0_1), .box [.v (.int .i64 y_1), .sl 3], .box [.v (.int .i64 y_1), .sl 3], .row true (.trips y_3)] ?_
              refine awp_ret ?_
              (try simp only [Thn, InBlk, ↓reduceIte, Nat.reduceEqDiff])
              obtain rfl := Option.some.inj h
              refine ⟨by simp, _, [0, 3], (by simp only [go_sem, Nat.reduceBEq, Nat.reduceLT, Nat.reduceAdd, Nat.reduceLeDiff, Nat.reduceSub, Nat.reduceEqDiff, Int.reduceToNat, reduceCtorEq, ↓reduceIte]; exact rfl), ?_, ?_, ?_, ?_⟩
              · first | exact trivial | exact ⟨trivial, trivial⟩ | exact ⟨trivial, trivial, trivial⟩ | exact ⟨trivial, trivial, trivial, trivial⟩ | (simp only [allP, and_true, true_and]; done) | (simp only [allP, and_true, true_and]; omega)
              · simp [selOk, pos]
              · simp
              · first | exact ⟨rfl, rfl⟩ | (simp only [go_sem, Nat.reduceBEq, Nat.reduceLT, Nat.reduceAdd, Nat.reduceLeDiff, Nat.reduceSub, Nat.reduceEqDiff, Int.reduceToNat, reduceCtorEq, ↓reduceIte]; done) | (simp [go_sem, Nat.reduceBEq, Nat.reduceLT, Nat.reduceAdd, Nat.reduceLeDiff, Nat.reduceSub, Nat.reduceEqDiff, Int.reduceToNat, reduceCtorEq, ↓reduceIte]; done) | (simp only [go_sem, Nat.reduceBEq, Nat.reduceLT, Nat.reduceAdd, Nat.reduceLeDiff, Nat.reduceSub, Nat.reduceEqDiff, Int.reduceToNat, reduceCtorEq, ↓reduceIte]; exact ⟨rfl, rfl⟩) | (simp_all [go_sem, Nat.reduceBEq, Nat.reduceLT, Nat.reduceAdd, Nat.reduceLeDiff, Nat.reduceSub, Nat.reduceEqDiff, Int.reduceToNat, reduceCtorEq, ↓reduceIte]; done)
theorem k_impl_BytesValid (a0 : List Int) {r : Bool} (h : impl_BytesValid a0 = some r) :
    FnA Try.prog 35 [.sl 0] [.row false (.ints .i64 a0)] [] (fun x H => x = .v (.bool r) ∧ H = [.row false (.ints .i64 a0)]) := by
  unfold impl_BytesValid at h
  refine FnA.of (N := 21) (pin := [0]) (rs := [.tmp 2]) Try.func35 rfl en35 rfl rfl (by simp) (by simp; try omega) ?_
  refine awp_reg ftCOk [(0, .sl 0)] [.row false (.ints .i64 a0)] ?_
  refine awp_seq fun K2 hK2 => ?_
  refine awp_reg ftCOk [(0, .sl 0), (7, .v (.bool (decide (2000 < (a0.length : Int)))))] [.row false (.ints .i64 a0)] ?_
  refine awp_cond (t := 7) rfl (fun hc3 => ?_) (fun hc3 => ?_)
  · replace h := bite_t h hc3
    refine awp_reg ftCOk [(2, .v (.bool false))] [.row false (.ints .i64 a0)] ?_
    refine awp_ret ?_
    (try simp only [Thn, InBlk, ↓reduceIte, Nat.reduceEqDiff])
    obtain rfl := Option.some.inj h
    refine ⟨by simp, _, [0], (by simp only [go_sem, Nat.reduceBEq, Nat.reduceLT, Nat.reduceAdd, Nat.reduceLeDiff, Nat.reduceSub, Nat.reduceEqDiff, Int.reduceToNat, reduceCtorEq, ↓reduceIte]; exact rfl), ?_, ?_, ?_, ?_⟩
    · first | exact trivial | exact ⟨trivial, trivial⟩ | exact ⟨trivial, trivial, trivial⟩ | exact ⟨trivial, trivial, trivial, trivial⟩ | (simp only [allP, and_true, true_and]; done) | (simp only [allP, and_true, true_and]; omega)
    · simp [selOk, pos]
    · simp
    · first | exact ⟨rfl, rfl⟩ | (simp only [go_sem, Nat.reduceBEq, Nat.reduceLT, Nat.reduceAdd, Nat.reduceLeDiff, Nat.reduceSub, Nat.reduceEqDiff, Int.reduceToNat, reduceCtorEq, ↓reduceIte]; done) | (simp [go_sem, Nat.reduceBEq, Nat.reduceLT, Nat.reduceAdd, Nat.reduceLeDiff, Nat.reduceSub, Nat.reduceEqDiff, Int.reduceToNat, reduceCtorEq, ↓reduceIte]; done) | (simp only [go_sem, Nat.reduceBEq, Nat.reduceLT, Nat.reduceAdd, Nat.reduceLeDiff, Nat.reduceSub, Nat.reduceEqDiff, Int.reduceToNat, reduceCtorEq, ↓reduceIte]; exact ⟨rfl, rfl⟩) | (simp_all [go_sem, Nat.reduceBEq, Nat.reduceLT, Nat.reduceAdd, Nat.reduceLeDiff, Nat.reduceSub, Nat.reduceEqDiff, Int.reduceToNat, reduceCtorEq, ↓reduceIte]; done)
  · replace h := bite_f h hc3
    refine awp_skip ?_
    (try simp only [Thn, InBlk, ↓reduceIte, Nat.reduceEqDiff])
    refine hK2 _ _ ?_
    clear hK2
    refine awp_seq fun K23 hK23 => ?_
    refine awp_reg ftCOk [(8, .sl 0), (9, .v (.int .i64 (a0.length : Int))), (10, .v (.int .i64 0))] [.row false (.ints .i64 a0)] ?_
    refine awp_block ?_
    replace h := bind_some h
    obtain ⟨x42, hx, h⟩ := h
    refine awp_loopL hx (fun (t10 : Int) => [(8, .sl 0), (9, .v (.int .i64 (a0.length : Int))), (10, .v (.int .i64 t10))]) (fun (t10 : Int) => [.row false (.ints .i64 a0)]) (Sum.elim (fun (_ : Unit) => Exit.exit 0) (fun (_ : Unit) => Exit.ret)) (Sum.elim (fun (_ : Unit) => []) (fun (_ : Unit) => [(2, .v (.bool false))])) (Sum.elim (fun (_ : Unit) => [.row false (.ints .i64 a0)]) (fun (_ : Unit) => [.row false (.ints .i64 a0)])) ?_ ?_ ?_ ?_
    · rintro (⟨⟩ | ⟨⟩) hy <;> cases hy
    · clear h hx
      exact Red.auto
    · clear h hx
      rintro t10 r h
      unfold impl_BytesValid_b0 at h
      try dsimp only at h
      try dsimp only
      refine awp_reg ftCOk [(8, .sl 0), (9, .v (.int .i64 (a0.length : Int))), (10, .v (.int .i64 t10)), (11, .v (.bool (decide (t10 < (a0.length : Int)))))] [.row false (.ints .i64 a0)] ?_
      refine awp_seq fun K37 hK37 => ?_
      refine awp_cond (t := 11) rfl (fun hc38 => ?_) (fun hc38 => ?_)
      · replace h := bite_t h hc38
        refine awp_skip ?_
        (try simp only [Thn, InBlk, ↓reduceIte, Nat.reduceEqDiff])
        refine hK37 _ _ ?_
        clear hK37
        refine awp_seq fun K40 hK40 => ?_
        refine awp_block ?_
        replace h := chk_some h
        obtain ⟨hp0, h⟩ := h
        refine awp_reg ftCOk [(4, .v (.int .i64 (a0.getD t10.toNat 0))), (8, .sl 0), (9, .v (.int .i64 (a0.length : Int))), (10, .v (.int .i64 t10))] [.row false (.ints .i64 a0)] ?_
        clear hp0
        refine awp_reg ftCOk [(8, .sl 0), (9, .v (.int .i64 (a0.length : Int))), (10, .v (.int .i64 t10)), (19, .v (.bool ((decide ((a0.getD t10.toNat 0) < 0)) || (decide (255 < (a0.getD t10.toNat 0))))))] [.row false (.ints .i64 a0)] ?_
        refine awp_cond (t := 19) rfl (fun hc41 => ?_) (fun hc41 => ?_)
        · replace h := bite_t h hc41
          refine awp_reg ftCOk [(2, .v (.bool false))] [.row false (.ints .i64 a0)] ?_
          refine awp_ret ?_
          (try simp only [Thn, InBlk, ↓reduceIte, Nat.reduceEqDiff])
          obtain rfl := Option.some.inj h
          refine LoopQ.out rfl ?_
          exact Red.auto
        · replace h := bite_f h hc41
          refine awp_skip ?_
          (try simp only [Thn, InBlk, ↓reduceIte, Nat.reduceEqDiff])
          (try simp only [Thn, InBlk, ↓reduceIte, Nat.reduceEqDiff])
          refine hK40 _ _ ?_
          clear hK40
          replace h := chk_some h
          obtain ⟨hp0, h⟩ := h
          refine awp_regE ftCOk [(8, .sl 0), (9, .v (.int .i64 (a0.length : Int))), (10, .v (.int .i64 (t10 + 1)))] [.row false (.ints .i64 a0)] ?_
          clear hp0
          obtain rfl := Option.some.inj h
          refine LoopQ.next ?_
          exact Red.auto
      · replace h := bite_f h hc38
        refine awp_exit ?_
        (try simp only [Thn, InBlk, ↓reduceIte, Nat.reduceEqDiff])
        obtain rfl := Option.some.inj h
        refine LoopQ.out rfl ?_
        exact Red.auto
    · clear hx
      rcases x42 with (⟨⟩ | ⟨⟩)
      · try dsimp only [Sum.elim_inl, Sum.elim_inr] at h
        try dsimp only [Sum.elim_inl, Sum.elim_inr]
        (try simp only [Thn, InBlk, ↓reduceIte, Nat.reduceEqDiff])
        (try simp only [Thn, InBlk, ↓reduceIte, Nat.reduceEqDiff])
        (try simp only [Thn, InBlk, ↓reduceIte, Nat.reduceEqDiff])
        refine hK23 _ _ ?_
        clear hK23
        refine awp_reg ftCOk [(2, .v (.bool true))] [.row false (.ints .i64 a0)] ?_
        refine awp_ret ?_
        (try simp only [Thn, InBlk, ↓reduceIte, Nat.reduceEqDiff])
        obtain rfl := Option.some.inj h
        refine ⟨by simp, _, [0], (by simp only [go_sem, Nat.reduceBEq, Nat.reduceLT, Nat.reduceAdd, Nat.reduceLeDiff, Nat.reduceSub, Nat.reduceEqDiff, Int.reduceToNat, reduceCtorEq, ↓reduceIte]; exact rfl), ?_, ?_, ?_, ?_⟩
        · first | exact trivial | exact ⟨trivial, trivial⟩ | exact ⟨trivial, trivial, trivial⟩ | exact ⟨trivial, trivial, trivial, trivial⟩ | (simp only [allP, and_true, true_and]; done) | (simp only [allP, and_true, true_and]; omega)
        · simp [selOk, pos]
        · simp
        · first | exact ⟨rfl, rfl⟩ | (simp only [go_sem, Nat.reduceBEq, Nat.reduceLT, Nat.reduceAdd, Nat.reduceLeDiff, Nat.reduceSub, Nat.reduceEqDiff, Int.reduceToNat, reduceCtorEq, ↓reduceIte]; done) | (simp [go_sem, Nat.reduceBEq, Nat.reduceLT, Nat.reduceAdd, Nat.reduceLeDiff, Nat.reduceSub, Nat.reduceEqDiff, Int.reduceToNat, reduceCtorEq, ↓reduceIte]; done) | (simp only [go_sem, Nat.reduceBEq, Nat.reduceLT, Nat.reduceAdd, Nat.reduceLeDiff, Nat.reduceSub, Nat.reduceEqDiff, Int.reduceToNat, reduceCtorEq, ↓reduceIte]; exact ⟨rfl, rfl⟩) | (simp_all [go_sem, Nat.reduceBEq, Nat.reduceLT, Nat.reduceAdd, Nat.reduceLeDiff, Nat.reduceSub, Nat.reduceEqDiff, Int.reduceToNat, reduceCtorEq, ↓reduceIte]; done)
      · try dsimp only [Sum.elim_inl, Sum.elim_inr] at h
        try dsimp only [Sum.elim_inl, Sum.elim_inr]
        (try simp only [Thn, InBlk, ↓reduceIte, Nat.reduceEqDiff])
        obtain rfl := Option.some.inj h
        refine ⟨by simp, _, [0], (by simp only [go_sem, Nat.reduceBEq, Nat.reduceLT, Nat.reduceAdd, Nat.reduceLeDiff, Nat.reduceSub, Nat.reduceEqDiff, Int.reduceToNat, reduceCtorEq, ↓reduceIte]; exact rfl), ?_, ?_, ?_, ?_⟩
        · first | exact trivial | exact ⟨trivial, trivial⟩ | exact ⟨trivial, trivial, trivial⟩ | exact ⟨trivial, trivial, trivial, trivial⟩ | (simp only [allP, and_true, true_and]; done) | (simp only [allP, and_true, true_and]; omega)
        · simp [selOk, pos]
        · simp
        · first | exact ⟨rfl, rfl⟩ | (simp only [go_sem, Nat.reduceBEq, Nat.reduceLT, Nat.reduceAdd, Nat.reduceLeDiff, Nat.reduceSub, Nat.reduceEqDiff, Int.reduceToNat, reduceCtorEq, ↓reduceIte]; done) | (simp [go_sem, Nat.reduceBEq, Nat.reduceLT, Nat.reduceAdd, Nat.reduceLeDiff, Nat.reduceSub, Nat.reduceEqDiff, Int.reduceToNat, reduceCtorEq, ↓reduceIte]; done) | (simp only [go_sem, Nat.reduceBEq, Nat.reduceLT, Nat.reduceAdd, Nat.reduceLeDiff, Nat.reduceSub, Nat.reduceEqDiff, Int.reduceToNat, reduceCtorEq, ↓reduceIte]; exact ⟨rfl, rfl⟩) | (simp_all [go_sem, Nat.reduceBEq, Nat.reduceLT, Nat.reduceAdd, Nat.reduceLeDiff, Nat.reduceSub, Nat.reduceEqDiff, Int.reduceToNat, reduceCtorEq, ↓reduceIte]; done)
theorem k_impl_CheckSum (a0 : List Int) {r : Int} (h : impl_CheckSum a0 = some r) :
    FnA Try.prog 22 [.sl 0] [.row false (.ints .i64 a0)] [] (fun x H => x = .v (.int .i64 r) ∧ H = [.row false (.ints .i64 a0)]) := by
  unfold impl_CheckSum at h
  refine FnA.of (N := 23) (pin := [0]) (rs := [.tmp 2]) Try.func22 rfl en22 rfl rfl (by simp) (by simp; try omega) ?_
  refine awp_reg ftCOk [(0, .sl 0)] [.row false (.ints .i64 a0)] ?_
  refine awp_seq fun K2 hK2 => ?_
  replace h := bind_some h
  obtain ⟨y, hr0, h⟩ := h
  try dsimp only at h
  refine awp_to [(0, .sl 0), (8, .v (.bool (!y)))] [.row false (.ints .i64 a0)] ?_ ?_
  · clear h
    intro K hK
    refine awp_region ftCOk ?_
    simp (maxSteps := 4000000) only [go_sem, Nat.reduceBEq, Nat.reduceLT, Nat.reduceAdd, Nat.reduceLeDiff, Nat.reduceSub, Nat.reduceEqDiff, Int.reduceToNat, reduceCtorEq, ↓reduceIte]
    repeat' (first | refine And.intro ?_ ?_ | intro hg)
    all_goals (try simp (disch := omega) only [wrap_fits])
    all_goals first
      | (refine hK _ _ ?_; exact Red.auto)
      | exact trivial
      | assumption
      | omega
      | exact wrap_fits (by omega) (by omega)
      | (refine wpA_callA (k_impl_BytesValid a0 (h := hr0)) [0] [] ?_
         rintro x Hc' ⟨rfl, rfl⟩ hlen
         refine vcOps_sound ftCOk ?_
         simp (maxSteps := 4000000) only [go_sem, Nat.reduceBEq, Nat.reduceLT, Nat.reduceAdd, Nat.reduceLeDiff, Nat.reduceSub, Nat.reduceEqDiff, Int.reduceToNat, reduceCtorEq, ↓reduceIte]
         repeat' (first | refine And.intro ?_ ?_ | intro hg)
         all_goals (try simp (disch := omega) only [wrap_fits])
         all_goals first
           | (refine hK _ _ ?_; exact Red.auto)
           | exact trivial
           | assumption
           | omega
           | exact wrap_fits (by omega) (by omega)
           | (simp_all; done)
           | (simp_all; omega))
      | (simp_all; done)
      | (simp_all; omega)
  · clear hr0
    refine awp_cond (t := 8) rfl (fun hc3 => ?_) (fun hc3 => ?_)
    · replace h := bite_t h hc3
      refine awp_reg ftCOk [(2, .v (.int .i64 (-1)))] [.row false (.ints .i64 a0)] ?_
      refine awp_ret ?_
      (try simp only [Thn, InBlk, ↓reduceIte, Nat.reduceEqDiff])
      obtain rfl := Option.some.inj h
      refine ⟨by simp, _, [0], (by simp only [go_sem, Nat.reduceBEq, Nat.reduceLT, Nat.reduceAdd, Nat.reduceLeDiff, Nat.reduceSub, Nat.reduceEqDiff, Int.reduceToNat, reduceCtorEq, ↓reduceIte]; exact rfl), ?_, ?_, ?_, ?_⟩
      · first | exact trivial | exact ⟨trivial, trivial⟩ | exact ⟨trivial, trivial, trivial⟩ | exact ⟨trivial, trivial, trivial, trivial⟩ | (simp only [allP, and_true, true_and]; done) | (simp only [allP, and_true, true_and]; omega)
      · simp [selOk, pos]
      · simp
      · first | exact ⟨rfl, rfl⟩ | (simp only [go_sem, Nat.reduceBEq, Nat.reduceLT, Nat.reduceAdd, Nat.reduceLeDiff, Nat.reduceSub, Nat.reduceEqDiff, Int.reduceToNat, reduceCtorEq, ↓reduceIte]; done) | (simp [go_sem, Nat.reduceBEq, Nat.reduceLT, Nat.reduceAdd, Nat.reduceLeDiff, Nat.reduceSub, Nat.reduceEqDiff, Int.reduceToNat, reduceCtorEq, ↓reduceIte]; done) | (simp only [go_sem, Nat.reduceBEq, Nat.reduceLT, Nat.reduceAdd, Nat.reduceLeDiff, Nat.reduceSub, Nat.reduceEqDiff, Int.reduceToNat, reduceCtorEq, ↓reduceIte]; exact ⟨rfl, rfl⟩) | (simp_all [go_sem, Nat.reduceBEq, Nat.reduceLT, Nat.reduceAdd, Nat.reduceLeDiff, Nat.reduceSub, Nat.reduceEqDiff, Int.reduceToNat, reduceCtorEq, ↓reduceIte]; done)
    · replace h := bite_f h hc3
      refine awp_skip ?_
      (try simp only [Thn, InBlk, ↓reduceIte, Nat.reduceEqDiff])
      refine hK2 _ _ ?_
      clear hK2
      refine awp_reg ftCOk [(0, .sl 0), (3, .v (.int .i64 7))] [.row false (.ints .i64 a0)] ?_
      refine awp_seq fun K17 hK17 => ?_
      refine awp_reg ftCOk [(3, .v (.int .i64 7)), (9, .sl 0), (10, .v (.int .i64 (a0.length : Int))), (11, .v (.int .i64 0))] [.row false (.ints .i64 a0)] ?_
      refine awp_block ?_
      replace h := bind_some h
      obtain ⟨t3_1, hx, h⟩ := h
      refine awp_loopL hx (fun ((t3, t11) : Int × Int) => [(3, .v (.int .i64 t3)), (9, .sl 0), (10, .v (.int .i64 (a0.length : Int))), (11, .v (.int .i64 t11))]) (fun ((t3, t11) : Int × Int) => [.row false (.ints .i64 a0)]) (fun (t3_1 : Int) => Exit.exit 0) (fun (t3_1 : Int) => [(3, .v (.int .i64 t3_1))]) (fun (t3_1 : Int) => [.row false (.ints .i64 a0)]) ?_ ?_ ?_ ?_
      · rintro t3_1 hy <;> cases hy
      · clear h hx
        exact Red.auto
      · clear h hx
        rintro ⟨t3, t11⟩ r h
        unfold impl_CheckSum_b0 at h
        try dsimp only at h
        try dsimp only
        refine awp_reg ftCOk [(3, .v (.int .i64 t3)), (9, .sl 0), (10, .v (.int .i64 (a0.length : Int))), (11, .v (.int .i64 t11)), (12, .v (.bool (decide (t11 < (a0.length : Int)))))] [.row false (.ints .i64 a0)] ?_
        refine awp_seq fun K27 hK27 => ?_
        refine awp_cond (t := 12) rfl (fun hc28 => ?_) (fun hc28 => ?_)
        · replace h := bite_t h hc28
          refine awp_skip ?_
          (try simp only [Thn, InBlk, ↓reduceIte, Nat.reduceEqDiff])
          refine hK27 _ _ ?_
          clear hK27
          refine awp_seq fun K29 hK29 => ?_
          refine awp_block ?_
          replace h := chk_some h
          obtain ⟨hp0, h⟩ := h
          refine awp_reg ftCOk [(3, .v (.int .i64 t3)), (5, .v (.int .i64 (a0.getD t11.toNat 0))), (9, .sl 0), (10, .v (.int .i64 (a0.length : Int))), (11, .v (.int .i64 t11))] [.row false (.ints .i64 a0)] ?_
          clear hp0
          replace h := chk_some h
          obtain ⟨hp0, h⟩ := h
          replace h := chk_some h
          obtain ⟨hp1, h⟩ := h
          replace h := chk_some h
          obtain ⟨hp2, h⟩ := h
          replace h := chk_some h
          obtain ⟨hp3, h⟩ := h
          refine awp_regE ftCOk [(3, .v (.int .i64 ((((31 * t3) + (a0.getD t11.toNat 0)) + 1) % 251))), (9, .sl 0), (10, .v (.int .i64 (a0.length : Int))), (11, .v (.int .i64 t11))] [.row false (.ints .i64 a0)] ?_
          clear hp0 hp1 hp2 hp3
          (try simp only [Thn, InBlk, ↓reduceIte, Nat.reduceEqDiff])
          (try simp only [Thn, InBlk, ↓reduceIte, Nat.reduceEqDiff])
          refine hK29 _ _ ?_
          clear hK29
          replace h := chk_some h
          obtain ⟨hp0, h⟩ := h
          refine awp_regE ftCOk [(3, .v (.int .i64 ((((31 * t3) + (a0.getD t11.toNat 0)) + 1) % 251))), (9, .sl 0), (10, .v (.int .i64 (a0.length : Int))), (11, .v (.int .i64 (t11 + 1)))] [.row false (.ints .i64 a0)] ?_
          clear hp0
          obtain rfl := Option.some.inj h
          refine LoopQ.next ?_
          exact Red.auto
        · replace h := bite_f h hc28
          refine awp_exit ?_
          (try simp only [Thn, InBlk, ↓reduceIte, Nat.reduceEqDiff])
          obtain rfl := Option.some.inj h
          refine LoopQ.out rfl ?_
          exact Red.auto
      · clear hx
        skip
        · try dsimp only [Sum.elim_inl, Sum.elim_inr] at h
          try dsimp only [Sum.elim_inl, Sum.elim_inr]
          (try simp only [Thn, InBlk, ↓reduceIte, Nat.reduceEqDiff])
          (try simp only [Thn, InBlk, ↓reduceIte, Nat.reduceEqDiff])
          (try simp only [Thn, InBlk, ↓reduceIte, Nat.reduceEqDiff])
          refine hK17 _ _ ?_
          clear hK17
          refine awp_reg ftCOk [(2, .v (.int .i64 t3_1))] [.row false (.ints .i64 a0)] ?_
          refine awp_ret ?_
          (try simp only [Thn, InBlk, ↓reduceIte, Nat.reduceEqDiff])
          obtain rfl := Option.some.inj h
          refine ⟨by simp, _, [0], (by simp only [go_sem, Nat.reduceBEq, Nat.reduceLT, Nat.reduceAdd, Nat.reduceLeDiff, Nat.reduceSub, Nat.reduceEqDiff, Int.reduceToNat, reduceCtorEq, ↓reduceIte]; exact rfl), ?_, ?_, ?_, ?_⟩
          · first | exact trivial | exact ⟨trivial, trivial⟩ | exact ⟨trivial, trivial, trivial⟩ | exact ⟨trivial, trivial, trivial, trivial⟩ | (simp only [allP, and_true, true_and]; done) | (simp only [allP, and_true, true_and]; omega)
          · simp [selOk, pos]
          · simp
          · first | exact ⟨rfl, rfl⟩ | (simp only [go_sem, Nat.reduceBEq, Nat.reduceLT, Nat.reduceAdd, Nat.reduceLeDiff, Nat.reduceSub, Nat.reduceEqDiff, Int.reduceToNat, reduceCtorEq, ↓reduceIte]; done) | (simp [go_sem, Nat.reduceBEq, Nat.reduceLT, Nat.reduceAdd, Nat.reduceLeDiff, Nat.reduceSub, Nat.reduceEqDiff, Int.reduceToNat, reduceCtorEq, ↓reduceIte]; done) | (simp only [go_sem, Nat.reduceBEq, Nat.reduceLT, Nat.reduceAdd, Nat.reduceLeDiff, Nat.reduceSub, Nat.reduceEqDiff, Int.reduceToNat, reduceCtorEq, ↓reduceIte]; exact ⟨rfl, rfl⟩) | (simp_all [go_sem, Nat.reduceBEq, Nat.reduceLT, Nat.reduceAdd, Nat.reduceLeDiff, Nat.reduceSub, Nat.reduceEqDiff, Int.reduceToNat, reduceCtorEq, ↓reduceIte]; done)
theorem k_laws_alive {r : Bool} (h : laws_alive = some r) :
    FnA Try.prog 9 [] [] [] (fun x H => x = .v (.bool r) ∧ H = []) := by
  unfold laws_alive at h
  refine FnA.of (N := 4) (pin := []) (rs := [.tmp 0]) Try.func9 rfl en9 rfl rfl (by simp) (by simp; try omega) ?_
  refine awp_reg ftCOk [] [] ?_
  replace h := bind_some h
  obtain ⟨y, hr0, h⟩ := h
  try dsimp only at h
  refine awp_to [(0, .v (.bool (y == 7)))] [.row true (.ints .i64 [])] ?_ ?_
  · clear h
    intro K hK
    refine awp_region ftCOk ?_
    simp (maxSteps := 4000000) only [go_sem, Nat.reduceBEq, Nat.reduceLT, Nat.reduceAdd, Nat.reduceLeDiff, Nat.reduceSub, Nat.reduceEqDiff, Int.reduceToNat, reduceCtorEq, ↓reduceIte]
    repeat' (first | refine And.intro ?_ ?_ | intro hg)
    all_goals (try simp (disch := omega) only [wrap_fits])
    all_goals first
      | (refine hK _ _ ?_; exact Red.auto)
      | exact trivial
      | assumption
      | omega
      | exact wrap_fits (by omega) (by omega)
      | (refine wpA_callA (k_impl_CheckSum [] (h := hr0)) [0] [] ?_
         rintro x Hc' ⟨rfl, rfl⟩ hlen
         refine vcOps_sound ftCOk ?_
         simp (maxSteps := 4000000) only [go_sem, Nat.reduceBEq, Nat.reduceLT, Nat.reduceAdd, Nat.reduceLeDiff, Nat.reduceSub, Nat.reduceEqDiff, Int.reduceToNat, reduceCtorEq, ↓reduceIte]
         repeat' (first | refine And.intro ?_ ?_ | intro hg)
         all_goals (try simp (disch := omega) only [wrap_fits])
         all_goals first
           | (refine hK _ _ ?_; exact Red.auto)
           | exact trivial
           | assumption
           | omega
           | exact wrap_fits (by omega) (by omega)
           | (simp_all; done)
           | (simp_all; omega))
      | (simp_all; done)
      | (simp_all; omega)
  · clear hr0
    refine awp_ret ?_
    (try simp only [Thn, InBlk, ↓reduceIte, Nat.reduceEqDiff])
    obtain rfl := Option.some.inj h
    refine ⟨by simp, _, [], (by simp only [go_sem, Nat.reduceBEq, Nat.reduceLT, Nat.reduceAdd, Nat.reduceLeDiff, Nat.reduceSub, Nat.reduceEqDiff, Int.reduceToNat, reduceCtorEq, ↓reduceIte]; exact rfl), ?_, ?_, ?_, ?_⟩
    · first | exact trivial | exact ⟨trivial, trivial⟩ | exact ⟨trivial, trivial, trivial⟩ | exact ⟨trivial, trivial, trivial, trivial⟩ | (simp only [allP, and_true, true_and]; done) | (simp only [allP, and_true, true_and]; omega)
    · simp [selOk, pos]
    · simp
    · first | exact ⟨rfl, rfl⟩ | (simp only [go_sem, Nat.reduceBEq, Nat.reduceLT, Nat.reduceAdd, Nat.reduceLeDiff, Nat.reduceSub, Nat.reduceEqDiff, Int.reduceToNat, reduceCtorEq, ↓reduceIte]; done) | (simp [go_sem, Nat.reduceBEq, Nat.reduceLT, Nat.reduceAdd, Nat.reduceLeDiff, Nat.reduceSub, Nat.reduceEqDiff, Int.reduceToNat, reduceCtorEq, ↓reduceIte]; done) | (simp only [go_sem, Nat.reduceBEq, Nat.reduceLT, Nat.reduceAdd, Nat.reduceLeDiff, Nat.reduceSub, Nat.reduceEqDiff, Int.reduceToNat, reduceCtorEq, ↓reduceIte]; exact ⟨rfl, rfl⟩) | (simp_all [go_sem, Nat.reduceBEq, Nat.reduceLT, Nat.reduceAdd, Nat.reduceLeDiff, Nat.reduceSub, Nat.reduceEqDiff, Int.reduceToNat, reduceCtorEq, ↓reduceIte]; done)
theorem k_laws_FnTurnCosts (a0 : List Int) {r : Bool} (h : laws_FnTurnCosts a0 = some r) :
    FnA Try.prog 3 [.sl 0] [.row false (.ints .u8 a0)] [] (fun x H => x = .v (.bool r) ∧ H = [.row false (.ints .u8 a0)]) := by
  unfold laws_FnTurnCosts at h
  refine FnA.of (N := 57) (pin := [0]) (rs := [.tmp 2]) Try.func3 rfl en3 rfl rfl (by simp) (by simp; try omega) ?_
  refine awp_reg ftCOk [(0, .sl 0)] [.row false (.ints .u8 a0)] ?_
  refine awp_seq fun K2 hK2 => ?_
  refine awp_reg ftCOk [(0, .sl 0), (11, .v (.bool (decide (1048576 < (a0.length : Int)))))] [.row false (.ints .u8 a0)] ?_
  refine awp_cond (t := 11) rfl (fun hc3 => ?_) (fun hc3 => ?_)
  · replace h := bite_t h hc3
    refine awp_reg ftCOk [(2, .v (.bool true))] [.row false (.ints .u8 a0)] ?_
    refine awp_ret ?_
    (try simp only [Thn, InBlk, ↓reduceIte, Nat.reduceEqDiff])
    obtain rfl := Option.some.inj h
    refine ⟨by simp, _, [0], (by simp only [go_sem, Nat.reduceBEq, Nat.reduceLT, Nat.reduceAdd, Nat.reduceLeDiff, Nat.reduceSub, Nat.reduceEqDiff, Int.reduceToNat, reduceCtorEq, ↓reduceIte]; exact rfl), ?_, ?_, ?_, ?_⟩
    · first | exact trivial | exact ⟨trivial, trivial⟩ | exact ⟨trivial, trivial, trivial⟩ | exact ⟨trivial, trivial, trivial, trivial⟩ | (simp only [allP, and_true, true_and]; done) | (simp only [allP, and_true, true_and]; omega)
    · simp [selOk, pos]
    · simp
    · first | exact ⟨rfl, rfl⟩ | (simp only [go_sem, Nat.reduceBEq, Nat.reduceLT, Nat.reduceAdd, Nat.reduceLeDiff, Nat.reduceSub, Nat.reduceEqDiff, Int.reduceToNat, reduceCtorEq, ↓reduceIte]; done) | (simp [go_sem, Nat.reduceBEq, Nat.reduceLT, Nat.reduceAdd, Nat.reduceLeDiff, Nat.reduceSub, Nat.reduceEqDiff, Int.reduceToNat, reduceCtorEq, ↓reduceIte]; done) | (simp only [go_sem, Nat.reduceBEq, Nat.reduceLT, Nat.reduceAdd, Nat.reduceLeDiff, Nat.reduceSub, Nat.reduceEqDiff, Int.reduceToNat, reduceCtorEq, ↓reduceIte]; exact ⟨rfl, rfl⟩) | (simp_all [go_sem, Nat.reduceBEq, Nat.reduceLT, Nat.reduceAdd, Nat.reduceLeDiff, Nat.reduceSub, Nat.reduceEqDiff, Int.reduceToNat, reduceCtorEq, ↓reduceIte]; done)
  · replace h := bite_f h hc3
    refine awp_skip ?_
    (try simp only [Thn, InBlk, ↓reduceIte, Nat.reduceEqDiff])
    refine hK2 _ _ ?_
    clear hK2
    replace h := bind_some h
    obtain ⟨⟨y, y_1, y_2⟩, hr0, h⟩ := h
    try dsimp only at h
    refine awp_to [(3, .pp 2 0), (4, .v (.int .i64 y_2))] [.row false (.ints .u8 a0), .row true (.trips y_1), .box [.v (.int .i64 y), .sl 1]] ?_ ?_
    · clear h
      intro K hK
      refine awp_region ftCOk ?_
      simp (maxSteps := 4000000) only [go_sem, Nat.reduceBEq, Nat.reduceLT, Nat.reduceAdd, Nat.reduceLeDiff, Nat.reduceSub, Nat.reduceEqDiff, Int.reduceToNat, reduceCtorEq, ↓reduceIte]
      repeat' (first | refine And.intro ?_ ?_ | intro hg)
      all_goals (try simp (disch := omega) only [wrap_fits])
      all_goals first
        | (refine hK _ _ ?_; exact Red.auto)
        | exact trivial
        | assumption
        | omega
        | exact wrap_fits (by omega) (by omega)
        | (refine wpA_callA (k_spec_DrawCostsFrom a0 (h := hr0)) [0] [] ?_
           rintro x Hc' ⟨rfl, rfl⟩ hlen
           refine vcOps_sound ftCOk ?_
           simp (maxSteps := 4000000) only [go_sem, Nat.reduceBEq, Nat.reduceLT, Nat.reduceAdd, Nat.reduceLeDiff, Nat.reduceSub, Nat.reduceEqDiff, Int.reduceToNat, reduceCtorEq, ↓reduceIte]
           repeat' (first | refine And.intro ?_ ?_ | intro hg)
           all_goals (try simp (disch := omega) only [wrap_fits])
           all_goals first
             | (refine hK _ _ ?_; exact Red.auto)
             | exact trivial
             | assumption
             | omega
             | exact wrap_fits (by omega) (by omega)
             | (simp_all; done)
             | (simp_all; omega))
        | (simp_all; done)
        | (simp_all; omega)
    · clear hr0
      replace h := bind_some h
      obtain ⟨y_3, hr0, h⟩ := h
      try dsimp only at h
      refine awp_to [(3, .pp 2 0), (4, .v (.int .i64 y_2)), (5, .sl 3)] [.row false (.ints .u8 a0), .row true (.trips y_1), .box [.v (.int .i64 y), .sl 1], .row true (.ints .i64 y_3)] ?_ ?_
      · clear h
        intro K hK
        refine awp_region ftCOk ?_
        simp (maxSteps := 4000000) only [go_sem, Nat.reduceBEq, Nat.reduceLT, Nat.reduceAdd, Nat.reduceLeDiff, Nat.reduceSub, Nat.reduceEqDiff, Int.reduceToNat, reduceCtorEq, ↓reduceIte]
        repeat' (first | refine And.intro ?_ ?_ | intro hg)
        all_goals (try simp (disch := omega) only [wrap_fits])
        all_goals first
          | (refine hK _ _ ?_; exact Red.auto)
          | exact trivial
          | assumption
          | omega
          | exact wrap_fits (by omega) (by omega)
          | (refine wpA_callA (k_impl_CostsFrom y y_1 y_2 (h := hr0)) [1] [] ?_
             rintro x Hc' ⟨rfl, rfl⟩ hlen
             refine vcOps_sound ftCOk ?_
             simp (maxSteps := 4000000) only [go_sem, Nat.reduceBEq, Nat.reduceLT, Nat.reduceAdd, Nat.reduceLeDiff, Nat.reduceSub, Nat.reduceEqDiff, Int.reduceToNat, reduceCtorEq, ↓reduceIte]
             repeat' (first | refine And.intro ?_ ?_ | intro hg)
             all_goals (try simp (disch := omega) only [wrap_fits])
             all_goals first
               | (refine hK _ _ ?_; exact Red.auto)
               | exact trivial
               | assumption
               | omega
               | exact wrap_fits (by omega) (by omega)
               | (simp_all; done)
               | (simp_all; omega))
          | (simp_all; done)
          | (simp_all; omega)
      · clear hr0
        refine awp_seq fun K5 hK5 => ?_
        replace h := bind_some h
        obtain ⟨y_4, hr0, h⟩ := h
        try dsimp only at h
        replace h := bind_some h
        obtain ⟨y_5, hr1, h⟩ := h
        try dsimp only at h
        refine awp_to [(3, .pp 2 0), (4, .v (.int .i64 y_2)), (5, .sl 3), (25, .v (.bool (!y_5)))] [.row false (.ints .u8 a0), .row true (.trips y_1), .box [.v (.int .i64 y), .sl 1], .row true (.ints .i64 y_3), .row true (.ints .i64 y_4)] ?_ ?_
        · clear h
          intro K hK
          refine awp_region ftCOk ?_
          simp (maxSteps := 4000000) only [go_sem, Nat.reduceBEq, Nat.reduceLT, Nat.reduceAdd, Nat.reduceLeDiff, Nat.reduceSub, Nat.reduceEqDiff, Int.reduceToNat, reduceCtorEq, ↓reduceIte]
          repeat' (first | refine And.intro ?_ ?_ | intro hg)
          all_goals (try simp (disch := omega) only [wrap_fits])
          all_goals first
            | (refine hK _ _ ?_; exact Red.auto)
            | exact trivial
            | assumption
            | omega
            | exact wrap_fits (by omega) (by omega)
            | (refine wpA_callA (k_spec_CostsFrom y y_1 y_2 (h := hr0)) [1] [] ?_
               rintro x Hc' ⟨rfl, rfl⟩ hlen
               refine vcOps_sound ftCOk ?_
               simp (maxSteps := 4000000) only [go_sem, Nat.reduceBEq, Nat.reduceLT, Nat.reduceAdd, Nat.reduceLeDiff, Nat.reduceSub, Nat.reduceEqDiff, Int.reduceToNat, reduceCtorEq, ↓reduceIte]
               repeat' (first | refine And.intro ?_ ?_ | intro hg)
               all_goals (try simp (disch := omega) only [wrap_fits])
               all_goals first
                 | (refine hK _ _ ?_; exact Red.auto)
                 | exact trivial
                 | assumption
                 | omega
                 | exact wrap_fits (by omega) (by omega)
                 | (refine wpA_callA (k_laws_sameInts y_3 y_4 (h := hr1)) [3, 4] [] ?_
                    rintro x Hc' ⟨rfl, rfl⟩ hlen
                    refine vcOps_sound ftCOk ?_
                    simp (maxSteps := 4000000) only [go_sem, Nat.reduceBEq, Nat.reduceLT, Nat.reduceAdd, Nat.reduceLeDiff, Nat.reduceSub, Nat.reduceEqDiff, Int.reduceToNat, reduceCtorEq, ↓reduceIte]
                    repeat' (first | refine And.intro ?_ ?_ | intro hg)
                    all_goals (try simp (disch := omega) only [wrap_fits])
                    all_goals first
                      | (refine hK _ _ ?_; exact Red.auto)
                      | exact trivial
                      | assumption
                      | omega
                      | exact wrap_fits (by omega) (by omega)
                      | (simp_all; done)
                      | (simp_all; omega))
                 | (simp_all; done)
                 | (simp_all; omega))
            | (simp_all; done)
            | (simp_all; omega)
        · clear hr0 hr1
          refine awp_cond (t := 25) rfl (fun hc6 => ?_) (fun hc6 => ?_)
          · replace h := bite_t h hc6
            refine awp_reg ftCOk [(2, .v (.bool false))] [.row false (.ints .u8 a0), .row true (.trips y_1), .box [.v (.int .i64 y), .sl 1], .row true (.ints .i64 y_3), .row true (.ints .i64 y_4)] ?_
            refine awp_ret ?_
            (try simp only [Thn, InBlk, ↓reduceIte, Nat.reduceEqDiff])
            obtain rfl := Option.some.inj h
            refine ⟨by simp, _, [0], (by simp only [go_sem, Nat.reduceBEq, Nat.reduceLT, Nat.reduceAdd, Nat.reduceLeDiff, Nat.reduceSub, Nat.reduceEqDiff, Int.reduceToNat, reduceCtorEq, ↓reduceIte]; exact rfl), ?_, ?_, ?_, ?_⟩
            · first | exact trivial | exact ⟨trivial, trivial⟩ | exact ⟨trivial, trivial, trivial⟩ | exact ⟨trivial, trivial, trivial, trivial⟩ | (simp only [allP, and_true, true_and]; done) | (simp only [allP, and_true, true_and]; omega)
            · simp [selOk, pos]
            · simp
            · first | exact ⟨rfl, rfl⟩ | (simp only [go_sem, Nat.reduceBEq, Nat.reduceLT, Nat.reduceAdd, Nat.reduceLeDiff, Nat.reduceSub, Nat.reduceEqDiff, Int.reduceToNat, reduceCtorEq, ↓reduceIte]; done) | (simp [go_sem, Nat.reduceBEq, Nat.reduceLT, Nat.reduceAdd, Nat.reduceLeDiff, Nat.reduceSub, Nat.reduceEqDiff, Int.reduceToNat, reduceCtorEq, ↓reduceIte]; done) | (simp only [go_sem, Nat.reduceBEq, Nat.reduceLT, Nat.reduceAdd, Nat.reduceLeDiff, Nat.reduceSub, Nat.reduceEqDiff, Int.reduceToNat, reduceCtorEq, ↓reduceIte]; exact ⟨rfl, rfl⟩) | (simp_all [go_sem, Nat.reduceBEq, Nat.reduceLT, Nat.reduceAdd, Nat.reduceLeDiff, Nat.reduceSub, Nat.reduceEqDiff, Int.reduceToNat, reduceCtorEq, ↓reduceIte]; done)
          · replace h := bite_f h hc6
            refine awp_skip ?_
            (try simp only [Thn, InBlk, ↓reduceIte, Nat.reduceEqDiff])
            refine hK5 _ _ ?_
            clear hK5
            replace h := bind_some h
            obtain ⟨⟨y_6, y_7⟩, hr0, h⟩ := h
            try dsimp only at h
            refine awp_to [(4, .v (.int .i64 y_2)), (5, .sl 3), (6, .pp 6 0)] [.row false (.ints .u8 a0), .row true (.trips y_1), .box [.v (.int .i64 y), .sl 1], .row true (.ints .i64 y_3), .row true (.ints .i64 y_4), .row true (.trips y_7), .box [.v (.int .i64 y_6), .sl 5]] ?_ ?_
            · clear h
              intro K hK
              refine awp_region ftCOk ?_
              simp (maxSteps := 4000000) only [go_sem, Nat.reduceBEq, Nat.reduceLT, Nat.reduceAdd, Nat.reduceLeDiff, Nat.reduceSub, Nat.reduceEqDiff, Int.reduceToNat, reduceCtorEq, ↓reduceIte]
              repeat' (first | refine And.intro ?_ ?_ | intro hg)
              all_goals (try simp (disch := omega) only [wrap_fits])
              all_goals first
                | (refine hK _ _ ?_; exact Red.auto)
                | exact trivial
                | assumption
                | omega
                | exact wrap_fits (by omega) (by omega)
                | (refine wpA_callA (k_impl_TurnGraph y y_1 (h := hr0)) [1] [] ?_
                   rintro x Hc' ⟨rfl, rfl⟩ hlen
                   refine vcOps_sound ftCOk ?_
                   simp (maxSteps := 4000000) only [go_sem, Nat.reduceBEq, Nat.reduceLT, Nat.reduceAdd, Nat.reduceLeDiff, Nat.reduceSub, Nat.reduceEqDiff, Int.reduceToNat, reduceCtorEq, ↓reduceIte]
                   repeat' (first | refine And.intro ?_ ?_ | intro hg)
                   all_goals (try simp (disch := omega) only [wrap_fits])
                   all_goals first
                     | (refine hK _ _ ?_; exact Red.auto)
                     | exact trivial
                     | assumption
                     | omega
                     | exact wrap_fits (by omega) (by omega)
                     | (simp_all; done)
                     | (simp_all; omega))
                | (simp_all; done)
                | (simp_all; omega)
            · clear hr0
              refine awp_seq fun K26 hK26 => ?_
              refine awp_reg ftCOk [(4, .v (.int .i64 y_2)), (5, .sl 3), (6, .pp 6 0), (7, .v (.int .i64 0))] [.row false (.ints .u8 a0), .row true (.trips y_1), .box [.v (.int .i64 y), .sl 1], .row true (.ints .i64 y_3), .row true (.ints .i64 y_4), .row true (.trips y_7), .box [.v (.int .i64 y_6), .sl 5]] ?_
              refine awp_block ?_
              replace h := bind_some h
              obtain ⟨x45, hx, h⟩ := h
              refine awp_loopL hx (fun (t7 : Int) => [(4, .v (.int .i64 y_2)), (5, .sl 1), (6, .pp 2 0), (7, .v (.int .i64 t7))]) (fun (t7 : Int) => [.row false (.ints .u8 a0), .row true (.ints .i64 y_3), .box [.v (.int .i64 y_6), .sl 3], .row true (.trips y_7)]) (Sum.elim (fun (_ : Unit) => Exit.exit 0) (fun (_ : Unit) => Exit.ret)) (Sum.elim (fun (_ : Unit) => []) (fun (_ : Unit) => [(2, .v (.bool false))])) (Sum.elim (fun (_ : Unit) => [.row false (.ints .u8 a0)]) (fun (_ : Unit) => [.row false (.ints .u8 a0)])) ?_ ?_ ?_ ?_
              · rintro (⟨⟩ | ⟨⟩) hy <;> cases hy
              · clear h hx
                exact Red.selA [0, 3, 6, 5] Red.auto
              · clear h hx
                rintro t7 r h
                unfold laws_FnTurnCosts_b0 at h
                try dsimp only at h
                try dsimp only
                refine awp_seq fun K40 hK40 => ?_
                refine awp_reg ftCOk [(4, .v (.int .i64 y_2)), (5, .sl 1), (6, .pp 2 0), (7, .v (.int .i64 t7)), (31, .v (.bool (decide (t7 < (y_3.length : Int)))))] [.row false (.ints .u8 a0), .row true (.ints .i64 y_3), .box [.v (.int .i64 y_6), .sl 3], .row true (.trips y_7)] ?_
                refine awp_cond (t := 31) rfl (fun hc41 => ?_) (fun hc41 => ?_)
                · replace h := bite_t h hc41
                  refine awp_skip ?_
                  (try simp only [Thn, InBlk, ↓reduceIte, Nat.reduceEqDiff])
                  refine hK40 _ _ ?_
                  clear hK40
                  refine awp_seq fun K43 hK43 => ?_
                  refine awp_block ?_
                  replace h := bind_some h
                  obtain ⟨y_8, hr0, h⟩ := h
                  try dsimp only at h
                  refine awp_to [(4, .v (.int .i64 y_2)), (5, .sl 1), (6, .pp 2 0), (7, .v (.int .i64 t7)), (8, .sl 4)] [.row false (.ints .u8 a0), .row true (.ints .i64 y_3), .box [.v (.int .i64 y_6), .sl 3], .row true (.trips y_7), .row true (.ints .i64 y_8)] ?_ ?_
                  · clear h
                    intro K hK
                    refine awp_region ftCOk ?_
                    simp (maxSteps := 4000000) only [go_sem, Nat.reduceBEq, Nat.reduceLT, Nat.reduceAdd, Nat.reduceLeDiff, Nat.reduceSub, Nat.reduceEqDiff, Int.reduceToNat, reduceCtorEq, ↓reduceIte]
                    repeat' (first | refine And.intro ?_ ?_ | intro hg)
                    all_goals (try simp (disch := omega) only [wrap_fits])
                    all_goals first
                      | (refine hK _ _ ?_; exact Red.auto)
                      | exact trivial
                      | assumption
                      | omega
                      | exact wrap_fits (by omega) (by omega)
                      | (refine wpA_callA (k_impl_CostsFrom y_6 y_7 t7 (h := hr0)) [3] [] ?_
                         rintro x Hc' ⟨rfl, rfl⟩ hlen
                         refine vcOps_sound ftCOk ?_
                         simp (maxSteps := 4000000) only [go_sem, Nat.reduceBEq, Nat.reduceLT, Nat.reduceAdd, Nat.reduceLeDiff, Nat.reduceSub, Nat.reduceEqDiff, Int.reduceToNat, reduceCtorEq, ↓reduceIte]
                         repeat' (first | refine And.intro ?_ ?_ | intro hg)
                         all_goals (try simp (disch := omega) only [wrap_fits])
                         all_goals first
                           | (refine hK _ _ ?_; exact Red.auto)
                           | exact trivial
                           | assumption
                           | omega
                           | exact wrap_fits (by omega) (by omega)
                           | (simp_all; done)
                           | (simp_all; omega))
                      | (simp_all; done)
                      | (simp_all; omega)
                  · clear hr0
                    replace h := chk_some h
                    obtain ⟨hp0, h⟩ := h
                    replace h := chk_some h
                    obtain ⟨hp1, h⟩ := h
                    refine awp_to [(4, .v (.int .i64 y_2)), (5, .sl 1), (6, .pp 2 0), (7, .v (.int .i64 t7)), (55, .v (.bool (((decide (y_2 < 0)) || (decide ((y_8.length : Int) ≤ y_2))) || ((y_8.getD y_2.toNat 0) != (y_3.getD t7.toNat 0)))))] [.row false (.ints .u8 a0), .row true (.ints .i64 y_3), .box [.v (.int .i64 y_6), .sl 3], .row true (.trips y_7), .row true (.ints .i64 y_8)] ?_ ?_
                    · clear h
                      intro K hK
                      refine awp_quietg mixed ftCOk (by kernel_rfl) ?_
                      simp (maxSteps := 4000000) only [go_sem, Nat.reduceBEq, Nat.reduceLT, Nat.reduceAdd, Nat.reduceLeDiff, Nat.reduceSub, Nat.reduceEqDiff, Int.reduceToNat, reduceCtorEq, ↓reduceIte]
                      repeat' (first | refine And.intro ?_ ?_ | intro hg)
                      all_goals (try simp (disch := omega) only [wrap_fits])
                      all_goals first
                        | (refine hK _ _ ?_; exact Red.auto)
                        | exact trivial
                        | assumption
                        | omega
                        | exact wrap_fits (by omega) (by omega)
                        | (have hq := hp0 (by first | assumption | (simp only [*, Bool.false_or, Bool.true_or, Bool.or_false, Bool.or_true, Bool.false_and, Bool.true_and, Bool.and_false, Bool.and_true, Bool.not_true, Bool.not_false, beq_self_eq_true]; done) | (simp_all; done)); omega)
                        | (have hq := hp1 (by first | assumption | (simp only [*, Bool.false_or, Bool.true_or, Bool.or_false, Bool.or_true, Bool.false_and, Bool.true_and, Bool.and_false, Bool.and_true, Bool.not_true, Bool.not_false, beq_self_eq_true]; done) | (simp_all; done)); omega)
                        | (simp_all; done)
                        | (simp_all; omega)
                    · clear hp0 hp1
                      refine awp_cond (t := 55) rfl (fun hc44 => ?_) (fun hc44 => ?_)
                      · replace h := bite_t h hc44
                        refine awp_reg ftCOk [(2, .v (.bool false))] [.row false (.ints .u8 a0), .row true (.ints .i64 y_3), .box [.v (.int .i64 y_6), .sl 3], .row true (.trips y_7), .row true (.ints .i64 y_8)] ?_
                        refine awp_ret ?_
                        (try simp only [Thn, InBlk, ↓reduceIte, Nat.reduceEqDiff])
                        obtain rfl := Option.some.inj h
                        refine LoopQ.out rfl ?_
                        exact Red.selA [0] Red.auto
                      · replace h := bite_f h hc44
                        refine awp_skip ?_
                        (try simp only [Thn, InBlk, ↓reduceIte, Nat.reduceEqDiff])
                        (try simp only [Thn, InBlk, ↓reduceIte, Nat.reduceEqDiff])
                        refine hK43 _ _ ?_
                        clear hK43
                        replace h := chk_some h
                        obtain ⟨hp0, h⟩ := h
                        refine awp_regE ftCOk [(4, .v (.int .i64 y_2)), (5, .sl 1), (6, .pp 2 0), (7, .v (.int .i64 (t7 + 1)))] [.row false (.ints .u8 a0), .row true (.ints .i64 y_3), .box [.v (.int .i64 y_6), .sl 3], .row true (.trips y_7), .row true (.ints .i64 y_8)] ?_
                        clear hp0
                        obtain rfl := Option.some.inj h
                        refine LoopQ.next ?_
                        exact Red.selA [0, 1, 2, 3] Red.auto
                · replace h := bite_f h hc41
                  refine awp_exit ?_
                  (try simp only [Thn, InBlk, ↓reduceIte, Nat.reduceEqDiff])
                  obtain rfl := Option.some.inj h
                  refine LoopQ.out rfl ?_
                  exact Red.selA [0] Red.auto
              · clear hx
                rcases x45 with (⟨⟩ | ⟨⟩)
                · try dsimp only [Sum.elim_inl, Sum.elim_inr] at h
                  try dsimp only [Sum.elim_inl, Sum.elim_inr]
                  (try simp only [Thn, InBlk, ↓reduceIte, Nat.reduceEqDiff])
                  (try simp only [Thn, InBlk, ↓reduceIte, Nat.reduceEqDiff])
                  (try simp only [Thn, InBlk, ↓reduceIte, Nat.reduceEqDiff])
                  refine hK26 _ _ ?_
                  clear hK26
                  replace h := bind_some h
                  obtain ⟨y_9, hr0, h⟩ := h
                  try dsimp only at h
                  refine awp_to [(2, .v (.bool y_9))] [.row false (.ints .u8 a0)] ?_ ?_
                  · clear h
                    intro K hK
                    refine awp_region ftCOk ?_
                    simp (maxSteps := 4000000) only [go_sem, Nat.reduceBEq, Nat.reduceLT, Nat.reduceAdd, Nat.reduceLeDiff, Nat.reduceSub, Nat.reduceEqDiff, Int.reduceToNat, reduceCtorEq, ↓reduceIte]
                    repeat' (first | refine And.intro ?_ ?_ | intro hg)
                    all_goals (try simp (disch := omega) only [wrap_fits])
                    all_goals first
                      | (refine hK _ _ ?_; exact Red.auto)
                      | exact trivial
                      | assumption
                      | omega
                      | exact wrap_fits (by omega) (by omega)
                      | (refine wpA_callA (k_laws_alive  (h := hr0)) [] [] ?_
                         rintro x Hc' ⟨rfl, rfl⟩ hlen
                         refine vcOps_sound ftCOk ?_
                         simp (maxSteps := 4000000) only [go_sem, Nat.reduceBEq, Nat.reduceLT, Nat.reduceAdd, Nat.reduceLeDiff, Nat.reduceSub, Nat.reduceEqDiff, Int.reduceToNat, reduceCtorEq, ↓reduceIte]
                         repeat' (first | refine And.intro ?_ ?_ | intro hg)
                         all_goals (try simp (disch := omega) only [wrap_fits])
                         all_goals first
                           | (refine hK _ _ ?_; exact Red.auto)
                           | exact trivial
                           | assumption
                           | omega
                           | exact wrap_fits (by omega) (by omega)
                           | (simp_all; done)
                           | (simp_all; omega))
                      | (simp_all; done)
                      | (simp_all; omega)
                  · clear hr0
                    refine awp_ret ?_
                    (try simp only [Thn, InBlk, ↓reduceIte, Nat.reduceEqDiff])
                    obtain rfl := Option.some.inj h
                    refine ⟨by simp, _, [0], (by simp only [go_sem, Nat.reduceBEq, Nat.reduceLT, Nat.reduceAdd, Nat.reduceLeDiff, Nat.reduceSub, Nat.reduceEqDiff, Int.reduceToNat, reduceCtorEq, ↓reduceIte]; exact rfl), ?_, ?_, ?_, ?_⟩
                    · first | exact trivial | exact ⟨trivial, trivial⟩ | exact ⟨trivial, trivial, trivial⟩ | exact ⟨trivial, trivial, trivial, trivial⟩ | (simp only [allP, and_true, true_and]; done) | (simp only [allP, and_true, true_and]; omega)
                    · simp [selOk, pos]
                    · simp
                    · first | exact ⟨rfl, rfl⟩ | (simp only [go_sem, Nat.reduceBEq, Nat.reduceLT, Nat.reduceAdd, Nat.reduceLeDiff, Nat.reduceSub, Nat.reduceEqDiff, Int.reduceToNat, reduceCtorEq, ↓reduceIte]; done) | (simp [go_sem, Nat.reduceBEq, Nat.reduceLT, Nat.reduceAdd, Nat.reduceLeDiff, Nat.reduceSub, Nat.reduceEqDiff, Int.reduceToNat, reduceCtorEq, ↓reduceIte]; done) | (simp only [go_sem, Nat.reduceBEq, Nat.reduceLT, Nat.reduceAdd, Nat.reduceLeDiff, Nat.reduceSub, Nat.reduceEqDiff, Int.reduceToNat, reduceCtorEq, ↓reduceIte]; exact ⟨rfl, rfl⟩) | (simp_all [go_sem, Nat.reduceBEq, Nat.reduceLT, Nat.reduceAdd, Nat.reduceLeDiff, Nat.reduceSub, Nat.reduceEqDiff, Int.reduceToNat, reduceCtorEq, ↓reduceIte]; done)
                · try dsimp only [Sum.elim_inl, Sum.elim_inr] at h
                  try dsimp only [Sum.elim_inl, Sum.elim_inr]
                  (try simp only [Thn, InBlk, ↓reduceIte, Nat.reduceEqDiff])
                  obtain rfl := Option.some.inj h
                  refine ⟨by simp, _, [0], (by simp only [go_sem, Nat.reduceBEq, Nat.reduceLT, Nat.reduceAdd, Nat.reduceLeDiff, Nat.reduceSub, Nat.reduceEqDiff, Int.reduceToNat, reduceCtorEq, ↓reduceIte]; exact rfl), ?_, ?_, ?_, ?_⟩
                  · first | exact trivial | exact ⟨trivial, trivial⟩ | exact ⟨trivial, trivial, trivial⟩ | exact ⟨trivial, trivial, trivial, trivial⟩ | (simp only [allP, and_true, true_and]; done) | (simp only [allP, and_true, true_and]; omega)
                  · simp [selOk, pos]
                  · simp
                  · first | exact ⟨rfl, rfl⟩ | (simp only [go_sem, Nat.reduceBEq, Nat.reduceLT, Nat.reduceAdd, Nat.reduceLeDiff, Nat.reduceSub, Nat.reduceEqDiff, Int.reduceToNat, reduceCtorEq, ↓reduceIte]; done) | (simp [go_sem, Nat.reduceBEq, Nat.reduceLT, Nat.reduceAdd, Nat.reduceLeDiff, Nat.reduceSub, Nat.reduceEqDiff, Int.reduceToNat, reduceCtorEq, ↓reduceIte]; done) | (simp only [go_sem, Nat.reduceBEq, Nat.reduceLT, Nat.reduceAdd, Nat.reduceLeDiff, Nat.reduceSub, Nat.reduceEqDiff, Int.reduceToNat, reduceCtorEq, ↓reduceIte]; exact ⟨rfl, rfl⟩) | (simp_all [go_sem, Nat.reduceBEq, Nat.reduceLT, Nat.reduceAdd, Nat.reduceLeDiff, Nat.reduceSub, Nat.reduceEqDiff, Int.reduceToNat, reduceCtorEq, ↓reduceIte]; done)
end Go.Proofs.Ytbdncdmkogbdhaa
