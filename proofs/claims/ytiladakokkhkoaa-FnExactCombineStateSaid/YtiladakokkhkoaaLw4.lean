/- The code computes the functions that were taken out of it. -/
import Derived.Test.YtiladakokkhkoaaLw3
set_option maxRecDepth 100000
set_option maxHeartbeats 4000000
set_option linter.unusedSimpArgs false
set_option linter.unusedVariables false
namespace Go.Proofs.Ytiladakokkhkoaa
open Go Go.Av
attribute [local irreducible] wpA OpK awp
attribute [local go_sem] frs_nil frs_cons pw8_32 pw16_32 pw24_32 pw27_32 eqAgg eqAggV buildQ placesOf buildCells List.toList_toArray vcQg gfind gfree gput un3_agg unI_int unB_bool unK_int guardU skipV resVs resV vcD_nil vcD_cons vcT_fin vcT_free vcT_one vcT_two opS vcD1 roH roOb ftNone ftAdd oneOrTup AV.detup AV.ren AV.ren2 AV.ren1 pos selH AObj.ren fitAll fit fit1 fit1s matchAll matchOb exIds AObj.excl Env.killp pastH setAll upId AObj.past AObj.back AV.killp AV.killp1 AV.killp2 Nat.sub_self Nat.lt_irrefl Bool.or_self vcOps vcOp vcQs vcQ dstOk quiet eff pcall calleeF plain valsOf ev ofConst argEnv List.lookup Nat.add_eq decide_true decide_false Env.put binV quoC isTwo_2 isTwo_1 isTwo_3 isTwo_4 isTwo_5 isTwo_6 isTwo_7 isTwo_8 isTwo_9 isTwo_10 isTwo_11 isTwo_12 isTwo_13 isTwo_14 isTwo_15 isTwo_16 isTwo_17 isTwo_20 isTwo_24 isTwo_32 isTwo_60 isTwo_64 isTwo_100 isTwo_128 isTwo_256 isTwo_1000 wrapTo unV convV loadQ indexQ callQ builtinQ rd rdI globC AObj.globC partAV isAggD isArrayD addrAdd boxE storeE storeXE storeCE storeGE storeFE storeAE storeHE allocAE buildME appendME lookupQ mapUpE plainVs isIfaceD ifaceQ assertQ List.all_cons aggQ arrD arrL arrL_map arrV makeE makeXE makeNE makeGE buildXE buildNE buildGE nestZero Cont.child Cont.setChild buildSliceE buildFold appendE appendXE appendNE appendGE Cont.setG nestApp appendV promoteH sliceE boundAV subObj asCells Value.oneCell' contZero Cont.sets Cont.app Cont.sub Cont.len Cont.esz Cont.cell Cont.cells Cont.flat AV.det AV.det1 guardV AObj.unview AObj.kill Env.kill AV.kill AV.kill1 AV.kill2 fits64 Option.getD_some Option.getD_none Option.map_some Option.map_none Option.bind_some List.map_cons List.map_nil List.getElem?_cons_zero List.getElem?_cons_succ List.getElem?_nil true_and and_true and_false false_and List.getElem?_toArray List.cons_append List.nil_append List.length_cons List.length_nil List.set_cons_zero List.set_cons_succ List.take_succ_cons List.take_zero List.drop_succ_cons List.drop_zero List.drop_nil List.take_nil List.contains_cons List.contains_nil List.elem_cons List.elem_nil Bool.not_true Bool.not_false Bool.false_eq_true Bool.or_false Bool.or_true Bool.and_true Bool.and_false Bool.true_and Bool.false_and List.all_cons List.all_nil List.size_toArray Nat.lt_add_one Nat.zero_lt_succ Nat.one_ne_zero Nat.zero_ne_one and_self List.replicate_succ List.replicate_zero Int.toNat_natCast Int.toNat_zero Value.cells false_implies true_implies forall_const Thn InBlk Nat.zero_add Nat.add_zero Int.zero_add Ele Env.ren Option.some.injEq AV.v.injEq AV.sl.injEq AV.pp.injEq AV.ep.injEq AV.agg.injEq List.cons.injEq Value.int.injEq Value.bool.injEq Value.string.injEq true_or or_true or_false false_or tsz0 tby0 tz0 Try.underlying0 tsz1 tby1 tz1 Try.underlying1 tsz2 tby2 tz2 Try.underlying2 tsz3 tby3 tz3 Try.underlying3 tsz4 tby4 tz4 Try.underlying4 tsz5 tby5 tz5 Try.underlying5 tsz6 tby6 tz6 Try.underlying6 tsz7 tby7 tz7 Try.underlying7 fo7_0 fo7_1 fo7_2 fo7_3 tsz8 tby8 tz8 Try.underlying8 fo8_0 fo8_1 fo8_2 fo8_3 tsz9 tby9 Try.underlying9 tsz10 tby10 Try.underlying10 tsz12 tby12 tz12 Try.underlying12 tsz16 tby16 tz16 Try.underlying16 tsz17 tby17 tz17 Try.underlying17 tsz20 tby20 tz20 Try.underlying20 tsz21 tby21 tz21 Try.underlying21 tsz22 tby22 tz22 Try.underlying22 peq22 fo22_0 fo22_1 fo22_2 tsz23 tby23 tz23 Try.underlying23 peq23 fo23_0 fo23_1 fo23_2 tsz24 tby24 tz24 Try.underlying24 tsz25 tby25 tz25 Try.underlying25 tsz26 tby26 tz26 Try.underlying26 tsz27 tby27 tz27 Try.underlying27 fo27_0 fo27_1 fo27_2 fo27_3 tsz28 tby28 tz28 Try.underlying28 fo28_0 fo28_1 fo28_2 fo28_3 tsz30 tby30 tz30 Try.underlying30 tsz31 tby31 tz31 Try.underlying31 fo31_0 fo31_1 fo31_2 fo31_3 tsz32 tby32 tz32 Try.underlying32 fo32_0 fo32_1 fo32_2 fo32_3 tsz34 tby34 tz34 Try.underlying34 peq34 fo34_0 fo34_1 fo34_2 tsz40 tby40 tz40 Try.underlying40 tsz44 tby44 tz44 Try.underlying44 tsz56 tby56 tz56 Try.underlying56 tsz58 tby58 tz58 Try.underlying58 peq58 fo58_0 fo58_1 fo58_2 tsz59 tby59 tz59 Try.underlying59 peq59 fo59_0 fo59_1 fo59_2 tsz63 tby63 tz63 Try.underlying63 peq63 fo63_0 fo63_1 fo63_2 tsz67 tby67 tz67 Try.underlying67 tsz70 tby70 tz70 Try.underlying70 tsz74 tby74 tz74 Try.underlying74 tsz79 tby79 tz79 Try.underlying79 tsz80 tby80 tz80 Try.underlying80 tsz85 tby85 tz85 Try.underlying85 tsz88 tby88 tz88 Try.underlying88 tsz90 tby90 tz90 Try.underlying90 tsz96 tby96 tz96 Try.underlying96 tsz100 tby100 tz100 Try.underlying100 tsz104 tby104 tz104 Try.underlying104 tsz105 tby105 tz105 Try.underlying105 tsz111 tby111 tz111 Try.underlying111 tsz112 tby112 tz112 Try.underlying112 tsz113 tby113 tz113 Try.underlying113 tsz115 tby115 tz115 Try.underlying115 tsz116 tby116 tz116 Try.underlying116 tsz117 tby117 tz117 Try.underlying117 tsz118 tby118 tz118 Try.underlying118 tsz119 tby119 tz119 Try.underlying119 tsz120 tby120 tz120 Try.underlying120 tsz121 tby121 tz121 Try.underlying121 fo121_0 fo121_1 fo121_2 fo121_3 fo121_4 fo121_5 fo121_6 fo121_7 fo121_8 fo121_9 fo121_10 tsz122 tby122 tz122 Try.underlying122 fo122_0 fo122_1 fo122_2 fo122_3 fo122_4 fo122_5 fo122_6 fo122_7 fo122_8 fo122_9 fo122_10 tsz123 tby123 tz123 Try.underlying123 l1InG isNaNG cmpIntG cmpMsgG ftC
theorem k_laws_FnExactCombineState (a0_0 : Int) (a0_1 : Int) (a0_2 : Int) (a1_0 : Int) (a1_1 : List Int) (a1_2 : List Bool) (a1_3 : List (Int × Int × Int)) {r : Bool} (h : laws_FnExactCombineState a0_0 a0_1 a0_2 a1_0 a1_1 a1_2 a1_3 = some r) :
    FnA Try.prog 3 [.agg [.v (.int .i64 a0_0), .v (.int .i64 a0_1), .v (.int .i64 a0_2)], .agg [.v (.int .i64 a1_0), .sl 0, .sl 1, .sl 2]] [.row false (.ints .i64 a1_1), .row false (.bools a1_2), .row false (.trips a1_3)] [] (fun x H => x = .v (.bool r) ∧ H = [.row false (.ints .i64 a1_1), .row false (.bools a1_2), .row false (.trips a1_3)]) := by
  unfold laws_FnExactCombineState at h
  refine FnA.of (N := 77) (pin := [0, 1, 2]) (rs := [.tmp 4]) Try.func3 rfl en3 rfl rfl (by simp) (by simp; try omega) ?_
  refine awp_reg ftCOk [(2, .pp 3 0), (3, .pp 4 0)] [.row false (.ints .i64 a1_1), .row false (.bools a1_2), .row false (.trips a1_3), .box [.v (.int .i64 a0_0), .v (.int .i64 a0_1), .v (.int .i64 a0_2)], .box [.v (.int .i64 a1_0), .sl 0, .sl 1, .sl 2]] ?_
  refine awp_freeze 2 (by rfl) (by rfl) (by exact rfl) ?_
  refine awp_freeze 3 (by rfl) (by rfl) (by exact rfl) ?_
  refine awp_reg ftCOk [(2, .pp 3 0), (3, .pp 4 0), (5, .v (.int .i64 1048576))] [.row false (.ints .i64 a1_1), .row false (.bools a1_2), .row false (.trips a1_3), .rbox [.v (.int .i64 a0_0), .v (.int .i64 a0_1), .v (.int .i64 a0_2)], .rbox [.v (.int .i64 a1_0), .sl 0, .sl 1, .sl 2]] ?_
  replace h := bind_some h
  obtain ⟨y, hr0, h⟩ := h
  try dsimp only at h
  refine awp_to [(2, .pp 3 0), (3, .pp 4 0), (5, .v (.int .i64 y))] [.row false (.ints .i64 a1_1), .row false (.bools a1_2), .row false (.trips a1_3), .rbox [.v (.int .i64 a0_0), .v (.int .i64 a0_1), .v (.int .i64 a0_2)], .rbox [.v (.int .i64 a1_0), .sl 0, .sl 1, .sl 2]] ?_ ?_
  · clear h
    intro K hK
    refine awp_region ftCOk ?_
    simp (maxSteps := 4000000) only [go_sem, Nat.reduceBEq, Nat.reduceLT, Nat.reduceAdd, Nat.reduceLeDiff, Nat.reduceSub, Nat.reduceEqDiff, Int.reduceToNat, reduceCtorEq, ↓reduceIte]
    repeat' (first | refine And.intro ?_ ?_ | intro hg)
    all_goals (try simp (disch := omega) only [wrap_fits])
    all_goals first
      | (refine hK _ _ ?_; exact Red.auto)
      | exact trivial
      | assumption
      | omega
      | exact wrap_fits (by omega) (by omega)
      | (refine wpA_callA (k_laws_szState a1_0 a1_1 a1_2 a1_3 1048576 (h := hr0)) [0, 1, 2] [] ?_
         rintro x Hc' ⟨rfl, rfl⟩ hlen
         refine vcOps_sound ftCOk ?_
         simp (maxSteps := 4000000) only [go_sem, Nat.reduceBEq, Nat.reduceLT, Nat.reduceAdd, Nat.reduceLeDiff, Nat.reduceSub, Nat.reduceEqDiff, Int.reduceToNat, reduceCtorEq, ↓reduceIte]
         repeat' (first | refine And.intro ?_ ?_ | intro hg)
         all_goals (try simp (disch := omega) only [wrap_fits])
         all_goals first
           | (refine hK _ _ ?_; exact Red.auto)
           | exact trivial
           | assumption
           | omega
           | exact wrap_fits (by omega) (by omega)
           | (simp_all; done)
           | (simp_all; omega))
      | (simp_all; done)
      | (simp_all; omega)
  · clear hr0
    refine awp_seq fun K2 hK2 => ?_
    refine awp_reg ftCOk [(2, .pp 3 0), (3, .pp 4 0), (17, .v (.bool (decide (y < 0))))] [.row false (.ints .i64 a1_1), .row false (.bools a1_2), .row false (.trips a1_3), .rbox [.v (.int .i64 a0_0), .v (.int .i64 a0_1), .v (.int .i64 a0_2)], .rbox [.v (.int .i64 a1_0), .sl 0, .sl 1, .sl 2]] ?_
    refine awp_cond (t := 17) rfl (fun hc3 => ?_) (fun hc3 => ?_)
    · replace h := bite_t h hc3
      refine awp_reg ftCOk [(4, .v (.bool true))] [.row false (.ints .i64 a1_1), .row false (.bools a1_2), .row false (.trips a1_3), .rbox [.v (.int .i64 a0_0), .v (.int .i64 a0_1), .v (.int .i64 a0_2)], .rbox [.v (.int .i64 a1_0), .sl 0, .sl 1, .sl 2]] ?_
      refine awp_ret ?_
      (try simp only [Thn, InBlk, ↓reduceIte, Nat.reduceEqDiff])
      obtain rfl := Option.some.inj h
      refine ⟨by simp, _, [0, 1, 2], (by simp only [go_sem, Nat.reduceBEq, Nat.reduceLT, Nat.reduceAdd, Nat.reduceLeDiff, Nat.reduceSub, Nat.reduceEqDiff, Int.reduceToNat, reduceCtorEq, ↓reduceIte]; exact rfl), ?_, ?_, ?_, ?_⟩
      · exact fin1
      · simp [selOk, pos]
      · simp
      · exact fin4
    · replace h := bite_f h hc3
      refine awp_skip ?_
      (try simp only [Thn, InBlk, ↓reduceIte, Nat.reduceEqDiff])
      refine hK2 _ _ ?_
      clear hK2
      replace h := bind_some h
      obtain ⟨⟨y_1, y_2, y_3⟩, hr0, h⟩ := h
      try dsimp only at h
      replace h := bind_some h
      obtain ⟨⟨y_4, y_5, y_6, y_7⟩, hr1, h⟩ := h
      try dsimp only at h
      replace h := bind_some h
      obtain ⟨⟨y_8, y_9, y_10, y_11⟩, hr2, h⟩ := h
      try dsimp only at h
      refine awp_to [(2, .pp 3 0), (3, .pp 4 0), (6, .pp 11 0)] [.row false (.ints .i64 a1_1), .row false (.bools a1_2), .row false (.trips a1_3), .rbox [.v (.int .i64 a0_0), .v (.int .i64 a0_1), .v (.int .i64 a0_2)], .rbox [.v (.int .i64 a1_0), .sl 0, .sl 1, .sl 2], .row true (.ints .i64 y_5), .row true (.bools y_6), .row true (.trips y_7), .row true (.ints .i64 y_9), .row true (.bools y_10), .row true (.trips y_11), .box [.v (.int .i64 y_8), .sl 8, .sl 9, .sl 10]] ?_ ?_
      · clear h
        intro K hK
        refine awp_drawL [0, 1, 2, 3, 4] [0, 2] 5 #[true, false, true, false, false, false, false] mixed ftCOk (by kernel_rfl) (by first | rfl | kernel_rfl) (by rfl) (by simp) fun L hL => ?_
        have n5 : L 0 #[true, true, true, true, true, true, true] [(2, .pp 3 0), (3, .pp 4 0), (6, .pp 11 0), (17, .v (.bool (decide (y < 0)))), (18, .agg [.v (.int .i64 a0_0), .v (.int .i64 a0_1), .v (.int .i64 a0_2)]), (19, .agg [.v (.int .i64 y_1), .v (.int .i64 y_2), .v (.int .i64 y_3)]), (20, .agg [.v (.int .i64 a1_0), .sl 0, .sl 1, .sl 2]), (21, .agg [.v (.int .i64 y_4), .sl 5, .sl 6, .sl 7]), (22, .agg [.v (.int .i64 y_8), .sl 8, .sl 9, .sl 10])] [.row false (.ints .i64 a1_1), .row false (.bools a1_2), .row false (.trips a1_3), .rbox [.v (.int .i64 a0_0), .v (.int .i64 a0_1), .v (.int .i64 a0_2)], .rbox [.v (.int .i64 a1_0), .sl 0, .sl 1, .sl 2], .row true (.ints .i64 y_5), .row true (.bools y_6), .row true (.trips y_7), .row true (.ints .i64 y_9), .row true (.bools y_10), .row true (.trips y_11), .box [.v (.int .i64 y_8), .sl 8, .sl 9, .sl 10]] := by
          exact hL.fin (by kernel_rfl) (hK _ _ Red.auto)
        have n4 : L 1 #[true, true, true, true, true, true, false] [(2, .pp 3 0), (3, .pp 4 0), (6, .pp 11 0), (17, .v (.bool (decide (y < 0)))), (18, .agg [.v (.int .i64 a0_0), .v (.int .i64 a0_1), .v (.int .i64 a0_2)]), (19, .agg [.v (.int .i64 y_1), .v (.int .i64 y_2), .v (.int .i64 y_3)]), (20, .agg [.v (.int .i64 a1_0), .sl 0, .sl 1, .sl 2]), (21, .agg [.v (.int .i64 y_4), .sl 5, .sl 6, .sl 7]), (22, .agg [.v (.int .i64 y_8), .sl 8, .sl 9, .sl 10])] [.row false (.ints .i64 a1_1), .row false (.bools a1_2), .row false (.trips a1_3), .rbox [.v (.int .i64 a0_0), .v (.int .i64 a0_1), .v (.int .i64 a0_2)], .rbox [.v (.int .i64 a1_0), .sl 0, .sl 1, .sl 2], .row true (.ints .i64 y_5), .row true (.bools y_6), .row true (.trips y_7), .row true (.ints .i64 y_9), .row true (.bools y_10), .row true (.trips y_11), .box [.v (.int .i64 0), .v (.slice none 0 0), .v (.slice none 0 0), .v (.slice none 0 0)]] := by
          refine hL.step [(6, [], 0, #[true, true, true, true, true, true, true])] (by kernel_rfl) ⟨?_, trivial⟩
          · exact hL.edge n5
        have n3 : L 2 #[true, true, true, true, true, false, false] [(2, .pp 3 0), (3, .pp 4 0), (17, .v (.bool (decide (y < 0)))), (18, .agg [.v (.int .i64 a0_0), .v (.int .i64 a0_1), .v (.int .i64 a0_2)]), (19, .agg [.v (.int .i64 y_1), .v (.int .i64 y_2), .v (.int .i64 y_3)]), (20, .agg [.v (.int .i64 a1_0), .sl 0, .sl 1, .sl 2]), (21, .agg [.v (.int .i64 y_4), .sl 5, .sl 6, .sl 7]), (22, .agg [.v (.int .i64 y_8), .sl 8, .sl 9, .sl 10])] [.row false (.ints .i64 a1_1), .row false (.bools a1_2), .row false (.trips a1_3), .rbox [.v (.int .i64 a0_0), .v (.int .i64 a0_1), .v (.int .i64 a0_2)], .rbox [.v (.int .i64 a1_0), .sl 0, .sl 1, .sl 2], .row true (.ints .i64 y_5), .row true (.bools y_6), .row true (.trips y_7), .row true (.ints .i64 y_9), .row true (.bools y_10), .row true (.trips y_11)] := by
          refine hL.step [(5, [], 1, #[true, true, true, true, true, true, false])] (by kernel_rfl) ⟨?_, trivial⟩
          · exact hL.edge n4
        have n6 : L 2 #[true, true, true, true, false, true, false] [(2, .pp 3 0), (3, .pp 4 0), (6, .pp 8 0), (17, .v (.bool (decide (y < 0)))), (18, .agg [.v (.int .i64 a0_0), .v (.int .i64 a0_1), .v (.int .i64 a0_2)]), (19, .agg [.v (.int .i64 y_1), .v (.int .i64 y_2), .v (.int .i64 y_3)]), (20, .agg [.v (.int .i64 a1_0), .sl 0, .sl 1, .sl 2]), (21, .agg [.v (.int .i64 y_4), .sl 5, .sl 6, .sl 7])] [.row false (.ints .i64 a1_1), .row false (.bools a1_2), .row false (.trips a1_3), .rbox [.v (.int .i64 a0_0), .v (.int .i64 a0_1), .v (.int .i64 a0_2)], .rbox [.v (.int .i64 a1_0), .sl 0, .sl 1, .sl 2], .row true (.ints .i64 y_5), .row true (.bools y_6), .row true (.trips y_7), .box [.v (.int .i64 0), .v (.slice none 0 0), .v (.slice none 0 0), .v (.slice none 0 0)]] := by
          refine hL.step [(4, [], 1, #[true, true, true, true, true, true, false])] (by kernel_rfl) ⟨?_, trivial⟩
          · simp (maxSteps := 4000000) only [go_sem, Nat.reduceBEq, Nat.reduceLT, Nat.reduceAdd, Nat.reduceLeDiff, Nat.reduceSub, Nat.reduceEqDiff, Int.reduceToNat, reduceCtorEq, ↓reduceIte]
            repeat' (first | refine And.intro ?_ ?_ | intro hg)
            all_goals (try simp (disch := omega) only [wrap_fits])
            all_goals first
              | (refine hL.red ?_ n4; exact Red.selA [0, 1, 2, 3, 4, 5, 6, 7, 9, 10, 11, 8] Red.auto)
              | exact trivial
              | assumption
              | omega
              | exact wrap_fits (by omega) (by omega)
              | (refine OpK_callA (k_spec_CombineState y_1 y_2 y_3 y_4 y_5 y_6 y_7 (h := hr2)) [5, 6, 7] [] ?_
                 rintro x Hc' ⟨rfl, rfl⟩ hlen
                 simp (maxSteps := 4000000) only [go_sem, Nat.reduceBEq, Nat.reduceLT, Nat.reduceAdd, Nat.reduceLeDiff, Nat.reduceSub, Nat.reduceEqDiff, Int.reduceToNat, reduceCtorEq, ↓reduceIte]
                 repeat' (first | refine And.intro ?_ ?_ | intro hg)
                 all_goals (try simp (disch := omega) only [wrap_fits])
                 all_goals first
                   | (refine hL.red ?_ n4; exact Red.selA [0, 1, 2, 3, 4, 5, 6, 7, 9, 10, 11, 8] Red.auto)
                   | exact trivial
                   | assumption
                   | omega
                   | exact wrap_fits (by omega) (by omega)
                   | (simp_all; done)
                   | (simp_all; omega))
              | (simp (maxSteps := 4000000) only [go_sem, Nat.reduceBEq, Nat.reduceLT, Nat.reduceAdd, Nat.reduceLeDiff, Nat.reduceSub, Nat.reduceEqDiff, Int.reduceToNat, reduceCtorEq, ↓reduceIte]
                 repeat' (first | refine And.intro ?_ ?_ | intro hg)
                 all_goals (try simp (disch := omega) only [wrap_fits])
                 all_goals first | (refine hL.red ?_ n4; exact Red.selA [0, 1, 2, 3, 4, 5, 6, 7, 9, 10, 11, 8] Red.auto) | exact trivial | assumption | omega | exact wrap_fits (by omega) (by omega))
              | (simp_all; done)
              | (simp_all; omega)
        have n2 : L 3 #[true, true, true, true, false, false, false] [(2, .pp 3 0), (3, .pp 4 0), (17, .v (.bool (decide (y < 0)))), (18, .agg [.v (.int .i64 a0_0), .v (.int .i64 a0_1), .v (.int .i64 a0_2)]), (19, .agg [.v (.int .i64 y_1), .v (.int .i64 y_2), .v (.int .i64 y_3)]), (20, .agg [.v (.int .i64 a1_0), .sl 0, .sl 1, .sl 2]), (21, .agg [.v (.int .i64 y_4), .sl 5, .sl 6, .sl 7])] [.row false (.ints .i64 a1_1), .row false (.bools a1_2), .row false (.trips a1_3), .rbox [.v (.int .i64 a0_0), .v (.int .i64 a0_1), .v (.int .i64 a0_2)], .rbox [.v (.int .i64 a1_0), .sl 0, .sl 1, .sl 2], .row true (.ints .i64 y_5), .row true (.bools y_6), .row true (.trips y_7)] := by
          refine hL.step [(4, [], 2, #[true, true, true, true, true, false, false]), (5, [], 2, #[true, true, true, true, false, true, false])] (by kernel_rfl) ⟨?_, ?_, trivial⟩
          · simp (maxSteps := 4000000) only [go_sem, Nat.reduceBEq, Nat.reduceLT, Nat.reduceAdd, Nat.reduceLeDiff, Nat.reduceSub, Nat.reduceEqDiff, Int.reduceToNat, reduceCtorEq, ↓reduceIte]
            repeat' (first | refine And.intro ?_ ?_ | intro hg)
            all_goals (try simp (disch := omega) only [wrap_fits])
            all_goals first
              | (refine hL.red ?_ n3; exact Red.auto)
              | exact trivial
              | assumption
              | omega
              | exact wrap_fits (by omega) (by omega)
              | (refine OpK_callA (k_spec_CombineState y_1 y_2 y_3 y_4 y_5 y_6 y_7 (h := hr2)) [5, 6, 7] [] ?_
                 rintro x Hc' ⟨rfl, rfl⟩ hlen
                 simp (maxSteps := 4000000) only [go_sem, Nat.reduceBEq, Nat.reduceLT, Nat.reduceAdd, Nat.reduceLeDiff, Nat.reduceSub, Nat.reduceEqDiff, Int.reduceToNat, reduceCtorEq, ↓reduceIte]
                 repeat' (first | refine And.intro ?_ ?_ | intro hg)
                 all_goals (try simp (disch := omega) only [wrap_fits])
                 all_goals first
                   | (refine hL.red ?_ n3; exact Red.auto)
                   | exact trivial
                   | assumption
                   | omega
                   | exact wrap_fits (by omega) (by omega)
                   | (simp_all; done)
                   | (simp_all; omega))
              | (simp (maxSteps := 4000000) only [go_sem, Nat.reduceBEq, Nat.reduceLT, Nat.reduceAdd, Nat.reduceLeDiff, Nat.reduceSub, Nat.reduceEqDiff, Int.reduceToNat, reduceCtorEq, ↓reduceIte]
                 repeat' (first | refine And.intro ?_ ?_ | intro hg)
                 all_goals (try simp (disch := omega) only [wrap_fits])
                 all_goals first | (refine hL.red ?_ n3; exact Red.auto) | exact trivial | assumption | omega | exact wrap_fits (by omega) (by omega))
              | (simp_all; done)
              | (simp_all; omega)
          · exact hL.edge n6
        have n7 : L 3 #[true, true, true, false, false, true, false] [(2, .pp 3 0), (3, .pp 4 0), (6, .pp 5 0), (17, .v (.bool (decide (y < 0)))), (18, .agg [.v (.int .i64 a0_0), .v (.int .i64 a0_1), .v (.int .i64 a0_2)]), (19, .agg [.v (.int .i64 y_1), .v (.int .i64 y_2), .v (.int .i64 y_3)]), (20, .agg [.v (.int .i64 a1_0), .sl 0, .sl 1, .sl 2])] [.row false (.ints .i64 a1_1), .row false (.bools a1_2), .row false (.trips a1_3), .rbox [.v (.int .i64 a0_0), .v (.int .i64 a0_1), .v (.int .i64 a0_2)], .rbox [.v (.int .i64 a1_0), .sl 0, .sl 1, .sl 2], .box [.v (.int .i64 0), .v (.slice none 0 0), .v (.slice none 0 0), .v (.slice none 0 0)]] := by
          refine hL.step [(3, [], 2, #[true, true, true, true, false, true, false])] (by kernel_rfl) ⟨?_, trivial⟩
          · simp (maxSteps := 4000000) only [go_sem, Nat.reduceBEq, Nat.reduceLT, Nat.reduceAdd, Nat.reduceLeDiff, Nat.reduceSub, Nat.reduceEqDiff, Int.reduceToNat, reduceCtorEq, ↓reduceIte]
            repeat' (first | refine And.intro ?_ ?_ | intro hg)
            all_goals (try simp (disch := omega) only [wrap_fits])
            all_goals first
              | (refine hL.red ?_ n6; exact Red.selA [0, 1, 2, 3, 4, 6, 7, 8, 5] Red.auto)
              | exact trivial
              | assumption
              | omega
              | exact wrap_fits (by omega) (by omega)
              | (refine OpK_callA (k_laws_toState a1_0 a1_1 a1_2 a1_3 (h := hr1)) [0, 1, 2] [] ?_
                 rintro x Hc' ⟨rfl, rfl⟩ hlen
                 simp (maxSteps := 4000000) only [go_sem, Nat.reduceBEq, Nat.reduceLT, Nat.reduceAdd, Nat.reduceLeDiff, Nat.reduceSub, Nat.reduceEqDiff, Int.reduceToNat, reduceCtorEq, ↓reduceIte]
                 repeat' (first | refine And.intro ?_ ?_ | intro hg)
                 all_goals (try simp (disch := omega) only [wrap_fits])
                 all_goals first
                   | (refine hL.red ?_ n6; exact Red.selA [0, 1, 2, 3, 4, 6, 7, 8, 5] Red.auto)
                   | exact trivial
                   | assumption
                   | omega
                   | exact wrap_fits (by omega) (by omega)
                   | (simp_all; done)
                   | (simp_all; omega))
              | (simp (maxSteps := 4000000) only [go_sem, Nat.reduceBEq, Nat.reduceLT, Nat.reduceAdd, Nat.reduceLeDiff, Nat.reduceSub, Nat.reduceEqDiff, Int.reduceToNat, reduceCtorEq, ↓reduceIte]
                 repeat' (first | refine And.intro ?_ ?_ | intro hg)
                 all_goals (try simp (disch := omega) only [wrap_fits])
                 all_goals first | (refine hL.red ?_ n6; exact Red.selA [0, 1, 2, 3, 4, 6, 7, 8, 5] Red.auto) | exact trivial | assumption | omega | exact wrap_fits (by omega) (by omega))
              | (simp_all; done)
              | (simp_all; omega)
        have n1 : L 4 #[true, true, true, false, false, false, false] [(2, .pp 3 0), (3, .pp 4 0), (17, .v (.bool (decide (y < 0)))), (18, .agg [.v (.int .i64 a0_0), .v (.int .i64 a0_1), .v (.int .i64 a0_2)]), (19, .agg [.v (.int .i64 y_1), .v (.int .i64 y_2), .v (.int .i64 y_3)]), (20, .agg [.v (.int .i64 a1_0), .sl 0, .sl 1, .sl 2])] [.row false (.ints .i64 a1_1), .row false (.bools a1_2), .row false (.trips a1_3), .rbox [.v (.int .i64 a0_0), .v (.int .i64 a0_1), .v (.int .i64 a0_2)], .rbox [.v (.int .i64 a1_0), .sl 0, .sl 1, .sl 2]] := by
          refine hL.step [(3, [], 3, #[true, true, true, true, false, false, false]), (5, [], 3, #[true, true, true, false, false, true, false])] (by kernel_rfl) ⟨?_, ?_, trivial⟩
          · simp (maxSteps := 4000000) only [go_sem, Nat.reduceBEq, Nat.reduceLT, Nat.reduceAdd, Nat.reduceLeDiff, Nat.reduceSub, Nat.reduceEqDiff, Int.reduceToNat, reduceCtorEq, ↓reduceIte]
            repeat' (first | refine And.intro ?_ ?_ | intro hg)
            all_goals (try simp (disch := omega) only [wrap_fits])
            all_goals first
              | (refine hL.red ?_ n2; exact Red.auto)
              | exact trivial
              | assumption
              | omega
              | exact wrap_fits (by omega) (by omega)
              | (refine OpK_callA (k_laws_toState a1_0 a1_1 a1_2 a1_3 (h := hr1)) [0, 1, 2] [] ?_
                 rintro x Hc' ⟨rfl, rfl⟩ hlen
                 simp (maxSteps := 4000000) only [go_sem, Nat.reduceBEq, Nat.reduceLT, Nat.reduceAdd, Nat.reduceLeDiff, Nat.reduceSub, Nat.reduceEqDiff, Int.reduceToNat, reduceCtorEq, ↓reduceIte]
                 repeat' (first | refine And.intro ?_ ?_ | intro hg)
                 all_goals (try simp (disch := omega) only [wrap_fits])
                 all_goals first
                   | (refine hL.red ?_ n2; exact Red.auto)
                   | exact trivial
                   | assumption
                   | omega
                   | exact wrap_fits (by omega) (by omega)
                   | (simp_all; done)
                   | (simp_all; omega))
              | (simp (maxSteps := 4000000) only [go_sem, Nat.reduceBEq, Nat.reduceLT, Nat.reduceAdd, Nat.reduceLeDiff, Nat.reduceSub, Nat.reduceEqDiff, Int.reduceToNat, reduceCtorEq, ↓reduceIte]
                 repeat' (first | refine And.intro ?_ ?_ | intro hg)
                 all_goals (try simp (disch := omega) only [wrap_fits])
                 all_goals first | (refine hL.red ?_ n2; exact Red.auto) | exact trivial | assumption | omega | exact wrap_fits (by omega) (by omega))
              | (simp_all; done)
              | (simp_all; omega)
          · exact hL.edge n7
        have n8 : L 4 #[true, false, true, false, false, true, false] [(2, .pp 3 0), (3, .pp 4 0), (6, .pp 5 0), (17, .v (.bool (decide (y < 0)))), (18, .agg [.v (.int .i64 a0_0), .v (.int .i64 a0_1), .v (.int .i64 a0_2)]), (20, .agg [.v (.int .i64 a1_0), .sl 0, .sl 1, .sl 2])] [.row false (.ints .i64 a1_1), .row false (.bools a1_2), .row false (.trips a1_3), .rbox [.v (.int .i64 a0_0), .v (.int .i64 a0_1), .v (.int .i64 a0_2)], .rbox [.v (.int .i64 a1_0), .sl 0, .sl 1, .sl 2], .box [.v (.int .i64 0), .v (.slice none 0 0), .v (.slice none 0 0), .v (.slice none 0 0)]] := by
          refine hL.step [(1, [], 3, #[true, true, true, false, false, true, false])] (by kernel_rfl) ⟨?_, trivial⟩
          · simp (maxSteps := 4000000) only [go_sem, Nat.reduceBEq, Nat.reduceLT, Nat.reduceAdd, Nat.reduceLeDiff, Nat.reduceSub, Nat.reduceEqDiff, Int.reduceToNat, reduceCtorEq, ↓reduceIte]
            repeat' (first | refine And.intro ?_ ?_ | intro hg)
            all_goals (try simp (disch := omega) only [wrap_fits])
            all_goals first
              | (refine hL.red ?_ n7; exact Red.auto)
              | exact trivial
              | assumption
              | omega
              | exact wrap_fits (by omega) (by omega)
              | (refine OpK_callA (k_laws_toProgram a0_0 a0_1 a0_2 (h := hr0)) [] [] ?_
                 rintro x Hc' ⟨rfl, rfl⟩ hlen
                 simp (maxSteps := 4000000) only [go_sem, Nat.reduceBEq, Nat.reduceLT, Nat.reduceAdd, Nat.reduceLeDiff, Nat.reduceSub, Nat.reduceEqDiff, Int.reduceToNat, reduceCtorEq, ↓reduceIte]
                 repeat' (first | refine And.intro ?_ ?_ | intro hg)
                 all_goals (try simp (disch := omega) only [wrap_fits])
                 all_goals first
                   | (refine hL.red ?_ n7; exact Red.auto)
                   | exact trivial
                   | assumption
                   | omega
                   | exact wrap_fits (by omega) (by omega)
                   | (simp_all; done)
                   | (simp_all; omega))
              | (simp (maxSteps := 4000000) only [go_sem, Nat.reduceBEq, Nat.reduceLT, Nat.reduceAdd, Nat.reduceLeDiff, Nat.reduceSub, Nat.reduceEqDiff, Int.reduceToNat, reduceCtorEq, ↓reduceIte]
                 repeat' (first | refine And.intro ?_ ?_ | intro hg)
                 all_goals (try simp (disch := omega) only [wrap_fits])
                 all_goals first | (refine hL.red ?_ n7; exact Red.auto) | exact trivial | assumption | omega | exact wrap_fits (by omega) (by omega))
              | (simp_all; done)
              | (simp_all; omega)
        have n0 : L 5 #[true, false, true, false, false, false, false] [(2, .pp 3 0), (3, .pp 4 0), (17, .v (.bool (decide (y < 0)))), (18, .agg [.v (.int .i64 a0_0), .v (.int .i64 a0_1), .v (.int .i64 a0_2)]), (20, .agg [.v (.int .i64 a1_0), .sl 0, .sl 1, .sl 2])] [.row false (.ints .i64 a1_1), .row false (.bools a1_2), .row false (.trips a1_3), .rbox [.v (.int .i64 a0_0), .v (.int .i64 a0_1), .v (.int .i64 a0_2)], .rbox [.v (.int .i64 a1_0), .sl 0, .sl 1, .sl 2]] := by
          refine hL.step [(1, [], 4, #[true, true, true, false, false, false, false]), (5, [], 4, #[true, false, true, false, false, true, false])] (by kernel_rfl) ⟨?_, ?_, trivial⟩
          · simp (maxSteps := 4000000) only [go_sem, Nat.reduceBEq, Nat.reduceLT, Nat.reduceAdd, Nat.reduceLeDiff, Nat.reduceSub, Nat.reduceEqDiff, Int.reduceToNat, reduceCtorEq, ↓reduceIte]
            repeat' (first | refine And.intro ?_ ?_ | intro hg)
            all_goals (try simp (disch := omega) only [wrap_fits])
            all_goals first
              | (refine hL.red ?_ n1; exact Red.auto)
              | exact trivial
              | assumption
              | omega
              | exact wrap_fits (by omega) (by omega)
              | (refine OpK_callA (k_laws_toProgram a0_0 a0_1 a0_2 (h := hr0)) [] [] ?_
                 rintro x Hc' ⟨rfl, rfl⟩ hlen
                 simp (maxSteps := 4000000) only [go_sem, Nat.reduceBEq, Nat.reduceLT, Nat.reduceAdd, Nat.reduceLeDiff, Nat.reduceSub, Nat.reduceEqDiff, Int.reduceToNat, reduceCtorEq, ↓reduceIte]
                 repeat' (first | refine And.intro ?_ ?_ | intro hg)
                 all_goals (try simp (disch := omega) only [wrap_fits])
                 all_goals first
                   | (refine hL.red ?_ n1; exact Red.auto)
                   | exact trivial
                   | assumption
                   | omega
                   | exact wrap_fits (by omega) (by omega)
                   | (simp_all; done)
                   | (simp_all; omega))
              | (simp (maxSteps := 4000000) only [go_sem, Nat.reduceBEq, Nat.reduceLT, Nat.reduceAdd, Nat.reduceLeDiff, Nat.reduceSub, Nat.reduceEqDiff, Int.reduceToNat, reduceCtorEq, ↓reduceIte]
                 repeat' (first | refine And.intro ?_ ?_ | intro hg)
                 all_goals (try simp (disch := omega) only [wrap_fits])
                 all_goals first | (refine hL.red ?_ n1; exact Red.auto) | exact trivial | assumption | omega | exact wrap_fits (by omega) (by omega))
              | (simp_all; done)
              | (simp_all; omega)
          · exact hL.edge n8
        simp (maxSteps := 4000000) only [go_sem, Nat.reduceBEq, Nat.reduceLT, Nat.reduceAdd, Nat.reduceLeDiff, Nat.reduceSub, Nat.reduceEqDiff, Int.reduceToNat, reduceCtorEq, ↓reduceIte]
        repeat' (first | refine And.intro ?_ ?_ | intro hg)
        all_goals (try simp (disch := omega) only [wrap_fits])
        all_goals first
          | (refine hL.red ?_ n0; exact Red.auto)
          | exact trivial
          | assumption
          | omega
          | exact wrap_fits (by omega) (by omega)
          | (simp (maxSteps := 4000000) only [go_sem, Nat.reduceBEq, Nat.reduceLT, Nat.reduceAdd, Nat.reduceLeDiff, Nat.reduceSub, Nat.reduceEqDiff, Int.reduceToNat, reduceCtorEq, ↓reduceIte]
             repeat' (first | refine And.intro ?_ ?_ | intro hg)
             all_goals (try simp (disch := omega) only [wrap_fits])
             all_goals first | (refine hL.red ?_ n0; exact Red.auto) | exact trivial | assumption | omega | exact wrap_fits (by omega) (by omega))
          | (simp_all; done)
          | (simp_all; omega)
      · clear hr0 hr1 hr2
        replace h := bind_some h
        obtain ⟨⟨y_12, y_13, y_14, y_15⟩, hr0, h⟩ := h
        try dsimp only at h
        refine awp_to [(2, .pp 3 0), (3, .pp 4 0), (6, .pp 11 0), (7, .pp 15 0)] [.row false (.ints .i64 a1_1), .row false (.bools a1_2), .row false (.trips a1_3), .rbox [.v (.int .i64 a0_0), .v (.int .i64 a0_1), .v (.int .i64 a0_2)], .rbox [.v (.int .i64 a1_0), .sl 0, .sl 1, .sl 2], .row true (.ints .i64 y_5), .row true (.bools y_6), .row true (.trips y_7), .row true (.ints .i64 y_9), .row true (.bools y_10), .row true (.trips y_11), .box [.v (.int .i64 y_8), .sl 8, .sl 9, .sl 10], .row true (.ints .i64 y_13), .row true (.bools y_14), .row true (.trips y_15), .box [.v (.int .i64 y_12), .sl 12, .sl 13, .sl 14]] ?_ ?_
        · clear h
          intro K hK
          refine awp_region ftCOk ?_
          simp (maxSteps := 4000000) only [go_sem, Nat.reduceBEq, Nat.reduceLT, Nat.reduceAdd, Nat.reduceLeDiff, Nat.reduceSub, Nat.reduceEqDiff, Int.reduceToNat, reduceCtorEq, ↓reduceIte]
          repeat' (first | refine And.intro ?_ ?_ | intro hg)
          all_goals (try simp (disch := omega) only [wrap_fits])
          all_goals first
            | (refine hK _ _ ?_; exact Red.auto)
            | exact trivial
            | assumption
            | omega
            | exact wrap_fits (by omega) (by omega)
            | (refine wpA_callA (k_laws_toState a1_0 a1_1 a1_2 a1_3 (h := hr0)) [0, 1, 2] [] ?_
               rintro x Hc' ⟨rfl, rfl⟩ hlen
               refine vcOps_sound ftCOk ?_
               simp (maxSteps := 4000000) only [go_sem, Nat.reduceBEq, Nat.reduceLT, Nat.reduceAdd, Nat.reduceLeDiff, Nat.reduceSub, Nat.reduceEqDiff, Int.reduceToNat, reduceCtorEq, ↓reduceIte]
               repeat' (first | refine And.intro ?_ ?_ | intro hg)
               all_goals (try simp (disch := omega) only [wrap_fits])
               all_goals first
                 | (refine hK _ _ ?_; exact Red.auto)
                 | exact trivial
                 | assumption
                 | omega
                 | exact wrap_fits (by omega) (by omega)
                 | (simp_all; done)
                 | (simp_all; omega))
            | (simp_all; done)
            | (simp_all; omega)
        · clear hr0
          replace h := bind_some h
          obtain ⟨⟨y_16, y_17, y_18⟩, hr0, h⟩ := h
          try dsimp only at h
          replace h := bind_some h
          obtain ⟨⟨y_19, y_20, y_21, y_22⟩, hr1, h⟩ := h
          try dsimp only at h
          refine awp_to [(2, .pp 3 0), (3, .pp 4 0), (6, .pp 11 0), (7, .pp 15 0), (8, .pp 19 0)] [.row false (.ints .i64 a1_1), .row false (.bools a1_2), .row false (.trips a1_3), .rbox [.v (.int .i64 a0_0), .v (.int .i64 a0_1), .v (.int .i64 a0_2)], .rbox [.v (.int .i64 a1_0), .sl 0, .sl 1, .sl 2], .row true (.ints .i64 y_5), .row true (.bools y_6), .row true (.trips y_7), .row true (.ints .i64 y_9), .row true (.bools y_10), .row true (.trips y_11), .box [.v (.int .i64 y_8), .sl 8, .sl 9, .sl 10], .row true (.ints .i64 y_13), .row true (.bools y_14), .row true (.trips y_15), .box [.v (.int .i64 y_12), .sl 12, .sl 13, .sl 14], .row true (.ints .i64 y_20), .row true (.bools y_21), .row true (.trips y_22), .box [.v (.int .i64 y_19), .sl 16, .sl 17, .sl 18]] ?_ ?_
          · clear h
            intro K hK
            refine awp_drawL [0, 1, 2, 3, 4, 5, 6, 7, 8, 9, 10, 11, 12, 13, 14, 15] [0] 5 #[true, false, false, false, false, false] mixed ftCOk (by kernel_rfl) (by first | rfl | kernel_rfl) (by rfl) (by simp) fun L hL => ?_
            have n5 : L 0 #[true, true, true, true, true, true] [(2, .pp 3 0), (3, .pp 4 0), (6, .pp 11 0), (7, .pp 15 0), (8, .pp 19 0), (25, .agg [.v (.int .i64 a0_0), .v (.int .i64 a0_1), .v (.int .i64 a0_2)]), (26, .agg [.v (.int .i64 y_16), .v (.int .i64 y_17), .v (.int .i64 y_18)]), (27, .agg [.v (.int .i64 y_12), .sl 12, .sl 13, .sl 14]), (28, .agg [.v (.int .i64 y_19), .sl 16, .sl 17, .sl 18])] [.row false (.ints .i64 a1_1), .row false (.bools a1_2), .row false (.trips a1_3), .rbox [.v (.int .i64 a0_0), .v (.int .i64 a0_1), .v (.int .i64 a0_2)], .rbox [.v (.int .i64 a1_0), .sl 0, .sl 1, .sl 2], .row true (.ints .i64 y_5), .row true (.bools y_6), .row true (.trips y_7), .row true (.ints .i64 y_9), .row true (.bools y_10), .row true (.trips y_11), .box [.v (.int .i64 y_8), .sl 8, .sl 9, .sl 10], .row true (.ints .i64 y_13), .row true (.bools y_14), .row true (.trips y_15), .box [.v (.int .i64 y_12), .sl 12, .sl 13, .sl 14], .row true (.ints .i64 y_20), .row true (.bools y_21), .row true (.trips y_22), .box [.v (.int .i64 y_19), .sl 16, .sl 17, .sl 18]] := by
              exact hL.fin (by kernel_rfl) (hK _ _ Red.auto)
            have n4 : L 1 #[true, true, true, true, true, false] [(2, .pp 3 0), (3, .pp 4 0), (6, .pp 11 0), (7, .pp 15 0), (8, .pp 19 0), (25, .agg [.v (.int .i64 a0_0), .v (.int .i64 a0_1), .v (.int .i64 a0_2)]), (26, .agg [.v (.int .i64 y_16), .v (.int .i64 y_17), .v (.int .i64 y_18)]), (27, .agg [.v (.int .i64 y_12), .sl 12, .sl 13, .sl 14]), (28, .agg [.v (.int .i64 y_19), .sl 16, .sl 17, .sl 18])] [.row false (.ints .i64 a1_1), .row false (.bools a1_2), .row false (.trips a1_3), .rbox [.v (.int .i64 a0_0), .v (.int .i64 a0_1), .v (.int .i64 a0_2)], .rbox [.v (.int .i64 a1_0), .sl 0, .sl 1, .sl 2], .row true (.ints .i64 y_5), .row true (.bools y_6), .row true (.trips y_7), .row true (.ints .i64 y_9), .row true (.bools y_10), .row true (.trips y_11), .box [.v (.int .i64 y_8), .sl 8, .sl 9, .sl 10], .row true (.ints .i64 y_13), .row true (.bools y_14), .row true (.trips y_15), .box [.v (.int .i64 y_12), .sl 12, .sl 13, .sl 14], .row true (.ints .i64 y_20), .row true (.bools y_21), .row true (.trips y_22), .box [.v (.int .i64 0), .v (.slice none 0 0), .v (.slice none 0 0), .v (.slice none 0 0)]] := by
              refine hL.step [(5, [], 0, #[true, true, true, true, true, true])] (by kernel_rfl) ⟨?_, trivial⟩
              · exact hL.edge n5
            have n3 : L 2 #[true, true, true, true, false, false] [(2, .pp 3 0), (3, .pp 4 0), (6, .pp 11 0), (7, .pp 15 0), (25, .agg [.v (.int .i64 a0_0), .v (.int .i64 a0_1), .v (.int .i64 a0_2)]), (26, .agg [.v (.int .i64 y_16), .v (.int .i64 y_17), .v (.int .i64 y_18)]), (27, .agg [.v (.int .i64 y_12), .sl 12, .sl 13, .sl 14]), (28, .agg [.v (.int .i64 y_19), .sl 16, .sl 17, .sl 18])] [.row false (.ints .i64 a1_1), .row false (.bools a1_2), .row false (.trips a1_3), .rbox [.v (.int .i64 a0_0), .v (.int .i64 a0_1), .v (.int .i64 a0_2)], .rbox [.v (.int .i64 a1_0), .sl 0, .sl 1, .sl 2], .row true (.ints .i64 y_5), .row true (.bools y_6), .row true (.trips y_7), .row true (.ints .i64 y_9), .row true (.bools y_10), .row true (.trips y_11), .box [.v (.int .i64 y_8), .sl 8, .sl 9, .sl 10], .row true (.ints .i64 y_13), .row true (.bools y_14), .row true (.trips y_15), .box [.v (.int .i64 y_12), .sl 12, .sl 13, .sl 14], .row true (.ints .i64 y_20), .row true (.bools y_21), .row true (.trips y_22)] := by
              refine hL.step [(4, [], 1, #[true, true, true, true, true, false])] (by kernel_rfl) ⟨?_, trivial⟩
              · exact hL.edge n4
            have n6 : L 2 #[true, true, true, false, true, false] [(2, .pp 3 0), (3, .pp 4 0), (6, .pp 11 0), (7, .pp 15 0), (8, .pp 16 0), (25, .agg [.v (.int .i64 a0_0), .v (.int .i64 a0_1), .v (.int .i64 a0_2)]), (26, .agg [.v (.int .i64 y_16), .v (.int .i64 y_17), .v (.int .i64 y_18)]), (27, .agg [.v (.int .i64 y_12), .sl 12, .sl 13, .sl 14])] [.row false (.ints .i64 a1_1), .row false (.bools a1_2), .row false (.trips a1_3), .rbox [.v (.int .i64 a0_0), .v (.int .i64 a0_1), .v (.int .i64 a0_2)], .rbox [.v (.int .i64 a1_0), .sl 0, .sl 1, .sl 2], .row true (.ints .i64 y_5), .row true (.bools y_6), .row true (.trips y_7), .row true (.ints .i64 y_9), .row true (.bools y_10), .row true (.trips y_11), .box [.v (.int .i64 y_8), .sl 8, .sl 9, .sl 10], .row true (.ints .i64 y_13), .row true (.bools y_14), .row true (.trips y_15), .box [.v (.int .i64 y_12), .sl 12, .sl 13, .sl 14], .box [.v (.int .i64 0), .v (.slice none 0 0), .v (.slice none 0 0), .v (.slice none 0 0)]] := by
              refine hL.step [(3, [], 1, #[true, true, true, true, true, false])] (by kernel_rfl) ⟨?_, trivial⟩
              · simp (maxSteps := 4000000) only [go_sem, Nat.reduceBEq, Nat.reduceLT, Nat.reduceAdd, Nat.reduceLeDiff, Nat.reduceSub, Nat.reduceEqDiff, Int.reduceToNat, reduceCtorEq, ↓reduceIte]
                repeat' (first | refine And.intro ?_ ?_ | intro hg)
                all_goals (try simp (disch := omega) only [wrap_fits])
                all_goals first
                  | (refine hL.red ?_ n4; exact Red.selA [0, 1, 2, 3, 4, 5, 6, 7, 8, 9, 10, 11, 12, 13, 14, 15, 17, 18, 19, 16] Red.auto)
                  | exact trivial
                  | assumption
                  | omega
                  | exact wrap_fits (by omega) (by omega)
                  | (refine OpK_callA (k_impl_CombineState y_16 y_17 y_18 y_12 y_13 y_14 y_15 (h := hr1)) [12, 13, 14] [] ?_
                     rintro x Hc' ⟨rfl, rfl⟩ hlen
                     simp (maxSteps := 4000000) only [go_sem, Nat.reduceBEq, Nat.reduceLT, Nat.reduceAdd, Nat.reduceLeDiff, Nat.reduceSub, Nat.reduceEqDiff, Int.reduceToNat, reduceCtorEq, ↓reduceIte]
                     repeat' (first | refine And.intro ?_ ?_ | intro hg)
                     all_goals (try simp (disch := omega) only [wrap_fits])
                     all_goals first
                       | (refine hL.red ?_ n4; exact Red.selA [0, 1, 2, 3, 4, 5, 6, 7, 8, 9, 10, 11, 12, 13, 14, 15, 17, 18, 19, 16] Red.auto)
                       | exact trivial
                       | assumption
                       | omega
                       | exact wrap_fits (by omega) (by omega)
                       | (simp_all; done)
                       | (simp_all; omega))
                  | (simp (maxSteps := 4000000) only [go_sem, Nat.reduceBEq, Nat.reduceLT, Nat.reduceAdd, Nat.reduceLeDiff, Nat.reduceSub, Nat.reduceEqDiff, Int.reduceToNat, reduceCtorEq, ↓reduceIte]
                     repeat' (first | refine And.intro ?_ ?_ | intro hg)
                     all_goals (try simp (disch := omega) only [wrap_fits])
                     all_goals first | (refine hL.red ?_ n4; exact Red.selA [0, 1, 2, 3, 4, 5, 6, 7, 8, 9, 10, 11, 12, 13, 14, 15, 17, 18, 19, 16] Red.auto) | exact trivial | assumption | omega | exact wrap_fits (by omega) (by omega))
                  | (simp_all; done)
                  | (simp_all; omega)
            have n2 : L 3 #[true, true, true, false, false, false] [(2, .pp 3 0), (3, .pp 4 0), (6, .pp 11 0), (7, .pp 15 0), (25, .agg [.v (.int .i64 a0_0), .v (.int .i64 a0_1), .v (.int .i64 a0_2)]), (26, .agg [.v (.int .i64 y_16), .v (.int .i64 y_17), .v (.int .i64 y_18)]), (27, .agg [.v (.int .i64 y_12), .sl 12, .sl 13, .sl 14])] [.row false (.ints .i64 a1_1), .row false (.bools a1_2), .row false (.trips a1_3), .rbox [.v (.int .i64 a0_0), .v (.int .i64 a0_1), .v (.int .i64 a0_2)], .rbox [.v (.int .i64 a1_0), .sl 0, .sl 1, .sl 2], .row true (.ints .i64 y_5), .row true (.bools y_6), .row true (.trips y_7), .row true (.ints .i64 y_9), .row true (.bools y_10), .row true (.trips y_11), .box [.v (.int .i64 y_8), .sl 8, .sl 9, .sl 10], .row true (.ints .i64 y_13), .row true (.bools y_14), .row true (.trips y_15), .box [.v (.int .i64 y_12), .sl 12, .sl 13, .sl 14]] := by
              refine hL.step [(3, [], 2, #[true, true, true, true, false, false]), (4, [], 2, #[true, true, true, false, true, false])] (by kernel_rfl) ⟨?_, ?_, trivial⟩
              · simp (maxSteps := 4000000) only [go_sem, Nat.reduceBEq, Nat.reduceLT, Nat.reduceAdd, Nat.reduceLeDiff, Nat.reduceSub, Nat.reduceEqDiff, Int.reduceToNat, reduceCtorEq, ↓reduceIte]
                repeat' (first | refine And.intro ?_ ?_ | intro hg)
                all_goals (try simp (disch := omega) only [wrap_fits])
                all_goals first
                  | (refine hL.red ?_ n3; exact Red.auto)
                  | exact trivial
                  | assumption
                  | omega
                  | exact wrap_fits (by omega) (by omega)
                  | (refine OpK_callA (k_impl_CombineState y_16 y_17 y_18 y_12 y_13 y_14 y_15 (h := hr1)) [12, 13, 14] [] ?_
                     rintro x Hc' ⟨rfl, rfl⟩ hlen
                     simp (maxSteps := 4000000) only [go_sem, Nat.reduceBEq, Nat.reduceLT, Nat.reduceAdd, Nat.reduceLeDiff, Nat.reduceSub, Nat.reduceEqDiff, Int.reduceToNat, reduceCtorEq, ↓reduceIte]
                     repeat' (first | refine And.intro ?_ ?_ | intro hg)
                     all_goals (try simp (disch := omega) only [wrap_fits])
                     all_goals first
                       | (refine hL.red ?_ n3; exact Red.auto)
                       | exact trivial
                       | assumption
                       | omega
                       | exact wrap_fits (by omega) (by omega)
                       | (simp_all; done)
                       | (simp_all; omega))
                  | (simp (maxSteps := 4000000) only [go_sem, Nat.reduceBEq, Nat.reduceLT, Nat.reduceAdd, Nat.reduceLeDiff, Nat.reduceSub, Nat.reduceEqDiff, Int.reduceToNat, reduceCtorEq, ↓reduceIte]
                     repeat' (first | refine And.intro ?_ ?_ | intro hg)
                     all_goals (try simp (disch := omega) only [wrap_fits])
                     all_goals first | (refine hL.red ?_ n3; exact Red.auto) | exact trivial | assumption | omega | exact wrap_fits (by omega) (by omega))
                  | (simp_all; done)
                  | (simp_all; omega)
              · exact hL.edge n6
            have n7 : L 3 #[true, true, false, false, true, false] [(2, .pp 3 0), (3, .pp 4 0), (6, .pp 11 0), (7, .pp 15 0), (8, .pp 16 0), (25, .agg [.v (.int .i64 a0_0), .v (.int .i64 a0_1), .v (.int .i64 a0_2)]), (26, .agg [.v (.int .i64 y_16), .v (.int .i64 y_17), .v (.int .i64 y_18)])] [.row false (.ints .i64 a1_1), .row false (.bools a1_2), .row false (.trips a1_3), .rbox [.v (.int .i64 a0_0), .v (.int .i64 a0_1), .v (.int .i64 a0_2)], .rbox [.v (.int .i64 a1_0), .sl 0, .sl 1, .sl 2], .row true (.ints .i64 y_5), .row true (.bools y_6), .row true (.trips y_7), .row true (.ints .i64 y_9), .row true (.bools y_10), .row true (.trips y_11), .box [.v (.int .i64 y_8), .sl 8, .sl 9, .sl 10], .row true (.ints .i64 y_13), .row true (.bools y_14), .row true (.trips y_15), .box [.v (.int .i64 y_12), .sl 12, .sl 13, .sl 14], .box [.v (.int .i64 0), .v (.slice none 0 0), .v (.slice none 0 0), .v (.slice none 0 0)]] := by
              refine hL.step [(2, [], 2, #[true, true, true, false, true, false])] (by kernel_rfl) ⟨?_, trivial⟩
              · exact hL.edge n6
            have n1 : L 4 #[true, true, false, false, false, false] [(2, .pp 3 0), (3, .pp 4 0), (6, .pp 11 0), (7, .pp 15 0), (25, .agg [.v (.int .i64 a0_0), .v (.int .i64 a0_1), .v (.int .i64 a0_2)]), (26, .agg [.v (.int .i64 y_16), .v (.int .i64 y_17), .v (.int .i64 y_18)])] [.row false (.ints .i64 a1_1), .row false (.bools a1_2), .row false (.trips a1_3), .rbox [.v (.int .i64 a0_0), .v (.int .i64 a0_1), .v (.int .i64 a0_2)], .rbox [.v (.int .i64 a1_0), .sl 0, .sl 1, .sl 2], .row true (.ints .i64 y_5), .row true (.bools y_6), .row true (.trips y_7), .row true (.ints .i64 y_9), .row true (.bools y_10), .row true (.trips y_11), .box [.v (.int .i64 y_8), .sl 8, .sl 9, .sl 10], .row true (.ints .i64 y_13), .row true (.bools y_14), .row true (.trips y_15), .box [.v (.int .i64 y_12), .sl 12, .sl 13, .sl 14]] := by
              refine hL.step [(2, [], 3, #[true, true, true, false, false, false]), (4, [], 3, #[true, true, false, false, true, false])] (by kernel_rfl) ⟨?_, ?_, trivial⟩
              · exact hL.edge n2
              · exact hL.edge n7
            have n9 : L 3 #[true, false, true, false, true, false] [(2, .pp 3 0), (3, .pp 4 0), (6, .pp 11 0), (7, .pp 15 0), (8, .pp 16 0), (25, .agg [.v (.int .i64 a0_0), .v (.int .i64 a0_1), .v (.int .i64 a0_2)]), (27, .agg [.v (.int .i64 y_12), .sl 12, .sl 13, .sl 14])] [.row false (.ints .i64 a1_1), .row false (.bools a1_2), .row false (.trips a1_3), .rbox [.v (.int .i64 a0_0), .v (.int .i64 a0_1), .v (.int .i64 a0_2)], .rbox [.v (.int .i64 a1_0), .sl 0, .sl 1, .sl 2], .row true (.ints .i64 y_5), .row true (.bools y_6), .row true (.trips y_7), .row true (.ints .i64 y_9), .row true (.bools y_10), .row true (.trips y_11), .box [.v (.int .i64 y_8), .sl 8, .sl 9, .sl 10], .row true (.ints .i64 y_13), .row true (.bools y_14), .row true (.trips y_15), .box [.v (.int .i64 y_12), .sl 12, .sl 13, .sl 14], .box [.v (.int .i64 0), .v (.slice none 0 0), .v (.slice none 0 0), .v (.slice none 0 0)]] := by
              refine hL.step [(1, [], 2, #[true, true, true, false, true, false])] (by kernel_rfl) ⟨?_, trivial⟩
              · simp (maxSteps := 4000000) only [go_sem, Nat.reduceBEq, Nat.reduceLT, Nat.reduceAdd, Nat.reduceLeDiff, Nat.reduceSub, Nat.reduceEqDiff, Int.reduceToNat, reduceCtorEq, ↓reduceIte]
                repeat' (first | refine And.intro ?_ ?_ | intro hg)
                all_goals (try simp (disch := omega) only [wrap_fits])
                all_goals first
                  | (refine hL.red ?_ n6; exact Red.auto)
                  | exact trivial
                  | assumption
                  | omega
                  | exact wrap_fits (by omega) (by omega)
                  | (refine OpK_callA (k_laws_toProgram a0_0 a0_1 a0_2 (h := hr0)) [] [] ?_
                     rintro x Hc' ⟨rfl, rfl⟩ hlen
                     simp (maxSteps := 4000000) only [go_sem, Nat.reduceBEq, Nat.reduceLT, Nat.reduceAdd, Nat.reduceLeDiff, Nat.reduceSub, Nat.reduceEqDiff, Int.reduceToNat, reduceCtorEq, ↓reduceIte]
                     repeat' (first | refine And.intro ?_ ?_ | intro hg)
                     all_goals (try simp (disch := omega) only [wrap_fits])
                     all_goals first
                       | (refine hL.red ?_ n6; exact Red.auto)
                       | exact trivial
                       | assumption
                       | omega
                       | exact wrap_fits (by omega) (by omega)
                       | (simp_all; done)
                       | (simp_all; omega))
                  | (simp (maxSteps := 4000000) only [go_sem, Nat.reduceBEq, Nat.reduceLT, Nat.reduceAdd, Nat.reduceLeDiff, Nat.reduceSub, Nat.reduceEqDiff, Int.reduceToNat, reduceCtorEq, ↓reduceIte]
                     repeat' (first | refine And.intro ?_ ?_ | intro hg)
                     all_goals (try simp (disch := omega) only [wrap_fits])
                     all_goals first | (refine hL.red ?_ n6; exact Red.auto) | exact trivial | assumption | omega | exact wrap_fits (by omega) (by omega))
                  | (simp_all; done)
                  | (simp_all; omega)
            have n8 : L 4 #[true, false, true, false, false, false] [(2, .pp 3 0), (3, .pp 4 0), (6, .pp 11 0), (7, .pp 15 0), (25, .agg [.v (.int .i64 a0_0), .v (.int .i64 a0_1), .v (.int .i64 a0_2)]), (27, .agg [.v (.int .i64 y_12), .sl 12, .sl 13, .sl 14])] [.row false (.ints .i64 a1_1), .row false (.bools a1_2), .row false (.trips a1_3), .rbox [.v (.int .i64 a0_0), .v (.int .i64 a0_1), .v (.int .i64 a0_2)], .rbox [.v (.int .i64 a1_0), .sl 0, .sl 1, .sl 2], .row true (.ints .i64 y_5), .row true (.bools y_6), .row true (.trips y_7), .row true (.ints .i64 y_9), .row true (.bools y_10), .row true (.trips y_11), .box [.v (.int .i64 y_8), .sl 8, .sl 9, .sl 10], .row true (.ints .i64 y_13), .row true (.bools y_14), .row true (.trips y_15), .box [.v (.int .i64 y_12), .sl 12, .sl 13, .sl 14]] := by
              refine hL.step [(1, [], 3, #[true, true, true, false, false, false]), (4, [], 3, #[true, false, true, false, true, false])] (by kernel_rfl) ⟨?_, ?_, trivial⟩
              · simp (maxSteps := 4000000) only [go_sem, Nat.reduceBEq, Nat.reduceLT, Nat.reduceAdd, Nat.reduceLeDiff, Nat.reduceSub, Nat.reduceEqDiff, Int.reduceToNat, reduceCtorEq, ↓reduceIte]
                repeat' (first | refine And.intro ?_ ?_ | intro hg)
                all_goals (try simp (disch := omega) only [wrap_fits])
                all_goals first
                  | (refine hL.red ?_ n2; exact Red.auto)
                  | exact trivial
                  | assumption
                  | omega
                  | exact wrap_fits (by omega) (by omega)
                  | (refine OpK_callA (k_laws_toProgram a0_0 a0_1 a0_2 (h := hr0)) [] [] ?_
                     rintro x Hc' ⟨rfl, rfl⟩ hlen
                     simp (maxSteps := 4000000) only [go_sem, Nat.reduceBEq, Nat.reduceLT, Nat.reduceAdd, Nat.reduceLeDiff, Nat.reduceSub, Nat.reduceEqDiff, Int.reduceToNat, reduceCtorEq, ↓reduceIte]
                     repeat' (first | refine And.intro ?_ ?_ | intro hg)
                     all_goals (try simp (disch := omega) only [wrap_fits])
                     all_goals first
                       | (refine hL.red ?_ n2; exact Red.auto)
                       | exact trivial
                       | assumption
                       | omega
                       | exact wrap_fits (by omega) (by omega)
                       | (simp_all; done)
                       | (simp_all; omega))
                  | (simp (maxSteps := 4000000) only [go_sem, Nat.reduceBEq, Nat.reduceLT, Nat.reduceAdd, Nat.reduceLeDiff, Nat.reduceSub, Nat.reduceEqDiff, Int.reduceToNat, reduceCtorEq, ↓reduceIte]
                     repeat' (first | refine And.intro ?_ ?_ | intro hg)
                     all_goals (try simp (disch := omega) only [wrap_fits])
                     all_goals first | (refine hL.red ?_ n2; exact Red.auto) | exact trivial | assumption | omega | exact wrap_fits (by omega) (by omega))
                  | (simp_all; done)
                  | (simp_all; omega)
              · exact hL.edge n9
            have n10 : L 4 #[true, false, false, false, true, false] [(2, .pp 3 0), (3, .pp 4 0), (6, .pp 11 0), (7, .pp 15 0), (8, .pp 16 0), (25, .agg [.v (.int .i64 a0_0), .v (.int .i64 a0_1), .v (.int .i64 a0_2)])] [.row false (.ints .i64 a1_1), .row false (.bools a1_2), .row false (.trips a1_3), .rbox [.v (.int .i64 a0_0), .v (.int .i64 a0_1), .v (.int .i64 a0_2)], .rbox [.v (.int .i64 a1_0), .sl 0, .sl 1, .sl 2], .row true (.ints .i64 y_5), .row true (.bools y_6), .row true (.trips y_7), .row true (.ints .i64 y_9), .row true (.bools y_10), .row true (.trips y_11), .box [.v (.int .i64 y_8), .sl 8, .sl 9, .sl 10], .row true (.ints .i64 y_13), .row true (.bools y_14), .row true (.trips y_15), .box [.v (.int .i64 y_12), .sl 12, .sl 13, .sl 14], .box [.v (.int .i64 0), .v (.slice none 0 0), .v (.slice none 0 0), .v (.slice none 0 0)]] := by
              refine hL.step [(1, [], 3, #[true, true, false, false, true, false]), (2, [], 3, #[true, false, true, false, true, false])] (by kernel_rfl) ⟨?_, ?_, trivial⟩
              · simp (maxSteps := 4000000) only [go_sem, Nat.reduceBEq, Nat.reduceLT, Nat.reduceAdd, Nat.reduceLeDiff, Nat.reduceSub, Nat.reduceEqDiff, Int.reduceToNat, reduceCtorEq, ↓reduceIte]
                repeat' (first | refine And.intro ?_ ?_ | intro hg)
                all_goals (try simp (disch := omega) only [wrap_fits])
                all_goals first
                  | (refine hL.red ?_ n7; exact Red.auto)
                  | exact trivial
                  | assumption
                  | omega
                  | exact wrap_fits (by omega) (by omega)
                  | (refine OpK_callA (k_laws_toProgram a0_0 a0_1 a0_2 (h := hr0)) [] [] ?_
                     rintro x Hc' ⟨rfl, rfl⟩ hlen
                     simp (maxSteps := 4000000) only [go_sem, Nat.reduceBEq, Nat.reduceLT, Nat.reduceAdd, Nat.reduceLeDiff, Nat.reduceSub, Nat.reduceEqDiff, Int.reduceToNat, reduceCtorEq, ↓reduceIte]
                     repeat' (first | refine And.intro ?_ ?_ | intro hg)
                     all_goals (try simp (disch := omega) only [wrap_fits])
                     all_goals first
                       | (refine hL.red ?_ n7; exact Red.auto)
                       | exact trivial
                       | assumption
                       | omega
                       | exact wrap_fits (by omega) (by omega)
                       | (simp_all; done)
                       | (simp_all; omega))
                  | (simp (maxSteps := 4000000) only [go_sem, Nat.reduceBEq, Nat.reduceLT, Nat.reduceAdd, Nat.reduceLeDiff, Nat.reduceSub, Nat.reduceEqDiff, Int.reduceToNat, reduceCtorEq, ↓reduceIte]
                     repeat' (first | refine And.intro ?_ ?_ | intro hg)
                     all_goals (try simp (disch := omega) only [wrap_fits])
                     all_goals first | (refine hL.red ?_ n7; exact Red.auto) | exact trivial | assumption | omega | exact wrap_fits (by omega) (by omega))
                  | (simp_all; done)
                  | (simp_all; omega)
              · exact hL.edge n9
            have n0 : L 5 #[true, false, false, false, false, false] [(2, .pp 3 0), (3, .pp 4 0), (6, .pp 11 0), (7, .pp 15 0), (25, .agg [.v (.int .i64 a0_0), .v (.int .i64 a0_1), .v (.int .i64 a0_2)])] [.row false (.ints .i64 a1_1), .row false (.bools a1_2), .row false (.trips a1_3), .rbox [.v (.int .i64 a0_0), .v (.int .i64 a0_1), .v (.int .i64 a0_2)], .rbox [.v (.int .i64 a1_0), .sl 0, .sl 1, .sl 2], .row true (.ints .i64 y_5), .row true (.bools y_6), .row true (.trips y_7), .row true (.ints .i64 y_9), .row true (.bools y_10), .row true (.trips y_11), .box [.v (.int .i64 y_8), .sl 8, .sl 9, .sl 10], .row true (.ints .i64 y_13), .row true (.bools y_14), .row true (.trips y_15), .box [.v (.int .i64 y_12), .sl 12, .sl 13, .sl 14]] := by
              refine hL.step [(1, [], 4, #[true, true, false, false, false, false]), (2, [], 4, #[true, false, true, false, false, false]), (4, [], 4, #[true, false, false, false, true, false])] (by kernel_rfl) ⟨?_, ?_, ?_, trivial⟩
              · simp (maxSteps := 4000000) only [go_sem, Nat.reduceBEq, Nat.reduceLT, Nat.reduceAdd, Nat.reduceLeDiff, Nat.reduceSub, Nat.reduceEqDiff, Int.reduceToNat, reduceCtorEq, ↓reduceIte]
                repeat' (first | refine And.intro ?_ ?_ | intro hg)
                all_goals (try simp (disch := omega) only [wrap_fits])
                all_goals first
                  | (refine hL.red ?_ n1; exact Red.auto)
                  | exact trivial
                  | assumption
                  | omega
                  | exact wrap_fits (by omega) (by omega)
                  | (refine OpK_callA (k_laws_toProgram a0_0 a0_1 a0_2 (h := hr0)) [] [] ?_
                     rintro x Hc' ⟨rfl, rfl⟩ hlen
                     simp (maxSteps := 4000000) only [go_sem, Nat.reduceBEq, Nat.reduceLT, Nat.reduceAdd, Nat.reduceLeDiff, Nat.reduceSub, Nat.reduceEqDiff, Int.reduceToNat, reduceCtorEq, ↓reduceIte]
                     repeat' (first | refine And.intro ?_ ?_ | intro hg)
                     all_goals (try simp (disch := omega) only [wrap_fits])
                     all_goals first
                       | (refine hL.red ?_ n1; exact Red.auto)
                       | exact trivial
                       | assumption
                       | omega
                       | exact wrap_fits (by omega) (by omega)
                       | (simp_all; done)
                       | (simp_all; omega))
                  | (simp (maxSteps := 4000000) only [go_sem, Nat.reduceBEq, Nat.reduceLT, Nat.reduceAdd, Nat.reduceLeDiff, Nat.reduceSub, Nat.reduceEqDiff, Int.reduceToNat, reduceCtorEq, ↓reduceIte]
                     repeat' (first | refine And.intro ?_ ?_ | intro hg)
                     all_goals (try simp (disch := omega) only [wrap_fits])
                     all_goals first | (refine hL.red ?_ n1; exact Red.auto) | exact trivial | assumption | omega | exact wrap_fits (by omega) (by omega))
                  | (simp_all; done)
                  | (simp_all; omega)
              · exact hL.edge n8
              · exact hL.edge n10
            simp (maxSteps := 4000000) only [go_sem, Nat.reduceBEq, Nat.reduceLT, Nat.reduceAdd, Nat.reduceLeDiff, Nat.reduceSub, Nat.reduceEqDiff, Int.reduceToNat, reduceCtorEq, ↓reduceIte]
            repeat' (first | refine And.intro ?_ ?_ | intro hg)
            all_goals (try simp (disch := omega) only [wrap_fits])
            all_goals first
              | (refine hL.red ?_ n0; exact Red.auto)
              | exact trivial
              | assumption
              | omega
              | exact wrap_fits (by omega) (by omega)
              | (simp (maxSteps := 4000000) only [go_sem, Nat.reduceBEq, Nat.reduceLT, Nat.reduceAdd, Nat.reduceLeDiff, Nat.reduceSub, Nat.reduceEqDiff, Int.reduceToNat, reduceCtorEq, ↓reduceIte]
                 repeat' (first | refine And.intro ?_ ?_ | intro hg)
                 all_goals (try simp (disch := omega) only [wrap_fits])
                 all_goals first | (refine hL.red ?_ n0; exact Red.auto) | exact trivial | assumption | omega | exact wrap_fits (by omega) (by omega))
              | (simp_all; done)
              | (simp_all; omega)
          · clear hr0 hr1
            refine awp_seq fun K5 hK5 => ?_
            replace h := bind_some h
            obtain ⟨y_23, hr0, h⟩ := h
            try dsimp only at h
            refine awp_to [(2, .pp 3 0), (3, .pp 4 0), (6, .pp 11 0), (7, .pp 15 0), (8, .pp 19 0), (32, .v (.bool (!y_23)))] [.row false (.ints .i64 a1_1), .row false (.bools a1_2), .row false (.trips a1_3), .rbox [.v (.int .i64 a0_0), .v (.int .i64 a0_1), .v (.int .i64 a0_2)], .rbox [.v (.int .i64 a1_0), .sl 0, .sl 1, .sl 2], .row true (.ints .i64 y_5), .row true (.bools y_6), .row true (.trips y_7), .row true (.ints .i64 y_9), .row true (.bools y_10), .row true (.trips y_11), .box [.v (.int .i64 y_8), .sl 8, .sl 9, .sl 10], .row true (.ints .i64 y_13), .row true (.bools y_14), .row true (.trips y_15), .box [.v (.int .i64 y_12), .sl 12, .sl 13, .sl 14], .row true (.ints .i64 y_20), .row true (.bools y_21), .row true (.trips y_22), .box [.v (.int .i64 y_19), .sl 16, .sl 17, .sl 18]] ?_ ?_
            · clear h
              intro K hK
              refine awp_region ftCOk ?_
              simp (maxSteps := 4000000) only [go_sem, Nat.reduceBEq, Nat.reduceLT, Nat.reduceAdd, Nat.reduceLeDiff, Nat.reduceSub, Nat.reduceEqDiff, Int.reduceToNat, reduceCtorEq, ↓reduceIte]
              repeat' (first | refine And.intro ?_ ?_ | intro hg)
              all_goals (try simp (disch := omega) only [wrap_fits])
              all_goals first
                | (refine hK _ _ ?_; exact Red.auto)
                | exact trivial
                | assumption
                | omega
                | exact wrap_fits (by omega) (by omega)
                | (refine wpA_callA (k_laws_eqState y_19 y_20 y_21 y_22 y_8 y_9 y_10 y_11 (h := hr0)) [16, 17, 18, 8, 9, 10] [] ?_
                   rintro x Hc' ⟨rfl, rfl⟩ hlen
                   refine vcOps_sound ftCOk ?_
                   simp (maxSteps := 4000000) only [go_sem, Nat.reduceBEq, Nat.reduceLT, Nat.reduceAdd, Nat.reduceLeDiff, Nat.reduceSub, Nat.reduceEqDiff, Int.reduceToNat, reduceCtorEq, ↓reduceIte]
                   repeat' (first | refine And.intro ?_ ?_ | intro hg)
                   all_goals (try simp (disch := omega) only [wrap_fits])
                   all_goals first
                     | (refine hK _ _ ?_; exact Red.auto)
                     | exact trivial
                     | assumption
                     | omega
                     | exact wrap_fits (by omega) (by omega)
                     | (simp_all; done)
                     | (simp_all; omega))
                | (simp_all; done)
                | (simp_all; omega)
            · clear hr0
              refine awp_cond (t := 32) rfl (fun hc6 => ?_) (fun hc6 => ?_)
              · replace h := bite_t h hc6
                refine awp_reg ftCOk [(4, .v (.bool false))] [.row false (.ints .i64 a1_1), .row false (.bools a1_2), .row false (.trips a1_3), .rbox [.v (.int .i64 a0_0), .v (.int .i64 a0_1), .v (.int .i64 a0_2)], .rbox [.v (.int .i64 a1_0), .sl 0, .sl 1, .sl 2], .row true (.ints .i64 y_5), .row true (.bools y_6), .row true (.trips y_7), .row true (.ints .i64 y_9), .row true (.bools y_10), .row true (.trips y_11), .box [.v (.int .i64 y_8), .sl 8, .sl 9, .sl 10], .row true (.ints .i64 y_13), .row true (.bools y_14), .row true (.trips y_15), .box [.v (.int .i64 y_12), .sl 12, .sl 13, .sl 14], .row true (.ints .i64 y_20), .row true (.bools y_21), .row true (.trips y_22), .box [.v (.int .i64 y_19), .sl 16, .sl 17, .sl 18]] ?_
                refine awp_ret ?_
                (try simp only [Thn, InBlk, ↓reduceIte, Nat.reduceEqDiff])
                obtain rfl := Option.some.inj h
                refine ⟨by simp, _, [0, 1, 2], (by simp only [go_sem, Nat.reduceBEq, Nat.reduceLT, Nat.reduceAdd, Nat.reduceLeDiff, Nat.reduceSub, Nat.reduceEqDiff, Int.reduceToNat, reduceCtorEq, ↓reduceIte]; exact rfl), ?_, ?_, ?_, ?_⟩
                · exact fin1
                · simp [selOk, pos]
                · simp
                · exact fin4
              · replace h := bite_f h hc6
                refine awp_skip ?_
                (try simp only [Thn, InBlk, ↓reduceIte, Nat.reduceEqDiff])
                refine hK5 _ _ ?_
                clear hK5
                refine awp_seq fun K8 hK8 => ?_
                replace h := bind_some h
                obtain ⟨⟨y_24, y_25, y_26, y_27⟩, hr0, h⟩ := h
                try dsimp only at h
                replace h := bind_some h
                obtain ⟨y_28, hr1, h⟩ := h
                try dsimp only at h
                refine awp_to [(2, .pp 3 0), (3, .pp 4 0), (6, .pp 11 0), (7, .pp 15 0), (8, .pp 19 0), (37, .v (.bool (!y_28)))] [.row false (.ints .i64 a1_1), .row false (.bools a1_2), .row false (.trips a1_3), .rbox [.v (.int .i64 a0_0), .v (.int .i64 a0_1), .v (.int .i64 a0_2)], .rbox [.v (.int .i64 a1_0), .sl 0, .sl 1, .sl 2], .row true (.ints .i64 y_5), .row true (.bools y_6), .row true (.trips y_7), .row true (.ints .i64 y_9), .row true (.bools y_10), .row true (.trips y_11), .box [.v (.int .i64 y_8), .sl 8, .sl 9, .sl 10], .row true (.ints .i64 y_13), .row true (.bools y_14), .row true (.trips y_15), .box [.v (.int .i64 y_12), .sl 12, .sl 13, .sl 14], .row true (.ints .i64 y_20), .row true (.bools y_21), .row true (.trips y_22), .box [.v (.int .i64 y_19), .sl 16, .sl 17, .sl 18], .row true (.ints .i64 y_25), .row true (.bools y_26), .row true (.trips y_27)] ?_ ?_
                · clear h
                  intro K hK
                  refine awp_drawT mixed ftCOk (.free 1 (.two 0 2 (.one 2 (.one 3 (.one 4 .fin))) (.one 0 (.one 3 (.one 4 .fin))))) (by kernel_rfl) (by simp) ?_
                  simp (maxSteps := 4000000) only [go_sem, Nat.reduceBEq, Nat.reduceLT, Nat.reduceAdd, Nat.reduceLeDiff, Nat.reduceSub, Nat.reduceEqDiff, Int.reduceToNat, reduceCtorEq, ↓reduceIte]
                  repeat' (first | refine And.intro ?_ ?_ | intro hg)
                  all_goals (try simp (disch := omega) only [wrap_fits])
                  all_goals first
                    | (refine hK _ _ ?_; exact Red.auto)
                    | exact trivial
                    | assumption
                    | omega
                    | exact wrap_fits (by omega) (by omega)
                    | (refine OpK_callA (k_laws_toState a1_0 a1_1 a1_2 a1_3 (h := hr0)) [0, 1, 2] [] ?_
                       rintro x Hc' ⟨rfl, rfl⟩ hlen
                       simp (maxSteps := 4000000) only [go_sem, Nat.reduceBEq, Nat.reduceLT, Nat.reduceAdd, Nat.reduceLeDiff, Nat.reduceSub, Nat.reduceEqDiff, Int.reduceToNat, reduceCtorEq, ↓reduceIte]
                       repeat' (first | refine And.intro ?_ ?_ | intro hg)
                       all_goals (try simp (disch := omega) only [wrap_fits])
                       all_goals first
                         | (refine hK _ _ ?_; exact Red.auto)
                         | exact trivial
                         | assumption
                         | omega
                         | exact wrap_fits (by omega) (by omega)
                         | (refine OpK_callA (k_laws_eqState y_12 y_13 y_14 y_15 y_24 y_25 y_26 y_27 (h := hr1)) [12, 13, 14, 20, 21, 22] [] ?_
                            rintro x Hc' ⟨rfl, rfl⟩ hlen
                            simp (maxSteps := 4000000) only [go_sem, Nat.reduceBEq, Nat.reduceLT, Nat.reduceAdd, Nat.reduceLeDiff, Nat.reduceSub, Nat.reduceEqDiff, Int.reduceToNat, reduceCtorEq, ↓reduceIte]
                            repeat' (first | refine And.intro ?_ ?_ | intro hg)
                            all_goals (try simp (disch := omega) only [wrap_fits])
                            all_goals first
                              | (refine hK _ _ ?_; exact Red.auto)
                              | exact trivial
                              | assumption
                              | omega
                              | exact wrap_fits (by omega) (by omega)
                              | (simp (maxSteps := 4000000) only [go_sem, Nat.reduceBEq, Nat.reduceLT, Nat.reduceAdd, Nat.reduceLeDiff, Nat.reduceSub, Nat.reduceEqDiff, Int.reduceToNat, reduceCtorEq, ↓reduceIte]
                                 repeat' (first | refine And.intro ?_ ?_ | intro hg)
                                 all_goals (try simp (disch := omega) only [wrap_fits])
                                 all_goals first | (refine hK _ _ ?_; exact Red.auto) | exact trivial | assumption | omega | exact wrap_fits (by omega) (by omega))
                              | (simp_all; done)
                              | (simp_all; omega))
                         | (simp_all; done)
                         | (simp_all; omega))
                    | (simp_all; done)
                    | (simp_all; omega)
                · clear hr0 hr1
                  refine awp_cond (t := 37) rfl (fun hc9 => ?_) (fun hc9 => ?_)
                  · replace h := bite_t h hc9
                    refine awp_reg ftCOk [(4, .v (.bool false))] [.row false (.ints .i64 a1_1), .row false (.bools a1_2), .row false (.trips a1_3), .rbox [.v (.int .i64 a0_0), .v (.int .i64 a0_1), .v (.int .i64 a0_2)], .rbox [.v (.int .i64 a1_0), .sl 0, .sl 1, .sl 2], .row true (.ints .i64 y_5), .row true (.bools y_6), .row true (.trips y_7), .row true (.ints .i64 y_9), .row true (.bools y_10), .row true (.trips y_11), .box [.v (.int .i64 y_8), .sl 8, .sl 9, .sl 10], .row true (.ints .i64 y_13), .row true (.bools y_14), .row true (.trips y_15), .box [.v (.int .i64 y_12), .sl 12, .sl 13, .sl 14], .row true (.ints .i64 y_20), .row true (.bools y_21), .row true (.trips y_22), .box [.v (.int .i64 y_19), .sl 16, .sl 17, .sl 18], .row true (.ints .i64 y_25), .row true (.bools y_26), .row true (.trips y_27)] ?_
                    refine awp_ret ?_
                    (try simp only [Thn, InBlk, ↓reduceIte, Nat.reduceEqDiff])
                    obtain rfl := Option.some.inj h
                    refine ⟨by simp, _, [0, 1, 2], (by simp only [go_sem, Nat.reduceBEq, Nat.reduceLT, Nat.reduceAdd, Nat.reduceLeDiff, Nat.reduceSub, Nat.reduceEqDiff, Int.reduceToNat, reduceCtorEq, ↓reduceIte]; exact rfl), ?_, ?_, ?_, ?_⟩
                    · exact fin1
                    · simp [selOk, pos]
                    · simp
                    · exact fin4
                  · replace h := bite_f h hc9
                    refine awp_skip ?_
                    (try simp only [Thn, InBlk, ↓reduceIte, Nat.reduceEqDiff])
                    refine hK8 _ _ ?_
                    clear hK8
                    refine awp_reg ftCOk [(2, .pp 3 0), (3, .pp 4 0), (6, .pp 11 0), (7, .pp 15 0), (8, .pp 19 0), (9, .v (.int .i64 1))] [.row false (.ints .i64 a1_1), .row false (.bools a1_2), .row false (.trips a1_3), .rbox [.v (.int .i64 a0_0), .v (.int .i64 a0_1), .v (.int .i64 a0_2)], .rbox [.v (.int .i64 a1_0), .sl 0, .sl 1, .sl 2], .row true (.ints .i64 y_5), .row true (.bools y_6), .row true (.trips y_7), .row true (.ints .i64 y_9), .row true (.bools y_10), .row true (.trips y_11), .box [.v (.int .i64 y_8), .sl 8, .sl 9, .sl 10], .row true (.ints .i64 y_13), .row true (.bools y_14), .row true (.trips y_15), .box [.v (.int .i64 y_12), .sl 12, .sl 13, .sl 14], .row true (.ints .i64 y_20), .row true (.bools y_21), .row true (.trips y_22), .box [.v (.int .i64 y_19), .sl 16, .sl 17, .sl 18], .row true (.ints .i64 y_25), .row true (.bools y_26), .row true (.trips y_27)] ?_
                    replace h := bind_some h
                    obtain ⟨⟨y_29, y_30, y_31, y_32⟩, hr0, h⟩ := h
                    try dsimp only at h
                    refine awp_to [(2, .pp 3 0), (3, .pp 4 0), (6, .pp 11 0), (8, .pp 19 0), (9, .v (.int .i64 y_29))] [.row false (.ints .i64 a1_1), .row false (.bools a1_2), .row false (.trips a1_3), .rbox [.v (.int .i64 a0_0), .v (.int .i64 a0_1), .v (.int .i64 a0_2)], .rbox [.v (.int .i64 a1_0), .sl 0, .sl 1, .sl 2], .row true (.ints .i64 y_5), .row true (.bools y_6), .row true (.trips y_7), .row true (.ints .i64 y_9), .row true (.bools y_10), .row true (.trips y_11), .box [.v (.int .i64 y_8), .sl 8, .sl 9, .sl 10], .row true (.ints .i64 y_30), .row true (.bools y_31), .row true (.trips y_32), .box [.v (.int .i64 y_12), .sl 12, .sl 13, .sl 14], .row true (.ints .i64 y_20), .row true (.bools y_21), .row true (.trips y_22), .box [.v (.int .i64 y_19), .sl 16, .sl 17, .sl 18], .row true (.ints .i64 y_25), .row true (.bools y_26), .row true (.trips y_27)] ?_ ?_
                    · clear h
                      intro K hK
                      refine awp_region ftCOk ?_
                      simp (maxSteps := 4000000) only [go_sem, Nat.reduceBEq, Nat.reduceLT, Nat.reduceAdd, Nat.reduceLeDiff, Nat.reduceSub, Nat.reduceEqDiff, Int.reduceToNat, reduceCtorEq, ↓reduceIte]
                      repeat' (first | refine And.intro ?_ ?_ | intro hg)
                      all_goals (try simp (disch := omega) only [wrap_fits])
                      all_goals first
                        | (refine hK _ _ ?_; exact Red.auto)
                        | exact trivial
                        | assumption
                        | omega
                        | exact wrap_fits (by omega) (by omega)
                        | (refine wpA_callA (k_laws_markState y_12 y_13 y_14 y_15 1 (h := hr0)) [12, 13, 14] [] ?_
                           rintro x Hc' ⟨rfl, rfl⟩ hlen
                           refine vcOps_sound ftCOk ?_
                           simp (maxSteps := 4000000) only [go_sem, Nat.reduceBEq, Nat.reduceLT, Nat.reduceAdd, Nat.reduceLeDiff, Nat.reduceSub, Nat.reduceEqDiff, Int.reduceToNat, reduceCtorEq, ↓reduceIte]
                           repeat' (first | refine And.intro ?_ ?_ | intro hg)
                           all_goals (try simp (disch := omega) only [wrap_fits])
                           all_goals first
                             | (refine hK _ _ ?_; exact Red.auto)
                             | exact trivial
                             | assumption
                             | omega
                             | exact wrap_fits (by omega) (by omega)
                             | (simp_all; done)
                             | (simp_all; omega))
                        | (simp_all; done)
                        | (simp_all; omega)
                    · clear hr0
                      refine awp_seq fun K11 hK11 => ?_
                      replace h := bind_some h
                      obtain ⟨y_33, hr0, h⟩ := h
                      try dsimp only at h
                      refine awp_to [(2, .pp 3 0), (3, .pp 4 0), (6, .pp 11 0), (8, .pp 19 0), (48, .v (.bool ((decide (y_29 < 0)) || (!y_33))))] [.row false (.ints .i64 a1_1), .row false (.bools a1_2), .row false (.trips a1_3), .rbox [.v (.int .i64 a0_0), .v (.int .i64 a0_1), .v (.int .i64 a0_2)], .rbox [.v (.int .i64 a1_0), .sl 0, .sl 1, .sl 2], .row true (.ints .i64 y_5), .row true (.bools y_6), .row true (.trips y_7), .row true (.ints .i64 y_9), .row true (.bools y_10), .row true (.trips y_11), .box [.v (.int .i64 y_8), .sl 8, .sl 9, .sl 10], .row true (.ints .i64 y_30), .row true (.bools y_31), .row true (.trips y_32), .box [.v (.int .i64 y_12), .sl 12, .sl 13, .sl 14], .row true (.ints .i64 y_20), .row true (.bools y_21), .row true (.trips y_22), .box [.v (.int .i64 y_19), .sl 16, .sl 17, .sl 18], .row true (.ints .i64 y_25), .row true (.bools y_26), .row true (.trips y_27)] ?_ ?_
                      · clear h
                        intro K hK
                        refine awp_region ftCOk ?_
                        simp (maxSteps := 4000000) only [go_sem, Nat.reduceBEq, Nat.reduceLT, Nat.reduceAdd, Nat.reduceLeDiff, Nat.reduceSub, Nat.reduceEqDiff, Int.reduceToNat, reduceCtorEq, ↓reduceIte]
                        repeat' (first | refine And.intro ?_ ?_ | intro hg)
                        all_goals (try simp (disch := omega) only [wrap_fits])
                        all_goals first
                          | (refine hK _ _ ?_; exact Red.auto)
                          | exact trivial
                          | assumption
                          | omega
                          | exact wrap_fits (by omega) (by omega)
                          | (refine wpA_guard rfl rfl ?_
                             refine wpA_callA (k_laws_eqState y_19 y_20 y_21 y_22 y_8 y_9 y_10 y_11 (h := (bite_t hr0 (by rw [Bool.not_eq_true']; exact (by first | assumption | (simp only [*, Bool.false_or, Bool.true_or, Bool.or_false, Bool.or_true, Bool.false_and, Bool.true_and, Bool.and_false, Bool.and_true, Bool.not_true, Bool.not_false, beq_self_eq_true]; done) | (simp_all; done)))))) [16, 17, 18, 8, 9, 10] [] ?_
                             rintro x Hc' ⟨rfl, rfl⟩ hlen
                             refine vcOps_sound ftCOk ?_
                             simp (maxSteps := 4000000) only [go_sem, Nat.reduceBEq, Nat.reduceLT, Nat.reduceAdd, Nat.reduceLeDiff, Nat.reduceSub, Nat.reduceEqDiff, Int.reduceToNat, reduceCtorEq, ↓reduceIte]
                             repeat' (first | refine And.intro ?_ ?_ | intro hg)
                             all_goals (try simp (disch := omega) only [wrap_fits])
                             all_goals first
                               | (refine hK _ _ ?_; exact Red.auto)
                               | exact trivial
                               | assumption
                               | omega
                               | exact wrap_fits (by omega) (by omega)
                               | (simp_all; done)
                               | (simp_all; omega))
                          | (simp_all; done)
                          | (simp_all; omega)
                      · clear hr0
                        refine awp_cond (t := 48) rfl (fun hc12 => ?_) (fun hc12 => ?_)
                        · replace h := bite_t h hc12
                          refine awp_reg ftCOk [(4, .v (.bool false))] [.row false (.ints .i64 a1_1), .row false (.bools a1_2), .row false (.trips a1_3), .rbox [.v (.int .i64 a0_0), .v (.int .i64 a0_1), .v (.int .i64 a0_2)], .rbox [.v (.int .i64 a1_0), .sl 0, .sl 1, .sl 2], .row true (.ints .i64 y_5), .row true (.bools y_6), .row true (.trips y_7), .row true (.ints .i64 y_9), .row true (.bools y_10), .row true (.trips y_11), .box [.v (.int .i64 y_8), .sl 8, .sl 9, .sl 10], .row true (.ints .i64 y_30), .row true (.bools y_31), .row true (.trips y_32), .box [.v (.int .i64 y_12), .sl 12, .sl 13, .sl 14], .row true (.ints .i64 y_20), .row true (.bools y_21), .row true (.trips y_22), .box [.v (.int .i64 y_19), .sl 16, .sl 17, .sl 18], .row true (.ints .i64 y_25), .row true (.bools y_26), .row true (.trips y_27)] ?_
                          refine awp_ret ?_
                          (try simp only [Thn, InBlk, ↓reduceIte, Nat.reduceEqDiff])
                          obtain rfl := Option.some.inj h
                          refine ⟨by simp, _, [0, 1, 2], (by simp only [go_sem, Nat.reduceBEq, Nat.reduceLT, Nat.reduceAdd, Nat.reduceLeDiff, Nat.reduceSub, Nat.reduceEqDiff, Int.reduceToNat, reduceCtorEq, ↓reduceIte]; exact rfl), ?_, ?_, ?_, ?_⟩
                          · exact fin1
                          · simp [selOk, pos]
                          · simp
                          · exact fin4
                        · replace h := bite_f h hc12
                          refine awp_skip ?_
                          (try simp only [Thn, InBlk, ↓reduceIte, Nat.reduceEqDiff])
                          refine hK11 _ _ ?_
                          clear hK11
                          refine awp_reg ftCOk [(2, .pp 3 0), (3, .pp 4 0), (6, .pp 11 0), (8, .pp 19 0), (10, .v (.int .i64 1))] [.row false (.ints .i64 a1_1), .row false (.bools a1_2), .row false (.trips a1_3), .rbox [.v (.int .i64 a0_0), .v (.int .i64 a0_1), .v (.int .i64 a0_2)], .rbox [.v (.int .i64 a1_0), .sl 0, .sl 1, .sl 2], .row true (.ints .i64 y_5), .row true (.bools y_6), .row true (.trips y_7), .row true (.ints .i64 y_9), .row true (.bools y_10), .row true (.trips y_11), .box [.v (.int .i64 y_8), .sl 8, .sl 9, .sl 10], .row true (.ints .i64 y_30), .row true (.bools y_31), .row true (.trips y_32), .box [.v (.int .i64 y_12), .sl 12, .sl 13, .sl 14], .row true (.ints .i64 y_20), .row true (.bools y_21), .row true (.trips y_22), .box [.v (.int .i64 y_19), .sl 16, .sl 17, .sl 18], .row true (.ints .i64 y_25), .row true (.bools y_26), .row true (.trips y_27)] ?_
                          replace h := bind_some h
                          obtain ⟨⟨y_34, y_35, y_36, y_37⟩, hr0, h⟩ := h
                          try dsimp only at h
                          refine awp_to [(2, .pp 3 0), (3, .pp 4 0), (6, .pp 11 0), (8, .pp 19 0), (10, .v (.int .i64 y_34))] [.row false (.ints .i64 a1_1), .row false (.bools a1_2), .row false (.trips a1_3), .rbox [.v (.int .i64 a0_0), .v (.int .i64 a0_1), .v (.int .i64 a0_2)], .rbox [.v (.int .i64 a1_0), .sl 0, .sl 1, .sl 2], .row true (.ints .i64 y_5), .row true (.bools y_6), .row true (.trips y_7), .row true (.ints .i64 y_9), .row true (.bools y_10), .row true (.trips y_11), .box [.v (.int .i64 y_8), .sl 8, .sl 9, .sl 10], .row true (.ints .i64 y_30), .row true (.bools y_31), .row true (.trips y_32), .box [.v (.int .i64 y_12), .sl 12, .sl 13, .sl 14], .row true (.ints .i64 y_35), .row true (.bools y_36), .row true (.trips y_37), .box [.v (.int .i64 y_19), .sl 16, .sl 17, .sl 18], .row true (.ints .i64 y_25), .row true (.bools y_26), .row true (.trips y_27)] ?_ ?_
                          · clear h
                            intro K hK
                            refine awp_region ftCOk ?_
                            simp (maxSteps := 4000000) only [go_sem, Nat.reduceBEq, Nat.reduceLT, Nat.reduceAdd, Nat.reduceLeDiff, Nat.reduceSub, Nat.reduceEqDiff, Int.reduceToNat, reduceCtorEq, ↓reduceIte]
                            repeat' (first | refine And.intro ?_ ?_ | intro hg)
                            all_goals (try simp (disch := omega) only [wrap_fits])
                            all_goals first
                              | (refine hK _ _ ?_; exact Red.auto)
                              | exact trivial
                              | assumption
                              | omega
                              | exact wrap_fits (by omega) (by omega)
                              | (refine wpA_callA (k_laws_markState y_19 y_20 y_21 y_22 1 (h := hr0)) [16, 17, 18] [] ?_
                                 rintro x Hc' ⟨rfl, rfl⟩ hlen
                                 refine vcOps_sound ftCOk ?_
                                 simp (maxSteps := 4000000) only [go_sem, Nat.reduceBEq, Nat.reduceLT, Nat.reduceAdd, Nat.reduceLeDiff, Nat.reduceSub, Nat.reduceEqDiff, Int.reduceToNat, reduceCtorEq, ↓reduceIte]
                                 repeat' (first | refine And.intro ?_ ?_ | intro hg)
                                 all_goals (try simp (disch := omega) only [wrap_fits])
                                 all_goals first
                                   | (refine hK _ _ ?_; exact Red.auto)
                                   | exact trivial
                                   | assumption
                                   | omega
                                   | exact wrap_fits (by omega) (by omega)
                                   | (simp_all; done)
                                   | (simp_all; omega))
                              | (simp_all; done)
                              | (simp_all; omega)
                          · clear hr0
                            refine awp_reg ftCOk [(2, .pp 3 0), (3, .pp 4 0), (6, .pp 11 0), (8, .pp 19 0), (10, .v (.int .i64 y_34)), (11, .v (.int .i64 1))] [.row false (.ints .i64 a1_1), .row false (.bools a1_2), .row false (.trips a1_3), .rbox [.v (.int .i64 a0_0), .v (.int .i64 a0_1), .v (.int .i64 a0_2)], .rbox [.v (.int .i64 a1_0), .sl 0, .sl 1, .sl 2], .row true (.ints .i64 y_5), .row true (.bools y_6), .row true (.trips y_7), .row true (.ints .i64 y_9), .row true (.bools y_10), .row true (.trips y_11), .box [.v (.int .i64 y_8), .sl 8, .sl 9, .sl 10], .row true (.ints .i64 y_30), .row true (.bools y_31), .row true (.trips y_32), .box [.v (.int .i64 y_12), .sl 12, .sl 13, .sl 14], .row true (.ints .i64 y_35), .row true (.bools y_36), .row true (.trips y_37), .box [.v (.int .i64 y_19), .sl 16, .sl 17, .sl 18], .row true (.ints .i64 y_25), .row true (.bools y_26), .row true (.trips y_27)] ?_
                            replace h := bind_some h
                            obtain ⟨y_38, hr0, h⟩ := h
                            try dsimp only at h
                            refine awp_to [(2, .pp 3 0), (3, .pp 4 0), (6, .pp 11 0), (8, .pp 19 0), (10, .v (.int .i64 y_34)), (11, .v (.int .i64 y_38))] [.row false (.ints .i64 a1_1), .row false (.bools a1_2), .row false (.trips a1_3), .rbox [.v (.int .i64 a0_0), .v (.int .i64 a0_1), .v (.int .i64 a0_2)], .rbox [.v (.int .i64 a1_0), .sl 0, .sl 1, .sl 2], .row true (.ints .i64 y_5), .row true (.bools y_6), .row true (.trips y_7), .row true (.ints .i64 y_9), .row true (.bools y_10), .row true (.trips y_11), .box [.v (.int .i64 y_8), .sl 8, .sl 9, .sl 10], .row true (.ints .i64 y_30), .row true (.bools y_31), .row true (.trips y_32), .box [.v (.int .i64 y_12), .sl 12, .sl 13, .sl 14], .row true (.ints .i64 y_35), .row true (.bools y_36), .row true (.trips y_37), .box [.v (.int .i64 y_19), .sl 16, .sl 17, .sl 18], .row true (.ints .i64 y_25), .row true (.bools y_26), .row true (.trips y_27)] ?_ ?_
                            · clear h
                              intro K hK
                              refine awp_region ftCOk ?_
                              simp (maxSteps := 4000000) only [go_sem, Nat.reduceBEq, Nat.reduceLT, Nat.reduceAdd, Nat.reduceLeDiff, Nat.reduceSub, Nat.reduceEqDiff, Int.reduceToNat, reduceCtorEq, ↓reduceIte]
                              repeat' (first | refine And.intro ?_ ?_ | intro hg)
                              all_goals (try simp (disch := omega) only [wrap_fits])
                              all_goals first
                                | (refine hK _ _ ?_; exact Red.auto)
                                | exact trivial
                                | assumption
                                | omega
                                | exact wrap_fits (by omega) (by omega)
                                | (refine wpA_callA (k_laws_heldState y_19 y_35 y_36 y_37 1 (h := hr0)) [16, 17, 18] [] ?_
                                   rintro x Hc' ⟨rfl, rfl⟩ hlen
                                   refine vcOps_sound ftCOk ?_
                                   simp (maxSteps := 4000000) only [go_sem, Nat.reduceBEq, Nat.reduceLT, Nat.reduceAdd, Nat.reduceLeDiff, Nat.reduceSub, Nat.reduceEqDiff, Int.reduceToNat, reduceCtorEq, ↓reduceIte]
                                   repeat' (first | refine And.intro ?_ ?_ | intro hg)
                                   all_goals (try simp (disch := omega) only [wrap_fits])
                                   all_goals first
                                     | (refine hK _ _ ?_; exact Red.auto)
                                     | exact trivial
                                     | assumption
                                     | omega
                                     | exact wrap_fits (by omega) (by omega)
                                     | (simp_all; done)
                                     | (simp_all; omega))
                                | (simp_all; done)
                                | (simp_all; omega)
                            · clear hr0
                              refine awp_seq fun K14 hK14 => ?_
                              refine awp_reg ftCOk [(2, .pp 3 0), (3, .pp 4 0), (6, .pp 11 0), (8, .pp 19 0), (10, .v (.int .i64 y_34)), (11, .v (.int .i64 y_38)), (56, .v (.bool (decide (y_38 < 0))))] [.row false (.ints .i64 a1_1), .row false (.bools a1_2), .row false (.trips a1_3), .rbox [.v (.int .i64 a0_0), .v (.int .i64 a0_1), .v (.int .i64 a0_2)], .rbox [.v (.int .i64 a1_0), .sl 0, .sl 1, .sl 2], .row true (.ints .i64 y_5), .row true (.bools y_6), .row true (.trips y_7), .row true (.ints .i64 y_9), .row true (.bools y_10), .row true (.trips y_11), .box [.v (.int .i64 y_8), .sl 8, .sl 9, .sl 10], .row true (.ints .i64 y_30), .row true (.bools y_31), .row true (.trips y_32), .box [.v (.int .i64 y_12), .sl 12, .sl 13, .sl 14], .row true (.ints .i64 y_35), .row true (.bools y_36), .row true (.trips y_37), .box [.v (.int .i64 y_19), .sl 16, .sl 17, .sl 18], .row true (.ints .i64 y_25), .row true (.bools y_26), .row true (.trips y_27)] ?_
                              refine awp_cond (t := 56) rfl (fun hc15 => ?_) (fun hc15 => ?_)
                              · replace h := bite_t h hc15
                                refine awp_reg ftCOk [(4, .v (.bool false))] [.row false (.ints .i64 a1_1), .row false (.bools a1_2), .row false (.trips a1_3), .rbox [.v (.int .i64 a0_0), .v (.int .i64 a0_1), .v (.int .i64 a0_2)], .rbox [.v (.int .i64 a1_0), .sl 0, .sl 1, .sl 2], .row true (.ints .i64 y_5), .row true (.bools y_6), .row true (.trips y_7), .row true (.ints .i64 y_9), .row true (.bools y_10), .row true (.trips y_11), .box [.v (.int .i64 y_8), .sl 8, .sl 9, .sl 10], .row true (.ints .i64 y_30), .row true (.bools y_31), .row true (.trips y_32), .box [.v (.int .i64 y_12), .sl 12, .sl 13, .sl 14], .row true (.ints .i64 y_35), .row true (.bools y_36), .row true (.trips y_37), .box [.v (.int .i64 y_19), .sl 16, .sl 17, .sl 18], .row true (.ints .i64 y_25), .row true (.bools y_26), .row true (.trips y_27)] ?_
                                refine awp_ret ?_
                                (try simp only [Thn, InBlk, ↓reduceIte, Nat.reduceEqDiff])
                                obtain rfl := Option.some.inj h
                                refine ⟨by simp, _, [0, 1, 2], (by simp only [go_sem, Nat.reduceBEq, Nat.reduceLT, Nat.reduceAdd, Nat.reduceLeDiff, Nat.reduceSub, Nat.reduceEqDiff, Int.reduceToNat, reduceCtorEq, ↓reduceIte]; exact rfl), ?_, ?_, ?_, ?_⟩
                                · exact fin1
                                · simp [selOk, pos]
                                · simp
                                · exact fin4
                              · replace h := bite_f h hc15
                                refine awp_skip ?_
                                (try simp only [Thn, InBlk, ↓reduceIte, Nat.reduceEqDiff])
                                refine hK14 _ _ ?_
                                clear hK14
                                refine awp_seq fun K17 hK17 => ?_
                                refine awp_reg ftCOk [(2, .pp 3 0), (3, .pp 4 0), (6, .pp 11 0), (8, .pp 19 0), (10, .v (.int .i64 y_34)), (59, .v (.bool (y_38 != y_34)))] [.row false (.ints .i64 a1_1), .row false (.bools a1_2), .row false (.trips a1_3), .rbox [.v (.int .i64 a0_0), .v (.int .i64 a0_1), .v (.int .i64 a0_2)], .rbox [.v (.int .i64 a1_0), .sl 0, .sl 1, .sl 2], .row true (.ints .i64 y_5), .row true (.bools y_6), .row true (.trips y_7), .row true (.ints .i64 y_9), .row true (.bools y_10), .row true (.trips y_11), .box [.v (.int .i64 y_8), .sl 8, .sl 9, .sl 10], .row true (.ints .i64 y_30), .row true (.bools y_31), .row true (.trips y_32), .box [.v (.int .i64 y_12), .sl 12, .sl 13, .sl 14], .row true (.ints .i64 y_35), .row true (.bools y_36), .row true (.trips y_37), .box [.v (.int .i64 y_19), .sl 16, .sl 17, .sl 18], .row true (.ints .i64 y_25), .row true (.bools y_26), .row true (.trips y_27)] ?_
                                refine awp_cond (t := 59) rfl (fun hc18 => ?_) (fun hc18 => ?_)
                                · replace h := bite_t h hc18
                                  refine awp_reg ftCOk [(4, .v (.bool false))] [.row false (.ints .i64 a1_1), .row false (.bools a1_2), .row false (.trips a1_3), .rbox [.v (.int .i64 a0_0), .v (.int .i64 a0_1), .v (.int .i64 a0_2)], .rbox [.v (.int .i64 a1_0), .sl 0, .sl 1, .sl 2], .row true (.ints .i64 y_5), .row true (.bools y_6), .row true (.trips y_7), .row true (.ints .i64 y_9), .row true (.bools y_10), .row true (.trips y_11), .box [.v (.int .i64 y_8), .sl 8, .sl 9, .sl 10], .row true (.ints .i64 y_30), .row true (.bools y_31), .row true (.trips y_32), .box [.v (.int .i64 y_12), .sl 12, .sl 13, .sl 14], .row true (.ints .i64 y_35), .row true (.bools y_36), .row true (.trips y_37), .box [.v (.int .i64 y_19), .sl 16, .sl 17, .sl 18], .row true (.ints .i64 y_25), .row true (.bools y_26), .row true (.trips y_27)] ?_
                                  refine awp_ret ?_
                                  (try simp only [Thn, InBlk, ↓reduceIte, Nat.reduceEqDiff])
                                  obtain rfl := Option.some.inj h
                                  refine ⟨by simp, _, [0, 1, 2], (by simp only [go_sem, Nat.reduceBEq, Nat.reduceLT, Nat.reduceAdd, Nat.reduceLeDiff, Nat.reduceSub, Nat.reduceEqDiff, Int.reduceToNat, reduceCtorEq, ↓reduceIte]; exact rfl), ?_, ?_, ?_, ?_⟩
                                  · exact fin1
                                  · simp [selOk, pos]
                                  · simp
                                  · exact fin4
                                · replace h := bite_f h hc18
                                  refine awp_skip ?_
                                  (try simp only [Thn, InBlk, ↓reduceIte, Nat.reduceEqDiff])
                                  refine hK17 _ _ ?_
                                  clear hK17
                                  replace h := bind_some h
                                  obtain ⟨⟨y_39, y_40, y_41⟩, hr0, h⟩ := h
                                  try dsimp only at h
                                  replace h := bind_some h
                                  obtain ⟨⟨y_42, y_43, y_44, y_45⟩, hr1, h⟩ := h
                                  try dsimp only at h
                                  replace h := bind_some h
                                  obtain ⟨⟨y_46, y_47, y_48, y_49⟩, hr2, h⟩ := h
                                  try dsimp only at h
                                  refine awp_to [(6, .pp 11 0), (8, .pp 19 0), (10, .v (.int .i64 y_34)), (12, .pp 29 0)] [.row false (.ints .i64 a1_1), .row false (.bools a1_2), .row false (.trips a1_3), .rbox [.v (.int .i64 a0_0), .v (.int .i64 a0_1), .v (.int .i64 a0_2)], .rbox [.v (.int .i64 a1_0), .sl 0, .sl 1, .sl 2], .row true (.ints .i64 y_5), .row true (.bools y_6), .row true (.trips y_7), .row true (.ints .i64 y_9), .row true (.bools y_10), .row true (.trips y_11), .box [.v (.int .i64 y_8), .sl 8, .sl 9, .sl 10], .row true (.ints .i64 y_30), .row true (.bools y_31), .row true (.trips y_32), .box [.v (.int .i64 y_12), .sl 12, .sl 13, .sl 14], .row true (.ints .i64 y_35), .row true (.bools y_36), .row true (.trips y_37), .box [.v (.int .i64 y_19), .sl 16, .sl 17, .sl 18], .row true (.ints .i64 y_25), .row true (.bools y_26), .row true (.trips y_27), .row true (.ints .i64 y_43), .row true (.bools y_44), .row true (.trips y_45), .row true (.ints .i64 y_47), .row true (.bools y_48), .row true (.trips y_49), .box [.v (.int .i64 y_46), .sl 26, .sl 27, .sl 28]] ?_ ?_
                                  · clear h
                                    intro K hK
                                    refine awp_drawL [0, 1, 2, 3, 4, 5, 6, 7, 8, 9, 10, 11, 12, 13, 14, 15, 16, 17, 18, 19, 20, 21, 22] [0, 2] 5 #[true, false, true, false, false, false, false] mixed ftCOk (by kernel_rfl) (by first | rfl | kernel_rfl) (by rfl) (by simp) fun L hL => ?_
                                    have n5 : L 0 #[true, true, true, true, true, true, true] [(2, .pp 3 0), (3, .pp 4 0), (6, .pp 11 0), (8, .pp 19 0), (10, .v (.int .i64 y_34)), (12, .pp 29 0), (59, .v (.bool (y_38 != y_34))), (60, .agg [.v (.int .i64 a0_0), .v (.int .i64 a0_1), .v (.int .i64 a0_2)]), (61, .agg [.v (.int .i64 y_39), .v (.int .i64 y_40), .v (.int .i64 y_41)]), (62, .agg [.v (.int .i64 a1_0), .sl 0, .sl 1, .sl 2]), (63, .agg [.v (.int .i64 y_42), .sl 23, .sl 24, .sl 25]), (64, .agg [.v (.int .i64 y_46), .sl 26, .sl 27, .sl 28])] [.row false (.ints .i64 a1_1), .row false (.bools a1_2), .row false (.trips a1_3), .rbox [.v (.int .i64 a0_0), .v (.int .i64 a0_1), .v (.int .i64 a0_2)], .rbox [.v (.int .i64 a1_0), .sl 0, .sl 1, .sl 2], .row true (.ints .i64 y_5), .row true (.bools y_6), .row true (.trips y_7), .row true (.ints .i64 y_9), .row true (.bools y_10), .row true (.trips y_11), .box [.v (.int .i64 y_8), .sl 8, .sl 9, .sl 10], .row true (.ints .i64 y_30), .row true (.bools y_31), .row true (.trips y_32), .box [.v (.int .i64 y_12), .sl 12, .sl 13, .sl 14], .row true (.ints .i64 y_35), .row true (.bools y_36), .row true (.trips y_37), .box [.v (.int .i64 y_19), .sl 16, .sl 17, .sl 18], .row true (.ints .i64 y_25), .row true (.bools y_26), .row true (.trips y_27), .row true (.ints .i64 y_43), .row true (.bools y_44), .row true (.trips y_45), .row true (.ints .i64 y_47), .row true (.bools y_48), .row true (.trips y_49), .box [.v (.int .i64 y_46), .sl 26, .sl 27, .sl 28]] := by
                                      exact hL.fin (by kernel_rfl) (hK _ _ Red.auto)
                                    have n4 : L 1 #[true, true, true, true, true, true, false] [(2, .pp 3 0), (3, .pp 4 0), (6, .pp 11 0), (8, .pp 19 0), (10, .v (.int .i64 y_34)), (12, .pp 29 0), (59, .v (.bool (y_38 != y_34))), (60, .agg [.v (.int .i64 a0_0), .v (.int .i64 a0_1), .v (.int .i64 a0_2)]), (61, .agg [.v (.int .i64 y_39), .v (.int .i64 y_40), .v (.int .i64 y_41)]), (62, .agg [.v (.int .i64 a1_0), .sl 0, .sl 1, .sl 2]), (63, .agg [.v (.int .i64 y_42), .sl 23, .sl 24, .sl 25]), (64, .agg [.v (.int .i64 y_46), .sl 26, .sl 27, .sl 28])] [.row false (.ints .i64 a1_1), .row false (.bools a1_2), .row false (.trips a1_3), .rbox [.v (.int .i64 a0_0), .v (.int .i64 a0_1), .v (.int .i64 a0_2)], .rbox [.v (.int .i64 a1_0), .sl 0, .sl 1, .sl 2], .row true (.ints .i64 y_5), .row true (.bools y_6), .row true (.trips y_7), .row true (.ints .i64 y_9), .row true (.bools y_10), .row true (.trips y_11), .box [.v (.int .i64 y_8), .sl 8, .sl 9, .sl 10], .row true (.ints .i64 y_30), .row true (.bools y_31), .row true (.trips y_32), .box [.v (.int .i64 y_12), .sl 12, .sl 13, .sl 14], .row true (.ints .i64 y_35), .row true (.bools y_36), .row true (.trips y_37), .box [.v (.int .i64 y_19), .sl 16, .sl 17, .sl 18], .row true (.ints .i64 y_25), .row true (.bools y_26), .row true (.trips y_27), .row true (.ints .i64 y_43), .row true (.bools y_44), .row true (.trips y_45), .row true (.ints .i64 y_47), .row true (.bools y_48), .row true (.trips y_49), .box [.v (.int .i64 0), .v (.slice none 0 0), .v (.slice none 0 0), .v (.slice none 0 0)]] := by
                                      refine hL.step [(6, [], 0, #[true, true, true, true, true, true, true])] (by kernel_rfl) ⟨?_, trivial⟩
                                      · exact hL.edge n5
                                    have n3 : L 2 #[true, true, true, true, true, false, false] [(2, .pp 3 0), (3, .pp 4 0), (6, .pp 11 0), (8, .pp 19 0), (10, .v (.int .i64 y_34)), (59, .v (.bool (y_38 != y_34))), (60, .agg [.v (.int .i64 a0_0), .v (.int .i64 a0_1), .v (.int .i64 a0_2)]), (61, .agg [.v (.int .i64 y_39), .v (.int .i64 y_40), .v (.int .i64 y_41)]), (62, .agg [.v (.int .i64 a1_0), .sl 0, .sl 1, .sl 2]), (63, .agg [.v (.int .i64 y_42), .sl 23, .sl 24, .sl 25]), (64, .agg [.v (.int .i64 y_46), .sl 26, .sl 27, .sl 28])] [.row false (.ints .i64 a1_1), .row false (.bools a1_2), .row false (.trips a1_3), .rbox [.v (.int .i64 a0_0), .v (.int .i64 a0_1), .v (.int .i64 a0_2)], .rbox [.v (.int .i64 a1_0), .sl 0, .sl 1, .sl 2], .row true (.ints .i64 y_5), .row true (.bools y_6), .row true (.trips y_7), .row true (.ints .i64 y_9), .row true (.bools y_10), .row true (.trips y_11), .box [.v (.int .i64 y_8), .sl 8, .sl 9, .sl 10], .row true (.ints .i64 y_30), .row true (.bools y_31), .row true (.trips y_32), .box [.v (.int .i64 y_12), .sl 12, .sl 13, .sl 14], .row true (.ints .i64 y_35), .row true (.bools y_36), .row true (.trips y_37), .box [.v (.int .i64 y_19), .sl 16, .sl 17, .sl 18], .row true (.ints .i64 y_25), .row true (.bools y_26), .row true (.trips y_27), .row true (.ints .i64 y_43), .row true (.bools y_44), .row true (.trips y_45), .row true (.ints .i64 y_47), .row true (.bools y_48), .row true (.trips y_49)] := by
                                      refine hL.step [(5, [], 1, #[true, true, true, true, true, true, false])] (by kernel_rfl) ⟨?_, trivial⟩
                                      · exact hL.edge n4
                                    have n6 : L 2 #[true, true, true, true, false, true, false] [(2, .pp 3 0), (3, .pp 4 0), (6, .pp 11 0), (8, .pp 19 0), (10, .v (.int .i64 y_34)), (12, .pp 26 0), (59, .v (.bool (y_38 != y_34))), (60, .agg [.v (.int .i64 a0_0), .v (.int .i64 a0_1), .v (.int .i64 a0_2)]), (61, .agg [.v (.int .i64 y_39), .v (.int .i64 y_40), .v (.int .i64 y_41)]), (62, .agg [.v (.int .i64 a1_0), .sl 0, .sl 1, .sl 2]), (63, .agg [.v (.int .i64 y_42), .sl 23, .sl 24, .sl 25])] [.row false (.ints .i64 a1_1), .row false (.bools a1_2), .row false (.trips a1_3), .rbox [.v (.int .i64 a0_0), .v (.int .i64 a0_1), .v (.int .i64 a0_2)], .rbox [.v (.int .i64 a1_0), .sl 0, .sl 1, .sl 2], .row true (.ints .i64 y_5), .row true (.bools y_6), .row true (.trips y_7), .row true (.ints .i64 y_9), .row true (.bools y_10), .row true (.trips y_11), .box [.v (.int .i64 y_8), .sl 8, .sl 9, .sl 10], .row true (.ints .i64 y_30), .row true (.bools y_31), .row true (.trips y_32), .box [.v (.int .i64 y_12), .sl 12, .sl 13, .sl 14], .row true (.ints .i64 y_35), .row true (.bools y_36), .row true (.trips y_37), .box [.v (.int .i64 y_19), .sl 16, .sl 17, .sl 18], .row true (.ints .i64 y_25), .row true (.bools y_26), .row true (.trips y_27), .row true (.ints .i64 y_43), .row true (.bools y_44), .row true (.trips y_45), .box [.v (.int .i64 0), .v (.slice none 0 0), .v (.slice none 0 0), .v (.slice none 0 0)]] := by
                                      refine hL.step [(4, [], 1, #[true, true, true, true, true, true, false])] (by kernel_rfl) ⟨?_, trivial⟩
                                      · simp (maxSteps := 4000000) only [go_sem, Nat.reduceBEq, Nat.reduceLT, Nat.reduceAdd, Nat.reduceLeDiff, Nat.reduceSub, Nat.reduceEqDiff, Int.reduceToNat, reduceCtorEq, ↓reduceIte]
                                        repeat' (first | refine And.intro ?_ ?_ | intro hg)
                                        all_goals (try simp (disch := omega) only [wrap_fits])
                                        all_goals first
                                          | (refine hL.red ?_ n4; exact Red.selA [0, 1, 2, 3, 4, 5, 6, 7, 8, 9, 10, 11, 12, 13, 14, 15, 16, 17, 18, 19, 20, 21, 22, 23, 24, 25, 27, 28, 29, 26] Red.auto)
                                          | exact trivial
                                          | assumption
                                          | omega
                                          | exact wrap_fits (by omega) (by omega)
                                          | (refine OpK_callA (k_impl_CombineState y_39 y_40 y_41 y_42 y_43 y_44 y_45 (h := hr2)) [23, 24, 25] [] ?_
                                             rintro x Hc' ⟨rfl, rfl⟩ hlen
                                             simp (maxSteps := 4000000) only [go_sem, Nat.reduceBEq, Nat.reduceLT, Nat.reduceAdd, Nat.reduceLeDiff, Nat.reduceSub, Nat.reduceEqDiff, Int.reduceToNat, reduceCtorEq, ↓reduceIte]
                                             repeat' (first | refine And.intro ?_ ?_ | intro hg)
                                             all_goals (try simp (disch := omega) only [wrap_fits])
                                             all_goals first
                                               | (refine hL.red ?_ n4; exact Red.selA [0, 1, 2, 3, 4, 5, 6, 7, 8, 9, 10, 11, 12, 13, 14, 15, 16, 17, 18, 19, 20, 21, 22, 23, 24, 25, 27, 28, 29, 26] Red.auto)
                                               | exact trivial
                                               | assumption
                                               | omega
                                               | exact wrap_fits (by omega) (by omega)
                                               | (simp_all; done)
                                               | (simp_all; omega))
                                          | (simp (maxSteps := 4000000) only [go_sem, Nat.reduceBEq, Nat.reduceLT, Nat.reduceAdd, Nat.reduceLeDiff, Nat.reduceSub, Nat.reduceEqDiff, Int.reduceToNat, reduceCtorEq, ↓reduceIte]
                                             repeat' (first | refine And.intro ?_ ?_ | intro hg)
                                             all_goals (try simp (disch := omega) only [wrap_fits])
                                             all_goals first | (refine hL.red ?_ n4; exact Red.selA [0, 1, 2, 3, 4, 5, 6, 7, 8, 9, 10, 11, 12, 13, 14, 15, 16, 17, 18, 19, 20, 21, 22, 23, 24, 25, 27, 28, 29, 26] Red.auto) | exact trivial | assumption | omega | exact wrap_fits (by omega) (by omega))
                                          | (simp_all; done)
                                          | (simp_all; omega)
                                    have n2 : L 3 #[true, true, true, true, false, false, false] [(2, .pp 3 0), (3, .pp 4 0), (6, .pp 11 0), (8, .pp 19 0), (10, .v (.int .i64 y_34)), (59, .v (.bool (y_38 != y_34))), (60, .agg [.v (.int .i64 a0_0), .v (.int .i64 a0_1), .v (.int .i64 a0_2)]), (61, .agg [.v (.int .i64 y_39), .v (.int .i64 y_40), .v (.int .i64 y_41)]), (62, .agg [.v (.int .i64 a1_0), .sl 0, .sl 1, .sl 2]), (63, .agg [.v (.int .i64 y_42), .sl 23, .sl 24, .sl 25])] [.row false (.ints .i64 a1_1), .row false (.bools a1_2), .row false (.trips a1_3), .rbox [.v (.int .i64 a0_0), .v (.int .i64 a0_1), .v (.int .i64 a0_2)], .rbox [.v (.int .i64 a1_0), .sl 0, .sl 1, .sl 2], .row true (.ints .i64 y_5), .row true (.bools y_6), .row true (.trips y_7), .row true (.ints .i64 y_9), .row true (.bools y_10), .row true (.trips y_11), .box [.v (.int .i64 y_8), .sl 8, .sl 9, .sl 10], .row true (.ints .i64 y_30), .row true (.bools y_31), .row true (.trips y_32), .box [.v (.int .i64 y_12), .sl 12, .sl 13, .sl 14], .row true (.ints .i64 y_35), .row true (.bools y_36), .row true (.trips y_37), .box [.v (.int .i64 y_19), .sl 16, .sl 17, .sl 18], .row true (.ints .i64 y_25), .row true (.bools y_26), .row true (.trips y_27), .row true (.ints .i64 y_43), .row true (.bools y_44), .row true (.trips y_45)] := by
                                      refine hL.step [(4, [], 2, #[true, true, true, true, true, false, false]), (5, [], 2, #[true, true, true, true, false, true, false])] (by kernel_rfl) ⟨?_, ?_, trivial⟩
                                      · simp (maxSteps := 4000000) only [go_sem, Nat.reduceBEq, Nat.reduceLT, Nat.reduceAdd, Nat.reduceLeDiff, Nat.reduceSub, Nat.reduceEqDiff, Int.reduceToNat, reduceCtorEq, ↓reduceIte]
                                        repeat' (first | refine And.intro ?_ ?_ | intro hg)
                                        all_goals (try simp (disch := omega) only [wrap_fits])
                                        all_goals first
                                          | (refine hL.red ?_ n3; exact Red.auto)
                                          | exact trivial
                                          | assumption
                                          | omega
                                          | exact wrap_fits (by omega) (by omega)
                                          | (refine OpK_callA (k_impl_CombineState y_39 y_40 y_41 y_42 y_43 y_44 y_45 (h := hr2)) [23, 24, 25] [] ?_
                                             rintro x Hc' ⟨rfl, rfl⟩ hlen
                                             simp (maxSteps := 4000000) only [go_sem, Nat.reduceBEq, Nat.reduceLT, Nat.reduceAdd, Nat.reduceLeDiff, Nat.reduceSub, Nat.reduceEqDiff, Int.reduceToNat, reduceCtorEq, ↓reduceIte]
                                             repeat' (first | refine And.intro ?_ ?_ | intro hg)
                                             all_goals (try simp (disch := omega) only [wrap_fits])
                                             all_goals first
                                               | (refine hL.red ?_ n3; exact Red.auto)
                                               | exact trivial
                                               | assumption
                                               | omega
                                               | exact wrap_fits (by omega) (by omega)
                                               | (simp_all; done)
                                               | (simp_all; omega))
                                          | (simp (maxSteps := 4000000) only [go_sem, Nat.reduceBEq, Nat.reduceLT, Nat.reduceAdd, Nat.reduceLeDiff, Nat.reduceSub, Nat.reduceEqDiff, Int.reduceToNat, reduceCtorEq, ↓reduceIte]
                                             repeat' (first | refine And.intro ?_ ?_ | intro hg)
                                             all_goals (try simp (disch := omega) only [wrap_fits])
                                             all_goals first | (refine hL.red ?_ n3; exact Red.auto) | exact trivial | assumption | omega | exact wrap_fits (by omega) (by omega))
                                          | (simp_all; done)
                                          | (simp_all; omega)
                                      · exact hL.edge n6
                                    have n7 : L 3 #[true, true, true, false, false, true, false] [(2, .pp 3 0), (3, .pp 4 0), (6, .pp 11 0), (8, .pp 19 0), (10, .v (.int .i64 y_34)), (12, .pp 23 0), (59, .v (.bool (y_38 != y_34))), (60, .agg [.v (.int .i64 a0_0), .v (.int .i64 a0_1), .v (.int .i64 a0_2)]), (61, .agg [.v (.int .i64 y_39), .v (.int .i64 y_40), .v (.int .i64 y_41)]), (62, .agg [.v (.int .i64 a1_0), .sl 0, .sl 1, .sl 2])] [.row false (.ints .i64 a1_1), .row false (.bools a1_2), .row false (.trips a1_3), .rbox [.v (.int .i64 a0_0), .v (.int .i64 a0_1), .v (.int .i64 a0_2)], .rbox [.v (.int .i64 a1_0), .sl 0, .sl 1, .sl 2], .row true (.ints .i64 y_5), .row true (.bools y_6), .row true (.trips y_7), .row true (.ints .i64 y_9), .row true (.bools y_10), .row true (.trips y_11), .box [.v (.int .i64 y_8), .sl 8, .sl 9, .sl 10], .row true (.ints .i64 y_30), .row true (.bools y_31), .row true (.trips y_32), .box [.v (.int .i64 y_12), .sl 12, .sl 13, .sl 14], .row true (.ints .i64 y_35), .row true (.bools y_36), .row true (.trips y_37), .box [.v (.int .i64 y_19), .sl 16, .sl 17, .sl 18], .row true (.ints .i64 y_25), .row true (.bools y_26), .row true (.trips y_27), .box [.v (.int .i64 0), .v (.slice none 0 0), .v (.slice none 0 0), .v (.slice none 0 0)]] := by
                                      refine hL.step [(3, [], 2, #[true, true, true, true, false, true, false])] (by kernel_rfl) ⟨?_, trivial⟩
                                      · simp (maxSteps := 4000000) only [go_sem, Nat.reduceBEq, Nat.reduceLT, Nat.reduceAdd, Nat.reduceLeDiff, Nat.reduceSub, Nat.reduceEqDiff, Int.reduceToNat, reduceCtorEq, ↓reduceIte]
                                        repeat' (first | refine And.intro ?_ ?_ | intro hg)
                                        all_goals (try simp (disch := omega) only [wrap_fits])
                                        all_goals first
                                          | (refine hL.red ?_ n6; exact Red.selA [0, 1, 2, 3, 4, 5, 6, 7, 8, 9, 10, 11, 12, 13, 14, 15, 16, 17, 18, 19, 20, 21, 22, 24, 25, 26, 23] Red.auto)
                                          | exact trivial
                                          | assumption
                                          | omega
                                          | exact wrap_fits (by omega) (by omega)
                                          | (refine OpK_callA (k_laws_toState a1_0 a1_1 a1_2 a1_3 (h := hr1)) [0, 1, 2] [] ?_
                                             rintro x Hc' ⟨rfl, rfl⟩ hlen
                                             simp (maxSteps := 4000000) only [go_sem, Nat.reduceBEq, Nat.reduceLT, Nat.reduceAdd, Nat.reduceLeDiff, Nat.reduceSub, Nat.reduceEqDiff, Int.reduceToNat, reduceCtorEq, ↓reduceIte]
                                             repeat' (first | refine And.intro ?_ ?_ | intro hg)
                                             all_goals (try simp (disch := omega) only [wrap_fits])
                                             all_goals first
                                               | (refine hL.red ?_ n6; exact Red.selA [0, 1, 2, 3, 4, 5, 6, 7, 8, 9, 10, 11, 12, 13, 14, 15, 16, 17, 18, 19, 20, 21, 22, 24, 25, 26, 23] Red.auto)
                                               | exact trivial
                                               | assumption
                                               | omega
                                               | exact wrap_fits (by omega) (by omega)
                                               | (simp_all; done)
                                               | (simp_all; omega))
                                          | (simp (maxSteps := 4000000) only [go_sem, Nat.reduceBEq, Nat.reduceLT, Nat.reduceAdd, Nat.reduceLeDiff, Nat.reduceSub, Nat.reduceEqDiff, Int.reduceToNat, reduceCtorEq, ↓reduceIte]
                                             repeat' (first | refine And.intro ?_ ?_ | intro hg)
                                             all_goals (try simp (disch := omega) only [wrap_fits])
                                             all_goals first | (refine hL.red ?_ n6; exact Red.selA [0, 1, 2, 3, 4, 5, 6, 7, 8, 9, 10, 11, 12, 13, 14, 15, 16, 17, 18, 19, 20, 21, 22, 24, 25, 26, 23] Red.auto) | exact trivial | assumption | omega | exact wrap_fits (by omega) (by omega))
                                          | (simp_all; done)
                                          | (simp_all; omega)
                                    have n1 : L 4 #[true, true, true, false, false, false, false] [(2, .pp 3 0), (3, .pp 4 0), (6, .pp 11 0), (8, .pp 19 0), (10, .v (.int .i64 y_34)), (59, .v (.bool (y_38 != y_34))), (60, .agg [.v (.int .i64 a0_0), .v (.int .i64 a0_1), .v (.int .i64 a0_2)]), (61, .agg [.v (.int .i64 y_39), .v (.int .i64 y_40), .v (.int .i64 y_41)]), (62, .agg [.v (.int .i64 a1_0), .sl 0, .sl 1, .sl 2])] [.row false (.ints .i64 a1_1), .row false (.bools a1_2), .row false (.trips a1_3), .rbox [.v (.int .i64 a0_0), .v (.int .i64 a0_1), .v (.int .i64 a0_2)], .rbox [.v (.int .i64 a1_0), .sl 0, .sl 1, .sl 2], .row true (.ints .i64 y_5), .row true (.bools y_6), .row true (.trips y_7), .row true (.ints .i64 y_9), .row true (.bools y_10), .row true (.trips y_11), .box [.v (.int .i64 y_8), .sl 8, .sl 9, .sl 10], .row true (.ints .i64 y_30), .row true (.bools y_31), .row true (.trips y_32), .box [.v (.int .i64 y_12), .sl 12, .sl 13, .sl 14], .row true (.ints .i64 y_35), .row true (.bools y_36), .row true (.trips y_37), .box [.v (.int .i64 y_19), .sl 16, .sl 17, .sl 18], .row true (.ints .i64 y_25), .row true (.bools y_26), .row true (.trips y_27)] := by
                                      refine hL.step [(3, [], 3, #[true, true, true, true, false, false, false]), (5, [], 3, #[true, true, true, false, false, true, false])] (by kernel_rfl) ⟨?_, ?_, trivial⟩
                                      · simp (maxSteps := 4000000) only [go_sem, Nat.reduceBEq, Nat.reduceLT, Nat.reduceAdd, Nat.reduceLeDiff, Nat.reduceSub, Nat.reduceEqDiff, Int.reduceToNat, reduceCtorEq, ↓reduceIte]
                                        repeat' (first | refine And.intro ?_ ?_ | intro hg)
                                        all_goals (try simp (disch := omega) only [wrap_fits])
                                        all_goals first
                                          | (refine hL.red ?_ n2; exact Red.auto)
                                          | exact trivial
                                          | assumption
                                          | omega
                                          | exact wrap_fits (by omega) (by omega)
                                          | (refine OpK_callA (k_laws_toState a1_0 a1_1 a1_2 a1_3 (h := hr1)) [0, 1, 2] [] ?_
                                             rintro x Hc' ⟨rfl, rfl⟩ hlen
                                             simp (maxSteps := 4000000) only [go_sem, Nat.reduceBEq, Nat.reduceLT, Nat.reduceAdd, Nat.reduceLeDiff, Nat.reduceSub, Nat.reduceEqDiff, Int.reduceToNat, reduceCtorEq, ↓reduceIte]
                                             repeat' (first | refine And.intro ?_ ?_ | intro hg)
                                             all_goals (try simp (disch := omega) only [wrap_fits])
                                             all_goals first
                                               | (refine hL.red ?_ n2; exact Red.auto)
                                               | exact trivial
                                               | assumption
                                               | omega
                                               | exact wrap_fits (by omega) (by omega)
                                               | (simp_all; done)
                                               | (simp_all; omega))
                                          | (simp (maxSteps := 4000000) only [go_sem, Nat.reduceBEq, Nat.reduceLT, Nat.reduceAdd, Nat.reduceLeDiff, Nat.reduceSub, Nat.reduceEqDiff, Int.reduceToNat, reduceCtorEq, ↓reduceIte]
                                             repeat' (first | refine And.intro ?_ ?_ | intro hg)
                                             all_goals (try simp (disch := omega) only [wrap_fits])
                                             all_goals first | (refine hL.red ?_ n2; exact Red.auto) | exact trivial | assumption | omega | exact wrap_fits (by omega) (by omega))
                                          | (simp_all; done)
                                          | (simp_all; omega)
                                      · exact hL.edge n7
                                    have n8 : L 4 #[true, false, true, false, false, true, false] [(2, .pp 3 0), (3, .pp 4 0), (6, .pp 11 0), (8, .pp 19 0), (10, .v (.int .i64 y_34)), (12, .pp 23 0), (59, .v (.bool (y_38 != y_34))), (60, .agg [.v (.int .i64 a0_0), .v (.int .i64 a0_1), .v (.int .i64 a0_2)]), (62, .agg [.v (.int .i64 a1_0), .sl 0, .sl 1, .sl 2])] [.row false (.ints .i64 a1_1), .row false (.bools a1_2), .row false (.trips a1_3), .rbox [.v (.int .i64 a0_0), .v (.int .i64 a0_1), .v (.int .i64 a0_2)], .rbox [.v (.int .i64 a1_0), .sl 0, .sl 1, .sl 2], .row true (.ints .i64 y_5), .row true (.bools y_6), .row true (.trips y_7), .row true (.ints .i64 y_9), .row true (.bools y_10), .row true (.trips y_11), .box [.v (.int .i64 y_8), .sl 8, .sl 9, .sl 10], .row true (.ints .i64 y_30), .row true (.bools y_31), .row true (.trips y_32), .box [.v (.int .i64 y_12), .sl 12, .sl 13, .sl 14], .row true (.ints .i64 y_35), .row true (.bools y_36), .row true (.trips y_37), .box [.v (.int .i64 y_19), .sl 16, .sl 17, .sl 18], .row true (.ints .i64 y_25), .row true (.bools y_26), .row true (.trips y_27), .box [.v (.int .i64 0), .v (.slice none 0 0), .v (.slice none 0 0), .v (.slice none 0 0)]] := by
                                      refine hL.step [(1, [], 3, #[true, true, true, false, false, true, false])] (by kernel_rfl) ⟨?_, trivial⟩
                                      · simp (maxSteps := 4000000) only [go_sem, Nat.reduceBEq, Nat.reduceLT, Nat.reduceAdd, Nat.reduceLeDiff, Nat.reduceSub, Nat.reduceEqDiff, Int.reduceToNat, reduceCtorEq, ↓reduceIte]
                                        repeat' (first | refine And.intro ?_ ?_ | intro hg)
                                        all_goals (try simp (disch := omega) only [wrap_fits])
                                        all_goals first
                                          | (refine hL.red ?_ n7; exact Red.auto)
                                          | exact trivial
                                          | assumption
                                          | omega
                                          | exact wrap_fits (by omega) (by omega)
                                          | (refine OpK_callA (k_laws_toProgram a0_0 a0_1 a0_2 (h := hr0)) [] [] ?_
                                             rintro x Hc' ⟨rfl, rfl⟩ hlen
                                             simp (maxSteps := 4000000) only [go_sem, Nat.reduceBEq, Nat.reduceLT, Nat.reduceAdd, Nat.reduceLeDiff, Nat.reduceSub, Nat.reduceEqDiff, Int.reduceToNat, reduceCtorEq, ↓reduceIte]
                                             repeat' (first | refine And.intro ?_ ?_ | intro hg)
                                             all_goals (try simp (disch := omega) only [wrap_fits])
                                             all_goals first
                                               | (refine hL.red ?_ n7; exact Red.auto)
                                               | exact trivial
                                               | assumption
                                               | omega
                                               | exact wrap_fits (by omega) (by omega)
                                               | (simp_all; done)
                                               | (simp_all; omega))
                                          | (simp (maxSteps := 4000000) only [go_sem, Nat.reduceBEq, Nat.reduceLT, Nat.reduceAdd, Nat.reduceLeDiff, Nat.reduceSub, Nat.reduceEqDiff, Int.reduceToNat, reduceCtorEq, ↓reduceIte]
                                             repeat' (first | refine And.intro ?_ ?_ | intro hg)
                                             all_goals (try simp (disch := omega) only [wrap_fits])
                                             all_goals first | (refine hL.red ?_ n7; exact Red.auto) | exact trivial | assumption | omega | exact wrap_fits (by omega) (by omega))
                                          | (simp_all; done)
                                          | (simp_all; omega)
                                    have n0 : L 5 #[true, false, true, false, false, false, false] [(2, .pp 3 0), (3, .pp 4 0), (6, .pp 11 0), (8, .pp 19 0), (10, .v (.int .i64 y_34)), (59, .v (.bool (y_38 != y_34))), (60, .agg [.v (.int .i64 a0_0), .v (.int .i64 a0_1), .v (.int .i64 a0_2)]), (62, .agg [.v (.int .i64 a1_0), .sl 0, .sl 1, .sl 2])] [.row false (.ints .i64 a1_1), .row false (.bools a1_2), .row false (.trips a1_3), .rbox [.v (.int .i64 a0_0), .v (.int .i64 a0_1), .v (.int .i64 a0_2)], .rbox [.v (.int .i64 a1_0), .sl 0, .sl 1, .sl 2], .row true (.ints .i64 y_5), .row true (.bools y_6), .row true (.trips y_7), .row true (.ints .i64 y_9), .row true (.bools y_10), .row true (.trips y_11), .box [.v (.int .i64 y_8), .sl 8, .sl 9, .sl 10], .row true (.ints .i64 y_30), .row true (.bools y_31), .row true (.trips y_32), .box [.v (.int .i64 y_12), .sl 12, .sl 13, .sl 14], .row true (.ints .i64 y_35), .row true (.bools y_36), .row true (.trips y_37), .box [.v (.int .i64 y_19), .sl 16, .sl 17, .sl 18], .row true (.ints .i64 y_25), .row true (.bools y_26), .row true (.trips y_27)] := by
                                      refine hL.step [(1, [], 4, #[true, true, true, false, false, false, false]), (5, [], 4, #[true, false, true, false, false, true, false])] (by kernel_rfl) ⟨?_, ?_, trivial⟩
                                      · simp (maxSteps := 4000000) only [go_sem, Nat.reduceBEq, Nat.reduceLT, Nat.reduceAdd, Nat.reduceLeDiff, Nat.reduceSub, Nat.reduceEqDiff, Int.reduceToNat, reduceCtorEq, ↓reduceIte]
                                        repeat' (first | refine And.intro ?_ ?_ | intro hg)
                                        all_goals (try simp (disch := omega) only [wrap_fits])
                                        all_goals first
                                          | (refine hL.red ?_ n1; exact Red.auto)
                                          | exact trivial
                                          | assumption
                                          | omega
                                          | exact wrap_fits (by omega) (by omega)
                                          | (refine OpK_callA (k_laws_toProgram a0_0 a0_1 a0_2 (h := hr0)) [] [] ?_
                                             rintro x Hc' ⟨rfl, rfl⟩ hlen
                                             simp (maxSteps := 4000000) only [go_sem, Nat.reduceBEq, Nat.reduceLT, Nat.reduceAdd, Nat.reduceLeDiff, Nat.reduceSub, Nat.reduceEqDiff, Int.reduceToNat, reduceCtorEq, ↓reduceIte]
                                             repeat' (first | refine And.intro ?_ ?_ | intro hg)
                                             all_goals (try simp (disch := omega) only [wrap_fits])
                                             all_goals first
                                               | (refine hL.red ?_ n1; exact Red.auto)
                                               | exact trivial
                                               | assumption
                                               | omega
                                               | exact wrap_fits (by omega) (by omega)
                                               | (simp_all; done)
                                               | (simp_all; omega))
                                          | (simp (maxSteps := 4000000) only [go_sem, Nat.reduceBEq, Nat.reduceLT, Nat.reduceAdd, Nat.reduceLeDiff, Nat.reduceSub, Nat.reduceEqDiff, Int.reduceToNat, reduceCtorEq, ↓reduceIte]
                                             repeat' (first | refine And.intro ?_ ?_ | intro hg)
                                             all_goals (try simp (disch := omega) only [wrap_fits])
                                             all_goals first | (refine hL.red ?_ n1; exact Red.auto) | exact trivial | assumption | omega | exact wrap_fits (by omega) (by omega))
                                          | (simp_all; done)
                                          | (simp_all; omega)
                                      · exact hL.edge n8
                                    simp (maxSteps := 4000000) only [go_sem, Nat.reduceBEq, Nat.reduceLT, Nat.reduceAdd, Nat.reduceLeDiff, Nat.reduceSub, Nat.reduceEqDiff, Int.reduceToNat, reduceCtorEq, ↓reduceIte]
                                    repeat' (first | refine And.intro ?_ ?_ | intro hg)
                                    all_goals (try simp (disch := omega) only [wrap_fits])
                                    all_goals first
                                      | (refine hL.red ?_ n0; exact Red.auto)
                                      | exact trivial
                                      | assumption
                                      | omega
                                      | exact wrap_fits (by omega) (by omega)
                                      | (simp (maxSteps := 4000000) only [go_sem, Nat.reduceBEq, Nat.reduceLT, Nat.reduceAdd, Nat.reduceLeDiff, Nat.reduceSub, Nat.reduceEqDiff, Int.reduceToNat, reduceCtorEq, ↓reduceIte]
                                         repeat' (first | refine And.intro ?_ ?_ | intro hg)
                                         all_goals (try simp (disch := omega) only [wrap_fits])
                                         all_goals first | (refine hL.red ?_ n0; exact Red.auto) | exact trivial | assumption | omega | exact wrap_fits (by omega) (by omega))
                                      | (simp_all; done)
                                      | (simp_all; omega)
                                  · clear hr0 hr1 hr2
                                    refine awp_seq fun K20 hK20 => ?_
                                    replace h := bind_some h
                                    obtain ⟨y_50, hr0, h⟩ := h
                                    try dsimp only at h
                                    refine awp_to [(8, .pp 19 0), (10, .v (.int .i64 y_34)), (68, .v (.bool (!y_50)))] [.row false (.ints .i64 a1_1), .row false (.bools a1_2), .row false (.trips a1_3), .rbox [.v (.int .i64 a0_0), .v (.int .i64 a0_1), .v (.int .i64 a0_2)], .rbox [.v (.int .i64 a1_0), .sl 0, .sl 1, .sl 2], .row true (.ints .i64 y_5), .row true (.bools y_6), .row true (.trips y_7), .row true (.ints .i64 y_9), .row true (.bools y_10), .row true (.trips y_11), .box [.v (.int .i64 y_8), .sl 8, .sl 9, .sl 10], .row true (.ints .i64 y_30), .row true (.bools y_31), .row true (.trips y_32), .box [.v (.int .i64 y_12), .sl 12, .sl 13, .sl 14], .row true (.ints .i64 y_35), .row true (.bools y_36), .row true (.trips y_37), .box [.v (.int .i64 y_19), .sl 16, .sl 17, .sl 18], .row true (.ints .i64 y_25), .row true (.bools y_26), .row true (.trips y_27), .row true (.ints .i64 y_43), .row true (.bools y_44), .row true (.trips y_45), .row true (.ints .i64 y_47), .row true (.bools y_48), .row true (.trips y_49), .box [.v (.int .i64 y_46), .sl 26, .sl 27, .sl 28]] ?_ ?_
                                    · clear h
                                      intro K hK
                                      refine awp_region ftCOk ?_
                                      simp (maxSteps := 4000000) only [go_sem, Nat.reduceBEq, Nat.reduceLT, Nat.reduceAdd, Nat.reduceLeDiff, Nat.reduceSub, Nat.reduceEqDiff, Int.reduceToNat, reduceCtorEq, ↓reduceIte]
                                      repeat' (first | refine And.intro ?_ ?_ | intro hg)
                                      all_goals (try simp (disch := omega) only [wrap_fits])
                                      all_goals first
                                        | (refine hK _ _ ?_; exact Red.auto)
                                        | exact trivial
                                        | assumption
                                        | omega
                                        | exact wrap_fits (by omega) (by omega)
                                        | (refine wpA_callA (k_laws_eqState y_46 y_47 y_48 y_49 y_8 y_9 y_10 y_11 (h := hr0)) [26, 27, 28, 8, 9, 10] [] ?_
                                           rintro x Hc' ⟨rfl, rfl⟩ hlen
                                           refine vcOps_sound ftCOk ?_
                                           simp (maxSteps := 4000000) only [go_sem, Nat.reduceBEq, Nat.reduceLT, Nat.reduceAdd, Nat.reduceLeDiff, Nat.reduceSub, Nat.reduceEqDiff, Int.reduceToNat, reduceCtorEq, ↓reduceIte]
                                           repeat' (first | refine And.intro ?_ ?_ | intro hg)
                                           all_goals (try simp (disch := omega) only [wrap_fits])
                                           all_goals first
                                             | (refine hK _ _ ?_; exact Red.auto)
                                             | exact trivial
                                             | assumption
                                             | omega
                                             | exact wrap_fits (by omega) (by omega)
                                             | (simp_all; done)
                                             | (simp_all; omega))
                                        | (simp_all; done)
                                        | (simp_all; omega)
                                    · clear hr0
                                      refine awp_cond (t := 68) rfl (fun hc21 => ?_) (fun hc21 => ?_)
                                      · replace h := bite_t h hc21
                                        refine awp_reg ftCOk [(4, .v (.bool false))] [.row false (.ints .i64 a1_1), .row false (.bools a1_2), .row false (.trips a1_3), .rbox [.v (.int .i64 a0_0), .v (.int .i64 a0_1), .v (.int .i64 a0_2)], .rbox [.v (.int .i64 a1_0), .sl 0, .sl 1, .sl 2], .row true (.ints .i64 y_5), .row true (.bools y_6), .row true (.trips y_7), .row true (.ints .i64 y_9), .row true (.bools y_10), .row true (.trips y_11), .box [.v (.int .i64 y_8), .sl 8, .sl 9, .sl 10], .row true (.ints .i64 y_30), .row true (.bools y_31), .row true (.trips y_32), .box [.v (.int .i64 y_12), .sl 12, .sl 13, .sl 14], .row true (.ints .i64 y_35), .row true (.bools y_36), .row true (.trips y_37), .box [.v (.int .i64 y_19), .sl 16, .sl 17, .sl 18], .row true (.ints .i64 y_25), .row true (.bools y_26), .row true (.trips y_27), .row true (.ints .i64 y_43), .row true (.bools y_44), .row true (.trips y_45), .row true (.ints .i64 y_47), .row true (.bools y_48), .row true (.trips y_49), .box [.v (.int .i64 y_46), .sl 26, .sl 27, .sl 28]] ?_
                                        refine awp_ret ?_
                                        (try simp only [Thn, InBlk, ↓reduceIte, Nat.reduceEqDiff])
                                        obtain rfl := Option.some.inj h
                                        refine ⟨by simp, _, [0, 1, 2], (by simp only [go_sem, Nat.reduceBEq, Nat.reduceLT, Nat.reduceAdd, Nat.reduceLeDiff, Nat.reduceSub, Nat.reduceEqDiff, Int.reduceToNat, reduceCtorEq, ↓reduceIte]; exact rfl), ?_, ?_, ?_, ?_⟩
                                        · exact fin1
                                        · simp [selOk, pos]
                                        · simp
                                        · exact fin4
                                      · replace h := bite_f h hc21
                                        refine awp_skip ?_
                                        (try simp only [Thn, InBlk, ↓reduceIte, Nat.reduceEqDiff])
                                        refine hK20 _ _ ?_
                                        clear hK20
                                        refine awp_reg ftCOk [(8, .pp 19 0), (10, .v (.int .i64 y_34)), (11, .v (.int .i64 1))] [.row false (.ints .i64 a1_1), .row false (.bools a1_2), .row false (.trips a1_3), .rbox [.v (.int .i64 a0_0), .v (.int .i64 a0_1), .v (.int .i64 a0_2)], .rbox [.v (.int .i64 a1_0), .sl 0, .sl 1, .sl 2], .row true (.ints .i64 y_5), .row true (.bools y_6), .row true (.trips y_7), .row true (.ints .i64 y_9), .row true (.bools y_10), .row true (.trips y_11), .box [.v (.int .i64 y_8), .sl 8, .sl 9, .sl 10], .row true (.ints .i64 y_30), .row true (.bools y_31), .row true (.trips y_32), .box [.v (.int .i64 y_12), .sl 12, .sl 13, .sl 14], .row true (.ints .i64 y_35), .row true (.bools y_36), .row true (.trips y_37), .box [.v (.int .i64 y_19), .sl 16, .sl 17, .sl 18], .row true (.ints .i64 y_25), .row true (.bools y_26), .row true (.trips y_27), .row true (.ints .i64 y_43), .row true (.bools y_44), .row true (.trips y_45), .row true (.ints .i64 y_47), .row true (.bools y_48), .row true (.trips y_49), .box [.v (.int .i64 y_46), .sl 26, .sl 27, .sl 28]] ?_
                                        replace h := bind_some h
                                        obtain ⟨y_51, hr0, h⟩ := h
                                        try dsimp only at h
                                        refine awp_to [(10, .v (.int .i64 y_34)), (11, .v (.int .i64 y_51))] [.row false (.ints .i64 a1_1), .row false (.bools a1_2), .row false (.trips a1_3), .rbox [.v (.int .i64 a0_0), .v (.int .i64 a0_1), .v (.int .i64 a0_2)], .rbox [.v (.int .i64 a1_0), .sl 0, .sl 1, .sl 2], .row true (.ints .i64 y_5), .row true (.bools y_6), .row true (.trips y_7), .row true (.ints .i64 y_9), .row true (.bools y_10), .row true (.trips y_11), .box [.v (.int .i64 y_8), .sl 8, .sl 9, .sl 10], .row true (.ints .i64 y_30), .row true (.bools y_31), .row true (.trips y_32), .box [.v (.int .i64 y_12), .sl 12, .sl 13, .sl 14], .row true (.ints .i64 y_35), .row true (.bools y_36), .row true (.trips y_37), .box [.v (.int .i64 y_19), .sl 16, .sl 17, .sl 18], .row true (.ints .i64 y_25), .row true (.bools y_26), .row true (.trips y_27), .row true (.ints .i64 y_43), .row true (.bools y_44), .row true (.trips y_45), .row true (.ints .i64 y_47), .row true (.bools y_48), .row true (.trips y_49), .box [.v (.int .i64 y_46), .sl 26, .sl 27, .sl 28]] ?_ ?_
                                        · clear h
                                          intro K hK
                                          refine awp_region ftCOk ?_
                                          simp (maxSteps := 4000000) only [go_sem, Nat.reduceBEq, Nat.reduceLT, Nat.reduceAdd, Nat.reduceLeDiff, Nat.reduceSub, Nat.reduceEqDiff, Int.reduceToNat, reduceCtorEq, ↓reduceIte]
                                          repeat' (first | refine And.intro ?_ ?_ | intro hg)
                                          all_goals (try simp (disch := omega) only [wrap_fits])
                                          all_goals first
                                            | (refine hK _ _ ?_; exact Red.auto)
                                            | exact trivial
                                            | assumption
                                            | omega
                                            | exact wrap_fits (by omega) (by omega)
                                            | (refine wpA_callA (k_laws_heldState y_19 y_35 y_36 y_37 1 (h := hr0)) [16, 17, 18] [] ?_
                                               rintro x Hc' ⟨rfl, rfl⟩ hlen
                                               refine vcOps_sound ftCOk ?_
                                               simp (maxSteps := 4000000) only [go_sem, Nat.reduceBEq, Nat.reduceLT, Nat.reduceAdd, Nat.reduceLeDiff, Nat.reduceSub, Nat.reduceEqDiff, Int.reduceToNat, reduceCtorEq, ↓reduceIte]
                                               repeat' (first | refine And.intro ?_ ?_ | intro hg)
                                               all_goals (try simp (disch := omega) only [wrap_fits])
                                               all_goals first
                                                 | (refine hK _ _ ?_; exact Red.auto)
                                                 | exact trivial
                                                 | assumption
                                                 | omega
                                                 | exact wrap_fits (by omega) (by omega)
                                                 | (simp_all; done)
                                                 | (simp_all; omega))
                                            | (simp_all; done)
                                            | (simp_all; omega)
                                        · clear hr0
                                          refine awp_seq fun K23 hK23 => ?_
                                          refine awp_reg ftCOk [(10, .v (.int .i64 y_34)), (11, .v (.int .i64 y_51)), (73, .v (.bool (decide (y_51 < 0))))] [.row false (.ints .i64 a1_1), .row false (.bools a1_2), .row false (.trips a1_3), .rbox [.v (.int .i64 a0_0), .v (.int .i64 a0_1), .v (.int .i64 a0_2)], .rbox [.v (.int .i64 a1_0), .sl 0, .sl 1, .sl 2], .row true (.ints .i64 y_5), .row true (.bools y_6), .row true (.trips y_7), .row true (.ints .i64 y_9), .row true (.bools y_10), .row true (.trips y_11), .box [.v (.int .i64 y_8), .sl 8, .sl 9, .sl 10], .row true (.ints .i64 y_30), .row true (.bools y_31), .row true (.trips y_32), .box [.v (.int .i64 y_12), .sl 12, .sl 13, .sl 14], .row true (.ints .i64 y_35), .row true (.bools y_36), .row true (.trips y_37), .box [.v (.int .i64 y_19), .sl 16, .sl 17, .sl 18], .row true (.ints .i64 y_25), .row true (.bools y_26), .row true (.trips y_27), .row true (.ints .i64 y_43), .row true (.bools y_44), .row true (.trips y_45), .row true (.ints .i64 y_47), .row true (.bools y_48), .row true (.trips y_49), .box [.v (.int .i64 y_46), .sl 26, .sl 27, .sl 28]] ?_
                                          refine awp_cond (t := 73) rfl (fun hc24 => ?_) (fun hc24 => ?_)
                                          · replace h := bite_t h hc24
                                            refine awp_reg ftCOk [(4, .v (.bool false))] [.row false (.ints .i64 a1_1), .row false (.bools a1_2), .row false (.trips a1_3), .rbox [.v (.int .i64 a0_0), .v (.int .i64 a0_1), .v (.int .i64 a0_2)], .rbox [.v (.int .i64 a1_0), .sl 0, .sl 1, .sl 2], .row true (.ints .i64 y_5), .row true (.bools y_6), .row true (.trips y_7), .row true (.ints .i64 y_9), .row true (.bools y_10), .row true (.trips y_11), .box [.v (.int .i64 y_8), .sl 8, .sl 9, .sl 10], .row true (.ints .i64 y_30), .row true (.bools y_31), .row true (.trips y_32), .box [.v (.int .i64 y_12), .sl 12, .sl 13, .sl 14], .row true (.ints .i64 y_35), .row true (.bools y_36), .row true (.trips y_37), .box [.v (.int .i64 y_19), .sl 16, .sl 17, .sl 18], .row true (.ints .i64 y_25), .row true (.bools y_26), .row true (.trips y_27), .row true (.ints .i64 y_43), .row true (.bools y_44), .row true (.trips y_45), .row true (.ints .i64 y_47), .row true (.bools y_48), .row true (.trips y_49), .box [.v (.int .i64 y_46), .sl 26, .sl 27, .sl 28]] ?_
                                            refine awp_ret ?_
                                            (try simp only [Thn, InBlk, ↓reduceIte, Nat.reduceEqDiff])
                                            obtain rfl := Option.some.inj h
                                            refine ⟨by simp, _, [0, 1, 2], (by simp only [go_sem, Nat.reduceBEq, Nat.reduceLT, Nat.reduceAdd, Nat.reduceLeDiff, Nat.reduceSub, Nat.reduceEqDiff, Int.reduceToNat, reduceCtorEq, ↓reduceIte]; exact rfl), ?_, ?_, ?_, ?_⟩
                                            · exact fin1
                                            · simp [selOk, pos]
                                            · simp
                                            · exact fin4
                                          · replace h := bite_f h hc24
                                            refine awp_skip ?_
                                            (try simp only [Thn, InBlk, ↓reduceIte, Nat.reduceEqDiff])
                                            refine hK23 _ _ ?_
                                            clear hK23
                                            refine awp_seq fun K26 hK26 => ?_
                                            refine awp_reg ftCOk [(76, .v (.bool (y_51 != y_34)))] [.row false (.ints .i64 a1_1), .row false (.bools a1_2), .row false (.trips a1_3), .rbox [.v (.int .i64 a0_0), .v (.int .i64 a0_1), .v (.int .i64 a0_2)], .rbox [.v (.int .i64 a1_0), .sl 0, .sl 1, .sl 2], .row true (.ints .i64 y_5), .row true (.bools y_6), .row true (.trips y_7), .row true (.ints .i64 y_9), .row true (.bools y_10), .row true (.trips y_11), .box [.v (.int .i64 y_8), .sl 8, .sl 9, .sl 10], .row true (.ints .i64 y_30), .row true (.bools y_31), .row true (.trips y_32), .box [.v (.int .i64 y_12), .sl 12, .sl 13, .sl 14], .row true (.ints .i64 y_35), .row true (.bools y_36), .row true (.trips y_37), .box [.v (.int .i64 y_19), .sl 16, .sl 17, .sl 18], .row true (.ints .i64 y_25), .row true (.bools y_26), .row true (.trips y_27), .row true (.ints .i64 y_43), .row true (.bools y_44), .row true (.trips y_45), .row true (.ints .i64 y_47), .row true (.bools y_48), .row true (.trips y_49), .box [.v (.int .i64 y_46), .sl 26, .sl 27, .sl 28]] ?_
                                            refine awp_cond (t := 76) rfl (fun hc27 => ?_) (fun hc27 => ?_)
                                            · replace h := bite_t h hc27
                                              refine awp_reg ftCOk [(4, .v (.bool false))] [.row false (.ints .i64 a1_1), .row false (.bools a1_2), .row false (.trips a1_3), .rbox [.v (.int .i64 a0_0), .v (.int .i64 a0_1), .v (.int .i64 a0_2)], .rbox [.v (.int .i64 a1_0), .sl 0, .sl 1, .sl 2], .row true (.ints .i64 y_5), .row true (.bools y_6), .row true (.trips y_7), .row true (.ints .i64 y_9), .row true (.bools y_10), .row true (.trips y_11), .box [.v (.int .i64 y_8), .sl 8, .sl 9, .sl 10], .row true (.ints .i64 y_30), .row true (.bools y_31), .row true (.trips y_32), .box [.v (.int .i64 y_12), .sl 12, .sl 13, .sl 14], .row true (.ints .i64 y_35), .row true (.bools y_36), .row true (.trips y_37), .box [.v (.int .i64 y_19), .sl 16, .sl 17, .sl 18], .row true (.ints .i64 y_25), .row true (.bools y_26), .row true (.trips y_27), .row true (.ints .i64 y_43), .row true (.bools y_44), .row true (.trips y_45), .row true (.ints .i64 y_47), .row true (.bools y_48), .row true (.trips y_49), .box [.v (.int .i64 y_46), .sl 26, .sl 27, .sl 28]] ?_
                                              refine awp_ret ?_
                                              (try simp only [Thn, InBlk, ↓reduceIte, Nat.reduceEqDiff])
                                              obtain rfl := Option.some.inj h
                                              refine ⟨by simp, _, [0, 1, 2], (by simp only [go_sem, Nat.reduceBEq, Nat.reduceLT, Nat.reduceAdd, Nat.reduceLeDiff, Nat.reduceSub, Nat.reduceEqDiff, Int.reduceToNat, reduceCtorEq, ↓reduceIte]; exact rfl), ?_, ?_, ?_, ?_⟩
                                              · exact fin1
                                              · simp [selOk, pos]
                                              · simp
                                              · exact fin4
                                            · replace h := bite_f h hc27
                                              refine awp_skip ?_
                                              (try simp only [Thn, InBlk, ↓reduceIte, Nat.reduceEqDiff])
                                              refine hK26 _ _ ?_
                                              clear hK26
                                              refine awp_reg ftCOk [(4, .v (.bool true))] [.row false (.ints .i64 a1_1), .row false (.bools a1_2), .row false (.trips a1_3), .rbox [.v (.int .i64 a0_0), .v (.int .i64 a0_1), .v (.int .i64 a0_2)], .rbox [.v (.int .i64 a1_0), .sl 0, .sl 1, .sl 2], .row true (.ints .i64 y_5), .row true (.bools y_6), .row true (.trips y_7), .row true (.ints .i64 y_9), .row true (.bools y_10), .row true (.trips y_11), .box [.v (.int .i64 y_8), .sl 8, .sl 9, .sl 10], .row true (.ints .i64 y_30), .row true (.bools y_31), .row true (.trips y_32), .box [.v (.int .i64 y_12), .sl 12, .sl 13, .sl 14], .row true (.ints .i64 y_35), .row true (.bools y_36), .row true (.trips y_37), .box [.v (.int .i64 y_19), .sl 16, .sl 17, .sl 18], .row true (.ints .i64 y_25), .row true (.bools y_26), .row true (.trips y_27), .row true (.ints .i64 y_43), .row true (.bools y_44), .row true (.trips y_45), .row true (.ints .i64 y_47), .row true (.bools y_48), .row true (.trips y_49), .box [.v (.int .i64 y_46), .sl 26, .sl 27, .sl 28]] ?_
                                              refine awp_ret ?_
                                              (try simp only [Thn, InBlk, ↓reduceIte, Nat.reduceEqDiff])
                                              obtain rfl := Option.some.inj h
                                              refine ⟨by simp, _, [0, 1, 2], (by simp only [go_sem, Nat.reduceBEq, Nat.reduceLT, Nat.reduceAdd, Nat.reduceLeDiff, Nat.reduceSub, Nat.reduceEqDiff, Int.reduceToNat, reduceCtorEq, ↓reduceIte]; exact rfl), ?_, ?_, ?_, ?_⟩
                                              · exact fin1
                                              · simp [selOk, pos]
                                              · simp
                                              · exact fin4
end Go.Proofs.Ytiladakokkhkoaa
