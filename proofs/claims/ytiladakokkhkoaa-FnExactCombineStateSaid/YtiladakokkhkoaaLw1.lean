/- The code computes the functions that were taken out of it. -/
import Derived.Test.YtiladakokkhkoaaLaD
set_option maxRecDepth 100000
set_option maxHeartbeats 4000000
set_option linter.unusedSimpArgs false
set_option linter.unusedVariables false
namespace Go.Proofs.Ytiladakokkhkoaa
open Go Go.Av
attribute [local irreducible] wpA OpK awp
attribute [local go_sem] frs_nil frs_cons pw8_32 pw16_32 pw24_32 pw27_32 eqAgg eqAggV buildQ placesOf buildCells List.toList_toArray vcQg gfind gfree gput un3_agg unI_int unB_bool unK_int guardU skipV resVs resV vcD_nil vcD_cons vcT_fin vcT_free vcT_one vcT_two opS vcD1 roH roOb ftNone ftAdd oneOrTup AV.detup AV.ren AV.ren2 AV.ren1 pos selH AObj.ren fitAll fit fit1 fit1s matchAll matchOb exIds AObj.excl Env.killp pastH setAll upId AObj.past AObj.back AV.killp AV.killp1 AV.killp2 Nat.sub_self Nat.lt_irrefl Bool.or_self vcOps vcOp vcQs vcQ dstOk quiet eff pcall calleeF plain valsOf ev ofConst argEnv List.lookup Nat.add_eq decide_true decide_false Env.put binV quoC isTwo_2 isTwo_1 isTwo_3 isTwo_4 isTwo_5 isTwo_6 isTwo_7 isTwo_8 isTwo_9 isTwo_10 isTwo_11 isTwo_12 isTwo_13 isTwo_14 isTwo_15 isTwo_16 isTwo_17 isTwo_20 isTwo_24 isTwo_32 isTwo_60 isTwo_64 isTwo_100 isTwo_128 isTwo_256 isTwo_1000 wrapTo unV convV loadQ indexQ callQ builtinQ rd rdI globC AObj.globC partAV isAggD isArrayD addrAdd boxE storeE storeXE storeCE storeGE storeFE storeAE storeHE allocAE buildME appendME lookupQ mapUpE plainVs isIfaceD ifaceQ assertQ List.all_cons aggQ arrD arrL arrL_map arrV makeE makeXE makeNE makeGE buildXE buildNE buildGE nestZero Cont.child Cont.setChild buildSliceE buildFold appendE appendXE appendNE appendGE Cont.setG nestApp appendV promoteH sliceE boundAV subObj asCells Value.oneCell' contZero Cont.sets Cont.app Cont.sub Cont.len Cont.esz Cont.cell Cont.cells Cont.flat AV.det AV.det1 guardV AObj.unview AObj.kill Env.kill AV.kill AV.kill1 AV.kill2 fits64 Option.getD_some Option.getD_none Option.map_some Option.map_none Option.bind_some List.map_cons List.map_nil List.getElem?_cons_zero List.getElem?_cons_succ List.getElem?_nil true_and and_true and_false false_and List.getElem?_toArray List.cons_append List.nil_append List.length_cons List.length_nil List.set_cons_zero List.set_cons_succ List.take_succ_cons List.take_zero List.drop_succ_cons List.drop_zero List.drop_nil List.take_nil List.contains_cons List.contains_nil List.elem_cons List.elem_nil Bool.not_true Bool.not_false Bool.false_eq_true Bool.or_false Bool.or_true Bool.and_true Bool.and_false Bool.true_and Bool.false_and List.all_cons List.all_nil List.size_toArray Nat.lt_add_one Nat.zero_lt_succ Nat.one_ne_zero Nat.zero_ne_one and_self List.replicate_succ List.replicate_zero Int.toNat_natCast Int.toNat_zero Value.cells false_implies true_implies forall_const Thn InBlk Nat.zero_add Nat.add_zero Int.zero_add Ele Env.ren Option.some.injEq AV.v.injEq AV.sl.injEq AV.pp.injEq AV.ep.injEq AV.agg.injEq List.cons.injEq Value.int.injEq Value.bool.injEq Value.string.injEq true_or or_true or_false false_or tsz0 tby0 tz0 Try.underlying0 tsz1 tby1 tz1 Try.underlying1 tsz2 tby2 tz2 Try.underlying2 tsz3 tby3 tz3 Try.underlying3 tsz4 tby4 tz4 Try.underlying4 tsz5 tby5 tz5 Try.underlying5 tsz6 tby6 tz6 Try.underlying6 tsz7 tby7 tz7 Try.underlying7 fo7_0 fo7_1 fo7_2 fo7_3 tsz8 tby8 tz8 Try.underlying8 fo8_0 fo8_1 fo8_2 fo8_3 tsz9 tby9 Try.underlying9 tsz10 tby10 Try.underlying10 tsz12 tby12 tz12 Try.underlying12 tsz16 tby16 tz16 Try.underlying16 tsz17 tby17 tz17 Try.underlying17 tsz20 tby20 tz20 Try.underlying20 tsz21 tby21 tz21 Try.underlying21 tsz22 tby22 tz22 Try.underlying22 peq22 fo22_0 fo22_1 fo22_2 tsz23 tby23 tz23 Try.underlying23 peq23 fo23_0 fo23_1 fo23_2 tsz24 tby24 tz24 Try.underlying24 tsz25 tby25 tz25 Try.underlying25 tsz26 tby26 tz26 Try.underlying26 tsz27 tby27 tz27 Try.underlying27 fo27_0 fo27_1 fo27_2 fo27_3 tsz28 tby28 tz28 Try.underlying28 fo28_0 fo28_1 fo28_2 fo28_3 tsz30 tby30 tz30 Try.underlying30 tsz31 tby31 tz31 Try.underlying31 fo31_0 fo31_1 fo31_2 fo31_3 tsz32 tby32 tz32 Try.underlying32 fo32_0 fo32_1 fo32_2 fo32_3 tsz34 tby34 tz34 Try.underlying34 peq34 fo34_0 fo34_1 fo34_2 tsz40 tby40 tz40 Try.underlying40 tsz44 tby44 tz44 Try.underlying44 tsz56 tby56 tz56 Try.underlying56 tsz58 tby58 tz58 Try.underlying58 peq58 fo58_0 fo58_1 fo58_2 tsz59 tby59 tz59 Try.underlying59 peq59 fo59_0 fo59_1 fo59_2 tsz63 tby63 tz63 Try.underlying63 peq63 fo63_0 fo63_1 fo63_2 tsz67 tby67 tz67 Try.underlying67 tsz70 tby70 tz70 Try.underlying70 tsz74 tby74 tz74 Try.underlying74 tsz79 tby79 tz79 Try.underlying79 tsz80 tby80 tz80 Try.underlying80 tsz85 tby85 tz85 Try.underlying85 tsz88 tby88 tz88 Try.underlying88 tsz90 tby90 tz90 Try.underlying90 tsz96 tby96 tz96 Try.underlying96 tsz100 tby100 tz100 Try.underlying100 tsz104 tby104 tz104 Try.underlying104 tsz105 tby105 tz105 Try.underlying105 tsz111 tby111 tz111 Try.underlying111 tsz112 tby112 tz112 Try.underlying112 tsz113 tby113 tz113 Try.underlying113 tsz115 tby115 tz115 Try.underlying115 tsz116 tby116 tz116 Try.underlying116 tsz117 tby117 tz117 Try.underlying117 tsz118 tby118 tz118 Try.underlying118 tsz119 tby119 tz119 Try.underlying119 tsz120 tby120 tz120 Try.underlying120 tsz121 tby121 tz121 Try.underlying121 fo121_0 fo121_1 fo121_2 fo121_3 fo121_4 fo121_5 fo121_6 fo121_7 fo121_8 fo121_9 fo121_10 tsz122 tby122 tz122 Try.underlying122 fo122_0 fo122_1 fo122_2 fo122_3 fo122_4 fo122_5 fo122_6 fo122_7 fo122_8 fo122_9 fo122_10 tsz123 tby123 tz123 Try.underlying123 l1InG isNaNG cmpIntG cmpMsgG ftC
theorem k_slices_Sort_int_int (a0 : List Int) {r : List Int} (h : slices_Sort_int_int a0 = some r) :
    FnA Try.prog 52 [.sl 0] [.row true (.ints .i64 a0)] [] (fun x H => x = .tup [] ∧ H = [.row true (.ints .i64 r)]) := by
  unfold slices_Sort_int_int at h
  obtain ⟨h1, h⟩ := chk_some h
  simp only [Option.some.injEq] at h
  subst h
  exact sort_ints Go.Proofs.sortI rfl en52 a0 h1
theorem k_laws_szIntS (a0 : List Int) (a1 : Int) {r : Int} (h : laws_szIntS a0 a1 = some r) :
    FnA Try.prog 12 [.sl 0, .v (.int .i64 a1)] [.row false (.ints .i64 a0)] [] (fun x H => x = .v (.int .i64 r) ∧ H = [.row false (.ints .i64 a0)]) := by
  unfold laws_szIntS at h
  refine FnA.of (N := 12) (pin := [0]) (rs := [.tmp 4]) Try.func12 rfl en12 rfl rfl (by simp) (by simp; try omega) ?_
  refine awp_reg ftCOk [(0, .sl 0), (1, .v (.int .i64 a1))] [.row false (.ints .i64 a0)] ?_
  replace h := chk_some h
  obtain ⟨hp0, h⟩ := h
  have hwhp0 := wrap_fits hp0.1 hp0.2
  refine awp_reg ftCOk [(1, .v (.int .i64 (a1 - (a0.length : Int))))] [.row false (.ints .i64 a0)] ?_
  clear hp0
  refine awp_seq fun K2 hK2 => ?_
  refine awp_reg ftCOk [(1, .v (.int .i64 (a1 - (a0.length : Int)))), (10, .v (.bool (decide ((a1 - (a0.length : Int)) < 0))))] [.row false (.ints .i64 a0)] ?_
  refine awp_cond (t := 10) rfl (fun hc3 => ?_) (fun hc3 => ?_)
  · replace h := bite_t h hc3
    refine awp_reg ftCOk [(4, .v (.int .i64 (-1)))] [.row false (.ints .i64 a0)] ?_
    refine awp_ret ?_
    (try simp only [Thn, InBlk, ↓reduceIte, Nat.reduceEqDiff])
    obtain rfl := Option.some.inj h
    refine ⟨by simp, _, [0], (by simp only [go_sem, Nat.reduceBEq, Nat.reduceLT, Nat.reduceAdd, Nat.reduceLeDiff, Nat.reduceSub, Nat.reduceEqDiff, Int.reduceToNat, reduceCtorEq, ↓reduceIte]; exact rfl), ?_, ?_, ?_, ?_⟩
    · exact fin1
    · simp [selOk, pos]
    · simp
    · exact fin4
  · replace h := bite_f h hc3
    refine awp_skip ?_
    (try simp only [Thn, InBlk, ↓reduceIte, Nat.reduceEqDiff])
    refine hK2 _ _ ?_
    clear hK2
    refine awp_reg ftCOk [(4, .v (.int .i64 (a1 - (a0.length : Int))))] [.row false (.ints .i64 a0)] ?_
    refine awp_ret ?_
    (try simp only [Thn, InBlk, ↓reduceIte, Nat.reduceEqDiff])
    obtain rfl := Option.some.inj h
    refine ⟨by simp, _, [0], (by simp only [go_sem, Nat.reduceBEq, Nat.reduceLT, Nat.reduceAdd, Nat.reduceLeDiff, Nat.reduceSub, Nat.reduceEqDiff, Int.reduceToNat, reduceCtorEq, ↓reduceIte]; exact rfl), ?_, ?_, ?_, ?_⟩
    · exact fin1
    · simp [selOk, pos]
    · simp
    · exact fin4
theorem k_laws_szBoolS (a0 : List Bool) (a1 : Int) {r : Int} (h : laws_szBoolS a0 a1 = some r) :
    FnA Try.prog 13 [.sl 0, .v (.int .i64 a1)] [.row false (.bools a0)] [] (fun x H => x = .v (.int .i64 r) ∧ H = [.row false (.bools a0)]) := by
  unfold laws_szBoolS at h
  refine FnA.of (N := 12) (pin := [0]) (rs := [.tmp 4]) Try.func13 rfl en13 rfl rfl (by simp) (by simp; try omega) ?_
  refine awp_reg ftCOk [(0, .sl 0), (1, .v (.int .i64 a1))] [.row false (.bools a0)] ?_
  replace h := chk_some h
  obtain ⟨hp0, h⟩ := h
  have hwhp0 := wrap_fits hp0.1 hp0.2
  refine awp_reg ftCOk [(1, .v (.int .i64 (a1 - (a0.length : Int))))] [.row false (.bools a0)] ?_
  clear hp0
  refine awp_seq fun K2 hK2 => ?_
  refine awp_reg ftCOk [(1, .v (.int .i64 (a1 - (a0.length : Int)))), (10, .v (.bool (decide ((a1 - (a0.length : Int)) < 0))))] [.row false (.bools a0)] ?_
  refine awp_cond (t := 10) rfl (fun hc3 => ?_) (fun hc3 => ?_)
  · replace h := bite_t h hc3
    refine awp_reg ftCOk [(4, .v (.int .i64 (-1)))] [.row false (.bools a0)] ?_
    refine awp_ret ?_
    (try simp only [Thn, InBlk, ↓reduceIte, Nat.reduceEqDiff])
    obtain rfl := Option.some.inj h
    refine ⟨by simp, _, [0], (by simp only [go_sem, Nat.reduceBEq, Nat.reduceLT, Nat.reduceAdd, Nat.reduceLeDiff, Nat.reduceSub, Nat.reduceEqDiff, Int.reduceToNat, reduceCtorEq, ↓reduceIte]; exact rfl), ?_, ?_, ?_, ?_⟩
    · exact fin1
    · simp [selOk, pos]
    · simp
    · exact fin4
  · replace h := bite_f h hc3
    refine awp_skip ?_
    (try simp only [Thn, InBlk, ↓reduceIte, Nat.reduceEqDiff])
    refine hK2 _ _ ?_
    clear hK2
    refine awp_reg ftCOk [(4, .v (.int .i64 (a1 - (a0.length : Int))))] [.row false (.bools a0)] ?_
    refine awp_ret ?_
    (try simp only [Thn, InBlk, ↓reduceIte, Nat.reduceEqDiff])
    obtain rfl := Option.some.inj h
    refine ⟨by simp, _, [0], (by simp only [go_sem, Nat.reduceBEq, Nat.reduceLT, Nat.reduceAdd, Nat.reduceLeDiff, Nat.reduceSub, Nat.reduceEqDiff, Int.reduceToNat, reduceCtorEq, ↓reduceIte]; exact rfl), ?_, ?_, ?_, ?_⟩
    · exact fin1
    · simp [selOk, pos]
    · simp
    · exact fin4
theorem k_laws_szMessageS (a0 : List (Int × Int × Int)) (a1 : Int) {r : Int} (h : laws_szMessageS a0 a1 = some r) :
    FnA Try.prog 14 [.sl 0, .v (.int .i64 a1)] [.row false (.trips a0)] [] (fun x H => x = .v (.int .i64 r) ∧ H = [.row false (.trips a0)]) := by
  unfold laws_szMessageS at h
  refine FnA.of (N := 12) (pin := [0]) (rs := [.tmp 4]) Try.func14 rfl en14 rfl rfl (by simp) (by simp; try omega) ?_
  refine awp_reg ftCOk [(0, .sl 0), (1, .v (.int .i64 a1))] [.row false (.trips a0)] ?_
  replace h := chk_some h
  obtain ⟨hp0, h⟩ := h
  have hwhp0 := wrap_fits hp0.1 hp0.2
  refine awp_reg ftCOk [(1, .v (.int .i64 (a1 - (a0.length : Int))))] [.row false (.trips a0)] ?_
  clear hp0
  refine awp_seq fun K2 hK2 => ?_
  refine awp_reg ftCOk [(1, .v (.int .i64 (a1 - (a0.length : Int)))), (10, .v (.bool (decide ((a1 - (a0.length : Int)) < 0))))] [.row false (.trips a0)] ?_
  refine awp_cond (t := 10) rfl (fun hc3 => ?_) (fun hc3 => ?_)
  · replace h := bite_t h hc3
    refine awp_reg ftCOk [(4, .v (.int .i64 (-1)))] [.row false (.trips a0)] ?_
    refine awp_ret ?_
    (try simp only [Thn, InBlk, ↓reduceIte, Nat.reduceEqDiff])
    obtain rfl := Option.some.inj h
    refine ⟨by simp, _, [0], (by simp only [go_sem, Nat.reduceBEq, Nat.reduceLT, Nat.reduceAdd, Nat.reduceLeDiff, Nat.reduceSub, Nat.reduceEqDiff, Int.reduceToNat, reduceCtorEq, ↓reduceIte]; exact rfl), ?_, ?_, ?_, ?_⟩
    · exact fin1
    · simp [selOk, pos]
    · simp
    · exact fin4
  · replace h := bite_f h hc3
    refine awp_skip ?_
    (try simp only [Thn, InBlk, ↓reduceIte, Nat.reduceEqDiff])
    refine hK2 _ _ ?_
    clear hK2
    refine awp_reg ftCOk [(4, .v (.int .i64 (a1 - (a0.length : Int))))] [.row false (.trips a0)] ?_
    refine awp_ret ?_
    (try simp only [Thn, InBlk, ↓reduceIte, Nat.reduceEqDiff])
    obtain rfl := Option.some.inj h
    refine ⟨by simp, _, [0], (by simp only [go_sem, Nat.reduceBEq, Nat.reduceLT, Nat.reduceAdd, Nat.reduceLeDiff, Nat.reduceSub, Nat.reduceEqDiff, Int.reduceToNat, reduceCtorEq, ↓reduceIte]; exact rfl), ?_, ?_, ?_, ?_⟩
    · exact fin1
    · simp [selOk, pos]
    · simp
    · exact fin4
theorem k_laws_szState (a0_0 : Int) (a0_1 : List Int) (a0_2 : List Bool) (a0_3 : List (Int × Int × Int)) (a1 : Int) {r : Int} (h : laws_szState a0_0 a0_1 a0_2 a0_3 a1 = some r) :
    FnA Try.prog 4 [.agg [.v (.int .i64 a0_0), .sl 0, .sl 1, .sl 2], .v (.int .i64 a1)] [.row false (.ints .i64 a0_1), .row false (.bools a0_2), .row false (.trips a0_3)] [] (fun x H => x = .v (.int .i64 r) ∧ H = [.row false (.ints .i64 a0_1), .row false (.bools a0_2), .row false (.trips a0_3)]) := by
  unfold laws_szState at h
  refine FnA.of (N := 24) (pin := [0, 1, 2]) (rs := [.tmp 4]) Try.func4 rfl en4 rfl rfl (by simp) (by simp; try omega) ?_
  refine awp_reg ftCOk [(1, .v (.int .i64 a1)), (2, .pp 3 0)] [.row false (.ints .i64 a0_1), .row false (.bools a0_2), .row false (.trips a0_3), .box [.v (.int .i64 a0_0), .sl 0, .sl 1, .sl 2]] ?_
  refine awp_freeze 2 (by rfl) (by rfl) (by exact rfl) ?_
  replace h := bind_some h
  obtain ⟨y, hr0, h⟩ := h
  try dsimp only at h
  refine awp_to [(1, .v (.int .i64 y)), (2, .pp 3 0)] [.row false (.ints .i64 a0_1), .row false (.bools a0_2), .row false (.trips a0_3), .rbox [.v (.int .i64 a0_0), .sl 0, .sl 1, .sl 2]] ?_ ?_
  · clear h
    intro K hK
    refine awp_region ftCOk ?_
    simp (maxSteps := 4000000) only [go_sem, Nat.reduceBEq, Nat.reduceLT, Nat.reduceAdd, Nat.reduceLeDiff, Nat.reduceSub, Nat.reduceEqDiff, Int.reduceToNat, reduceCtorEq, ↓reduceIte]
    repeat' (first | refine And.intro ?_ ?_ | intro hg)
    all_goals (try simp (disch := omega) only [wrap_fits])
    all_goals first
      | (refine hK _ _ ?_; exact Red.auto)
      | exact trivial
      | assumption
      | omega
      | exact wrap_fits (by omega) (by omega)
      | (refine wpA_callA (k_laws_szIntS a0_1 a1 (h := hr0)) [0] [] ?_
         rintro x Hc' ⟨rfl, rfl⟩ hlen
         refine vcOps_sound ftCOk ?_
         simp (maxSteps := 4000000) only [go_sem, Nat.reduceBEq, Nat.reduceLT, Nat.reduceAdd, Nat.reduceLeDiff, Nat.reduceSub, Nat.reduceEqDiff, Int.reduceToNat, reduceCtorEq, ↓reduceIte]
         repeat' (first | refine And.intro ?_ ?_ | intro hg)
         all_goals (try simp (disch := omega) only [wrap_fits])
         all_goals first
           | (refine hK _ _ ?_; exact Red.auto)
           | exact trivial
           | assumption
           | omega
           | exact wrap_fits (by omega) (by omega)
           | (simp_all; done)
           | (simp_all; omega))
      | (simp_all; done)
      | (simp_all; omega)
  · clear hr0
    refine awp_seq fun K2 hK2 => ?_
    refine awp_reg ftCOk [(1, .v (.int .i64 y)), (2, .pp 3 0), (10, .v (.bool (decide (y < 0))))] [.row false (.ints .i64 a0_1), .row false (.bools a0_2), .row false (.trips a0_3), .rbox [.v (.int .i64 a0_0), .sl 0, .sl 1, .sl 2]] ?_
    refine awp_cond (t := 10) rfl (fun hc3 => ?_) (fun hc3 => ?_)
    · replace h := bite_t h hc3
      refine awp_reg ftCOk [(4, .v (.int .i64 (-1)))] [.row false (.ints .i64 a0_1), .row false (.bools a0_2), .row false (.trips a0_3), .rbox [.v (.int .i64 a0_0), .sl 0, .sl 1, .sl 2]] ?_
      refine awp_ret ?_
      (try simp only [Thn, InBlk, ↓reduceIte, Nat.reduceEqDiff])
      obtain rfl := Option.some.inj h
      refine ⟨by simp, _, [0, 1, 2], (by simp only [go_sem, Nat.reduceBEq, Nat.reduceLT, Nat.reduceAdd, Nat.reduceLeDiff, Nat.reduceSub, Nat.reduceEqDiff, Int.reduceToNat, reduceCtorEq, ↓reduceIte]; exact rfl), ?_, ?_, ?_, ?_⟩
      · exact fin1
      · simp [selOk, pos]
      · simp
      · exact fin4
    · replace h := bite_f h hc3
      refine awp_skip ?_
      (try simp only [Thn, InBlk, ↓reduceIte, Nat.reduceEqDiff])
      refine hK2 _ _ ?_
      clear hK2
      replace h := bind_some h
      obtain ⟨y_1, hr0, h⟩ := h
      try dsimp only at h
      refine awp_to [(1, .v (.int .i64 y_1)), (2, .pp 3 0)] [.row false (.ints .i64 a0_1), .row false (.bools a0_2), .row false (.trips a0_3), .rbox [.v (.int .i64 a0_0), .sl 0, .sl 1, .sl 2]] ?_ ?_
      · clear h
        intro K hK
        refine awp_region ftCOk ?_
        simp (maxSteps := 4000000) only [go_sem, Nat.reduceBEq, Nat.reduceLT, Nat.reduceAdd, Nat.reduceLeDiff, Nat.reduceSub, Nat.reduceEqDiff, Int.reduceToNat, reduceCtorEq, ↓reduceIte]
        repeat' (first | refine And.intro ?_ ?_ | intro hg)
        all_goals (try simp (disch := omega) only [wrap_fits])
        all_goals first
          | (refine hK _ _ ?_; exact Red.auto)
          | exact trivial
          | assumption
          | omega
          | exact wrap_fits (by omega) (by omega)
          | (refine wpA_callA (k_laws_szBoolS a0_2 y (h := hr0)) [1] [] ?_
             rintro x Hc' ⟨rfl, rfl⟩ hlen
             refine vcOps_sound ftCOk ?_
             simp (maxSteps := 4000000) only [go_sem, Nat.reduceBEq, Nat.reduceLT, Nat.reduceAdd, Nat.reduceLeDiff, Nat.reduceSub, Nat.reduceEqDiff, Int.reduceToNat, reduceCtorEq, ↓reduceIte]
             repeat' (first | refine And.intro ?_ ?_ | intro hg)
             all_goals (try simp (disch := omega) only [wrap_fits])
             all_goals first
               | (refine hK _ _ ?_; exact Red.auto)
               | exact trivial
               | assumption
               | omega
               | exact wrap_fits (by omega) (by omega)
               | (simp_all; done)
               | (simp_all; omega))
          | (simp_all; done)
          | (simp_all; omega)
      · clear hr0
        refine awp_seq fun K5 hK5 => ?_
        refine awp_reg ftCOk [(1, .v (.int .i64 y_1)), (2, .pp 3 0), (16, .v (.bool (decide (y_1 < 0))))] [.row false (.ints .i64 a0_1), .row false (.bools a0_2), .row false (.trips a0_3), .rbox [.v (.int .i64 a0_0), .sl 0, .sl 1, .sl 2]] ?_
        refine awp_cond (t := 16) rfl (fun hc6 => ?_) (fun hc6 => ?_)
        · replace h := bite_t h hc6
          refine awp_reg ftCOk [(4, .v (.int .i64 (-1)))] [.row false (.ints .i64 a0_1), .row false (.bools a0_2), .row false (.trips a0_3), .rbox [.v (.int .i64 a0_0), .sl 0, .sl 1, .sl 2]] ?_
          refine awp_ret ?_
          (try simp only [Thn, InBlk, ↓reduceIte, Nat.reduceEqDiff])
          obtain rfl := Option.some.inj h
          refine ⟨by simp, _, [0, 1, 2], (by simp only [go_sem, Nat.reduceBEq, Nat.reduceLT, Nat.reduceAdd, Nat.reduceLeDiff, Nat.reduceSub, Nat.reduceEqDiff, Int.reduceToNat, reduceCtorEq, ↓reduceIte]; exact rfl), ?_, ?_, ?_, ?_⟩
          · exact fin1
          · simp [selOk, pos]
          · simp
          · exact fin4
        · replace h := bite_f h hc6
          refine awp_skip ?_
          (try simp only [Thn, InBlk, ↓reduceIte, Nat.reduceEqDiff])
          refine hK5 _ _ ?_
          clear hK5
          replace h := bind_some h
          obtain ⟨y_2, hr0, h⟩ := h
          try dsimp only at h
          refine awp_to [(1, .v (.int .i64 y_2))] [.row false (.ints .i64 a0_1), .row false (.bools a0_2), .row false (.trips a0_3), .rbox [.v (.int .i64 a0_0), .sl 0, .sl 1, .sl 2]] ?_ ?_
          · clear h
            intro K hK
            refine awp_region ftCOk ?_
            simp (maxSteps := 4000000) only [go_sem, Nat.reduceBEq, Nat.reduceLT, Nat.reduceAdd, Nat.reduceLeDiff, Nat.reduceSub, Nat.reduceEqDiff, Int.reduceToNat, reduceCtorEq, ↓reduceIte]
            repeat' (first | refine And.intro ?_ ?_ | intro hg)
            all_goals (try simp (disch := omega) only [wrap_fits])
            all_goals first
              | (refine hK _ _ ?_; exact Red.auto)
              | exact trivial
              | assumption
              | omega
              | exact wrap_fits (by omega) (by omega)
              | (refine wpA_callA (k_laws_szMessageS a0_3 y_1 (h := hr0)) [2] [] ?_
                 rintro x Hc' ⟨rfl, rfl⟩ hlen
                 refine vcOps_sound ftCOk ?_
                 simp (maxSteps := 4000000) only [go_sem, Nat.reduceBEq, Nat.reduceLT, Nat.reduceAdd, Nat.reduceLeDiff, Nat.reduceSub, Nat.reduceEqDiff, Int.reduceToNat, reduceCtorEq, ↓reduceIte]
                 repeat' (first | refine And.intro ?_ ?_ | intro hg)
                 all_goals (try simp (disch := omega) only [wrap_fits])
                 all_goals first
                   | (refine hK _ _ ?_; exact Red.auto)
                   | exact trivial
                   | assumption
                   | omega
                   | exact wrap_fits (by omega) (by omega)
                   | (simp_all; done)
                   | (simp_all; omega))
              | (simp_all; done)
              | (simp_all; omega)
          · clear hr0
            refine awp_seq fun K8 hK8 => ?_
            refine awp_reg ftCOk [(1, .v (.int .i64 y_2)), (22, .v (.bool (decide (y_2 < 0))))] [.row false (.ints .i64 a0_1), .row false (.bools a0_2), .row false (.trips a0_3), .rbox [.v (.int .i64 a0_0), .sl 0, .sl 1, .sl 2]] ?_
            refine awp_cond (t := 22) rfl (fun hc9 => ?_) (fun hc9 => ?_)
            · replace h := bite_t h hc9
              refine awp_reg ftCOk [(4, .v (.int .i64 (-1)))] [.row false (.ints .i64 a0_1), .row false (.bools a0_2), .row false (.trips a0_3), .rbox [.v (.int .i64 a0_0), .sl 0, .sl 1, .sl 2]] ?_
              refine awp_ret ?_
              (try simp only [Thn, InBlk, ↓reduceIte, Nat.reduceEqDiff])
              obtain rfl := Option.some.inj h
              refine ⟨by simp, _, [0, 1, 2], (by simp only [go_sem, Nat.reduceBEq, Nat.reduceLT, Nat.reduceAdd, Nat.reduceLeDiff, Nat.reduceSub, Nat.reduceEqDiff, Int.reduceToNat, reduceCtorEq, ↓reduceIte]; exact rfl), ?_, ?_, ?_, ?_⟩
              · exact fin1
              · simp [selOk, pos]
              · simp
              · exact fin4
            · replace h := bite_f h hc9
              refine awp_skip ?_
              (try simp only [Thn, InBlk, ↓reduceIte, Nat.reduceEqDiff])
              refine hK8 _ _ ?_
              clear hK8
              refine awp_reg ftCOk [(4, .v (.int .i64 y_2))] [.row false (.ints .i64 a0_1), .row false (.bools a0_2), .row false (.trips a0_3), .rbox [.v (.int .i64 a0_0), .sl 0, .sl 1, .sl 2]] ?_
              refine awp_ret ?_
              (try simp only [Thn, InBlk, ↓reduceIte, Nat.reduceEqDiff])
              obtain rfl := Option.some.inj h
              refine ⟨by simp, _, [0, 1, 2], (by simp only [go_sem, Nat.reduceBEq, Nat.reduceLT, Nat.reduceAdd, Nat.reduceLeDiff, Nat.reduceSub, Nat.reduceEqDiff, Int.reduceToNat, reduceCtorEq, ↓reduceIte]; exact rfl), ?_, ?_, ?_, ?_⟩
              · exact fin1
              · simp [selOk, pos]
              · simp
              · exact fin4
theorem k_laws_toProgram (a0_0 : Int) (a0_1 : Int) (a0_2 : Int) {r : Int × Int × Int} (h : laws_toProgram a0_0 a0_1 a0_2 = some r) :
    FnA Try.prog 6 [.agg [.v (.int .i64 a0_0), .v (.int .i64 a0_1), .v (.int .i64 a0_2)]] [] [] (fun x H => x = .agg [.v (.int .i64 r.1), .v (.int .i64 r.2.1), .v (.int .i64 r.2.2)] ∧ H = []) := by
  unfold laws_toProgram at h
  refine FnA.of (N := 14) (pin := []) (rs := [.cell 2 34]) Try.func6 rfl en6 rfl rfl (by simp) (by simp; try omega) ?_
  refine awp_reg ftCOk [(1, .pp 0 0), (2, .pp 1 0)] [.box [.v (.int .i64 a0_0), .v (.int .i64 a0_1), .v (.int .i64 a0_2)], .box [.v (.int .i64 0), .v (.int .i64 0), .v (.int .i64 0)]] ?_
  refine awp_freeze 1 (by rfl) (by rfl) (by exact rfl) ?_
  refine awp_reg ftCOk [(1, .pp 0 0), (2, .pp 1 0), (3, .pp 2 0)] [.rbox [.v (.int .i64 a0_0), .v (.int .i64 a0_1), .v (.int .i64 a0_2)], .box [.v (.int .i64 0), .v (.int .i64 0), .v (.int .i64 0)], .box [.v (.int .i64 0), .v (.int .i64 0), .v (.int .i64 0)]] ?_
  refine awp_reg ftCOk [(1, .pp 0 0), (2, .pp 1 0), (3, .pp 2 0)] [.rbox [.v (.int .i64 a0_0), .v (.int .i64 a0_1), .v (.int .i64 a0_2)], .box [.v (.int .i64 0), .v (.int .i64 0), .v (.int .i64 0)], .box [.v (.int .i64 a0_0), .v (.int .i64 0), .v (.int .i64 0)]] ?_
  refine awp_reg ftCOk [(1, .pp 0 0), (2, .pp 1 0), (3, .pp 2 0)] [.rbox [.v (.int .i64 a0_0), .v (.int .i64 a0_1), .v (.int .i64 a0_2)], .box [.v (.int .i64 0), .v (.int .i64 0), .v (.int .i64 0)], .box [.v (.int .i64 a0_0), .v (.int .i64 a0_1), .v (.int .i64 0)]] ?_
  refine awp_reg ftCOk [(2, .pp 1 0), (3, .pp 2 0)] [.rbox [.v (.int .i64 a0_0), .v (.int .i64 a0_1), .v (.int .i64 a0_2)], .box [.v (.int .i64 0), .v (.int .i64 0), .v (.int .i64 0)], .box [.v (.int .i64 a0_0), .v (.int .i64 a0_1), .v (.int .i64 a0_2)]] ?_
  refine awp_reg ftCOk [(2, .pp 1 0)] [.rbox [.v (.int .i64 a0_0), .v (.int .i64 a0_1), .v (.int .i64 a0_2)], .box [.v (.int .i64 a0_0), .v (.int .i64 a0_1), .v (.int .i64 a0_2)], .box [.v (.int .i64 a0_0), .v (.int .i64 a0_1), .v (.int .i64 a0_2)]] ?_
  refine awp_ret ?_
  (try simp only [Thn, InBlk, ↓reduceIte, Nat.reduceEqDiff])
  obtain rfl := Option.some.inj h
  refine ⟨by simp, _, [], (by simp only [go_sem, Nat.reduceBEq, Nat.reduceLT, Nat.reduceAdd, Nat.reduceLeDiff, Nat.reduceSub, Nat.reduceEqDiff, Int.reduceToNat, reduceCtorEq, ↓reduceIte]; exact rfl), ?_, ?_, ?_, ?_⟩
  · exact fin1
  · simp [selOk, pos]
  · simp
  · exact fin4
theorem k_laws_toIntS (a0 : List Int) {r : List Int} (h : laws_toIntS a0 = some r) :
    FnA Try.prog 19 [.sl 0] [.row false (.ints .i64 a0)] [] (fun x H => x = .sl 1 ∧ H = [.row false (.ints .i64 a0), .row true (.ints .i64 r)]) := by
  unfold laws_toIntS at h
  refine FnA.of (N := 22) (pin := [0]) (rs := [.tmp 2]) Try.func19 rfl en19 rfl rfl (by simp) (by simp; try omega) ?_
  refine awp_reg ftCOk [(0, .sl 0)] [.row false (.ints .i64 a0)] ?_
  replace h := chk_some h
  obtain ⟨hp0, h⟩ := h
  refine awp_reg ftCOk [(0, .sl 0), (3, .sl 1)] [.row false (.ints .i64 a0), .row true (.ints .i64 (List.replicate ((a0.length : Int).toNat) 0))] ?_
  clear hp0
  refine awp_seq fun K14 hK14 => ?_
  refine awp_reg ftCOk [(0, .sl 0), (3, .sl 1), (4, .v (.int .i64 0))] [.row false (.ints .i64 a0), .row true (.ints .i64 (List.replicate ((a0.length : Int).toNat) 0))] ?_
  refine awp_block ?_
  replace h := bind_some h
  obtain ⟨t3s_1, hx, h⟩ := h
  refine awp_loopL hx (fun ((t4, t3s) : Int × List Int) => [(0, .sl 0), (3, .sl 1), (4, .v (.int .i64 t4))]) (fun ((t4, t3s) : Int × List Int) => [.row false (.ints .i64 a0), .row true (.ints .i64 t3s)]) (fun (t3s_1 : List Int) => Exit.exit 0) (fun (t3s_1 : List Int) => [(3, .sl 1)]) (fun (t3s_1 : List Int) => [.row false (.ints .i64 a0), .row true (.ints .i64 t3s_1)]) ?_ ?_ ?_ ?_
  · rintro t3s_1 hy <;> cases hy
  · clear h hx
    exact Red.auto
  · clear h hx
    rintro ⟨t4, t3s⟩ r h
    unfold laws_toIntS_b0 at h
    try dsimp only at h
    try dsimp only
    refine awp_seq fun K24 hK24 => ?_
    refine awp_reg ftCOk [(0, .sl 0), (3, .sl 1), (4, .v (.int .i64 t4)), (11, .v (.bool (decide (t4 < (a0.length : Int)))))] [.row false (.ints .i64 a0), .row true (.ints .i64 t3s)] ?_
    refine awp_cond (t := 11) rfl (fun hc25 => ?_) (fun hc25 => ?_)
    · replace h := bite_t h hc25
      refine awp_skip ?_
      (try simp only [Thn, InBlk, ↓reduceIte, Nat.reduceEqDiff])
      refine hK24 _ _ ?_
      clear hK24
      refine awp_seq fun K26 hK26 => ?_
      refine awp_block ?_
      replace h := chk_some h
      obtain ⟨hp0, h⟩ := h
      replace h := chk_some h
      obtain ⟨hp1, h⟩ := h
      refine awp_regE ftCOk [(0, .sl 0), (3, .sl 1), (4, .v (.int .i64 t4))] [.row false (.ints .i64 a0), .row true (.ints .i64 (t3s.set t4.toNat (a0.getD t4.toNat 0)))] ?_
      clear hp0 hp1
      (try simp only [Thn, InBlk, ↓reduceIte, Nat.reduceEqDiff])
      (try simp only [Thn, InBlk, ↓reduceIte, Nat.reduceEqDiff])
      refine hK26 _ _ ?_
      clear hK26
      replace h := chk_some h
      obtain ⟨hp0, h⟩ := h
      refine awp_regE ftCOk [(0, .sl 0), (3, .sl 1), (4, .v (.int .i64 (t4 + 1)))] [.row false (.ints .i64 a0), .row true (.ints .i64 (t3s.set t4.toNat (a0.getD t4.toNat 0)))] ?_
      clear hp0
      obtain rfl := Option.some.inj h
      refine LoopQ.next ?_
      exact Red.auto
    · replace h := bite_f h hc25
      refine awp_exit ?_
      (try simp only [Thn, InBlk, ↓reduceIte, Nat.reduceEqDiff])
      obtain rfl := Option.some.inj h
      refine LoopQ.out rfl ?_
      exact Red.auto
  · clear hx
    skip
    · try dsimp only [Sum.elim_inl, Sum.elim_inr] at h
      try dsimp only [Sum.elim_inl, Sum.elim_inr]
      (try simp only [Thn, InBlk, ↓reduceIte, Nat.reduceEqDiff])
      (try simp only [Thn, InBlk, ↓reduceIte, Nat.reduceEqDiff])
      (try simp only [Thn, InBlk, ↓reduceIte, Nat.reduceEqDiff])
      refine hK14 _ _ ?_
      clear hK14
      refine awp_reg ftCOk [(2, .sl 1)] [.row false (.ints .i64 a0), .row true (.ints .i64 t3s_1)] ?_
      refine awp_ret ?_
      (try simp only [Thn, InBlk, ↓reduceIte, Nat.reduceEqDiff])
      obtain rfl := Option.some.inj h
      refine ⟨by simp, _, [0, 1], (by simp only [go_sem, Nat.reduceBEq, Nat.reduceLT, Nat.reduceAdd, Nat.reduceLeDiff, Nat.reduceSub, Nat.reduceEqDiff, Int.reduceToNat, reduceCtorEq, ↓reduceIte]; exact rfl), ?_, ?_, ?_, ?_⟩
      · exact fin1
      · simp [selOk, pos]
      · simp
      · exact fin4
theorem k_laws_toBoolS (a0 : List Bool) {r : List Bool} (h : laws_toBoolS a0 = some r) :
    FnA Try.prog 20 [.sl 0] [.row false (.bools a0)] [] (fun x H => x = .sl 1 ∧ H = [.row false (.bools a0), .row true (.bools r)]) := by
  unfold laws_toBoolS at h
  refine FnA.of (N := 22) (pin := [0]) (rs := [.tmp 2]) Try.func20 rfl en20 rfl rfl (by simp) (by simp; try omega) ?_
  refine awp_reg ftCOk [(0, .sl 0)] [.row false (.bools a0)] ?_
  replace h := chk_some h
  obtain ⟨hp0, h⟩ := h
  refine awp_reg ftCOk [(0, .sl 0), (3, .sl 1)] [.row false (.bools a0), .row true (.bools (List.replicate ((a0.length : Int).toNat) false))] ?_
  clear hp0
  refine awp_seq fun K14 hK14 => ?_
  refine awp_reg ftCOk [(0, .sl 0), (3, .sl 1), (4, .v (.int .i64 0))] [.row false (.bools a0), .row true (.bools (List.replicate ((a0.length : Int).toNat) false))] ?_
  refine awp_block ?_
  replace h := bind_some h
  obtain ⟨t3s_1, hx, h⟩ := h
  refine awp_loopL hx (fun ((t4, t3s) : Int × List Bool) => [(0, .sl 0), (3, .sl 1), (4, .v (.int .i64 t4))]) (fun ((t4, t3s) : Int × List Bool) => [.row false (.bools a0), .row true (.bools t3s)]) (fun (t3s_1 : List Bool) => Exit.exit 0) (fun (t3s_1 : List Bool) => [(3, .sl 1)]) (fun (t3s_1 : List Bool) => [.row false (.bools a0), .row true (.bools t3s_1)]) ?_ ?_ ?_ ?_
  · rintro t3s_1 hy <;> cases hy
  · clear h hx
    exact Red.auto
  · clear h hx
    rintro ⟨t4, t3s⟩ r h
    unfold laws_toBoolS_b0 at h
    try dsimp only at h
    try dsimp only
    refine awp_seq fun K24 hK24 => ?_
    refine awp_reg ftCOk [(0, .sl 0), (3, .sl 1), (4, .v (.int .i64 t4)), (11, .v (.bool (decide (t4 < (a0.length : Int)))))] [.row false (.bools a0), .row true (.bools t3s)] ?_
    refine awp_cond (t := 11) rfl (fun hc25 => ?_) (fun hc25 => ?_)
    · replace h := bite_t h hc25
      refine awp_skip ?_
      (try simp only [Thn, InBlk, ↓reduceIte, Nat.reduceEqDiff])
      refine hK24 _ _ ?_
      clear hK24
      refine awp_seq fun K26 hK26 => ?_
      refine awp_block ?_
      replace h := chk_some h
      obtain ⟨hp0, h⟩ := h
      replace h := chk_some h
      obtain ⟨hp1, h⟩ := h
      refine awp_regE ftCOk [(0, .sl 0), (3, .sl 1), (4, .v (.int .i64 t4))] [.row false (.bools a0), .row true (.bools (t3s.set t4.toNat (a0.getD t4.toNat false)))] ?_
      clear hp0 hp1
      (try simp only [Thn, InBlk, ↓reduceIte, Nat.reduceEqDiff])
      (try simp only [Thn, InBlk, ↓reduceIte, Nat.reduceEqDiff])
      refine hK26 _ _ ?_
      clear hK26
      replace h := chk_some h
      obtain ⟨hp0, h⟩ := h
      refine awp_regE ftCOk [(0, .sl 0), (3, .sl 1), (4, .v (.int .i64 (t4 + 1)))] [.row false (.bools a0), .row true (.bools (t3s.set t4.toNat (a0.getD t4.toNat false)))] ?_
      clear hp0
      obtain rfl := Option.some.inj h
      refine LoopQ.next ?_
      exact Red.auto
    · replace h := bite_f h hc25
      refine awp_exit ?_
      (try simp only [Thn, InBlk, ↓reduceIte, Nat.reduceEqDiff])
      obtain rfl := Option.some.inj h
      refine LoopQ.out rfl ?_
      exact Red.auto
  · clear hx
    skip
    · try dsimp only [Sum.elim_inl, Sum.elim_inr] at h
      try dsimp only [Sum.elim_inl, Sum.elim_inr]
      (try simp only [Thn, InBlk, ↓reduceIte, Nat.reduceEqDiff])
      (try simp only [Thn, InBlk, ↓reduceIte, Nat.reduceEqDiff])
      (try simp only [Thn, InBlk, ↓reduceIte, Nat.reduceEqDiff])
      refine hK14 _ _ ?_
      clear hK14
      refine awp_reg ftCOk [(2, .sl 1)] [.row false (.bools a0), .row true (.bools t3s_1)] ?_
      refine awp_ret ?_
      (try simp only [Thn, InBlk, ↓reduceIte, Nat.reduceEqDiff])
      obtain rfl := Option.some.inj h
      refine ⟨by simp, _, [0, 1], (by simp only [go_sem, Nat.reduceBEq, Nat.reduceLT, Nat.reduceAdd, Nat.reduceLeDiff, Nat.reduceSub, Nat.reduceEqDiff, Int.reduceToNat, reduceCtorEq, ↓reduceIte]; exact rfl), ?_, ?_, ?_, ?_⟩
      · exact fin1
      · simp [selOk, pos]
      · simp
      · exact fin4
theorem k_laws_toMessage (a0_0 : Int) (a0_1 : Int) (a0_2 : Int) {r : Int × Int × Int} (h : laws_toMessage a0_0 a0_1 a0_2 = some r) :
    FnA Try.prog 40 [.agg [.v (.int .i64 a0_0), .v (.int .i64 a0_1), .v (.int .i64 a0_2)]] [] [] (fun x H => x = .agg [.v (.int .i64 r.1), .v (.int .i64 r.2.1), .v (.int .i64 r.2.2)] ∧ H = []) := by
  unfold laws_toMessage at h
  refine FnA.of (N := 14) (pin := []) (rs := [.cell 2 59]) Try.func40 rfl en40 rfl rfl (by simp) (by simp; try omega) ?_
  refine awp_reg ftCOk [(1, .pp 0 0), (2, .pp 1 0)] [.box [.v (.int .i64 a0_0), .v (.int .i64 a0_1), .v (.int .i64 a0_2)], .box [.v (.int .i64 0), .v (.int .i64 0), .v (.int .i64 0)]] ?_
  refine awp_freeze 1 (by rfl) (by rfl) (by exact rfl) ?_
  refine awp_reg ftCOk [(1, .pp 0 0), (2, .pp 1 0), (3, .pp 2 0)] [.rbox [.v (.int .i64 a0_0), .v (.int .i64 a0_1), .v (.int .i64 a0_2)], .box [.v (.int .i64 0), .v (.int .i64 0), .v (.int .i64 0)], .box [.v (.int .i64 0), .v (.int .i64 0), .v (.int .i64 0)]] ?_
  refine awp_reg ftCOk [(1, .pp 0 0), (2, .pp 1 0), (3, .pp 2 0)] [.rbox [.v (.int .i64 a0_0), .v (.int .i64 a0_1), .v (.int .i64 a0_2)], .box [.v (.int .i64 0), .v (.int .i64 0), .v (.int .i64 0)], .box [.v (.int .i64 a0_0), .v (.int .i64 0), .v (.int .i64 0)]] ?_
  refine awp_reg ftCOk [(1, .pp 0 0), (2, .pp 1 0), (3, .pp 2 0)] [.rbox [.v (.int .i64 a0_0), .v (.int .i64 a0_1), .v (.int .i64 a0_2)], .box [.v (.int .i64 0), .v (.int .i64 0), .v (.int .i64 0)], .box [.v (.int .i64 a0_0), .v (.int .i64 a0_1), .v (.int .i64 0)]] ?_
  refine awp_reg ftCOk [(2, .pp 1 0), (3, .pp 2 0)] [.rbox [.v (.int .i64 a0_0), .v (.int .i64 a0_1), .v (.int .i64 a0_2)], .box [.v (.int .i64 0), .v (.int .i64 0), .v (.int .i64 0)], .box [.v (.int .i64 a0_0), .v (.int .i64 a0_1), .v (.int .i64 a0_2)]] ?_
  refine awp_reg ftCOk [(2, .pp 1 0)] [.rbox [.v (.int .i64 a0_0), .v (.int .i64 a0_1), .v (.int .i64 a0_2)], .box [.v (.int .i64 a0_0), .v (.int .i64 a0_1), .v (.int .i64 a0_2)], .box [.v (.int .i64 a0_0), .v (.int .i64 a0_1), .v (.int .i64 a0_2)]] ?_
  refine awp_ret ?_
  (try simp only [Thn, InBlk, ↓reduceIte, Nat.reduceEqDiff])
  obtain rfl := Option.some.inj h
  refine ⟨by simp, _, [], (by simp only [go_sem, Nat.reduceBEq, Nat.reduceLT, Nat.reduceAdd, Nat.reduceLeDiff, Nat.reduceSub, Nat.reduceEqDiff, Int.reduceToNat, reduceCtorEq, ↓reduceIte]; exact rfl), ?_, ?_, ?_, ?_⟩
  · exact fin1
  · simp [selOk, pos]
  · simp
  · exact fin4
theorem k_laws_toMessageS (a0 : List (Int × Int × Int)) {r : (List (Int × Int × Int))} (h : laws_toMessageS a0 = some r) :
    FnA Try.prog 21 [.sl 0] [.row false (.trips a0)] [] (fun x H => x = .sl 1 ∧ H = [.row false (.trips a0), .row true (.trips r)]) := by
  unfold laws_toMessageS at h
  refine FnA.of (N := 23) (pin := [0]) (rs := [.tmp 2]) Try.func21 rfl en21 rfl rfl (by simp) (by simp; try omega) ?_
  refine awp_reg ftCOk [(0, .sl 0)] [.row false (.trips a0)] ?_
  replace h := chk_some h
  obtain ⟨hp0, h⟩ := h
  refine awp_reg ftCOk [(0, .sl 0), (3, .sl 1)] [.row false (.trips a0), .row true (.trips (List.replicate ((a0.length : Int).toNat) (0, 0, 0)))] ?_
  clear hp0
  refine awp_seq fun K14 hK14 => ?_
  refine awp_reg ftCOk [(0, .sl 0), (3, .sl 1), (4, .v (.int .i64 0))] [.row false (.trips a0), .row true (.trips (List.replicate ((a0.length : Int).toNat) (0, 0, 0)))] ?_
  refine awp_block ?_
  replace h := bind_some h
  obtain ⟨t3s_1, hx, h⟩ := h
  refine awp_loopL hx (fun ((t4, t3s) : Int × (List (Int × Int × Int))) => [(0, .sl 0), (3, .sl 1), (4, .v (.int .i64 t4))]) (fun ((t4, t3s) : Int × (List (Int × Int × Int))) => [.row false (.trips a0), .row true (.trips t3s)]) (fun (t3s_1 : List (Int × Int × Int)) => Exit.exit 0) (fun (t3s_1 : List (Int × Int × Int)) => [(3, .sl 1)]) (fun (t3s_1 : List (Int × Int × Int)) => [.row false (.trips a0), .row true (.trips t3s_1)]) ?_ ?_ ?_ ?_
  · rintro t3s_1 hy <;> cases hy
  · clear h hx
    exact Red.auto
  · clear h hx
    rintro ⟨t4, t3s⟩ r h
    unfold laws_toMessageS_b0 at h
    try dsimp only at h
    try dsimp only
    refine awp_seq fun K24 hK24 => ?_
    refine awp_reg ftCOk [(0, .sl 0), (3, .sl 1), (4, .v (.int .i64 t4)), (11, .v (.bool (decide (t4 < (a0.length : Int)))))] [.row false (.trips a0), .row true (.trips t3s)] ?_
    refine awp_cond (t := 11) rfl (fun hc25 => ?_) (fun hc25 => ?_)
    · replace h := bite_t h hc25
      refine awp_skip ?_
      (try simp only [Thn, InBlk, ↓reduceIte, Nat.reduceEqDiff])
      refine hK24 _ _ ?_
      clear hK24
      refine awp_seq fun K26 hK26 => ?_
      refine awp_block ?_
      replace h := chk_some h
      obtain ⟨hp0, h⟩ := h
      replace h := bind_some h
      obtain ⟨⟨y, y_1, y_2⟩, hr1, h⟩ := h
      try dsimp only at h
      replace h := chk_some h
      obtain ⟨hp2, h⟩ := h
      refine awp_end [(0, .sl 0), (3, .sl 1), (4, .v (.int .i64 t4))] [.row false (.trips a0), .row true (.trips (t3s.set t4.toNat (y, y_1, y_2)))] ?_ ?_
      · clear h
        intro K hK
        refine awp_region ftCOk ?_
        simp (maxSteps := 4000000) only [go_sem, Nat.reduceBEq, Nat.reduceLT, Nat.reduceAdd, Nat.reduceLeDiff, Nat.reduceSub, Nat.reduceEqDiff, Int.reduceToNat, reduceCtorEq, ↓reduceIte]
        repeat' (first | refine And.intro ?_ ?_ | intro hg)
        all_goals (try simp (disch := omega) only [wrap_fits])
        all_goals first
          | (refine hK _ _ ?_; exact Red.auto)
          | exact trivial
          | assumption
          | omega
          | exact wrap_fits (by omega) (by omega)
          | (refine wpA_callA (k_laws_toMessage ((a0.getD t4.toNat (0, 0, 0)).1) ((a0.getD t4.toNat (0, 0, 0)).2.1) ((a0.getD t4.toNat (0, 0, 0)).2.2) (h := hr1)) [] [] ?_
             rintro x Hc' ⟨rfl, rfl⟩ hlen
             refine vcOps_sound ftCOk ?_
             simp (maxSteps := 4000000) only [go_sem, Nat.reduceBEq, Nat.reduceLT, Nat.reduceAdd, Nat.reduceLeDiff, Nat.reduceSub, Nat.reduceEqDiff, Int.reduceToNat, reduceCtorEq, ↓reduceIte]
             repeat' (first | refine And.intro ?_ ?_ | intro hg)
             all_goals (try simp (disch := omega) only [wrap_fits])
             all_goals first
               | (refine hK _ _ ?_; exact Red.auto)
               | exact trivial
               | assumption
               | omega
               | exact wrap_fits (by omega) (by omega)
               | (simp_all; done)
               | (simp_all; omega))
          | (simp_all; done)
          | (simp_all; omega)
      · clear hp0 hr1 hp2
        (try simp only [Thn, InBlk, ↓reduceIte, Nat.reduceEqDiff])
        (try simp only [Thn, InBlk, ↓reduceIte, Nat.reduceEqDiff])
        refine hK26 _ _ ?_
        clear hK26
        replace h := chk_some h
        obtain ⟨hp0, h⟩ := h
        refine awp_regE ftCOk [(0, .sl 0), (3, .sl 1), (4, .v (.int .i64 (t4 + 1)))] [.row false (.trips a0), .row true (.trips (t3s.set t4.toNat (y, y_1, y_2)))] ?_
        clear hp0
        obtain rfl := Option.some.inj h
        refine LoopQ.next ?_
        exact Red.auto
    · replace h := bite_f h hc25
      refine awp_exit ?_
      (try simp only [Thn, InBlk, ↓reduceIte, Nat.reduceEqDiff])
      obtain rfl := Option.some.inj h
      refine LoopQ.out rfl ?_
      exact Red.auto
  · clear hx
    skip
    · try dsimp only [Sum.elim_inl, Sum.elim_inr] at h
      try dsimp only [Sum.elim_inl, Sum.elim_inr]
      (try simp only [Thn, InBlk, ↓reduceIte, Nat.reduceEqDiff])
      (try simp only [Thn, InBlk, ↓reduceIte, Nat.reduceEqDiff])
      (try simp only [Thn, InBlk, ↓reduceIte, Nat.reduceEqDiff])
      refine hK14 _ _ ?_
      clear hK14
      refine awp_reg ftCOk [(2, .sl 1)] [.row false (.trips a0), .row true (.trips t3s_1)] ?_
      refine awp_ret ?_
      (try simp only [Thn, InBlk, ↓reduceIte, Nat.reduceEqDiff])
      obtain rfl := Option.some.inj h
      refine ⟨by simp, _, [0, 1], (by simp only [go_sem, Nat.reduceBEq, Nat.reduceLT, Nat.reduceAdd, Nat.reduceLeDiff, Nat.reduceSub, Nat.reduceEqDiff, Int.reduceToNat, reduceCtorEq, ↓reduceIte]; exact rfl), ?_, ?_, ?_, ?_⟩
      · exact fin1
      · simp [selOk, pos]
      · simp
      · exact fin4
theorem k_laws_toState (a0_0 : Int) (a0_1 : List Int) (a0_2 : List Bool) (a0_3 : List (Int × Int × Int)) {r : Int × List Int × List Bool × (List (Int × Int × Int))} (h : laws_toState a0_0 a0_1 a0_2 a0_3 = some r) :
    FnA Try.prog 7 [.agg [.v (.int .i64 a0_0), .sl 0, .sl 1, .sl 2]] [.row false (.ints .i64 a0_1), .row false (.bools a0_2), .row false (.trips a0_3)] [] (fun x H => x = .agg [.v (.int .i64 r.1), .sl 3, .sl 4, .sl 5] ∧ H = [.row false (.ints .i64 a0_1), .row false (.bools a0_2), .row false (.trips a0_3), .row true (.ints .i64 r.2.1), .row true (.bools r.2.2.1), .row true (.trips r.2.2.2)]) := by
  unfold laws_toState at h
  refine FnA.of (N := 20) (pin := [0, 1, 2]) (rs := [.cell 2 32]) Try.func7 rfl en7 rfl rfl (by simp) (by simp; try omega) ?_
  refine awp_reg ftCOk [(1, .pp 3 0), (2, .pp 4 0)] [.row false (.ints .i64 a0_1), .row false (.bools a0_2), .row false (.trips a0_3), .box [.v (.int .i64 a0_0), .sl 0, .sl 1, .sl 2], .box [.v (.int .i64 0), .v (.slice none 0 0), .v (.slice none 0 0), .v (.slice none 0 0)]] ?_
  refine awp_freeze 1 (by rfl) (by rfl) (by exact rfl) ?_
  refine awp_reg ftCOk [(1, .pp 3 0), (2, .pp 4 0), (3, .pp 5 0)] [.row false (.ints .i64 a0_1), .row false (.bools a0_2), .row false (.trips a0_3), .rbox [.v (.int .i64 a0_0), .sl 0, .sl 1, .sl 2], .box [.v (.int .i64 0), .v (.slice none 0 0), .v (.slice none 0 0), .v (.slice none 0 0)], .box [.v (.int .i64 0), .v (.slice none 0 0), .v (.slice none 0 0), .v (.slice none 0 0)]] ?_
  refine awp_reg ftCOk [(1, .pp 3 0), (2, .pp 4 0), (3, .pp 5 0)] [.row false (.ints .i64 a0_1), .row false (.bools a0_2), .row false (.trips a0_3), .rbox [.v (.int .i64 a0_0), .sl 0, .sl 1, .sl 2], .box [.v (.int .i64 0), .v (.slice none 0 0), .v (.slice none 0 0), .v (.slice none 0 0)], .box [.v (.int .i64 a0_0), .v (.slice none 0 0), .v (.slice none 0 0), .v (.slice none 0 0)]] ?_
  replace h := bind_some h
  obtain ⟨y, hr0, h⟩ := h
  try dsimp only at h
  refine awp_to [(1, .pp 3 0), (2, .pp 4 0), (3, .pp 5 0)] [.row false (.ints .i64 a0_1), .row false (.bools a0_2), .row false (.trips a0_3), .rbox [.v (.int .i64 a0_0), .sl 0, .sl 1, .sl 2], .box [.v (.int .i64 0), .v (.slice none 0 0), .v (.slice none 0 0), .v (.slice none 0 0)], .box [.v (.int .i64 a0_0), .sl 6, .v (.slice none 0 0), .v (.slice none 0 0)], .row true (.ints .i64 y)] ?_ ?_
  · clear h
    intro K hK
    refine awp_region ftCOk ?_
    simp (maxSteps := 4000000) only [go_sem, Nat.reduceBEq, Nat.reduceLT, Nat.reduceAdd, Nat.reduceLeDiff, Nat.reduceSub, Nat.reduceEqDiff, Int.reduceToNat, reduceCtorEq, ↓reduceIte]
    repeat' (first | refine And.intro ?_ ?_ | intro hg)
    all_goals (try simp (disch := omega) only [wrap_fits])
    all_goals first
      | (refine hK _ _ ?_; exact Red.auto)
      | exact trivial
      | assumption
      | omega
      | exact wrap_fits (by omega) (by omega)
      | (refine wpA_callA (k_laws_toIntS a0_1 (h := hr0)) [0] [] ?_
         rintro x Hc' ⟨rfl, rfl⟩ hlen
         refine vcOps_sound ftCOk ?_
         simp (maxSteps := 4000000) only [go_sem, Nat.reduceBEq, Nat.reduceLT, Nat.reduceAdd, Nat.reduceLeDiff, Nat.reduceSub, Nat.reduceEqDiff, Int.reduceToNat, reduceCtorEq, ↓reduceIte]
         repeat' (first | refine And.intro ?_ ?_ | intro hg)
         all_goals (try simp (disch := omega) only [wrap_fits])
         all_goals first
           | (refine hK _ _ ?_; exact Red.auto)
           | exact trivial
           | assumption
           | omega
           | exact wrap_fits (by omega) (by omega)
           | (simp_all; done)
           | (simp_all; omega))
      | (simp_all; done)
      | (simp_all; omega)
  · clear hr0
    replace h := bind_some h
    obtain ⟨y_1, hr0, h⟩ := h
    try dsimp only at h
    refine awp_to [(1, .pp 3 0), (2, .pp 4 0), (3, .pp 5 0)] [.row false (.ints .i64 a0_1), .row false (.bools a0_2), .row false (.trips a0_3), .rbox [.v (.int .i64 a0_0), .sl 0, .sl 1, .sl 2], .box [.v (.int .i64 0), .v (.slice none 0 0), .v (.slice none 0 0), .v (.slice none 0 0)], .box [.v (.int .i64 a0_0), .sl 6, .sl 7, .v (.slice none 0 0)], .row true (.ints .i64 y), .row true (.bools y_1)] ?_ ?_
    · clear h
      intro K hK
      refine awp_region ftCOk ?_
      simp (maxSteps := 4000000) only [go_sem, Nat.reduceBEq, Nat.reduceLT, Nat.reduceAdd, Nat.reduceLeDiff, Nat.reduceSub, Nat.reduceEqDiff, Int.reduceToNat, reduceCtorEq, ↓reduceIte]
      repeat' (first | refine And.intro ?_ ?_ | intro hg)
      all_goals (try simp (disch := omega) only [wrap_fits])
      all_goals first
        | (refine hK _ _ ?_; exact Red.auto)
        | exact trivial
        | assumption
        | omega
        | exact wrap_fits (by omega) (by omega)
        | (refine wpA_callA (k_laws_toBoolS a0_2 (h := hr0)) [1] [] ?_
           rintro x Hc' ⟨rfl, rfl⟩ hlen
           refine vcOps_sound ftCOk ?_
           simp (maxSteps := 4000000) only [go_sem, Nat.reduceBEq, Nat.reduceLT, Nat.reduceAdd, Nat.reduceLeDiff, Nat.reduceSub, Nat.reduceEqDiff, Int.reduceToNat, reduceCtorEq, ↓reduceIte]
           repeat' (first | refine And.intro ?_ ?_ | intro hg)
           all_goals (try simp (disch := omega) only [wrap_fits])
           all_goals first
             | (refine hK _ _ ?_; exact Red.auto)
             | exact trivial
             | assumption
             | omega
             | exact wrap_fits (by omega) (by omega)
             | (simp_all; done)
             | (simp_all; omega))
        | (simp_all; done)
        | (simp_all; omega)
    · clear hr0
      replace h := bind_some h
      obtain ⟨y_2, hr0, h⟩ := h
      try dsimp only at h
      refine awp_to [(2, .pp 4 0), (3, .pp 5 0)] [.row false (.ints .i64 a0_1), .row false (.bools a0_2), .row false (.trips a0_3), .rbox [.v (.int .i64 a0_0), .sl 0, .sl 1, .sl 2], .box [.v (.int .i64 0), .v (.slice none 0 0), .v (.slice none 0 0), .v (.slice none 0 0)], .box [.v (.int .i64 a0_0), .sl 6, .sl 7, .sl 8], .row true (.ints .i64 y), .row true (.bools y_1), .row true (.trips y_2)] ?_ ?_
      · clear h
        intro K hK
        refine awp_region ftCOk ?_
        simp (maxSteps := 4000000) only [go_sem, Nat.reduceBEq, Nat.reduceLT, Nat.reduceAdd, Nat.reduceLeDiff, Nat.reduceSub, Nat.reduceEqDiff, Int.reduceToNat, reduceCtorEq, ↓reduceIte]
        repeat' (first | refine And.intro ?_ ?_ | intro hg)
        all_goals (try simp (disch := omega) only [wrap_fits])
        all_goals first
          | (refine hK _ _ ?_; exact Red.auto)
          | exact trivial
          | assumption
          | omega
          | exact wrap_fits (by omega) (by omega)
          | (refine wpA_callA (k_laws_toMessageS a0_3 (h := hr0)) [2] [] ?_
             rintro x Hc' ⟨rfl, rfl⟩ hlen
             refine vcOps_sound ftCOk ?_
             simp (maxSteps := 4000000) only [go_sem, Nat.reduceBEq, Nat.reduceLT, Nat.reduceAdd, Nat.reduceLeDiff, Nat.reduceSub, Nat.reduceEqDiff, Int.reduceToNat, reduceCtorEq, ↓reduceIte]
             repeat' (first | refine And.intro ?_ ?_ | intro hg)
             all_goals (try simp (disch := omega) only [wrap_fits])
             all_goals first
               | (refine hK _ _ ?_; exact Red.auto)
               | exact trivial
               | assumption
               | omega
               | exact wrap_fits (by omega) (by omega)
               | (simp_all; done)
               | (simp_all; omega))
          | (simp_all; done)
          | (simp_all; omega)
      · clear hr0
        refine awp_reg ftCOk [(2, .pp 4 0)] [.row false (.ints .i64 a0_1), .row false (.bools a0_2), .row false (.trips a0_3), .rbox [.v (.int .i64 a0_0), .sl 0, .sl 1, .sl 2], .box [.v (.int .i64 a0_0), .sl 6, .sl 7, .sl 8], .box [.v (.int .i64 a0_0), .sl 6, .sl 7, .sl 8], .row true (.ints .i64 y), .row true (.bools y_1), .row true (.trips y_2)] ?_
        refine awp_ret ?_
        (try simp only [Thn, InBlk, ↓reduceIte, Nat.reduceEqDiff])
        obtain rfl := Option.some.inj h
        refine ⟨by simp, _, [0, 1, 2, 6, 7, 8], (by simp only [go_sem, Nat.reduceBEq, Nat.reduceLT, Nat.reduceAdd, Nat.reduceLeDiff, Nat.reduceSub, Nat.reduceEqDiff, Int.reduceToNat, reduceCtorEq, ↓reduceIte]; exact rfl), ?_, ?_, ?_, ?_⟩
        · exact fin1
        · simp [selOk, pos]
        · simp
        · exact fin4
theorem k_spec_l1OwnState (a0_0 : Int) (a0_1 : List Int) (a0_2 : List Bool) (a0_3 : List (Int × Int × Int)) {r : Int × List Int × List Bool × (List (Int × Int × Int))} (h : spec_l1OwnState a0_0 a0_1 a0_2 a0_3 = some r) :
    FnA Try.prog 15 [.agg [.v (.int .i64 a0_0), .sl 0, .sl 1, .sl 2]] [.row false (.ints .i64 a0_1), .row false (.bools a0_2), .row false (.trips a0_3)] [] (fun x H => x = .agg [.v (.int .i64 r.1), .sl 3, .sl 4, .sl 5] ∧ H = [.row false (.ints .i64 a0_1), .row false (.bools a0_2), .row false (.trips a0_3), .row true (.ints .i64 r.2.1), .row true (.bools r.2.2.1), .row true (.trips r.2.2.2)]) := by
  unfold spec_l1OwnState at h
  refine FnA.of (N := 21) (pin := [0, 1, 2]) (rs := [.cell 2 32]) Try.func15 rfl en15 rfl rfl (by simp) (by simp; try omega) ?_
  refine awp_reg ftCOk [(1, .pp 3 0), (2, .pp 4 0)] [.row false (.ints .i64 a0_1), .row false (.bools a0_2), .row false (.trips a0_3), .box [.v (.int .i64 a0_0), .sl 0, .sl 1, .sl 2], .box [.v (.int .i64 0), .v (.slice none 0 0), .v (.slice none 0 0), .v (.slice none 0 0)]] ?_
  refine awp_freeze 1 (by rfl) (by rfl) (by exact rfl) ?_
  refine awp_reg ftCOk [(1, .pp 3 0), (2, .pp 4 0), (3, .pp 5 0)] [.row false (.ints .i64 a0_1), .row false (.bools a0_2), .row false (.trips a0_3), .rbox [.v (.int .i64 a0_0), .sl 0, .sl 1, .sl 2], .box [.v (.int .i64 0), .v (.slice none 0 0), .v (.slice none 0 0), .v (.slice none 0 0)], .box [.v (.int .i64 a0_0), .sl 0, .sl 1, .sl 2]] ?_
  replace h := chk_some h
  obtain ⟨hp0, h⟩ := h
  refine awp_reg ftCOk [(1, .pp 3 0), (2, .pp 4 0), (3, .pp 5 0)] [.row false (.ints .i64 a0_1), .row false (.bools a0_2), .row false (.trips a0_3), .rbox [.v (.int .i64 a0_0), .sl 0, .sl 1, .sl 2], .box [.v (.int .i64 0), .v (.slice none 0 0), .v (.slice none 0 0), .v (.slice none 0 0)], .box [.v (.int .i64 a0_0), .sl 6, .sl 1, .sl 2], .row true (.ints .i64 ([] ++ a0_1))] ?_
  clear hp0
  replace h := chk_some h
  obtain ⟨hp0, h⟩ := h
  refine awp_reg ftCOk [(1, .pp 3 0), (2, .pp 4 0), (3, .pp 5 0)] [.row false (.ints .i64 a0_1), .row false (.bools a0_2), .row false (.trips a0_3), .rbox [.v (.int .i64 a0_0), .sl 0, .sl 1, .sl 2], .box [.v (.int .i64 0), .v (.slice none 0 0), .v (.slice none 0 0), .v (.slice none 0 0)], .box [.v (.int .i64 a0_0), .sl 6, .sl 7, .sl 2], .row true (.ints .i64 ([] ++ a0_1)), .row true (.bools ([] ++ a0_2))] ?_
  clear hp0
  replace h := chk_some h
  obtain ⟨hp0, h⟩ := h
  refine awp_reg ftCOk [(2, .pp 4 0), (3, .pp 5 0)] [.row false (.ints .i64 a0_1), .row false (.bools a0_2), .row false (.trips a0_3), .rbox [.v (.int .i64 a0_0), .sl 0, .sl 1, .sl 2], .box [.v (.int .i64 0), .v (.slice none 0 0), .v (.slice none 0 0), .v (.slice none 0 0)], .box [.v (.int .i64 a0_0), .sl 6, .sl 7, .sl 8], .row true (.ints .i64 ([] ++ a0_1)), .row true (.bools ([] ++ a0_2)), .row true (.trips ([] ++ a0_3))] ?_
  clear hp0
  refine awp_reg ftCOk [(2, .pp 4 0)] [.row false (.ints .i64 a0_1), .row false (.bools a0_2), .row false (.trips a0_3), .rbox [.v (.int .i64 a0_0), .sl 0, .sl 1, .sl 2], .box [.v (.int .i64 a0_0), .sl 6, .sl 7, .sl 8], .box [.v (.int .i64 a0_0), .sl 6, .sl 7, .sl 8], .row true (.ints .i64 ([] ++ a0_1)), .row true (.bools ([] ++ a0_2)), .row true (.trips ([] ++ a0_3))] ?_
  refine awp_ret ?_
  (try simp only [Thn, InBlk, ↓reduceIte, Nat.reduceEqDiff])
  obtain rfl := Option.some.inj h
  refine ⟨by simp, _, [0, 1, 2, 6, 7, 8], (by simp only [go_sem, Nat.reduceBEq, Nat.reduceLT, Nat.reduceAdd, Nat.reduceLeDiff, Nat.reduceSub, Nat.reduceEqDiff, Int.reduceToNat, reduceCtorEq, ↓reduceIte]; exact rfl), ?_, ?_, ?_, ?_⟩
  · exact fin1
  · simp [selOk, pos]
  · simp
  · exact fin4
theorem k_spec_ProgramValid (a0_0 : Int) (a0_1 : Int) (a0_2 : Int) {r : Bool} (h : spec_ProgramValid a0_0 a0_1 a0_2 = some r) :
    FnA Try.prog 16 [.agg [.v (.int .i64 a0_0), .v (.int .i64 a0_1), .v (.int .i64 a0_2)]] [] [] (fun x H => x = .v (.bool r) ∧ H = []) := by
  unfold spec_ProgramValid at h
  refine FnA.of (N := 45) (pin := []) (rs := [.tmp 2]) Try.func16 rfl en16 rfl rfl (by simp) (by simp; try omega) ?_
  refine awp_reg ftCOk [(1, .pp 0 0)] [.box [.v (.int .i64 a0_0), .v (.int .i64 a0_1), .v (.int .i64 a0_2)]] ?_
  refine awp_freeze 1 (by rfl) (by rfl) (by exact rfl) ?_
  refine awp_seq fun K7 hK7 => ?_
  refine awp_reg ftCOk [(1, .pp 0 0), (4, .v (.int .i64 a0_0))] [.rbox [.v (.int .i64 a0_0), .v (.int .i64 a0_1), .v (.int .i64 a0_2)]] ?_
  refine awp_block ?_
  refine awp_join h (fun (t5 : Bool) => [(1, .pp 0 0), (4, .v (.int .i64 a0_0)), (5, .v (.bool t5))]) (fun (t5 : Bool) => [.rbox [.v (.int .i64 a0_0), .v (.int .i64 a0_1), .v (.int .i64 a0_2)]]) ?_ ?_
  · clear h
    intro k h
    try dsimp only at h
    refine awp_reg ftCOk [(1, .pp 0 0), (4, .v (.int .i64 a0_0)), (5, .v (.bool (a0_0 == 1)))] [.rbox [.v (.int .i64 a0_0), .v (.int .i64 a0_1), .v (.int .i64 a0_2)]] ?_
    refine awp_cond (t := 5) rfl (fun hc9 => ?_) (fun hc9 => ?_)
    · replace h := bite_t h hc9
      refine awp_skip ?_
      (try simp only [Thn, InBlk, ↓reduceIte, Nat.reduceEqDiff])
      refine ⟨_, h, ?_⟩
      exact Red.auto
    · replace h := bite_f h hc9
      refine awp_regE ftCOk [(1, .pp 0 0), (4, .v (.int .i64 a0_0)), (5, .v (.bool (a0_0 == 2)))] [.rbox [.v (.int .i64 a0_0), .v (.int .i64 a0_1), .v (.int .i64 a0_2)]] ?_
      (try simp only [Thn, InBlk, ↓reduceIte, Nat.reduceEqDiff])
      refine ⟨_, h, ?_⟩
      exact Red.auto
  · clear h
    rintro t5 h
    try dsimp only at h
    try dsimp only
    refine awp_cond (t := 5) rfl (fun hc10 => ?_) (fun hc10 => ?_)
    · replace h := bite_t h hc10
      refine awp_reg ftCOk [(2, .v (.bool ((decide (0 ≤ a0_1) && decide (a0_1 ≤ 15)) && (a0_2 == 0))))] [.rbox [.v (.int .i64 a0_0), .v (.int .i64 a0_1), .v (.int .i64 a0_2)]] ?_
      refine awp_ret ?_
      (try simp only [Thn, InBlk, ↓reduceIte, Nat.reduceEqDiff])
      obtain rfl := Option.some.inj h
      refine ⟨by simp, _, [], (by simp only [go_sem, Nat.reduceBEq, Nat.reduceLT, Nat.reduceAdd, Nat.reduceLeDiff, Nat.reduceSub, Nat.reduceEqDiff, Int.reduceToNat, reduceCtorEq, ↓reduceIte]; exact rfl), ?_, ?_, ?_, ?_⟩
      · exact fin1
      · simp [selOk, pos]
      · simp
      · exact fin4
    · replace h := bite_f h hc10
      refine awp_join h (fun (t16 : Bool) => [(1, .pp 0 0), (16, .v (.bool t16))]) (fun (t16 : Bool) => [.rbox [.v (.int .i64 a0_0), .v (.int .i64 a0_1), .v (.int .i64 a0_2)]]) ?_ ?_
      · clear h
        intro k_1 h
        try dsimp only at h
        refine awp_reg ftCOk [(1, .pp 0 0), (4, .v (.int .i64 a0_0)), (16, .v (.bool (a0_0 == 4)))] [.rbox [.v (.int .i64 a0_0), .v (.int .i64 a0_1), .v (.int .i64 a0_2)]] ?_
        refine awp_cond (t := 16) rfl (fun hc12 => ?_) (fun hc12 => ?_)
        · replace h := bite_t h hc12
          refine awp_skip ?_
          (try simp only [Thn, InBlk, ↓reduceIte, Nat.reduceEqDiff])
          refine ⟨_, h, ?_⟩
          exact Red.auto
        · replace h := bite_f h hc12
          refine awp_regE ftCOk [(1, .pp 0 0), (16, .v (.bool (a0_0 == 6)))] [.rbox [.v (.int .i64 a0_0), .v (.int .i64 a0_1), .v (.int .i64 a0_2)]] ?_
          (try simp only [Thn, InBlk, ↓reduceIte, Nat.reduceEqDiff])
          refine ⟨_, h, ?_⟩
          exact Red.auto
      · clear h
        rintro t16 h
        try dsimp only at h
        try dsimp only
        refine awp_cond (t := 16) rfl (fun hc13 => ?_) (fun hc13 => ?_)
        · replace h := bite_t h hc13
          refine awp_reg ftCOk [(2, .v (.bool ((a0_1 == 0) && (decide (1 ≤ a0_2) && decide (a0_2 ≤ 20)))))] [.rbox [.v (.int .i64 a0_0), .v (.int .i64 a0_1), .v (.int .i64 a0_2)]] ?_
          refine awp_ret ?_
          (try simp only [Thn, InBlk, ↓reduceIte, Nat.reduceEqDiff])
          obtain rfl := Option.some.inj h
          refine ⟨by simp, _, [], (by simp only [go_sem, Nat.reduceBEq, Nat.reduceLT, Nat.reduceAdd, Nat.reduceLeDiff, Nat.reduceSub, Nat.reduceEqDiff, Int.reduceToNat, reduceCtorEq, ↓reduceIte]; exact rfl), ?_, ?_, ?_, ?_⟩
          · exact fin1
          · simp [selOk, pos]
          · simp
          · exact fin4
        · replace h := bite_f h hc13
          refine awp_skip ?_
          (try simp only [Thn, InBlk, ↓reduceIte, Nat.reduceEqDiff])
          (try simp only [Thn, InBlk, ↓reduceIte, Nat.reduceEqDiff])
          refine hK7 _ _ ?_
          clear hK7
          refine awp_to [(2, .v (.bool ((((a0_0 == 3) || (a0_0 == 5)) && (a0_1 == 0)) && (a0_2 == 0))))] [.rbox [.v (.int .i64 a0_0), .v (.int .i64 a0_1), .v (.int .i64 a0_2)]] ?_ ?_
          · clear h
            intro K hK
            refine awp_regionA ?_
            refine wpA_cutAt 8 [(1, .pp 0 0), (34, .v (.bool ((a0_0 == 3) || (a0_0 == 5))))] [.rbox [.v (.int .i64 a0_0), .v (.int .i64 a0_1), .v (.int .i64 a0_2)]] ?_ ?_
            · clear hK K
              intro K hK
              refine vcOps_sound ftCOk ?_
              simp (maxSteps := 4000000) only [go_sem, Nat.reduceBEq, Nat.reduceLT, Nat.reduceAdd, Nat.reduceLeDiff, Nat.reduceSub, Nat.reduceEqDiff, Int.reduceToNat, reduceCtorEq, ↓reduceIte]
              repeat' (first | refine And.intro ?_ ?_ | intro hg)
              all_goals (try simp (disch := omega) only [wrap_fits])
              all_goals first
                | (refine hK _ _ ?_; exact Red.auto)
                | exact trivial
                | assumption
                | omega
                | exact wrap_fits (by omega) (by omega)
                | (simp_all; done)
                | (simp_all; omega)
            refine wpA_cutAt 5 [(1, .pp 0 0), (39, .v (.bool (((a0_0 == 3) || (a0_0 == 5)) && (a0_1 == 0))))] [.rbox [.v (.int .i64 a0_0), .v (.int .i64 a0_1), .v (.int .i64 a0_2)]] ?_ ?_
            · clear hK K
              intro K hK
              refine vcOps_sound ftCOk ?_
              simp (maxSteps := 4000000) only [go_sem, Nat.reduceBEq, Nat.reduceLT, Nat.reduceAdd, Nat.reduceLeDiff, Nat.reduceSub, Nat.reduceEqDiff, Int.reduceToNat, reduceCtorEq, ↓reduceIte]
              repeat' (first | refine And.intro ?_ ?_ | intro hg)
              all_goals (try simp (disch := omega) only [wrap_fits])
              all_goals first
                | (refine hK _ _ ?_; exact Red.auto)
                | exact trivial
                | assumption
                | omega
                | exact wrap_fits (by omega) (by omega)
                | (simp_all; done)
                | (simp_all; omega)
            refine vcOps_sound ftCOk ?_
            simp (maxSteps := 4000000) only [go_sem, Nat.reduceBEq, Nat.reduceLT, Nat.reduceAdd, Nat.reduceLeDiff, Nat.reduceSub, Nat.reduceEqDiff, Int.reduceToNat, reduceCtorEq, ↓reduceIte]
            repeat' (first | refine And.intro ?_ ?_ | intro hg)
            all_goals (try simp (disch := omega) only [wrap_fits])
            all_goals first
              | (refine hK _ _ ?_; exact Red.auto)
              | exact trivial
              | assumption
              | omega
              | exact wrap_fits (by omega) (by omega)
              | (simp_all; done)
              | (simp_all; omega)
          · refine awp_ret ?_
            (try simp only [Thn, InBlk, ↓reduceIte, Nat.reduceEqDiff])
            obtain rfl := Option.some.inj h
            refine ⟨by simp, _, [], (by simp only [go_sem, Nat.reduceBEq, Nat.reduceLT, Nat.reduceAdd, Nat.reduceLeDiff, Nat.reduceSub, Nat.reduceEqDiff, Int.reduceToNat, reduceCtorEq, ↓reduceIte]; exact rfl), ?_, ?_, ?_, ?_⟩
            · exact fin1
            · simp [selOk, pos]
            · simp
            · exact fin4
theorem k_spec_l11Message (a0_0 : Int) (a0_1 : Int) (a0_2 : Int) (a1 : Int) {r : Bool} (h : spec_l11Message a0_0 a0_1 a0_2 a1 = some r) :
    FnA Try.prog 36 [.agg [.v (.int .i64 a0_0), .v (.int .i64 a0_1), .v (.int .i64 a0_2)], .v (.int .i64 a1)] [] [] (fun x H => x = .v (.bool r) ∧ H = []) := by
  unfold spec_l11Message at h
  refine FnA.of (N := 22) (pin := []) (rs := [.tmp 4]) Try.func36 rfl en36 rfl rfl (by simp) (by simp; try omega) ?_
  refine awp_reg ftCOk [(1, .v (.int .i64 a1)), (2, .pp 0 0)] [.box [.v (.int .i64 a0_0), .v (.int .i64 a0_1), .v (.int .i64 a0_2)]] ?_
  refine awp_freeze 2 (by rfl) (by rfl) (by exact rfl) ?_
  refine awp_reg ftCOk [(4, .v (.bool (((decide (0 ≤ a0_0) && decide (a0_0 ≤ (IntKind.i64.wrap (a1 - 1)))) && (decide (0 ≤ a0_2) && decide (a0_2 ≤ (IntKind.i64.wrap (a1 - 1))))) && (decide (0 ≤ a0_1) && decide (a0_1 ≤ 999999)))))] [.rbox [.v (.int .i64 a0_0), .v (.int .i64 a0_1), .v (.int .i64 a0_2)]] ?_
  refine awp_ret ?_
  (try simp only [Thn, InBlk, ↓reduceIte, Nat.reduceEqDiff])
  obtain rfl := Option.some.inj h
  refine ⟨by simp, _, [], (by simp only [go_sem, Nat.reduceBEq, Nat.reduceLT, Nat.reduceAdd, Nat.reduceLeDiff, Nat.reduceSub, Nat.reduceEqDiff, Int.reduceToNat, reduceCtorEq, ↓reduceIte]; exact rfl), ?_, ?_, ?_, ?_⟩
  · exact fin1
  · simp [selOk, pos]
  · simp
  · exact fin4
theorem k_spec_l9Before (a0_0 : Int) (a0_1 : Int) (a0_2 : Int) (a1_0 : Int) (a1_1 : Int) (a1_2 : Int) {r : Bool} (h : spec_l9Before a0_0 a0_1 a0_2 a1_0 a1_1 a1_2 = some r) :
    FnA Try.prog 37 [.agg [.v (.int .i64 a0_0), .v (.int .i64 a0_1), .v (.int .i64 a0_2)], .agg [.v (.int .i64 a1_0), .v (.int .i64 a1_1), .v (.int .i64 a1_2)]] [] [] (fun x H => x = .v (.bool r) ∧ H = []) := by
  unfold spec_l9Before at h
  refine FnA.of (N := 30) (pin := []) (rs := [.tmp 4]) Try.func37 rfl en37 rfl rfl (by simp) (by simp; try omega) ?_
  refine awp_reg ftCOk [(2, .pp 0 0), (3, .pp 1 0)] [.box [.v (.int .i64 a0_0), .v (.int .i64 a0_1), .v (.int .i64 a0_2)], .box [.v (.int .i64 a1_0), .v (.int .i64 a1_1), .v (.int .i64 a1_2)]] ?_
  refine awp_freeze 2 (by rfl) (by rfl) (by exact rfl) ?_
  refine awp_freeze 3 (by rfl) (by rfl) (by exact rfl) ?_
  refine awp_seq fun K2 hK2 => ?_
  refine awp_reg ftCOk [(2, .pp 0 0), (3, .pp 1 0), (9, .v (.bool (a0_0 != a1_0)))] [.rbox [.v (.int .i64 a0_0), .v (.int .i64 a0_1), .v (.int .i64 a0_2)], .rbox [.v (.int .i64 a1_0), .v (.int .i64 a1_1), .v (.int .i64 a1_2)]] ?_
  refine awp_cond (t := 9) rfl (fun hc3 => ?_) (fun hc3 => ?_)
  · replace h := bite_t h hc3
    refine awp_reg ftCOk [(4, .v (.bool (decide (a0_0 < a1_0))))] [.rbox [.v (.int .i64 a0_0), .v (.int .i64 a0_1), .v (.int .i64 a0_2)], .rbox [.v (.int .i64 a1_0), .v (.int .i64 a1_1), .v (.int .i64 a1_2)]] ?_
    refine awp_ret ?_
    (try simp only [Thn, InBlk, ↓reduceIte, Nat.reduceEqDiff])
    obtain rfl := Option.some.inj h
    refine ⟨by simp, _, [], (by simp only [go_sem, Nat.reduceBEq, Nat.reduceLT, Nat.reduceAdd, Nat.reduceLeDiff, Nat.reduceSub, Nat.reduceEqDiff, Int.reduceToNat, reduceCtorEq, ↓reduceIte]; exact rfl), ?_, ?_, ?_, ?_⟩
    · exact fin1
    · simp [selOk, pos]
    · simp
    · exact fin4
  · replace h := bite_f h hc3
    refine awp_skip ?_
    (try simp only [Thn, InBlk, ↓reduceIte, Nat.reduceEqDiff])
    refine hK2 _ _ ?_
    clear hK2
    refine awp_seq fun K5 hK5 => ?_
    refine awp_reg ftCOk [(2, .pp 0 0), (3, .pp 1 0), (19, .v (.bool (a0_1 != a1_1)))] [.rbox [.v (.int .i64 a0_0), .v (.int .i64 a0_1), .v (.int .i64 a0_2)], .rbox [.v (.int .i64 a1_0), .v (.int .i64 a1_1), .v (.int .i64 a1_2)]] ?_
    refine awp_cond (t := 19) rfl (fun hc6 => ?_) (fun hc6 => ?_)
    · replace h := bite_t h hc6
      refine awp_reg ftCOk [(4, .v (.bool (decide (a0_1 < a1_1))))] [.rbox [.v (.int .i64 a0_0), .v (.int .i64 a0_1), .v (.int .i64 a0_2)], .rbox [.v (.int .i64 a1_0), .v (.int .i64 a1_1), .v (.int .i64 a1_2)]] ?_
      refine awp_ret ?_
      (try simp only [Thn, InBlk, ↓reduceIte, Nat.reduceEqDiff])
      obtain rfl := Option.some.inj h
      refine ⟨by simp, _, [], (by simp only [go_sem, Nat.reduceBEq, Nat.reduceLT, Nat.reduceAdd, Nat.reduceLeDiff, Nat.reduceSub, Nat.reduceEqDiff, Int.reduceToNat, reduceCtorEq, ↓reduceIte]; exact rfl), ?_, ?_, ?_, ?_⟩
      · exact fin1
      · simp [selOk, pos]
      · simp
      · exact fin4
    · replace h := bite_f h hc6
      refine awp_skip ?_
      (try simp only [Thn, InBlk, ↓reduceIte, Nat.reduceEqDiff])
      refine hK5 _ _ ?_
      clear hK5
      refine awp_reg ftCOk [(4, .v (.bool (decide (a0_2 < a1_2))))] [.rbox [.v (.int .i64 a0_0), .v (.int .i64 a0_1), .v (.int .i64 a0_2)], .rbox [.v (.int .i64 a1_0), .v (.int .i64 a1_1), .v (.int .i64 a1_2)]] ?_
      refine awp_ret ?_
      (try simp only [Thn, InBlk, ↓reduceIte, Nat.reduceEqDiff])
      obtain rfl := Option.some.inj h
      refine ⟨by simp, _, [], (by simp only [go_sem, Nat.reduceBEq, Nat.reduceLT, Nat.reduceAdd, Nat.reduceLeDiff, Nat.reduceSub, Nat.reduceEqDiff, Int.reduceToNat, reduceCtorEq, ↓reduceIte]; exact rfl), ?_, ?_, ?_, ?_⟩
      · exact fin1
      · simp [selOk, pos]
      · simp
      · exact fin4
theorem k_spec_StateValid (a0_0 : Int) (a0_1 : List Int) (a0_2 : List Bool) (a0_3 : List (Int × Int × Int)) (a1 : Int) {r : Bool} (h : spec_StateValid a0_0 a0_1 a0_2 a0_3 a1 = some r) :
    FnA Try.prog 17 [.agg [.v (.int .i64 a0_0), .sl 0, .sl 1, .sl 2], .v (.int .i64 a1)] [.row false (.ints .i64 a0_1), .row false (.bools a0_2), .row false (.trips a0_3)] [] (fun x H => x = .v (.bool r) ∧ H = [.row false (.ints .i64 a0_1), .row false (.bools a0_2), .row false (.trips a0_3)]) := by
  unfold spec_StateValid at h
  refine FnA.of (N := 81) (pin := [0, 1, 2]) (rs := [.tmp 4]) Try.func17 rfl en17 rfl rfl (by simp) (by simp; try omega) ?_
  refine awp_reg ftCOk [(1, .v (.int .i64 a1)), (2, .pp 3 0)] [.row false (.ints .i64 a0_1), .row false (.bools a0_2), .row false (.trips a0_3), .box [.v (.int .i64 a0_0), .sl 0, .sl 1, .sl 2]] ?_
  refine awp_freeze 2 (by rfl) (by rfl) (by exact rfl) ?_
  refine awp_seq fun K20 hK20 => ?_
  refine awp_reg ftCOk [(1, .v (.int .i64 a1)), (2, .pp 3 0), (5, .v (.int .i64 0))] [.row false (.ints .i64 a0_1), .row false (.bools a0_2), .row false (.trips a0_3), .rbox [.v (.int .i64 a0_0), .sl 0, .sl 1, .sl 2]] ?_
  refine awp_block ?_
  replace h := bind_some h
  obtain ⟨x39, hx, h⟩ := h
  refine awp_loopL hx (fun (t5 : Int) => [(1, .v (.int .i64 a1)), (2, .pp 3 0), (5, .v (.int .i64 t5))]) (fun (t5 : Int) => [.row false (.ints .i64 a0_1), .row false (.bools a0_2), .row false (.trips a0_3), .rbox [.v (.int .i64 a0_0), .sl 0, .sl 1, .sl 2]]) (Sum.elim (fun (_ : Unit) => Exit.exit 0) (fun (_ : Unit) => Exit.ret)) (Sum.elim (fun (_ : Unit) => [(1, .v (.int .i64 a1)), (2, .pp 3 0)]) (fun (_ : Unit) => [(4, .v (.bool false))])) (Sum.elim (fun (_ : Unit) => [.row false (.ints .i64 a0_1), .row false (.bools a0_2), .row false (.trips a0_3), .rbox [.v (.int .i64 a0_0), .sl 0, .sl 1, .sl 2]]) (fun (_ : Unit) => [.row false (.ints .i64 a0_1), .row false (.bools a0_2), .row false (.trips a0_3)])) ?_ ?_ ?_ ?_
  · rintro (⟨⟩ | ⟨⟩) hy <;> cases hy
  · clear h hx
    exact Red.auto
  · clear h hx
    rintro t5 r h
    unfold spec_StateValid_b0 at h
    try dsimp only at h
    try dsimp only
    refine awp_seq fun K34 hK34 => ?_
    refine awp_reg ftCOk [(1, .v (.int .i64 a1)), (2, .pp 3 0), (5, .v (.int .i64 t5)), (11, .v (.bool (decide (t5 < (a0_1.length : Int)))))] [.row false (.ints .i64 a0_1), .row false (.bools a0_2), .row false (.trips a0_3), .rbox [.v (.int .i64 a0_0), .sl 0, .sl 1, .sl 2]] ?_
    refine awp_cond (t := 11) rfl (fun hc35 => ?_) (fun hc35 => ?_)
    · replace h := bite_t h hc35
      refine awp_skip ?_
      (try simp only [Thn, InBlk, ↓reduceIte, Nat.reduceEqDiff])
      refine hK34 _ _ ?_
      clear hK34
      refine awp_seq fun K37 hK37 => ?_
      refine awp_block ?_
      replace h := chk_some h
      obtain ⟨hp0, h⟩ := h
      refine awp_reg ftCOk [(1, .v (.int .i64 a1)), (2, .pp 3 0), (5, .v (.int .i64 t5)), (20, .v (.bool (!(decide ((-1) ≤ (a0_1.getD t5.toNat 0)) && decide ((a0_1.getD t5.toNat 0) ≤ 999999)))))] [.row false (.ints .i64 a0_1), .row false (.bools a0_2), .row false (.trips a0_3), .rbox [.v (.int .i64 a0_0), .sl 0, .sl 1, .sl 2]] ?_
      clear hp0
      refine awp_cond (t := 20) rfl (fun hc38 => ?_) (fun hc38 => ?_)
      · replace h := bite_t h hc38
        refine awp_reg ftCOk [(4, .v (.bool false))] [.row false (.ints .i64 a0_1), .row false (.bools a0_2), .row false (.trips a0_3), .rbox [.v (.int .i64 a0_0), .sl 0, .sl 1, .sl 2]] ?_
        refine awp_ret ?_
        (try simp only [Thn, InBlk, ↓reduceIte, Nat.reduceEqDiff])
        obtain rfl := Option.some.inj h
        refine LoopQ.out rfl ?_
        exact Red.selA [0, 1, 2] Red.auto
      · replace h := bite_f h hc38
        refine awp_skip ?_
        (try simp only [Thn, InBlk, ↓reduceIte, Nat.reduceEqDiff])
        (try simp only [Thn, InBlk, ↓reduceIte, Nat.reduceEqDiff])
        refine hK37 _ _ ?_
        clear hK37
        replace h := chk_some h
        obtain ⟨hp0, h⟩ := h
        refine awp_regE ftCOk [(1, .v (.int .i64 a1)), (2, .pp 3 0), (5, .v (.int .i64 (t5 + 1)))] [.row false (.ints .i64 a0_1), .row false (.bools a0_2), .row false (.trips a0_3), .rbox [.v (.int .i64 a0_0), .sl 0, .sl 1, .sl 2]] ?_
        clear hp0
        obtain rfl := Option.some.inj h
        refine LoopQ.next ?_
        exact Red.auto
    · replace h := bite_f h hc35
      refine awp_exit ?_
      (try simp only [Thn, InBlk, ↓reduceIte, Nat.reduceEqDiff])
      obtain rfl := Option.some.inj h
      refine LoopQ.out rfl ?_
      exact Red.auto
  · clear hx
    rcases x39 with (⟨⟩ | ⟨⟩)
    · try dsimp only [Sum.elim_inl, Sum.elim_inr] at h
      try dsimp only [Sum.elim_inl, Sum.elim_inr]
      (try simp only [Thn, InBlk, ↓reduceIte, Nat.reduceEqDiff])
      (try simp only [Thn, InBlk, ↓reduceIte, Nat.reduceEqDiff])
      (try simp only [Thn, InBlk, ↓reduceIte, Nat.reduceEqDiff])
      refine hK20 _ _ ?_
      clear hK20
      refine awp_seq fun K59 hK59 => ?_
      refine awp_reg ftCOk [(1, .v (.int .i64 a1)), (2, .pp 3 0), (6, .v (.int .i64 0))] [.row false (.ints .i64 a0_1), .row false (.bools a0_2), .row false (.trips a0_3), .rbox [.v (.int .i64 a0_0), .sl 0, .sl 1, .sl 2]] ?_
      refine awp_block ?_
      replace h := bind_some h
      obtain ⟨x78, hx, h⟩ := h
      refine awp_loopL hx (fun (t6 : Int) => [(1, .v (.int .i64 a1)), (2, .pp 3 0), (6, .v (.int .i64 t6))]) (fun (t6 : Int) => [.row false (.ints .i64 a0_1), .row false (.bools a0_2), .row false (.trips a0_3), .rbox [.v (.int .i64 a0_0), .sl 0, .sl 1, .sl 2]]) (Sum.elim (fun (_ : Unit) => Exit.exit 2) (fun (_ : Unit) => Exit.ret)) (Sum.elim (fun (_ : Unit) => [(1, .v (.int .i64 a1)), (2, .pp 3 0)]) (fun (_ : Unit) => [(4, .v (.bool false))])) (Sum.elim (fun (_ : Unit) => [.row false (.ints .i64 a0_1), .row false (.bools a0_2), .row false (.trips a0_3), .rbox [.v (.int .i64 a0_0), .sl 0, .sl 1, .sl 2]]) (fun (_ : Unit) => [.row false (.ints .i64 a0_1), .row false (.bools a0_2), .row false (.trips a0_3)])) ?_ ?_ ?_ ?_
      · rintro (⟨⟩ | ⟨⟩) hy <;> cases hy
      · clear h hx
        exact Red.auto
      · clear h hx
        rintro t6 r h
        unfold spec_StateValid_b1 at h
        try dsimp only at h
        try dsimp only
        refine awp_seq fun K73 hK73 => ?_
        refine awp_reg ftCOk [(1, .v (.int .i64 a1)), (2, .pp 3 0), (6, .v (.int .i64 t6)), (25, .v (.bool (decide (t6 < (a0_3.length : Int)))))] [.row false (.ints .i64 a0_1), .row false (.bools a0_2), .row false (.trips a0_3), .rbox [.v (.int .i64 a0_0), .sl 0, .sl 1, .sl 2]] ?_
        refine awp_cond (t := 25) rfl (fun hc74 => ?_) (fun hc74 => ?_)
        · replace h := bite_t h hc74
          refine awp_skip ?_
          (try simp only [Thn, InBlk, ↓reduceIte, Nat.reduceEqDiff])
          refine hK73 _ _ ?_
          clear hK73
          refine awp_seq fun K76 hK76 => ?_
          refine awp_block ?_
          replace h := chk_some h
          obtain ⟨hp0, h⟩ := h
          replace h := bind_some h
          obtain ⟨y, hr1, h⟩ := h
          try dsimp only at h
          replace h := chk_some h
          obtain ⟨hp2, h⟩ := h
          have hwhp2 := wrap_fits hp2.1 hp2.2
          replace h := chk_some h
          obtain ⟨hp3, h⟩ := h
          replace h := chk_some h
          obtain ⟨hp4, h⟩ := h
          replace h := bind_some h
          obtain ⟨y_1, hr5, h⟩ := h
          try dsimp only at h
          refine awp_to [(1, .v (.int .i64 a1)), (2, .pp 3 0), (6, .v (.int .i64 t6)), (53, .v (.bool ((!y) || ((decide (0 < t6)) && y_1))))] [.row false (.ints .i64 a0_1), .row false (.bools a0_2), .row false (.trips a0_3), .rbox [.v (.int .i64 a0_0), .sl 0, .sl 1, .sl 2]] ?_ ?_
          · clear h
            intro K hK
            refine awp_drawT mixed ftCOk (.free 0 (.free 2 (.free 5 (.one 1 (.one 3 (.one 4 (.one 6 (.one 7 (.one 8 (.one 9 (.one 10 (.one 11 (.free 12 (.free 14 (.free 17 (.free 19 (.free 20 (.free 13 (.free 15 (.free 16 (.one 18 (.one 21 (.one 22 (.one 23 (.one 24 (.one 25 .fin)))))))))))))))))))))))))) (by kernel_rfl) (by simp) ?_
            simp (maxSteps := 4000000) only [go_sem, Nat.reduceBEq, Nat.reduceLT, Nat.reduceAdd, Nat.reduceLeDiff, Nat.reduceSub, Nat.reduceEqDiff, Int.reduceToNat, reduceCtorEq, ↓reduceIte]
            repeat' (first | refine And.intro ?_ ?_ | intro hg)
            all_goals (try simp (disch := omega) only [wrap_fits])
            all_goals first
              | (refine hK _ _ ?_; exact Red.auto)
              | exact trivial
              | assumption
              | omega
              | exact wrap_fits (by omega) (by omega)
              | (have hq := hp3 (by first | assumption | (simp only [*, Bool.false_or, Bool.true_or, Bool.or_false, Bool.or_true, Bool.false_and, Bool.true_and, Bool.and_false, Bool.and_true, Bool.not_true, Bool.not_false, beq_self_eq_true]; done) | (simp_all; done)) (by first | assumption | (simp only [*, Bool.false_or, Bool.true_or, Bool.or_false, Bool.or_true, Bool.false_and, Bool.true_and, Bool.and_false, Bool.and_true, Bool.not_true, Bool.not_false, beq_self_eq_true]; done) | (simp_all; done)); omega)
              | (have hq := hp4 (by first | assumption | (simp only [*, Bool.false_or, Bool.true_or, Bool.or_false, Bool.or_true, Bool.false_and, Bool.true_and, Bool.and_false, Bool.and_true, Bool.not_true, Bool.not_false, beq_self_eq_true]; done) | (simp_all; done)) (by first | assumption | (simp only [*, Bool.false_or, Bool.true_or, Bool.or_false, Bool.or_true, Bool.false_and, Bool.true_and, Bool.and_false, Bool.and_true, Bool.not_true, Bool.not_false, beq_self_eq_true]; done) | (simp_all; done)); omega)
              | (refine OpK_callA (k_spec_l11Message ((a0_3.getD t6.toNat (0, 0, 0)).1) ((a0_3.getD t6.toNat (0, 0, 0)).2.1) ((a0_3.getD t6.toNat (0, 0, 0)).2.2) a1 (h := hr1)) [] [] ?_
                 rintro x Hc' ⟨rfl, rfl⟩ hlen
                 simp (maxSteps := 4000000) only [go_sem, Nat.reduceBEq, Nat.reduceLT, Nat.reduceAdd, Nat.reduceLeDiff, Nat.reduceSub, Nat.reduceEqDiff, Int.reduceToNat, reduceCtorEq, ↓reduceIte]
                 repeat' (first | refine And.intro ?_ ?_ | intro hg)
                 all_goals (try simp (disch := omega) only [wrap_fits])
                 all_goals first
                   | (refine hK _ _ ?_; exact Red.auto)
                   | exact trivial
                   | assumption
                   | omega
                   | exact wrap_fits (by omega) (by omega)
                   | (have hq := hp3 (by first | assumption | (simp only [*, Bool.false_or, Bool.true_or, Bool.or_false, Bool.or_true, Bool.false_and, Bool.true_and, Bool.and_false, Bool.and_true, Bool.not_true, Bool.not_false, beq_self_eq_true]; done) | (simp_all; done)) (by first | assumption | (simp only [*, Bool.false_or, Bool.true_or, Bool.or_false, Bool.or_true, Bool.false_and, Bool.true_and, Bool.and_false, Bool.and_true, Bool.not_true, Bool.not_false, beq_self_eq_true]; done) | (simp_all; done)); omega)
                   | (have hq := hp4 (by first | assumption | (simp only [*, Bool.false_or, Bool.true_or, Bool.or_false, Bool.or_true, Bool.false_and, Bool.true_and, Bool.and_false, Bool.and_true, Bool.not_true, Bool.not_false, beq_self_eq_true]; done) | (simp_all; done)) (by first | assumption | (simp only [*, Bool.false_or, Bool.true_or, Bool.or_false, Bool.or_true, Bool.false_and, Bool.true_and, Bool.and_false, Bool.and_true, Bool.not_true, Bool.not_false, beq_self_eq_true]; done) | (simp_all; done)); omega)
                   | (refine OpK_callA (k_spec_l9Before ((a0_3.getD t6.toNat (0, 0, 0)).1) ((a0_3.getD t6.toNat (0, 0, 0)).2.1) ((a0_3.getD t6.toNat (0, 0, 0)).2.2) ((a0_3.getD ((t6 - 1).toNat) (0, 0, 0)).1) ((a0_3.getD ((t6 - 1).toNat) (0, 0, 0)).2.1) ((a0_3.getD ((t6 - 1).toNat) (0, 0, 0)).2.2) (h := (bite_t (bite_t hr5 (by first | assumption | (simp only [*, Bool.false_or, Bool.true_or, Bool.or_false, Bool.or_true, Bool.false_and, Bool.true_and, Bool.and_false, Bool.and_true, Bool.not_true, Bool.not_false, beq_self_eq_true]; done) | (simp_all; done))) (by rw [Bool.not_eq_true']; exact (by first | assumption | (simp only [*, Bool.false_or, Bool.true_or, Bool.or_false, Bool.or_true, Bool.false_and, Bool.true_and, Bool.and_false, Bool.and_true, Bool.not_true, Bool.not_false, beq_self_eq_true]; done) | (simp_all; done)))))) [] [] ?_
                      rintro x Hc' ⟨rfl, rfl⟩ hlen
                      simp (maxSteps := 4000000) only [go_sem, Nat.reduceBEq, Nat.reduceLT, Nat.reduceAdd, Nat.reduceLeDiff, Nat.reduceSub, Nat.reduceEqDiff, Int.reduceToNat, reduceCtorEq, ↓reduceIte]
                      repeat' (first | refine And.intro ?_ ?_ | intro hg)
                      all_goals (try simp (disch := omega) only [wrap_fits])
                      all_goals first
                        | (refine hK _ _ ?_; exact Red.auto)
                        | exact trivial
                        | assumption
                        | omega
                        | exact wrap_fits (by omega) (by omega)
                        | (have hq := hp3 (by first | assumption | (simp only [*, Bool.false_or, Bool.true_or, Bool.or_false, Bool.or_true, Bool.false_and, Bool.true_and, Bool.and_false, Bool.and_true, Bool.not_true, Bool.not_false, beq_self_eq_true]; done) | (simp_all; done)) (by first | assumption | (simp only [*, Bool.false_or, Bool.true_or, Bool.or_false, Bool.or_true, Bool.false_and, Bool.true_and, Bool.and_false, Bool.and_true, Bool.not_true, Bool.not_false, beq_self_eq_true]; done) | (simp_all; done)); omega)
                        | (have hq := hp4 (by first | assumption | (simp only [*, Bool.false_or, Bool.true_or, Bool.or_false, Bool.or_true, Bool.false_and, Bool.true_and, Bool.and_false, Bool.and_true, Bool.not_true, Bool.not_false, beq_self_eq_true]; done) | (simp_all; done)) (by first | assumption | (simp only [*, Bool.false_or, Bool.true_or, Bool.or_false, Bool.or_true, Bool.false_and, Bool.true_and, Bool.and_false, Bool.and_true, Bool.not_true, Bool.not_false, beq_self_eq_true]; done) | (simp_all; done)); omega)
                        | (simp (maxSteps := 4000000) only [go_sem, Nat.reduceBEq, Nat.reduceLT, Nat.reduceAdd, Nat.reduceLeDiff, Nat.reduceSub, Nat.reduceEqDiff, Int.reduceToNat, reduceCtorEq, ↓reduceIte]
                           repeat' (first | refine And.intro ?_ ?_ | intro hg)
                           all_goals (try simp (disch := omega) only [wrap_fits])
                           all_goals first | (refine hK _ _ ?_; exact Red.auto) | exact trivial | assumption | omega | exact wrap_fits (by omega) (by omega) | (have hq := hp3 (by first | assumption | (simp only [*, Bool.false_or, Bool.true_or, Bool.or_false, Bool.or_true, Bool.false_and, Bool.true_and, Bool.and_false, Bool.and_true, Bool.not_true, Bool.not_false, beq_self_eq_true]; done) | (simp_all; done)) (by first | assumption | (simp only [*, Bool.false_or, Bool.true_or, Bool.or_false, Bool.or_true, Bool.false_and, Bool.true_and, Bool.and_false, Bool.and_true, Bool.not_true, Bool.not_false, beq_self_eq_true]; done) | (simp_all; done)); omega) | (have hq := hp4 (by first | assumption | (simp only [*, Bool.false_or, Bool.true_or, Bool.or_false, Bool.or_true, Bool.false_and, Bool.true_and, Bool.and_false, Bool.and_true, Bool.not_true, Bool.not_false, beq_self_eq_true]; done) | (simp_all; done)) (by first | assumption | (simp only [*, Bool.false_or, Bool.true_or, Bool.or_false, Bool.or_true, Bool.false_and, Bool.true_and, Bool.and_false, Bool.and_true, Bool.not_true, Bool.not_false, beq_self_eq_true]; done) | (simp_all; done)); omega))
                        | (simp_all; done)
                        | (simp_all; omega))
                   | (simp_all; done)
                   | (simp_all; omega))
              | (simp_all; done)
              | (simp_all; omega)
          · clear hp0 hr1 hp2 hp3 hp4 hr5
            refine awp_cond (t := 53) rfl (fun hc77 => ?_) (fun hc77 => ?_)
            · replace h := bite_t h hc77
              refine awp_reg ftCOk [(4, .v (.bool false))] [.row false (.ints .i64 a0_1), .row false (.bools a0_2), .row false (.trips a0_3), .rbox [.v (.int .i64 a0_0), .sl 0, .sl 1, .sl 2]] ?_
              refine awp_ret ?_
              (try simp only [Thn, InBlk, ↓reduceIte, Nat.reduceEqDiff])
              obtain rfl := Option.some.inj h
              refine LoopQ.out rfl ?_
              exact Red.selA [0, 1, 2] Red.auto
            · replace h := bite_f h hc77
              refine awp_skip ?_
              (try simp only [Thn, InBlk, ↓reduceIte, Nat.reduceEqDiff])
              (try simp only [Thn, InBlk, ↓reduceIte, Nat.reduceEqDiff])
              refine hK76 _ _ ?_
              clear hK76
              replace h := chk_some h
              obtain ⟨hp0, h⟩ := h
              refine awp_regE ftCOk [(1, .v (.int .i64 a1)), (2, .pp 3 0), (6, .v (.int .i64 (t6 + 1)))] [.row false (.ints .i64 a0_1), .row false (.bools a0_2), .row false (.trips a0_3), .rbox [.v (.int .i64 a0_0), .sl 0, .sl 1, .sl 2]] ?_
              clear hp0
              obtain rfl := Option.some.inj h
              refine LoopQ.next ?_
              exact Red.auto
        · replace h := bite_f h hc74
          refine awp_exit ?_
          (try simp only [Thn, InBlk, ↓reduceIte, Nat.reduceEqDiff])
          obtain rfl := Option.some.inj h
          refine LoopQ.out rfl ?_
          exact Red.auto
      · clear hx
        rcases x78 with (⟨⟩ | ⟨⟩)
        · try dsimp only [Sum.elim_inl, Sum.elim_inr] at h
          try dsimp only [Sum.elim_inl, Sum.elim_inr]
          (try simp only [Thn, InBlk, ↓reduceIte, Nat.reduceEqDiff])
          (try simp only [Thn, InBlk, ↓reduceIte, Nat.reduceEqDiff])
          (try simp only [Thn, InBlk, ↓reduceIte, Nat.reduceEqDiff])
          refine hK59 _ _ ?_
          clear hK59
          refine awp_to [(4, .v (.bool (((((decide (0 ≤ a1) && decide (a1 ≤ 16)) && (decide (0 ≤ a0_0) && decide (a0_0 ≤ 100))) && ((a0_1.length : Int) == a1)) && ((a0_2.length : Int) == a1)) && (decide ((a0_3.length : Int) ≤ 2000)))))] [.row false (.ints .i64 a0_1), .row false (.bools a0_2), .row false (.trips a0_3), .rbox [.v (.int .i64 a0_0), .sl 0, .sl 1, .sl 2]] ?_ ?_
          · clear h
            intro K hK
            refine awp_regionA ?_
            refine wpA_cutAt 7 [(1, .v (.int .i64 a1)), (2, .pp 3 0), (60, .v (.bool ((decide (0 ≤ a1) && decide (a1 ≤ 16)) && (decide (0 ≤ a0_0) && decide (a0_0 ≤ 100)))))] [.row false (.ints .i64 a0_1), .row false (.bools a0_2), .row false (.trips a0_3), .rbox [.v (.int .i64 a0_0), .sl 0, .sl 1, .sl 2]] ?_ ?_
            · clear hK K
              intro K hK
              refine vcOps_sound ftCOk ?_
              simp (maxSteps := 4000000) only [go_sem, Nat.reduceBEq, Nat.reduceLT, Nat.reduceAdd, Nat.reduceLeDiff, Nat.reduceSub, Nat.reduceEqDiff, Int.reduceToNat, reduceCtorEq, ↓reduceIte]
              repeat' (first | refine And.intro ?_ ?_ | intro hg)
              all_goals (try simp (disch := omega) only [wrap_fits])
              all_goals first
                | (refine hK _ _ ?_; exact Red.auto)
                | exact trivial
                | assumption
                | omega
                | exact wrap_fits (by omega) (by omega)
                | (simp_all; done)
                | (simp_all; omega)
            refine wpA_cutAt 7 [(1, .v (.int .i64 a1)), (2, .pp 3 0), (67, .v (.bool (((decide (0 ≤ a1) && decide (a1 ≤ 16)) && (decide (0 ≤ a0_0) && decide (a0_0 ≤ 100))) && ((a0_1.length : Int) == a1))))] [.row false (.ints .i64 a0_1), .row false (.bools a0_2), .row false (.trips a0_3), .rbox [.v (.int .i64 a0_0), .sl 0, .sl 1, .sl 2]] ?_ ?_
            · clear hK K
              intro K hK
              refine vcOps_sound ftCOk ?_
              simp (maxSteps := 4000000) only [go_sem, Nat.reduceBEq, Nat.reduceLT, Nat.reduceAdd, Nat.reduceLeDiff, Nat.reduceSub, Nat.reduceEqDiff, Int.reduceToNat, reduceCtorEq, ↓reduceIte]
              repeat' (first | refine And.intro ?_ ?_ | intro hg)
              all_goals (try simp (disch := omega) only [wrap_fits])
              all_goals first
                | (refine hK _ _ ?_; exact Red.auto)
                | exact trivial
                | assumption
                | omega
                | exact wrap_fits (by omega) (by omega)
                | (simp_all; done)
                | (simp_all; omega)
            refine wpA_cutAt 7 [(2, .pp 3 0), (74, .v (.bool ((((decide (0 ≤ a1) && decide (a1 ≤ 16)) && (decide (0 ≤ a0_0) && decide (a0_0 ≤ 100))) && ((a0_1.length : Int) == a1)) && ((a0_2.length : Int) == a1))))] [.row false (.ints .i64 a0_1), .row false (.bools a0_2), .row false (.trips a0_3), .rbox [.v (.int .i64 a0_0), .sl 0, .sl 1, .sl 2]] ?_ ?_
            · clear hK K
              intro K hK
              refine vcOps_sound ftCOk ?_
              simp (maxSteps := 4000000) only [go_sem, Nat.reduceBEq, Nat.reduceLT, Nat.reduceAdd, Nat.reduceLeDiff, Nat.reduceSub, Nat.reduceEqDiff, Int.reduceToNat, reduceCtorEq, ↓reduceIte]
              repeat' (first | refine And.intro ?_ ?_ | intro hg)
              all_goals (try simp (disch := omega) only [wrap_fits])
              all_goals first
                | (refine hK _ _ ?_; exact Red.auto)
                | exact trivial
                | assumption
                | omega
                | exact wrap_fits (by omega) (by omega)
                | (simp_all; done)
                | (simp_all; omega)
            refine vcOps_sound ftCOk ?_
            simp (maxSteps := 4000000) only [go_sem, Nat.reduceBEq, Nat.reduceLT, Nat.reduceAdd, Nat.reduceLeDiff, Nat.reduceSub, Nat.reduceEqDiff, Int.reduceToNat, reduceCtorEq, ↓reduceIte]
            repeat' (first | refine And.intro ?_ ?_ | intro hg)
            all_goals (try simp (disch := omega) only [wrap_fits])
            all_goals first
              | (refine hK _ _ ?_; exact Red.auto)
              | exact trivial
              | assumption
              | omega
              | exact wrap_fits (by omega) (by omega)
              | (simp_all; done)
              | (simp_all; omega)
          · refine awp_ret ?_
            (try simp only [Thn, InBlk, ↓reduceIte, Nat.reduceEqDiff])
            obtain rfl := Option.some.inj h
            refine ⟨by simp, _, [0, 1, 2], (by simp only [go_sem, Nat.reduceBEq, Nat.reduceLT, Nat.reduceAdd, Nat.reduceLeDiff, Nat.reduceSub, Nat.reduceEqDiff, Int.reduceToNat, reduceCtorEq, ↓reduceIte]; exact rfl), ?_, ?_, ?_, ?_⟩
            · exact fin1
            · simp [selOk, pos]
            · simp
            · exact fin4
        · try dsimp only [Sum.elim_inl, Sum.elim_inr] at h
          try dsimp only [Sum.elim_inl, Sum.elim_inr]
          (try simp only [Thn, InBlk, ↓reduceIte, Nat.reduceEqDiff])
          obtain rfl := Option.some.inj h
          refine ⟨by simp, _, [0, 1, 2], (by simp only [go_sem, Nat.reduceBEq, Nat.reduceLT, Nat.reduceAdd, Nat.reduceLeDiff, Nat.reduceSub, Nat.reduceEqDiff, Int.reduceToNat, reduceCtorEq, ↓reduceIte]; exact rfl), ?_, ?_, ?_, ?_⟩
          · exact fin1
          · simp [selOk, pos]
          · simp
          · exact fin4
    · try dsimp only [Sum.elim_inl, Sum.elim_inr] at h
      try dsimp only [Sum.elim_inl, Sum.elim_inr]
      (try simp only [Thn, InBlk, ↓reduceIte, Nat.reduceEqDiff])
      obtain rfl := Option.some.inj h
      refine ⟨by simp, _, [0, 1, 2], (by simp only [go_sem, Nat.reduceBEq, Nat.reduceLT, Nat.reduceAdd, Nat.reduceLeDiff, Nat.reduceSub, Nat.reduceEqDiff, Int.reduceToNat, reduceCtorEq, ↓reduceIte]; exact rfl), ?_, ?_, ?_, ?_⟩
      · exact fin1
      · simp [selOk, pos]
      · simp
      · exact fin4
theorem k_spec_SortMessages (a0 : List (Int × Int × Int)) {r : (List (Int × Int × Int))} (h : spec_SortMessages a0 = some r) :
    FnA Try.prog 38 [.sl 0] [.row false (.trips a0)] [] (fun x H => x = .sl 1 ∧ H = [.row false (.trips a0), .row true (.trips r)]) := by
  unfold spec_SortMessages at h
  refine FnA.of (N := 54) (pin := [0]) (rs := [.tmp 2]) Try.func38 rfl en38 rfl rfl (by simp) (by simp; try omega) ?_
  refine awp_reg ftCOk [(0, .sl 0)] [.row false (.trips a0)] ?_
  refine awp_reg ftCOk [(0, .sl 0), (3, .sl 1)] [.row false (.trips a0), .row true (.trips [])] ?_
  refine awp_seq fun K140 hK140 => ?_
  refine awp_reg ftCOk [(0, .sl 0), (3, .sl 1), (4, .v (.int .i64 0))] [.row false (.trips a0), .row true (.trips [])] ?_
  refine awp_block ?_
  replace h := bind_some h
  obtain ⟨t3s_1, hx, h⟩ := h
  refine awp_loopL hx (fun ((t4, t3s) : Int × (List (Int × Int × Int))) => [(0, .sl 0), (3, .sl 1), (4, .v (.int .i64 t4))]) (fun ((t4, t3s) : Int × (List (Int × Int × Int))) => [.row false (.trips a0), .row true (.trips t3s)]) (fun (t3s_1 : List (Int × Int × Int)) => Exit.exit 0) (fun (t3s_1 : List (Int × Int × Int)) => [(3, .sl 1)]) (fun (t3s_1 : List (Int × Int × Int)) => [.row false (.trips a0), .row true (.trips t3s_1)]) ?_ ?_ ?_ ?_
  · rintro t3s_1 hy <;> cases hy
  · clear h hx
    exact Red.auto
  · clear h hx
    rintro ⟨t4, t3s⟩ r h
    unfold spec_SortMessages_b1 at h
    try dsimp only at h
    try dsimp only
    refine awp_seq fun K234 hK234 => ?_
    refine awp_reg ftCOk [(0, .sl 0), (3, .sl 1), (4, .v (.int .i64 t4)), (16, .v (.bool ((decide (t4 < (a0.length : Int))) && (decide ((a0.length : Int) ≤ 2000)))))] [.row false (.trips a0), .row true (.trips t3s)] ?_
    refine awp_cond (t := 16) rfl (fun hc235 => ?_) (fun hc235 => ?_)
    · replace h := bite_t h hc235
      refine awp_skip ?_
      (try simp only [Thn, InBlk, ↓reduceIte, Nat.reduceEqDiff])
      refine hK234 _ _ ?_
      clear hK234
      refine awp_seq fun K257 hK257 => ?_
      refine awp_block ?_
      refine awp_reg ftCOk [(0, .sl 0), (3, .sl 1), (4, .v (.int .i64 t4)), (5, .v (.int .i64 (t3s.length : Int)))] [.row false (.trips a0), .row true (.trips t3s)] ?_
      refine awp_seq fun K268 hK268 => ?_
      refine awp_block ?_
      replace h := bind_some h
      obtain ⟨t5_1, hx, h⟩ := h
      refine awp_loopL hx (fun (t5 : Int) => [(0, .sl 0), (3, .sl 1), (4, .v (.int .i64 t4)), (5, .v (.int .i64 t5))]) (fun (t5 : Int) => [.row false (.trips a0), .row true (.trips t3s)]) (fun (t5_1 : Int) => Exit.exit 2) (fun (t5_1 : Int) => [(0, .sl 0), (3, .sl 1), (4, .v (.int .i64 t4)), (5, .v (.int .i64 t5_1))]) (fun (t5_1 : Int) => [.row false (.trips a0), .row true (.trips t3s)]) ?_ ?_ ?_ ?_
      · rintro t5_1 hy <;> cases hy
      · clear h hx
        exact Red.auto
      · clear h hx
        rintro t5 r h
        unfold spec_SortMessages_b0 at h
        try dsimp only at h
        try dsimp only
        refine awp_seq fun K276 hK276 => ?_
        replace h := chk_some h
        obtain ⟨hp0, h⟩ := h
        replace h := chk_some h
        obtain ⟨hp1, h⟩ := h
        have hwhp1 := wrap_fits hp1.1 hp1.2
        replace h := chk_some h
        obtain ⟨hp2, h⟩ := h
        replace h := bind_some h
        obtain ⟨y, hr3, h⟩ := h
        try dsimp only at h
        refine awp_to [(0, .sl 0), (3, .sl 1), (4, .v (.int .i64 t4)), (5, .v (.int .i64 t5)), (34, .v (.bool ((decide (0 < t5)) && y)))] [.row false (.trips a0), .row true (.trips t3s)] ?_ ?_
        · clear h
          intro K hK
          refine awp_drawT mixed ftCOk (.one 0 (.one 1 (.one 2 (.free 3 (.free 4 (.free 5 (.free 7 (.free 8 (.free 9 (.free 6 (.one 10 (.one 11 (.one 12 (.one 13 .fin)))))))))))))) (by kernel_rfl) (by simp) ?_
          simp (maxSteps := 4000000) only [go_sem, Nat.reduceBEq, Nat.reduceLT, Nat.reduceAdd, Nat.reduceLeDiff, Nat.reduceSub, Nat.reduceEqDiff, Int.reduceToNat, reduceCtorEq, ↓reduceIte]
          repeat' (first | refine And.intro ?_ ?_ | intro hg)
          all_goals (try simp (disch := omega) only [wrap_fits])
          all_goals first
            | (refine hK _ _ ?_; exact Red.auto)
            | exact trivial
            | assumption
            | omega
            | exact wrap_fits (by omega) (by omega)
            | (have hq := hp0 (by first | assumption | (simp only [*, Bool.false_or, Bool.true_or, Bool.or_false, Bool.or_true, Bool.false_and, Bool.true_and, Bool.and_false, Bool.and_true, Bool.not_true, Bool.not_false, beq_self_eq_true]; done) | (simp_all; done)); omega)
            | (have hq := hp2 (by first | assumption | (simp only [*, Bool.false_or, Bool.true_or, Bool.or_false, Bool.or_true, Bool.false_and, Bool.true_and, Bool.and_false, Bool.and_true, Bool.not_true, Bool.not_false, beq_self_eq_true]; done) | (simp_all; done)); omega)
            | (refine OpK_callA (k_spec_l9Before ((a0.getD t4.toNat (0, 0, 0)).1) ((a0.getD t4.toNat (0, 0, 0)).2.1) ((a0.getD t4.toNat (0, 0, 0)).2.2) ((t3s.getD ((t5 - 1).toNat) (0, 0, 0)).1) ((t3s.getD ((t5 - 1).toNat) (0, 0, 0)).2.1) ((t3s.getD ((t5 - 1).toNat) (0, 0, 0)).2.2) (h := (bite_t hr3 (by first | assumption | (simp only [*, Bool.false_or, Bool.true_or, Bool.or_false, Bool.or_true, Bool.false_and, Bool.true_and, Bool.and_false, Bool.and_true, Bool.not_true, Bool.not_false, beq_self_eq_true]; done) | (simp_all; done))))) [] [] ?_
               rintro x Hc' ⟨rfl, rfl⟩ hlen
               simp (maxSteps := 4000000) only [go_sem, Nat.reduceBEq, Nat.reduceLT, Nat.reduceAdd, Nat.reduceLeDiff, Nat.reduceSub, Nat.reduceEqDiff, Int.reduceToNat, reduceCtorEq, ↓reduceIte]
               repeat' (first | refine And.intro ?_ ?_ | intro hg)
               all_goals (try simp (disch := omega) only [wrap_fits])
               all_goals first
                 | (refine hK _ _ ?_; exact Red.auto)
                 | exact trivial
                 | assumption
                 | omega
                 | exact wrap_fits (by omega) (by omega)
                 | (have hq := hp0 (by first | assumption | (simp only [*, Bool.false_or, Bool.true_or, Bool.or_false, Bool.or_true, Bool.false_and, Bool.true_and, Bool.and_false, Bool.and_true, Bool.not_true, Bool.not_false, beq_self_eq_true]; done) | (simp_all; done)); omega)
                 | (have hq := hp2 (by first | assumption | (simp only [*, Bool.false_or, Bool.true_or, Bool.or_false, Bool.or_true, Bool.false_and, Bool.true_and, Bool.and_false, Bool.and_true, Bool.not_true, Bool.not_false, beq_self_eq_true]; done) | (simp_all; done)); omega)
                 | (simp (maxSteps := 4000000) only [go_sem, Nat.reduceBEq, Nat.reduceLT, Nat.reduceAdd, Nat.reduceLeDiff, Nat.reduceSub, Nat.reduceEqDiff, Int.reduceToNat, reduceCtorEq, ↓reduceIte]
                    repeat' (first | refine And.intro ?_ ?_ | intro hg)
                    all_goals (try simp (disch := omega) only [wrap_fits])
                    all_goals first | (refine hK _ _ ?_; exact Red.auto) | exact trivial | assumption | omega | exact wrap_fits (by omega) (by omega) | (have hq := hp0 (by first | assumption | (simp only [*, Bool.false_or, Bool.true_or, Bool.or_false, Bool.or_true, Bool.false_and, Bool.true_and, Bool.and_false, Bool.and_true, Bool.not_true, Bool.not_false, beq_self_eq_true]; done) | (simp_all; done)); omega) | (have hq := hp2 (by first | assumption | (simp only [*, Bool.false_or, Bool.true_or, Bool.or_false, Bool.or_true, Bool.false_and, Bool.true_and, Bool.and_false, Bool.and_true, Bool.not_true, Bool.not_false, beq_self_eq_true]; done) | (simp_all; done)); omega))
                 | (simp_all; done)
                 | (simp_all; omega))
            | (simp_all; done)
            | (simp_all; omega)
        · clear hp0 hp1 hp2 hr3
          refine awp_cond (t := 34) rfl (fun hc277 => ?_) (fun hc277 => ?_)
          · replace h := bite_t h hc277
            refine awp_skip ?_
            (try simp only [Thn, InBlk, ↓reduceIte, Nat.reduceEqDiff])
            refine hK276 _ _ ?_
            clear hK276
            refine awp_block ?_
            replace h := chk_some h
            obtain ⟨hp0, h⟩ := h
            have hwhp0 := wrap_fits hp0.1 hp0.2
            refine awp_regE ftCOk [(0, .sl 0), (3, .sl 1), (4, .v (.int .i64 t4)), (5, .v (.int .i64 (t5 - 1)))] [.row false (.trips a0), .row true (.trips t3s)] ?_
            clear hp0
            (try simp only [Thn, InBlk, ↓reduceIte, Nat.reduceEqDiff])
            obtain rfl := Option.some.inj h
            refine LoopQ.next ?_
            exact Red.auto
          · replace h := bite_f h hc277
            refine awp_exit ?_
            (try simp only [Thn, InBlk, ↓reduceIte, Nat.reduceEqDiff])
            obtain rfl := Option.some.inj h
            refine LoopQ.out rfl ?_
            exact Red.auto
      · clear hx
        skip
        · try dsimp only [Sum.elim_inl, Sum.elim_inr] at h
          try dsimp only [Sum.elim_inl, Sum.elim_inr]
          (try simp only [Thn, InBlk, ↓reduceIte, Nat.reduceEqDiff])
          (try simp only [Thn, InBlk, ↓reduceIte, Nat.reduceEqDiff])
          (try simp only [Thn, InBlk, ↓reduceIte, Nat.reduceEqDiff])
          refine hK268 _ _ ?_
          clear hK268
          replace h := chk_some h
          obtain ⟨hp0, h⟩ := h
          replace h := chk_some h
          obtain ⟨hp1, h⟩ := h
          refine awp_reg ftCOk [(0, .sl 0), (3, .sl 1), (4, .v (.int .i64 t4)), (5, .v (.int .i64 t5_1)), (6, .sl 2)] [.row false (.trips a0), .row true (.trips t3s), .row true (.trips ([] ++ ((t3s.take t3s.length).drop t5_1.toNat))), .view 1 (.trips ((t3s.take t3s.length).drop t5_1.toNat))] ?_
          clear hp0 hp1
          replace h := chk_some h
          obtain ⟨hp0, h⟩ := h
          replace h := chk_some h
          obtain ⟨hp1, h⟩ := h
          replace h := chk_some h
          obtain ⟨hp2, h⟩ := h
          replace h := chk_some h
          obtain ⟨hp3, h⟩ := h
          refine awp_end [(0, .sl 0), (3, .sl 4), (4, .v (.int .i64 t4))] [.row false (.trips a0), .dead, .row true (.trips ([] ++ ((t3s.take t3s.length).drop t5_1.toNat))), .dead, .row true (.trips ((((t3s.take t5_1.toNat).drop 0) ++ [((a0.getD t4.toNat (0, 0, 0)).1, (a0.getD t4.toNat (0, 0, 0)).2.1, (a0.getD t4.toNat (0, 0, 0)).2.2)]) ++ ([] ++ ((t3s.take t3s.length).drop t5_1.toNat)))), .row true (.trips [((a0.getD t4.toNat (0, 0, 0)).1, (a0.getD t4.toNat (0, 0, 0)).2.1, (a0.getD t4.toNat (0, 0, 0)).2.2)])] ?_ ?_
          · clear h
            intro K hK
            refine awp_drawL [0, 1, 2, 3] [0, 1, 3, 4, 5, 9, 6] 5 #[true, true, false, true, true, true, true, false, false, true, false, false] mixed ftCOk (by kernel_rfl) (by first | rfl | kernel_rfl) (by rfl) (by simp) fun L hL => ?_
            have n4 : L 0 #[true, true, true, true, true, true, true, true, true, true, true, true] [(0, .sl 0), (3, .sl 4), (4, .v (.int .i64 t4)), (5, .v (.int .i64 t5_1)), (6, .sl 2), (42, .sl 1), (43, .v (.int .i64 t5_1)), (45, .sl 0), (46, .v (.int .i64 t4)), (47, .ep 0 t4.toNat 3 0), (48, .agg [.v (.int .i64 ((a0.getD t4.toNat (0, 0, 0)).1)), .v (.int .i64 ((a0.getD t4.toNat (0, 0, 0)).2.1)), .v (.int .i64 ((a0.getD t4.toNat (0, 0, 0)).2.2))]), (49, .sl 5), (51, .sl 2), (52, .sl 4)] [.row false (.trips a0), .dead, .row true (.trips ([] ++ ((t3s.take t3s.length).drop t5_1.toNat))), .dead, .row true (.trips ((((t3s.take t5_1.toNat).drop 0) ++ [((a0.getD t4.toNat (0, 0, 0)).1, (a0.getD t4.toNat (0, 0, 0)).2.1, (a0.getD t4.toNat (0, 0, 0)).2.2)]) ++ ([] ++ ((t3s.take t3s.length).drop t5_1.toNat)))), .row true (.trips [((a0.getD t4.toNat (0, 0, 0)).1, (a0.getD t4.toNat (0, 0, 0)).2.1, (a0.getD t4.toNat (0, 0, 0)).2.2)])] := by
              exact hL.fin (by kernel_rfl) (hK _ _ Red.auto)
            have n3 : L 2 #[true, true, true, true, true, true, true, true, true, true, false, false] [(0, .sl 0), (3, .sl 1), (4, .v (.int .i64 t4)), (5, .v (.int .i64 t5_1)), (6, .sl 2), (42, .sl 1), (43, .v (.int .i64 t5_1)), (45, .sl 0), (46, .v (.int .i64 t4)), (47, .ep 0 t4.toNat 3 0), (48, .agg [.v (.int .i64 ((a0.getD t4.toNat (0, 0, 0)).1)), .v (.int .i64 ((a0.getD t4.toNat (0, 0, 0)).2.1)), .v (.int .i64 ((a0.getD t4.toNat (0, 0, 0)).2.2))]), (49, .sl 5), (50, .sl 4), (51, .sl 2)] [.row false (.trips a0), .dead, .row true (.trips ([] ++ ((t3s.take t3s.length).drop t5_1.toNat))), .dead, .row true (.trips (((t3s.take t5_1.toNat).drop 0) ++ [((a0.getD t4.toNat (0, 0, 0)).1, (a0.getD t4.toNat (0, 0, 0)).2.1, (a0.getD t4.toNat (0, 0, 0)).2.2)])), .row true (.trips [((a0.getD t4.toNat (0, 0, 0)).1, (a0.getD t4.toNat (0, 0, 0)).2.1, (a0.getD t4.toNat (0, 0, 0)).2.2)])] := by
              refine hL.step [(10, [11], 0, #[true, true, true, true, true, true, true, true, true, true, true, true])] (by kernel_rfl) ⟨?_, trivial⟩
              · exact hL.edge n4
            have n2 : L 3 #[true, true, true, true, true, true, true, true, false, true, false, false] [(0, .sl 0), (3, .sl 1), (4, .v (.int .i64 t4)), (5, .v (.int .i64 t5_1)), (6, .sl 2), (42, .sl 1), (43, .v (.int .i64 t5_1)), (44, .sl 4), (45, .sl 0), (46, .v (.int .i64 t4)), (47, .ep 0 t4.toNat 3 0), (48, .agg [.v (.int .i64 ((a0.getD t4.toNat (0, 0, 0)).1)), .v (.int .i64 ((a0.getD t4.toNat (0, 0, 0)).2.1)), .v (.int .i64 ((a0.getD t4.toNat (0, 0, 0)).2.2))]), (49, .sl 5), (51, .sl 2)] [.row false (.trips a0), .row true (.trips t3s), .row true (.trips ([] ++ ((t3s.take t3s.length).drop t5_1.toNat))), .view 1 (.trips ((t3s.take t3s.length).drop t5_1.toNat)), .view 1 (.trips ((t3s.take t5_1.toNat).drop 0)), .row true (.trips [((a0.getD t4.toNat (0, 0, 0)).1, (a0.getD t4.toNat (0, 0, 0)).2.1, (a0.getD t4.toNat (0, 0, 0)).2.2)])] := by
              refine hL.step [(8, [], 2, #[true, true, true, true, true, true, true, true, true, true, false, false])] (by kernel_rfl) ⟨?_, trivial⟩
              · exact hL.edge n3
            have n1 : L 4 #[true, true, true, true, true, true, true, false, false, true, false, false] [(0, .sl 0), (3, .sl 1), (4, .v (.int .i64 t4)), (5, .v (.int .i64 t5_1)), (6, .sl 2), (42, .sl 1), (43, .v (.int .i64 t5_1)), (44, .sl 4), (45, .sl 0), (46, .v (.int .i64 t4)), (47, .ep 0 t4.toNat 3 0), (48, .agg [.v (.int .i64 ((a0.getD t4.toNat (0, 0, 0)).1)), .v (.int .i64 ((a0.getD t4.toNat (0, 0, 0)).2.1)), .v (.int .i64 ((a0.getD t4.toNat (0, 0, 0)).2.2))]), (51, .sl 2)] [.row false (.trips a0), .row true (.trips t3s), .row true (.trips ([] ++ ((t3s.take t3s.length).drop t5_1.toNat))), .view 1 (.trips ((t3s.take t3s.length).drop t5_1.toNat)), .view 1 (.trips ((t3s.take t5_1.toNat).drop 0))] := by
              refine hL.step [(7, [], 3, #[true, true, true, true, true, true, true, true, false, true, false, false])] (by kernel_rfl) ⟨?_, trivial⟩
              · exact hL.edge n2
            have n5 : L 4 #[true, true, false, true, true, true, true, true, false, true, false, false] [(0, .sl 0), (3, .sl 1), (4, .v (.int .i64 t4)), (5, .v (.int .i64 t5_1)), (6, .sl 2), (42, .sl 1), (43, .v (.int .i64 t5_1)), (45, .sl 0), (46, .v (.int .i64 t4)), (47, .ep 0 t4.toNat 3 0), (48, .agg [.v (.int .i64 ((a0.getD t4.toNat (0, 0, 0)).1)), .v (.int .i64 ((a0.getD t4.toNat (0, 0, 0)).2.1)), .v (.int .i64 ((a0.getD t4.toNat (0, 0, 0)).2.2))]), (49, .sl 4), (51, .sl 2)] [.row false (.trips a0), .row true (.trips t3s), .row true (.trips ([] ++ ((t3s.take t3s.length).drop t5_1.toNat))), .view 1 (.trips ((t3s.take t3s.length).drop t5_1.toNat)), .row true (.trips [((a0.getD t4.toNat (0, 0, 0)).1, (a0.getD t4.toNat (0, 0, 0)).2.1, (a0.getD t4.toNat (0, 0, 0)).2.2)])] := by
              refine hL.step [(2, [], 3, #[true, true, true, true, true, true, true, true, false, true, false, false])] (by kernel_rfl) ⟨?_, trivial⟩
              · exact hL.edgeS [0, 1, 2, 3, 5, 4] n2
            have n0 : L 5 #[true, true, false, true, true, true, true, false, false, true, false, false] [(0, .sl 0), (3, .sl 1), (4, .v (.int .i64 t4)), (5, .v (.int .i64 t5_1)), (6, .sl 2), (42, .sl 1), (43, .v (.int .i64 t5_1)), (45, .sl 0), (46, .v (.int .i64 t4)), (47, .ep 0 t4.toNat 3 0), (48, .agg [.v (.int .i64 ((a0.getD t4.toNat (0, 0, 0)).1)), .v (.int .i64 ((a0.getD t4.toNat (0, 0, 0)).2.1)), .v (.int .i64 ((a0.getD t4.toNat (0, 0, 0)).2.2))]), (51, .sl 2)] [.row false (.trips a0), .row true (.trips t3s), .row true (.trips ([] ++ ((t3s.take t3s.length).drop t5_1.toNat))), .view 1 (.trips ((t3s.take t3s.length).drop t5_1.toNat))] := by
              refine hL.step [(2, [], 4, #[true, true, true, true, true, true, true, false, false, true, false, false]), (7, [], 4, #[true, true, false, true, true, true, true, true, false, true, false, false])] (by kernel_rfl) ⟨?_, ?_, trivial⟩
              · exact hL.edge n1
              · exact hL.edge n5
            simp (maxSteps := 4000000) only [go_sem, Nat.reduceBEq, Nat.reduceLT, Nat.reduceAdd, Nat.reduceLeDiff, Nat.reduceSub, Nat.reduceEqDiff, Int.reduceToNat, reduceCtorEq, ↓reduceIte]
            repeat' (first | refine And.intro ?_ ?_ | intro hg)
            all_goals (try simp (disch := omega) only [wrap_fits])
            all_goals first
              | (refine hL.red ?_ n0; exact Red.auto)
              | exact trivial
              | assumption
              | omega
              | exact wrap_fits (by omega) (by omega)
              | (simp (maxSteps := 4000000) only [go_sem, Nat.reduceBEq, Nat.reduceLT, Nat.reduceAdd, Nat.reduceLeDiff, Nat.reduceSub, Nat.reduceEqDiff, Int.reduceToNat, reduceCtorEq, ↓reduceIte]
                 repeat' (first | refine And.intro ?_ ?_ | intro hg)
                 all_goals (try simp (disch := omega) only [wrap_fits])
                 all_goals first | (refine hL.red ?_ n0; exact Red.auto) | exact trivial | assumption | omega | exact wrap_fits (by omega) (by omega))
              | (simp_all; done)
              | (simp_all; omega)
          · clear hp0 hp1 hp2 hp3
            (try simp only [Thn, InBlk, ↓reduceIte, Nat.reduceEqDiff])
            (try simp only [Thn, InBlk, ↓reduceIte, Nat.reduceEqDiff])
            refine hK257 _ _ ?_
            clear hK257
            replace h := chk_some h
            obtain ⟨hp0, h⟩ := h
            refine awp_regE ftCOk [(0, .sl 0), (3, .sl 4), (4, .v (.int .i64 (t4 + 1)))] [.row false (.trips a0), .dead, .row true (.trips ([] ++ ((t3s.take t3s.length).drop t5_1.toNat))), .dead, .row true (.trips ((((t3s.take t5_1.toNat).drop 0) ++ [((a0.getD t4.toNat (0, 0, 0)).1, (a0.getD t4.toNat (0, 0, 0)).2.1, (a0.getD t4.toNat (0, 0, 0)).2.2)]) ++ ([] ++ ((t3s.take t3s.length).drop t5_1.toNat)))), .row true (.trips [((a0.getD t4.toNat (0, 0, 0)).1, (a0.getD t4.toNat (0, 0, 0)).2.1, (a0.getD t4.toNat (0, 0, 0)).2.2)])] ?_
            clear hp0
            obtain rfl := Option.some.inj h
            refine LoopQ.next ?_
            exact Red.selA [0, 4] Red.auto
    · replace h := bite_f h hc235
      refine awp_exit ?_
      (try simp only [Thn, InBlk, ↓reduceIte, Nat.reduceEqDiff])
      obtain rfl := Option.some.inj h
      refine LoopQ.out rfl ?_
      exact Red.auto
  · clear hx
    skip
    · try dsimp only [Sum.elim_inl, Sum.elim_inr] at h
      try dsimp only [Sum.elim_inl, Sum.elim_inr]
      (try simp only [Thn, InBlk, ↓reduceIte, Nat.reduceEqDiff])
      (try simp only [Thn, InBlk, ↓reduceIte, Nat.reduceEqDiff])
      (try simp only [Thn, InBlk, ↓reduceIte, Nat.reduceEqDiff])
      refine hK140 _ _ ?_
      clear hK140
      refine awp_reg ftCOk [(2, .sl 1)] [.row false (.trips a0), .row true (.trips t3s_1)] ?_
      refine awp_ret ?_
      (try simp only [Thn, InBlk, ↓reduceIte, Nat.reduceEqDiff])
      obtain rfl := Option.some.inj h
      refine ⟨by simp, _, [0, 1], (by simp only [go_sem, Nat.reduceBEq, Nat.reduceLT, Nat.reduceAdd, Nat.reduceLeDiff, Nat.reduceSub, Nat.reduceEqDiff, Int.reduceToNat, reduceCtorEq, ↓reduceIte]; exact rfl), ?_, ?_, ?_, ?_⟩
      · exact fin1
      · simp [selOk, pos]
      · simp
      · exact fin4
theorem k_spec_CanCombine (a0_0 : Int) (a0_1 : Int) (a0_2 : Int) {r : Bool} (h : spec_CanCombine a0_0 a0_1 a0_2 = some r) :
    FnA Try.prog 39 [.agg [.v (.int .i64 a0_0), .v (.int .i64 a0_1), .v (.int .i64 a0_2)]] [] [] (fun x H => x = .v (.bool r) ∧ H = []) := by
  unfold spec_CanCombine at h
  refine FnA.of (N := 10) (pin := []) (rs := [.tmp 2]) Try.func39 rfl en39 rfl rfl (by simp) (by simp; try omega) ?_
  refine awp_reg ftCOk [(1, .pp 0 0)] [.box [.v (.int .i64 a0_0), .v (.int .i64 a0_1), .v (.int .i64 a0_2)]] ?_
  refine awp_freeze 1 (by rfl) (by rfl) (by exact rfl) ?_
  replace h := bind_some h
  obtain ⟨y, hr0, h⟩ := h
  try dsimp only at h
  refine awp_to [(2, .v (.bool (y && (decide (1 ≤ a0_0) && decide (a0_0 ≤ 3)))))] [.rbox [.v (.int .i64 a0_0), .v (.int .i64 a0_1), .v (.int .i64 a0_2)]] ?_ ?_
  · clear h
    intro K hK
    refine awp_region ftCOk ?_
    simp (maxSteps := 4000000) only [go_sem, Nat.reduceBEq, Nat.reduceLT, Nat.reduceAdd, Nat.reduceLeDiff, Nat.reduceSub, Nat.reduceEqDiff, Int.reduceToNat, reduceCtorEq, ↓reduceIte]
    repeat' (first | refine And.intro ?_ ?_ | intro hg)
    all_goals (try simp (disch := omega) only [wrap_fits])
    all_goals first
      | (refine hK _ _ ?_; exact Red.auto)
      | exact trivial
      | assumption
      | omega
      | exact wrap_fits (by omega) (by omega)
      | (refine wpA_callA (k_spec_ProgramValid a0_0 a0_1 a0_2 (h := hr0)) [] [] ?_
         rintro x Hc' ⟨rfl, rfl⟩ hlen
         refine vcOps_sound ftCOk ?_
         simp (maxSteps := 4000000) only [go_sem, Nat.reduceBEq, Nat.reduceLT, Nat.reduceAdd, Nat.reduceLeDiff, Nat.reduceSub, Nat.reduceEqDiff, Int.reduceToNat, reduceCtorEq, ↓reduceIte]
         repeat' (first | refine And.intro ?_ ?_ | intro hg)
         all_goals (try simp (disch := omega) only [wrap_fits])
         all_goals first
           | (refine hK _ _ ?_; exact Red.auto)
           | exact trivial
           | assumption
           | omega
           | exact wrap_fits (by omega) (by omega)
           | (simp_all; done)
           | (simp_all; omega))
      | (simp_all; done)
      | (simp_all; omega)
  · clear hr0
    refine awp_ret ?_
    (try simp only [Thn, InBlk, ↓reduceIte, Nat.reduceEqDiff])
    obtain rfl := Option.some.inj h
    refine ⟨by simp, _, [], (by simp only [go_sem, Nat.reduceBEq, Nat.reduceLT, Nat.reduceAdd, Nat.reduceLeDiff, Nat.reduceSub, Nat.reduceEqDiff, Int.reduceToNat, reduceCtorEq, ↓reduceIte]; exact rfl), ?_, ?_, ?_, ?_⟩
    · exact fin1
    · simp [selOk, pos]
    · simp
    · exact fin4
theorem k_spec_CombineMessages (a0_0 : Int) (a0_1 : Int) (a0_2 : Int) (a1 : List (Int × Int × Int)) {r : (List (Int × Int × Int))} (h : spec_CombineMessages a0_0 a0_1 a0_2 a1 = some r) :
    FnA Try.prog 18 [.agg [.v (.int .i64 a0_0), .v (.int .i64 a0_1), .v (.int .i64 a0_2)], .sl 0] [.row false (.trips a1)] [] (fun x H => x = .sl 1 ∧ H = [.row false (.trips a1), .row true (.trips r)]) := by
  unfold spec_CombineMessages at h
  refine FnA.of (N := 53) (pin := [0]) (rs := [.tmp 4]) Try.func18 rfl en18 rfl rfl (by simp) (by simp; try omega) ?_
  refine awp_reg ftCOk [(1, .sl 0), (2, .pp 1 0)] [.row false (.trips a1), .box [.v (.int .i64 a0_0), .v (.int .i64 a0_1), .v (.int .i64 a0_2)]] ?_
  refine awp_freeze 2 (by rfl) (by rfl) (by exact rfl) ?_
  refine awp_reg ftCOk [(1, .sl 0), (2, .pp 1 0), (5, .sl 2)] [.row false (.trips a1), .rbox [.v (.int .i64 a0_0), .v (.int .i64 a0_1), .v (.int .i64 a0_2)], .row true (.trips [])] ?_
  replace h := bind_some h
  obtain ⟨y, hr0, h⟩ := h
  try dsimp only at h
  refine awp_to [(2, .pp 1 0), (5, .sl 2), (6, .sl 3)] [.row false (.trips a1), .rbox [.v (.int .i64 a0_0), .v (.int .i64 a0_1), .v (.int .i64 a0_2)], .row true (.trips []), .row true (.trips y)] ?_ ?_
  · clear h
    intro K hK
    refine awp_region ftCOk ?_
    simp (maxSteps := 4000000) only [go_sem, Nat.reduceBEq, Nat.reduceLT, Nat.reduceAdd, Nat.reduceLeDiff, Nat.reduceSub, Nat.reduceEqDiff, Int.reduceToNat, reduceCtorEq, ↓reduceIte]
    repeat' (first | refine And.intro ?_ ?_ | intro hg)
    all_goals (try simp (disch := omega) only [wrap_fits])
    all_goals first
      | (refine hK _ _ ?_; exact Red.auto)
      | exact trivial
      | assumption
      | omega
      | exact wrap_fits (by omega) (by omega)
      | (refine wpA_callA (k_spec_SortMessages a1 (h := hr0)) [0] [] ?_
         rintro x Hc' ⟨rfl, rfl⟩ hlen
         refine vcOps_sound ftCOk ?_
         simp (maxSteps := 4000000) only [go_sem, Nat.reduceBEq, Nat.reduceLT, Nat.reduceAdd, Nat.reduceLeDiff, Nat.reduceSub, Nat.reduceEqDiff, Int.reduceToNat, reduceCtorEq, ↓reduceIte]
         repeat' (first | refine And.intro ?_ ?_ | intro hg)
         all_goals (try simp (disch := omega) only [wrap_fits])
         all_goals first
           | (refine hK _ _ ?_; exact Red.auto)
           | exact trivial
           | assumption
           | omega
           | exact wrap_fits (by omega) (by omega)
           | (simp_all; done)
           | (simp_all; omega))
      | (simp_all; done)
      | (simp_all; omega)
  · clear hr0
    refine awp_seq fun K17 hK17 => ?_
    refine awp_reg ftCOk [(2, .pp 1 0), (5, .sl 2), (6, .sl 3), (7, .v (.int .i64 0))] [.row false (.trips a1), .rbox [.v (.int .i64 a0_0), .v (.int .i64 a0_1), .v (.int .i64 a0_2)], .row true (.trips []), .row true (.trips y)] ?_
    refine awp_block ?_
    replace h := bind_some h
    obtain ⟨t5s_1, hx, h⟩ := h
    refine awp_loopL hx (fun ((t7, t5s) : Int × (List (Int × Int × Int))) => [(2, .pp 1 0), (5, .sl 2), (6, .sl 3), (7, .v (.int .i64 t7))]) (fun ((t7, t5s) : Int × (List (Int × Int × Int))) => [.row false (.trips a1), .rbox [.v (.int .i64 a0_0), .v (.int .i64 a0_1), .v (.int .i64 a0_2)], .row true (.trips t5s), .row true (.trips y)]) (fun (t5s_1 : List (Int × Int × Int)) => Exit.exit 0) (fun (t5s_1 : List (Int × Int × Int)) => [(5, .sl 1)]) (fun (t5s_1 : List (Int × Int × Int)) => [.row false (.trips a1), .row true (.trips t5s_1)]) ?_ ?_ ?_ ?_
    · rintro t5s_1 hy <;> cases hy
    · clear h hx
      exact Red.auto
    · clear h hx
      rintro ⟨t7, t5s⟩ r h
      unfold spec_CombineMessages_b0 at h
      try dsimp only at h
      try dsimp only
      refine awp_seq fun K29 hK29 => ?_
      replace h := bind_some h
      obtain ⟨y_1, hr0, h⟩ := h
      try dsimp only at h
      refine awp_to [(2, .pp 1 0), (5, .sl 2), (6, .sl 3), (7, .v (.int .i64 t7)), (19, .v (.bool ((decide (t7 < (y.length : Int))) && y_1)))] [.row false (.trips a1), .rbox [.v (.int .i64 a0_0), .v (.int .i64 a0_1), .v (.int .i64 a0_2)], .row true (.trips t5s), .row true (.trips y)] ?_ ?_
      · clear h
        intro K hK
        refine awp_region ftCOk ?_
        simp (maxSteps := 4000000) only [go_sem, Nat.reduceBEq, Nat.reduceLT, Nat.reduceAdd, Nat.reduceLeDiff, Nat.reduceSub, Nat.reduceEqDiff, Int.reduceToNat, reduceCtorEq, ↓reduceIte]
        repeat' (first | refine And.intro ?_ ?_ | intro hg)
        all_goals (try simp (disch := omega) only [wrap_fits])
        all_goals first
          | (refine hK _ _ ?_; exact Red.auto)
          | exact trivial
          | assumption
          | omega
          | exact wrap_fits (by omega) (by omega)
          | (refine wpA_guard rfl rfl ?_
             refine wpA_callA (k_spec_ProgramValid a0_0 a0_1 a0_2 (h := (bite_t hr0 (by first | assumption | (simp only [*, Bool.false_or, Bool.true_or, Bool.or_false, Bool.or_true, Bool.false_and, Bool.true_and, Bool.and_false, Bool.and_true, Bool.not_true, Bool.not_false, beq_self_eq_true]; done) | (simp_all; done))))) [] [] ?_
             rintro x Hc' ⟨rfl, rfl⟩ hlen
             refine vcOps_sound ftCOk ?_
             simp (maxSteps := 4000000) only [go_sem, Nat.reduceBEq, Nat.reduceLT, Nat.reduceAdd, Nat.reduceLeDiff, Nat.reduceSub, Nat.reduceEqDiff, Int.reduceToNat, reduceCtorEq, ↓reduceIte]
             repeat' (first | refine And.intro ?_ ?_ | intro hg)
             all_goals (try simp (disch := omega) only [wrap_fits])
             all_goals first
               | (refine hK _ _ ?_; exact Red.auto)
               | exact trivial
               | assumption
               | omega
               | exact wrap_fits (by omega) (by omega)
               | (simp_all; done)
               | (simp_all; omega))
          | (simp_all; done)
          | (simp_all; omega)
      · clear hr0
        refine awp_cond (t := 19) rfl (fun hc30 => ?_) (fun hc30 => ?_)
        · replace h := bite_t h hc30
          refine awp_skip ?_
          (try simp only [Thn, InBlk, ↓reduceIte, Nat.reduceEqDiff])
          refine hK29 _ _ ?_
          clear hK29
          refine awp_join h (fun (t5s_2 : List (Int × Int × Int)) => [(2, .pp 1 0), (5, .sl 2), (6, .sl 3), (7, .v (.int .i64 t7))]) (fun (t5s_2 : List (Int × Int × Int)) => [.row false (.trips a1), .rbox [.v (.int .i64 a0_0), .v (.int .i64 a0_1), .v (.int .i64 a0_2)], .row true (.trips t5s_2), .row true (.trips y)]) ?_ ?_
          · clear h
            intro k h
            try dsimp only at h
            refine awp_block ?_
            replace h := chk_some h
            obtain ⟨hp0, h⟩ := h
            have hwhp0 := wrap_fits hp0.1 hp0.2
            refine awp_reg ftCOk [(2, .pp 1 0), (5, .sl 2), (6, .sl 3), (7, .v (.int .i64 t7)), (8, .v (.int .i64 ((t5s.length : Int) - 1)))] [.row false (.trips a1), .rbox [.v (.int .i64 a0_0), .v (.int .i64 a0_1), .v (.int .i64 a0_2)], .row true (.trips t5s), .row true (.trips y)] ?_
            clear hp0
            replace h := chk_some h
            obtain ⟨hp0, h⟩ := h
            replace h := chk_some h
            obtain ⟨hp1, h⟩ := h
            replace h := bind_some h
            obtain ⟨y_2, hr2, h⟩ := h
            try dsimp only at h
            refine awp_to [(2, .pp 1 0), (5, .sl 2), (6, .sl 3), (7, .v (.int .i64 t7)), (44, .v (.bool (((decide (((t5s.length : Int) - 1) < 0)) || ((t5s.getD (((t5s.length : Int) - 1).toNat) (0, 0, 0)).1 != (y.getD t7.toNat (0, 0, 0)).1)) || (!y_2))))] [.row false (.trips a1), .rbox [.v (.int .i64 a0_0), .v (.int .i64 a0_1), .v (.int .i64 a0_2)], .row true (.trips t5s), .row true (.trips y)] ?_ ?_
            · clear h
              intro K hK
              refine awp_drawT mixed ftCOk (.one 0 (.one 1 (.one 2 (.free 3 (.free 4 (.free 8 (.free 9 (.two 5 10 (.free 6 (.two 7 10 (.one 10 (.one 11 (.one 12 (.one 13 (.one 14 (.one 15 (.one 16 (.one 17 (.one 18 (.one 19 .fin)))))))))) (.free 11 (.two 7 12 (.one 12 (.one 13 (.one 14 (.one 15 (.one 16 (.one 17 (.one 18 (.one 19 .fin)))))))) (.one 7 (.one 13 (.one 14 (.one 15 (.one 16 (.one 17 (.one 18 (.one 19 .fin)))))))))))) (.free 11 (.two 5 12 (.free 6 (.two 7 12 (.one 12 (.one 13 (.one 14 (.one 15 (.one 16 (.one 17 (.one 18 (.one 19 .fin)))))))) (.one 7 (.one 13 (.one 14 (.one 15 (.one 16 (.one 17 (.one 18 (.one 19 .fin)))))))))) (.one 5 (.one 6 (.one 7 (.one 13 (.one 14 (.one 15 (.one 16 (.one 17 (.one 18 (.one 19 .fin)))))))))))))))))))) (by kernel_rfl) (by simp) ?_
              simp (maxSteps := 4000000) only [go_sem, Nat.reduceBEq, Nat.reduceLT, Nat.reduceAdd, Nat.reduceLeDiff, Nat.reduceSub, Nat.reduceEqDiff, Int.reduceToNat, reduceCtorEq, ↓reduceIte]
              repeat' (first | refine And.intro ?_ ?_ | intro hg)
              all_goals (try simp (disch := omega) only [wrap_fits])
              all_goals first
                | (refine hK _ _ ?_; exact Red.auto)
                | exact trivial
                | assumption
                | omega
                | exact wrap_fits (by omega) (by omega)
                | (have hq := hp0 (by first | assumption | (simp only [*, Bool.false_or, Bool.true_or, Bool.or_false, Bool.or_true, Bool.false_and, Bool.true_and, Bool.and_false, Bool.and_true, Bool.not_true, Bool.not_false, beq_self_eq_true]; done) | (simp_all; done)); omega)
                | (have hq := hp1 (by first | assumption | (simp only [*, Bool.false_or, Bool.true_or, Bool.or_false, Bool.or_true, Bool.false_and, Bool.true_and, Bool.and_false, Bool.and_true, Bool.not_true, Bool.not_false, beq_self_eq_true]; done) | (simp_all; done)); omega)
                | (refine OpK_callA (k_spec_CanCombine a0_0 a0_1 a0_2 (h := (bite_t hr2 (by rw [Bool.not_eq_true']; exact (by first | assumption | (simp only [*, Bool.false_or, Bool.true_or, Bool.or_false, Bool.or_true, Bool.false_and, Bool.true_and, Bool.and_false, Bool.and_true, Bool.not_true, Bool.not_false, beq_self_eq_true]; done) | (simp_all; done)))))) [] [] ?_
                   rintro x Hc' ⟨rfl, rfl⟩ hlen
                   simp (maxSteps := 4000000) only [go_sem, Nat.reduceBEq, Nat.reduceLT, Nat.reduceAdd, Nat.reduceLeDiff, Nat.reduceSub, Nat.reduceEqDiff, Int.reduceToNat, reduceCtorEq, ↓reduceIte]
                   repeat' (first | refine And.intro ?_ ?_ | intro hg)
                   all_goals (try simp (disch := omega) only [wrap_fits])
                   all_goals first
                     | (refine hK _ _ ?_; exact Red.auto)
                     | exact trivial
                     | assumption
                     | omega
                     | exact wrap_fits (by omega) (by omega)
                     | (have hq := hp0 (by first | assumption | (simp only [*, Bool.false_or, Bool.true_or, Bool.or_false, Bool.or_true, Bool.false_and, Bool.true_and, Bool.and_false, Bool.and_true, Bool.not_true, Bool.not_false, beq_self_eq_true]; done) | (simp_all; done)); omega)
                     | (have hq := hp1 (by first | assumption | (simp only [*, Bool.false_or, Bool.true_or, Bool.or_false, Bool.or_true, Bool.false_and, Bool.true_and, Bool.and_false, Bool.and_true, Bool.not_true, Bool.not_false, beq_self_eq_true]; done) | (simp_all; done)); omega)
                     | (simp (maxSteps := 4000000) only [go_sem, Nat.reduceBEq, Nat.reduceLT, Nat.reduceAdd, Nat.reduceLeDiff, Nat.reduceSub, Nat.reduceEqDiff, Int.reduceToNat, reduceCtorEq, ↓reduceIte]
                        repeat' (first | refine And.intro ?_ ?_ | intro hg)
                        all_goals (try simp (disch := omega) only [wrap_fits])
                        all_goals first | (refine hK _ _ ?_; exact Red.auto) | exact trivial | assumption | omega | exact wrap_fits (by omega) (by omega) | (have hq := hp0 (by first | assumption | (simp only [*, Bool.false_or, Bool.true_or, Bool.or_false, Bool.or_true, Bool.false_and, Bool.true_and, Bool.and_false, Bool.and_true, Bool.not_true, Bool.not_false, beq_self_eq_true]; done) | (simp_all; done)); omega) | (have hq := hp1 (by first | assumption | (simp only [*, Bool.false_or, Bool.true_or, Bool.or_false, Bool.or_true, Bool.false_and, Bool.true_and, Bool.and_false, Bool.and_true, Bool.not_true, Bool.not_false, beq_self_eq_true]; done) | (simp_all; done)); omega))
                     | (simp_all; done)
                     | (simp_all; omega))
                | (simp_all; done)
                | (simp_all; omega)
            · clear hp0 hp1 hr2
              refine awp_cond (t := 44) rfl (fun hc32 => ?_) (fun hc32 => ?_)
              · replace h := bite_t h hc32
                replace h := chk_some h
                obtain ⟨hp0, h⟩ := h
                replace h := chk_some h
                obtain ⟨hp1, h⟩ := h
                refine awp_regE ftCOk [(2, .pp 1 0), (5, .sl 2), (6, .sl 3), (7, .v (.int .i64 t7))] [.row false (.trips a1), .rbox [.v (.int .i64 a0_0), .v (.int .i64 a0_1), .v (.int .i64 a0_2)], .row true (.trips (t5s ++ [((y.getD t7.toNat (0, 0, 0)).1, (y.getD t7.toNat (0, 0, 0)).2.1, (y.getD t7.toNat (0, 0, 0)).2.2)])), .row true (.trips y), .row true (.trips [((y.getD t7.toNat (0, 0, 0)).1, (y.getD t7.toNat (0, 0, 0)).2.1, (y.getD t7.toNat (0, 0, 0)).2.2)])] ?_
                clear hp0 hp1
                (try simp only [Thn, InBlk, ↓reduceIte, Nat.reduceEqDiff])
                (try simp only [Thn, InBlk, ↓reduceIte, Nat.reduceEqDiff])
                refine ⟨_, h, ?_⟩
                exact Red.selA [0, 1, 2, 3] Red.auto
              · replace h := bite_f h hc32
                refine awp_skip ?_
                (try simp only [Thn, InBlk, ↓reduceIte, Nat.reduceEqDiff])
                (try simp only [Thn, InBlk, ↓reduceIte, Nat.reduceEqDiff])
                refine ⟨_, h, ?_⟩
                exact Red.auto
          · clear h
            rintro t5s_2 h
            try dsimp only at h
            try dsimp only
            replace h := chk_some h
            obtain ⟨hp0, h⟩ := h
            refine awp_regE ftCOk [(2, .pp 1 0), (5, .sl 2), (6, .sl 3), (7, .v (.int .i64 (t7 + 1)))] [.row false (.trips a1), .rbox [.v (.int .i64 a0_0), .v (.int .i64 a0_1), .v (.int .i64 a0_2)], .row true (.trips t5s_2), .row true (.trips y)] ?_
            clear hp0
            obtain rfl := Option.some.inj h
            refine LoopQ.next ?_
            exact Red.auto
        · replace h := bite_f h hc30
          refine awp_exit ?_
          (try simp only [Thn, InBlk, ↓reduceIte, Nat.reduceEqDiff])
          obtain rfl := Option.some.inj h
          refine LoopQ.out rfl ?_
          exact Red.selA [0, 2] Red.auto
    · clear hx
      skip
      · try dsimp only [Sum.elim_inl, Sum.elim_inr] at h
        try dsimp only [Sum.elim_inl, Sum.elim_inr]
        (try simp only [Thn, InBlk, ↓reduceIte, Nat.reduceEqDiff])
        (try simp only [Thn, InBlk, ↓reduceIte, Nat.reduceEqDiff])
        (try simp only [Thn, InBlk, ↓reduceIte, Nat.reduceEqDiff])
        refine hK17 _ _ ?_
        clear hK17
        refine awp_reg ftCOk [(4, .sl 1)] [.row false (.trips a1), .row true (.trips t5s_1)] ?_
        refine awp_ret ?_
        (try simp only [Thn, InBlk, ↓reduceIte, Nat.reduceEqDiff])
        obtain rfl := Option.some.inj h
        refine ⟨by simp, _, [0, 1], (by simp only [go_sem, Nat.reduceBEq, Nat.reduceLT, Nat.reduceAdd, Nat.reduceLeDiff, Nat.reduceSub, Nat.reduceEqDiff, Int.reduceToNat, reduceCtorEq, ↓reduceIte]; exact rfl), ?_, ?_, ?_, ?_⟩
        · exact fin1
        · simp [selOk, pos]
        · simp
        · exact fin4
end Go.Proofs.Ytiladakokkhkoaa
