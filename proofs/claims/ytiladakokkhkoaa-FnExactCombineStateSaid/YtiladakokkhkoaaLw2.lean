/- The code computes the functions that were taken out of it. -/
import Derived.Test.YtiladakokkhkoaaLw1
set_option maxRecDepth 100000
set_option maxHeartbeats 4000000
set_option linter.unusedSimpArgs false
set_option linter.unusedVariables false
namespace Go.Proofs.Ytiladakokkhkoaa
open Go Go.Av
attribute [local irreducible] wpA OpK awp
attribute [local go_sem] frs_nil frs_cons pw8_32 pw16_32 pw24_32 pw27_32 eqAgg eqAggV buildQ placesOf buildCells List.toList_toArray vcQg gfind gfree gput un3_agg unI_int unB_bool unK_int guardU skipV resVs resV vcD_nil vcD_cons vcT_fin vcT_free vcT_one vcT_two opS vcD1 roH roOb ftNone ftAdd oneOrTup AV.detup AV.ren AV.ren2 AV.ren1 pos selH AObj.ren fitAll fit fit1 fit1s matchAll matchOb exIds AObj.excl Env.killp pastH setAll upId AObj.past AObj.back AV.killp AV.killp1 AV.killp2 Nat.sub_self Nat.lt_irrefl Bool.or_self vcOps vcOp vcQs vcQ dstOk quiet eff pcall calleeF plain valsOf ev ofConst argEnv List.lookup Nat.add_eq decide_true decide_false Env.put binV quoC isTwo_2 isTwo_1 isTwo_3 isTwo_4 isTwo_5 isTwo_6 isTwo_7 isTwo_8 isTwo_9 isTwo_10 isTwo_11 isTwo_12 isTwo_13 isTwo_14 isTwo_15 isTwo_16 isTwo_17 isTwo_20 isTwo_24 isTwo_32 isTwo_60 isTwo_64 isTwo_100 isTwo_128 isTwo_256 isTwo_1000 wrapTo unV convV loadQ indexQ callQ builtinQ rd rdI globC AObj.globC partAV isAggD isArrayD addrAdd boxE storeE storeXE storeCE storeGE storeFE storeAE storeHE allocAE buildME appendME lookupQ mapUpE plainVs isIfaceD ifaceQ assertQ List.all_cons aggQ arrD arrL arrL_map arrV makeE makeXE makeNE makeGE buildXE buildNE buildGE nestZero Cont.child Cont.setChild buildSliceE buildFold appendE appendXE appendNE appendGE Cont.setG nestApp appendV promoteH sliceE boundAV subObj asCells Value.oneCell' contZero Cont.sets Cont.app Cont.sub Cont.len Cont.esz Cont.cell Cont.cells Cont.flat AV.det AV.det1 guardV AObj.unview AObj.kill Env.kill AV.kill AV.kill1 AV.kill2 fits64 Option.getD_some Option.getD_none Option.map_some Option.map_none Option.bind_some List.map_cons List.map_nil List.getElem?_cons_zero List.getElem?_cons_succ List.getElem?_nil true_and and_true and_false false_and List.getElem?_toArray List.cons_append List.nil_append List.length_cons List.length_nil List.set_cons_zero List.set_cons_succ List.take_succ_cons List.take_zero List.drop_succ_cons List.drop_zero List.drop_nil List.take_nil List.contains_cons List.contains_nil List.elem_cons List.elem_nil Bool.not_true Bool.not_false Bool.false_eq_true Bool.or_false Bool.or_true Bool.and_true Bool.and_false Bool.true_and Bool.false_and List.all_cons List.all_nil List.size_toArray Nat.lt_add_one Nat.zero_lt_succ Nat.one_ne_zero Nat.zero_ne_one and_self List.replicate_succ List.replicate_zero Int.toNat_natCast Int.toNat_zero Value.cells false_implies true_implies forall_const Thn InBlk Nat.zero_add Nat.add_zero Int.zero_add Ele Env.ren Option.some.injEq AV.v.injEq AV.sl.injEq AV.pp.injEq AV.ep.injEq AV.agg.injEq List.cons.injEq Value.int.injEq Value.bool.injEq Value.string.injEq true_or or_true or_false false_or tsz0 tby0 tz0 Try.underlying0 tsz1 tby1 tz1 Try.underlying1 tsz2 tby2 tz2 Try.underlying2 tsz3 tby3 tz3 Try.underlying3 tsz4 tby4 tz4 Try.underlying4 tsz5 tby5 tz5 Try.underlying5 tsz6 tby6 tz6 Try.underlying6 tsz7 tby7 tz7 Try.underlying7 fo7_0 fo7_1 fo7_2 fo7_3 tsz8 tby8 tz8 Try.underlying8 fo8_0 fo8_1 fo8_2 fo8_3 tsz9 tby9 Try.underlying9 tsz10 tby10 Try.underlying10 tsz12 tby12 tz12 Try.underlying12 tsz16 tby16 tz16 Try.underlying16 tsz17 tby17 tz17 Try.underlying17 tsz20 tby20 tz20 Try.underlying20 tsz21 tby21 tz21 Try.underlying21 tsz22 tby22 tz22 Try.underlying22 peq22 fo22_0 fo22_1 fo22_2 tsz23 tby23 tz23 Try.underlying23 peq23 fo23_0 fo23_1 fo23_2 tsz24 tby24 tz24 Try.underlying24 tsz25 tby25 tz25 Try.underlying25 tsz26 tby26 tz26 Try.underlying26 tsz27 tby27 tz27 Try.underlying27 fo27_0 fo27_1 fo27_2 fo27_3 tsz28 tby28 tz28 Try.underlying28 fo28_0 fo28_1 fo28_2 fo28_3 tsz30 tby30 tz30 Try.underlying30 tsz31 tby31 tz31 Try.underlying31 fo31_0 fo31_1 fo31_2 fo31_3 tsz32 tby32 tz32 Try.underlying32 fo32_0 fo32_1 fo32_2 fo32_3 tsz34 tby34 tz34 Try.underlying34 peq34 fo34_0 fo34_1 fo34_2 tsz40 tby40 tz40 Try.underlying40 tsz44 tby44 tz44 Try.underlying44 tsz56 tby56 tz56 Try.underlying56 tsz58 tby58 tz58 Try.underlying58 peq58 fo58_0 fo58_1 fo58_2 tsz59 tby59 tz59 Try.underlying59 peq59 fo59_0 fo59_1 fo59_2 tsz63 tby63 tz63 Try.underlying63 peq63 fo63_0 fo63_1 fo63_2 tsz67 tby67 tz67 Try.underlying67 tsz70 tby70 tz70 Try.underlying70 tsz74 tby74 tz74 Try.underlying74 tsz79 tby79 tz79 Try.underlying79 tsz80 tby80 tz80 Try.underlying80 tsz85 tby85 tz85 Try.underlying85 tsz88 tby88 tz88 Try.underlying88 tsz90 tby90 tz90 Try.underlying90 tsz96 tby96 tz96 Try.underlying96 tsz100 tby100 tz100 Try.underlying100 tsz104 tby104 tz104 Try.underlying104 tsz105 tby105 tz105 Try.underlying105 tsz111 tby111 tz111 Try.underlying111 tsz112 tby112 tz112 Try.underlying112 tsz113 tby113 tz113 Try.underlying113 tsz115 tby115 tz115 Try.underlying115 tsz116 tby116 tz116 Try.underlying116 tsz117 tby117 tz117 Try.underlying117 tsz118 tby118 tz118 Try.underlying118 tsz119 tby119 tz119 Try.underlying119 tsz120 tby120 tz120 Try.underlying120 tsz121 tby121 tz121 Try.underlying121 fo121_0 fo121_1 fo121_2 fo121_3 fo121_4 fo121_5 fo121_6 fo121_7 fo121_8 fo121_9 fo121_10 tsz122 tby122 tz122 Try.underlying122 fo122_0 fo122_1 fo122_2 fo122_3 fo122_4 fo122_5 fo122_6 fo122_7 fo122_8 fo122_9 fo122_10 tsz123 tby123 tz123 Try.underlying123 l1InG isNaNG cmpIntG cmpMsgG ftC
abbrev lz0_spec_CombineState : Array Bool := #[true, false, false, true, false, false, false, true, false, false, true, true, false, false, false, false]
abbrev lz1_spec_CombineState : Array Bool := #[true, true, true, true, true, true, true, true, true, true, true, true, true, true, true, true]
abbrev lz2_spec_CombineState : Array Bool := #[true, true, true, true, true, true, true, true, true, true, true, true, true, true, true, false]
abbrev lz3_spec_CombineState : Array Bool := #[true, true, true, true, true, true, true, true, true, true, true, true, true, false, false, false]
abbrev lz4_spec_CombineState : Array Bool := #[true, true, true, true, true, true, true, true, true, true, true, true, false, false, false, false]
abbrev lz5_spec_CombineState : Array Bool := #[true, true, true, true, true, true, true, true, true, false, true, true, true, false, false, false]
abbrev lz6_spec_CombineState : Array Bool := #[true, true, true, true, true, true, true, true, true, false, true, true, false, false, false, false]
abbrev lz7_spec_CombineState : Array Bool := #[true, true, true, true, true, true, true, true, false, false, true, true, true, false, false, false]
abbrev lz8_spec_CombineState : Array Bool := #[true, true, true, true, true, true, true, true, false, false, true, true, false, false, false, false]
abbrev lz9_spec_CombineState : Array Bool := #[true, true, true, true, true, true, false, true, true, false, true, true, true, false, false, false]
abbrev lz10_spec_CombineState : Array Bool := #[true, true, true, true, true, true, false, true, true, false, true, true, false, false, false, false]
abbrev lz11_spec_CombineState : Array Bool := #[true, true, true, true, true, true, false, true, false, false, true, true, true, false, false, false]
abbrev lz12_spec_CombineState : Array Bool := #[true, true, true, true, true, true, false, true, false, false, true, true, false, false, false, false]
abbrev lz13_spec_CombineState : Array Bool := #[true, true, true, true, true, false, true, true, true, false, true, true, true, false, false, false]
abbrev lz14_spec_CombineState : Array Bool := #[true, true, true, true, true, false, true, true, true, false, true, true, false, false, false, false]
abbrev lz15_spec_CombineState : Array Bool := #[true, true, true, true, true, false, true, true, false, false, true, true, true, false, false, false]
abbrev lz16_spec_CombineState : Array Bool := #[true, true, true, true, true, false, true, true, false, false, true, true, false, false, false, false]
abbrev lz17_spec_CombineState : Array Bool := #[true, true, true, true, true, false, false, true, true, false, true, true, true, false, false, false]
abbrev lz18_spec_CombineState : Array Bool := #[true, true, true, true, true, false, false, true, true, false, true, true, false, false, false, false]
abbrev lz19_spec_CombineState : Array Bool := #[true, true, true, true, true, false, false, true, false, false, true, true, true, false, false, false]
abbrev lz20_spec_CombineState : Array Bool := #[true, true, true, true, true, false, false, true, false, false, true, true, false, false, false, false]
abbrev lz21_spec_CombineState : Array Bool := #[true, true, true, true, false, false, true, true, true, false, true, true, true, false, false, false]
abbrev lz22_spec_CombineState : Array Bool := #[true, true, true, true, false, false, true, true, true, false, true, true, false, false, false, false]
abbrev lz23_spec_CombineState : Array Bool := #[true, true, true, true, false, false, true, true, false, false, true, true, true, false, false, false]
abbrev lz24_spec_CombineState : Array Bool := #[true, true, true, true, false, false, true, true, false, false, true, true, false, false, false, false]
abbrev lz25_spec_CombineState : Array Bool := #[true, true, true, true, false, false, false, true, true, false, true, true, true, false, false, false]
abbrev lz26_spec_CombineState : Array Bool := #[true, true, true, true, false, false, false, true, true, false, true, true, false, false, false, false]
abbrev lz27_spec_CombineState : Array Bool := #[true, true, true, true, false, false, false, true, false, false, true, true, true, false, false, false]
abbrev lz28_spec_CombineState : Array Bool := #[true, true, true, true, false, false, false, true, false, false, true, true, false, false, false, false]
abbrev lz29_spec_CombineState : Array Bool := #[true, true, false, true, true, false, true, true, true, false, true, true, true, false, false, false]
abbrev lz30_spec_CombineState : Array Bool := #[true, true, false, true, true, false, true, true, true, false, true, true, false, false, false, false]
abbrev lz31_spec_CombineState : Array Bool := #[true, true, false, true, true, false, true, true, false, false, true, true, true, false, false, false]
abbrev lz32_spec_CombineState : Array Bool := #[true, true, false, true, true, false, true, true, false, false, true, true, false, false, false, false]
abbrev lz33_spec_CombineState : Array Bool := #[true, true, false, true, true, false, false, true, true, false, true, true, true, false, false, false]
abbrev lz34_spec_CombineState : Array Bool := #[true, true, false, true, true, false, false, true, true, false, true, true, false, false, false, false]
abbrev lz35_spec_CombineState : Array Bool := #[true, true, false, true, true, false, false, true, false, false, true, true, true, false, false, false]
abbrev lz36_spec_CombineState : Array Bool := #[true, true, false, true, true, false, false, true, false, false, true, true, false, false, false, false]
abbrev lz37_spec_CombineState : Array Bool := #[true, true, false, true, false, false, true, true, true, false, true, true, true, false, false, false]
abbrev lz38_spec_CombineState : Array Bool := #[true, true, false, true, false, false, true, true, true, false, true, true, false, false, false, false]
abbrev lz39_spec_CombineState : Array Bool := #[true, true, false, true, false, false, true, true, false, false, true, true, true, false, false, false]
abbrev lz40_spec_CombineState : Array Bool := #[true, true, false, true, false, false, true, true, false, false, true, true, false, false, false, false]
abbrev lz41_spec_CombineState : Array Bool := #[true, true, false, true, false, false, false, true, true, false, true, true, true, false, false, false]
abbrev lz42_spec_CombineState : Array Bool := #[true, true, false, true, false, false, false, true, true, false, true, true, false, false, false, false]
abbrev lz43_spec_CombineState : Array Bool := #[true, true, false, true, false, false, false, true, false, false, true, true, true, false, false, false]
abbrev lz44_spec_CombineState : Array Bool := #[true, true, false, true, false, false, false, true, false, false, true, true, false, false, false, false]
abbrev lz45_spec_CombineState : Array Bool := #[true, false, true, true, true, true, true, true, true, true, true, true, true, true, false, false]
abbrev lz46_spec_CombineState : Array Bool := #[true, false, true, true, true, true, true, true, true, true, true, true, true, false, false, false]
abbrev lz47_spec_CombineState : Array Bool := #[true, false, true, true, true, true, true, true, true, true, true, true, false, false, false, false]
abbrev lz48_spec_CombineState : Array Bool := #[true, false, true, true, true, true, true, true, true, false, true, true, true, false, false, false]
abbrev lz49_spec_CombineState : Array Bool := #[true, false, true, true, true, true, true, true, true, false, true, true, false, false, false, false]
abbrev lz50_spec_CombineState : Array Bool := #[true, false, true, true, true, true, true, true, false, false, true, true, true, false, false, false]
abbrev lz51_spec_CombineState : Array Bool := #[true, false, true, true, true, true, true, true, false, false, true, true, false, false, false, false]
abbrev lz52_spec_CombineState : Array Bool := #[true, false, true, true, true, true, false, true, true, false, true, true, true, false, false, false]
abbrev lz53_spec_CombineState : Array Bool := #[true, false, true, true, true, true, false, true, true, false, true, true, false, false, false, false]
abbrev lz54_spec_CombineState : Array Bool := #[true, false, true, true, true, true, false, true, false, false, true, true, true, false, false, false]
abbrev lz55_spec_CombineState : Array Bool := #[true, false, true, true, true, true, false, true, false, false, true, true, false, false, false, false]
abbrev lz56_spec_CombineState : Array Bool := #[true, false, true, true, true, false, true, true, true, false, true, true, true, false, false, false]
abbrev lz57_spec_CombineState : Array Bool := #[true, false, true, true, true, false, true, true, true, false, true, true, false, false, false, false]
abbrev lz58_spec_CombineState : Array Bool := #[true, false, true, true, true, false, true, true, false, false, true, true, true, false, false, false]
abbrev lz59_spec_CombineState : Array Bool := #[true, false, true, true, true, false, true, true, false, false, true, true, false, false, false, false]
abbrev lz60_spec_CombineState : Array Bool := #[true, false, true, true, true, false, false, true, true, false, true, true, true, false, false, false]
abbrev lz61_spec_CombineState : Array Bool := #[true, false, true, true, true, false, false, true, true, false, true, true, false, false, false, false]
abbrev lz62_spec_CombineState : Array Bool := #[true, false, true, true, true, false, false, true, false, false, true, true, true, false, false, false]
abbrev lz63_spec_CombineState : Array Bool := #[true, false, true, true, true, false, false, true, false, false, true, true, false, false, false, false]
abbrev lz64_spec_CombineState : Array Bool := #[true, false, true, true, false, false, true, true, true, false, true, true, true, false, false, false]
abbrev lz65_spec_CombineState : Array Bool := #[true, false, true, true, false, false, true, true, true, false, true, true, false, false, false, false]
abbrev lz66_spec_CombineState : Array Bool := #[true, false, true, true, false, false, true, true, false, false, true, true, true, false, false, false]
abbrev lz67_spec_CombineState : Array Bool := #[true, false, true, true, false, false, true, true, false, false, true, true, false, false, false, false]
abbrev lz68_spec_CombineState : Array Bool := #[true, false, true, true, false, false, false, true, true, false, true, true, true, false, false, false]
abbrev lz69_spec_CombineState : Array Bool := #[true, false, true, true, false, false, false, true, true, false, true, true, false, false, false, false]
abbrev lz70_spec_CombineState : Array Bool := #[true, false, true, true, false, false, false, true, false, false, true, true, true, false, false, false]
abbrev lz71_spec_CombineState : Array Bool := #[true, false, true, true, false, false, false, true, false, false, true, true, false, false, false, false]
abbrev lz72_spec_CombineState : Array Bool := #[true, false, false, true, true, false, true, true, true, false, true, true, true, false, false, false]
abbrev lz73_spec_CombineState : Array Bool := #[true, false, false, true, true, false, true, true, true, false, true, true, false, false, false, false]
abbrev lz74_spec_CombineState : Array Bool := #[true, false, false, true, true, false, true, true, false, false, true, true, true, false, false, false]
abbrev lz75_spec_CombineState : Array Bool := #[true, false, false, true, true, false, true, true, false, false, true, true, false, false, false, false]
abbrev lz76_spec_CombineState : Array Bool := #[true, false, false, true, true, false, false, true, true, false, true, true, true, false, false, false]
abbrev lz77_spec_CombineState : Array Bool := #[true, false, false, true, true, false, false, true, true, false, true, true, false, false, false, false]
abbrev lz78_spec_CombineState : Array Bool := #[true, false, false, true, true, false, false, true, false, false, true, true, true, false, false, false]
abbrev lz79_spec_CombineState : Array Bool := #[true, false, false, true, true, false, false, true, false, false, true, true, false, false, false, false]
abbrev lz80_spec_CombineState : Array Bool := #[true, false, false, true, false, false, true, true, true, false, true, true, true, false, false, false]
abbrev lz81_spec_CombineState : Array Bool := #[true, false, false, true, false, false, true, true, true, false, true, true, false, false, false, false]
abbrev lz82_spec_CombineState : Array Bool := #[true, false, false, true, false, false, true, true, false, false, true, true, true, false, false, false]
abbrev lz83_spec_CombineState : Array Bool := #[true, false, false, true, false, false, true, true, false, false, true, true, false, false, false, false]
abbrev lz84_spec_CombineState : Array Bool := #[true, false, false, true, false, false, false, true, true, false, true, true, true, false, false, false]
abbrev lz85_spec_CombineState : Array Bool := #[true, false, false, true, false, false, false, true, true, false, true, true, false, false, false, false]
abbrev lz86_spec_CombineState : Array Bool := #[true, false, false, true, false, false, false, true, false, false, true, true, true, false, false, false]
theorem k_spec_CombineState (a0_0 : Int) (a0_1 : Int) (a0_2 : Int) (a1_0 : Int) (a1_1 : List Int) (a1_2 : List Bool) (a1_3 : List (Int × Int × Int)) {r : Int × List Int × List Bool × (List (Int × Int × Int))} (h : spec_CombineState a0_0 a0_1 a0_2 a1_0 a1_1 a1_2 a1_3 = some r) :
    FnA Try.prog 5 [.agg [.v (.int .i64 a0_0), .v (.int .i64 a0_1), .v (.int .i64 a0_2)], .agg [.v (.int .i64 a1_0), .sl 0, .sl 1, .sl 2]] [.row false (.ints .i64 a1_1), .row false (.bools a1_2), .row false (.trips a1_3)] [] (fun x H => x = .agg [.v (.int .i64 r.1), .sl 3, .sl 4, .sl 5] ∧ H = [.row false (.ints .i64 a1_1), .row false (.bools a1_2), .row false (.trips a1_3), .row true (.ints .i64 r.2.1), .row true (.bools r.2.2.1), .row true (.trips r.2.2.2)]) := by
  unfold spec_CombineState at h
  refine FnA.of (N := 34) (pin := [0, 1, 2]) (rs := [.cell 4 32]) Try.func5 rfl en5 rfl rfl (by simp) (by simp; try omega) ?_
  refine awp_reg ftCOk [(2, .pp 3 0), (3, .pp 4 0), (4, .pp 5 0)] [.row false (.ints .i64 a1_1), .row false (.bools a1_2), .row false (.trips a1_3), .box [.v (.int .i64 a0_0), .v (.int .i64 a0_1), .v (.int .i64 a0_2)], .box [.v (.int .i64 a1_0), .sl 0, .sl 1, .sl 2], .box [.v (.int .i64 0), .v (.slice none 0 0), .v (.slice none 0 0), .v (.slice none 0 0)]] ?_
  refine awp_freeze 2 (by rfl) (by rfl) (by exact rfl) ?_
  replace h := bind_some h
  obtain ⟨⟨y, y_1, y_2, y_3⟩, hr0, h⟩ := h
  try dsimp only at h
  refine awp_to [(2, .pp 3 0), (3, .pp 4 0), (4, .pp 5 0)] [.row false (.ints .i64 a1_1), .row false (.bools a1_2), .row false (.trips a1_3), .rbox [.v (.int .i64 a0_0), .v (.int .i64 a0_1), .v (.int .i64 a0_2)], .box [.v (.int .i64 y), .sl 6, .sl 7, .sl 8], .box [.v (.int .i64 0), .v (.slice none 0 0), .v (.slice none 0 0), .v (.slice none 0 0)], .row true (.ints .i64 y_1), .row true (.bools y_2), .row true (.trips y_3)] ?_ ?_
  · clear h
    intro K hK
    refine awp_region ftCOk ?_
    simp (maxSteps := 4000000) only [go_sem, Nat.reduceBEq, Nat.reduceLT, Nat.reduceAdd, Nat.reduceLeDiff, Nat.reduceSub, Nat.reduceEqDiff, Int.reduceToNat, reduceCtorEq, ↓reduceIte]
    repeat' (first | refine And.intro ?_ ?_ | intro hg)
    all_goals (try simp (disch := omega) only [wrap_fits])
    all_goals first
      | (refine hK _ _ ?_; exact Red.auto)
      | exact trivial
      | assumption
      | omega
      | exact wrap_fits (by omega) (by omega)
      | (refine wpA_callA (k_spec_l1OwnState a1_0 a1_1 a1_2 a1_3 (h := hr0)) [0, 1, 2] [] ?_
         rintro x Hc' ⟨rfl, rfl⟩ hlen
         refine vcOps_sound ftCOk ?_
         simp (maxSteps := 4000000) only [go_sem, Nat.reduceBEq, Nat.reduceLT, Nat.reduceAdd, Nat.reduceLeDiff, Nat.reduceSub, Nat.reduceEqDiff, Int.reduceToNat, reduceCtorEq, ↓reduceIte]
         repeat' (first | refine And.intro ?_ ?_ | intro hg)
         all_goals (try simp (disch := omega) only [wrap_fits])
         all_goals first
           | (refine hK _ _ ?_; exact Red.auto)
           | exact trivial
           | assumption
           | omega
           | exact wrap_fits (by omega) (by omega)
           | (simp_all; done)
           | (simp_all; omega))
      | (simp_all; done)
      | (simp_all; omega)
  · clear hr0
    refine awp_seq fun K2 hK2 => ?_
    replace h := bind_some h
    obtain ⟨y_4, hr0, h⟩ := h
    try dsimp only at h
    replace h := bind_some h
    obtain ⟨y_5, hr1, h⟩ := h
    try dsimp only at h
    refine awp_to [(2, .pp 3 0), (3, .pp 4 0), (4, .pp 5 0), (17, .v (.bool ((!y_4) || (!y_5))))] [.row false (.ints .i64 a1_1), .row false (.bools a1_2), .row false (.trips a1_3), .rbox [.v (.int .i64 a0_0), .v (.int .i64 a0_1), .v (.int .i64 a0_2)], .box [.v (.int .i64 y), .sl 6, .sl 7, .sl 8], .box [.v (.int .i64 0), .v (.slice none 0 0), .v (.slice none 0 0), .v (.slice none 0 0)], .row true (.ints .i64 y_1), .row true (.bools y_2), .row true (.trips y_3)] ?_ ?_
    · clear h
      intro K hK
      refine awp_region ftCOk ?_
      simp (maxSteps := 4000000) only [go_sem, Nat.reduceBEq, Nat.reduceLT, Nat.reduceAdd, Nat.reduceLeDiff, Nat.reduceSub, Nat.reduceEqDiff, Int.reduceToNat, reduceCtorEq, ↓reduceIte]
      repeat' (first | refine And.intro ?_ ?_ | intro hg)
      all_goals (try simp (disch := omega) only [wrap_fits])
      all_goals first
        | (refine hK _ _ ?_; exact Red.auto)
        | exact trivial
        | assumption
        | omega
        | exact wrap_fits (by omega) (by omega)
        | (refine wpA_callA (k_spec_ProgramValid a0_0 a0_1 a0_2 (h := hr0)) [] [] ?_
           rintro x Hc' ⟨rfl, rfl⟩ hlen
           refine vcOps_sound ftCOk ?_
           simp (maxSteps := 4000000) only [go_sem, Nat.reduceBEq, Nat.reduceLT, Nat.reduceAdd, Nat.reduceLeDiff, Nat.reduceSub, Nat.reduceEqDiff, Int.reduceToNat, reduceCtorEq, ↓reduceIte]
           repeat' (first | refine And.intro ?_ ?_ | intro hg)
           all_goals (try simp (disch := omega) only [wrap_fits])
           all_goals first
             | (refine hK _ _ ?_; exact Red.auto)
             | exact trivial
             | assumption
             | omega
             | exact wrap_fits (by omega) (by omega)
             | (refine wpA_guard rfl rfl ?_
                refine wpA_callA (k_spec_StateValid y y_1 y_2 y_3 (y_1.length : Int) (h := (bite_t hr1 (by rw [Bool.not_eq_true']; exact (by first | assumption | (simp only [*, Bool.false_or, Bool.true_or, Bool.or_false, Bool.or_true, Bool.false_and, Bool.true_and, Bool.and_false, Bool.and_true, Bool.not_true, Bool.not_false, beq_self_eq_true]; done) | (simp_all; done)))))) [6, 7, 8] [] ?_
                rintro x Hc' ⟨rfl, rfl⟩ hlen
                refine vcOps_sound ftCOk ?_
                simp (maxSteps := 4000000) only [go_sem, Nat.reduceBEq, Nat.reduceLT, Nat.reduceAdd, Nat.reduceLeDiff, Nat.reduceSub, Nat.reduceEqDiff, Int.reduceToNat, reduceCtorEq, ↓reduceIte]
                repeat' (first | refine And.intro ?_ ?_ | intro hg)
                all_goals (try simp (disch := omega) only [wrap_fits])
                all_goals first
                  | (refine hK _ _ ?_; exact Red.auto)
                  | exact trivial
                  | assumption
                  | omega
                  | exact wrap_fits (by omega) (by omega)
                  | (simp_all; done)
                  | (simp_all; omega))
             | (simp_all; done)
             | (simp_all; omega))
        | (simp_all; done)
        | (simp_all; omega)
    · clear hr0 hr1
      refine awp_cond (t := 17) rfl (fun hc3 => ?_) (fun hc3 => ?_)
      · replace h := bite_t h hc3
        refine awp_reg ftCOk [(4, .pp 5 0)] [.row false (.ints .i64 a1_1), .row false (.bools a1_2), .row false (.trips a1_3), .rbox [.v (.int .i64 a0_0), .v (.int .i64 a0_1), .v (.int .i64 a0_2)], .box [.v (.int .i64 y), .sl 6, .sl 7, .sl 8], .box [.v (.int .i64 0), .v (.slice none 0 0), .v (.slice none 0 0), .v (.slice none 0 0)], .row true (.ints .i64 y_1), .row true (.bools y_2), .row true (.trips y_3)] ?_
        refine awp_red (Red.nilCell (o := 5) (i := 1) (.ints .i64 []) rfl rfl rfl) ?_
        refine awp_red (Red.nilCell (o := 5) (i := 2) (.bools []) rfl rfl rfl) ?_
        refine awp_red (Red.nilCell (o := 5) (i := 3) (.trips []) rfl rfl rfl) ?_
        refine awp_ret ?_
        (try simp only [Thn, InBlk, ↓reduceIte, Nat.reduceEqDiff])
        obtain rfl := Option.some.inj h
        refine ⟨by simp, _, [0, 1, 2, 9, 10, 11], (by simp only [go_sem, Nat.reduceBEq, Nat.reduceLT, Nat.reduceAdd, Nat.reduceLeDiff, Nat.reduceSub, Nat.reduceEqDiff, Int.reduceToNat, reduceCtorEq, ↓reduceIte]; exact rfl), ?_, ?_, ?_, ?_⟩
        · exact fin1
        · simp [selOk, pos]
        · simp
        · exact fin4
      · replace h := bite_f h hc3
        refine awp_skip ?_
        (try simp only [Thn, InBlk, ↓reduceIte, Nat.reduceEqDiff])
        refine hK2 _ _ ?_
        clear hK2
        replace h := chk_some h
        obtain ⟨hp0, h⟩ := h
        replace h := chk_some h
        obtain ⟨hp1, h⟩ := h
        replace h := bind_some h
        obtain ⟨y_6, hr2, h⟩ := h
        try dsimp only at h
        refine awp_to [(4, .pp 5 0)] [.row false (.ints .i64 a1_1), .row false (.bools a1_2), .row false (.trips a1_3), .rbox [.v (.int .i64 a0_0), .v (.int .i64 a0_1), .v (.int .i64 a0_2)], .box [.v (.int .i64 y), .sl 6, .sl 7, .sl 8], .box [.v (.int .i64 y), .sl 9, .sl 10, .sl 11], .row true (.ints .i64 y_1), .row true (.bools y_2), .row true (.trips y_3), .row true (.ints .i64 ([] ++ y_1)), .row true (.bools ([] ++ y_2)), .row true (.trips y_6)] ?_ ?_
        · clear h
          intro K hK
          refine awp_drawL [0, 1, 2, 3, 4, 5, 6, 7, 8] [0, 3, 7, 11, 10] 11 lz0_spec_CombineState mixed ftCOk (by kernel_rfl) (by first | rfl | kernel_rfl) (by rfl) (by simp) fun L hL => ?_
          have n10 : L 0 lz1_spec_CombineState [(4, .pp 5 0)] [.row false (.ints .i64 a1_1), .row false (.bools a1_2), .row false (.trips a1_3), .rbox [.v (.int .i64 a0_0), .v (.int .i64 a0_1), .v (.int .i64 a0_2)], .box [.v (.int .i64 y), .sl 6, .sl 7, .sl 8], .box [.v (.int .i64 y), .sl 9, .sl 10, .sl 11], .row true (.ints .i64 y_1), .row true (.bools y_2), .row true (.trips y_3), .row true (.ints .i64 ([] ++ y_1)), .row true (.bools ([] ++ y_2)), .row true (.trips y_6)] := by
            exact hL.fin (by kernel_rfl) (hK _ _ Red.auto)
          have n9 : L 1 lz2_spec_CombineState [(4, .pp 5 0), (33, .agg [.v (.int .i64 y), .sl 9, .sl 10, .sl 11])] [.row false (.ints .i64 a1_1), .row false (.bools a1_2), .row false (.trips a1_3), .rbox [.v (.int .i64 a0_0), .v (.int .i64 a0_1), .v (.int .i64 a0_2)], .box [.v (.int .i64 y), .sl 6, .sl 7, .sl 8], .box [.v (.int .i64 0), .v (.slice none 0 0), .v (.slice none 0 0), .v (.slice none 0 0)], .row true (.ints .i64 y_1), .row true (.bools y_2), .row true (.trips y_3), .row true (.ints .i64 ([] ++ y_1)), .row true (.bools ([] ++ y_2)), .row true (.trips y_6)] := by
            refine hL.step [(15, [], 0, lz1_spec_CombineState)] (by kernel_rfl) ⟨?_, trivial⟩
            · exact hL.edge n10
          have n8 : L 3 lz3_spec_CombineState [(4, .pp 5 0), (20, .v (.int .i64 y)), (24, .sl 9), (28, .sl 10), (29, .agg [.v (.int .i64 a0_0), .v (.int .i64 a0_1), .v (.int .i64 a0_2)]), (31, .sl 8)] [.row false (.ints .i64 a1_1), .row false (.bools a1_2), .row false (.trips a1_3), .rbox [.v (.int .i64 a0_0), .v (.int .i64 a0_1), .v (.int .i64 a0_2)], .box [.v (.int .i64 y), .sl 6, .sl 7, .sl 8], .box [.v (.int .i64 0), .v (.slice none 0 0), .v (.slice none 0 0), .v (.slice none 0 0)], .row true (.ints .i64 y_1), .row true (.bools y_2), .row true (.trips y_3), .row true (.ints .i64 ([] ++ y_1)), .row true (.bools ([] ++ y_2))] := by
            refine hL.step [(13, [14], 1, lz2_spec_CombineState)] (by kernel_rfl) ⟨?_, trivial⟩
            · simp (maxSteps := 4000000) only [go_sem, Nat.reduceBEq, Nat.reduceLT, Nat.reduceAdd, Nat.reduceLeDiff, Nat.reduceSub, Nat.reduceEqDiff, Int.reduceToNat, reduceCtorEq, ↓reduceIte]
              repeat' (first | refine And.intro ?_ ?_ | intro hg)
              all_goals (try simp (disch := omega) only [wrap_fits])
              all_goals first
                | (refine hL.red ?_ n9; exact Red.auto)
                | exact trivial
                | assumption
                | omega
                | exact wrap_fits (by omega) (by omega)
                | (refine OpK_callA (k_spec_CombineMessages a0_0 a0_1 a0_2 y_3 (h := hr2)) [8] [] ?_
                   rintro x Hc' ⟨rfl, rfl⟩ hlen
                   simp (maxSteps := 4000000) only [go_sem, Nat.reduceBEq, Nat.reduceLT, Nat.reduceAdd, Nat.reduceLeDiff, Nat.reduceSub, Nat.reduceEqDiff, Int.reduceToNat, reduceCtorEq, ↓reduceIte]
                   repeat' (first | refine And.intro ?_ ?_ | intro hg)
                   all_goals (try simp (disch := omega) only [wrap_fits])
                   all_goals first
                     | (refine hL.red ?_ n9; exact Red.auto)
                     | exact trivial
                     | assumption
                     | omega
                     | exact wrap_fits (by omega) (by omega)
                     | (simp_all; done)
                     | (simp_all; omega))
                | (simp (maxSteps := 4000000) only [go_sem, Nat.reduceBEq, Nat.reduceLT, Nat.reduceAdd, Nat.reduceLeDiff, Nat.reduceSub, Nat.reduceEqDiff, Int.reduceToNat, reduceCtorEq, ↓reduceIte]
                   repeat' (first | refine And.intro ?_ ?_ | intro hg)
                   all_goals (try simp (disch := omega) only [wrap_fits])
                   all_goals first | (refine hL.red ?_ n9; exact Red.auto) | exact trivial | assumption | omega | exact wrap_fits (by omega) (by omega))
                | (simp_all; done)
                | (simp_all; omega)
          have n7 : L 4 lz4_spec_CombineState [(4, .pp 5 0), (20, .v (.int .i64 y)), (24, .sl 9), (28, .sl 10), (29, .agg [.v (.int .i64 a0_0), .v (.int .i64 a0_1), .v (.int .i64 a0_2)]), (30, .pp 4 3)] [.row false (.ints .i64 a1_1), .row false (.bools a1_2), .row false (.trips a1_3), .rbox [.v (.int .i64 a0_0), .v (.int .i64 a0_1), .v (.int .i64 a0_2)], .box [.v (.int .i64 y), .sl 6, .sl 7, .sl 8], .box [.v (.int .i64 0), .v (.slice none 0 0), .v (.slice none 0 0), .v (.slice none 0 0)], .row true (.ints .i64 y_1), .row true (.bools y_2), .row true (.trips y_3), .row true (.ints .i64 ([] ++ y_1)), .row true (.bools ([] ++ y_2))] := by
            refine hL.step [(12, [], 3, lz3_spec_CombineState)] (by kernel_rfl) ⟨?_, trivial⟩
            · exact hL.edge n8
          have n11 : L 4 lz5_spec_CombineState [(4, .pp 5 0), (20, .v (.int .i64 y)), (24, .sl 9), (25, .sl 10), (27, .sl 7), (29, .agg [.v (.int .i64 a0_0), .v (.int .i64 a0_1), .v (.int .i64 a0_2)]), (31, .sl 8)] [.row false (.ints .i64 a1_1), .row false (.bools a1_2), .row false (.trips a1_3), .rbox [.v (.int .i64 a0_0), .v (.int .i64 a0_1), .v (.int .i64 a0_2)], .box [.v (.int .i64 y), .sl 6, .sl 7, .sl 8], .box [.v (.int .i64 0), .v (.slice none 0 0), .v (.slice none 0 0), .v (.slice none 0 0)], .row true (.ints .i64 y_1), .row true (.bools y_2), .row true (.trips y_3), .row true (.ints .i64 ([] ++ y_1)), .row true (.bools [])] := by
            refine hL.step [(9, [], 3, lz3_spec_CombineState)] (by kernel_rfl) ⟨?_, trivial⟩
            · exact hL.edge n8
          have n6 : L 5 lz6_spec_CombineState [(4, .pp 5 0), (20, .v (.int .i64 y)), (24, .sl 9), (25, .sl 10), (27, .sl 7), (29, .agg [.v (.int .i64 a0_0), .v (.int .i64 a0_1), .v (.int .i64 a0_2)]), (30, .pp 4 3)] [.row false (.ints .i64 a1_1), .row false (.bools a1_2), .row false (.trips a1_3), .rbox [.v (.int .i64 a0_0), .v (.int .i64 a0_1), .v (.int .i64 a0_2)], .box [.v (.int .i64 y), .sl 6, .sl 7, .sl 8], .box [.v (.int .i64 0), .v (.slice none 0 0), .v (.slice none 0 0), .v (.slice none 0 0)], .row true (.ints .i64 y_1), .row true (.bools y_2), .row true (.trips y_3), .row true (.ints .i64 ([] ++ y_1)), .row true (.bools [])] := by
            refine hL.step [(9, [], 4, lz4_spec_CombineState), (12, [], 4, lz5_spec_CombineState)] (by kernel_rfl) ⟨?_, ?_, trivial⟩
            · exact hL.edge n7
            · exact hL.edge n11
          have n12 : L 5 lz7_spec_CombineState [(4, .pp 5 0), (20, .v (.int .i64 y)), (24, .sl 9), (25, .sl 10), (26, .pp 4 2), (29, .agg [.v (.int .i64 a0_0), .v (.int .i64 a0_1), .v (.int .i64 a0_2)]), (31, .sl 8)] [.row false (.ints .i64 a1_1), .row false (.bools a1_2), .row false (.trips a1_3), .rbox [.v (.int .i64 a0_0), .v (.int .i64 a0_1), .v (.int .i64 a0_2)], .box [.v (.int .i64 y), .sl 6, .sl 7, .sl 8], .box [.v (.int .i64 0), .v (.slice none 0 0), .v (.slice none 0 0), .v (.slice none 0 0)], .row true (.ints .i64 y_1), .row true (.bools y_2), .row true (.trips y_3), .row true (.ints .i64 ([] ++ y_1)), .row true (.bools [])] := by
            refine hL.step [(8, [], 4, lz5_spec_CombineState)] (by kernel_rfl) ⟨?_, trivial⟩
            · exact hL.edge n11
          have n5 : L 6 lz8_spec_CombineState [(4, .pp 5 0), (20, .v (.int .i64 y)), (24, .sl 9), (25, .sl 10), (26, .pp 4 2), (29, .agg [.v (.int .i64 a0_0), .v (.int .i64 a0_1), .v (.int .i64 a0_2)]), (30, .pp 4 3)] [.row false (.ints .i64 a1_1), .row false (.bools a1_2), .row false (.trips a1_3), .rbox [.v (.int .i64 a0_0), .v (.int .i64 a0_1), .v (.int .i64 a0_2)], .box [.v (.int .i64 y), .sl 6, .sl 7, .sl 8], .box [.v (.int .i64 0), .v (.slice none 0 0), .v (.slice none 0 0), .v (.slice none 0 0)], .row true (.ints .i64 y_1), .row true (.bools y_2), .row true (.trips y_3), .row true (.ints .i64 ([] ++ y_1)), .row true (.bools [])] := by
            refine hL.step [(8, [], 5, lz6_spec_CombineState), (12, [], 5, lz7_spec_CombineState)] (by kernel_rfl) ⟨?_, ?_, trivial⟩
            · exact hL.edge n6
            · exact hL.edge n12
          have n14 : L 5 lz9_spec_CombineState [(4, .pp 5 0), (20, .v (.int .i64 y)), (24, .sl 9), (27, .sl 7), (29, .agg [.v (.int .i64 a0_0), .v (.int .i64 a0_1), .v (.int .i64 a0_2)]), (31, .sl 8)] [.row false (.ints .i64 a1_1), .row false (.bools a1_2), .row false (.trips a1_3), .rbox [.v (.int .i64 a0_0), .v (.int .i64 a0_1), .v (.int .i64 a0_2)], .box [.v (.int .i64 y), .sl 6, .sl 7, .sl 8], .box [.v (.int .i64 0), .v (.slice none 0 0), .v (.slice none 0 0), .v (.slice none 0 0)], .row true (.ints .i64 y_1), .row true (.bools y_2), .row true (.trips y_3), .row true (.ints .i64 ([] ++ y_1))] := by
            refine hL.step [(6, [], 4, lz5_spec_CombineState)] (by kernel_rfl) ⟨?_, trivial⟩
            · exact hL.edge n11
          have n13 : L 6 lz10_spec_CombineState [(4, .pp 5 0), (20, .v (.int .i64 y)), (24, .sl 9), (27, .sl 7), (29, .agg [.v (.int .i64 a0_0), .v (.int .i64 a0_1), .v (.int .i64 a0_2)]), (30, .pp 4 3)] [.row false (.ints .i64 a1_1), .row false (.bools a1_2), .row false (.trips a1_3), .rbox [.v (.int .i64 a0_0), .v (.int .i64 a0_1), .v (.int .i64 a0_2)], .box [.v (.int .i64 y), .sl 6, .sl 7, .sl 8], .box [.v (.int .i64 0), .v (.slice none 0 0), .v (.slice none 0 0), .v (.slice none 0 0)], .row true (.ints .i64 y_1), .row true (.bools y_2), .row true (.trips y_3), .row true (.ints .i64 ([] ++ y_1))] := by
            refine hL.step [(6, [], 5, lz6_spec_CombineState), (12, [], 5, lz9_spec_CombineState)] (by kernel_rfl) ⟨?_, ?_, trivial⟩
            · exact hL.edge n6
            · exact hL.edge n14
          have n15 : L 6 lz11_spec_CombineState [(4, .pp 5 0), (20, .v (.int .i64 y)), (24, .sl 9), (26, .pp 4 2), (29, .agg [.v (.int .i64 a0_0), .v (.int .i64 a0_1), .v (.int .i64 a0_2)]), (31, .sl 8)] [.row false (.ints .i64 a1_1), .row false (.bools a1_2), .row false (.trips a1_3), .rbox [.v (.int .i64 a0_0), .v (.int .i64 a0_1), .v (.int .i64 a0_2)], .box [.v (.int .i64 y), .sl 6, .sl 7, .sl 8], .box [.v (.int .i64 0), .v (.slice none 0 0), .v (.slice none 0 0), .v (.slice none 0 0)], .row true (.ints .i64 y_1), .row true (.bools y_2), .row true (.trips y_3), .row true (.ints .i64 ([] ++ y_1))] := by
            refine hL.step [(6, [], 5, lz7_spec_CombineState), (8, [], 5, lz9_spec_CombineState)] (by kernel_rfl) ⟨?_, ?_, trivial⟩
            · exact hL.edge n12
            · exact hL.edge n14
          have n4 : L 7 lz12_spec_CombineState [(4, .pp 5 0), (20, .v (.int .i64 y)), (24, .sl 9), (26, .pp 4 2), (29, .agg [.v (.int .i64 a0_0), .v (.int .i64 a0_1), .v (.int .i64 a0_2)]), (30, .pp 4 3)] [.row false (.ints .i64 a1_1), .row false (.bools a1_2), .row false (.trips a1_3), .rbox [.v (.int .i64 a0_0), .v (.int .i64 a0_1), .v (.int .i64 a0_2)], .box [.v (.int .i64 y), .sl 6, .sl 7, .sl 8], .box [.v (.int .i64 0), .v (.slice none 0 0), .v (.slice none 0 0), .v (.slice none 0 0)], .row true (.ints .i64 y_1), .row true (.bools y_2), .row true (.trips y_3), .row true (.ints .i64 ([] ++ y_1))] := by
            refine hL.step [(6, [], 6, lz8_spec_CombineState), (8, [], 6, lz10_spec_CombineState), (12, [], 6, lz11_spec_CombineState)] (by kernel_rfl) ⟨?_, ?_, ?_, trivial⟩
            · exact hL.edge n5
            · exact hL.edge n13
            · exact hL.edge n15
          have n18 : L 5 lz13_spec_CombineState [(4, .pp 5 0), (20, .v (.int .i64 y)), (21, .sl 9), (23, .sl 6), (25, .sl 10), (27, .sl 7), (29, .agg [.v (.int .i64 a0_0), .v (.int .i64 a0_1), .v (.int .i64 a0_2)]), (31, .sl 8)] [.row false (.ints .i64 a1_1), .row false (.bools a1_2), .row false (.trips a1_3), .rbox [.v (.int .i64 a0_0), .v (.int .i64 a0_1), .v (.int .i64 a0_2)], .box [.v (.int .i64 y), .sl 6, .sl 7, .sl 8], .box [.v (.int .i64 0), .v (.slice none 0 0), .v (.slice none 0 0), .v (.slice none 0 0)], .row true (.ints .i64 y_1), .row true (.bools y_2), .row true (.trips y_3), .row true (.ints .i64 []), .row true (.bools [])] := by
            refine hL.step [(5, [], 4, lz5_spec_CombineState)] (by kernel_rfl) ⟨?_, trivial⟩
            · exact hL.edge n11
          have n17 : L 6 lz14_spec_CombineState [(4, .pp 5 0), (20, .v (.int .i64 y)), (21, .sl 9), (23, .sl 6), (25, .sl 10), (27, .sl 7), (29, .agg [.v (.int .i64 a0_0), .v (.int .i64 a0_1), .v (.int .i64 a0_2)]), (30, .pp 4 3)] [.row false (.ints .i64 a1_1), .row false (.bools a1_2), .row false (.trips a1_3), .rbox [.v (.int .i64 a0_0), .v (.int .i64 a0_1), .v (.int .i64 a0_2)], .box [.v (.int .i64 y), .sl 6, .sl 7, .sl 8], .box [.v (.int .i64 0), .v (.slice none 0 0), .v (.slice none 0 0), .v (.slice none 0 0)], .row true (.ints .i64 y_1), .row true (.bools y_2), .row true (.trips y_3), .row true (.ints .i64 []), .row true (.bools [])] := by
            refine hL.step [(5, [], 5, lz6_spec_CombineState), (12, [], 5, lz13_spec_CombineState)] (by kernel_rfl) ⟨?_, ?_, trivial⟩
            · exact hL.edge n6
            · exact hL.edge n18
          have n19 : L 6 lz15_spec_CombineState [(4, .pp 5 0), (20, .v (.int .i64 y)), (21, .sl 9), (23, .sl 6), (25, .sl 10), (26, .pp 4 2), (29, .agg [.v (.int .i64 a0_0), .v (.int .i64 a0_1), .v (.int .i64 a0_2)]), (31, .sl 8)] [.row false (.ints .i64 a1_1), .row false (.bools a1_2), .row false (.trips a1_3), .rbox [.v (.int .i64 a0_0), .v (.int .i64 a0_1), .v (.int .i64 a0_2)], .box [.v (.int .i64 y), .sl 6, .sl 7, .sl 8], .box [.v (.int .i64 0), .v (.slice none 0 0), .v (.slice none 0 0), .v (.slice none 0 0)], .row true (.ints .i64 y_1), .row true (.bools y_2), .row true (.trips y_3), .row true (.ints .i64 []), .row true (.bools [])] := by
            refine hL.step [(5, [], 5, lz7_spec_CombineState), (8, [], 5, lz13_spec_CombineState)] (by kernel_rfl) ⟨?_, ?_, trivial⟩
            · exact hL.edge n12
            · exact hL.edge n18
          have n16 : L 7 lz16_spec_CombineState [(4, .pp 5 0), (20, .v (.int .i64 y)), (21, .sl 9), (23, .sl 6), (25, .sl 10), (26, .pp 4 2), (29, .agg [.v (.int .i64 a0_0), .v (.int .i64 a0_1), .v (.int .i64 a0_2)]), (30, .pp 4 3)] [.row false (.ints .i64 a1_1), .row false (.bools a1_2), .row false (.trips a1_3), .rbox [.v (.int .i64 a0_0), .v (.int .i64 a0_1), .v (.int .i64 a0_2)], .box [.v (.int .i64 y), .sl 6, .sl 7, .sl 8], .box [.v (.int .i64 0), .v (.slice none 0 0), .v (.slice none 0 0), .v (.slice none 0 0)], .row true (.ints .i64 y_1), .row true (.bools y_2), .row true (.trips y_3), .row true (.ints .i64 []), .row true (.bools [])] := by
            refine hL.step [(5, [], 6, lz8_spec_CombineState), (8, [], 6, lz14_spec_CombineState), (12, [], 6, lz15_spec_CombineState)] (by kernel_rfl) ⟨?_, ?_, ?_, trivial⟩
            · exact hL.edge n5
            · exact hL.edge n17
            · exact hL.edge n19
          have n21 : L 6 lz17_spec_CombineState [(4, .pp 5 0), (20, .v (.int .i64 y)), (21, .sl 9), (23, .sl 6), (27, .sl 7), (29, .agg [.v (.int .i64 a0_0), .v (.int .i64 a0_1), .v (.int .i64 a0_2)]), (31, .sl 8)] [.row false (.ints .i64 a1_1), .row false (.bools a1_2), .row false (.trips a1_3), .rbox [.v (.int .i64 a0_0), .v (.int .i64 a0_1), .v (.int .i64 a0_2)], .box [.v (.int .i64 y), .sl 6, .sl 7, .sl 8], .box [.v (.int .i64 0), .v (.slice none 0 0), .v (.slice none 0 0), .v (.slice none 0 0)], .row true (.ints .i64 y_1), .row true (.bools y_2), .row true (.trips y_3), .row true (.ints .i64 [])] := by
            refine hL.step [(5, [], 5, lz9_spec_CombineState), (6, [], 5, lz13_spec_CombineState)] (by kernel_rfl) ⟨?_, ?_, trivial⟩
            · exact hL.edge n14
            · exact hL.edge n18
          have n20 : L 7 lz18_spec_CombineState [(4, .pp 5 0), (20, .v (.int .i64 y)), (21, .sl 9), (23, .sl 6), (27, .sl 7), (29, .agg [.v (.int .i64 a0_0), .v (.int .i64 a0_1), .v (.int .i64 a0_2)]), (30, .pp 4 3)] [.row false (.ints .i64 a1_1), .row false (.bools a1_2), .row false (.trips a1_3), .rbox [.v (.int .i64 a0_0), .v (.int .i64 a0_1), .v (.int .i64 a0_2)], .box [.v (.int .i64 y), .sl 6, .sl 7, .sl 8], .box [.v (.int .i64 0), .v (.slice none 0 0), .v (.slice none 0 0), .v (.slice none 0 0)], .row true (.ints .i64 y_1), .row true (.bools y_2), .row true (.trips y_3), .row true (.ints .i64 [])] := by
            refine hL.step [(5, [], 6, lz10_spec_CombineState), (6, [], 6, lz14_spec_CombineState), (12, [], 6, lz17_spec_CombineState)] (by kernel_rfl) ⟨?_, ?_, ?_, trivial⟩
            · exact hL.edge n13
            · exact hL.edge n17
            · exact hL.edge n21
          have n22 : L 7 lz19_spec_CombineState [(4, .pp 5 0), (20, .v (.int .i64 y)), (21, .sl 9), (23, .sl 6), (26, .pp 4 2), (29, .agg [.v (.int .i64 a0_0), .v (.int .i64 a0_1), .v (.int .i64 a0_2)]), (31, .sl 8)] [.row false (.ints .i64 a1_1), .row false (.bools a1_2), .row false (.trips a1_3), .rbox [.v (.int .i64 a0_0), .v (.int .i64 a0_1), .v (.int .i64 a0_2)], .box [.v (.int .i64 y), .sl 6, .sl 7, .sl 8], .box [.v (.int .i64 0), .v (.slice none 0 0), .v (.slice none 0 0), .v (.slice none 0 0)], .row true (.ints .i64 y_1), .row true (.bools y_2), .row true (.trips y_3), .row true (.ints .i64 [])] := by
            refine hL.step [(5, [], 6, lz11_spec_CombineState), (6, [], 6, lz15_spec_CombineState), (8, [], 6, lz17_spec_CombineState)] (by kernel_rfl) ⟨?_, ?_, ?_, trivial⟩
            · exact hL.edge n15
            · exact hL.edge n19
            · exact hL.edge n21
          have n3 : L 8 lz20_spec_CombineState [(4, .pp 5 0), (20, .v (.int .i64 y)), (21, .sl 9), (23, .sl 6), (26, .pp 4 2), (29, .agg [.v (.int .i64 a0_0), .v (.int .i64 a0_1), .v (.int .i64 a0_2)]), (30, .pp 4 3)] [.row false (.ints .i64 a1_1), .row false (.bools a1_2), .row false (.trips a1_3), .rbox [.v (.int .i64 a0_0), .v (.int .i64 a0_1), .v (.int .i64 a0_2)], .box [.v (.int .i64 y), .sl 6, .sl 7, .sl 8], .box [.v (.int .i64 0), .v (.slice none 0 0), .v (.slice none 0 0), .v (.slice none 0 0)], .row true (.ints .i64 y_1), .row true (.bools y_2), .row true (.trips y_3), .row true (.ints .i64 [])] := by
            refine hL.step [(5, [], 7, lz12_spec_CombineState), (6, [], 7, lz16_spec_CombineState), (8, [], 7, lz18_spec_CombineState), (12, [], 7, lz19_spec_CombineState)] (by kernel_rfl) ⟨?_, ?_, ?_, ?_, trivial⟩
            · exact hL.edge n4
            · exact hL.edge n16
            · exact hL.edge n20
            · exact hL.edge n22
          have n25 : L 6 lz21_spec_CombineState [(4, .pp 5 0), (20, .v (.int .i64 y)), (21, .sl 9), (22, .pp 4 1), (25, .sl 10), (27, .sl 7), (29, .agg [.v (.int .i64 a0_0), .v (.int .i64 a0_1), .v (.int .i64 a0_2)]), (31, .sl 8)] [.row false (.ints .i64 a1_1), .row false (.bools a1_2), .row false (.trips a1_3), .rbox [.v (.int .i64 a0_0), .v (.int .i64 a0_1), .v (.int .i64 a0_2)], .box [.v (.int .i64 y), .sl 6, .sl 7, .sl 8], .box [.v (.int .i64 0), .v (.slice none 0 0), .v (.slice none 0 0), .v (.slice none 0 0)], .row true (.ints .i64 y_1), .row true (.bools y_2), .row true (.trips y_3), .row true (.ints .i64 []), .row true (.bools [])] := by
            refine hL.step [(4, [], 5, lz13_spec_CombineState)] (by kernel_rfl) ⟨?_, trivial⟩
            · exact hL.edge n18
          have n24 : L 7 lz22_spec_CombineState [(4, .pp 5 0), (20, .v (.int .i64 y)), (21, .sl 9), (22, .pp 4 1), (25, .sl 10), (27, .sl 7), (29, .agg [.v (.int .i64 a0_0), .v (.int .i64 a0_1), .v (.int .i64 a0_2)]), (30, .pp 4 3)] [.row false (.ints .i64 a1_1), .row false (.bools a1_2), .row false (.trips a1_3), .rbox [.v (.int .i64 a0_0), .v (.int .i64 a0_1), .v (.int .i64 a0_2)], .box [.v (.int .i64 y), .sl 6, .sl 7, .sl 8], .box [.v (.int .i64 0), .v (.slice none 0 0), .v (.slice none 0 0), .v (.slice none 0 0)], .row true (.ints .i64 y_1), .row true (.bools y_2), .row true (.trips y_3), .row true (.ints .i64 []), .row true (.bools [])] := by
            refine hL.step [(4, [], 6, lz14_spec_CombineState), (12, [], 6, lz21_spec_CombineState)] (by kernel_rfl) ⟨?_, ?_, trivial⟩
            · exact hL.edge n17
            · exact hL.edge n25
          have n26 : L 7 lz23_spec_CombineState [(4, .pp 5 0), (20, .v (.int .i64 y)), (21, .sl 9), (22, .pp 4 1), (25, .sl 10), (26, .pp 4 2), (29, .agg [.v (.int .i64 a0_0), .v (.int .i64 a0_1), .v (.int .i64 a0_2)]), (31, .sl 8)] [.row false (.ints .i64 a1_1), .row false (.bools a1_2), .row false (.trips a1_3), .rbox [.v (.int .i64 a0_0), .v (.int .i64 a0_1), .v (.int .i64 a0_2)], .box [.v (.int .i64 y), .sl 6, .sl 7, .sl 8], .box [.v (.int .i64 0), .v (.slice none 0 0), .v (.slice none 0 0), .v (.slice none 0 0)], .row true (.ints .i64 y_1), .row true (.bools y_2), .row true (.trips y_3), .row true (.ints .i64 []), .row true (.bools [])] := by
            refine hL.step [(4, [], 6, lz15_spec_CombineState), (8, [], 6, lz21_spec_CombineState)] (by kernel_rfl) ⟨?_, ?_, trivial⟩
            · exact hL.edge n19
            · exact hL.edge n25
          have n23 : L 8 lz24_spec_CombineState [(4, .pp 5 0), (20, .v (.int .i64 y)), (21, .sl 9), (22, .pp 4 1), (25, .sl 10), (26, .pp 4 2), (29, .agg [.v (.int .i64 a0_0), .v (.int .i64 a0_1), .v (.int .i64 a0_2)]), (30, .pp 4 3)] [.row false (.ints .i64 a1_1), .row false (.bools a1_2), .row false (.trips a1_3), .rbox [.v (.int .i64 a0_0), .v (.int .i64 a0_1), .v (.int .i64 a0_2)], .box [.v (.int .i64 y), .sl 6, .sl 7, .sl 8], .box [.v (.int .i64 0), .v (.slice none 0 0), .v (.slice none 0 0), .v (.slice none 0 0)], .row true (.ints .i64 y_1), .row true (.bools y_2), .row true (.trips y_3), .row true (.ints .i64 []), .row true (.bools [])] := by
            refine hL.step [(4, [], 7, lz16_spec_CombineState), (8, [], 7, lz22_spec_CombineState), (12, [], 7, lz23_spec_CombineState)] (by kernel_rfl) ⟨?_, ?_, ?_, trivial⟩
            · exact hL.edge n16
            · exact hL.edge n24
            · exact hL.edge n26
          have n28 : L 7 lz25_spec_CombineState [(4, .pp 5 0), (20, .v (.int .i64 y)), (21, .sl 9), (22, .pp 4 1), (27, .sl 7), (29, .agg [.v (.int .i64 a0_0), .v (.int .i64 a0_1), .v (.int .i64 a0_2)]), (31, .sl 8)] [.row false (.ints .i64 a1_1), .row false (.bools a1_2), .row false (.trips a1_3), .rbox [.v (.int .i64 a0_0), .v (.int .i64 a0_1), .v (.int .i64 a0_2)], .box [.v (.int .i64 y), .sl 6, .sl 7, .sl 8], .box [.v (.int .i64 0), .v (.slice none 0 0), .v (.slice none 0 0), .v (.slice none 0 0)], .row true (.ints .i64 y_1), .row true (.bools y_2), .row true (.trips y_3), .row true (.ints .i64 [])] := by
            refine hL.step [(4, [], 6, lz17_spec_CombineState), (6, [], 6, lz21_spec_CombineState)] (by kernel_rfl) ⟨?_, ?_, trivial⟩
            · exact hL.edge n21
            · exact hL.edge n25
          have n27 : L 8 lz26_spec_CombineState [(4, .pp 5 0), (20, .v (.int .i64 y)), (21, .sl 9), (22, .pp 4 1), (27, .sl 7), (29, .agg [.v (.int .i64 a0_0), .v (.int .i64 a0_1), .v (.int .i64 a0_2)]), (30, .pp 4 3)] [.row false (.ints .i64 a1_1), .row false (.bools a1_2), .row false (.trips a1_3), .rbox [.v (.int .i64 a0_0), .v (.int .i64 a0_1), .v (.int .i64 a0_2)], .box [.v (.int .i64 y), .sl 6, .sl 7, .sl 8], .box [.v (.int .i64 0), .v (.slice none 0 0), .v (.slice none 0 0), .v (.slice none 0 0)], .row true (.ints .i64 y_1), .row true (.bools y_2), .row true (.trips y_3), .row true (.ints .i64 [])] := by
            refine hL.step [(4, [], 7, lz18_spec_CombineState), (6, [], 7, lz22_spec_CombineState), (12, [], 7, lz25_spec_CombineState)] (by kernel_rfl) ⟨?_, ?_, ?_, trivial⟩
            · exact hL.edge n20
            · exact hL.edge n24
            · exact hL.edge n28
          have n29 : L 8 lz27_spec_CombineState [(4, .pp 5 0), (20, .v (.int .i64 y)), (21, .sl 9), (22, .pp 4 1), (26, .pp 4 2), (29, .agg [.v (.int .i64 a0_0), .v (.int .i64 a0_1), .v (.int .i64 a0_2)]), (31, .sl 8)] [.row false (.ints .i64 a1_1), .row false (.bools a1_2), .row false (.trips a1_3), .rbox [.v (.int .i64 a0_0), .v (.int .i64 a0_1), .v (.int .i64 a0_2)], .box [.v (.int .i64 y), .sl 6, .sl 7, .sl 8], .box [.v (.int .i64 0), .v (.slice none 0 0), .v (.slice none 0 0), .v (.slice none 0 0)], .row true (.ints .i64 y_1), .row true (.bools y_2), .row true (.trips y_3), .row true (.ints .i64 [])] := by
            refine hL.step [(4, [], 7, lz19_spec_CombineState), (6, [], 7, lz23_spec_CombineState), (8, [], 7, lz25_spec_CombineState)] (by kernel_rfl) ⟨?_, ?_, ?_, trivial⟩
            · exact hL.edge n22
            · exact hL.edge n26
            · exact hL.edge n28
          have n2 : L 9 lz28_spec_CombineState [(4, .pp 5 0), (20, .v (.int .i64 y)), (21, .sl 9), (22, .pp 4 1), (26, .pp 4 2), (29, .agg [.v (.int .i64 a0_0), .v (.int .i64 a0_1), .v (.int .i64 a0_2)]), (30, .pp 4 3)] [.row false (.ints .i64 a1_1), .row false (.bools a1_2), .row false (.trips a1_3), .rbox [.v (.int .i64 a0_0), .v (.int .i64 a0_1), .v (.int .i64 a0_2)], .box [.v (.int .i64 y), .sl 6, .sl 7, .sl 8], .box [.v (.int .i64 0), .v (.slice none 0 0), .v (.slice none 0 0), .v (.slice none 0 0)], .row true (.ints .i64 y_1), .row true (.bools y_2), .row true (.trips y_3), .row true (.ints .i64 [])] := by
            refine hL.step [(4, [], 8, lz20_spec_CombineState), (6, [], 8, lz24_spec_CombineState), (8, [], 8, lz26_spec_CombineState), (12, [], 8, lz27_spec_CombineState)] (by kernel_rfl) ⟨?_, ?_, ?_, ?_, trivial⟩
            · exact hL.edge n3
            · exact hL.edge n23
            · exact hL.edge n27
            · exact hL.edge n29
          have n33 : L 6 lz29_spec_CombineState [(4, .pp 5 0), (20, .v (.int .i64 y)), (23, .sl 6), (25, .sl 9), (27, .sl 7), (29, .agg [.v (.int .i64 a0_0), .v (.int .i64 a0_1), .v (.int .i64 a0_2)]), (31, .sl 8)] [.row false (.ints .i64 a1_1), .row false (.bools a1_2), .row false (.trips a1_3), .rbox [.v (.int .i64 a0_0), .v (.int .i64 a0_1), .v (.int .i64 a0_2)], .box [.v (.int .i64 y), .sl 6, .sl 7, .sl 8], .box [.v (.int .i64 0), .v (.slice none 0 0), .v (.slice none 0 0), .v (.slice none 0 0)], .row true (.ints .i64 y_1), .row true (.bools y_2), .row true (.trips y_3), .row true (.bools [])] := by
            refine hL.step [(2, [], 5, lz13_spec_CombineState)] (by kernel_rfl) ⟨?_, trivial⟩
            · exact hL.edgeS [0, 1, 2, 3, 4, 5, 6, 7, 8, 10, 9] n18
          have n32 : L 7 lz30_spec_CombineState [(4, .pp 5 0), (20, .v (.int .i64 y)), (23, .sl 6), (25, .sl 9), (27, .sl 7), (29, .agg [.v (.int .i64 a0_0), .v (.int .i64 a0_1), .v (.int .i64 a0_2)]), (30, .pp 4 3)] [.row false (.ints .i64 a1_1), .row false (.bools a1_2), .row false (.trips a1_3), .rbox [.v (.int .i64 a0_0), .v (.int .i64 a0_1), .v (.int .i64 a0_2)], .box [.v (.int .i64 y), .sl 6, .sl 7, .sl 8], .box [.v (.int .i64 0), .v (.slice none 0 0), .v (.slice none 0 0), .v (.slice none 0 0)], .row true (.ints .i64 y_1), .row true (.bools y_2), .row true (.trips y_3), .row true (.bools [])] := by
            refine hL.step [(2, [], 6, lz14_spec_CombineState), (12, [], 6, lz29_spec_CombineState)] (by kernel_rfl) ⟨?_, ?_, trivial⟩
            · exact hL.edgeS [0, 1, 2, 3, 4, 5, 6, 7, 8, 10, 9] n17
            · exact hL.edge n33
          have n34 : L 7 lz31_spec_CombineState [(4, .pp 5 0), (20, .v (.int .i64 y)), (23, .sl 6), (25, .sl 9), (26, .pp 4 2), (29, .agg [.v (.int .i64 a0_0), .v (.int .i64 a0_1), .v (.int .i64 a0_2)]), (31, .sl 8)] [.row false (.ints .i64 a1_1), .row false (.bools a1_2), .row false (.trips a1_3), .rbox [.v (.int .i64 a0_0), .v (.int .i64 a0_1), .v (.int .i64 a0_2)], .box [.v (.int .i64 y), .sl 6, .sl 7, .sl 8], .box [.v (.int .i64 0), .v (.slice none 0 0), .v (.slice none 0 0), .v (.slice none 0 0)], .row true (.ints .i64 y_1), .row true (.bools y_2), .row true (.trips y_3), .row true (.bools [])] := by
            refine hL.step [(2, [], 6, lz15_spec_CombineState), (8, [], 6, lz29_spec_CombineState)] (by kernel_rfl) ⟨?_, ?_, trivial⟩
            · exact hL.edgeS [0, 1, 2, 3, 4, 5, 6, 7, 8, 10, 9] n19
            · exact hL.edge n33
          have n31 : L 8 lz32_spec_CombineState [(4, .pp 5 0), (20, .v (.int .i64 y)), (23, .sl 6), (25, .sl 9), (26, .pp 4 2), (29, .agg [.v (.int .i64 a0_0), .v (.int .i64 a0_1), .v (.int .i64 a0_2)]), (30, .pp 4 3)] [.row false (.ints .i64 a1_1), .row false (.bools a1_2), .row false (.trips a1_3), .rbox [.v (.int .i64 a0_0), .v (.int .i64 a0_1), .v (.int .i64 a0_2)], .box [.v (.int .i64 y), .sl 6, .sl 7, .sl 8], .box [.v (.int .i64 0), .v (.slice none 0 0), .v (.slice none 0 0), .v (.slice none 0 0)], .row true (.ints .i64 y_1), .row true (.bools y_2), .row true (.trips y_3), .row true (.bools [])] := by
            refine hL.step [(2, [], 7, lz16_spec_CombineState), (8, [], 7, lz30_spec_CombineState), (12, [], 7, lz31_spec_CombineState)] (by kernel_rfl) ⟨?_, ?_, ?_, trivial⟩
            · exact hL.edgeS [0, 1, 2, 3, 4, 5, 6, 7, 8, 10, 9] n16
            · exact hL.edge n32
            · exact hL.edge n34
          have n36 : L 7 lz33_spec_CombineState [(4, .pp 5 0), (20, .v (.int .i64 y)), (23, .sl 6), (27, .sl 7), (29, .agg [.v (.int .i64 a0_0), .v (.int .i64 a0_1), .v (.int .i64 a0_2)]), (31, .sl 8)] [.row false (.ints .i64 a1_1), .row false (.bools a1_2), .row false (.trips a1_3), .rbox [.v (.int .i64 a0_0), .v (.int .i64 a0_1), .v (.int .i64 a0_2)], .box [.v (.int .i64 y), .sl 6, .sl 7, .sl 8], .box [.v (.int .i64 0), .v (.slice none 0 0), .v (.slice none 0 0), .v (.slice none 0 0)], .row true (.ints .i64 y_1), .row true (.bools y_2), .row true (.trips y_3)] := by
            refine hL.step [(2, [], 6, lz17_spec_CombineState), (6, [], 6, lz29_spec_CombineState)] (by kernel_rfl) ⟨?_, ?_, trivial⟩
            · exact hL.edge n21
            · exact hL.edge n33
          have n35 : L 8 lz34_spec_CombineState [(4, .pp 5 0), (20, .v (.int .i64 y)), (23, .sl 6), (27, .sl 7), (29, .agg [.v (.int .i64 a0_0), .v (.int .i64 a0_1), .v (.int .i64 a0_2)]), (30, .pp 4 3)] [.row false (.ints .i64 a1_1), .row false (.bools a1_2), .row false (.trips a1_3), .rbox [.v (.int .i64 a0_0), .v (.int .i64 a0_1), .v (.int .i64 a0_2)], .box [.v (.int .i64 y), .sl 6, .sl 7, .sl 8], .box [.v (.int .i64 0), .v (.slice none 0 0), .v (.slice none 0 0), .v (.slice none 0 0)], .row true (.ints .i64 y_1), .row true (.bools y_2), .row true (.trips y_3)] := by
            refine hL.step [(2, [], 7, lz18_spec_CombineState), (6, [], 7, lz30_spec_CombineState), (12, [], 7, lz33_spec_CombineState)] (by kernel_rfl) ⟨?_, ?_, ?_, trivial⟩
            · exact hL.edge n20
            · exact hL.edge n32
            · exact hL.edge n36
          have n37 : L 8 lz35_spec_CombineState [(4, .pp 5 0), (20, .v (.int .i64 y)), (23, .sl 6), (26, .pp 4 2), (29, .agg [.v (.int .i64 a0_0), .v (.int .i64 a0_1), .v (.int .i64 a0_2)]), (31, .sl 8)] [.row false (.ints .i64 a1_1), .row false (.bools a1_2), .row false (.trips a1_3), .rbox [.v (.int .i64 a0_0), .v (.int .i64 a0_1), .v (.int .i64 a0_2)], .box [.v (.int .i64 y), .sl 6, .sl 7, .sl 8], .box [.v (.int .i64 0), .v (.slice none 0 0), .v (.slice none 0 0), .v (.slice none 0 0)], .row true (.ints .i64 y_1), .row true (.bools y_2), .row true (.trips y_3)] := by
            refine hL.step [(2, [], 7, lz19_spec_CombineState), (6, [], 7, lz31_spec_CombineState), (8, [], 7, lz33_spec_CombineState)] (by kernel_rfl) ⟨?_, ?_, ?_, trivial⟩
            · exact hL.edge n22
            · exact hL.edge n34
            · exact hL.edge n36
          have n30 : L 9 lz36_spec_CombineState [(4, .pp 5 0), (20, .v (.int .i64 y)), (23, .sl 6), (26, .pp 4 2), (29, .agg [.v (.int .i64 a0_0), .v (.int .i64 a0_1), .v (.int .i64 a0_2)]), (30, .pp 4 3)] [.row false (.ints .i64 a1_1), .row false (.bools a1_2), .row false (.trips a1_3), .rbox [.v (.int .i64 a0_0), .v (.int .i64 a0_1), .v (.int .i64 a0_2)], .box [.v (.int .i64 y), .sl 6, .sl 7, .sl 8], .box [.v (.int .i64 0), .v (.slice none 0 0), .v (.slice none 0 0), .v (.slice none 0 0)], .row true (.ints .i64 y_1), .row true (.bools y_2), .row true (.trips y_3)] := by
            refine hL.step [(2, [], 8, lz20_spec_CombineState), (6, [], 8, lz32_spec_CombineState), (8, [], 8, lz34_spec_CombineState), (12, [], 8, lz35_spec_CombineState)] (by kernel_rfl) ⟨?_, ?_, ?_, ?_, trivial⟩
            · exact hL.edge n3
            · exact hL.edge n31
            · exact hL.edge n35
            · exact hL.edge n37
          have n40 : L 7 lz37_spec_CombineState [(4, .pp 5 0), (20, .v (.int .i64 y)), (22, .pp 4 1), (25, .sl 9), (27, .sl 7), (29, .agg [.v (.int .i64 a0_0), .v (.int .i64 a0_1), .v (.int .i64 a0_2)]), (31, .sl 8)] [.row false (.ints .i64 a1_1), .row false (.bools a1_2), .row false (.trips a1_3), .rbox [.v (.int .i64 a0_0), .v (.int .i64 a0_1), .v (.int .i64 a0_2)], .box [.v (.int .i64 y), .sl 6, .sl 7, .sl 8], .box [.v (.int .i64 0), .v (.slice none 0 0), .v (.slice none 0 0), .v (.slice none 0 0)], .row true (.ints .i64 y_1), .row true (.bools y_2), .row true (.trips y_3), .row true (.bools [])] := by
            refine hL.step [(2, [], 6, lz21_spec_CombineState), (4, [], 6, lz29_spec_CombineState)] (by kernel_rfl) ⟨?_, ?_, trivial⟩
            · exact hL.edgeS [0, 1, 2, 3, 4, 5, 6, 7, 8, 10, 9] n25
            · exact hL.edge n33
          have n39 : L 8 lz38_spec_CombineState [(4, .pp 5 0), (20, .v (.int .i64 y)), (22, .pp 4 1), (25, .sl 9), (27, .sl 7), (29, .agg [.v (.int .i64 a0_0), .v (.int .i64 a0_1), .v (.int .i64 a0_2)]), (30, .pp 4 3)] [.row false (.ints .i64 a1_1), .row false (.bools a1_2), .row false (.trips a1_3), .rbox [.v (.int .i64 a0_0), .v (.int .i64 a0_1), .v (.int .i64 a0_2)], .box [.v (.int .i64 y), .sl 6, .sl 7, .sl 8], .box [.v (.int .i64 0), .v (.slice none 0 0), .v (.slice none 0 0), .v (.slice none 0 0)], .row true (.ints .i64 y_1), .row true (.bools y_2), .row true (.trips y_3), .row true (.bools [])] := by
            refine hL.step [(2, [], 7, lz22_spec_CombineState), (4, [], 7, lz30_spec_CombineState), (12, [], 7, lz37_spec_CombineState)] (by kernel_rfl) ⟨?_, ?_, ?_, trivial⟩
            · exact hL.edgeS [0, 1, 2, 3, 4, 5, 6, 7, 8, 10, 9] n24
            · exact hL.edge n32
            · exact hL.edge n40
          have n41 : L 8 lz39_spec_CombineState [(4, .pp 5 0), (20, .v (.int .i64 y)), (22, .pp 4 1), (25, .sl 9), (26, .pp 4 2), (29, .agg [.v (.int .i64 a0_0), .v (.int .i64 a0_1), .v (.int .i64 a0_2)]), (31, .sl 8)] [.row false (.ints .i64 a1_1), .row false (.bools a1_2), .row false (.trips a1_3), .rbox [.v (.int .i64 a0_0), .v (.int .i64 a0_1), .v (.int .i64 a0_2)], .box [.v (.int .i64 y), .sl 6, .sl 7, .sl 8], .box [.v (.int .i64 0), .v (.slice none 0 0), .v (.slice none 0 0), .v (.slice none 0 0)], .row true (.ints .i64 y_1), .row true (.bools y_2), .row true (.trips y_3), .row true (.bools [])] := by
            refine hL.step [(2, [], 7, lz23_spec_CombineState), (4, [], 7, lz31_spec_CombineState), (8, [], 7, lz37_spec_CombineState)] (by kernel_rfl) ⟨?_, ?_, ?_, trivial⟩
            · exact hL.edgeS [0, 1, 2, 3, 4, 5, 6, 7, 8, 10, 9] n26
            · exact hL.edge n34
            · exact hL.edge n40
          have n38 : L 9 lz40_spec_CombineState [(4, .pp 5 0), (20, .v (.int .i64 y)), (22, .pp 4 1), (25, .sl 9), (26, .pp 4 2), (29, .agg [.v (.int .i64 a0_0), .v (.int .i64 a0_1), .v (.int .i64 a0_2)]), (30, .pp 4 3)] [.row false (.ints .i64 a1_1), .row false (.bools a1_2), .row false (.trips a1_3), .rbox [.v (.int .i64 a0_0), .v (.int .i64 a0_1), .v (.int .i64 a0_2)], .box [.v (.int .i64 y), .sl 6, .sl 7, .sl 8], .box [.v (.int .i64 0), .v (.slice none 0 0), .v (.slice none 0 0), .v (.slice none 0 0)], .row true (.ints .i64 y_1), .row true (.bools y_2), .row true (.trips y_3), .row true (.bools [])] := by
            refine hL.step [(2, [], 8, lz24_spec_CombineState), (4, [], 8, lz32_spec_CombineState), (8, [], 8, lz38_spec_CombineState), (12, [], 8, lz39_spec_CombineState)] (by kernel_rfl) ⟨?_, ?_, ?_, ?_, trivial⟩
            · exact hL.edgeS [0, 1, 2, 3, 4, 5, 6, 7, 8, 10, 9] n23
            · exact hL.edge n31
            · exact hL.edge n39
            · exact hL.edge n41
          have n43 : L 8 lz41_spec_CombineState [(4, .pp 5 0), (20, .v (.int .i64 y)), (22, .pp 4 1), (27, .sl 7), (29, .agg [.v (.int .i64 a0_0), .v (.int .i64 a0_1), .v (.int .i64 a0_2)]), (31, .sl 8)] [.row false (.ints .i64 a1_1), .row false (.bools a1_2), .row false (.trips a1_3), .rbox [.v (.int .i64 a0_0), .v (.int .i64 a0_1), .v (.int .i64 a0_2)], .box [.v (.int .i64 y), .sl 6, .sl 7, .sl 8], .box [.v (.int .i64 0), .v (.slice none 0 0), .v (.slice none 0 0), .v (.slice none 0 0)], .row true (.ints .i64 y_1), .row true (.bools y_2), .row true (.trips y_3)] := by
            refine hL.step [(2, [], 7, lz25_spec_CombineState), (4, [], 7, lz33_spec_CombineState), (6, [], 7, lz37_spec_CombineState)] (by kernel_rfl) ⟨?_, ?_, ?_, trivial⟩
            · exact hL.edge n28
            · exact hL.edge n36
            · exact hL.edge n40
          have n42 : L 9 lz42_spec_CombineState [(4, .pp 5 0), (20, .v (.int .i64 y)), (22, .pp 4 1), (27, .sl 7), (29, .agg [.v (.int .i64 a0_0), .v (.int .i64 a0_1), .v (.int .i64 a0_2)]), (30, .pp 4 3)] [.row false (.ints .i64 a1_1), .row false (.bools a1_2), .row false (.trips a1_3), .rbox [.v (.int .i64 a0_0), .v (.int .i64 a0_1), .v (.int .i64 a0_2)], .box [.v (.int .i64 y), .sl 6, .sl 7, .sl 8], .box [.v (.int .i64 0), .v (.slice none 0 0), .v (.slice none 0 0), .v (.slice none 0 0)], .row true (.ints .i64 y_1), .row true (.bools y_2), .row true (.trips y_3)] := by
            refine hL.step [(2, [], 8, lz26_spec_CombineState), (4, [], 8, lz34_spec_CombineState), (6, [], 8, lz38_spec_CombineState), (12, [], 8, lz41_spec_CombineState)] (by kernel_rfl) ⟨?_, ?_, ?_, ?_, trivial⟩
            · exact hL.edge n27
            · exact hL.edge n35
            · exact hL.edge n39
            · exact hL.edge n43
          have n44 : L 9 lz43_spec_CombineState [(4, .pp 5 0), (20, .v (.int .i64 y)), (22, .pp 4 1), (26, .pp 4 2), (29, .agg [.v (.int .i64 a0_0), .v (.int .i64 a0_1), .v (.int .i64 a0_2)]), (31, .sl 8)] [.row false (.ints .i64 a1_1), .row false (.bools a1_2), .row false (.trips a1_3), .rbox [.v (.int .i64 a0_0), .v (.int .i64 a0_1), .v (.int .i64 a0_2)], .box [.v (.int .i64 y), .sl 6, .sl 7, .sl 8], .box [.v (.int .i64 0), .v (.slice none 0 0), .v (.slice none 0 0), .v (.slice none 0 0)], .row true (.ints .i64 y_1), .row true (.bools y_2), .row true (.trips y_3)] := by
            refine hL.step [(2, [], 8, lz27_spec_CombineState), (4, [], 8, lz35_spec_CombineState), (6, [], 8, lz39_spec_CombineState), (8, [], 8, lz41_spec_CombineState)] (by kernel_rfl) ⟨?_, ?_, ?_, ?_, trivial⟩
            · exact hL.edge n29
            · exact hL.edge n37
            · exact hL.edge n41
            · exact hL.edge n43
          have n1 : L 10 lz44_spec_CombineState [(4, .pp 5 0), (20, .v (.int .i64 y)), (22, .pp 4 1), (26, .pp 4 2), (29, .agg [.v (.int .i64 a0_0), .v (.int .i64 a0_1), .v (.int .i64 a0_2)]), (30, .pp 4 3)] [.row false (.ints .i64 a1_1), .row false (.bools a1_2), .row false (.trips a1_3), .rbox [.v (.int .i64 a0_0), .v (.int .i64 a0_1), .v (.int .i64 a0_2)], .box [.v (.int .i64 y), .sl 6, .sl 7, .sl 8], .box [.v (.int .i64 0), .v (.slice none 0 0), .v (.slice none 0 0), .v (.slice none 0 0)], .row true (.ints .i64 y_1), .row true (.bools y_2), .row true (.trips y_3)] := by
            refine hL.step [(2, [], 9, lz28_spec_CombineState), (4, [], 9, lz36_spec_CombineState), (6, [], 9, lz40_spec_CombineState), (8, [], 9, lz42_spec_CombineState), (12, [], 9, lz43_spec_CombineState)] (by kernel_rfl) ⟨?_, ?_, ?_, ?_, ?_, trivial⟩
            · exact hL.edge n2
            · exact hL.edge n30
            · exact hL.edge n38
            · exact hL.edge n42
            · exact hL.edge n44
          have n52 : L 3 lz45_spec_CombineState [(4, .pp 5 0), (19, .pp 4 0), (24, .sl 9), (28, .sl 10), (32, .sl 11)] [.row false (.ints .i64 a1_1), .row false (.bools a1_2), .row false (.trips a1_3), .rbox [.v (.int .i64 a0_0), .v (.int .i64 a0_1), .v (.int .i64 a0_2)], .box [.v (.int .i64 y), .sl 6, .sl 7, .sl 8], .box [.v (.int .i64 0), .v (.slice none 0 0), .v (.slice none 0 0), .v (.slice none 0 0)], .row true (.ints .i64 y_1), .row true (.bools y_2), .row true (.trips y_3), .row true (.ints .i64 ([] ++ y_1)), .row true (.bools ([] ++ y_2)), .row true (.trips y_6)] := by
            refine hL.step [(1, [14], 1, lz2_spec_CombineState)] (by kernel_rfl) ⟨?_, trivial⟩
            · exact hL.edge n9
          have n51 : L 4 lz46_spec_CombineState [(4, .pp 5 0), (19, .pp 4 0), (24, .sl 9), (28, .sl 10), (29, .agg [.v (.int .i64 a0_0), .v (.int .i64 a0_1), .v (.int .i64 a0_2)]), (31, .sl 8)] [.row false (.ints .i64 a1_1), .row false (.bools a1_2), .row false (.trips a1_3), .rbox [.v (.int .i64 a0_0), .v (.int .i64 a0_1), .v (.int .i64 a0_2)], .box [.v (.int .i64 y), .sl 6, .sl 7, .sl 8], .box [.v (.int .i64 0), .v (.slice none 0 0), .v (.slice none 0 0), .v (.slice none 0 0)], .row true (.ints .i64 y_1), .row true (.bools y_2), .row true (.trips y_3), .row true (.ints .i64 ([] ++ y_1)), .row true (.bools ([] ++ y_2))] := by
            refine hL.step [(1, [], 3, lz3_spec_CombineState), (13, [], 3, lz45_spec_CombineState)] (by kernel_rfl) ⟨?_, ?_, trivial⟩
            · exact hL.edge n8
            · simp (maxSteps := 4000000) only [go_sem, Nat.reduceBEq, Nat.reduceLT, Nat.reduceAdd, Nat.reduceLeDiff, Nat.reduceSub, Nat.reduceEqDiff, Int.reduceToNat, reduceCtorEq, ↓reduceIte]
              repeat' (first | refine And.intro ?_ ?_ | intro hg)
              all_goals (try simp (disch := omega) only [wrap_fits])
              all_goals first
                | (refine hL.red ?_ n52; exact Red.auto)
                | exact trivial
                | assumption
                | omega
                | exact wrap_fits (by omega) (by omega)
                | (refine OpK_callA (k_spec_CombineMessages a0_0 a0_1 a0_2 y_3 (h := hr2)) [8] [] ?_
                   rintro x Hc' ⟨rfl, rfl⟩ hlen
                   simp (maxSteps := 4000000) only [go_sem, Nat.reduceBEq, Nat.reduceLT, Nat.reduceAdd, Nat.reduceLeDiff, Nat.reduceSub, Nat.reduceEqDiff, Int.reduceToNat, reduceCtorEq, ↓reduceIte]
                   repeat' (first | refine And.intro ?_ ?_ | intro hg)
                   all_goals (try simp (disch := omega) only [wrap_fits])
                   all_goals first
                     | (refine hL.red ?_ n52; exact Red.auto)
                     | exact trivial
                     | assumption
                     | omega
                     | exact wrap_fits (by omega) (by omega)
                     | (simp_all; done)
                     | (simp_all; omega))
                | (simp (maxSteps := 4000000) only [go_sem, Nat.reduceBEq, Nat.reduceLT, Nat.reduceAdd, Nat.reduceLeDiff, Nat.reduceSub, Nat.reduceEqDiff, Int.reduceToNat, reduceCtorEq, ↓reduceIte]
                   repeat' (first | refine And.intro ?_ ?_ | intro hg)
                   all_goals (try simp (disch := omega) only [wrap_fits])
                   all_goals first | (refine hL.red ?_ n52; exact Red.auto) | exact trivial | assumption | omega | exact wrap_fits (by omega) (by omega))
                | (simp_all; done)
                | (simp_all; omega)
          have n50 : L 5 lz47_spec_CombineState [(4, .pp 5 0), (19, .pp 4 0), (24, .sl 9), (28, .sl 10), (29, .agg [.v (.int .i64 a0_0), .v (.int .i64 a0_1), .v (.int .i64 a0_2)]), (30, .pp 4 3)] [.row false (.ints .i64 a1_1), .row false (.bools a1_2), .row false (.trips a1_3), .rbox [.v (.int .i64 a0_0), .v (.int .i64 a0_1), .v (.int .i64 a0_2)], .box [.v (.int .i64 y), .sl 6, .sl 7, .sl 8], .box [.v (.int .i64 0), .v (.slice none 0 0), .v (.slice none 0 0), .v (.slice none 0 0)], .row true (.ints .i64 y_1), .row true (.bools y_2), .row true (.trips y_3), .row true (.ints .i64 ([] ++ y_1)), .row true (.bools ([] ++ y_2))] := by
            refine hL.step [(1, [], 4, lz4_spec_CombineState), (12, [], 4, lz46_spec_CombineState)] (by kernel_rfl) ⟨?_, ?_, trivial⟩
            · exact hL.edge n7
            · exact hL.edge n51
          have n53 : L 5 lz48_spec_CombineState [(4, .pp 5 0), (19, .pp 4 0), (24, .sl 9), (25, .sl 10), (27, .sl 7), (29, .agg [.v (.int .i64 a0_0), .v (.int .i64 a0_1), .v (.int .i64 a0_2)]), (31, .sl 8)] [.row false (.ints .i64 a1_1), .row false (.bools a1_2), .row false (.trips a1_3), .rbox [.v (.int .i64 a0_0), .v (.int .i64 a0_1), .v (.int .i64 a0_2)], .box [.v (.int .i64 y), .sl 6, .sl 7, .sl 8], .box [.v (.int .i64 0), .v (.slice none 0 0), .v (.slice none 0 0), .v (.slice none 0 0)], .row true (.ints .i64 y_1), .row true (.bools y_2), .row true (.trips y_3), .row true (.ints .i64 ([] ++ y_1)), .row true (.bools [])] := by
            refine hL.step [(1, [], 4, lz5_spec_CombineState), (9, [], 4, lz46_spec_CombineState)] (by kernel_rfl) ⟨?_, ?_, trivial⟩
            · exact hL.edge n11
            · exact hL.edge n51
          have n49 : L 6 lz49_spec_CombineState [(4, .pp 5 0), (19, .pp 4 0), (24, .sl 9), (25, .sl 10), (27, .sl 7), (29, .agg [.v (.int .i64 a0_0), .v (.int .i64 a0_1), .v (.int .i64 a0_2)]), (30, .pp 4 3)] [.row false (.ints .i64 a1_1), .row false (.bools a1_2), .row false (.trips a1_3), .rbox [.v (.int .i64 a0_0), .v (.int .i64 a0_1), .v (.int .i64 a0_2)], .box [.v (.int .i64 y), .sl 6, .sl 7, .sl 8], .box [.v (.int .i64 0), .v (.slice none 0 0), .v (.slice none 0 0), .v (.slice none 0 0)], .row true (.ints .i64 y_1), .row true (.bools y_2), .row true (.trips y_3), .row true (.ints .i64 ([] ++ y_1)), .row true (.bools [])] := by
            refine hL.step [(1, [], 5, lz6_spec_CombineState), (9, [], 5, lz47_spec_CombineState), (12, [], 5, lz48_spec_CombineState)] (by kernel_rfl) ⟨?_, ?_, ?_, trivial⟩
            · exact hL.edge n6
            · exact hL.edge n50
            · exact hL.edge n53
          have n54 : L 6 lz50_spec_CombineState [(4, .pp 5 0), (19, .pp 4 0), (24, .sl 9), (25, .sl 10), (26, .pp 4 2), (29, .agg [.v (.int .i64 a0_0), .v (.int .i64 a0_1), .v (.int .i64 a0_2)]), (31, .sl 8)] [.row false (.ints .i64 a1_1), .row false (.bools a1_2), .row false (.trips a1_3), .rbox [.v (.int .i64 a0_0), .v (.int .i64 a0_1), .v (.int .i64 a0_2)], .box [.v (.int .i64 y), .sl 6, .sl 7, .sl 8], .box [.v (.int .i64 0), .v (.slice none 0 0), .v (.slice none 0 0), .v (.slice none 0 0)], .row true (.ints .i64 y_1), .row true (.bools y_2), .row true (.trips y_3), .row true (.ints .i64 ([] ++ y_1)), .row true (.bools [])] := by
            refine hL.step [(1, [], 5, lz7_spec_CombineState), (8, [], 5, lz48_spec_CombineState)] (by kernel_rfl) ⟨?_, ?_, trivial⟩
            · exact hL.edge n12
            · exact hL.edge n53
          have n48 : L 7 lz51_spec_CombineState [(4, .pp 5 0), (19, .pp 4 0), (24, .sl 9), (25, .sl 10), (26, .pp 4 2), (29, .agg [.v (.int .i64 a0_0), .v (.int .i64 a0_1), .v (.int .i64 a0_2)]), (30, .pp 4 3)] [.row false (.ints .i64 a1_1), .row false (.bools a1_2), .row false (.trips a1_3), .rbox [.v (.int .i64 a0_0), .v (.int .i64 a0_1), .v (.int .i64 a0_2)], .box [.v (.int .i64 y), .sl 6, .sl 7, .sl 8], .box [.v (.int .i64 0), .v (.slice none 0 0), .v (.slice none 0 0), .v (.slice none 0 0)], .row true (.ints .i64 y_1), .row true (.bools y_2), .row true (.trips y_3), .row true (.ints .i64 ([] ++ y_1)), .row true (.bools [])] := by
            refine hL.step [(1, [], 6, lz8_spec_CombineState), (8, [], 6, lz49_spec_CombineState), (12, [], 6, lz50_spec_CombineState)] (by kernel_rfl) ⟨?_, ?_, ?_, trivial⟩
            · exact hL.edge n5
            · exact hL.edge n49
            · exact hL.edge n54
          have n56 : L 6 lz52_spec_CombineState [(4, .pp 5 0), (19, .pp 4 0), (24, .sl 9), (27, .sl 7), (29, .agg [.v (.int .i64 a0_0), .v (.int .i64 a0_1), .v (.int .i64 a0_2)]), (31, .sl 8)] [.row false (.ints .i64 a1_1), .row false (.bools a1_2), .row false (.trips a1_3), .rbox [.v (.int .i64 a0_0), .v (.int .i64 a0_1), .v (.int .i64 a0_2)], .box [.v (.int .i64 y), .sl 6, .sl 7, .sl 8], .box [.v (.int .i64 0), .v (.slice none 0 0), .v (.slice none 0 0), .v (.slice none 0 0)], .row true (.ints .i64 y_1), .row true (.bools y_2), .row true (.trips y_3), .row true (.ints .i64 ([] ++ y_1))] := by
            refine hL.step [(1, [], 5, lz9_spec_CombineState), (6, [], 5, lz48_spec_CombineState)] (by kernel_rfl) ⟨?_, ?_, trivial⟩
            · exact hL.edge n14
            · exact hL.edge n53
          have n55 : L 7 lz53_spec_CombineState [(4, .pp 5 0), (19, .pp 4 0), (24, .sl 9), (27, .sl 7), (29, .agg [.v (.int .i64 a0_0), .v (.int .i64 a0_1), .v (.int .i64 a0_2)]), (30, .pp 4 3)] [.row false (.ints .i64 a1_1), .row false (.bools a1_2), .row false (.trips a1_3), .rbox [.v (.int .i64 a0_0), .v (.int .i64 a0_1), .v (.int .i64 a0_2)], .box [.v (.int .i64 y), .sl 6, .sl 7, .sl 8], .box [.v (.int .i64 0), .v (.slice none 0 0), .v (.slice none 0 0), .v (.slice none 0 0)], .row true (.ints .i64 y_1), .row true (.bools y_2), .row true (.trips y_3), .row true (.ints .i64 ([] ++ y_1))] := by
            refine hL.step [(1, [], 6, lz10_spec_CombineState), (6, [], 6, lz49_spec_CombineState), (12, [], 6, lz52_spec_CombineState)] (by kernel_rfl) ⟨?_, ?_, ?_, trivial⟩
            · exact hL.edge n13
            · exact hL.edge n49
            · exact hL.edge n56
          have n57 : L 7 lz54_spec_CombineState [(4, .pp 5 0), (19, .pp 4 0), (24, .sl 9), (26, .pp 4 2), (29, .agg [.v (.int .i64 a0_0), .v (.int .i64 a0_1), .v (.int .i64 a0_2)]), (31, .sl 8)] [.row false (.ints .i64 a1_1), .row false (.bools a1_2), .row false (.trips a1_3), .rbox [.v (.int .i64 a0_0), .v (.int .i64 a0_1), .v (.int .i64 a0_2)], .box [.v (.int .i64 y), .sl 6, .sl 7, .sl 8], .box [.v (.int .i64 0), .v (.slice none 0 0), .v (.slice none 0 0), .v (.slice none 0 0)], .row true (.ints .i64 y_1), .row true (.bools y_2), .row true (.trips y_3), .row true (.ints .i64 ([] ++ y_1))] := by
            refine hL.step [(1, [], 6, lz11_spec_CombineState), (6, [], 6, lz50_spec_CombineState), (8, [], 6, lz52_spec_CombineState)] (by kernel_rfl) ⟨?_, ?_, ?_, trivial⟩
            · exact hL.edge n15
            · exact hL.edge n54
            · exact hL.edge n56
          have n47 : L 8 lz55_spec_CombineState [(4, .pp 5 0), (19, .pp 4 0), (24, .sl 9), (26, .pp 4 2), (29, .agg [.v (.int .i64 a0_0), .v (.int .i64 a0_1), .v (.int .i64 a0_2)]), (30, .pp 4 3)] [.row false (.ints .i64 a1_1), .row false (.bools a1_2), .row false (.trips a1_3), .rbox [.v (.int .i64 a0_0), .v (.int .i64 a0_1), .v (.int .i64 a0_2)], .box [.v (.int .i64 y), .sl 6, .sl 7, .sl 8], .box [.v (.int .i64 0), .v (.slice none 0 0), .v (.slice none 0 0), .v (.slice none 0 0)], .row true (.ints .i64 y_1), .row true (.bools y_2), .row true (.trips y_3), .row true (.ints .i64 ([] ++ y_1))] := by
            refine hL.step [(1, [], 7, lz12_spec_CombineState), (6, [], 7, lz51_spec_CombineState), (8, [], 7, lz53_spec_CombineState), (12, [], 7, lz54_spec_CombineState)] (by kernel_rfl) ⟨?_, ?_, ?_, ?_, trivial⟩
            · exact hL.edge n4
            · exact hL.edge n48
            · exact hL.edge n55
            · exact hL.edge n57
          have n60 : L 6 lz56_spec_CombineState [(4, .pp 5 0), (19, .pp 4 0), (21, .sl 9), (23, .sl 6), (25, .sl 10), (27, .sl 7), (29, .agg [.v (.int .i64 a0_0), .v (.int .i64 a0_1), .v (.int .i64 a0_2)]), (31, .sl 8)] [.row false (.ints .i64 a1_1), .row false (.bools a1_2), .row false (.trips a1_3), .rbox [.v (.int .i64 a0_0), .v (.int .i64 a0_1), .v (.int .i64 a0_2)], .box [.v (.int .i64 y), .sl 6, .sl 7, .sl 8], .box [.v (.int .i64 0), .v (.slice none 0 0), .v (.slice none 0 0), .v (.slice none 0 0)], .row true (.ints .i64 y_1), .row true (.bools y_2), .row true (.trips y_3), .row true (.ints .i64 []), .row true (.bools [])] := by
            refine hL.step [(1, [], 5, lz13_spec_CombineState), (5, [], 5, lz48_spec_CombineState)] (by kernel_rfl) ⟨?_, ?_, trivial⟩
            · exact hL.edge n18
            · exact hL.edge n53
          have n59 : L 7 lz57_spec_CombineState [(4, .pp 5 0), (19, .pp 4 0), (21, .sl 9), (23, .sl 6), (25, .sl 10), (27, .sl 7), (29, .agg [.v (.int .i64 a0_0), .v (.int .i64 a0_1), .v (.int .i64 a0_2)]), (30, .pp 4 3)] [.row false (.ints .i64 a1_1), .row false (.bools a1_2), .row false (.trips a1_3), .rbox [.v (.int .i64 a0_0), .v (.int .i64 a0_1), .v (.int .i64 a0_2)], .box [.v (.int .i64 y), .sl 6, .sl 7, .sl 8], .box [.v (.int .i64 0), .v (.slice none 0 0), .v (.slice none 0 0), .v (.slice none 0 0)], .row true (.ints .i64 y_1), .row true (.bools y_2), .row true (.trips y_3), .row true (.ints .i64 []), .row true (.bools [])] := by
            refine hL.step [(1, [], 6, lz14_spec_CombineState), (5, [], 6, lz49_spec_CombineState), (12, [], 6, lz56_spec_CombineState)] (by kernel_rfl) ⟨?_, ?_, ?_, trivial⟩
            · exact hL.edge n17
            · exact hL.edge n49
            · exact hL.edge n60
          have n61 : L 7 lz58_spec_CombineState [(4, .pp 5 0), (19, .pp 4 0), (21, .sl 9), (23, .sl 6), (25, .sl 10), (26, .pp 4 2), (29, .agg [.v (.int .i64 a0_0), .v (.int .i64 a0_1), .v (.int .i64 a0_2)]), (31, .sl 8)] [.row false (.ints .i64 a1_1), .row false (.bools a1_2), .row false (.trips a1_3), .rbox [.v (.int .i64 a0_0), .v (.int .i64 a0_1), .v (.int .i64 a0_2)], .box [.v (.int .i64 y), .sl 6, .sl 7, .sl 8], .box [.v (.int .i64 0), .v (.slice none 0 0), .v (.slice none 0 0), .v (.slice none 0 0)], .row true (.ints .i64 y_1), .row true (.bools y_2), .row true (.trips y_3), .row true (.ints .i64 []), .row true (.bools [])] := by
            refine hL.step [(1, [], 6, lz15_spec_CombineState), (5, [], 6, lz50_spec_CombineState), (8, [], 6, lz56_spec_CombineState)] (by kernel_rfl) ⟨?_, ?_, ?_, trivial⟩
            · exact hL.edge n19
            · exact hL.edge n54
            · exact hL.edge n60
          have n58 : L 8 lz59_spec_CombineState [(4, .pp 5 0), (19, .pp 4 0), (21, .sl 9), (23, .sl 6), (25, .sl 10), (26, .pp 4 2), (29, .agg [.v (.int .i64 a0_0), .v (.int .i64 a0_1), .v (.int .i64 a0_2)]), (30, .pp 4 3)] [.row false (.ints .i64 a1_1), .row false (.bools a1_2), .row false (.trips a1_3), .rbox [.v (.int .i64 a0_0), .v (.int .i64 a0_1), .v (.int .i64 a0_2)], .box [.v (.int .i64 y), .sl 6, .sl 7, .sl 8], .box [.v (.int .i64 0), .v (.slice none 0 0), .v (.slice none 0 0), .v (.slice none 0 0)], .row true (.ints .i64 y_1), .row true (.bools y_2), .row true (.trips y_3), .row true (.ints .i64 []), .row true (.bools [])] := by
            refine hL.step [(1, [], 7, lz16_spec_CombineState), (5, [], 7, lz51_spec_CombineState), (8, [], 7, lz57_spec_CombineState), (12, [], 7, lz58_spec_CombineState)] (by kernel_rfl) ⟨?_, ?_, ?_, ?_, trivial⟩
            · exact hL.edge n16
            · exact hL.edge n48
            · exact hL.edge n59
            · exact hL.edge n61
          have n63 : L 7 lz60_spec_CombineState [(4, .pp 5 0), (19, .pp 4 0), (21, .sl 9), (23, .sl 6), (27, .sl 7), (29, .agg [.v (.int .i64 a0_0), .v (.int .i64 a0_1), .v (.int .i64 a0_2)]), (31, .sl 8)] [.row false (.ints .i64 a1_1), .row false (.bools a1_2), .row false (.trips a1_3), .rbox [.v (.int .i64 a0_0), .v (.int .i64 a0_1), .v (.int .i64 a0_2)], .box [.v (.int .i64 y), .sl 6, .sl 7, .sl 8], .box [.v (.int .i64 0), .v (.slice none 0 0), .v (.slice none 0 0), .v (.slice none 0 0)], .row true (.ints .i64 y_1), .row true (.bools y_2), .row true (.trips y_3), .row true (.ints .i64 [])] := by
            refine hL.step [(1, [], 6, lz17_spec_CombineState), (5, [], 6, lz52_spec_CombineState), (6, [], 6, lz56_spec_CombineState)] (by kernel_rfl) ⟨?_, ?_, ?_, trivial⟩
            · exact hL.edge n21
            · exact hL.edge n56
            · exact hL.edge n60
          have n62 : L 8 lz61_spec_CombineState [(4, .pp 5 0), (19, .pp 4 0), (21, .sl 9), (23, .sl 6), (27, .sl 7), (29, .agg [.v (.int .i64 a0_0), .v (.int .i64 a0_1), .v (.int .i64 a0_2)]), (30, .pp 4 3)] [.row false (.ints .i64 a1_1), .row false (.bools a1_2), .row false (.trips a1_3), .rbox [.v (.int .i64 a0_0), .v (.int .i64 a0_1), .v (.int .i64 a0_2)], .box [.v (.int .i64 y), .sl 6, .sl 7, .sl 8], .box [.v (.int .i64 0), .v (.slice none 0 0), .v (.slice none 0 0), .v (.slice none 0 0)], .row true (.ints .i64 y_1), .row true (.bools y_2), .row true (.trips y_3), .row true (.ints .i64 [])] := by
            refine hL.step [(1, [], 7, lz18_spec_CombineState), (5, [], 7, lz53_spec_CombineState), (6, [], 7, lz57_spec_CombineState), (12, [], 7, lz60_spec_CombineState)] (by kernel_rfl) ⟨?_, ?_, ?_, ?_, trivial⟩
            · exact hL.edge n20
            · exact hL.edge n55
            · exact hL.edge n59
            · exact hL.edge n63
          have n64 : L 8 lz62_spec_CombineState [(4, .pp 5 0), (19, .pp 4 0), (21, .sl 9), (23, .sl 6), (26, .pp 4 2), (29, .agg [.v (.int .i64 a0_0), .v (.int .i64 a0_1), .v (.int .i64 a0_2)]), (31, .sl 8)] [.row false (.ints .i64 a1_1), .row false (.bools a1_2), .row false (.trips a1_3), .rbox [.v (.int .i64 a0_0), .v (.int .i64 a0_1), .v (.int .i64 a0_2)], .box [.v (.int .i64 y), .sl 6, .sl 7, .sl 8], .box [.v (.int .i64 0), .v (.slice none 0 0), .v (.slice none 0 0), .v (.slice none 0 0)], .row true (.ints .i64 y_1), .row true (.bools y_2), .row true (.trips y_3), .row true (.ints .i64 [])] := by
            refine hL.step [(1, [], 7, lz19_spec_CombineState), (5, [], 7, lz54_spec_CombineState), (6, [], 7, lz58_spec_CombineState), (8, [], 7, lz60_spec_CombineState)] (by kernel_rfl) ⟨?_, ?_, ?_, ?_, trivial⟩
            · exact hL.edge n22
            · exact hL.edge n57
            · exact hL.edge n61
            · exact hL.edge n63
          have n46 : L 9 lz63_spec_CombineState [(4, .pp 5 0), (19, .pp 4 0), (21, .sl 9), (23, .sl 6), (26, .pp 4 2), (29, .agg [.v (.int .i64 a0_0), .v (.int .i64 a0_1), .v (.int .i64 a0_2)]), (30, .pp 4 3)] [.row false (.ints .i64 a1_1), .row false (.bools a1_2), .row false (.trips a1_3), .rbox [.v (.int .i64 a0_0), .v (.int .i64 a0_1), .v (.int .i64 a0_2)], .box [.v (.int .i64 y), .sl 6, .sl 7, .sl 8], .box [.v (.int .i64 0), .v (.slice none 0 0), .v (.slice none 0 0), .v (.slice none 0 0)], .row true (.ints .i64 y_1), .row true (.bools y_2), .row true (.trips y_3), .row true (.ints .i64 [])] := by
            refine hL.step [(1, [], 8, lz20_spec_CombineState), (5, [], 8, lz55_spec_CombineState), (6, [], 8, lz59_spec_CombineState), (8, [], 8, lz61_spec_CombineState), (12, [], 8, lz62_spec_CombineState)] (by kernel_rfl) ⟨?_, ?_, ?_, ?_, ?_, trivial⟩
            · exact hL.edge n3
            · exact hL.edge n47
            · exact hL.edge n58
            · exact hL.edge n62
            · exact hL.edge n64
          have n67 : L 7 lz64_spec_CombineState [(4, .pp 5 0), (19, .pp 4 0), (21, .sl 9), (22, .pp 4 1), (25, .sl 10), (27, .sl 7), (29, .agg [.v (.int .i64 a0_0), .v (.int .i64 a0_1), .v (.int .i64 a0_2)]), (31, .sl 8)] [.row false (.ints .i64 a1_1), .row false (.bools a1_2), .row false (.trips a1_3), .rbox [.v (.int .i64 a0_0), .v (.int .i64 a0_1), .v (.int .i64 a0_2)], .box [.v (.int .i64 y), .sl 6, .sl 7, .sl 8], .box [.v (.int .i64 0), .v (.slice none 0 0), .v (.slice none 0 0), .v (.slice none 0 0)], .row true (.ints .i64 y_1), .row true (.bools y_2), .row true (.trips y_3), .row true (.ints .i64 []), .row true (.bools [])] := by
            refine hL.step [(1, [], 6, lz21_spec_CombineState), (4, [], 6, lz56_spec_CombineState)] (by kernel_rfl) ⟨?_, ?_, trivial⟩
            · exact hL.edge n25
            · exact hL.edge n60
          have n66 : L 8 lz65_spec_CombineState [(4, .pp 5 0), (19, .pp 4 0), (21, .sl 9), (22, .pp 4 1), (25, .sl 10), (27, .sl 7), (29, .agg [.v (.int .i64 a0_0), .v (.int .i64 a0_1), .v (.int .i64 a0_2)]), (30, .pp 4 3)] [.row false (.ints .i64 a1_1), .row false (.bools a1_2), .row false (.trips a1_3), .rbox [.v (.int .i64 a0_0), .v (.int .i64 a0_1), .v (.int .i64 a0_2)], .box [.v (.int .i64 y), .sl 6, .sl 7, .sl 8], .box [.v (.int .i64 0), .v (.slice none 0 0), .v (.slice none 0 0), .v (.slice none 0 0)], .row true (.ints .i64 y_1), .row true (.bools y_2), .row true (.trips y_3), .row true (.ints .i64 []), .row true (.bools [])] := by
            refine hL.step [(1, [], 7, lz22_spec_CombineState), (4, [], 7, lz57_spec_CombineState), (12, [], 7, lz64_spec_CombineState)] (by kernel_rfl) ⟨?_, ?_, ?_, trivial⟩
            · exact hL.edge n24
            · exact hL.edge n59
            · exact hL.edge n67
          have n68 : L 8 lz66_spec_CombineState [(4, .pp 5 0), (19, .pp 4 0), (21, .sl 9), (22, .pp 4 1), (25, .sl 10), (26, .pp 4 2), (29, .agg [.v (.int .i64 a0_0), .v (.int .i64 a0_1), .v (.int .i64 a0_2)]), (31, .sl 8)] [.row false (.ints .i64 a1_1), .row false (.bools a1_2), .row false (.trips a1_3), .rbox [.v (.int .i64 a0_0), .v (.int .i64 a0_1), .v (.int .i64 a0_2)], .box [.v (.int .i64 y), .sl 6, .sl 7, .sl 8], .box [.v (.int .i64 0), .v (.slice none 0 0), .v (.slice none 0 0), .v (.slice none 0 0)], .row true (.ints .i64 y_1), .row true (.bools y_2), .row true (.trips y_3), .row true (.ints .i64 []), .row true (.bools [])] := by
            refine hL.step [(1, [], 7, lz23_spec_CombineState), (4, [], 7, lz58_spec_CombineState), (8, [], 7, lz64_spec_CombineState)] (by kernel_rfl) ⟨?_, ?_, ?_, trivial⟩
            · exact hL.edge n26
            · exact hL.edge n61
            · exact hL.edge n67
          have n65 : L 9 lz67_spec_CombineState [(4, .pp 5 0), (19, .pp 4 0), (21, .sl 9), (22, .pp 4 1), (25, .sl 10), (26, .pp 4 2), (29, .agg [.v (.int .i64 a0_0), .v (.int .i64 a0_1), .v (.int .i64 a0_2)]), (30, .pp 4 3)] [.row false (.ints .i64 a1_1), .row false (.bools a1_2), .row false (.trips a1_3), .rbox [.v (.int .i64 a0_0), .v (.int .i64 a0_1), .v (.int .i64 a0_2)], .box [.v (.int .i64 y), .sl 6, .sl 7, .sl 8], .box [.v (.int .i64 0), .v (.slice none 0 0), .v (.slice none 0 0), .v (.slice none 0 0)], .row true (.ints .i64 y_1), .row true (.bools y_2), .row true (.trips y_3), .row true (.ints .i64 []), .row true (.bools [])] := by
            refine hL.step [(1, [], 8, lz24_spec_CombineState), (4, [], 8, lz59_spec_CombineState), (8, [], 8, lz65_spec_CombineState), (12, [], 8, lz66_spec_CombineState)] (by kernel_rfl) ⟨?_, ?_, ?_, ?_, trivial⟩
            · exact hL.edge n23
            · exact hL.edge n58
            · exact hL.edge n66
            · exact hL.edge n68
          have n70 : L 8 lz68_spec_CombineState [(4, .pp 5 0), (19, .pp 4 0), (21, .sl 9), (22, .pp 4 1), (27, .sl 7), (29, .agg [.v (.int .i64 a0_0), .v (.int .i64 a0_1), .v (.int .i64 a0_2)]), (31, .sl 8)] [.row false (.ints .i64 a1_1), .row false (.bools a1_2), .row false (.trips a1_3), .rbox [.v (.int .i64 a0_0), .v (.int .i64 a0_1), .v (.int .i64 a0_2)], .box [.v (.int .i64 y), .sl 6, .sl 7, .sl 8], .box [.v (.int .i64 0), .v (.slice none 0 0), .v (.slice none 0 0), .v (.slice none 0 0)], .row true (.ints .i64 y_1), .row true (.bools y_2), .row true (.trips y_3), .row true (.ints .i64 [])] := by
            refine hL.step [(1, [], 7, lz25_spec_CombineState), (4, [], 7, lz60_spec_CombineState), (6, [], 7, lz64_spec_CombineState)] (by kernel_rfl) ⟨?_, ?_, ?_, trivial⟩
            · exact hL.edge n28
            · exact hL.edge n63
            · exact hL.edge n67
          have n69 : L 9 lz69_spec_CombineState [(4, .pp 5 0), (19, .pp 4 0), (21, .sl 9), (22, .pp 4 1), (27, .sl 7), (29, .agg [.v (.int .i64 a0_0), .v (.int .i64 a0_1), .v (.int .i64 a0_2)]), (30, .pp 4 3)] [.row false (.ints .i64 a1_1), .row false (.bools a1_2), .row false (.trips a1_3), .rbox [.v (.int .i64 a0_0), .v (.int .i64 a0_1), .v (.int .i64 a0_2)], .box [.v (.int .i64 y), .sl 6, .sl 7, .sl 8], .box [.v (.int .i64 0), .v (.slice none 0 0), .v (.slice none 0 0), .v (.slice none 0 0)], .row true (.ints .i64 y_1), .row true (.bools y_2), .row true (.trips y_3), .row true (.ints .i64 [])] := by
            refine hL.step [(1, [], 8, lz26_spec_CombineState), (4, [], 8, lz61_spec_CombineState), (6, [], 8, lz65_spec_CombineState), (12, [], 8, lz68_spec_CombineState)] (by kernel_rfl) ⟨?_, ?_, ?_, ?_, trivial⟩
            · exact hL.edge n27
            · exact hL.edge n62
            · exact hL.edge n66
            · exact hL.edge n70
          have n71 : L 9 lz70_spec_CombineState [(4, .pp 5 0), (19, .pp 4 0), (21, .sl 9), (22, .pp 4 1), (26, .pp 4 2), (29, .agg [.v (.int .i64 a0_0), .v (.int .i64 a0_1), .v (.int .i64 a0_2)]), (31, .sl 8)] [.row false (.ints .i64 a1_1), .row false (.bools a1_2), .row false (.trips a1_3), .rbox [.v (.int .i64 a0_0), .v (.int .i64 a0_1), .v (.int .i64 a0_2)], .box [.v (.int .i64 y), .sl 6, .sl 7, .sl 8], .box [.v (.int .i64 0), .v (.slice none 0 0), .v (.slice none 0 0), .v (.slice none 0 0)], .row true (.ints .i64 y_1), .row true (.bools y_2), .row true (.trips y_3), .row true (.ints .i64 [])] := by
            refine hL.step [(1, [], 8, lz27_spec_CombineState), (4, [], 8, lz62_spec_CombineState), (6, [], 8, lz66_spec_CombineState), (8, [], 8, lz68_spec_CombineState)] (by kernel_rfl) ⟨?_, ?_, ?_, ?_, trivial⟩
            · exact hL.edge n29
            · exact hL.edge n64
            · exact hL.edge n68
            · exact hL.edge n70
          have n45 : L 10 lz71_spec_CombineState [(4, .pp 5 0), (19, .pp 4 0), (21, .sl 9), (22, .pp 4 1), (26, .pp 4 2), (29, .agg [.v (.int .i64 a0_0), .v (.int .i64 a0_1), .v (.int .i64 a0_2)]), (30, .pp 4 3)] [.row false (.ints .i64 a1_1), .row false (.bools a1_2), .row false (.trips a1_3), .rbox [.v (.int .i64 a0_0), .v (.int .i64 a0_1), .v (.int .i64 a0_2)], .box [.v (.int .i64 y), .sl 6, .sl 7, .sl 8], .box [.v (.int .i64 0), .v (.slice none 0 0), .v (.slice none 0 0), .v (.slice none 0 0)], .row true (.ints .i64 y_1), .row true (.bools y_2), .row true (.trips y_3), .row true (.ints .i64 [])] := by
            refine hL.step [(1, [], 9, lz28_spec_CombineState), (4, [], 9, lz63_spec_CombineState), (6, [], 9, lz67_spec_CombineState), (8, [], 9, lz69_spec_CombineState), (12, [], 9, lz70_spec_CombineState)] (by kernel_rfl) ⟨?_, ?_, ?_, ?_, ?_, trivial⟩
            · exact hL.edge n2
            · exact hL.edge n46
            · exact hL.edge n65
            · exact hL.edge n69
            · exact hL.edge n71
          have n75 : L 7 lz72_spec_CombineState [(4, .pp 5 0), (19, .pp 4 0), (23, .sl 6), (25, .sl 9), (27, .sl 7), (29, .agg [.v (.int .i64 a0_0), .v (.int .i64 a0_1), .v (.int .i64 a0_2)]), (31, .sl 8)] [.row false (.ints .i64 a1_1), .row false (.bools a1_2), .row false (.trips a1_3), .rbox [.v (.int .i64 a0_0), .v (.int .i64 a0_1), .v (.int .i64 a0_2)], .box [.v (.int .i64 y), .sl 6, .sl 7, .sl 8], .box [.v (.int .i64 0), .v (.slice none 0 0), .v (.slice none 0 0), .v (.slice none 0 0)], .row true (.ints .i64 y_1), .row true (.bools y_2), .row true (.trips y_3), .row true (.bools [])] := by
            refine hL.step [(1, [], 6, lz29_spec_CombineState), (2, [], 6, lz56_spec_CombineState)] (by kernel_rfl) ⟨?_, ?_, trivial⟩
            · exact hL.edge n33
            · exact hL.edgeS [0, 1, 2, 3, 4, 5, 6, 7, 8, 10, 9] n60
          have n74 : L 8 lz73_spec_CombineState [(4, .pp 5 0), (19, .pp 4 0), (23, .sl 6), (25, .sl 9), (27, .sl 7), (29, .agg [.v (.int .i64 a0_0), .v (.int .i64 a0_1), .v (.int .i64 a0_2)]), (30, .pp 4 3)] [.row false (.ints .i64 a1_1), .row false (.bools a1_2), .row false (.trips a1_3), .rbox [.v (.int .i64 a0_0), .v (.int .i64 a0_1), .v (.int .i64 a0_2)], .box [.v (.int .i64 y), .sl 6, .sl 7, .sl 8], .box [.v (.int .i64 0), .v (.slice none 0 0), .v (.slice none 0 0), .v (.slice none 0 0)], .row true (.ints .i64 y_1), .row true (.bools y_2), .row true (.trips y_3), .row true (.bools [])] := by
            refine hL.step [(1, [], 7, lz30_spec_CombineState), (2, [], 7, lz57_spec_CombineState), (12, [], 7, lz72_spec_CombineState)] (by kernel_rfl) ⟨?_, ?_, ?_, trivial⟩
            · exact hL.edge n32
            · exact hL.edgeS [0, 1, 2, 3, 4, 5, 6, 7, 8, 10, 9] n59
            · exact hL.edge n75
          have n76 : L 8 lz74_spec_CombineState [(4, .pp 5 0), (19, .pp 4 0), (23, .sl 6), (25, .sl 9), (26, .pp 4 2), (29, .agg [.v (.int .i64 a0_0), .v (.int .i64 a0_1), .v (.int .i64 a0_2)]), (31, .sl 8)] [.row false (.ints .i64 a1_1), .row false (.bools a1_2), .row false (.trips a1_3), .rbox [.v (.int .i64 a0_0), .v (.int .i64 a0_1), .v (.int .i64 a0_2)], .box [.v (.int .i64 y), .sl 6, .sl 7, .sl 8], .box [.v (.int .i64 0), .v (.slice none 0 0), .v (.slice none 0 0), .v (.slice none 0 0)], .row true (.ints .i64 y_1), .row true (.bools y_2), .row true (.trips y_3), .row true (.bools [])] := by
            refine hL.step [(1, [], 7, lz31_spec_CombineState), (2, [], 7, lz58_spec_CombineState), (8, [], 7, lz72_spec_CombineState)] (by kernel_rfl) ⟨?_, ?_, ?_, trivial⟩
            · exact hL.edge n34
            · exact hL.edgeS [0, 1, 2, 3, 4, 5, 6, 7, 8, 10, 9] n61
            · exact hL.edge n75
          have n73 : L 9 lz75_spec_CombineState [(4, .pp 5 0), (19, .pp 4 0), (23, .sl 6), (25, .sl 9), (26, .pp 4 2), (29, .agg [.v (.int .i64 a0_0), .v (.int .i64 a0_1), .v (.int .i64 a0_2)]), (30, .pp 4 3)] [.row false (.ints .i64 a1_1), .row false (.bools a1_2), .row false (.trips a1_3), .rbox [.v (.int .i64 a0_0), .v (.int .i64 a0_1), .v (.int .i64 a0_2)], .box [.v (.int .i64 y), .sl 6, .sl 7, .sl 8], .box [.v (.int .i64 0), .v (.slice none 0 0), .v (.slice none 0 0), .v (.slice none 0 0)], .row true (.ints .i64 y_1), .row true (.bools y_2), .row true (.trips y_3), .row true (.bools [])] := by
            refine hL.step [(1, [], 8, lz32_spec_CombineState), (2, [], 8, lz59_spec_CombineState), (8, [], 8, lz73_spec_CombineState), (12, [], 8, lz74_spec_CombineState)] (by kernel_rfl) ⟨?_, ?_, ?_, ?_, trivial⟩
            · exact hL.edge n31
            · exact hL.edgeS [0, 1, 2, 3, 4, 5, 6, 7, 8, 10, 9] n58
            · exact hL.edge n74
            · exact hL.edge n76
          have n78 : L 8 lz76_spec_CombineState [(4, .pp 5 0), (19, .pp 4 0), (23, .sl 6), (27, .sl 7), (29, .agg [.v (.int .i64 a0_0), .v (.int .i64 a0_1), .v (.int .i64 a0_2)]), (31, .sl 8)] [.row false (.ints .i64 a1_1), .row false (.bools a1_2), .row false (.trips a1_3), .rbox [.v (.int .i64 a0_0), .v (.int .i64 a0_1), .v (.int .i64 a0_2)], .box [.v (.int .i64 y), .sl 6, .sl 7, .sl 8], .box [.v (.int .i64 0), .v (.slice none 0 0), .v (.slice none 0 0), .v (.slice none 0 0)], .row true (.ints .i64 y_1), .row true (.bools y_2), .row true (.trips y_3)] := by
            refine hL.step [(1, [], 7, lz33_spec_CombineState), (2, [], 7, lz60_spec_CombineState), (6, [], 7, lz72_spec_CombineState)] (by kernel_rfl) ⟨?_, ?_, ?_, trivial⟩
            · exact hL.edge n36
            · exact hL.edge n63
            · exact hL.edge n75
          have n77 : L 9 lz77_spec_CombineState [(4, .pp 5 0), (19, .pp 4 0), (23, .sl 6), (27, .sl 7), (29, .agg [.v (.int .i64 a0_0), .v (.int .i64 a0_1), .v (.int .i64 a0_2)]), (30, .pp 4 3)] [.row false (.ints .i64 a1_1), .row false (.bools a1_2), .row false (.trips a1_3), .rbox [.v (.int .i64 a0_0), .v (.int .i64 a0_1), .v (.int .i64 a0_2)], .box [.v (.int .i64 y), .sl 6, .sl 7, .sl 8], .box [.v (.int .i64 0), .v (.slice none 0 0), .v (.slice none 0 0), .v (.slice none 0 0)], .row true (.ints .i64 y_1), .row true (.bools y_2), .row true (.trips y_3)] := by
            refine hL.step [(1, [], 8, lz34_spec_CombineState), (2, [], 8, lz61_spec_CombineState), (6, [], 8, lz73_spec_CombineState), (12, [], 8, lz76_spec_CombineState)] (by kernel_rfl) ⟨?_, ?_, ?_, ?_, trivial⟩
            · exact hL.edge n35
            · exact hL.edge n62
            · exact hL.edge n74
            · exact hL.edge n78
          have n79 : L 9 lz78_spec_CombineState [(4, .pp 5 0), (19, .pp 4 0), (23, .sl 6), (26, .pp 4 2), (29, .agg [.v (.int .i64 a0_0), .v (.int .i64 a0_1), .v (.int .i64 a0_2)]), (31, .sl 8)] [.row false (.ints .i64 a1_1), .row false (.bools a1_2), .row false (.trips a1_3), .rbox [.v (.int .i64 a0_0), .v (.int .i64 a0_1), .v (.int .i64 a0_2)], .box [.v (.int .i64 y), .sl 6, .sl 7, .sl 8], .box [.v (.int .i64 0), .v (.slice none 0 0), .v (.slice none 0 0), .v (.slice none 0 0)], .row true (.ints .i64 y_1), .row true (.bools y_2), .row true (.trips y_3)] := by
            refine hL.step [(1, [], 8, lz35_spec_CombineState), (2, [], 8, lz62_spec_CombineState), (6, [], 8, lz74_spec_CombineState), (8, [], 8, lz76_spec_CombineState)] (by kernel_rfl) ⟨?_, ?_, ?_, ?_, trivial⟩
            · exact hL.edge n37
            · exact hL.edge n64
            · exact hL.edge n76
            · exact hL.edge n78
          have n72 : L 10 lz79_spec_CombineState [(4, .pp 5 0), (19, .pp 4 0), (23, .sl 6), (26, .pp 4 2), (29, .agg [.v (.int .i64 a0_0), .v (.int .i64 a0_1), .v (.int .i64 a0_2)]), (30, .pp 4 3)] [.row false (.ints .i64 a1_1), .row false (.bools a1_2), .row false (.trips a1_3), .rbox [.v (.int .i64 a0_0), .v (.int .i64 a0_1), .v (.int .i64 a0_2)], .box [.v (.int .i64 y), .sl 6, .sl 7, .sl 8], .box [.v (.int .i64 0), .v (.slice none 0 0), .v (.slice none 0 0), .v (.slice none 0 0)], .row true (.ints .i64 y_1), .row true (.bools y_2), .row true (.trips y_3)] := by
            refine hL.step [(1, [], 9, lz36_spec_CombineState), (2, [], 9, lz63_spec_CombineState), (6, [], 9, lz75_spec_CombineState), (8, [], 9, lz77_spec_CombineState), (12, [], 9, lz78_spec_CombineState)] (by kernel_rfl) ⟨?_, ?_, ?_, ?_, ?_, trivial⟩
            · exact hL.edge n30
            · exact hL.edge n46
            · exact hL.edge n73
            · exact hL.edge n77
            · exact hL.edge n79
          have n82 : L 8 lz80_spec_CombineState [(4, .pp 5 0), (19, .pp 4 0), (22, .pp 4 1), (25, .sl 9), (27, .sl 7), (29, .agg [.v (.int .i64 a0_0), .v (.int .i64 a0_1), .v (.int .i64 a0_2)]), (31, .sl 8)] [.row false (.ints .i64 a1_1), .row false (.bools a1_2), .row false (.trips a1_3), .rbox [.v (.int .i64 a0_0), .v (.int .i64 a0_1), .v (.int .i64 a0_2)], .box [.v (.int .i64 y), .sl 6, .sl 7, .sl 8], .box [.v (.int .i64 0), .v (.slice none 0 0), .v (.slice none 0 0), .v (.slice none 0 0)], .row true (.ints .i64 y_1), .row true (.bools y_2), .row true (.trips y_3), .row true (.bools [])] := by
            refine hL.step [(1, [], 7, lz37_spec_CombineState), (2, [], 7, lz64_spec_CombineState), (4, [], 7, lz72_spec_CombineState)] (by kernel_rfl) ⟨?_, ?_, ?_, trivial⟩
            · exact hL.edge n40
            · exact hL.edgeS [0, 1, 2, 3, 4, 5, 6, 7, 8, 10, 9] n67
            · exact hL.edge n75
          have n81 : L 9 lz81_spec_CombineState [(4, .pp 5 0), (19, .pp 4 0), (22, .pp 4 1), (25, .sl 9), (27, .sl 7), (29, .agg [.v (.int .i64 a0_0), .v (.int .i64 a0_1), .v (.int .i64 a0_2)]), (30, .pp 4 3)] [.row false (.ints .i64 a1_1), .row false (.bools a1_2), .row false (.trips a1_3), .rbox [.v (.int .i64 a0_0), .v (.int .i64 a0_1), .v (.int .i64 a0_2)], .box [.v (.int .i64 y), .sl 6, .sl 7, .sl 8], .box [.v (.int .i64 0), .v (.slice none 0 0), .v (.slice none 0 0), .v (.slice none 0 0)], .row true (.ints .i64 y_1), .row true (.bools y_2), .row true (.trips y_3), .row true (.bools [])] := by
            refine hL.step [(1, [], 8, lz38_spec_CombineState), (2, [], 8, lz65_spec_CombineState), (4, [], 8, lz73_spec_CombineState), (12, [], 8, lz80_spec_CombineState)] (by kernel_rfl) ⟨?_, ?_, ?_, ?_, trivial⟩
            · exact hL.edge n39
            · exact hL.edgeS [0, 1, 2, 3, 4, 5, 6, 7, 8, 10, 9] n66
            · exact hL.edge n74
            · exact hL.edge n82
          have n83 : L 9 lz82_spec_CombineState [(4, .pp 5 0), (19, .pp 4 0), (22, .pp 4 1), (25, .sl 9), (26, .pp 4 2), (29, .agg [.v (.int .i64 a0_0), .v (.int .i64 a0_1), .v (.int .i64 a0_2)]), (31, .sl 8)] [.row false (.ints .i64 a1_1), .row false (.bools a1_2), .row false (.trips a1_3), .rbox [.v (.int .i64 a0_0), .v (.int .i64 a0_1), .v (.int .i64 a0_2)], .box [.v (.int .i64 y), .sl 6, .sl 7, .sl 8], .box [.v (.int .i64 0), .v (.slice none 0 0), .v (.slice none 0 0), .v (.slice none 0 0)], .row true (.ints .i64 y_1), .row true (.bools y_2), .row true (.trips y_3), .row true (.bools [])] := by
            refine hL.step [(1, [], 8, lz39_spec_CombineState), (2, [], 8, lz66_spec_CombineState), (4, [], 8, lz74_spec_CombineState), (8, [], 8, lz80_spec_CombineState)] (by kernel_rfl) ⟨?_, ?_, ?_, ?_, trivial⟩
            · exact hL.edge n41
            · exact hL.edgeS [0, 1, 2, 3, 4, 5, 6, 7, 8, 10, 9] n68
            · exact hL.edge n76
            · exact hL.edge n82
          have n80 : L 10 lz83_spec_CombineState [(4, .pp 5 0), (19, .pp 4 0), (22, .pp 4 1), (25, .sl 9), (26, .pp 4 2), (29, .agg [.v (.int .i64 a0_0), .v (.int .i64 a0_1), .v (.int .i64 a0_2)]), (30, .pp 4 3)] [.row false (.ints .i64 a1_1), .row false (.bools a1_2), .row false (.trips a1_3), .rbox [.v (.int .i64 a0_0), .v (.int .i64 a0_1), .v (.int .i64 a0_2)], .box [.v (.int .i64 y), .sl 6, .sl 7, .sl 8], .box [.v (.int .i64 0), .v (.slice none 0 0), .v (.slice none 0 0), .v (.slice none 0 0)], .row true (.ints .i64 y_1), .row true (.bools y_2), .row true (.trips y_3), .row true (.bools [])] := by
            refine hL.step [(1, [], 9, lz40_spec_CombineState), (2, [], 9, lz67_spec_CombineState), (4, [], 9, lz75_spec_CombineState), (8, [], 9, lz81_spec_CombineState), (12, [], 9, lz82_spec_CombineState)] (by kernel_rfl) ⟨?_, ?_, ?_, ?_, ?_, trivial⟩
            · exact hL.edge n38
            · exact hL.edgeS [0, 1, 2, 3, 4, 5, 6, 7, 8, 10, 9] n65
            · exact hL.edge n73
            · exact hL.edge n81
            · exact hL.edge n83
          have n85 : L 9 lz84_spec_CombineState [(4, .pp 5 0), (19, .pp 4 0), (22, .pp 4 1), (27, .sl 7), (29, .agg [.v (.int .i64 a0_0), .v (.int .i64 a0_1), .v (.int .i64 a0_2)]), (31, .sl 8)] [.row false (.ints .i64 a1_1), .row false (.bools a1_2), .row false (.trips a1_3), .rbox [.v (.int .i64 a0_0), .v (.int .i64 a0_1), .v (.int .i64 a0_2)], .box [.v (.int .i64 y), .sl 6, .sl 7, .sl 8], .box [.v (.int .i64 0), .v (.slice none 0 0), .v (.slice none 0 0), .v (.slice none 0 0)], .row true (.ints .i64 y_1), .row true (.bools y_2), .row true (.trips y_3)] := by
            refine hL.step [(1, [], 8, lz41_spec_CombineState), (2, [], 8, lz68_spec_CombineState), (4, [], 8, lz76_spec_CombineState), (6, [], 8, lz80_spec_CombineState)] (by kernel_rfl) ⟨?_, ?_, ?_, ?_, trivial⟩
            · exact hL.edge n43
            · exact hL.edge n70
            · exact hL.edge n78
            · exact hL.edge n82
          have n84 : L 10 lz85_spec_CombineState [(4, .pp 5 0), (19, .pp 4 0), (22, .pp 4 1), (27, .sl 7), (29, .agg [.v (.int .i64 a0_0), .v (.int .i64 a0_1), .v (.int .i64 a0_2)]), (30, .pp 4 3)] [.row false (.ints .i64 a1_1), .row false (.bools a1_2), .row false (.trips a1_3), .rbox [.v (.int .i64 a0_0), .v (.int .i64 a0_1), .v (.int .i64 a0_2)], .box [.v (.int .i64 y), .sl 6, .sl 7, .sl 8], .box [.v (.int .i64 0), .v (.slice none 0 0), .v (.slice none 0 0), .v (.slice none 0 0)], .row true (.ints .i64 y_1), .row true (.bools y_2), .row true (.trips y_3)] := by
            refine hL.step [(1, [], 9, lz42_spec_CombineState), (2, [], 9, lz69_spec_CombineState), (4, [], 9, lz77_spec_CombineState), (6, [], 9, lz81_spec_CombineState), (12, [], 9, lz84_spec_CombineState)] (by kernel_rfl) ⟨?_, ?_, ?_, ?_, ?_, trivial⟩
            · exact hL.edge n42
            · exact hL.edge n69
            · exact hL.edge n77
            · exact hL.edge n81
            · exact hL.edge n85
          have n86 : L 10 lz86_spec_CombineState [(4, .pp 5 0), (19, .pp 4 0), (22, .pp 4 1), (26, .pp 4 2), (29, .agg [.v (.int .i64 a0_0), .v (.int .i64 a0_1), .v (.int .i64 a0_2)]), (31, .sl 8)] [.row false (.ints .i64 a1_1), .row false (.bools a1_2), .row false (.trips a1_3), .rbox [.v (.int .i64 a0_0), .v (.int .i64 a0_1), .v (.int .i64 a0_2)], .box [.v (.int .i64 y), .sl 6, .sl 7, .sl 8], .box [.v (.int .i64 0), .v (.slice none 0 0), .v (.slice none 0 0), .v (.slice none 0 0)], .row true (.ints .i64 y_1), .row true (.bools y_2), .row true (.trips y_3)] := by
            refine hL.step [(1, [], 9, lz43_spec_CombineState), (2, [], 9, lz70_spec_CombineState), (4, [], 9, lz78_spec_CombineState), (6, [], 9, lz82_spec_CombineState), (8, [], 9, lz84_spec_CombineState)] (by kernel_rfl) ⟨?_, ?_, ?_, ?_, ?_, trivial⟩
            · exact hL.edge n44
            · exact hL.edge n71
            · exact hL.edge n79
            · exact hL.edge n83
            · exact hL.edge n85
          have n0 : L 11 lz0_spec_CombineState [(4, .pp 5 0), (19, .pp 4 0), (22, .pp 4 1), (26, .pp 4 2), (29, .agg [.v (.int .i64 a0_0), .v (.int .i64 a0_1), .v (.int .i64 a0_2)]), (30, .pp 4 3)] [.row false (.ints .i64 a1_1), .row false (.bools a1_2), .row false (.trips a1_3), .rbox [.v (.int .i64 a0_0), .v (.int .i64 a0_1), .v (.int .i64 a0_2)], .box [.v (.int .i64 y), .sl 6, .sl 7, .sl 8], .box [.v (.int .i64 0), .v (.slice none 0 0), .v (.slice none 0 0), .v (.slice none 0 0)], .row true (.ints .i64 y_1), .row true (.bools y_2), .row true (.trips y_3)] := by
            refine hL.step [(1, [], 10, lz44_spec_CombineState), (2, [], 10, lz71_spec_CombineState), (4, [], 10, lz79_spec_CombineState), (6, [], 10, lz83_spec_CombineState), (8, [], 10, lz85_spec_CombineState), (12, [], 10, lz86_spec_CombineState)] (by kernel_rfl) ⟨?_, ?_, ?_, ?_, ?_, ?_, trivial⟩
            · exact hL.edge n1
            · exact hL.edge n45
            · exact hL.edge n72
            · exact hL.edge n80
            · exact hL.edge n84
            · exact hL.edge n86
          simp (maxSteps := 4000000) only [go_sem, Nat.reduceBEq, Nat.reduceLT, Nat.reduceAdd, Nat.reduceLeDiff, Nat.reduceSub, Nat.reduceEqDiff, Int.reduceToNat, reduceCtorEq, ↓reduceIte]
          repeat' (first | refine And.intro ?_ ?_ | intro hg)
          all_goals (try simp (disch := omega) only [wrap_fits])
          all_goals first
            | (refine hL.red ?_ n0; exact Red.auto)
            | exact trivial
            | assumption
            | omega
            | exact wrap_fits (by omega) (by omega)
            | (simp (maxSteps := 4000000) only [go_sem, Nat.reduceBEq, Nat.reduceLT, Nat.reduceAdd, Nat.reduceLeDiff, Nat.reduceSub, Nat.reduceEqDiff, Int.reduceToNat, reduceCtorEq, ↓reduceIte]
               repeat' (first | refine And.intro ?_ ?_ | intro hg)
               all_goals (try simp (disch := omega) only [wrap_fits])
               all_goals first | (refine hL.red ?_ n0; exact Red.auto) | exact trivial | assumption | omega | exact wrap_fits (by omega) (by omega))
            | (simp_all; done)
            | (simp_all; omega)
        · clear hp0 hp1 hr2
          refine awp_ret ?_
          (try simp only [Thn, InBlk, ↓reduceIte, Nat.reduceEqDiff])
          obtain rfl := Option.some.inj h
          refine ⟨by simp, _, [0, 1, 2, 9, 10, 11], (by simp only [go_sem, Nat.reduceBEq, Nat.reduceLT, Nat.reduceAdd, Nat.reduceLeDiff, Nat.reduceSub, Nat.reduceEqDiff, Int.reduceToNat, reduceCtorEq, ↓reduceIte]; exact rfl), ?_, ?_, ?_, ?_⟩
          · exact fin1
          · simp [selOk, pos]
          · simp
          · exact fin4
theorem k_impl_ProgramValid (a0_0 : Int) (a0_1 : Int) (a0_2 : Int) {r : Bool} (h : impl_ProgramValid a0_0 a0_1 a0_2 = some r) :
    FnA Try.prog 22 [.agg [.v (.int .i64 a0_0), .v (.int .i64 a0_1), .v (.int .i64 a0_2)]] [] [] (fun x H => x = .v (.bool r) ∧ H = []) := by
  unfold impl_ProgramValid at h
  refine FnA.of (N := 48) (pin := []) (rs := [.tmp 2]) Try.func22 rfl en22 rfl rfl (by simp) (by simp; try omega) ?_
  refine awp_reg ftCOk [(1, .pp 0 0)] [.box [.v (.int .i64 a0_0), .v (.int .i64 a0_1), .v (.int .i64 a0_2)]] ?_
  refine awp_freeze 1 (by rfl) (by rfl) (by exact rfl) ?_
  refine awp_seq fun K10 hK10 => ?_
  refine awp_reg ftCOk [(1, .pp 0 0), (4, .v (.int .i64 a0_0))] [.rbox [.v (.int .i64 a0_0), .v (.int .i64 a0_1), .v (.int .i64 a0_2)]] ?_
  refine awp_block ?_
  refine awp_join h (fun (t5 : Bool) => [(1, .pp 0 0), (4, .v (.int .i64 a0_0)), (5, .v (.bool t5))]) (fun (t5 : Bool) => [.rbox [.v (.int .i64 a0_0), .v (.int .i64 a0_1), .v (.int .i64 a0_2)]]) ?_ ?_
  · clear h
    intro k h
    try dsimp only at h
    refine awp_reg ftCOk [(1, .pp 0 0), (4, .v (.int .i64 a0_0)), (5, .v (.bool (a0_0 == 1)))] [.rbox [.v (.int .i64 a0_0), .v (.int .i64 a0_1), .v (.int .i64 a0_2)]] ?_
    refine awp_cond (t := 5) rfl (fun hc12 => ?_) (fun hc12 => ?_)
    · replace h := bite_t h hc12
      refine awp_skip ?_
      (try simp only [Thn, InBlk, ↓reduceIte, Nat.reduceEqDiff])
      refine ⟨_, h, ?_⟩
      exact Red.auto
    · replace h := bite_f h hc12
      refine awp_regE ftCOk [(1, .pp 0 0), (4, .v (.int .i64 a0_0)), (5, .v (.bool (a0_0 == 2)))] [.rbox [.v (.int .i64 a0_0), .v (.int .i64 a0_1), .v (.int .i64 a0_2)]] ?_
      (try simp only [Thn, InBlk, ↓reduceIte, Nat.reduceEqDiff])
      refine ⟨_, h, ?_⟩
      exact Red.auto
  · clear h
    rintro t5 h
    try dsimp only at h
    try dsimp only
    refine awp_cond (t := 5) rfl (fun hc13 => ?_) (fun hc13 => ?_)
    · replace h := bite_t h hc13
      refine awp_reg ftCOk [(2, .v (.bool (((decide (0 ≤ a0_1)) && (decide (a0_1 < 16))) && (a0_2 == 0))))] [.rbox [.v (.int .i64 a0_0), .v (.int .i64 a0_1), .v (.int .i64 a0_2)]] ?_
      refine awp_ret ?_
      (try simp only [Thn, InBlk, ↓reduceIte, Nat.reduceEqDiff])
      obtain rfl := Option.some.inj h
      refine ⟨by simp, _, [], (by simp only [go_sem, Nat.reduceBEq, Nat.reduceLT, Nat.reduceAdd, Nat.reduceLeDiff, Nat.reduceSub, Nat.reduceEqDiff, Int.reduceToNat, reduceCtorEq, ↓reduceIte]; exact rfl), ?_, ?_, ?_, ?_⟩
      · exact fin1
      · simp [selOk, pos]
      · simp
      · exact fin4
    · replace h := bite_f h hc13
      refine awp_join h (fun (t21 : Bool) => [(1, .pp 0 0), (4, .v (.int .i64 a0_0)), (21, .v (.bool t21))]) (fun (t21 : Bool) => [.rbox [.v (.int .i64 a0_0), .v (.int .i64 a0_1), .v (.int .i64 a0_2)]]) ?_ ?_
      · clear h
        intro k_1 h
        try dsimp only at h
        refine awp_reg ftCOk [(1, .pp 0 0), (4, .v (.int .i64 a0_0)), (21, .v (.bool (a0_0 == 3)))] [.rbox [.v (.int .i64 a0_0), .v (.int .i64 a0_1), .v (.int .i64 a0_2)]] ?_
        refine awp_cond (t := 21) rfl (fun hc15 => ?_) (fun hc15 => ?_)
        · replace h := bite_t h hc15
          refine awp_skip ?_
          (try simp only [Thn, InBlk, ↓reduceIte, Nat.reduceEqDiff])
          refine ⟨_, h, ?_⟩
          exact Red.auto
        · replace h := bite_f h hc15
          refine awp_regE ftCOk [(1, .pp 0 0), (4, .v (.int .i64 a0_0)), (21, .v (.bool (a0_0 == 5)))] [.rbox [.v (.int .i64 a0_0), .v (.int .i64 a0_1), .v (.int .i64 a0_2)]] ?_
          (try simp only [Thn, InBlk, ↓reduceIte, Nat.reduceEqDiff])
          refine ⟨_, h, ?_⟩
          exact Red.auto
      · clear h
        rintro t21 h
        try dsimp only at h
        try dsimp only
        refine awp_cond (t := 21) rfl (fun hc16 => ?_) (fun hc16 => ?_)
        · replace h := bite_t h hc16
          refine awp_reg ftCOk [(2, .v (.bool ((a0_1 == 0) && (a0_2 == 0))))] [.rbox [.v (.int .i64 a0_0), .v (.int .i64 a0_1), .v (.int .i64 a0_2)]] ?_
          refine awp_ret ?_
          (try simp only [Thn, InBlk, ↓reduceIte, Nat.reduceEqDiff])
          obtain rfl := Option.some.inj h
          refine ⟨by simp, _, [], (by simp only [go_sem, Nat.reduceBEq, Nat.reduceLT, Nat.reduceAdd, Nat.reduceLeDiff, Nat.reduceSub, Nat.reduceEqDiff, Int.reduceToNat, reduceCtorEq, ↓reduceIte]; exact rfl), ?_, ?_, ?_, ?_⟩
          · exact fin1
          · simp [selOk, pos]
          · simp
          · exact fin4
        · replace h := bite_f h hc16
          refine awp_join h (fun (t32 : Bool) => [(1, .pp 0 0), (32, .v (.bool t32))]) (fun (t32 : Bool) => [.rbox [.v (.int .i64 a0_0), .v (.int .i64 a0_1), .v (.int .i64 a0_2)]]) ?_ ?_
          · clear h
            intro k_2 h
            try dsimp only at h
            refine awp_reg ftCOk [(1, .pp 0 0), (4, .v (.int .i64 a0_0)), (32, .v (.bool (a0_0 == 4)))] [.rbox [.v (.int .i64 a0_0), .v (.int .i64 a0_1), .v (.int .i64 a0_2)]] ?_
            refine awp_cond (t := 32) rfl (fun hc18 => ?_) (fun hc18 => ?_)
            · replace h := bite_t h hc18
              refine awp_skip ?_
              (try simp only [Thn, InBlk, ↓reduceIte, Nat.reduceEqDiff])
              refine ⟨_, h, ?_⟩
              exact Red.auto
            · replace h := bite_f h hc18
              refine awp_regE ftCOk [(1, .pp 0 0), (32, .v (.bool (a0_0 == 6)))] [.rbox [.v (.int .i64 a0_0), .v (.int .i64 a0_1), .v (.int .i64 a0_2)]] ?_
              (try simp only [Thn, InBlk, ↓reduceIte, Nat.reduceEqDiff])
              refine ⟨_, h, ?_⟩
              exact Red.auto
          · clear h
            rintro t32 h
            try dsimp only at h
            try dsimp only
            refine awp_cond (t := 32) rfl (fun hc19 => ?_) (fun hc19 => ?_)
            · replace h := bite_t h hc19
              refine awp_reg ftCOk [(2, .v (.bool (((a0_1 == 0) && (decide (1 ≤ a0_2))) && (decide (a0_2 ≤ 20)))))] [.rbox [.v (.int .i64 a0_0), .v (.int .i64 a0_1), .v (.int .i64 a0_2)]] ?_
              refine awp_ret ?_
              (try simp only [Thn, InBlk, ↓reduceIte, Nat.reduceEqDiff])
              obtain rfl := Option.some.inj h
              refine ⟨by simp, _, [], (by simp only [go_sem, Nat.reduceBEq, Nat.reduceLT, Nat.reduceAdd, Nat.reduceLeDiff, Nat.reduceSub, Nat.reduceEqDiff, Int.reduceToNat, reduceCtorEq, ↓reduceIte]; exact rfl), ?_, ?_, ?_, ?_⟩
              · exact fin1
              · simp [selOk, pos]
              · simp
              · exact fin4
            · replace h := bite_f h hc19
              refine awp_skip ?_
              (try simp only [Thn, InBlk, ↓reduceIte, Nat.reduceEqDiff])
              (try simp only [Thn, InBlk, ↓reduceIte, Nat.reduceEqDiff])
              refine hK10 _ _ ?_
              clear hK10
              refine awp_reg ftCOk [(2, .v (.bool false))] [.rbox [.v (.int .i64 a0_0), .v (.int .i64 a0_1), .v (.int .i64 a0_2)]] ?_
              refine awp_ret ?_
              (try simp only [Thn, InBlk, ↓reduceIte, Nat.reduceEqDiff])
              obtain rfl := Option.some.inj h
              refine ⟨by simp, _, [], (by simp only [go_sem, Nat.reduceBEq, Nat.reduceLT, Nat.reduceAdd, Nat.reduceLeDiff, Nat.reduceSub, Nat.reduceEqDiff, Int.reduceToNat, reduceCtorEq, ↓reduceIte]; exact rfl), ?_, ?_, ?_, ?_⟩
              · exact fin1
              · simp [selOk, pos]
              · simp
              · exact fin4
theorem k_impl_roundFits (a0 : Int) {r : Bool} (h : impl_roundFits a0 = some r) :
    FnA Try.prog 49 [.v (.int .i64 a0)] [] [] (fun x H => x = .v (.bool r) ∧ H = []) := by
  unfold impl_roundFits at h
  refine FnA.of (N := 9) (pin := []) (rs := [.tmp 2]) Try.func49 rfl en49 rfl rfl (by simp) (by simp; try omega) ?_
  refine awp_reg ftCOk [(0, .v (.int .i64 a0))] [] ?_
  refine awp_reg ftCOk [(2, .v (.bool ((decide (0 ≤ a0)) && (decide (a0 ≤ 100)))))] [] ?_
  refine awp_ret ?_
  (try simp only [Thn, InBlk, ↓reduceIte, Nat.reduceEqDiff])
  obtain rfl := Option.some.inj h
  refine ⟨by simp, _, [], (by simp only [go_sem, Nat.reduceBEq, Nat.reduceLT, Nat.reduceAdd, Nat.reduceLeDiff, Nat.reduceSub, Nat.reduceEqDiff, Int.reduceToNat, reduceCtorEq, ↓reduceIte]; exact rfl), ?_, ?_, ?_, ?_⟩
  · exact fin1
  · simp [selOk, pos]
  · simp
  · exact fin4
theorem k_impl_valueFits (a0 : Int) {r : Bool} (h : impl_valueFits a0 = some r) :
    FnA Try.prog 55 [.v (.int .i64 a0)] [] [] (fun x H => x = .v (.bool r) ∧ H = []) := by
  unfold impl_valueFits at h
  refine FnA.of (N := 9) (pin := []) (rs := [.tmp 2]) Try.func55 rfl en55 rfl rfl (by simp) (by simp; try omega) ?_
  refine awp_reg ftCOk [(0, .v (.int .i64 a0))] [] ?_
  refine awp_reg ftCOk [(2, .v (.bool ((decide ((-1) ≤ a0)) && (decide (a0 < 1000000)))))] [] ?_
  refine awp_ret ?_
  (try simp only [Thn, InBlk, ↓reduceIte, Nat.reduceEqDiff])
  obtain rfl := Option.some.inj h
  refine ⟨by simp, _, [], (by simp only [go_sem, Nat.reduceBEq, Nat.reduceLT, Nat.reduceAdd, Nat.reduceLeDiff, Nat.reduceSub, Nat.reduceEqDiff, Int.reduceToNat, reduceCtorEq, ↓reduceIte]; exact rfl), ?_, ?_, ?_, ?_⟩
  · exact fin1
  · simp [selOk, pos]
  · simp
  · exact fin4
theorem k_impl_valuesFit (a0 : List Int) {r : Bool} (h : impl_valuesFit a0 = some r) :
    FnA Try.prog 50 [.sl 0] [.row false (.ints .i64 a0)] [] (fun x H => x = .v (.bool r) ∧ H = [.row false (.ints .i64 a0)]) := by
  unfold impl_valuesFit at h
  refine FnA.of (N := 15) (pin := [0]) (rs := [.tmp 2]) Try.func50 rfl en50 rfl rfl (by simp) (by simp; try omega) ?_
  refine awp_reg ftCOk [(0, .sl 0)] [.row false (.ints .i64 a0)] ?_
  refine awp_seq fun K20 hK20 => ?_
  refine awp_reg ftCOk [(5, .sl 0), (6, .v (.int .i64 (a0.length : Int))), (7, .v (.int .i64 0))] [.row false (.ints .i64 a0)] ?_
  refine awp_block ?_
  replace h := bind_some h
  obtain ⟨x39, hx, h⟩ := h
  refine awp_loopL hx (fun (t7 : Int) => [(5, .sl 0), (6, .v (.int .i64 (a0.length : Int))), (7, .v (.int .i64 t7))]) (fun (t7 : Int) => [.row false (.ints .i64 a0)]) (Sum.elim (fun (_ : Unit) => Exit.exit 0) (fun (_ : Unit) => Exit.ret)) (Sum.elim (fun (_ : Unit) => []) (fun (_ : Unit) => [(2, .v (.bool false))])) (Sum.elim (fun (_ : Unit) => [.row false (.ints .i64 a0)]) (fun (_ : Unit) => [.row false (.ints .i64 a0)])) ?_ ?_ ?_ ?_
  · rintro (⟨⟩ | ⟨⟩) hy <;> cases hy
  · clear h hx
    exact Red.auto
  · clear h hx
    rintro t7 r h
    unfold impl_valuesFit_b0 at h
    try dsimp only at h
    try dsimp only
    refine awp_reg ftCOk [(5, .sl 0), (6, .v (.int .i64 (a0.length : Int))), (7, .v (.int .i64 t7)), (8, .v (.bool (decide (t7 < (a0.length : Int)))))] [.row false (.ints .i64 a0)] ?_
    refine awp_seq fun K34 hK34 => ?_
    refine awp_cond (t := 8) rfl (fun hc35 => ?_) (fun hc35 => ?_)
    · replace h := bite_t h hc35
      refine awp_skip ?_
      (try simp only [Thn, InBlk, ↓reduceIte, Nat.reduceEqDiff])
      refine hK34 _ _ ?_
      clear hK34
      refine awp_seq fun K37 hK37 => ?_
      refine awp_block ?_
      replace h := chk_some h
      obtain ⟨hp0, h⟩ := h
      refine awp_reg ftCOk [(4, .v (.int .i64 (a0.getD t7.toNat 0))), (5, .sl 0), (6, .v (.int .i64 (a0.length : Int))), (7, .v (.int .i64 t7))] [.row false (.ints .i64 a0)] ?_
      clear hp0
      replace h := bind_some h
      obtain ⟨y, hr0, h⟩ := h
      try dsimp only at h
      refine awp_to [(5, .sl 0), (6, .v (.int .i64 (a0.length : Int))), (7, .v (.int .i64 t7)), (13, .v (.bool (!y)))] [.row false (.ints .i64 a0)] ?_ ?_
      · clear h
        intro K hK
        refine awp_region ftCOk ?_
        simp (maxSteps := 4000000) only [go_sem, Nat.reduceBEq, Nat.reduceLT, Nat.reduceAdd, Nat.reduceLeDiff, Nat.reduceSub, Nat.reduceEqDiff, Int.reduceToNat, reduceCtorEq, ↓reduceIte]
        repeat' (first | refine And.intro ?_ ?_ | intro hg)
        all_goals (try simp (disch := omega) only [wrap_fits])
        all_goals first
          | (refine hK _ _ ?_; exact Red.auto)
          | exact trivial
          | assumption
          | omega
          | exact wrap_fits (by omega) (by omega)
          | (refine wpA_callA (k_impl_valueFits (a0.getD t7.toNat 0) (h := hr0)) [] [] ?_
             rintro x Hc' ⟨rfl, rfl⟩ hlen
             refine vcOps_sound ftCOk ?_
             simp (maxSteps := 4000000) only [go_sem, Nat.reduceBEq, Nat.reduceLT, Nat.reduceAdd, Nat.reduceLeDiff, Nat.reduceSub, Nat.reduceEqDiff, Int.reduceToNat, reduceCtorEq, ↓reduceIte]
             repeat' (first | refine And.intro ?_ ?_ | intro hg)
             all_goals (try simp (disch := omega) only [wrap_fits])
             all_goals first
               | (refine hK _ _ ?_; exact Red.auto)
               | exact trivial
               | assumption
               | omega
               | exact wrap_fits (by omega) (by omega)
               | (simp_all; done)
               | (simp_all; omega))
          | (simp_all; done)
          | (simp_all; omega)
      · clear hr0
        refine awp_cond (t := 13) rfl (fun hc38 => ?_) (fun hc38 => ?_)
        · replace h := bite_t h hc38
          refine awp_reg ftCOk [(2, .v (.bool false))] [.row false (.ints .i64 a0)] ?_
          refine awp_ret ?_
          (try simp only [Thn, InBlk, ↓reduceIte, Nat.reduceEqDiff])
          obtain rfl := Option.some.inj h
          refine LoopQ.out rfl ?_
          exact Red.auto
        · replace h := bite_f h hc38
          refine awp_skip ?_
          (try simp only [Thn, InBlk, ↓reduceIte, Nat.reduceEqDiff])
          (try simp only [Thn, InBlk, ↓reduceIte, Nat.reduceEqDiff])
          refine hK37 _ _ ?_
          clear hK37
          replace h := chk_some h
          obtain ⟨hp0, h⟩ := h
          refine awp_regE ftCOk [(5, .sl 0), (6, .v (.int .i64 (a0.length : Int))), (7, .v (.int .i64 (t7 + 1)))] [.row false (.ints .i64 a0)] ?_
          clear hp0
          obtain rfl := Option.some.inj h
          refine LoopQ.next ?_
          exact Red.auto
    · replace h := bite_f h hc35
      refine awp_exit ?_
      (try simp only [Thn, InBlk, ↓reduceIte, Nat.reduceEqDiff])
      obtain rfl := Option.some.inj h
      refine LoopQ.out rfl ?_
      exact Red.auto
  · clear hx
    rcases x39 with (⟨⟩ | ⟨⟩)
    · try dsimp only [Sum.elim_inl, Sum.elim_inr] at h
      try dsimp only [Sum.elim_inl, Sum.elim_inr]
      (try simp only [Thn, InBlk, ↓reduceIte, Nat.reduceEqDiff])
      (try simp only [Thn, InBlk, ↓reduceIte, Nat.reduceEqDiff])
      (try simp only [Thn, InBlk, ↓reduceIte, Nat.reduceEqDiff])
      refine hK20 _ _ ?_
      clear hK20
      refine awp_reg ftCOk [(2, .v (.bool true))] [.row false (.ints .i64 a0)] ?_
      refine awp_ret ?_
      (try simp only [Thn, InBlk, ↓reduceIte, Nat.reduceEqDiff])
      obtain rfl := Option.some.inj h
      refine ⟨by simp, _, [0], (by simp only [go_sem, Nat.reduceBEq, Nat.reduceLT, Nat.reduceAdd, Nat.reduceLeDiff, Nat.reduceSub, Nat.reduceEqDiff, Int.reduceToNat, reduceCtorEq, ↓reduceIte]; exact rfl), ?_, ?_, ?_, ?_⟩
      · exact fin1
      · simp [selOk, pos]
      · simp
      · exact fin4
    · try dsimp only [Sum.elim_inl, Sum.elim_inr] at h
      try dsimp only [Sum.elim_inl, Sum.elim_inr]
      (try simp only [Thn, InBlk, ↓reduceIte, Nat.reduceEqDiff])
      obtain rfl := Option.some.inj h
      refine ⟨by simp, _, [0], (by simp only [go_sem, Nat.reduceBEq, Nat.reduceLT, Nat.reduceAdd, Nat.reduceLeDiff, Nat.reduceSub, Nat.reduceEqDiff, Int.reduceToNat, reduceCtorEq, ↓reduceIte]; exact rfl), ?_, ?_, ?_, ?_⟩
      · exact fin1
      · simp [selOk, pos]
      · simp
      · exact fin4
theorem k_impl_messageFits (a0_0 : Int) (a0_1 : Int) (a0_2 : Int) (a1 : Int) {r : Bool} (h : impl_messageFits a0_0 a0_1 a0_2 a1 = some r) :
    FnA Try.prog 57 [.agg [.v (.int .i64 a0_0), .v (.int .i64 a0_1), .v (.int .i64 a0_2)], .v (.int .i64 a1)] [] [] (fun x H => x = .v (.bool r) ∧ H = []) := by
  unfold impl_messageFits at h
  refine FnA.of (N := 35) (pin := []) (rs := [.tmp 4]) Try.func57 rfl en57 rfl rfl (by simp) (by simp; try omega) ?_
  refine awp_reg ftCOk [(1, .v (.int .i64 a1)), (2, .pp 0 0)] [.box [.v (.int .i64 a0_0), .v (.int .i64 a0_1), .v (.int .i64 a0_2)]] ?_
  refine awp_freeze 2 (by rfl) (by rfl) (by exact rfl) ?_
  refine awp_to [(4, .v (.bool ((((((decide (0 ≤ a0_0)) && (decide (a0_0 < a1))) && (decide (0 ≤ a0_2))) && (decide (a0_2 < a1))) && (decide (0 ≤ a0_1))) && (decide (a0_1 < 1000000)))))] [.rbox [.v (.int .i64 a0_0), .v (.int .i64 a0_1), .v (.int .i64 a0_2)]] ?_ ?_
  · clear h
    intro K hK
    refine awp_regionA ?_
    refine wpA_cutAt 9 [(1, .v (.int .i64 a1)), (2, .pp 0 0), (13, .v (.bool ((decide (0 ≤ a0_0)) && (decide (a0_0 < a1)))))] [.rbox [.v (.int .i64 a0_0), .v (.int .i64 a0_1), .v (.int .i64 a0_2)]] ?_ ?_
    · clear hK K
      intro K hK
      refine vcOps_sound ftCOk ?_
      simp (maxSteps := 4000000) only [go_sem, Nat.reduceBEq, Nat.reduceLT, Nat.reduceAdd, Nat.reduceLeDiff, Nat.reduceSub, Nat.reduceEqDiff, Int.reduceToNat, reduceCtorEq, ↓reduceIte]
      repeat' (first | refine And.intro ?_ ?_ | intro hg)
      all_goals (try simp (disch := omega) only [wrap_fits])
      all_goals first
        | (refine hK _ _ ?_; exact Red.auto)
        | exact trivial
        | assumption
        | omega
        | exact wrap_fits (by omega) (by omega)
        | (simp_all; done)
        | (simp_all; omega)
    refine wpA_cutAt 5 [(1, .v (.int .i64 a1)), (2, .pp 0 0), (18, .v (.bool (((decide (0 ≤ a0_0)) && (decide (a0_0 < a1))) && (decide (0 ≤ a0_2)))))] [.rbox [.v (.int .i64 a0_0), .v (.int .i64 a0_1), .v (.int .i64 a0_2)]] ?_ ?_
    · clear hK K
      intro K hK
      refine vcOps_sound ftCOk ?_
      simp (maxSteps := 4000000) only [go_sem, Nat.reduceBEq, Nat.reduceLT, Nat.reduceAdd, Nat.reduceLeDiff, Nat.reduceSub, Nat.reduceEqDiff, Int.reduceToNat, reduceCtorEq, ↓reduceIte]
      repeat' (first | refine And.intro ?_ ?_ | intro hg)
      all_goals (try simp (disch := omega) only [wrap_fits])
      all_goals first
        | (refine hK _ _ ?_; exact Red.auto)
        | exact trivial
        | assumption
        | omega
        | exact wrap_fits (by omega) (by omega)
        | (simp_all; done)
        | (simp_all; omega)
    refine wpA_cutAt 6 [(2, .pp 0 0), (24, .v (.bool ((((decide (0 ≤ a0_0)) && (decide (a0_0 < a1))) && (decide (0 ≤ a0_2))) && (decide (a0_2 < a1)))))] [.rbox [.v (.int .i64 a0_0), .v (.int .i64 a0_1), .v (.int .i64 a0_2)]] ?_ ?_
    · clear hK K
      intro K hK
      refine vcOps_sound ftCOk ?_
      simp (maxSteps := 4000000) only [go_sem, Nat.reduceBEq, Nat.reduceLT, Nat.reduceAdd, Nat.reduceLeDiff, Nat.reduceSub, Nat.reduceEqDiff, Int.reduceToNat, reduceCtorEq, ↓reduceIte]
      repeat' (first | refine And.intro ?_ ?_ | intro hg)
      all_goals (try simp (disch := omega) only [wrap_fits])
      all_goals first
        | (refine hK _ _ ?_; exact Red.auto)
        | exact trivial
        | assumption
        | omega
        | exact wrap_fits (by omega) (by omega)
        | (simp_all; done)
        | (simp_all; omega)
    refine wpA_cutAt 5 [(2, .pp 0 0), (29, .v (.bool (((((decide (0 ≤ a0_0)) && (decide (a0_0 < a1))) && (decide (0 ≤ a0_2))) && (decide (a0_2 < a1))) && (decide (0 ≤ a0_1)))))] [.rbox [.v (.int .i64 a0_0), .v (.int .i64 a0_1), .v (.int .i64 a0_2)]] ?_ ?_
    · clear hK K
      intro K hK
      refine vcOps_sound ftCOk ?_
      simp (maxSteps := 4000000) only [go_sem, Nat.reduceBEq, Nat.reduceLT, Nat.reduceAdd, Nat.reduceLeDiff, Nat.reduceSub, Nat.reduceEqDiff, Int.reduceToNat, reduceCtorEq, ↓reduceIte]
      repeat' (first | refine And.intro ?_ ?_ | intro hg)
      all_goals (try simp (disch := omega) only [wrap_fits])
      all_goals first
        | (refine hK _ _ ?_; exact Red.auto)
        | exact trivial
        | assumption
        | omega
        | exact wrap_fits (by omega) (by omega)
        | (simp_all; done)
        | (simp_all; omega)
    refine vcOps_sound ftCOk ?_
    simp (maxSteps := 4000000) only [go_sem, Nat.reduceBEq, Nat.reduceLT, Nat.reduceAdd, Nat.reduceLeDiff, Nat.reduceSub, Nat.reduceEqDiff, Int.reduceToNat, reduceCtorEq, ↓reduceIte]
    repeat' (first | refine And.intro ?_ ?_ | intro hg)
    all_goals (try simp (disch := omega) only [wrap_fits])
    all_goals first
      | (refine hK _ _ ?_; exact Red.auto)
      | exact trivial
      | assumption
      | omega
      | exact wrap_fits (by omega) (by omega)
      | (simp_all; done)
      | (simp_all; omega)
  · refine awp_ret ?_
    (try simp only [Thn, InBlk, ↓reduceIte, Nat.reduceEqDiff])
    obtain rfl := Option.some.inj h
    refine ⟨by simp, _, [], (by simp only [go_sem, Nat.reduceBEq, Nat.reduceLT, Nat.reduceAdd, Nat.reduceLeDiff, Nat.reduceSub, Nat.reduceEqDiff, Int.reduceToNat, reduceCtorEq, ↓reduceIte]; exact rfl), ?_, ?_, ?_, ?_⟩
    · exact fin1
    · simp [selOk, pos]
    · simp
    · exact fin4
theorem k_slices_IsSortedFunc_impl_Message_impl_Message__impl_compareMessages (a0 : List (Int × Int × Int)) {r : Bool} (h : slices_IsSortedFunc_impl_Message_impl_Message__impl_compareMessages a0 = some r) :
    FnA Try.prog 56 [.sl 0, .v (.func (.func 54) #[] #[])] [.row false (.trips a0)] [] (fun x H => x = .v (.bool r) ∧ H = [.row false (.trips a0)]) := by
  unfold slices_IsSortedFunc_impl_Message_impl_Message__impl_compareMessages at h
  refine FnA.of (N := 25) (pin := [0]) (rs := [.tmp 4]) Try.func56 rfl en56 rfl rfl (by simp) (by simp; try omega) ?_
  refine awp_reg ftCOk [(0, .sl 0), (1, .v (.func (.func 54) #[] #[]))] [.row false (.trips a0)] ?_
  refine awp_seq fun K20 hK20 => ?_
  replace h := chk_some h
  obtain ⟨hp0, h⟩ := h
  have hwhp0 := wrap_fits hp0.1 hp0.2
  refine awp_reg ftCOk [(0, .sl 0), (1, .v (.func (.func 54) #[] #[])), (5, .v (.int .i64 ((a0.length : Int) - 1)))] [.row false (.trips a0)] ?_
  clear hp0
  refine awp_block ?_
  replace h := bind_some h
  obtain ⟨x39, hx, h⟩ := h
  refine awp_loopL hx (fun (t5 : Int) => [(0, .sl 0), (1, .v (.func (.func 54) #[] #[])), (5, .v (.int .i64 t5))]) (fun (t5 : Int) => [.row false (.trips a0)]) (Sum.elim (fun (_ : Unit) => Exit.exit 0) (fun (_ : Unit) => Exit.ret)) (Sum.elim (fun (_ : Unit) => []) (fun (_ : Unit) => [(4, .v (.bool false))])) (Sum.elim (fun (_ : Unit) => [.row false (.trips a0)]) (fun (_ : Unit) => [.row false (.trips a0)])) ?_ ?_ ?_ ?_
  · rintro (⟨⟩ | ⟨⟩) hy <;> cases hy
  · clear h hx
    exact Red.auto
  · clear h hx
    rintro t5 r h
    unfold slices_IsSortedFunc_impl_Message_impl_Message__impl_compareMessages_b0 at h
    try dsimp only at h
    try dsimp only
    refine awp_seq fun K34 hK34 => ?_
    refine awp_reg ftCOk [(0, .sl 0), (1, .v (.func (.func 54) #[] #[])), (5, .v (.int .i64 t5)), (10, .v (.bool (decide (0 < t5))))] [.row false (.trips a0)] ?_
    refine awp_cond (t := 10) rfl (fun hc35 => ?_) (fun hc35 => ?_)
    · replace h := bite_t h hc35
      refine awp_skip ?_
      (try simp only [Thn, InBlk, ↓reduceIte, Nat.reduceEqDiff])
      refine hK34 _ _ ?_
      clear hK34
      refine awp_seq fun K37 hK37 => ?_
      refine awp_block ?_
      replace h := chk_some h
      obtain ⟨hp0, h⟩ := h
      replace h := chk_some h
      obtain ⟨hp1, h⟩ := h
      have hwhp1 := wrap_fits hp1.1 hp1.2
      replace h := chk_some h
      obtain ⟨hp2, h⟩ := h
      refine awp_regQ mixed ftCOk [(0, .sl 0), (1, .v (.func (.func 54) #[] #[])), (5, .v (.int .i64 t5)), (24, .v (.bool (decide ((orF [cmpI (a0.getD t5.toNat (0, 0, 0)).1 (a0.getD ((t5 - 1).toNat) (0, 0, 0)).1, cmpI (a0.getD t5.toNat (0, 0, 0)).2.1 (a0.getD ((t5 - 1).toNat) (0, 0, 0)).2.1, cmpI (a0.getD t5.toNat (0, 0, 0)).2.2 (a0.getD ((t5 - 1).toNat) (0, 0, 0)).2.2]) < 0))))] [.row false (.trips a0)] ?_
      clear hp0 hp1 hp2
      refine awp_cond (t := 24) rfl (fun hc38 => ?_) (fun hc38 => ?_)
      · replace h := bite_t h hc38
        refine awp_reg ftCOk [(4, .v (.bool false))] [.row false (.trips a0)] ?_
        refine awp_ret ?_
        (try simp only [Thn, InBlk, ↓reduceIte, Nat.reduceEqDiff])
        obtain rfl := Option.some.inj h
        refine LoopQ.out rfl ?_
        exact Red.auto
      · replace h := bite_f h hc38
        refine awp_skip ?_
        (try simp only [Thn, InBlk, ↓reduceIte, Nat.reduceEqDiff])
        (try simp only [Thn, InBlk, ↓reduceIte, Nat.reduceEqDiff])
        refine hK37 _ _ ?_
        clear hK37
        replace h := chk_some h
        obtain ⟨hp0, h⟩ := h
        have hwhp0 := wrap_fits hp0.1 hp0.2
        refine awp_regE ftCOk [(0, .sl 0), (1, .v (.func (.func 54) #[] #[])), (5, .v (.int .i64 (t5 - 1)))] [.row false (.trips a0)] ?_
        clear hp0
        obtain rfl := Option.some.inj h
        refine LoopQ.next ?_
        exact Red.auto
    · replace h := bite_f h hc35
      refine awp_exit ?_
      (try simp only [Thn, InBlk, ↓reduceIte, Nat.reduceEqDiff])
      obtain rfl := Option.some.inj h
      refine LoopQ.out rfl ?_
      exact Red.auto
  · clear hx
    rcases x39 with (⟨⟩ | ⟨⟩)
    · try dsimp only [Sum.elim_inl, Sum.elim_inr] at h
      try dsimp only [Sum.elim_inl, Sum.elim_inr]
      (try simp only [Thn, InBlk, ↓reduceIte, Nat.reduceEqDiff])
      (try simp only [Thn, InBlk, ↓reduceIte, Nat.reduceEqDiff])
      (try simp only [Thn, InBlk, ↓reduceIte, Nat.reduceEqDiff])
      refine hK20 _ _ ?_
      clear hK20
      refine awp_reg ftCOk [(4, .v (.bool true))] [.row false (.trips a0)] ?_
      refine awp_ret ?_
      (try simp only [Thn, InBlk, ↓reduceIte, Nat.reduceEqDiff])
      obtain rfl := Option.some.inj h
      refine ⟨by simp, _, [0], (by simp only [go_sem, Nat.reduceBEq, Nat.reduceLT, Nat.reduceAdd, Nat.reduceLeDiff, Nat.reduceSub, Nat.reduceEqDiff, Int.reduceToNat, reduceCtorEq, ↓reduceIte]; exact rfl), ?_, ?_, ?_, ?_⟩
      · exact fin1
      · simp [selOk, pos]
      · simp
      · exact fin4
    · try dsimp only [Sum.elim_inl, Sum.elim_inr] at h
      try dsimp only [Sum.elim_inl, Sum.elim_inr]
      (try simp only [Thn, InBlk, ↓reduceIte, Nat.reduceEqDiff])
      obtain rfl := Option.some.inj h
      refine ⟨by simp, _, [0], (by simp only [go_sem, Nat.reduceBEq, Nat.reduceLT, Nat.reduceAdd, Nat.reduceLeDiff, Nat.reduceSub, Nat.reduceEqDiff, Int.reduceToNat, reduceCtorEq, ↓reduceIte]; exact rfl), ?_, ?_, ?_, ?_⟩
      · exact fin1
      · simp [selOk, pos]
      · simp
      · exact fin4
theorem k_impl_inboxFits (a0 : List (Int × Int × Int)) (a1 : Int) {r : Bool} (h : impl_inboxFits a0 a1 = some r) :
    FnA Try.prog 51 [.sl 0, .v (.int .i64 a1)] [.row false (.trips a0)] [] (fun x H => x = .v (.bool r) ∧ H = [.row false (.trips a0)]) := by
  unfold impl_inboxFits at h
  refine FnA.of (N := 26) (pin := [0]) (rs := [.tmp 4]) Try.func51 rfl en51 rfl rfl (by simp) (by simp; try omega) ?_
  refine awp_reg ftCOk [(0, .sl 0), (1, .v (.int .i64 a1))] [.row false (.trips a0)] ?_
  refine awp_seq fun K2 hK2 => ?_
  replace h := bind_some h
  obtain ⟨y, hr0, h⟩ := h
  try dsimp only at h
  refine awp_to [(0, .sl 0), (1, .v (.int .i64 a1)), (14, .v (.bool ((decide (2000 < (a0.length : Int))) || (!y))))] [.row false (.trips a0)] ?_ ?_
  · clear h
    intro K hK
    refine awp_region ftCOk ?_
    simp (maxSteps := 4000000) only [go_sem, Nat.reduceBEq, Nat.reduceLT, Nat.reduceAdd, Nat.reduceLeDiff, Nat.reduceSub, Nat.reduceEqDiff, Int.reduceToNat, reduceCtorEq, ↓reduceIte]
    repeat' (first | refine And.intro ?_ ?_ | intro hg)
    all_goals (try simp (disch := omega) only [wrap_fits])
    all_goals first
      | (refine hK _ _ ?_; exact Red.auto)
      | exact trivial
      | assumption
      | omega
      | exact wrap_fits (by omega) (by omega)
      | (refine wpA_guard rfl rfl ?_
         refine wpA_callA (k_slices_IsSortedFunc_impl_Message_impl_Message__impl_compareMessages a0 (h := (bite_t hr0 (by rw [Bool.not_eq_true']; exact (by first | assumption | (simp only [*, Bool.false_or, Bool.true_or, Bool.or_false, Bool.or_true, Bool.false_and, Bool.true_and, Bool.and_false, Bool.and_true, Bool.not_true, Bool.not_false, beq_self_eq_true]; done) | (simp_all; done)))))) [0] [] ?_
         rintro x Hc' ⟨rfl, rfl⟩ hlen
         refine vcOps_sound ftCOk ?_
         simp (maxSteps := 4000000) only [go_sem, Nat.reduceBEq, Nat.reduceLT, Nat.reduceAdd, Nat.reduceLeDiff, Nat.reduceSub, Nat.reduceEqDiff, Int.reduceToNat, reduceCtorEq, ↓reduceIte]
         repeat' (first | refine And.intro ?_ ?_ | intro hg)
         all_goals (try simp (disch := omega) only [wrap_fits])
         all_goals first
           | (refine hK _ _ ?_; exact Red.auto)
           | exact trivial
           | assumption
           | omega
           | exact wrap_fits (by omega) (by omega)
           | (simp_all; done)
           | (simp_all; omega))
      | (simp_all; done)
      | (simp_all; omega)
  · clear hr0
    refine awp_cond (t := 14) rfl (fun hc3 => ?_) (fun hc3 => ?_)
    · replace h := bite_t h hc3
      refine awp_reg ftCOk [(4, .v (.bool false))] [.row false (.trips a0)] ?_
      refine awp_ret ?_
      (try simp only [Thn, InBlk, ↓reduceIte, Nat.reduceEqDiff])
      obtain rfl := Option.some.inj h
      refine ⟨by simp, _, [0], (by simp only [go_sem, Nat.reduceBEq, Nat.reduceLT, Nat.reduceAdd, Nat.reduceLeDiff, Nat.reduceSub, Nat.reduceEqDiff, Int.reduceToNat, reduceCtorEq, ↓reduceIte]; exact rfl), ?_, ?_, ?_, ?_⟩
      · exact fin1
      · simp [selOk, pos]
      · simp
      · exact fin4
    · replace h := bite_f h hc3
      refine awp_skip ?_
      (try simp only [Thn, InBlk, ↓reduceIte, Nat.reduceEqDiff])
      refine hK2 _ _ ?_
      clear hK2
      refine awp_seq fun K23 hK23 => ?_
      refine awp_reg ftCOk [(1, .v (.int .i64 a1)), (15, .sl 0), (16, .v (.int .i64 (a0.length : Int))), (17, .v (.int .i64 0))] [.row false (.trips a0)] ?_
      refine awp_block ?_
      replace h := bind_some h
      obtain ⟨x42, hx, h⟩ := h
      refine awp_loopL hx (fun (t17 : Int) => [(1, .v (.int .i64 a1)), (15, .sl 0), (16, .v (.int .i64 (a0.length : Int))), (17, .v (.int .i64 t17))]) (fun (t17 : Int) => [.row false (.trips a0)]) (Sum.elim (fun (_ : Unit) => Exit.exit 0) (fun (_ : Unit) => Exit.ret)) (Sum.elim (fun (_ : Unit) => []) (fun (_ : Unit) => [(4, .v (.bool false))])) (Sum.elim (fun (_ : Unit) => [.row false (.trips a0)]) (fun (_ : Unit) => [.row false (.trips a0)])) ?_ ?_ ?_ ?_
      · rintro (⟨⟩ | ⟨⟩) hy <;> cases hy
      · clear h hx
        exact Red.auto
      · clear h hx
        rintro t17 r h
        unfold impl_inboxFits_b0 at h
        try dsimp only at h
        try dsimp only
        refine awp_reg ftCOk [(1, .v (.int .i64 a1)), (15, .sl 0), (16, .v (.int .i64 (a0.length : Int))), (17, .v (.int .i64 t17)), (18, .v (.bool (decide (t17 < (a0.length : Int)))))] [.row false (.trips a0)] ?_
        refine awp_seq fun K37 hK37 => ?_
        refine awp_cond (t := 18) rfl (fun hc38 => ?_) (fun hc38 => ?_)
        · replace h := bite_t h hc38
          refine awp_skip ?_
          (try simp only [Thn, InBlk, ↓reduceIte, Nat.reduceEqDiff])
          refine hK37 _ _ ?_
          clear hK37
          refine awp_seq fun K40 hK40 => ?_
          refine awp_block ?_
          replace h := chk_some h
          obtain ⟨hp0, h⟩ := h
          refine awp_reg ftCOk [(1, .v (.int .i64 a1)), (6, .pp 1 0), (15, .sl 0), (16, .v (.int .i64 (a0.length : Int))), (17, .v (.int .i64 t17))] [.row false (.trips a0), .box [.v (.int .i64 ((a0.getD t17.toNat (0, 0, 0)).1)), .v (.int .i64 ((a0.getD t17.toNat (0, 0, 0)).2.1)), .v (.int .i64 ((a0.getD t17.toNat (0, 0, 0)).2.2))]] ?_
          clear hp0
          replace h := bind_some h
          obtain ⟨y_1, hr0, h⟩ := h
          try dsimp only at h
          refine awp_to [(1, .v (.int .i64 a1)), (15, .sl 0), (16, .v (.int .i64 (a0.length : Int))), (17, .v (.int .i64 t17)), (24, .v (.bool (!y_1)))] [.row false (.trips a0), .box [.v (.int .i64 ((a0.getD t17.toNat (0, 0, 0)).1)), .v (.int .i64 ((a0.getD t17.toNat (0, 0, 0)).2.1)), .v (.int .i64 ((a0.getD t17.toNat (0, 0, 0)).2.2))]] ?_ ?_
          · clear h
            intro K hK
            refine awp_region ftCOk ?_
            simp (maxSteps := 4000000) only [go_sem, Nat.reduceBEq, Nat.reduceLT, Nat.reduceAdd, Nat.reduceLeDiff, Nat.reduceSub, Nat.reduceEqDiff, Int.reduceToNat, reduceCtorEq, ↓reduceIte]
            repeat' (first | refine And.intro ?_ ?_ | intro hg)
            all_goals (try simp (disch := omega) only [wrap_fits])
            all_goals first
              | (refine hK _ _ ?_; exact Red.auto)
              | exact trivial
              | assumption
              | omega
              | exact wrap_fits (by omega) (by omega)
              | (refine wpA_callA (k_impl_messageFits ((a0.getD t17.toNat (0, 0, 0)).1) ((a0.getD t17.toNat (0, 0, 0)).2.1) ((a0.getD t17.toNat (0, 0, 0)).2.2) a1 (h := hr0)) [] [] ?_
                 rintro x Hc' ⟨rfl, rfl⟩ hlen
                 refine vcOps_sound ftCOk ?_
                 simp (maxSteps := 4000000) only [go_sem, Nat.reduceBEq, Nat.reduceLT, Nat.reduceAdd, Nat.reduceLeDiff, Nat.reduceSub, Nat.reduceEqDiff, Int.reduceToNat, reduceCtorEq, ↓reduceIte]
                 repeat' (first | refine And.intro ?_ ?_ | intro hg)
                 all_goals (try simp (disch := omega) only [wrap_fits])
                 all_goals first
                   | (refine hK _ _ ?_; exact Red.auto)
                   | exact trivial
                   | assumption
                   | omega
                   | exact wrap_fits (by omega) (by omega)
                   | (simp_all; done)
                   | (simp_all; omega))
              | (simp_all; done)
              | (simp_all; omega)
          · clear hr0
            refine awp_cond (t := 24) rfl (fun hc41 => ?_) (fun hc41 => ?_)
            · replace h := bite_t h hc41
              refine awp_reg ftCOk [(4, .v (.bool false))] [.row false (.trips a0), .box [.v (.int .i64 ((a0.getD t17.toNat (0, 0, 0)).1)), .v (.int .i64 ((a0.getD t17.toNat (0, 0, 0)).2.1)), .v (.int .i64 ((a0.getD t17.toNat (0, 0, 0)).2.2))]] ?_
              refine awp_ret ?_
              (try simp only [Thn, InBlk, ↓reduceIte, Nat.reduceEqDiff])
              obtain rfl := Option.some.inj h
              refine LoopQ.out rfl ?_
              exact Red.selA [0] Red.auto
            · replace h := bite_f h hc41
              refine awp_skip ?_
              (try simp only [Thn, InBlk, ↓reduceIte, Nat.reduceEqDiff])
              (try simp only [Thn, InBlk, ↓reduceIte, Nat.reduceEqDiff])
              refine hK40 _ _ ?_
              clear hK40
              replace h := chk_some h
              obtain ⟨hp0, h⟩ := h
              refine awp_regE ftCOk [(1, .v (.int .i64 a1)), (15, .sl 0), (16, .v (.int .i64 (a0.length : Int))), (17, .v (.int .i64 (t17 + 1)))] [.row false (.trips a0), .box [.v (.int .i64 ((a0.getD t17.toNat (0, 0, 0)).1)), .v (.int .i64 ((a0.getD t17.toNat (0, 0, 0)).2.1)), .v (.int .i64 ((a0.getD t17.toNat (0, 0, 0)).2.2))]] ?_
              clear hp0
              obtain rfl := Option.some.inj h
              refine LoopQ.next ?_
              exact Red.selA [0] Red.auto
        · replace h := bite_f h hc38
          refine awp_exit ?_
          (try simp only [Thn, InBlk, ↓reduceIte, Nat.reduceEqDiff])
          obtain rfl := Option.some.inj h
          refine LoopQ.out rfl ?_
          exact Red.auto
      · clear hx
        rcases x42 with (⟨⟩ | ⟨⟩)
        · try dsimp only [Sum.elim_inl, Sum.elim_inr] at h
          try dsimp only [Sum.elim_inl, Sum.elim_inr]
          (try simp only [Thn, InBlk, ↓reduceIte, Nat.reduceEqDiff])
          (try simp only [Thn, InBlk, ↓reduceIte, Nat.reduceEqDiff])
          (try simp only [Thn, InBlk, ↓reduceIte, Nat.reduceEqDiff])
          refine hK23 _ _ ?_
          clear hK23
          refine awp_reg ftCOk [(4, .v (.bool true))] [.row false (.trips a0)] ?_
          refine awp_ret ?_
          (try simp only [Thn, InBlk, ↓reduceIte, Nat.reduceEqDiff])
          obtain rfl := Option.some.inj h
          refine ⟨by simp, _, [0], (by simp only [go_sem, Nat.reduceBEq, Nat.reduceLT, Nat.reduceAdd, Nat.reduceLeDiff, Nat.reduceSub, Nat.reduceEqDiff, Int.reduceToNat, reduceCtorEq, ↓reduceIte]; exact rfl), ?_, ?_, ?_, ?_⟩
          · exact fin1
          · simp [selOk, pos]
          · simp
          · exact fin4
        · try dsimp only [Sum.elim_inl, Sum.elim_inr] at h
          try dsimp only [Sum.elim_inl, Sum.elim_inr]
          (try simp only [Thn, InBlk, ↓reduceIte, Nat.reduceEqDiff])
          obtain rfl := Option.some.inj h
          refine ⟨by simp, _, [0], (by simp only [go_sem, Nat.reduceBEq, Nat.reduceLT, Nat.reduceAdd, Nat.reduceLeDiff, Nat.reduceSub, Nat.reduceEqDiff, Int.reduceToNat, reduceCtorEq, ↓reduceIte]; exact rfl), ?_, ?_, ?_, ?_⟩
          · exact fin1
          · simp [selOk, pos]
          · simp
          · exact fin4
theorem k_impl_StateValid (a0_0 : Int) (a0_1 : List Int) (a0_2 : List Bool) (a0_3 : List (Int × Int × Int)) (a1 : Int) {r : Bool} (h : impl_StateValid a0_0 a0_1 a0_2 a0_3 a1 = some r) :
    FnA Try.prog 41 [.agg [.v (.int .i64 a0_0), .sl 0, .sl 1, .sl 2], .v (.int .i64 a1)] [.row false (.ints .i64 a0_1), .row false (.bools a0_2), .row false (.trips a0_3)] [] (fun x H => x = .v (.bool r) ∧ H = [.row false (.ints .i64 a0_1), .row false (.bools a0_2), .row false (.trips a0_3)]) := by
  unfold impl_StateValid at h
  refine FnA.of (N := 38) (pin := [0, 1, 2]) (rs := [.tmp 4]) Try.func41 rfl en41 rfl rfl (by simp) (by simp; try omega) ?_
  refine awp_reg ftCOk [(1, .v (.int .i64 a1)), (2, .pp 3 0)] [.row false (.ints .i64 a0_1), .row false (.bools a0_2), .row false (.trips a0_3), .box [.v (.int .i64 a0_0), .sl 0, .sl 1, .sl 2]] ?_
  refine awp_freeze 2 (by rfl) (by rfl) (by exact rfl) ?_
  refine awp_seq fun K2 hK2 => ?_
  replace h := bind_some h
  obtain ⟨y, hr0, h⟩ := h
  try dsimp only at h
  refine awp_to [(1, .v (.int .i64 a1)), (2, .pp 3 0), (16, .v (.bool (((decide (a1 < 0)) || (decide (16 < a1))) || (!y))))] [.row false (.ints .i64 a0_1), .row false (.bools a0_2), .row false (.trips a0_3), .rbox [.v (.int .i64 a0_0), .sl 0, .sl 1, .sl 2]] ?_ ?_
  · clear h
    intro K hK
    refine awp_regionA ?_
    refine wpA_cutAt 6 [(1, .v (.int .i64 a1)), (2, .pp 3 0), (10, .v (.bool ((decide (a1 < 0)) || (decide (16 < a1)))))] [.row false (.ints .i64 a0_1), .row false (.bools a0_2), .row false (.trips a0_3), .rbox [.v (.int .i64 a0_0), .sl 0, .sl 1, .sl 2]] ?_ ?_
    · clear hK K
      intro K hK
      refine vcOps_sound ftCOk ?_
      simp (maxSteps := 4000000) only [go_sem, Nat.reduceBEq, Nat.reduceLT, Nat.reduceAdd, Nat.reduceLeDiff, Nat.reduceSub, Nat.reduceEqDiff, Int.reduceToNat, reduceCtorEq, ↓reduceIte]
      repeat' (first | refine And.intro ?_ ?_ | intro hg)
      all_goals (try simp (disch := omega) only [wrap_fits])
      all_goals first
        | (refine hK _ _ ?_; exact Red.auto)
        | exact trivial
        | assumption
        | omega
        | exact wrap_fits (by omega) (by omega)
        | (simp_all; done)
        | (simp_all; omega)
    refine vcOps_sound ftCOk ?_
    simp (maxSteps := 4000000) only [go_sem, Nat.reduceBEq, Nat.reduceLT, Nat.reduceAdd, Nat.reduceLeDiff, Nat.reduceSub, Nat.reduceEqDiff, Int.reduceToNat, reduceCtorEq, ↓reduceIte]
    repeat' (first | refine And.intro ?_ ?_ | intro hg)
    all_goals (try simp (disch := omega) only [wrap_fits])
    all_goals first
      | (refine hK _ _ ?_; exact Red.auto)
      | exact trivial
      | assumption
      | omega
      | exact wrap_fits (by omega) (by omega)
      | (refine wpA_guard rfl rfl ?_
         refine wpA_callA (k_impl_roundFits a0_0 (h := (bite_t hr0 (by rw [Bool.not_eq_true']; exact (by first | assumption | (simp only [*, Bool.false_or, Bool.true_or, Bool.or_false, Bool.or_true, Bool.false_and, Bool.true_and, Bool.and_false, Bool.and_true, Bool.not_true, Bool.not_false, beq_self_eq_true]; done) | (simp_all; done)))))) [] [] ?_
         rintro x Hc' ⟨rfl, rfl⟩ hlen
         refine vcOps_sound ftCOk ?_
         simp (maxSteps := 4000000) only [go_sem, Nat.reduceBEq, Nat.reduceLT, Nat.reduceAdd, Nat.reduceLeDiff, Nat.reduceSub, Nat.reduceEqDiff, Int.reduceToNat, reduceCtorEq, ↓reduceIte]
         repeat' (first | refine And.intro ?_ ?_ | intro hg)
         all_goals (try simp (disch := omega) only [wrap_fits])
         all_goals first
           | (refine hK _ _ ?_; exact Red.auto)
           | exact trivial
           | assumption
           | omega
           | exact wrap_fits (by omega) (by omega)
           | (simp_all; done)
           | (simp_all; omega))
      | (simp_all; done)
      | (simp_all; omega)
  · clear hr0
    refine awp_cond (t := 16) rfl (fun hc3 => ?_) (fun hc3 => ?_)
    · replace h := bite_t h hc3
      refine awp_reg ftCOk [(4, .v (.bool false))] [.row false (.ints .i64 a0_1), .row false (.bools a0_2), .row false (.trips a0_3), .rbox [.v (.int .i64 a0_0), .sl 0, .sl 1, .sl 2]] ?_
      refine awp_ret ?_
      (try simp only [Thn, InBlk, ↓reduceIte, Nat.reduceEqDiff])
      obtain rfl := Option.some.inj h
      refine ⟨by simp, _, [0, 1, 2], (by simp only [go_sem, Nat.reduceBEq, Nat.reduceLT, Nat.reduceAdd, Nat.reduceLeDiff, Nat.reduceSub, Nat.reduceEqDiff, Int.reduceToNat, reduceCtorEq, ↓reduceIte]; exact rfl), ?_, ?_, ?_, ?_⟩
      · exact fin1
      · simp [selOk, pos]
      · simp
      · exact fin4
    · replace h := bite_f h hc3
      refine awp_skip ?_
      (try simp only [Thn, InBlk, ↓reduceIte, Nat.reduceEqDiff])
      refine hK2 _ _ ?_
      clear hK2
      refine awp_seq fun K5 hK5 => ?_
      refine awp_reg ftCOk [(1, .v (.int .i64 a1)), (2, .pp 3 0), (28, .v (.bool (((a0_1.length : Int) != a1) || ((a0_2.length : Int) != a1))))] [.row false (.ints .i64 a0_1), .row false (.bools a0_2), .row false (.trips a0_3), .rbox [.v (.int .i64 a0_0), .sl 0, .sl 1, .sl 2]] ?_
      refine awp_cond (t := 28) rfl (fun hc6 => ?_) (fun hc6 => ?_)
      · replace h := bite_t h hc6
        refine awp_reg ftCOk [(4, .v (.bool false))] [.row false (.ints .i64 a0_1), .row false (.bools a0_2), .row false (.trips a0_3), .rbox [.v (.int .i64 a0_0), .sl 0, .sl 1, .sl 2]] ?_
        refine awp_ret ?_
        (try simp only [Thn, InBlk, ↓reduceIte, Nat.reduceEqDiff])
        obtain rfl := Option.some.inj h
        refine ⟨by simp, _, [0, 1, 2], (by simp only [go_sem, Nat.reduceBEq, Nat.reduceLT, Nat.reduceAdd, Nat.reduceLeDiff, Nat.reduceSub, Nat.reduceEqDiff, Int.reduceToNat, reduceCtorEq, ↓reduceIte]; exact rfl), ?_, ?_, ?_, ?_⟩
        · exact fin1
        · simp [selOk, pos]
        · simp
        · exact fin4
      · replace h := bite_f h hc6
        refine awp_skip ?_
        (try simp only [Thn, InBlk, ↓reduceIte, Nat.reduceEqDiff])
        refine hK5 _ _ ?_
        clear hK5
        replace h := bind_some h
        obtain ⟨y_1, hr0, h⟩ := h
        try dsimp only at h
        replace h := bind_some h
        obtain ⟨y_2, hr1, h⟩ := h
        try dsimp only at h
        refine awp_to [(4, .v (.bool (y_1 && y_2)))] [.row false (.ints .i64 a0_1), .row false (.bools a0_2), .row false (.trips a0_3), .rbox [.v (.int .i64 a0_0), .sl 0, .sl 1, .sl 2]] ?_ ?_
        · clear h
          intro K hK
          refine awp_region ftCOk ?_
          simp (maxSteps := 4000000) only [go_sem, Nat.reduceBEq, Nat.reduceLT, Nat.reduceAdd, Nat.reduceLeDiff, Nat.reduceSub, Nat.reduceEqDiff, Int.reduceToNat, reduceCtorEq, ↓reduceIte]
          repeat' (first | refine And.intro ?_ ?_ | intro hg)
          all_goals (try simp (disch := omega) only [wrap_fits])
          all_goals first
            | (refine hK _ _ ?_; exact Red.auto)
            | exact trivial
            | assumption
            | omega
            | exact wrap_fits (by omega) (by omega)
            | (refine wpA_callA (k_impl_valuesFit a0_1 (h := hr0)) [0] [] ?_
               rintro x Hc' ⟨rfl, rfl⟩ hlen
               refine vcOps_sound ftCOk ?_
               simp (maxSteps := 4000000) only [go_sem, Nat.reduceBEq, Nat.reduceLT, Nat.reduceAdd, Nat.reduceLeDiff, Nat.reduceSub, Nat.reduceEqDiff, Int.reduceToNat, reduceCtorEq, ↓reduceIte]
               repeat' (first | refine And.intro ?_ ?_ | intro hg)
               all_goals (try simp (disch := omega) only [wrap_fits])
               all_goals first
                 | (refine hK _ _ ?_; exact Red.auto)
                 | exact trivial
                 | assumption
                 | omega
                 | exact wrap_fits (by omega) (by omega)
                 | (refine wpA_guard rfl rfl ?_
                    refine wpA_callA (k_impl_inboxFits a0_3 a1 (h := (bite_t hr1 (by first | assumption | (simp only [*, Bool.false_or, Bool.true_or, Bool.or_false, Bool.or_true, Bool.false_and, Bool.true_and, Bool.and_false, Bool.and_true, Bool.not_true, Bool.not_false, beq_self_eq_true]; done) | (simp_all; done))))) [2] [] ?_
                    rintro x Hc' ⟨rfl, rfl⟩ hlen
                    refine vcOps_sound ftCOk ?_
                    simp (maxSteps := 4000000) only [go_sem, Nat.reduceBEq, Nat.reduceLT, Nat.reduceAdd, Nat.reduceLeDiff, Nat.reduceSub, Nat.reduceEqDiff, Int.reduceToNat, reduceCtorEq, ↓reduceIte]
                    repeat' (first | refine And.intro ?_ ?_ | intro hg)
                    all_goals (try simp (disch := omega) only [wrap_fits])
                    all_goals first
                      | (refine hK _ _ ?_; exact Red.auto)
                      | exact trivial
                      | assumption
                      | omega
                      | exact wrap_fits (by omega) (by omega)
                      | (simp_all; done)
                      | (simp_all; omega))
                 | (simp_all; done)
                 | (simp_all; omega))
            | (simp_all; done)
            | (simp_all; omega)
        · clear hr0 hr1
          refine awp_ret ?_
          (try simp only [Thn, InBlk, ↓reduceIte, Nat.reduceEqDiff])
          obtain rfl := Option.some.inj h
          refine ⟨by simp, _, [0, 1, 2], (by simp only [go_sem, Nat.reduceBEq, Nat.reduceLT, Nat.reduceAdd, Nat.reduceLeDiff, Nat.reduceSub, Nat.reduceEqDiff, Int.reduceToNat, reduceCtorEq, ↓reduceIte]; exact rfl), ?_, ?_, ?_, ?_⟩
          · exact fin1
          · simp [selOk, pos]
          · simp
          · exact fin4
theorem k_impl_State_ownValid (a0_0 : Int) (a0_1 : List Int) (a0_2 : List Bool) (a0_3 : List (Int × Int × Int)) {r : Bool} (h : impl_State_ownValid a0_0 a0_1 a0_2 a0_3 = some r) :
    FnA Try.prog 23 [.agg [.v (.int .i64 a0_0), .sl 0, .sl 1, .sl 2]] [.row false (.ints .i64 a0_1), .row false (.bools a0_2), .row false (.trips a0_3)] [] (fun x H => x = .v (.bool r) ∧ H = [.row false (.ints .i64 a0_1), .row false (.bools a0_2), .row false (.trips a0_3)]) := by
  unfold impl_State_ownValid at h
  refine FnA.of (N := 8) (pin := [0, 1, 2]) (rs := [.tmp 2]) Try.func23 rfl en23 rfl rfl (by simp) (by simp; try omega) ?_
  refine awp_reg ftCOk [(1, .pp 3 0)] [.row false (.ints .i64 a0_1), .row false (.bools a0_2), .row false (.trips a0_3), .box [.v (.int .i64 a0_0), .sl 0, .sl 1, .sl 2]] ?_
  refine awp_freeze 1 (by rfl) (by rfl) (by exact rfl) ?_
  replace h := bind_some h
  obtain ⟨y, hr0, h⟩ := h
  try dsimp only at h
  refine awp_to [(2, .v (.bool y))] [.row false (.ints .i64 a0_1), .row false (.bools a0_2), .row false (.trips a0_3), .rbox [.v (.int .i64 a0_0), .sl 0, .sl 1, .sl 2]] ?_ ?_
  · clear h
    intro K hK
    refine awp_region ftCOk ?_
    simp (maxSteps := 4000000) only [go_sem, Nat.reduceBEq, Nat.reduceLT, Nat.reduceAdd, Nat.reduceLeDiff, Nat.reduceSub, Nat.reduceEqDiff, Int.reduceToNat, reduceCtorEq, ↓reduceIte]
    repeat' (first | refine And.intro ?_ ?_ | intro hg)
    all_goals (try simp (disch := omega) only [wrap_fits])
    all_goals first
      | (refine hK _ _ ?_; exact Red.auto)
      | exact trivial
      | assumption
      | omega
      | exact wrap_fits (by omega) (by omega)
      | (refine wpA_callA (k_impl_StateValid a0_0 a0_1 a0_2 a0_3 (a0_1.length : Int) (h := hr0)) [0, 1, 2] [] ?_
         rintro x Hc' ⟨rfl, rfl⟩ hlen
         refine vcOps_sound ftCOk ?_
         simp (maxSteps := 4000000) only [go_sem, Nat.reduceBEq, Nat.reduceLT, Nat.reduceAdd, Nat.reduceLeDiff, Nat.reduceSub, Nat.reduceEqDiff, Int.reduceToNat, reduceCtorEq, ↓reduceIte]
         repeat' (first | refine And.intro ?_ ?_ | intro hg)
         all_goals (try simp (disch := omega) only [wrap_fits])
         all_goals first
           | (refine hK _ _ ?_; exact Red.auto)
           | exact trivial
           | assumption
           | omega
           | exact wrap_fits (by omega) (by omega)
           | (simp_all; done)
           | (simp_all; omega))
      | (simp_all; done)
      | (simp_all; omega)
  · clear hr0
    refine awp_ret ?_
    (try simp only [Thn, InBlk, ↓reduceIte, Nat.reduceEqDiff])
    obtain rfl := Option.some.inj h
    refine ⟨by simp, _, [0, 1, 2], (by simp only [go_sem, Nat.reduceBEq, Nat.reduceLT, Nat.reduceAdd, Nat.reduceLeDiff, Nat.reduceSub, Nat.reduceEqDiff, Int.reduceToNat, reduceCtorEq, ↓reduceIte]; exact rfl), ?_, ?_, ?_, ?_⟩
    · exact fin1
    · simp [selOk, pos]
    · simp
    · exact fin4
theorem k_slices_Clone_int_int (a0 : List Int) {r : List Int} (h : slices_Clone_int_int a0 = some r) :
    FnA Try.prog 42 [.sl 0] [.row false (.ints .i64 a0)] [] (fun x H => x = .sl 1 ∧ H = [.row false (.ints .i64 a0), .row true (.ints .i64 r)]) := by
  unfold slices_Clone_int_int at h
  refine FnA.of (N := 8) (pin := [0]) (rs := [.tmp 2]) Try.func42 rfl en42 rfl rfl (by simp) (by simp; try omega) ?_
  refine awp_reg ftCOk [(0, .sl 0)] [.row false (.ints .i64 a0)] ?_
  refine awp_seq fun K2 hK2 => ?_
  have hboth := both_some h
  refine awp_isnil (by rfl) (by rfl) Try.underlying24 rfl rfl fun b hb => ?_
  replace h := hboth b hb
  clear hboth
  refine awp_cond (t := 4) rfl (fun hc3 => ?_) (fun hc3 => ?_)
  · replace h := bite_t h hc3
    refine awp_reg ftCOk [(2, .v (.slice none 0 0))] [.row false (.ints .i64 a0)] ?_
    refine awp_red (Red.nil (t := 2) (.ints .i64 []) rfl rfl) ?_
    refine awp_ret ?_
    (try simp only [Thn, InBlk, ↓reduceIte, Nat.reduceEqDiff])
    obtain rfl := Option.some.inj h
    refine ⟨by simp, _, [0, 1], (by simp only [go_sem, Nat.reduceBEq, Nat.reduceLT, Nat.reduceAdd, Nat.reduceLeDiff, Nat.reduceSub, Nat.reduceEqDiff, Int.reduceToNat, reduceCtorEq, ↓reduceIte]; exact rfl), ?_, ?_, ?_, ?_⟩
    · exact fin1
    · simp [selOk, pos]
    · simp
    · exact fin4
  · replace h := bite_f h hc3
    refine awp_skip ?_
    (try simp only [Thn, InBlk, ↓reduceIte, Nat.reduceEqDiff])
    refine hK2 _ _ ?_
    clear hK2
    replace h := chk_some h
    obtain ⟨hp0, h⟩ := h
    refine awp_reg ftCOk [(2, .sl 1)] [.row false (.ints .i64 a0), .row true (.ints .i64 ([] ++ a0))] ?_
    clear hp0
    refine awp_ret ?_
    (try simp only [Thn, InBlk, ↓reduceIte, Nat.reduceEqDiff])
    obtain rfl := Option.some.inj h
    refine ⟨by simp, _, [0, 1], (by simp only [go_sem, Nat.reduceBEq, Nat.reduceLT, Nat.reduceAdd, Nat.reduceLeDiff, Nat.reduceSub, Nat.reduceEqDiff, Int.reduceToNat, reduceCtorEq, ↓reduceIte]; exact rfl), ?_, ?_, ?_, ?_⟩
    · exact fin1
    · simp [selOk, pos]
    · simp
    · exact fin4
theorem k_slices_Clone_bool_bool (a0 : List Bool) {r : List Bool} (h : slices_Clone_bool_bool a0 = some r) :
    FnA Try.prog 43 [.sl 0] [.row false (.bools a0)] [] (fun x H => x = .sl 1 ∧ H = [.row false (.bools a0), .row true (.bools r)]) := by
  unfold slices_Clone_bool_bool at h
  refine FnA.of (N := 8) (pin := [0]) (rs := [.tmp 2]) Try.func43 rfl en43 rfl rfl (by simp) (by simp; try omega) ?_
  refine awp_reg ftCOk [(0, .sl 0)] [.row false (.bools a0)] ?_
  refine awp_seq fun K2 hK2 => ?_
  have hboth := both_some h
  refine awp_isnil (by rfl) (by rfl) Try.underlying25 rfl rfl fun b hb => ?_
  replace h := hboth b hb
  clear hboth
  refine awp_cond (t := 4) rfl (fun hc3 => ?_) (fun hc3 => ?_)
  · replace h := bite_t h hc3
    refine awp_reg ftCOk [(2, .v (.slice none 0 0))] [.row false (.bools a0)] ?_
    refine awp_red (Red.nil (t := 2) (.bools []) rfl rfl) ?_
    refine awp_ret ?_
    (try simp only [Thn, InBlk, ↓reduceIte, Nat.reduceEqDiff])
    obtain rfl := Option.some.inj h
    refine ⟨by simp, _, [0, 1], (by simp only [go_sem, Nat.reduceBEq, Nat.reduceLT, Nat.reduceAdd, Nat.reduceLeDiff, Nat.reduceSub, Nat.reduceEqDiff, Int.reduceToNat, reduceCtorEq, ↓reduceIte]; exact rfl), ?_, ?_, ?_, ?_⟩
    · exact fin1
    · simp [selOk, pos]
    · simp
    · exact fin4
  · replace h := bite_f h hc3
    refine awp_skip ?_
    (try simp only [Thn, InBlk, ↓reduceIte, Nat.reduceEqDiff])
    refine hK2 _ _ ?_
    clear hK2
    replace h := chk_some h
    obtain ⟨hp0, h⟩ := h
    refine awp_reg ftCOk [(2, .sl 1)] [.row false (.bools a0), .row true (.bools ([] ++ a0))] ?_
    clear hp0
    refine awp_ret ?_
    (try simp only [Thn, InBlk, ↓reduceIte, Nat.reduceEqDiff])
    obtain rfl := Option.some.inj h
    refine ⟨by simp, _, [0, 1], (by simp only [go_sem, Nat.reduceBEq, Nat.reduceLT, Nat.reduceAdd, Nat.reduceLeDiff, Nat.reduceSub, Nat.reduceEqDiff, Int.reduceToNat, reduceCtorEq, ↓reduceIte]; exact rfl), ?_, ?_, ?_, ?_⟩
    · exact fin1
    · simp [selOk, pos]
    · simp
    · exact fin4
theorem k_slices_Clone_impl_Message_impl_Message (a0 : List (Int × Int × Int)) {r : (List (Int × Int × Int))} (h : slices_Clone_impl_Message_impl_Message a0 = some r) :
    FnA Try.prog 44 [.sl 0] [.row false (.trips a0)] [] (fun x H => x = .sl 1 ∧ H = [.row false (.trips a0), .row true (.trips r)]) := by
  unfold slices_Clone_impl_Message_impl_Message at h
  refine FnA.of (N := 8) (pin := [0]) (rs := [.tmp 2]) Try.func44 rfl en44 rfl rfl (by simp) (by simp; try omega) ?_
  refine awp_reg ftCOk [(0, .sl 0)] [.row false (.trips a0)] ?_
  refine awp_seq fun K2 hK2 => ?_
  have hboth := both_some h
  refine awp_isnil (by rfl) (by rfl) Try.underlying30 rfl rfl fun b hb => ?_
  replace h := hboth b hb
  clear hboth
  refine awp_cond (t := 4) rfl (fun hc3 => ?_) (fun hc3 => ?_)
  · replace h := bite_t h hc3
    refine awp_reg ftCOk [(2, .v (.slice none 0 0))] [.row false (.trips a0)] ?_
    refine awp_red (Red.nil (t := 2) (.trips []) rfl rfl) ?_
    refine awp_ret ?_
    (try simp only [Thn, InBlk, ↓reduceIte, Nat.reduceEqDiff])
    obtain rfl := Option.some.inj h
    refine ⟨by simp, _, [0, 1], (by simp only [go_sem, Nat.reduceBEq, Nat.reduceLT, Nat.reduceAdd, Nat.reduceLeDiff, Nat.reduceSub, Nat.reduceEqDiff, Int.reduceToNat, reduceCtorEq, ↓reduceIte]; exact rfl), ?_, ?_, ?_, ?_⟩
    · exact fin1
    · simp [selOk, pos]
    · simp
    · exact fin4
  · replace h := bite_f h hc3
    refine awp_skip ?_
    (try simp only [Thn, InBlk, ↓reduceIte, Nat.reduceEqDiff])
    refine hK2 _ _ ?_
    clear hK2
    replace h := chk_some h
    obtain ⟨hp0, h⟩ := h
    refine awp_reg ftCOk [(2, .sl 1)] [.row false (.trips a0), .row true (.trips ([] ++ a0))] ?_
    clear hp0
    refine awp_ret ?_
    (try simp only [Thn, InBlk, ↓reduceIte, Nat.reduceEqDiff])
    obtain rfl := Option.some.inj h
    refine ⟨by simp, _, [0, 1], (by simp only [go_sem, Nat.reduceBEq, Nat.reduceLT, Nat.reduceAdd, Nat.reduceLeDiff, Nat.reduceSub, Nat.reduceEqDiff, Int.reduceToNat, reduceCtorEq, ↓reduceIte]; exact rfl), ?_, ?_, ?_, ?_⟩
    · exact fin1
    · simp [selOk, pos]
    · simp
    · exact fin4
theorem k_impl_State_copied (a0_0 : Int) (a0_1 : List Int) (a0_2 : List Bool) (a0_3 : List (Int × Int × Int)) {r : Int × List Int × List Bool × (List (Int × Int × Int))} (h : impl_State_copied a0_0 a0_1 a0_2 a0_3 = some r) :
    FnA Try.prog 24 [.agg [.v (.int .i64 a0_0), .sl 0, .sl 1, .sl 2]] [.row false (.ints .i64 a0_1), .row false (.bools a0_2), .row false (.trips a0_3)] [] (fun x H => x = .agg [.v (.int .i64 r.1), .sl 3, .sl 4, .sl 5] ∧ H = [.row false (.ints .i64 a0_1), .row false (.bools a0_2), .row false (.trips a0_3), .row true (.ints .i64 r.2.1), .row true (.bools r.2.2.1), .row true (.trips r.2.2.2)]) := by
  unfold impl_State_copied at h
  refine FnA.of (N := 15) (pin := [0, 1, 2]) (rs := [.cell 2 32]) Try.func24 rfl en24 rfl rfl (by simp) (by simp; try omega) ?_
  refine awp_reg ftCOk [(1, .pp 3 0), (2, .pp 4 0)] [.row false (.ints .i64 a0_1), .row false (.bools a0_2), .row false (.trips a0_3), .box [.v (.int .i64 a0_0), .sl 0, .sl 1, .sl 2], .box [.v (.int .i64 0), .v (.slice none 0 0), .v (.slice none 0 0), .v (.slice none 0 0)]] ?_
  refine awp_freeze 1 (by rfl) (by rfl) (by exact rfl) ?_
  replace h := bind_some h
  obtain ⟨y, hr0, h⟩ := h
  try dsimp only at h
  replace h := bind_some h
  obtain ⟨y_1, hr1, h⟩ := h
  try dsimp only at h
  replace h := bind_some h
  obtain ⟨y_2, hr2, h⟩ := h
  try dsimp only at h
  refine awp_to [(2, .pp 4 0)] [.row false (.ints .i64 a0_1), .row false (.bools a0_2), .row false (.trips a0_3), .rbox [.v (.int .i64 a0_0), .sl 0, .sl 1, .sl 2], .box [.v (.int .i64 a0_0), .sl 5, .sl 6, .sl 7], .row true (.ints .i64 y), .row true (.bools y_1), .row true (.trips y_2)] ?_ ?_
  · clear h
    intro K hK
    refine awp_drawT mixed ftCOk (.free 0 (.free 2 (.free 5 (.free 8 (.free 1 (.free 3 (.free 6 (.free 9 (.one 4 (.one 7 (.one 10 (.one 11 (.one 12 .fin))))))))))))) (by kernel_rfl) (by simp) ?_
    simp (maxSteps := 4000000) only [go_sem, Nat.reduceBEq, Nat.reduceLT, Nat.reduceAdd, Nat.reduceLeDiff, Nat.reduceSub, Nat.reduceEqDiff, Int.reduceToNat, reduceCtorEq, ↓reduceIte]
    repeat' (first | refine And.intro ?_ ?_ | intro hg)
    all_goals (try simp (disch := omega) only [wrap_fits])
    all_goals first
      | (refine hK _ _ ?_; exact Red.auto)
      | exact trivial
      | assumption
      | omega
      | exact wrap_fits (by omega) (by omega)
      | (refine OpK_callA (k_slices_Clone_int_int a0_1 (h := hr0)) [0] [] ?_
         rintro x Hc' ⟨rfl, rfl⟩ hlen
         simp (maxSteps := 4000000) only [go_sem, Nat.reduceBEq, Nat.reduceLT, Nat.reduceAdd, Nat.reduceLeDiff, Nat.reduceSub, Nat.reduceEqDiff, Int.reduceToNat, reduceCtorEq, ↓reduceIte]
         repeat' (first | refine And.intro ?_ ?_ | intro hg)
         all_goals (try simp (disch := omega) only [wrap_fits])
         all_goals first
           | (refine hK _ _ ?_; exact Red.auto)
           | exact trivial
           | assumption
           | omega
           | exact wrap_fits (by omega) (by omega)
           | (refine OpK_callA (k_slices_Clone_bool_bool a0_2 (h := hr1)) [1] [] ?_
              rintro x Hc' ⟨rfl, rfl⟩ hlen
              simp (maxSteps := 4000000) only [go_sem, Nat.reduceBEq, Nat.reduceLT, Nat.reduceAdd, Nat.reduceLeDiff, Nat.reduceSub, Nat.reduceEqDiff, Int.reduceToNat, reduceCtorEq, ↓reduceIte]
              repeat' (first | refine And.intro ?_ ?_ | intro hg)
              all_goals (try simp (disch := omega) only [wrap_fits])
              all_goals first
                | (refine hK _ _ ?_; exact Red.auto)
                | exact trivial
                | assumption
                | omega
                | exact wrap_fits (by omega) (by omega)
                | (refine OpK_callA (k_slices_Clone_impl_Message_impl_Message a0_3 (h := hr2)) [2] [] ?_
                   rintro x Hc' ⟨rfl, rfl⟩ hlen
                   simp (maxSteps := 4000000) only [go_sem, Nat.reduceBEq, Nat.reduceLT, Nat.reduceAdd, Nat.reduceLeDiff, Nat.reduceSub, Nat.reduceEqDiff, Int.reduceToNat, reduceCtorEq, ↓reduceIte]
                   repeat' (first | refine And.intro ?_ ?_ | intro hg)
                   all_goals (try simp (disch := omega) only [wrap_fits])
                   all_goals first
                     | (refine hK _ _ ?_; exact Red.auto)
                     | exact trivial
                     | assumption
                     | omega
                     | exact wrap_fits (by omega) (by omega)
                     | (simp (maxSteps := 4000000) only [go_sem, Nat.reduceBEq, Nat.reduceLT, Nat.reduceAdd, Nat.reduceLeDiff, Nat.reduceSub, Nat.reduceEqDiff, Int.reduceToNat, reduceCtorEq, ↓reduceIte]
                        repeat' (first | refine And.intro ?_ ?_ | intro hg)
                        all_goals (try simp (disch := omega) only [wrap_fits])
                        all_goals first | (refine hK _ _ ?_; exact Red.auto) | exact trivial | assumption | omega | exact wrap_fits (by omega) (by omega))
                     | (simp_all; done)
                     | (simp_all; omega))
                | (simp_all; done)
                | (simp_all; omega))
           | (simp_all; done)
           | (simp_all; omega))
      | (simp_all; done)
      | (simp_all; omega)
  · clear hr0 hr1 hr2
    refine awp_ret ?_
    (try simp only [Thn, InBlk, ↓reduceIte, Nat.reduceEqDiff])
    obtain rfl := Option.some.inj h
    refine ⟨by simp, _, [0, 1, 2, 5, 6, 7], (by simp only [go_sem, Nat.reduceBEq, Nat.reduceLT, Nat.reduceAdd, Nat.reduceLeDiff, Nat.reduceSub, Nat.reduceEqDiff, Int.reduceToNat, reduceCtorEq, ↓reduceIte]; exact rfl), ?_, ?_, ?_, ?_⟩
    · exact fin1
    · simp [selOk, pos]
    · simp
    · exact fin4
theorem k_slices_SortFunc__impl_compareMessages (a0 : List (Int × Int × Int)) {r : List (Int × Int × Int)} (h : slices_SortFunc__impl_compareMessages a0 = some r) :
    FnA Try.prog 53 [.sl 0, .v (.func (.func 54) #[] #[])] [.row true (.trips a0)] [] (fun x H => x = .tup [] ∧ H = [.row true (.trips r)]) := by
  unfold slices_SortFunc__impl_compareMessages at h
  obtain ⟨h1, h⟩ := chk_some h
  simp only [Option.some.injEq] at h
  subst h
  exact sortFunc_trips Go.Proofs.sortL Try.isAgg59 Try.sizeOf59 msgC msgSWO rfl en53 en54 (fun x y W => cmpMsgP.calls [.agg (encT x).toArray, .agg (encT y).toArray] True _ rfl trivial W) a0 h1
theorem k_impl_inOrder (a0 : List (Int × Int × Int)) {r : (List (Int × Int × Int))} (h : impl_inOrder a0 = some r) :
    FnA Try.prog 45 [.sl 0] [.row false (.trips a0)] [] (fun x H => x = .sl 1 ∧ H = [.row false (.trips a0), .row true (.trips r)]) := by
  unfold impl_inOrder at h
  refine FnA.of (N := 61) (pin := [0]) (rs := [.tmp 2]) Try.func45 rfl en45 rfl rfl (by simp) (by simp; try omega) ?_
  refine awp_reg ftCOk [(0, .sl 0)] [.row false (.trips a0)] ?_
  refine awp_reg ftCOk [(0, .sl 0), (3, .sl 1)] [.row false (.trips a0), .mp [] none none] ?_
  refine awp_reg ftCOk [(0, .sl 0), (3, .sl 1), (4, .v (.slice none 0 0))] [.row false (.trips a0), .mp [] none none] ?_
  refine awp_seq fun K34 hK34 => ?_
  refine awp_reg ftCOk [(0, .sl 0), (3, .sl 1), (4, .v (.slice none 0 0)), (12, .sl 0), (13, .v (.int .i64 (a0.length : Int))), (14, .v (.int .i64 0))] [.row false (.trips a0), .mp [] none none] ?_
  refine awp_block ?_
  replace h := bind_some h
  obtain ⟨x67, hx, h⟩ := h
  refine awp_loopL hx (fun ((t14, t3s, t4s) : Int × (List (Int × List (Int × Int × Int))) × List Int) => [(0, .sl 0), (3, .sl 1), (4, .sl 2), (12, .sl 0), (13, .v (.int .i64 (a0.length : Int))), (14, .v (.int .i64 t14))]) (fun ((t14, t3s, t4s) : Int × (List (Int × List (Int × Int × Int))) × List Int) => [.row false (.trips a0), .mp t3s none none, .row true (.ints .i64 t4s)]) (fun ((t3s_1, t4s_1) : (List (Int × List (Int × Int × Int))) × List Int) => Exit.exit 0) (fun ((t3s_1, t4s_1) : (List (Int × List (Int × Int × Int))) × List Int) => [(0, .sl 0), (3, .sl 1), (4, .sl 2)]) (fun ((t3s_1, t4s_1) : (List (Int × List (Int × Int × Int))) × List Int) => [.row false (.trips a0), .mp t3s_1 none none, .row true (.ints .i64 t4s_1)]) ?_ ?_ ?_ ?_
  · rintro ⟨t3s_1, t4s_1⟩ hy <;> cases hy
  · clear h hx
    refine Red.trans (Red.nil (t := 4) (.ints .i64 []) rfl rfl) ?_
    exact Red.auto
  · clear h hx
    rintro ⟨t14, t3s, t4s⟩ r h
    unfold impl_inOrder_b0 at h
    try dsimp only at h
    try dsimp only
    refine awp_reg ftCOk [(0, .sl 0), (3, .sl 1), (4, .sl 2), (12, .sl 0), (13, .v (.int .i64 (a0.length : Int))), (14, .v (.int .i64 t14)), (15, .v (.bool (decide (t14 < (a0.length : Int)))))] [.row false (.trips a0), .mp t3s none none, .row true (.ints .i64 t4s)] ?_
    refine awp_seq fun K60 hK60 => ?_
    refine awp_cond (t := 15) rfl (fun hc61 => ?_) (fun hc61 => ?_)
    · replace h := bite_t h hc61
      refine awp_skip ?_
      (try simp only [Thn, InBlk, ↓reduceIte, Nat.reduceEqDiff])
      refine hK60 _ _ ?_
      clear hK60
      refine awp_seq fun K64 hK64 => ?_
      refine awp_block ?_
      replace h := chk_some h
      obtain ⟨hp0, h⟩ := h
      refine awp_reg ftCOk [(0, .sl 0), (3, .sl 1), (4, .sl 2), (6, .pp 3 0), (12, .sl 0), (13, .v (.int .i64 (a0.length : Int))), (14, .v (.int .i64 t14))] [.row false (.trips a0), .mp t3s none none, .row true (.ints .i64 t4s), .box [.v (.int .i64 ((a0.getD t14.toNat (0, 0, 0)).1)), .v (.int .i64 ((a0.getD t14.toNat (0, 0, 0)).2.1)), .v (.int .i64 ((a0.getD t14.toNat (0, 0, 0)).2.2))]] ?_
      clear hp0
      refine awp_join h (fun (t4s_2 : List Int) => [(0, .sl 0), (3, .sl 1), (4, .sl 2), (6, .pp 3 0), (12, .sl 0), (13, .v (.int .i64 (a0.length : Int))), (14, .v (.int .i64 t14))]) (fun (t4s_2 : List Int) => [.row false (.trips a0), .mp (setM t3s ((a0.getD t14.toNat (0, 0, 0)).1) (getM t3s ((a0.getD t14.toNat (0, 0, 0)).1))) none none, .row true (.ints .i64 t4s_2), .box [.v (.int .i64 ((a0.getD t14.toNat (0, 0, 0)).1)), .v (.int .i64 ((a0.getD t14.toNat (0, 0, 0)).2.1)), .v (.int .i64 ((a0.getD t14.toNat (0, 0, 0)).2.2))]]) ?_ ?_
      · clear h
        intro k h
        try dsimp only at h
        refine awp_mtake 1 ((a0.getD t14.toNat (0, 0, 0)).1) (by rfl) (by exact rfl) ?_
        refine awp_reg ftCOk [(0, .sl 0), (3, .sl 1), (4, .sl 2), (6, .pp 3 0), (12, .sl 0), (13, .v (.int .i64 (a0.length : Int))), (14, .v (.int .i64 t14)), (23, .v (.bool (((getM t3s ((a0.getD t14.toNat (0, 0, 0)).1)).length : Int) == 0)))] [.row false (.trips a0), .mp t3s (some ((a0.getD t14.toNat (0, 0, 0)).1)) (some 4), .row true (.ints .i64 t4s), .box [.v (.int .i64 ((a0.getD t14.toNat (0, 0, 0)).1)), .v (.int .i64 ((a0.getD t14.toNat (0, 0, 0)).2.1)), .v (.int .i64 ((a0.getD t14.toNat (0, 0, 0)).2.2))], .row true (.trips (getM t3s ((a0.getD t14.toNat (0, 0, 0)).1)))] ?_
        refine awp_cond (t := 23) rfl (fun hc66 => ?_) (fun hc66 => ?_)
        · replace h := bite_t h hc66
          refine awp_mput 1 4 (by rfl) (by rfl) (by exact rfl) ?_
          replace h := chk_some h
          obtain ⟨hp0, h⟩ := h
          refine awp_regE ftCOk [(0, .sl 0), (3, .sl 1), (4, .sl 2), (6, .pp 3 0), (12, .sl 0), (13, .v (.int .i64 (a0.length : Int))), (14, .v (.int .i64 t14))] [.row false (.trips a0), .mp (setM t3s ((a0.getD t14.toNat (0, 0, 0)).1) (getM t3s ((a0.getD t14.toNat (0, 0, 0)).1))) none none, .row true (.ints .i64 (t4s ++ [(a0.getD t14.toNat (0, 0, 0)).1])), .box [.v (.int .i64 ((a0.getD t14.toNat (0, 0, 0)).1)), .v (.int .i64 ((a0.getD t14.toNat (0, 0, 0)).2.1)), .v (.int .i64 ((a0.getD t14.toNat (0, 0, 0)).2.2))], .view 1 (.trips (getM t3s ((a0.getD t14.toNat (0, 0, 0)).1))), .row true (.ints .i64 [(a0.getD t14.toNat (0, 0, 0)).1])] ?_
          clear hp0
          (try simp only [Thn, InBlk, ↓reduceIte, Nat.reduceEqDiff])
          refine ⟨_, h, ?_⟩
          exact Red.selA [0, 1, 2, 3] Red.auto
        · replace h := bite_f h hc66
          refine awp_skip ?_
          (try simp only [Thn, InBlk, ↓reduceIte, Nat.reduceEqDiff])
          refine ⟨_, h, ?_⟩
          refine Red.trans (Red.mput 1 4 (by rfl) (by rfl)) ?_
          exact Red.selA [0, 1, 2, 3] Red.auto
      · clear h
        rintro t4s_2 h
        try dsimp only at h
        try dsimp only
        refine awp_mtake 1 ((a0.getD t14.toNat (0, 0, 0)).1) (by rfl) (by exact rfl) ?_
        replace h := chk_some h
        obtain ⟨hp0, h⟩ := h
        refine awp_end [(0, .sl 0), (3, .sl 1), (4, .sl 2), (12, .sl 0), (13, .v (.int .i64 (a0.length : Int))), (14, .v (.int .i64 t14))] [.row false (.trips a0), .mp (upsM (setM t3s ((a0.getD t14.toNat (0, 0, 0)).1) (getM t3s ((a0.getD t14.toNat (0, 0, 0)).1))) ((a0.getD t14.toNat (0, 0, 0)).1) ((getM (setM t3s ((a0.getD t14.toNat (0, 0, 0)).1) (getM t3s ((a0.getD t14.toNat (0, 0, 0)).1))) ((a0.getD t14.toNat (0, 0, 0)).1)) ++ [((a0.getD t14.toNat (0, 0, 0)).1, (a0.getD t14.toNat (0, 0, 0)).2.1, (a0.getD t14.toNat (0, 0, 0)).2.2)])) none none, .row true (.ints .i64 t4s_2), .box [.v (.int .i64 ((a0.getD t14.toNat (0, 0, 0)).1)), .v (.int .i64 ((a0.getD t14.toNat (0, 0, 0)).2.1)), .v (.int .i64 ((a0.getD t14.toNat (0, 0, 0)).2.2))], .view 1 (.trips ((getM (setM t3s ((a0.getD t14.toNat (0, 0, 0)).1) (getM t3s ((a0.getD t14.toNat (0, 0, 0)).1))) ((a0.getD t14.toNat (0, 0, 0)).1)) ++ [((a0.getD t14.toNat (0, 0, 0)).1, (a0.getD t14.toNat (0, 0, 0)).2.1, (a0.getD t14.toNat (0, 0, 0)).2.2)])), .row true (.trips [((a0.getD t14.toNat (0, 0, 0)).1, (a0.getD t14.toNat (0, 0, 0)).2.1, (a0.getD t14.toNat (0, 0, 0)).2.2)])] ?_ ?_
        · clear h
          intro K hK
          refine awp_drawL [0, 1, 2, 3] [0, 1, 3, 4] 7 #[true, true, false, true, true, false, false, false, false, false, false] mixed ftCOk (by kernel_rfl) (by first | rfl | kernel_rfl) (by rfl) (by simp) fun L hL => ?_
          have n7 : L 0 #[true, true, true, true, true, true, true, true, true, true, true] [(0, .sl 0), (3, .sl 1), (4, .sl 2), (6, .pp 3 0), (12, .sl 0), (13, .v (.int .i64 (a0.length : Int))), (14, .v (.int .i64 t14)), (29, .sl 1), (30, .pp 3 0), (31, .v (.int .i64 ((a0.getD t14.toNat (0, 0, 0)).1))), (32, .sl 1), (33, .pp 3 0), (34, .v (.int .i64 ((a0.getD t14.toNat (0, 0, 0)).1))), (36, .agg [.v (.int .i64 ((a0.getD t14.toNat (0, 0, 0)).1)), .v (.int .i64 ((a0.getD t14.toNat (0, 0, 0)).2.1)), .v (.int .i64 ((a0.getD t14.toNat (0, 0, 0)).2.2))]), (37, .sl 5), (38, .sl 4)] [.row false (.trips a0), .mp (upsM (setM t3s ((a0.getD t14.toNat (0, 0, 0)).1) (getM t3s ((a0.getD t14.toNat (0, 0, 0)).1))) ((a0.getD t14.toNat (0, 0, 0)).1) ((getM (setM t3s ((a0.getD t14.toNat (0, 0, 0)).1) (getM t3s ((a0.getD t14.toNat (0, 0, 0)).1))) ((a0.getD t14.toNat (0, 0, 0)).1)) ++ [((a0.getD t14.toNat (0, 0, 0)).1, (a0.getD t14.toNat (0, 0, 0)).2.1, (a0.getD t14.toNat (0, 0, 0)).2.2)])) none none, .row true (.ints .i64 t4s_2), .box [.v (.int .i64 ((a0.getD t14.toNat (0, 0, 0)).1)), .v (.int .i64 ((a0.getD t14.toNat (0, 0, 0)).2.1)), .v (.int .i64 ((a0.getD t14.toNat (0, 0, 0)).2.2))], .view 1 (.trips ((getM (setM t3s ((a0.getD t14.toNat (0, 0, 0)).1) (getM t3s ((a0.getD t14.toNat (0, 0, 0)).1))) ((a0.getD t14.toNat (0, 0, 0)).1)) ++ [((a0.getD t14.toNat (0, 0, 0)).1, (a0.getD t14.toNat (0, 0, 0)).2.1, (a0.getD t14.toNat (0, 0, 0)).2.2)])), .row true (.trips [((a0.getD t14.toNat (0, 0, 0)).1, (a0.getD t14.toNat (0, 0, 0)).2.1, (a0.getD t14.toNat (0, 0, 0)).2.2)])] := by
            exact hL.fin (by kernel_rfl) (hK _ _ Red.auto)
          have n6 : L 1 #[true, true, true, true, true, true, true, true, true, true, false] [(0, .sl 0), (3, .sl 1), (4, .sl 2), (6, .pp 3 0), (12, .sl 0), (13, .v (.int .i64 (a0.length : Int))), (14, .v (.int .i64 t14)), (29, .sl 1), (30, .pp 3 0), (31, .v (.int .i64 ((a0.getD t14.toNat (0, 0, 0)).1))), (32, .sl 1), (33, .pp 3 0), (34, .v (.int .i64 ((a0.getD t14.toNat (0, 0, 0)).1))), (36, .agg [.v (.int .i64 ((a0.getD t14.toNat (0, 0, 0)).1)), .v (.int .i64 ((a0.getD t14.toNat (0, 0, 0)).2.1)), .v (.int .i64 ((a0.getD t14.toNat (0, 0, 0)).2.2))]), (37, .sl 5), (38, .sl 4)] [.row false (.trips a0), .mp (setM t3s ((a0.getD t14.toNat (0, 0, 0)).1) (getM t3s ((a0.getD t14.toNat (0, 0, 0)).1))) (some ((a0.getD t14.toNat (0, 0, 0)).1)) none, .row true (.ints .i64 t4s_2), .box [.v (.int .i64 ((a0.getD t14.toNat (0, 0, 0)).1)), .v (.int .i64 ((a0.getD t14.toNat (0, 0, 0)).2.1)), .v (.int .i64 ((a0.getD t14.toNat (0, 0, 0)).2.2))], .row true (.trips ((getM (setM t3s ((a0.getD t14.toNat (0, 0, 0)).1) (getM t3s ((a0.getD t14.toNat (0, 0, 0)).1))) ((a0.getD t14.toNat (0, 0, 0)).1)) ++ [((a0.getD t14.toNat (0, 0, 0)).1, (a0.getD t14.toNat (0, 0, 0)).2.1, (a0.getD t14.toNat (0, 0, 0)).2.2)])), .row true (.trips [((a0.getD t14.toNat (0, 0, 0)).1, (a0.getD t14.toNat (0, 0, 0)).2.1, (a0.getD t14.toNat (0, 0, 0)).2.2)])] := by
            refine hL.step [(10, [], 0, #[true, true, true, true, true, true, true, true, true, true, true])] (by kernel_rfl) ⟨?_, trivial⟩
            · exact hL.edge n7
          have n5 : L 2 #[true, true, true, true, true, true, true, true, true, false, false] [(0, .sl 0), (3, .sl 1), (4, .sl 2), (6, .pp 3 0), (12, .sl 0), (13, .v (.int .i64 (a0.length : Int))), (14, .v (.int .i64 t14)), (29, .sl 1), (30, .pp 3 0), (31, .v (.int .i64 ((a0.getD t14.toNat (0, 0, 0)).1))), (32, .sl 1), (33, .pp 3 0), (34, .v (.int .i64 ((a0.getD t14.toNat (0, 0, 0)).1))), (35, .sl 4), (36, .agg [.v (.int .i64 ((a0.getD t14.toNat (0, 0, 0)).1)), .v (.int .i64 ((a0.getD t14.toNat (0, 0, 0)).2.1)), .v (.int .i64 ((a0.getD t14.toNat (0, 0, 0)).2.2))]), (37, .sl 5)] [.row false (.trips a0), .mp (setM t3s ((a0.getD t14.toNat (0, 0, 0)).1) (getM t3s ((a0.getD t14.toNat (0, 0, 0)).1))) (some ((a0.getD t14.toNat (0, 0, 0)).1)) (some 4), .row true (.ints .i64 t4s_2), .box [.v (.int .i64 ((a0.getD t14.toNat (0, 0, 0)).1)), .v (.int .i64 ((a0.getD t14.toNat (0, 0, 0)).2.1)), .v (.int .i64 ((a0.getD t14.toNat (0, 0, 0)).2.2))], .row true (.trips (getM (setM t3s ((a0.getD t14.toNat (0, 0, 0)).1) (getM t3s ((a0.getD t14.toNat (0, 0, 0)).1))) ((a0.getD t14.toNat (0, 0, 0)).1))), .row true (.trips [((a0.getD t14.toNat (0, 0, 0)).1, (a0.getD t14.toNat (0, 0, 0)).2.1, (a0.getD t14.toNat (0, 0, 0)).2.2)])] := by
            refine hL.step [(9, [], 1, #[true, true, true, true, true, true, true, true, true, true, false])] (by kernel_rfl) ⟨?_, trivial⟩
            · exact hL.edge n6
          have n4 : L 3 #[true, true, true, true, true, true, true, true, false, false, false] [(0, .sl 0), (3, .sl 1), (4, .sl 2), (6, .pp 3 0), (12, .sl 0), (13, .v (.int .i64 (a0.length : Int))), (14, .v (.int .i64 t14)), (29, .sl 1), (30, .pp 3 0), (31, .v (.int .i64 ((a0.getD t14.toNat (0, 0, 0)).1))), (32, .sl 1), (33, .pp 3 0), (34, .v (.int .i64 ((a0.getD t14.toNat (0, 0, 0)).1))), (35, .sl 4), (36, .agg [.v (.int .i64 ((a0.getD t14.toNat (0, 0, 0)).1)), .v (.int .i64 ((a0.getD t14.toNat (0, 0, 0)).2.1)), .v (.int .i64 ((a0.getD t14.toNat (0, 0, 0)).2.2))])] [.row false (.trips a0), .mp (setM t3s ((a0.getD t14.toNat (0, 0, 0)).1) (getM t3s ((a0.getD t14.toNat (0, 0, 0)).1))) (some ((a0.getD t14.toNat (0, 0, 0)).1)) (some 4), .row true (.ints .i64 t4s_2), .box [.v (.int .i64 ((a0.getD t14.toNat (0, 0, 0)).1)), .v (.int .i64 ((a0.getD t14.toNat (0, 0, 0)).2.1)), .v (.int .i64 ((a0.getD t14.toNat (0, 0, 0)).2.2))], .row true (.trips (getM (setM t3s ((a0.getD t14.toNat (0, 0, 0)).1) (getM t3s ((a0.getD t14.toNat (0, 0, 0)).1))) ((a0.getD t14.toNat (0, 0, 0)).1)))] := by
            refine hL.step [(8, [], 2, #[true, true, true, true, true, true, true, true, true, false, false])] (by kernel_rfl) ⟨?_, trivial⟩
            · exact hL.edge n5
          have n3 : L 4 #[true, true, true, true, true, true, true, false, false, false, false] [(0, .sl 0), (3, .sl 1), (4, .sl 2), (6, .pp 3 0), (12, .sl 0), (13, .v (.int .i64 (a0.length : Int))), (14, .v (.int .i64 t14)), (29, .sl 1), (30, .pp 3 0), (31, .v (.int .i64 ((a0.getD t14.toNat (0, 0, 0)).1))), (32, .sl 1), (33, .pp 3 0), (34, .v (.int .i64 ((a0.getD t14.toNat (0, 0, 0)).1))), (35, .sl 4)] [.row false (.trips a0), .mp (setM t3s ((a0.getD t14.toNat (0, 0, 0)).1) (getM t3s ((a0.getD t14.toNat (0, 0, 0)).1))) (some ((a0.getD t14.toNat (0, 0, 0)).1)) (some 4), .row true (.ints .i64 t4s_2), .box [.v (.int .i64 ((a0.getD t14.toNat (0, 0, 0)).1)), .v (.int .i64 ((a0.getD t14.toNat (0, 0, 0)).2.1)), .v (.int .i64 ((a0.getD t14.toNat (0, 0, 0)).2.2))], .row true (.trips (getM (setM t3s ((a0.getD t14.toNat (0, 0, 0)).1) (getM t3s ((a0.getD t14.toNat (0, 0, 0)).1))) ((a0.getD t14.toNat (0, 0, 0)).1)))] := by
            refine hL.step [(7, [], 3, #[true, true, true, true, true, true, true, true, false, false, false])] (by kernel_rfl) ⟨?_, trivial⟩
            · exact hL.edge n4
          have n9 : L 3 #[true, true, true, true, true, true, false, true, true, false, false] [(0, .sl 0), (3, .sl 1), (4, .sl 2), (6, .pp 3 0), (12, .sl 0), (13, .v (.int .i64 (a0.length : Int))), (14, .v (.int .i64 t14)), (29, .sl 1), (30, .pp 3 0), (31, .v (.int .i64 ((a0.getD t14.toNat (0, 0, 0)).1))), (32, .sl 1), (33, .pp 3 0), (34, .v (.int .i64 ((a0.getD t14.toNat (0, 0, 0)).1))), (36, .agg [.v (.int .i64 ((a0.getD t14.toNat (0, 0, 0)).1)), .v (.int .i64 ((a0.getD t14.toNat (0, 0, 0)).2.1)), .v (.int .i64 ((a0.getD t14.toNat (0, 0, 0)).2.2))]), (37, .sl 5)] [.row false (.trips a0), .mp (setM t3s ((a0.getD t14.toNat (0, 0, 0)).1) (getM t3s ((a0.getD t14.toNat (0, 0, 0)).1))) (some ((a0.getD t14.toNat (0, 0, 0)).1)) (some 4), .row true (.ints .i64 t4s_2), .box [.v (.int .i64 ((a0.getD t14.toNat (0, 0, 0)).1)), .v (.int .i64 ((a0.getD t14.toNat (0, 0, 0)).2.1)), .v (.int .i64 ((a0.getD t14.toNat (0, 0, 0)).2.2))], .row true (.trips (getM (setM t3s ((a0.getD t14.toNat (0, 0, 0)).1) (getM t3s ((a0.getD t14.toNat (0, 0, 0)).1))) ((a0.getD t14.toNat (0, 0, 0)).1))), .row true (.trips [((a0.getD t14.toNat (0, 0, 0)).1, (a0.getD t14.toNat (0, 0, 0)).2.1, (a0.getD t14.toNat (0, 0, 0)).2.2)])] := by
            refine hL.step [(6, [], 2, #[true, true, true, true, true, true, true, true, true, false, false])] (by kernel_rfl) ⟨?_, trivial⟩
            · exact hL.edge n5
          have n8 : L 4 #[true, true, true, true, true, true, false, true, false, false, false] [(0, .sl 0), (3, .sl 1), (4, .sl 2), (6, .pp 3 0), (12, .sl 0), (13, .v (.int .i64 (a0.length : Int))), (14, .v (.int .i64 t14)), (29, .sl 1), (30, .pp 3 0), (31, .v (.int .i64 ((a0.getD t14.toNat (0, 0, 0)).1))), (32, .sl 1), (33, .pp 3 0), (34, .v (.int .i64 ((a0.getD t14.toNat (0, 0, 0)).1))), (36, .agg [.v (.int .i64 ((a0.getD t14.toNat (0, 0, 0)).1)), .v (.int .i64 ((a0.getD t14.toNat (0, 0, 0)).2.1)), .v (.int .i64 ((a0.getD t14.toNat (0, 0, 0)).2.2))])] [.row false (.trips a0), .mp (setM t3s ((a0.getD t14.toNat (0, 0, 0)).1) (getM t3s ((a0.getD t14.toNat (0, 0, 0)).1))) (some ((a0.getD t14.toNat (0, 0, 0)).1)) (some 4), .row true (.ints .i64 t4s_2), .box [.v (.int .i64 ((a0.getD t14.toNat (0, 0, 0)).1)), .v (.int .i64 ((a0.getD t14.toNat (0, 0, 0)).2.1)), .v (.int .i64 ((a0.getD t14.toNat (0, 0, 0)).2.2))], .row true (.trips (getM (setM t3s ((a0.getD t14.toNat (0, 0, 0)).1) (getM t3s ((a0.getD t14.toNat (0, 0, 0)).1))) ((a0.getD t14.toNat (0, 0, 0)).1)))] := by
            refine hL.step [(6, [], 3, #[true, true, true, true, true, true, true, true, false, false, false]), (8, [], 3, #[true, true, true, true, true, true, false, true, true, false, false])] (by kernel_rfl) ⟨?_, ?_, trivial⟩
            · exact hL.edge n4
            · exact hL.edge n9
          have n2 : L 5 #[true, true, true, true, true, true, false, false, false, false, false] [(0, .sl 0), (3, .sl 1), (4, .sl 2), (6, .pp 3 0), (12, .sl 0), (13, .v (.int .i64 (a0.length : Int))), (14, .v (.int .i64 t14)), (29, .sl 1), (30, .pp 3 0), (31, .v (.int .i64 ((a0.getD t14.toNat (0, 0, 0)).1))), (32, .sl 1), (33, .pp 3 0), (34, .v (.int .i64 ((a0.getD t14.toNat (0, 0, 0)).1)))] [.row false (.trips a0), .mp (setM t3s ((a0.getD t14.toNat (0, 0, 0)).1) (getM t3s ((a0.getD t14.toNat (0, 0, 0)).1))) (some ((a0.getD t14.toNat (0, 0, 0)).1)) (some 4), .row true (.ints .i64 t4s_2), .box [.v (.int .i64 ((a0.getD t14.toNat (0, 0, 0)).1)), .v (.int .i64 ((a0.getD t14.toNat (0, 0, 0)).2.1)), .v (.int .i64 ((a0.getD t14.toNat (0, 0, 0)).2.2))], .row true (.trips (getM (setM t3s ((a0.getD t14.toNat (0, 0, 0)).1) (getM t3s ((a0.getD t14.toNat (0, 0, 0)).1))) ((a0.getD t14.toNat (0, 0, 0)).1)))] := by
            refine hL.step [(6, [], 4, #[true, true, true, true, true, true, true, false, false, false, false]), (7, [], 4, #[true, true, true, true, true, true, false, true, false, false, false])] (by kernel_rfl) ⟨?_, ?_, trivial⟩
            · exact hL.edge n3
            · exact hL.edge n8
          have n11 : L 4 #[true, true, true, true, true, false, false, true, true, false, false] [(0, .sl 0), (3, .sl 1), (4, .sl 2), (6, .pp 3 0), (12, .sl 0), (13, .v (.int .i64 (a0.length : Int))), (14, .v (.int .i64 t14)), (29, .sl 1), (30, .pp 3 0), (31, .v (.int .i64 ((a0.getD t14.toNat (0, 0, 0)).1))), (32, .sl 1), (33, .pp 3 0), (36, .agg [.v (.int .i64 ((a0.getD t14.toNat (0, 0, 0)).1)), .v (.int .i64 ((a0.getD t14.toNat (0, 0, 0)).2.1)), .v (.int .i64 ((a0.getD t14.toNat (0, 0, 0)).2.2))]), (37, .sl 5)] [.row false (.trips a0), .mp (setM t3s ((a0.getD t14.toNat (0, 0, 0)).1) (getM t3s ((a0.getD t14.toNat (0, 0, 0)).1))) (some ((a0.getD t14.toNat (0, 0, 0)).1)) (some 4), .row true (.ints .i64 t4s_2), .box [.v (.int .i64 ((a0.getD t14.toNat (0, 0, 0)).1)), .v (.int .i64 ((a0.getD t14.toNat (0, 0, 0)).2.1)), .v (.int .i64 ((a0.getD t14.toNat (0, 0, 0)).2.2))], .row true (.trips (getM (setM t3s ((a0.getD t14.toNat (0, 0, 0)).1) (getM t3s ((a0.getD t14.toNat (0, 0, 0)).1))) ((a0.getD t14.toNat (0, 0, 0)).1))), .row true (.trips [((a0.getD t14.toNat (0, 0, 0)).1, (a0.getD t14.toNat (0, 0, 0)).2.1, (a0.getD t14.toNat (0, 0, 0)).2.2)])] := by
            refine hL.step [(5, [], 3, #[true, true, true, true, true, true, false, true, true, false, false])] (by kernel_rfl) ⟨?_, trivial⟩
            · exact hL.edge n9
          have n10 : L 5 #[true, true, true, true, true, false, false, true, false, false, false] [(0, .sl 0), (3, .sl 1), (4, .sl 2), (6, .pp 3 0), (12, .sl 0), (13, .v (.int .i64 (a0.length : Int))), (14, .v (.int .i64 t14)), (29, .sl 1), (30, .pp 3 0), (31, .v (.int .i64 ((a0.getD t14.toNat (0, 0, 0)).1))), (32, .sl 1), (33, .pp 3 0), (36, .agg [.v (.int .i64 ((a0.getD t14.toNat (0, 0, 0)).1)), .v (.int .i64 ((a0.getD t14.toNat (0, 0, 0)).2.1)), .v (.int .i64 ((a0.getD t14.toNat (0, 0, 0)).2.2))])] [.row false (.trips a0), .mp (setM t3s ((a0.getD t14.toNat (0, 0, 0)).1) (getM t3s ((a0.getD t14.toNat (0, 0, 0)).1))) (some ((a0.getD t14.toNat (0, 0, 0)).1)) (some 4), .row true (.ints .i64 t4s_2), .box [.v (.int .i64 ((a0.getD t14.toNat (0, 0, 0)).1)), .v (.int .i64 ((a0.getD t14.toNat (0, 0, 0)).2.1)), .v (.int .i64 ((a0.getD t14.toNat (0, 0, 0)).2.2))], .row true (.trips (getM (setM t3s ((a0.getD t14.toNat (0, 0, 0)).1) (getM t3s ((a0.getD t14.toNat (0, 0, 0)).1))) ((a0.getD t14.toNat (0, 0, 0)).1)))] := by
            refine hL.step [(5, [], 4, #[true, true, true, true, true, true, false, true, false, false, false]), (8, [], 4, #[true, true, true, true, true, false, false, true, true, false, false])] (by kernel_rfl) ⟨?_, ?_, trivial⟩
            · exact hL.edge n8
            · exact hL.edge n11
          have n1 : L 6 #[true, true, true, true, true, false, false, false, false, false, false] [(0, .sl 0), (3, .sl 1), (4, .sl 2), (6, .pp 3 0), (12, .sl 0), (13, .v (.int .i64 (a0.length : Int))), (14, .v (.int .i64 t14)), (29, .sl 1), (30, .pp 3 0), (31, .v (.int .i64 ((a0.getD t14.toNat (0, 0, 0)).1))), (32, .sl 1), (33, .pp 3 0)] [.row false (.trips a0), .mp (setM t3s ((a0.getD t14.toNat (0, 0, 0)).1) (getM t3s ((a0.getD t14.toNat (0, 0, 0)).1))) (some ((a0.getD t14.toNat (0, 0, 0)).1)) (some 4), .row true (.ints .i64 t4s_2), .box [.v (.int .i64 ((a0.getD t14.toNat (0, 0, 0)).1)), .v (.int .i64 ((a0.getD t14.toNat (0, 0, 0)).2.1)), .v (.int .i64 ((a0.getD t14.toNat (0, 0, 0)).2.2))], .row true (.trips (getM (setM t3s ((a0.getD t14.toNat (0, 0, 0)).1) (getM t3s ((a0.getD t14.toNat (0, 0, 0)).1))) ((a0.getD t14.toNat (0, 0, 0)).1)))] := by
            refine hL.step [(5, [], 5, #[true, true, true, true, true, true, false, false, false, false, false]), (7, [], 5, #[true, true, true, true, true, false, false, true, false, false, false])] (by kernel_rfl) ⟨?_, ?_, trivial⟩
            · exact hL.edge n2
            · exact hL.edge n10
          have n16 : L 2 #[true, true, false, true, true, true, true, true, true, true, false] [(0, .sl 0), (3, .sl 1), (4, .sl 2), (6, .pp 3 0), (12, .sl 0), (13, .v (.int .i64 (a0.length : Int))), (14, .v (.int .i64 t14)), (29, .sl 1), (30, .pp 3 0), (32, .sl 1), (33, .pp 3 0), (34, .v (.int .i64 ((a0.getD t14.toNat (0, 0, 0)).1))), (36, .agg [.v (.int .i64 ((a0.getD t14.toNat (0, 0, 0)).1)), .v (.int .i64 ((a0.getD t14.toNat (0, 0, 0)).2.1)), .v (.int .i64 ((a0.getD t14.toNat (0, 0, 0)).2.2))]), (37, .sl 5), (38, .sl 4)] [.row false (.trips a0), .mp (setM t3s ((a0.getD t14.toNat (0, 0, 0)).1) (getM t3s ((a0.getD t14.toNat (0, 0, 0)).1))) (some ((a0.getD t14.toNat (0, 0, 0)).1)) none, .row true (.ints .i64 t4s_2), .box [.v (.int .i64 ((a0.getD t14.toNat (0, 0, 0)).1)), .v (.int .i64 ((a0.getD t14.toNat (0, 0, 0)).2.1)), .v (.int .i64 ((a0.getD t14.toNat (0, 0, 0)).2.2))], .row true (.trips ((getM (setM t3s ((a0.getD t14.toNat (0, 0, 0)).1) (getM t3s ((a0.getD t14.toNat (0, 0, 0)).1))) ((a0.getD t14.toNat (0, 0, 0)).1)) ++ [((a0.getD t14.toNat (0, 0, 0)).1, (a0.getD t14.toNat (0, 0, 0)).2.1, (a0.getD t14.toNat (0, 0, 0)).2.2)])), .row true (.trips [((a0.getD t14.toNat (0, 0, 0)).1, (a0.getD t14.toNat (0, 0, 0)).2.1, (a0.getD t14.toNat (0, 0, 0)).2.2)])] := by
            refine hL.step [(2, [], 1, #[true, true, true, true, true, true, true, true, true, true, false])] (by kernel_rfl) ⟨?_, trivial⟩
            · exact hL.edge n6
          have n15 : L 3 #[true, true, false, true, true, true, true, true, true, false, false] [(0, .sl 0), (3, .sl 1), (4, .sl 2), (6, .pp 3 0), (12, .sl 0), (13, .v (.int .i64 (a0.length : Int))), (14, .v (.int .i64 t14)), (29, .sl 1), (30, .pp 3 0), (32, .sl 1), (33, .pp 3 0), (34, .v (.int .i64 ((a0.getD t14.toNat (0, 0, 0)).1))), (35, .sl 4), (36, .agg [.v (.int .i64 ((a0.getD t14.toNat (0, 0, 0)).1)), .v (.int .i64 ((a0.getD t14.toNat (0, 0, 0)).2.1)), .v (.int .i64 ((a0.getD t14.toNat (0, 0, 0)).2.2))]), (37, .sl 5)] [.row false (.trips a0), .mp (setM t3s ((a0.getD t14.toNat (0, 0, 0)).1) (getM t3s ((a0.getD t14.toNat (0, 0, 0)).1))) (some ((a0.getD t14.toNat (0, 0, 0)).1)) (some 4), .row true (.ints .i64 t4s_2), .box [.v (.int .i64 ((a0.getD t14.toNat (0, 0, 0)).1)), .v (.int .i64 ((a0.getD t14.toNat (0, 0, 0)).2.1)), .v (.int .i64 ((a0.getD t14.toNat (0, 0, 0)).2.2))], .row true (.trips (getM (setM t3s ((a0.getD t14.toNat (0, 0, 0)).1) (getM t3s ((a0.getD t14.toNat (0, 0, 0)).1))) ((a0.getD t14.toNat (0, 0, 0)).1))), .row true (.trips [((a0.getD t14.toNat (0, 0, 0)).1, (a0.getD t14.toNat (0, 0, 0)).2.1, (a0.getD t14.toNat (0, 0, 0)).2.2)])] := by
            refine hL.step [(2, [], 2, #[true, true, true, true, true, true, true, true, true, false, false]), (9, [], 2, #[true, true, false, true, true, true, true, true, true, true, false])] (by kernel_rfl) ⟨?_, ?_, trivial⟩
            · exact hL.edge n5
            · exact hL.edge n16
          have n14 : L 4 #[true, true, false, true, true, true, true, true, false, false, false] [(0, .sl 0), (3, .sl 1), (4, .sl 2), (6, .pp 3 0), (12, .sl 0), (13, .v (.int .i64 (a0.length : Int))), (14, .v (.int .i64 t14)), (29, .sl 1), (30, .pp 3 0), (32, .sl 1), (33, .pp 3 0), (34, .v (.int .i64 ((a0.getD t14.toNat (0, 0, 0)).1))), (35, .sl 4), (36, .agg [.v (.int .i64 ((a0.getD t14.toNat (0, 0, 0)).1)), .v (.int .i64 ((a0.getD t14.toNat (0, 0, 0)).2.1)), .v (.int .i64 ((a0.getD t14.toNat (0, 0, 0)).2.2))])] [.row false (.trips a0), .mp (setM t3s ((a0.getD t14.toNat (0, 0, 0)).1) (getM t3s ((a0.getD t14.toNat (0, 0, 0)).1))) (some ((a0.getD t14.toNat (0, 0, 0)).1)) (some 4), .row true (.ints .i64 t4s_2), .box [.v (.int .i64 ((a0.getD t14.toNat (0, 0, 0)).1)), .v (.int .i64 ((a0.getD t14.toNat (0, 0, 0)).2.1)), .v (.int .i64 ((a0.getD t14.toNat (0, 0, 0)).2.2))], .row true (.trips (getM (setM t3s ((a0.getD t14.toNat (0, 0, 0)).1) (getM t3s ((a0.getD t14.toNat (0, 0, 0)).1))) ((a0.getD t14.toNat (0, 0, 0)).1)))] := by
            refine hL.step [(2, [], 3, #[true, true, true, true, true, true, true, true, false, false, false]), (8, [], 3, #[true, true, false, true, true, true, true, true, true, false, false])] (by kernel_rfl) ⟨?_, ?_, trivial⟩
            · exact hL.edge n4
            · exact hL.edge n15
          have n13 : L 5 #[true, true, false, true, true, true, true, false, false, false, false] [(0, .sl 0), (3, .sl 1), (4, .sl 2), (6, .pp 3 0), (12, .sl 0), (13, .v (.int .i64 (a0.length : Int))), (14, .v (.int .i64 t14)), (29, .sl 1), (30, .pp 3 0), (32, .sl 1), (33, .pp 3 0), (34, .v (.int .i64 ((a0.getD t14.toNat (0, 0, 0)).1))), (35, .sl 4)] [.row false (.trips a0), .mp (setM t3s ((a0.getD t14.toNat (0, 0, 0)).1) (getM t3s ((a0.getD t14.toNat (0, 0, 0)).1))) (some ((a0.getD t14.toNat (0, 0, 0)).1)) (some 4), .row true (.ints .i64 t4s_2), .box [.v (.int .i64 ((a0.getD t14.toNat (0, 0, 0)).1)), .v (.int .i64 ((a0.getD t14.toNat (0, 0, 0)).2.1)), .v (.int .i64 ((a0.getD t14.toNat (0, 0, 0)).2.2))], .row true (.trips (getM (setM t3s ((a0.getD t14.toNat (0, 0, 0)).1) (getM t3s ((a0.getD t14.toNat (0, 0, 0)).1))) ((a0.getD t14.toNat (0, 0, 0)).1)))] := by
            refine hL.step [(2, [], 4, #[true, true, true, true, true, true, true, false, false, false, false]), (7, [], 4, #[true, true, false, true, true, true, true, true, false, false, false])] (by kernel_rfl) ⟨?_, ?_, trivial⟩
            · exact hL.edge n3
            · exact hL.edge n14
          have n18 : L 4 #[true, true, false, true, true, true, false, true, true, false, false] [(0, .sl 0), (3, .sl 1), (4, .sl 2), (6, .pp 3 0), (12, .sl 0), (13, .v (.int .i64 (a0.length : Int))), (14, .v (.int .i64 t14)), (29, .sl 1), (30, .pp 3 0), (32, .sl 1), (33, .pp 3 0), (34, .v (.int .i64 ((a0.getD t14.toNat (0, 0, 0)).1))), (36, .agg [.v (.int .i64 ((a0.getD t14.toNat (0, 0, 0)).1)), .v (.int .i64 ((a0.getD t14.toNat (0, 0, 0)).2.1)), .v (.int .i64 ((a0.getD t14.toNat (0, 0, 0)).2.2))]), (37, .sl 5)] [.row false (.trips a0), .mp (setM t3s ((a0.getD t14.toNat (0, 0, 0)).1) (getM t3s ((a0.getD t14.toNat (0, 0, 0)).1))) (some ((a0.getD t14.toNat (0, 0, 0)).1)) (some 4), .row true (.ints .i64 t4s_2), .box [.v (.int .i64 ((a0.getD t14.toNat (0, 0, 0)).1)), .v (.int .i64 ((a0.getD t14.toNat (0, 0, 0)).2.1)), .v (.int .i64 ((a0.getD t14.toNat (0, 0, 0)).2.2))], .row true (.trips (getM (setM t3s ((a0.getD t14.toNat (0, 0, 0)).1) (getM t3s ((a0.getD t14.toNat (0, 0, 0)).1))) ((a0.getD t14.toNat (0, 0, 0)).1))), .row true (.trips [((a0.getD t14.toNat (0, 0, 0)).1, (a0.getD t14.toNat (0, 0, 0)).2.1, (a0.getD t14.toNat (0, 0, 0)).2.2)])] := by
            refine hL.step [(2, [], 3, #[true, true, true, true, true, true, false, true, true, false, false]), (6, [], 3, #[true, true, false, true, true, true, true, true, true, false, false])] (by kernel_rfl) ⟨?_, ?_, trivial⟩
            · exact hL.edge n9
            · exact hL.edge n15
          have n17 : L 5 #[true, true, false, true, true, true, false, true, false, false, false] [(0, .sl 0), (3, .sl 1), (4, .sl 2), (6, .pp 3 0), (12, .sl 0), (13, .v (.int .i64 (a0.length : Int))), (14, .v (.int .i64 t14)), (29, .sl 1), (30, .pp 3 0), (32, .sl 1), (33, .pp 3 0), (34, .v (.int .i64 ((a0.getD t14.toNat (0, 0, 0)).1))), (36, .agg [.v (.int .i64 ((a0.getD t14.toNat (0, 0, 0)).1)), .v (.int .i64 ((a0.getD t14.toNat (0, 0, 0)).2.1)), .v (.int .i64 ((a0.getD t14.toNat (0, 0, 0)).2.2))])] [.row false (.trips a0), .mp (setM t3s ((a0.getD t14.toNat (0, 0, 0)).1) (getM t3s ((a0.getD t14.toNat (0, 0, 0)).1))) (some ((a0.getD t14.toNat (0, 0, 0)).1)) (some 4), .row true (.ints .i64 t4s_2), .box [.v (.int .i64 ((a0.getD t14.toNat (0, 0, 0)).1)), .v (.int .i64 ((a0.getD t14.toNat (0, 0, 0)).2.1)), .v (.int .i64 ((a0.getD t14.toNat (0, 0, 0)).2.2))], .row true (.trips (getM (setM t3s ((a0.getD t14.toNat (0, 0, 0)).1) (getM t3s ((a0.getD t14.toNat (0, 0, 0)).1))) ((a0.getD t14.toNat (0, 0, 0)).1)))] := by
            refine hL.step [(2, [], 4, #[true, true, true, true, true, true, false, true, false, false, false]), (6, [], 4, #[true, true, false, true, true, true, true, true, false, false, false]), (8, [], 4, #[true, true, false, true, true, true, false, true, true, false, false])] (by kernel_rfl) ⟨?_, ?_, ?_, trivial⟩
            · exact hL.edge n8
            · exact hL.edge n14
            · exact hL.edge n18
          have n12 : L 6 #[true, true, false, true, true, true, false, false, false, false, false] [(0, .sl 0), (3, .sl 1), (4, .sl 2), (6, .pp 3 0), (12, .sl 0), (13, .v (.int .i64 (a0.length : Int))), (14, .v (.int .i64 t14)), (29, .sl 1), (30, .pp 3 0), (32, .sl 1), (33, .pp 3 0), (34, .v (.int .i64 ((a0.getD t14.toNat (0, 0, 0)).1)))] [.row false (.trips a0), .mp (setM t3s ((a0.getD t14.toNat (0, 0, 0)).1) (getM t3s ((a0.getD t14.toNat (0, 0, 0)).1))) (some ((a0.getD t14.toNat (0, 0, 0)).1)) (some 4), .row true (.ints .i64 t4s_2), .box [.v (.int .i64 ((a0.getD t14.toNat (0, 0, 0)).1)), .v (.int .i64 ((a0.getD t14.toNat (0, 0, 0)).2.1)), .v (.int .i64 ((a0.getD t14.toNat (0, 0, 0)).2.2))], .row true (.trips (getM (setM t3s ((a0.getD t14.toNat (0, 0, 0)).1) (getM t3s ((a0.getD t14.toNat (0, 0, 0)).1))) ((a0.getD t14.toNat (0, 0, 0)).1)))] := by
            refine hL.step [(2, [], 5, #[true, true, true, true, true, true, false, false, false, false, false]), (6, [], 5, #[true, true, false, true, true, true, true, false, false, false, false]), (7, [], 5, #[true, true, false, true, true, true, false, true, false, false, false])] (by kernel_rfl) ⟨?_, ?_, ?_, trivial⟩
            · exact hL.edge n2
            · exact hL.edge n13
            · exact hL.edge n17
          have n20 : L 5 #[true, true, false, true, true, false, false, true, true, false, false] [(0, .sl 0), (3, .sl 1), (4, .sl 2), (6, .pp 3 0), (12, .sl 0), (13, .v (.int .i64 (a0.length : Int))), (14, .v (.int .i64 t14)), (29, .sl 1), (30, .pp 3 0), (32, .sl 1), (33, .pp 3 0), (36, .agg [.v (.int .i64 ((a0.getD t14.toNat (0, 0, 0)).1)), .v (.int .i64 ((a0.getD t14.toNat (0, 0, 0)).2.1)), .v (.int .i64 ((a0.getD t14.toNat (0, 0, 0)).2.2))]), (37, .sl 5)] [.row false (.trips a0), .mp (setM t3s ((a0.getD t14.toNat (0, 0, 0)).1) (getM t3s ((a0.getD t14.toNat (0, 0, 0)).1))) (some ((a0.getD t14.toNat (0, 0, 0)).1)) (some 4), .row true (.ints .i64 t4s_2), .box [.v (.int .i64 ((a0.getD t14.toNat (0, 0, 0)).1)), .v (.int .i64 ((a0.getD t14.toNat (0, 0, 0)).2.1)), .v (.int .i64 ((a0.getD t14.toNat (0, 0, 0)).2.2))], .row true (.trips (getM (setM t3s ((a0.getD t14.toNat (0, 0, 0)).1) (getM t3s ((a0.getD t14.toNat (0, 0, 0)).1))) ((a0.getD t14.toNat (0, 0, 0)).1))), .row true (.trips [((a0.getD t14.toNat (0, 0, 0)).1, (a0.getD t14.toNat (0, 0, 0)).2.1, (a0.getD t14.toNat (0, 0, 0)).2.2)])] := by
            refine hL.step [(2, [], 4, #[true, true, true, true, true, false, false, true, true, false, false]), (5, [], 4, #[true, true, false, true, true, true, false, true, true, false, false])] (by kernel_rfl) ⟨?_, ?_, trivial⟩
            · exact hL.edge n11
            · exact hL.edge n18
          have n19 : L 6 #[true, true, false, true, true, false, false, true, false, false, false] [(0, .sl 0), (3, .sl 1), (4, .sl 2), (6, .pp 3 0), (12, .sl 0), (13, .v (.int .i64 (a0.length : Int))), (14, .v (.int .i64 t14)), (29, .sl 1), (30, .pp 3 0), (32, .sl 1), (33, .pp 3 0), (36, .agg [.v (.int .i64 ((a0.getD t14.toNat (0, 0, 0)).1)), .v (.int .i64 ((a0.getD t14.toNat (0, 0, 0)).2.1)), .v (.int .i64 ((a0.getD t14.toNat (0, 0, 0)).2.2))])] [.row false (.trips a0), .mp (setM t3s ((a0.getD t14.toNat (0, 0, 0)).1) (getM t3s ((a0.getD t14.toNat (0, 0, 0)).1))) (some ((a0.getD t14.toNat (0, 0, 0)).1)) (some 4), .row true (.ints .i64 t4s_2), .box [.v (.int .i64 ((a0.getD t14.toNat (0, 0, 0)).1)), .v (.int .i64 ((a0.getD t14.toNat (0, 0, 0)).2.1)), .v (.int .i64 ((a0.getD t14.toNat (0, 0, 0)).2.2))], .row true (.trips (getM (setM t3s ((a0.getD t14.toNat (0, 0, 0)).1) (getM t3s ((a0.getD t14.toNat (0, 0, 0)).1))) ((a0.getD t14.toNat (0, 0, 0)).1)))] := by
            refine hL.step [(2, [], 5, #[true, true, true, true, true, false, false, true, false, false, false]), (5, [], 5, #[true, true, false, true, true, true, false, true, false, false, false]), (8, [], 5, #[true, true, false, true, true, false, false, true, true, false, false])] (by kernel_rfl) ⟨?_, ?_, ?_, trivial⟩
            · exact hL.edge n10
            · exact hL.edge n17
            · exact hL.edge n20
          have n0 : L 7 #[true, true, false, true, true, false, false, false, false, false, false] [(0, .sl 0), (3, .sl 1), (4, .sl 2), (6, .pp 3 0), (12, .sl 0), (13, .v (.int .i64 (a0.length : Int))), (14, .v (.int .i64 t14)), (29, .sl 1), (30, .pp 3 0), (32, .sl 1), (33, .pp 3 0)] [.row false (.trips a0), .mp (setM t3s ((a0.getD t14.toNat (0, 0, 0)).1) (getM t3s ((a0.getD t14.toNat (0, 0, 0)).1))) (some ((a0.getD t14.toNat (0, 0, 0)).1)) (some 4), .row true (.ints .i64 t4s_2), .box [.v (.int .i64 ((a0.getD t14.toNat (0, 0, 0)).1)), .v (.int .i64 ((a0.getD t14.toNat (0, 0, 0)).2.1)), .v (.int .i64 ((a0.getD t14.toNat (0, 0, 0)).2.2))], .row true (.trips (getM (setM t3s ((a0.getD t14.toNat (0, 0, 0)).1) (getM t3s ((a0.getD t14.toNat (0, 0, 0)).1))) ((a0.getD t14.toNat (0, 0, 0)).1)))] := by
            refine hL.step [(2, [], 6, #[true, true, true, true, true, false, false, false, false, false, false]), (5, [], 6, #[true, true, false, true, true, true, false, false, false, false, false]), (7, [], 6, #[true, true, false, true, true, false, false, true, false, false, false])] (by kernel_rfl) ⟨?_, ?_, ?_, trivial⟩
            · exact hL.edge n1
            · exact hL.edge n12
            · exact hL.edge n19
          simp (maxSteps := 4000000) only [go_sem, Nat.reduceBEq, Nat.reduceLT, Nat.reduceAdd, Nat.reduceLeDiff, Nat.reduceSub, Nat.reduceEqDiff, Int.reduceToNat, reduceCtorEq, ↓reduceIte]
          repeat' (first | refine And.intro ?_ ?_ | intro hg)
          all_goals (try simp (disch := omega) only [wrap_fits])
          all_goals first
            | (refine hL.red ?_ n0; exact Red.auto)
            | exact trivial
            | assumption
            | omega
            | exact wrap_fits (by omega) (by omega)
            | (simp (maxSteps := 4000000) only [go_sem, Nat.reduceBEq, Nat.reduceLT, Nat.reduceAdd, Nat.reduceLeDiff, Nat.reduceSub, Nat.reduceEqDiff, Int.reduceToNat, reduceCtorEq, ↓reduceIte]
               repeat' (first | refine And.intro ?_ ?_ | intro hg)
               all_goals (try simp (disch := omega) only [wrap_fits])
               all_goals first | (refine hL.red ?_ n0; exact Red.auto) | exact trivial | assumption | omega | exact wrap_fits (by omega) (by omega))
            | (simp_all; done)
            | (simp_all; omega)
        · clear hp0
          (try simp only [Thn, InBlk, ↓reduceIte, Nat.reduceEqDiff])
          (try simp only [Thn, InBlk, ↓reduceIte, Nat.reduceEqDiff])
          refine hK64 _ _ ?_
          clear hK64
          replace h := chk_some h
          obtain ⟨hp0, h⟩ := h
          refine awp_regE ftCOk [(0, .sl 0), (3, .sl 1), (4, .sl 2), (12, .sl 0), (13, .v (.int .i64 (a0.length : Int))), (14, .v (.int .i64 (t14 + 1)))] [.row false (.trips a0), .mp (upsM (setM t3s ((a0.getD t14.toNat (0, 0, 0)).1) (getM t3s ((a0.getD t14.toNat (0, 0, 0)).1))) ((a0.getD t14.toNat (0, 0, 0)).1) ((getM (setM t3s ((a0.getD t14.toNat (0, 0, 0)).1) (getM t3s ((a0.getD t14.toNat (0, 0, 0)).1))) ((a0.getD t14.toNat (0, 0, 0)).1)) ++ [((a0.getD t14.toNat (0, 0, 0)).1, (a0.getD t14.toNat (0, 0, 0)).2.1, (a0.getD t14.toNat (0, 0, 0)).2.2)])) none none, .row true (.ints .i64 t4s_2), .box [.v (.int .i64 ((a0.getD t14.toNat (0, 0, 0)).1)), .v (.int .i64 ((a0.getD t14.toNat (0, 0, 0)).2.1)), .v (.int .i64 ((a0.getD t14.toNat (0, 0, 0)).2.2))], .view 1 (.trips ((getM (setM t3s ((a0.getD t14.toNat (0, 0, 0)).1) (getM t3s ((a0.getD t14.toNat (0, 0, 0)).1))) ((a0.getD t14.toNat (0, 0, 0)).1)) ++ [((a0.getD t14.toNat (0, 0, 0)).1, (a0.getD t14.toNat (0, 0, 0)).2.1, (a0.getD t14.toNat (0, 0, 0)).2.2)])), .row true (.trips [((a0.getD t14.toNat (0, 0, 0)).1, (a0.getD t14.toNat (0, 0, 0)).2.1, (a0.getD t14.toNat (0, 0, 0)).2.2)])] ?_
          clear hp0
          obtain rfl := Option.some.inj h
          refine LoopQ.next ?_
          exact Red.selA [0, 1, 2] Red.auto
    · replace h := bite_f h hc61
      refine awp_exit ?_
      (try simp only [Thn, InBlk, ↓reduceIte, Nat.reduceEqDiff])
      obtain rfl := Option.some.inj h
      refine LoopQ.out rfl ?_
      exact Red.auto
  · clear hx
    rcases x67 with ⟨t3s_1, t4s_1⟩
    · try dsimp only [Sum.elim_inl, Sum.elim_inr] at h
      try dsimp only [Sum.elim_inl, Sum.elim_inr]
      (try simp only [Thn, InBlk, ↓reduceIte, Nat.reduceEqDiff])
      (try simp only [Thn, InBlk, ↓reduceIte, Nat.reduceEqDiff])
      (try simp only [Thn, InBlk, ↓reduceIte, Nat.reduceEqDiff])
      refine hK34 _ _ ?_
      clear hK34
      replace h := bind_some h
      obtain ⟨y, hr0, h⟩ := h
      try dsimp only at h
      refine awp_to [(0, .sl 0), (3, .sl 1), (4, .sl 2)] [.row false (.trips a0), .mp t3s_1 none none, .row true (.ints .i64 y)] ?_ ?_
      · clear h
        intro K hK
        refine awp_region ftCOk ?_
        simp (maxSteps := 4000000) only [go_sem, Nat.reduceBEq, Nat.reduceLT, Nat.reduceAdd, Nat.reduceLeDiff, Nat.reduceSub, Nat.reduceEqDiff, Int.reduceToNat, reduceCtorEq, ↓reduceIte]
        repeat' (first | refine And.intro ?_ ?_ | intro hg)
        all_goals (try simp (disch := omega) only [wrap_fits])
        all_goals first
          | (refine hK _ _ ?_; exact Red.auto)
          | exact trivial
          | assumption
          | omega
          | exact wrap_fits (by omega) (by omega)
          | (refine wpA_callA (k_slices_Sort_int_int t4s_1 (h := hr0)) [2] [] ?_
             rintro x Hc' ⟨rfl, rfl⟩ hlen
             refine vcOps_sound ftCOk ?_
             simp (maxSteps := 4000000) only [go_sem, Nat.reduceBEq, Nat.reduceLT, Nat.reduceAdd, Nat.reduceLeDiff, Nat.reduceSub, Nat.reduceEqDiff, Int.reduceToNat, reduceCtorEq, ↓reduceIte]
             repeat' (first | refine And.intro ?_ ?_ | intro hg)
             all_goals (try simp (disch := omega) only [wrap_fits])
             all_goals first
               | (refine hK _ _ ?_; exact Red.auto)
               | exact trivial
               | assumption
               | omega
               | exact wrap_fits (by omega) (by omega)
               | (simp_all; done)
               | (simp_all; omega))
          | (simp_all; done)
          | (simp_all; omega)
      · clear hr0
        replace h := chk_some h
        obtain ⟨hp0, h⟩ := h
        refine awp_reg ftCOk [(3, .sl 1), (4, .sl 2), (7, .sl 3)] [.row false (.trips a0), .mp t3s_1 none none, .row true (.ints .i64 y), .row true (.trips (List.replicate 0 (0, 0, 0)))] ?_
        clear hp0
        refine awp_seq fun K81 hK81 => ?_
        refine awp_reg ftCOk [(3, .sl 1), (7, .sl 3), (45, .sl 2), (46, .v (.int .i64 (y.length : Int))), (47, .v (.int .i64 0))] [.row false (.trips a0), .mp t3s_1 none none, .row true (.ints .i64 y), .row true (.trips (List.replicate 0 (0, 0, 0)))] ?_
        refine awp_block ?_
        replace h := bind_some h
        obtain ⟨t7s_1, hx, h⟩ := h
        refine awp_loopL hx (fun ((t47, t3s_2, t7s) : Int × (List (Int × List (Int × Int × Int))) × (List (Int × Int × Int))) => [(3, .sl 1), (7, .sl 2), (45, .sl 3), (46, .v (.int .i64 (y.length : Int))), (47, .v (.int .i64 t47))]) (fun ((t47, t3s_2, t7s) : Int × (List (Int × List (Int × Int × Int))) × (List (Int × Int × Int))) => [.row false (.trips a0), .mp t3s_2 none none, .row true (.trips t7s), .row true (.ints .i64 y)]) (fun (t7s_1 : List (Int × Int × Int)) => Exit.exit 2) (fun (t7s_1 : List (Int × Int × Int)) => [(7, .sl 1)]) (fun (t7s_1 : List (Int × Int × Int)) => [.row false (.trips a0), .row true (.trips t7s_1)]) ?_ ?_ ?_ ?_
        · rintro t7s_1 hy <;> cases hy
        · clear h hx
          exact Red.selA [0, 1, 3, 2] Red.auto
        · clear h hx
          rintro ⟨t47, t3s_2, t7s⟩ r h
          unfold impl_inOrder_b1 at h
          try dsimp only at h
          try dsimp only
          refine awp_reg ftCOk [(3, .sl 1), (7, .sl 2), (45, .sl 3), (46, .v (.int .i64 (y.length : Int))), (47, .v (.int .i64 t47)), (48, .v (.bool (decide (t47 < (y.length : Int)))))] [.row false (.trips a0), .mp t3s_2 none none, .row true (.trips t7s), .row true (.ints .i64 y)] ?_
          refine awp_seq fun K91 hK91 => ?_
          refine awp_cond (t := 48) rfl (fun hc92 => ?_) (fun hc92 => ?_)
          · replace h := bite_t h hc92
            refine awp_skip ?_
            (try simp only [Thn, InBlk, ↓reduceIte, Nat.reduceEqDiff])
            refine hK91 _ _ ?_
            clear hK91
            refine awp_seq fun K93 hK93 => ?_
            refine awp_block ?_
            replace h := chk_some h
            obtain ⟨hp0, h⟩ := h
            refine awp_reg ftCOk [(3, .sl 1), (7, .sl 2), (9, .v (.int .i64 (y.getD t47.toNat 0))), (45, .sl 3), (46, .v (.int .i64 (y.length : Int))), (47, .v (.int .i64 t47))] [.row false (.trips a0), .mp t3s_2 none none, .row true (.trips t7s), .row true (.ints .i64 y)] ?_
            clear hp0
            refine awp_mtake 1 (y.getD t47.toNat 0) (by rfl) (by exact rfl) ?_
            refine awp_reg ftCOk [(3, .sl 1), (7, .sl 2), (10, .sl 4), (45, .sl 3), (46, .v (.int .i64 (y.length : Int))), (47, .v (.int .i64 t47))] [.row false (.trips a0), .mp t3s_2 (some (y.getD t47.toNat 0)) (some 4), .row true (.trips t7s), .row true (.ints .i64 y), .row true (.trips (getM t3s_2 (y.getD t47.toNat 0)))] ?_
            replace h := bind_some h
            obtain ⟨y_1, hr0, h⟩ := h
            try dsimp only at h
            refine awp_to [(3, .sl 1), (7, .sl 2), (10, .sl 4), (45, .sl 3), (46, .v (.int .i64 (y.length : Int))), (47, .v (.int .i64 t47))] [.row false (.trips a0), .mp t3s_2 (some (y.getD t47.toNat 0)) (some 4), .row true (.trips t7s), .row true (.ints .i64 y), .row true (.trips y_1)] ?_ ?_
            · clear h
              intro K hK
              refine awp_region ftCOk ?_
              simp (maxSteps := 4000000) only [go_sem, Nat.reduceBEq, Nat.reduceLT, Nat.reduceAdd, Nat.reduceLeDiff, Nat.reduceSub, Nat.reduceEqDiff, Int.reduceToNat, reduceCtorEq, ↓reduceIte]
              repeat' (first | refine And.intro ?_ ?_ | intro hg)
              all_goals (try simp (disch := omega) only [wrap_fits])
              all_goals first
                | (refine hK _ _ ?_; exact Red.auto)
                | exact trivial
                | assumption
                | omega
                | exact wrap_fits (by omega) (by omega)
                | (refine wpA_callA (k_slices_SortFunc__impl_compareMessages (getM t3s_2 (y.getD t47.toNat 0)) (h := hr0)) [4] [] ?_
                   rintro x Hc' ⟨rfl, rfl⟩ hlen
                   refine vcOps_sound ftCOk ?_
                   simp (maxSteps := 4000000) only [go_sem, Nat.reduceBEq, Nat.reduceLT, Nat.reduceAdd, Nat.reduceLeDiff, Nat.reduceSub, Nat.reduceEqDiff, Int.reduceToNat, reduceCtorEq, ↓reduceIte]
                   repeat' (first | refine And.intro ?_ ?_ | intro hg)
                   all_goals (try simp (disch := omega) only [wrap_fits])
                   all_goals first
                     | (refine hK _ _ ?_; exact Red.auto)
                     | exact trivial
                     | assumption
                     | omega
                     | exact wrap_fits (by omega) (by omega)
                     | (simp_all; done)
                     | (simp_all; omega))
                | (simp_all; done)
                | (simp_all; omega)
            · clear hr0
              refine awp_mput 1 4 (by rfl) (by rfl) (by exact rfl) ?_
              replace h := chk_some h
              obtain ⟨hp0, h⟩ := h
              refine awp_regE ftCOk [(3, .sl 1), (7, .sl 2), (45, .sl 3), (46, .v (.int .i64 (y.length : Int))), (47, .v (.int .i64 t47))] [.row false (.trips a0), .mp (setM t3s_2 (y.getD t47.toNat 0) y_1) none none, .row true (.trips (t7s ++ y_1)), .row true (.ints .i64 y), .view 1 (.trips y_1)] ?_
              clear hp0
              (try simp only [Thn, InBlk, ↓reduceIte, Nat.reduceEqDiff])
              (try simp only [Thn, InBlk, ↓reduceIte, Nat.reduceEqDiff])
              refine hK93 _ _ ?_
              clear hK93
              replace h := chk_some h
              obtain ⟨hp0, h⟩ := h
              refine awp_regE ftCOk [(3, .sl 1), (7, .sl 2), (45, .sl 3), (46, .v (.int .i64 (y.length : Int))), (47, .v (.int .i64 (t47 + 1)))] [.row false (.trips a0), .mp (setM t3s_2 (y.getD t47.toNat 0) y_1) none none, .row true (.trips (t7s ++ y_1)), .row true (.ints .i64 y), .view 1 (.trips y_1)] ?_
              clear hp0
              obtain rfl := Option.some.inj h
              refine LoopQ.next ?_
              exact Red.selA [0, 1, 2, 3] Red.auto
          · replace h := bite_f h hc92
            refine awp_exit ?_
            (try simp only [Thn, InBlk, ↓reduceIte, Nat.reduceEqDiff])
            obtain rfl := Option.some.inj h
            refine LoopQ.out rfl ?_
            exact Red.selA [0, 2] Red.auto
        · clear hx
          skip
          · try dsimp only [Sum.elim_inl, Sum.elim_inr] at h
            try dsimp only [Sum.elim_inl, Sum.elim_inr]
            (try simp only [Thn, InBlk, ↓reduceIte, Nat.reduceEqDiff])
            (try simp only [Thn, InBlk, ↓reduceIte, Nat.reduceEqDiff])
            (try simp only [Thn, InBlk, ↓reduceIte, Nat.reduceEqDiff])
            refine hK81 _ _ ?_
            clear hK81
            refine awp_reg ftCOk [(2, .sl 1)] [.row false (.trips a0), .row true (.trips t7s_1)] ?_
            refine awp_ret ?_
            (try simp only [Thn, InBlk, ↓reduceIte, Nat.reduceEqDiff])
            obtain rfl := Option.some.inj h
            refine ⟨by simp, _, [0, 1], (by simp only [go_sem, Nat.reduceBEq, Nat.reduceLT, Nat.reduceAdd, Nat.reduceLeDiff, Nat.reduceSub, Nat.reduceEqDiff, Int.reduceToNat, reduceCtorEq, ↓reduceIte]; exact rfl), ?_, ?_, ?_, ?_⟩
            · exact fin1
            · simp [selOk, pos]
            · simp
            · exact fin4
theorem k_impl_CanCombine (a0_0 : Int) (a0_1 : Int) (a0_2 : Int) {r : Bool} (h : impl_CanCombine a0_0 a0_1 a0_2 = some r) :
    FnA Try.prog 46 [.agg [.v (.int .i64 a0_0), .v (.int .i64 a0_1), .v (.int .i64 a0_2)]] [] [] (fun x H => x = .v (.bool r) ∧ H = []) := by
  unfold impl_CanCombine at h
  refine FnA.of (N := 19) (pin := []) (rs := [.tmp 2]) Try.func46 rfl en46 rfl rfl (by simp) (by simp; try omega) ?_
  refine awp_reg ftCOk [(1, .pp 0 0)] [.box [.v (.int .i64 a0_0), .v (.int .i64 a0_1), .v (.int .i64 a0_2)]] ?_
  refine awp_freeze 1 (by rfl) (by rfl) (by exact rfl) ?_
  refine awp_seq fun K2 hK2 => ?_
  replace h := bind_some h
  obtain ⟨y, hr0, h⟩ := h
  try dsimp only at h
  refine awp_to [(1, .pp 0 0), (5, .v (.bool (!y)))] [.rbox [.v (.int .i64 a0_0), .v (.int .i64 a0_1), .v (.int .i64 a0_2)]] ?_ ?_
  · clear h
    intro K hK
    refine awp_region ftCOk ?_
    simp (maxSteps := 4000000) only [go_sem, Nat.reduceBEq, Nat.reduceLT, Nat.reduceAdd, Nat.reduceLeDiff, Nat.reduceSub, Nat.reduceEqDiff, Int.reduceToNat, reduceCtorEq, ↓reduceIte]
    repeat' (first | refine And.intro ?_ ?_ | intro hg)
    all_goals (try simp (disch := omega) only [wrap_fits])
    all_goals first
      | (refine hK _ _ ?_; exact Red.auto)
      | exact trivial
      | assumption
      | omega
      | exact wrap_fits (by omega) (by omega)
      | (refine wpA_callA (k_impl_ProgramValid a0_0 a0_1 a0_2 (h := hr0)) [] [] ?_
         rintro x Hc' ⟨rfl, rfl⟩ hlen
         refine vcOps_sound ftCOk ?_
         simp (maxSteps := 4000000) only [go_sem, Nat.reduceBEq, Nat.reduceLT, Nat.reduceAdd, Nat.reduceLeDiff, Nat.reduceSub, Nat.reduceEqDiff, Int.reduceToNat, reduceCtorEq, ↓reduceIte]
         repeat' (first | refine And.intro ?_ ?_ | intro hg)
         all_goals (try simp (disch := omega) only [wrap_fits])
         all_goals first
           | (refine hK _ _ ?_; exact Red.auto)
           | exact trivial
           | assumption
           | omega
           | exact wrap_fits (by omega) (by omega)
           | (simp_all; done)
           | (simp_all; omega))
      | (simp_all; done)
      | (simp_all; omega)
  · clear hr0
    refine awp_cond (t := 5) rfl (fun hc3 => ?_) (fun hc3 => ?_)
    · replace h := bite_t h hc3
      refine awp_reg ftCOk [(2, .v (.bool false))] [.rbox [.v (.int .i64 a0_0), .v (.int .i64 a0_1), .v (.int .i64 a0_2)]] ?_
      refine awp_ret ?_
      (try simp only [Thn, InBlk, ↓reduceIte, Nat.reduceEqDiff])
      obtain rfl := Option.some.inj h
      refine ⟨by simp, _, [], (by simp only [go_sem, Nat.reduceBEq, Nat.reduceLT, Nat.reduceAdd, Nat.reduceLeDiff, Nat.reduceSub, Nat.reduceEqDiff, Int.reduceToNat, reduceCtorEq, ↓reduceIte]; exact rfl), ?_, ?_, ?_, ?_⟩
      · exact fin1
      · simp [selOk, pos]
      · simp
      · exact fin4
    · replace h := bite_f h hc3
      refine awp_skip ?_
      (try simp only [Thn, InBlk, ↓reduceIte, Nat.reduceEqDiff])
      refine hK2 _ _ ?_
      clear hK2
      refine awp_reg ftCOk [(2, .v (.bool (((a0_0 == 1) || (a0_0 == 2)) || (a0_0 == 3))))] [.rbox [.v (.int .i64 a0_0), .v (.int .i64 a0_1), .v (.int .i64 a0_2)]] ?_
      refine awp_ret ?_
      (try simp only [Thn, InBlk, ↓reduceIte, Nat.reduceEqDiff])
      obtain rfl := Option.some.inj h
      refine ⟨by simp, _, [], (by simp only [go_sem, Nat.reduceBEq, Nat.reduceLT, Nat.reduceAdd, Nat.reduceLeDiff, Nat.reduceSub, Nat.reduceEqDiff, Int.reduceToNat, reduceCtorEq, ↓reduceIte]; exact rfl), ?_, ?_, ?_, ?_⟩
      · exact fin1
      · simp [selOk, pos]
      · simp
      · exact fin4
end Go.Proofs.Ytiladakokkhkoaa
