/- The code computes the functions that were taken out of it. -/
import Derived.Test.YteoedigfnfjopaaLaD
set_option maxRecDepth 100000
set_option maxHeartbeats 4000000
set_option linter.unusedSimpArgs false
set_option linter.unusedVariables false
namespace Go.Proofs.Yteoedigfnfjopaa
open Go Go.Av
attribute [local irreducible] wpA OpK awp OpKI
attribute [local go_sem] vcCalls vcCall List.take_succ_cons List.take_zero List.drop_succ_cons List.drop_zero frs_nil frs_cons pw8_32 pw16_32 pw24_32 pw27_32 eqAgg eqAggV buildQ placesOf buildCells List.toList_toArray vcQg gfind gfree gput un3_agg unI_int unB_bool unK_int guardU skipV resVs resV vcD_nil vcD_cons vcT_fin vcT_free vcT_one vcT_two opS vcD1 roH roOb ftNone ftAdd oneOrTup AV.detup AV.ren AV.ren2 AV.ren1 pos selH AObj.ren fitAll fit fit1 fit1s matchAll matchOb exIds AObj.excl Env.killp pastH setAll upId AObj.past AObj.back AV.killp AV.killp1 AV.killp2 Nat.sub_self Nat.lt_irrefl Bool.or_self vcOps vcOp vcQs vcQ dstOk quiet eff pcall calleeF plain valsOf ev ofConst argEnv List.lookup Nat.add_eq decide_true decide_false Env.put binV quoC isTwo_2 isTwo_1 isTwo_3 isTwo_4 isTwo_5 isTwo_6 isTwo_7 isTwo_8 isTwo_9 isTwo_10 isTwo_11 isTwo_12 isTwo_13 isTwo_14 isTwo_15 isTwo_16 isTwo_17 isTwo_20 isTwo_24 isTwo_32 isTwo_60 isTwo_64 isTwo_100 isTwo_128 isTwo_256 isTwo_1000 wrapTo unV convV loadQ indexQ callQ builtinQ rd rdI globC AObj.globC partAV isAggD isArrayD addrAdd boxE storeE storeXE storeCE storeGE storeFE storeAE storeHE allocAE buildME appendME lookupQ mapUpE plainVs isIfaceD ifaceQ assertQ List.all_cons aggQ arrD arrL arrL_map arrV makeE makeXE makeNE makeGE buildXE buildNE buildGE nestZero Cont.child Cont.setChild buildSliceE buildFold appendE appendXE appendNE appendGE Cont.setG nestApp appendV promoteH sliceE boundAV subObj asCells Value.oneCell' contZero Cont.sets Cont.app Cont.sub Cont.len Cont.esz Cont.cell Cont.cells Cont.flat AV.det AV.det1 guardV AObj.unview AObj.kill Env.kill AV.kill AV.kill1 AV.kill2 fits64 Option.getD_some Option.getD_none Option.map_some Option.map_none Option.bind_some List.map_cons List.map_nil List.getElem?_cons_zero List.getElem?_cons_succ List.getElem?_nil true_and and_true and_false false_and List.getElem?_toArray List.cons_append List.nil_append List.length_cons List.length_nil List.set_cons_zero List.set_cons_succ List.take_succ_cons List.take_zero List.drop_succ_cons List.drop_zero List.drop_nil List.take_nil List.contains_cons List.contains_nil List.elem_cons List.elem_nil Bool.not_true Bool.not_false Bool.false_eq_true Bool.or_false Bool.or_true Bool.and_true Bool.and_false Bool.true_and Bool.false_and List.all_cons List.all_nil List.size_toArray Nat.lt_add_one Nat.zero_lt_succ Nat.one_ne_zero Nat.zero_ne_one and_self List.replicate_succ List.replicate_zero Int.toNat_natCast Int.toNat_zero Value.cells false_implies true_implies forall_const Thn InBlk Nat.zero_add Nat.add_zero Int.zero_add Ele Env.ren Option.some.injEq AV.v.injEq AV.sl.injEq AV.pp.injEq AV.ep.injEq AV.agg.injEq List.cons.injEq Value.int.injEq Value.bool.injEq Value.string.injEq true_or or_true or_false false_or guardOk evN pastY deadAll AObj.gone List.foldl_cons List.foldl_nil List.contains_cons List.contains_nil tsz0 tby0 tz0 Try.underlying0 tsz1 tby1 tz1 Try.underlying1 tsz2 tby2 tz2 Try.underlying2 tsz3 tby3 tz3 Try.underlying3 tsz4 tby4 tz4 Try.underlying4 tsz5 tby5 tz5 Try.underlying5 tsz6 tby6 tz6 Try.underlying6 tsz7 tby7 tz7 Try.underlying7 fo7_0 fo7_1 fo7_2 fo7_3 tsz8 tby8 tz8 Try.underlying8 fo8_0 fo8_1 fo8_2 fo8_3 tsz9 tby9 Try.underlying9 tsz10 tby10 Try.underlying10 tsz12 tby12 tz12 Try.underlying12 tsz16 tby16 tz16 Try.underlying16 tsz17 tby17 tz17 Try.underlying17 tsz20 tby20 tz20 Try.underlying20 tsz21 tby21 tz21 Try.underlying21 tsz22 tby22 tz22 Try.underlying22 tsz23 tby23 tz23 Try.underlying23 tsz24 tby24 tz24 Try.underlying24 tsz25 tby25 tz25 Try.underlying25 fo25_0 fo25_1 fo25_2 fo25_3 tsz26 tby26 tz26 Try.underlying26 fo26_0 fo26_1 fo26_2 fo26_3 tsz28 tby28 tz28 Try.underlying28 fo28_0 fo28_1 tsz29 tby29 tz29 Try.underlying29 fo29_0 fo29_1 tsz30 tby30 tz30 Try.underlying30 tsz32 tby32 tz32 Try.underlying32 tsz33 tby33 tz33 Try.underlying33 fo33_0 fo33_1 fo33_2 fo33_3 tsz34 tby34 tz34 Try.underlying34 fo34_0 fo34_1 fo34_2 fo34_3 tsz40 tby40 tz40 Try.underlying40 tsz41 tby41 tz41 Try.underlying41 fo41_0 fo41_1 tsz44 tby44 tz44 Try.underlying44 tsz56 tby56 tz56 Try.underlying56 tsz61 tby61 tz61 Try.underlying61 peq61 fo61_0 fo61_1 fo61_2 tsz62 tby62 tz62 Try.underlying62 peq62 fo62_0 fo62_1 fo62_2 tsz64 tby64 tz64 Try.underlying64 peq64 fo64_0 fo64_1 fo64_2 tsz66 tby66 tz66 Try.underlying66 tsz67 tby67 tz67 Try.underlying67 tsz71 tby71 tz71 Try.underlying71 tsz72 tby72 tz72 Try.underlying72 tsz79 tby79 tz79 Try.underlying79 peq79 fo79_0 fo79_1 fo79_2 tsz80 tby80 tz80 Try.underlying80 peq80 fo80_0 fo80_1 fo80_2 tsz88 tby88 tz88 Try.underlying88 tsz89 tby89 tz89 Try.underlying89 fo89_0 tsz90 tby90 tz90 Try.underlying90 fo90_0 tsz95 tby95 tz95 Try.underlying95 tsz97 tby97 Try.underlying97 fo97_0 fo97_1 fo97_2 fo97_3 tsz98 tby98 Try.underlying98 fo98_0 fo98_1 fo98_2 fo98_3 tsz99 tby99 tz99 Try.underlying99 tsz100 tby100 tz100 Try.underlying100 tsz101 tby101 tz101 Try.underlying101 tsz102 tby102 tz102 Try.underlying102 tsz103 tby103 tz103 Try.underlying103 tsz104 tby104 tz104 Try.underlying104 tsz105 tby105 tz105 Try.underlying105 tsz106 tby106 tz106 Try.underlying106 tsz107 tby107 tz107 Try.underlying107 tsz108 tby108 tz108 Try.underlying108 tsz109 tby109 tz109 Try.underlying109 tsz110 tby110 tz110 Try.underlying110 fo110_0 fo110_1 fo110_2 fo110_3 fo110_4 fo110_5 fo110_6 fo110_7 fo110_8 fo110_9 fo110_10 tsz111 tby111 tz111 Try.underlying111 fo111_0 fo111_1 fo111_2 fo111_3 fo111_4 fo111_5 fo111_6 fo111_7 fo111_8 fo111_9 fo111_10 tsz113 tby113 tz113 Try.underlying113 l1InG isNaNG cmpIntG cmpMsgG ftC
theorem k_slices_Grow_int_int (n : Int) {r : List Int} (h : slices_Grow_int_int n = some r) :
 FnA Try.prog 76 [.v (.slice none 0 0), .v (.int .i64 n)] [] [] (fun x H => x = .sl 0 ∧ H = [.row true (.ints .i64 r)]) := by
 unfold slices_Grow_int_int at h
 obtain ⟨h1, h⟩ := chk_some h
 simp only [Option.some.injEq] at h
 subst h
 exact grow_nil Go.Proofs.growL rfl en76 _ rfl rfl rfl rfl n h1.1 h1.2
theorem k_laws_szIntS (a0 : List Int) (a1 : Int) {r : Int} (h : laws_szIntS a0 a1 = some r) :
 FnA Try.prog 18 [.sl 0, .v (.int .i64 a1)] [.row false (.ints .i64 a0)] [] (fun x H => x = .v (.int .i64 r) ∧ H = [.row false (.ints .i64 a0)]) := by
 unfold laws_szIntS at h
 refine FnA.ofA 12 [0] [.tmp 4] Try.func18 en18 ?_
 refine awp_regS ftCOk [(0, .sl 0), (1, .v (.int .i64 a1))] ?_
 replace ⟨hp0, h⟩ := chk_some h
 have hwhp0 := wrap_fits hp0.1 hp0.2
 refine awp_regS ftCOk [(1, .v (.int .i64 (a1 - (a0.length : Int))))] ?_
 clear hp0
 refine awp_seq fun K2 hK2 => ?_
 refine awp_regS ftCOk [(1, .v (.int .i64 (a1 - (a0.length : Int)))), (10, .v (.bool (decide ((a1 - (a0.length : Int)) < 0))))] ?_
 refine awp_cond (t := 10) rfl (fun hc3 => ?_) (fun hc3 => ?_)
 ·replace h := bite_t h hc3
  refine awp_regS ftCOk [(4, .v (.int .i64 (-1)))] ?_
  refine awp_ret ?_
  obtain rfl := Option.some.inj h
  exact finQ [0]
 ·replace h := bite_f h hc3
  refine awp_skip ?_
  refine hK2 _ _ ?_
  clear hK2
  refine awp_regS ftCOk [(4, .v (.int .i64 (a1 - (a0.length : Int))))] ?_
  refine awp_ret ?_
  obtain rfl := Option.some.inj h
  exact finQ [0]
theorem k_laws_szDisk (a0_0 : List Int) (a0_1 : List Int) (a1 : Int) {r : Int} (h : laws_szDisk a0_0 a0_1 a1 = some r) :
 FnA Try.prog 14 [.agg [.sl 0, .sl 1], .v (.int .i64 a1)] [.row false (.ints .i64 a0_0), .row false (.ints .i64 a0_1)] [] (fun x H => x = .v (.int .i64 r) ∧ H = [.row false (.ints .i64 a0_0), .row false (.ints .i64 a0_1)]) := by
 unfold laws_szDisk at h
 refine FnA.ofA 18 [0, 1] [.tmp 4] Try.func14 en14 ?_
 refine awp_reg ftCOk [(1, .v (.int .i64 a1)), (2, .pp 2 0)] [.row false (.ints .i64 a0_0), .row false (.ints .i64 a0_1), .box [.sl 0, .sl 1]] ?_
 refine awp_freeze 2 (by rfl) (by rfl) (by exact rfl) ?_
 replace ⟨y, hr0, h⟩ := bind_some h
 refine awp_regC ftCOk [(1, .v (.int .i64 y)), (2, .pp 2 0)] [.row false (.ints .i64 a0_0), .row false (.ints .i64 a0_1), .rbox [.sl 0, .sl 1]] 3 [0] (k_laws_szIntS a0_0 a1 (h := hr0)) ?_
 clear hr0
 refine awp_seq fun K2 hK2 => ?_
 refine awp_regS ftCOk [(1, .v (.int .i64 y)), (2, .pp 2 0), (10, .v (.bool (decide (y < 0))))] ?_
 refine awp_cond (t := 10) rfl (fun hc3 => ?_) (fun hc3 => ?_)
 ·replace h := bite_t h hc3
  refine awp_regS ftCOk [(4, .v (.int .i64 (-1)))] ?_
  refine awp_ret ?_
  obtain rfl := Option.some.inj h
  exact finQ [0, 1]
 ·replace h := bite_f h hc3
  refine awp_skip ?_
  refine hK2 _ _ ?_
  clear hK2
  replace ⟨y_1, hr0, h⟩ := bind_some h
  refine awp_regC ftCOk [(1, .v (.int .i64 y_1))] [.row false (.ints .i64 a0_0), .row false (.ints .i64 a0_1), .rbox [.sl 0, .sl 1]] 3 [1] (k_laws_szIntS a0_1 y (h := hr0)) ?_
  clear hr0
  refine awp_seq fun K5 hK5 => ?_
  refine awp_regS ftCOk [(1, .v (.int .i64 y_1)), (16, .v (.bool (decide (y_1 < 0))))] ?_
  refine awp_cond (t := 16) rfl (fun hc6 => ?_) (fun hc6 => ?_)
  ·replace h := bite_t h hc6
   refine awp_regS ftCOk [(4, .v (.int .i64 (-1)))] ?_
   refine awp_ret ?_
   obtain rfl := Option.some.inj h
   exact finQ [0, 1]
  ·replace h := bite_f h hc6
   refine awp_skip ?_
   refine hK5 _ _ ?_
   clear hK5
   refine awp_regS ftCOk [(4, .v (.int .i64 y_1))] ?_
   refine awp_ret ?_
   obtain rfl := Option.some.inj h
   exact finQ [0, 1]
theorem k_laws_szBoolS (a0 : List Bool) (a1 : Int) {r : Int} (h : laws_szBoolS a0 a1 = some r) :
 FnA Try.prog 19 [.sl 0, .v (.int .i64 a1)] [.row false (.bools a0)] [] (fun x H => x = .v (.int .i64 r) ∧ H = [.row false (.bools a0)]) := by
 unfold laws_szBoolS at h
 refine FnA.ofA 12 [0] [.tmp 4] Try.func19 en19 ?_
 refine awp_regS ftCOk [(0, .sl 0), (1, .v (.int .i64 a1))] ?_
 replace ⟨hp0, h⟩ := chk_some h
 have hwhp0 := wrap_fits hp0.1 hp0.2
 refine awp_regS ftCOk [(1, .v (.int .i64 (a1 - (a0.length : Int))))] ?_
 clear hp0
 refine awp_seq fun K2 hK2 => ?_
 refine awp_regS ftCOk [(1, .v (.int .i64 (a1 - (a0.length : Int)))), (10, .v (.bool (decide ((a1 - (a0.length : Int)) < 0))))] ?_
 refine awp_cond (t := 10) rfl (fun hc3 => ?_) (fun hc3 => ?_)
 ·replace h := bite_t h hc3
  refine awp_regS ftCOk [(4, .v (.int .i64 (-1)))] ?_
  refine awp_ret ?_
  obtain rfl := Option.some.inj h
  exact finQ [0]
 ·replace h := bite_f h hc3
  refine awp_skip ?_
  refine hK2 _ _ ?_
  clear hK2
  refine awp_regS ftCOk [(4, .v (.int .i64 (a1 - (a0.length : Int))))] ?_
  refine awp_ret ?_
  obtain rfl := Option.some.inj h
  exact finQ [0]
theorem k_laws_szMessageS (a0 : List (Int × Int × Int)) (a1 : Int) {r : Int} (h : laws_szMessageS a0 a1 = some r) :
 FnA Try.prog 20 [.sl 0, .v (.int .i64 a1)] [.row false (.trips a0)] [] (fun x H => x = .v (.int .i64 r) ∧ H = [.row false (.trips a0)]) := by
 unfold laws_szMessageS at h
 refine FnA.ofA 12 [0] [.tmp 4] Try.func20 en20 ?_
 refine awp_regS ftCOk [(0, .sl 0), (1, .v (.int .i64 a1))] ?_
 replace ⟨hp0, h⟩ := chk_some h
 have hwhp0 := wrap_fits hp0.1 hp0.2
 refine awp_regS ftCOk [(1, .v (.int .i64 (a1 - (a0.length : Int))))] ?_
 clear hp0
 refine awp_seq fun K2 hK2 => ?_
 refine awp_regS ftCOk [(1, .v (.int .i64 (a1 - (a0.length : Int)))), (10, .v (.bool (decide ((a1 - (a0.length : Int)) < 0))))] ?_
 refine awp_cond (t := 10) rfl (fun hc3 => ?_) (fun hc3 => ?_)
 ·replace h := bite_t h hc3
  refine awp_regS ftCOk [(4, .v (.int .i64 (-1)))] ?_
  refine awp_ret ?_
  obtain rfl := Option.some.inj h
  exact finQ [0]
 ·replace h := bite_f h hc3
  refine awp_skip ?_
  refine hK2 _ _ ?_
  clear hK2
  refine awp_regS ftCOk [(4, .v (.int .i64 (a1 - (a0.length : Int))))] ?_
  refine awp_ret ?_
  obtain rfl := Option.some.inj h
  exact finQ [0]
theorem k_laws_szState (a0_0 : Int) (a0_1 : List Int) (a0_2 : List Bool) (a0_3 : List (Int × Int × Int)) (a1 : Int) {r : Int} (h : laws_szState a0_0 a0_1 a0_2 a0_3 a1 = some r) :
 FnA Try.prog 5 [.agg [.v (.int .i64 a0_0), .sl 0, .sl 1, .sl 2], .v (.int .i64 a1)] [.row false (.ints .i64 a0_1), .row false (.bools a0_2), .row false (.trips a0_3)] [] (fun x H => x = .v (.int .i64 r) ∧ H = [.row false (.ints .i64 a0_1), .row false (.bools a0_2), .row false (.trips a0_3)]) := by
 unfold laws_szState at h
 refine FnA.ofA 24 [0, 1, 2] [.tmp 4] Try.func5 en5 ?_
 refine awp_reg ftCOk [(1, .v (.int .i64 a1)), (2, .pp 3 0)] [.row false (.ints .i64 a0_1), .row false (.bools a0_2), .row false (.trips a0_3), .box [.v (.int .i64 a0_0), .sl 0, .sl 1, .sl 2]] ?_
 refine awp_freeze 2 (by rfl) (by rfl) (by exact rfl) ?_
 replace ⟨y, hr0, h⟩ := bind_some h
 refine awp_regC ftCOk [(1, .v (.int .i64 y)), (2, .pp 3 0)] [.row false (.ints .i64 a0_1), .row false (.bools a0_2), .row false (.trips a0_3), .rbox [.v (.int .i64 a0_0), .sl 0, .sl 1, .sl 2]] 3 [0] (k_laws_szIntS a0_1 a1 (h := hr0)) ?_
 clear hr0
 refine awp_seq fun K2 hK2 => ?_
 refine awp_regS ftCOk [(1, .v (.int .i64 y)), (2, .pp 3 0), (10, .v (.bool (decide (y < 0))))] ?_
 refine awp_cond (t := 10) rfl (fun hc3 => ?_) (fun hc3 => ?_)
 ·replace h := bite_t h hc3
  refine awp_regS ftCOk [(4, .v (.int .i64 (-1)))] ?_
  refine awp_ret ?_
  obtain rfl := Option.some.inj h
  exact finQ [0, 1, 2]
 ·replace h := bite_f h hc3
  refine awp_skip ?_
  refine hK2 _ _ ?_
  clear hK2
  replace ⟨y_1, hr0, h⟩ := bind_some h
  refine awp_regC ftCOk [(1, .v (.int .i64 y_1)), (2, .pp 3 0)] [.row false (.ints .i64 a0_1), .row false (.bools a0_2), .row false (.trips a0_3), .rbox [.v (.int .i64 a0_0), .sl 0, .sl 1, .sl 2]] 3 [1] (k_laws_szBoolS a0_2 y (h := hr0)) ?_
  clear hr0
  refine awp_seq fun K5 hK5 => ?_
  refine awp_regS ftCOk [(1, .v (.int .i64 y_1)), (2, .pp 3 0), (16, .v (.bool (decide (y_1 < 0))))] ?_
  refine awp_cond (t := 16) rfl (fun hc6 => ?_) (fun hc6 => ?_)
  ·replace h := bite_t h hc6
   refine awp_regS ftCOk [(4, .v (.int .i64 (-1)))] ?_
   refine awp_ret ?_
   obtain rfl := Option.some.inj h
   exact finQ [0, 1, 2]
  ·replace h := bite_f h hc6
   refine awp_skip ?_
   refine hK5 _ _ ?_
   clear hK5
   replace ⟨y_2, hr0, h⟩ := bind_some h
   refine awp_regC ftCOk [(1, .v (.int .i64 y_2))] [.row false (.ints .i64 a0_1), .row false (.bools a0_2), .row false (.trips a0_3), .rbox [.v (.int .i64 a0_0), .sl 0, .sl 1, .sl 2]] 3 [2] (k_laws_szMessageS a0_3 y_1 (h := hr0)) ?_
   clear hr0
   refine awp_seq fun K8 hK8 => ?_
   refine awp_regS ftCOk [(1, .v (.int .i64 y_2)), (22, .v (.bool (decide (y_2 < 0))))] ?_
   refine awp_cond (t := 22) rfl (fun hc9 => ?_) (fun hc9 => ?_)
   ·replace h := bite_t h hc9
    refine awp_regS ftCOk [(4, .v (.int .i64 (-1)))] ?_
    refine awp_ret ?_
    obtain rfl := Option.some.inj h
    exact finQ [0, 1, 2]
   ·replace h := bite_f h hc9
    refine awp_skip ?_
    refine hK8 _ _ ?_
    clear hK8
    refine awp_regS ftCOk [(4, .v (.int .i64 y_2))] ?_
    refine awp_ret ?_
    obtain rfl := Option.some.inj h
    exact finQ [0, 1, 2]
theorem k_laws_toIntS (a0 : List Int) {r : List Int} (h : laws_toIntS a0 = some r) :
 FnA Try.prog 22 [.sl 0] [.row false (.ints .i64 a0)] [] (fun x H => x = .sl 1 ∧ H = [.row false (.ints .i64 a0), .row true (.ints .i64 r)]) := by
 unfold laws_toIntS at h
 refine FnA.ofA 22 [0] [.tmp 2] Try.func22 en22 ?_
 refine awp_regS ftCOk [(0, .sl 0)] ?_
 replace ⟨hp0, h⟩ := chk_some h
 refine awp_reg ftCOk [(0, .sl 0), (3, .sl 1)] [.row false (.ints .i64 a0), .row true (.ints .i64 (List.replicate ((a0.length : Int).toNat) 0))] ?_
 clear hp0
 refine awp_seq fun K14 hK14 => ?_
 refine awp_regS ftCOk [(0, .sl 0), (3, .sl 1), (4, .v (.int .i64 0))] ?_
 refine awp_block ?_
 replace h := bind_some h
 obtain ⟨t3s_1, hx, h⟩ := h
 refine awp_loopL hx (fun ((t4, t3s) : Int × List Int) => [(0, .sl 0), (3, .sl 1), (4, .v (.int .i64 t4))]) (fun ((t4, t3s) : Int × List Int) => [.row false (.ints .i64 a0), .row true (.ints .i64 t3s)]) (fun (t3s_1 : List Int) => Exit.exit 0) (fun (t3s_1 : List Int) => [(3, .sl 1)]) (fun (t3s_1 : List Int) => [.row false (.ints .i64 a0), .row true (.ints .i64 t3s_1)]) ?_ ?_ ?_ ?_
 ·rintro t3s_1 hy <;> cases hy
 ·clear h hx
  exact Red.auto
 ·clear h hx
  rintro ⟨t4, t3s⟩ r h
  unfold laws_toIntS_b0 at h
  try dsimp only at h
  try dsimp only
  refine awp_seq fun K24 hK24 => ?_
  refine awp_regS ftCOk [(0, .sl 0), (3, .sl 1), (4, .v (.int .i64 t4)), (11, .v (.bool (decide (t4 < (a0.length : Int)))))] ?_
  refine awp_cond (t := 11) rfl (fun hc25 => ?_) (fun hc25 => ?_)
  ·replace h := bite_t h hc25
   refine awp_skip ?_
   refine hK24 _ _ ?_
   clear hK24
   refine awp_seq fun K26 hK26 => ?_
   refine awp_block ?_
   replace ⟨hp0, h⟩ := chk_some h
   replace ⟨hp1, h⟩ := chk_some h
   refine awp_regE ftCOk [(0, .sl 0), (3, .sl 1), (4, .v (.int .i64 t4))] [.row false (.ints .i64 a0), .row true (.ints .i64 (t3s.set t4.toNat (a0.getD t4.toNat 0)))] ?_
   clear hp0 hp1
   refine hK26 _ _ ?_
   clear hK26
   replace ⟨hp0, h⟩ := chk_some h
   refine awp_regES ftCOk [(0, .sl 0), (3, .sl 1), (4, .v (.int .i64 (t4 + 1)))] ?_
   clear hp0
   obtain rfl := Option.some.inj h
   refine LoopQ.next ?_
   exact Red.auto
  ·replace h := bite_f h hc25
   refine awp_exit ?_
   (try simp only [Thn, InBlk, ↓reduceIte, Nat.reduceEqDiff])
   obtain rfl := Option.some.inj h
   refine LoopQ.out rfl ?_
   exact Red.auto
 ·clear hx
  skip
  ·try dsimp only [Sum.elim_inl, Sum.elim_inr] at h
   try dsimp only [Sum.elim_inl, Sum.elim_inr]
   refine hK14 _ _ ?_
   clear hK14
   refine awp_regS ftCOk [(2, .sl 1)] ?_
   refine awp_ret ?_
   obtain rfl := Option.some.inj h
   exact finQ [0, 1]
theorem k_laws_toDisk (a0_0 : List Int) (a0_1 : List Int) {r : List Int × List Int} (h : laws_toDisk a0_0 a0_1 = some r) :
 FnA Try.prog 16 [.agg [.sl 0, .sl 1]] [.row false (.ints .i64 a0_0), .row false (.ints .i64 a0_1)] [] (fun x H => x = .agg [.sl 2, .sl 3] ∧ H = [.row false (.ints .i64 a0_0), .row false (.ints .i64 a0_1), .row true (.ints .i64 r.1), .row true (.ints .i64 r.2)]) := by
 unfold laws_toDisk at h
 refine FnA.ofA 13 [0, 1] [.cell 2 29] Try.func16 en16 ?_
 refine awp_reg ftCOk [(1, .pp 2 0), (2, .pp 3 0)] [.row false (.ints .i64 a0_0), .row false (.ints .i64 a0_1), .box [.sl 0, .sl 1], .box [.v (.slice none 0 0), .v (.slice none 0 0)]] ?_
 refine awp_freeze 1 (by rfl) (by rfl) (by exact rfl) ?_
 refine awp_reg ftCOk [(1, .pp 2 0), (2, .pp 3 0), (3, .pp 4 0)] [.row false (.ints .i64 a0_0), .row false (.ints .i64 a0_1), .rbox [.sl 0, .sl 1], .box [.v (.slice none 0 0), .v (.slice none 0 0)], .box [.v (.slice none 0 0), .v (.slice none 0 0)]] ?_
 replace ⟨y, hr0, h⟩ := bind_some h
 refine awp_regC ftCOk [(1, .pp 2 0), (2, .pp 3 0), (3, .pp 4 0)] [.row false (.ints .i64 a0_0), .row false (.ints .i64 a0_1), .rbox [.sl 0, .sl 1], .box [.v (.slice none 0 0), .v (.slice none 0 0)], .box [.sl 5, .v (.slice none 0 0)], .row true (.ints .i64 y)] 2 [0] (k_laws_toIntS a0_0 (h := hr0)) ?_
 clear hr0
 replace ⟨y_1, hr0, h⟩ := bind_some h
 refine awp_regC ftCOk [(2, .pp 3 0), (3, .pp 4 0)] [.row false (.ints .i64 a0_0), .row false (.ints .i64 a0_1), .rbox [.sl 0, .sl 1], .box [.v (.slice none 0 0), .v (.slice none 0 0)], .box [.sl 5, .sl 6], .row true (.ints .i64 y), .row true (.ints .i64 y_1)] 2 [1] (k_laws_toIntS a0_1 (h := hr0)) ?_
 clear hr0
 refine awp_reg ftCOk [(2, .pp 3 0)] [.row false (.ints .i64 a0_0), .row false (.ints .i64 a0_1), .rbox [.sl 0, .sl 1], .box [.sl 5, .sl 6], .box [.sl 5, .sl 6], .row true (.ints .i64 y), .row true (.ints .i64 y_1)] ?_
 refine awp_ret ?_
 obtain rfl := Option.some.inj h
 exact finQ [0, 1, 5, 6]
theorem k_laws_toBoolS (a0 : List Bool) {r : List Bool} (h : laws_toBoolS a0 = some r) :
 FnA Try.prog 23 [.sl 0] [.row false (.bools a0)] [] (fun x H => x = .sl 1 ∧ H = [.row false (.bools a0), .row true (.bools r)]) := by
 unfold laws_toBoolS at h
 refine FnA.ofA 22 [0] [.tmp 2] Try.func23 en23 ?_
 refine awp_regS ftCOk [(0, .sl 0)] ?_
 replace ⟨hp0, h⟩ := chk_some h
 refine awp_reg ftCOk [(0, .sl 0), (3, .sl 1)] [.row false (.bools a0), .row true (.bools (List.replicate ((a0.length : Int).toNat) false))] ?_
 clear hp0
 refine awp_seq fun K14 hK14 => ?_
 refine awp_regS ftCOk [(0, .sl 0), (3, .sl 1), (4, .v (.int .i64 0))] ?_
 refine awp_block ?_
 replace h := bind_some h
 obtain ⟨t3s_1, hx, h⟩ := h
 refine awp_loopL hx (fun ((t4, t3s) : Int × List Bool) => [(0, .sl 0), (3, .sl 1), (4, .v (.int .i64 t4))]) (fun ((t4, t3s) : Int × List Bool) => [.row false (.bools a0), .row true (.bools t3s)]) (fun (t3s_1 : List Bool) => Exit.exit 0) (fun (t3s_1 : List Bool) => [(3, .sl 1)]) (fun (t3s_1 : List Bool) => [.row false (.bools a0), .row true (.bools t3s_1)]) ?_ ?_ ?_ ?_
 ·rintro t3s_1 hy <;> cases hy
 ·clear h hx
  exact Red.auto
 ·clear h hx
  rintro ⟨t4, t3s⟩ r h
  unfold laws_toBoolS_b0 at h
  try dsimp only at h
  try dsimp only
  refine awp_seq fun K24 hK24 => ?_
  refine awp_regS ftCOk [(0, .sl 0), (3, .sl 1), (4, .v (.int .i64 t4)), (11, .v (.bool (decide (t4 < (a0.length : Int)))))] ?_
  refine awp_cond (t := 11) rfl (fun hc25 => ?_) (fun hc25 => ?_)
  ·replace h := bite_t h hc25
   refine awp_skip ?_
   refine hK24 _ _ ?_
   clear hK24
   refine awp_seq fun K26 hK26 => ?_
   refine awp_block ?_
   replace ⟨hp0, h⟩ := chk_some h
   replace ⟨hp1, h⟩ := chk_some h
   refine awp_regE ftCOk [(0, .sl 0), (3, .sl 1), (4, .v (.int .i64 t4))] [.row false (.bools a0), .row true (.bools (t3s.set t4.toNat (a0.getD t4.toNat false)))] ?_
   clear hp0 hp1
   refine hK26 _ _ ?_
   clear hK26
   replace ⟨hp0, h⟩ := chk_some h
   refine awp_regES ftCOk [(0, .sl 0), (3, .sl 1), (4, .v (.int .i64 (t4 + 1)))] ?_
   clear hp0
   obtain rfl := Option.some.inj h
   refine LoopQ.next ?_
   exact Red.auto
  ·replace h := bite_f h hc25
   refine awp_exit ?_
   (try simp only [Thn, InBlk, ↓reduceIte, Nat.reduceEqDiff])
   obtain rfl := Option.some.inj h
   refine LoopQ.out rfl ?_
   exact Red.auto
 ·clear hx
  skip
  ·try dsimp only [Sum.elim_inl, Sum.elim_inr] at h
   try dsimp only [Sum.elim_inl, Sum.elim_inr]
   refine hK14 _ _ ?_
   clear hK14
   refine awp_regS ftCOk [(2, .sl 1)] ?_
   refine awp_ret ?_
   obtain rfl := Option.some.inj h
   exact finQ [0, 1]
theorem k_laws_toMessage (a0_0 : Int) (a0_1 : Int) (a0_2 : Int) {r : Int × Int × Int} (h : laws_toMessage a0_0 a0_1 a0_2 = some r) :
 FnA Try.prog 41 [.agg [.v (.int .i64 a0_0), .v (.int .i64 a0_1), .v (.int .i64 a0_2)]] [] [] (fun x H => x = .agg [.v (.int .i64 r.1), .v (.int .i64 r.2.1), .v (.int .i64 r.2.2)] ∧ H = []) := by
 unfold laws_toMessage at h
 refine FnA.ofA 14 [] [.cell 2 62] Try.func41 en41 ?_
 refine awp_reg ftCOk [(1, .pp 0 0), (2, .pp 1 0)] [.box [.v (.int .i64 a0_0), .v (.int .i64 a0_1), .v (.int .i64 a0_2)], .box [.v (.int .i64 0), .v (.int .i64 0), .v (.int .i64 0)]] ?_
 refine awp_freeze 1 (by rfl) (by rfl) (by exact rfl) ?_
 refine awp_reg ftCOk [(1, .pp 0 0), (2, .pp 1 0), (3, .pp 2 0)] [.rbox [.v (.int .i64 a0_0), .v (.int .i64 a0_1), .v (.int .i64 a0_2)], .box [.v (.int .i64 0), .v (.int .i64 0), .v (.int .i64 0)], .box [.v (.int .i64 0), .v (.int .i64 0), .v (.int .i64 0)]] ?_
 refine awp_reg ftCOk [(1, .pp 0 0), (2, .pp 1 0), (3, .pp 2 0)] [.rbox [.v (.int .i64 a0_0), .v (.int .i64 a0_1), .v (.int .i64 a0_2)], .box [.v (.int .i64 0), .v (.int .i64 0), .v (.int .i64 0)], .box [.v (.int .i64 a0_0), .v (.int .i64 0), .v (.int .i64 0)]] ?_
 refine awp_reg ftCOk [(1, .pp 0 0), (2, .pp 1 0), (3, .pp 2 0)] [.rbox [.v (.int .i64 a0_0), .v (.int .i64 a0_1), .v (.int .i64 a0_2)], .box [.v (.int .i64 0), .v (.int .i64 0), .v (.int .i64 0)], .box [.v (.int .i64 a0_0), .v (.int .i64 a0_1), .v (.int .i64 0)]] ?_
 refine awp_reg ftCOk [(2, .pp 1 0), (3, .pp 2 0)] [.rbox [.v (.int .i64 a0_0), .v (.int .i64 a0_1), .v (.int .i64 a0_2)], .box [.v (.int .i64 0), .v (.int .i64 0), .v (.int .i64 0)], .box [.v (.int .i64 a0_0), .v (.int .i64 a0_1), .v (.int .i64 a0_2)]] ?_
 refine awp_reg ftCOk [(2, .pp 1 0)] [.rbox [.v (.int .i64 a0_0), .v (.int .i64 a0_1), .v (.int .i64 a0_2)], .box [.v (.int .i64 a0_0), .v (.int .i64 a0_1), .v (.int .i64 a0_2)], .box [.v (.int .i64 a0_0), .v (.int .i64 a0_1), .v (.int .i64 a0_2)]] ?_
 refine awp_ret ?_
 obtain rfl := Option.some.inj h
 exact finQ []
theorem k_laws_toMessageS (a0 : List (Int × Int × Int)) {r : (List (Int × Int × Int))} (h : laws_toMessageS a0 = some r) :
 FnA Try.prog 24 [.sl 0] [.row false (.trips a0)] [] (fun x H => x = .sl 1 ∧ H = [.row false (.trips a0), .row true (.trips r)]) := by
 unfold laws_toMessageS at h
 refine FnA.ofA 23 [0] [.tmp 2] Try.func24 en24 ?_
 refine awp_regS ftCOk [(0, .sl 0)] ?_
 replace ⟨hp0, h⟩ := chk_some h
 refine awp_reg ftCOk [(0, .sl 0), (3, .sl 1)] [.row false (.trips a0), .row true (.trips (List.replicate ((a0.length : Int).toNat) (0, 0, 0)))] ?_
 clear hp0
 refine awp_seq fun K14 hK14 => ?_
 refine awp_regS ftCOk [(0, .sl 0), (3, .sl 1), (4, .v (.int .i64 0))] ?_
 refine awp_block ?_
 replace h := bind_some h
 obtain ⟨t3s_1, hx, h⟩ := h
 refine awp_loopL hx (fun ((t4, t3s) : Int × (List (Int × Int × Int))) => [(0, .sl 0), (3, .sl 1), (4, .v (.int .i64 t4))]) (fun ((t4, t3s) : Int × (List (Int × Int × Int))) => [.row false (.trips a0), .row true (.trips t3s)]) (fun (t3s_1 : List (Int × Int × Int)) => Exit.exit 0) (fun (t3s_1 : List (Int × Int × Int)) => [(3, .sl 1)]) (fun (t3s_1 : List (Int × Int × Int)) => [.row false (.trips a0), .row true (.trips t3s_1)]) ?_ ?_ ?_ ?_
 ·rintro t3s_1 hy <;> cases hy
 ·clear h hx
  exact Red.auto
 ·clear h hx
  rintro ⟨t4, t3s⟩ r h
  unfold laws_toMessageS_b0 at h
  try dsimp only at h
  try dsimp only
  refine awp_seq fun K24 hK24 => ?_
  refine awp_regS ftCOk [(0, .sl 0), (3, .sl 1), (4, .v (.int .i64 t4)), (11, .v (.bool (decide (t4 < (a0.length : Int)))))] ?_
  refine awp_cond (t := 11) rfl (fun hc25 => ?_) (fun hc25 => ?_)
  ·replace h := bite_t h hc25
   refine awp_skip ?_
   refine hK24 _ _ ?_
   clear hK24
   refine awp_seq fun K26 hK26 => ?_
   refine awp_block ?_
   replace ⟨hp0, h⟩ := chk_some h
   replace ⟨⟨y, y_1, y_2⟩, hr1, h⟩ := bind_some h
   try dsimp only at h
   replace ⟨hp2, h⟩ := chk_some h
   refine awp_regEC ftCOk [(0, .sl 0), (3, .sl 1), (4, .v (.int .i64 t4))] [.row false (.trips a0), .row true (.trips (t3s.set t4.toNat (y, y_1, y_2)))] 6 [] (k_laws_toMessage ((a0.getD t4.toNat (0, 0, 0)).1) ((a0.getD t4.toNat (0, 0, 0)).2.1) ((a0.getD t4.toNat (0, 0, 0)).2.2) (h := hr1)) ?_
   clear hp0 hr1 hp2
   refine hK26 _ _ ?_
   clear hK26
   replace ⟨hp0, h⟩ := chk_some h
   refine awp_regES ftCOk [(0, .sl 0), (3, .sl 1), (4, .v (.int .i64 (t4 + 1)))] ?_
   clear hp0
   obtain rfl := Option.some.inj h
   refine LoopQ.next ?_
   exact Red.auto
  ·replace h := bite_f h hc25
   refine awp_exit ?_
   (try simp only [Thn, InBlk, ↓reduceIte, Nat.reduceEqDiff])
   obtain rfl := Option.some.inj h
   refine LoopQ.out rfl ?_
   exact Red.auto
 ·clear hx
  skip
  ·try dsimp only [Sum.elim_inl, Sum.elim_inr] at h
   try dsimp only [Sum.elim_inl, Sum.elim_inr]
   refine hK14 _ _ ?_
   clear hK14
   refine awp_regS ftCOk [(2, .sl 1)] ?_
   refine awp_ret ?_
   obtain rfl := Option.some.inj h
   exact finQ [0, 1]
theorem k_laws_toState (a0_0 : Int) (a0_1 : List Int) (a0_2 : List Bool) (a0_3 : List (Int × Int × Int)) {r : Int × List Int × List Bool × (List (Int × Int × Int))} (h : laws_toState a0_0 a0_1 a0_2 a0_3 = some r) :
 FnA Try.prog 7 [.agg [.v (.int .i64 a0_0), .sl 0, .sl 1, .sl 2]] [.row false (.ints .i64 a0_1), .row false (.bools a0_2), .row false (.trips a0_3)] [] (fun x H => x = .agg [.v (.int .i64 r.1), .sl 3, .sl 4, .sl 5] ∧ H = [.row false (.ints .i64 a0_1), .row false (.bools a0_2), .row false (.trips a0_3), .row true (.ints .i64 r.2.1), .row true (.bools r.2.2.1), .row true (.trips r.2.2.2)]) := by
 unfold laws_toState at h
 refine FnA.ofA 20 [0, 1, 2] [.cell 2 34] Try.func7 en7 ?_
 refine awp_reg ftCOk [(1, .pp 3 0), (2, .pp 4 0)] [.row false (.ints .i64 a0_1), .row false (.bools a0_2), .row false (.trips a0_3), .box [.v (.int .i64 a0_0), .sl 0, .sl 1, .sl 2], .box [.v (.int .i64 0), .v (.slice none 0 0), .v (.slice none 0 0), .v (.slice none 0 0)]] ?_
 refine awp_freeze 1 (by rfl) (by rfl) (by exact rfl) ?_
 refine awp_reg ftCOk [(1, .pp 3 0), (2, .pp 4 0), (3, .pp 5 0)] [.row false (.ints .i64 a0_1), .row false (.bools a0_2), .row false (.trips a0_3), .rbox [.v (.int .i64 a0_0), .sl 0, .sl 1, .sl 2], .box [.v (.int .i64 0), .v (.slice none 0 0), .v (.slice none 0 0), .v (.slice none 0 0)], .box [.v (.int .i64 0), .v (.slice none 0 0), .v (.slice none 0 0), .v (.slice none 0 0)]] ?_
 refine awp_reg ftCOk [(1, .pp 3 0), (2, .pp 4 0), (3, .pp 5 0)] [.row false (.ints .i64 a0_1), .row false (.bools a0_2), .row false (.trips a0_3), .rbox [.v (.int .i64 a0_0), .sl 0, .sl 1, .sl 2], .box [.v (.int .i64 0), .v (.slice none 0 0), .v (.slice none 0 0), .v (.slice none 0 0)], .box [.v (.int .i64 a0_0), .v (.slice none 0 0), .v (.slice none 0 0), .v (.slice none 0 0)]] ?_
 replace ⟨y, hr0, h⟩ := bind_some h
 refine awp_regC ftCOk [(1, .pp 3 0), (2, .pp 4 0), (3, .pp 5 0)] [.row false (.ints .i64 a0_1), .row false (.bools a0_2), .row false (.trips a0_3), .rbox [.v (.int .i64 a0_0), .sl 0, .sl 1, .sl 2], .box [.v (.int .i64 0), .v (.slice none 0 0), .v (.slice none 0 0), .v (.slice none 0 0)], .box [.v (.int .i64 a0_0), .sl 6, .v (.slice none 0 0), .v (.slice none 0 0)], .row true (.ints .i64 y)] 2 [0] (k_laws_toIntS a0_1 (h := hr0)) ?_
 clear hr0
 replace ⟨y_1, hr0, h⟩ := bind_some h
 refine awp_regC ftCOk [(1, .pp 3 0), (2, .pp 4 0), (3, .pp 5 0)] [.row false (.ints .i64 a0_1), .row false (.bools a0_2), .row false (.trips a0_3), .rbox [.v (.int .i64 a0_0), .sl 0, .sl 1, .sl 2], .box [.v (.int .i64 0), .v (.slice none 0 0), .v (.slice none 0 0), .v (.slice none 0 0)], .box [.v (.int .i64 a0_0), .sl 6, .sl 7, .v (.slice none 0 0)], .row true (.ints .i64 y), .row true (.bools y_1)] 2 [1] (k_laws_toBoolS a0_2 (h := hr0)) ?_
 clear hr0
 replace ⟨y_2, hr0, h⟩ := bind_some h
 refine awp_regC ftCOk [(2, .pp 4 0), (3, .pp 5 0)] [.row false (.ints .i64 a0_1), .row false (.bools a0_2), .row false (.trips a0_3), .rbox [.v (.int .i64 a0_0), .sl 0, .sl 1, .sl 2], .box [.v (.int .i64 0), .v (.slice none 0 0), .v (.slice none 0 0), .v (.slice none 0 0)], .box [.v (.int .i64 a0_0), .sl 6, .sl 7, .sl 8], .row true (.ints .i64 y), .row true (.bools y_1), .row true (.trips y_2)] 2 [2] (k_laws_toMessageS a0_3 (h := hr0)) ?_
 clear hr0
 refine awp_reg ftCOk [(2, .pp 4 0)] [.row false (.ints .i64 a0_1), .row false (.bools a0_2), .row false (.trips a0_3), .rbox [.v (.int .i64 a0_0), .sl 0, .sl 1, .sl 2], .box [.v (.int .i64 a0_0), .sl 6, .sl 7, .sl 8], .box [.v (.int .i64 a0_0), .sl 6, .sl 7, .sl 8], .row true (.ints .i64 y), .row true (.bools y_1), .row true (.trips y_2)] ?_
 refine awp_ret ?_
 obtain rfl := Option.some.inj h
 exact finQ [0, 1, 2, 6, 7, 8]
theorem k_spec_BytesValid (a0 : List Int) {r : Bool} (h : spec_BytesValid a0 = some r) :
 FnA Try.prog 43 [.sl 0] [.row false (.ints .i64 a0)] [] (fun x H => x = .v (.bool r) ∧ H = [.row false (.ints .i64 a0)]) := by
 unfold spec_BytesValid at h
 refine FnA.ofA 19 [0] [.tmp 2] Try.func43 en43 ?_
 refine awp_regS ftCOk [(0, .sl 0)] ?_
 refine awp_seq fun K20 hK20 => ?_
 refine awp_regS ftCOk [(0, .sl 0), (3, .v (.int .i64 0))] ?_
 refine awp_block ?_
 replace h := bind_some h
 obtain ⟨x39, hx, h⟩ := h
 refine awp_loopL hx (fun (t3 : Int) => [(0, .sl 0), (3, .v (.int .i64 t3))]) (fun (t3 : Int) => [.row false (.ints .i64 a0)]) (Sum.elim (fun (_ : Unit) => Exit.exit 0) (fun (_ : Unit) => Exit.ret)) (Sum.elim (fun (_ : Unit) => [(0, .sl 0)]) (fun (_ : Unit) => [(2, .v (.bool false))])) (Sum.elim (fun (_ : Unit) => [.row false (.ints .i64 a0)]) (fun (_ : Unit) => [.row false (.ints .i64 a0)])) ?_ ?_ ?_ ?_
 ·rintro (⟨⟩ | ⟨⟩) hy <;> cases hy
 ·clear h hx
  exact Red.auto
 ·clear h hx
  rintro t3 r h
  unfold spec_BytesValid_b0 at h
  try dsimp only at h
  try dsimp only
  refine awp_seq fun K34 hK34 => ?_
  refine awp_regS ftCOk [(0, .sl 0), (3, .v (.int .i64 t3)), (7, .v (.bool (decide (t3 < (a0.length : Int)))))] ?_
  refine awp_cond (t := 7) rfl (fun hc35 => ?_) (fun hc35 => ?_)
  ·replace h := bite_t h hc35
   refine awp_skip ?_
   refine hK34 _ _ ?_
   clear hK34
   refine awp_seq fun K37 hK37 => ?_
   refine awp_block ?_
   replace ⟨hp0, h⟩ := chk_some h
   refine awp_regS ftCOk [(0, .sl 0), (3, .v (.int .i64 t3)), (15, .v (.bool (!(decide (0 ≤ (a0.getD t3.toNat 0)) && decide ((a0.getD t3.toNat 0) ≤ 255)))))] ?_
   clear hp0
   refine awp_cond (t := 15) rfl (fun hc38 => ?_) (fun hc38 => ?_)
   ·replace h := bite_t h hc38
    refine awp_regS ftCOk [(2, .v (.bool false))] ?_
    refine awp_ret ?_
    (try simp only [Thn, InBlk, ↓reduceIte, Nat.reduceEqDiff])
    obtain rfl := Option.some.inj h
    refine LoopQ.out rfl ?_
    exact Red.auto
   ·replace h := bite_f h hc38
    refine awp_skip ?_
    refine hK37 _ _ ?_
    clear hK37
    replace ⟨hp0, h⟩ := chk_some h
    refine awp_regES ftCOk [(0, .sl 0), (3, .v (.int .i64 (t3 + 1)))] ?_
    clear hp0
    obtain rfl := Option.some.inj h
    refine LoopQ.next ?_
    exact Red.auto
  ·replace h := bite_f h hc35
   refine awp_exit ?_
   (try simp only [Thn, InBlk, ↓reduceIte, Nat.reduceEqDiff])
   obtain rfl := Option.some.inj h
   refine LoopQ.out rfl ?_
   exact Red.auto
 ·clear hx
  rcases x39 with (⟨⟩ | ⟨⟩)
  ·try dsimp only [Sum.elim_inl, Sum.elim_inr] at h
   try dsimp only [Sum.elim_inl, Sum.elim_inr]
   refine hK20 _ _ ?_
   clear hK20
   refine awp_regS ftCOk [(2, .v (.bool (decide ((a0.length : Int) ≤ 2000))))] ?_
   refine awp_ret ?_
   obtain rfl := Option.some.inj h
   exact finQ [0]
  ·try dsimp only [Sum.elim_inl, Sum.elim_inr] at h
   try dsimp only [Sum.elim_inl, Sum.elim_inr]
   obtain rfl := Option.some.inj h
   exact finQ [0]
abbrev lz0_spec_DiskValid : Array Bool := #[true, true, true, true, true, true, false, false, false, false, false, false, false, false, false, false, false, false, false, false, false]
abbrev lz1_spec_DiskValid : Array Bool := #[true, true, true, true, true, true, true, true, true, true, true, true, true, true, true, true, true, true, true, true, true]
abbrev lz2_spec_DiskValid : Array Bool := #[true, true, true, true, true, true, true, true, true, true, true, true, true, true, true, true, true, true, false, false, false]
abbrev lz3_spec_DiskValid : Array Bool := #[true, true, true, true, true, true, true, true, true, true, true, true, true, true, true, true, true, false, false, false, false]
abbrev lz4_spec_DiskValid : Array Bool := #[true, true, true, true, true, true, true, true, true, true, true, true, true, true, true, true, false, false, false, false, false]
abbrev lz5_spec_DiskValid : Array Bool := #[true, true, true, true, true, true, true, true, true, true, true, true, true, true, false, true, true, false, false, false, false]
abbrev lz6_spec_DiskValid : Array Bool := #[true, true, true, true, true, true, true, true, true, true, true, true, true, true, false, true, false, false, false, false, false]
abbrev lz7_spec_DiskValid : Array Bool := #[true, true, true, true, true, true, true, true, true, true, true, true, true, false, false, true, true, false, false, false, false]
abbrev lz8_spec_DiskValid : Array Bool := #[true, true, true, true, true, true, true, true, true, true, true, true, true, false, false, true, false, false, false, false, false]
abbrev lz9_spec_DiskValid : Array Bool := #[true, true, true, true, true, true, true, true, true, true, true, false, true, true, false, true, true, false, false, false, false]
abbrev lz10_spec_DiskValid : Array Bool := #[true, true, true, true, true, true, true, true, true, true, true, false, true, true, false, true, false, false, false, false, false]
abbrev lz11_spec_DiskValid : Array Bool := #[true, true, true, true, true, true, true, true, true, true, true, false, true, false, false, true, true, false, false, false, false]
abbrev lz12_spec_DiskValid : Array Bool := #[true, true, true, true, true, true, true, true, true, true, true, false, true, false, false, true, false, false, false, false, false]
abbrev lz13_spec_DiskValid : Array Bool := #[true, true, true, true, true, true, true, true, false, false, false, false, false, false, false, false, false, false, false, false, false]
abbrev lz14_spec_DiskValid : Array Bool := #[true, true, true, true, true, true, true, false, false, false, false, false, false, false, false, false, false, false, false, false, false]
theorem k_spec_DiskValid (a0_0 : List Int) (a0_1 : List Int) {r : Bool} (h : spec_DiskValid a0_0 a0_1 = some r) :
 FnA Try.prog 32 [.agg [.sl 0, .sl 1]] [.row false (.ints .i64 a0_0), .row false (.ints .i64 a0_1)] [] (fun x H => x = .v (.bool r) ∧ H = [.row false (.ints .i64 a0_0), .row false (.ints .i64 a0_1)]) := by
 unfold spec_DiskValid at h
 refine FnA.ofA 23 [0, 1] [.tmp 2] Try.func32 en32 ?_
 refine awp_reg ftCOk [(1, .pp 2 0)] [.row false (.ints .i64 a0_0), .row false (.ints .i64 a0_1), .box [.sl 0, .sl 1]] ?_
 refine awp_freeze 1 (by rfl) (by rfl) (by exact rfl) ?_
 by_cases hb1 : (decide ((a0_0.length : Int) ≤ 2000)) = true
 ·replace h := bite_t h hb1
  have hb1d := hb1
  try simp only [decide_eq_true_eq, decide_eq_false_iff_not, beq_iff_eq, bne_iff_ne, ne_eq, beq_eq_false_iff_ne, bne_eq_false_iff_eq, Bool.not_eq_true', Bool.not_eq_false', Bool.and_eq_true, Bool.or_eq_true, Bool.and_eq_false_iff, Bool.or_eq_false_iff] at hb1d
  by_cases hb2 : (decide ((a0_1.length : Int) ≤ 2000)) = true
  ·replace h := bite_t h hb2
   have hb2d := hb2
   try simp only [decide_eq_true_eq, decide_eq_false_iff_not, beq_iff_eq, bne_iff_ne, ne_eq, beq_eq_false_iff_ne, bne_eq_false_iff_eq, Bool.not_eq_true', Bool.not_eq_false', Bool.and_eq_true, Bool.or_eq_true, Bool.and_eq_false_iff, Bool.or_eq_false_iff] at hb2d
   replace ⟨hp0, h⟩ := chk_some h
   replace ⟨hp1, h⟩ := chk_some h
   replace ⟨y, hr2, h⟩ := bind_some h
   refine awp_to [(2, .v (.bool y))] [.row false (.ints .i64 a0_0), .row false (.ints .i64 a0_1), .rbox [.sl 0, .sl 1], .row true (.ints .i64 (([] ++ a0_0) ++ a0_1))] ?_ ?_
   ·clear h
    intro K hK
    refine awp_drawT mixed ftCOk (.one 0 (.one 1 (.one 2 (.one 3 (.one 4 (.one 5 (.one 6 (.one 7 (.one 8 (.one 9 (.one 10 (.free 12 (.free 15 (.free 13 (.free 16 (.one 11 (.one 14 (.one 17 (.one 18 (.one 19 (.one 20 .fin))))))))))))))))))))) (by kernel_rfl) (by simp) ?_
    simp (maxSteps := 4000000) only [go_sem, Nat.reduceBEq, Nat.reduceLT, Nat.reduceAdd, Nat.reduceLeDiff, Nat.reduceSub, Nat.reduceEqDiff, Int.reduceToNat, reduceCtorEq, ↓reduceIte, hb1, hb1d, hb2, hb2d]
    repeat' (first | refine And.intro ?_ ?_ | intro hg)
    all_goals (try simp (disch := omega) only [wrap_fits])
    all_goals first
     | (refine hK _ _ ?_; exact Red.auto)
     | exact trivial
     | assumption
     | omega
     | exact wrap_fits (by omega) (by omega)
     | contradiction
     | (simp only [List.length_nil, List.length_append]; omega)
     | (refine OpK_callA (k_spec_BytesValid (([] ++ a0_0) ++ a0_1) (h := hr2)) [3] [] ?_
        rintro x Hc' ⟨rfl, rfl⟩ hlen
        simp (maxSteps := 4000000) only [go_sem, Nat.reduceBEq, Nat.reduceLT, Nat.reduceAdd, Nat.reduceLeDiff, Nat.reduceSub, Nat.reduceEqDiff, Int.reduceToNat, reduceCtorEq, ↓reduceIte, hb1, hb1d, hb2, hb2d]
        repeat' (first | refine And.intro ?_ ?_ | intro hg)
        all_goals (try simp (disch := omega) only [wrap_fits])
        all_goals first
         | (refine hK _ _ ?_; exact Red.auto)
         | exact trivial
         | assumption
         | omega
         | exact wrap_fits (by omega) (by omega)
         | contradiction
         | (simp only [List.length_nil, List.length_append]; omega)
         | (simp (maxSteps := 4000000) only [go_sem, Nat.reduceBEq, Nat.reduceLT, Nat.reduceAdd, Nat.reduceLeDiff, Nat.reduceSub, Nat.reduceEqDiff, Int.reduceToNat, reduceCtorEq, ↓reduceIte, hb1, hb1d, hb2, hb2d]
            repeat' (first | refine And.intro ?_ ?_ | intro hg)
            all_goals (try simp (disch := omega) only [wrap_fits])
            all_goals first | (refine hK _ _ ?_; exact Red.auto) | exact trivial | assumption | omega | exact wrap_fits (by omega) (by omega) | contradiction | (simp only [List.length_nil, List.length_append]; omega))
         | (simp_all; done)
         | (simp_all; omega))
     | (simp_all; done)
     | (simp_all; omega)
   ·clear hp0 hp1 hr2
    refine awp_ret ?_
    obtain rfl := Option.some.inj h
    exact finQ [0, 1]
  ·rw [Bool.not_eq_true] at hb2
   replace h := bite_f h hb2
   have hb2d := hb2
   try simp only [decide_eq_true_eq, decide_eq_false_iff_not, beq_iff_eq, bne_iff_ne, ne_eq, beq_eq_false_iff_ne, bne_eq_false_iff_eq, Bool.not_eq_true', Bool.not_eq_false', Bool.and_eq_true, Bool.or_eq_true, Bool.and_eq_false_iff, Bool.or_eq_false_iff] at hb2d
   refine awp_to [(2, .v (.bool false))] [.row false (.ints .i64 a0_0), .row false (.ints .i64 a0_1), .rbox [.sl 0, .sl 1]] ?_ ?_
   ·clear h
    intro K hK
    refine awp_drawL [0, 1, 2] [0, 1, 2, 3, 4, 5, 6, 7, 8, 9, 10, 12, 15] 8 lz12_spec_DiskValid mixed ftCOk (by kernel_rfl) (by first | rfl | kernel_rfl) (by rfl) (by simp) fun L hL => ?_
    have n6 : L 0 lz1_spec_DiskValid [(1, .pp 2 0), (2, .v (.bool false)), (3, .pp 2 0), (4, .sl 0), (5, .v (.int .i64 (a0_0.length : Int))), (6, .v (.bool true)), (7, .v (.bool true)), (8, .pp 2 1), (9, .sl 1), (10, .v (.int .i64 (a0_1.length : Int))), (11, .v (.bool false)), (12, .v (.bool false)), (13, .v (.bool false)), (14, .v (.tuple #[])), (15, .v (.tuple #[])), (16, .v (.tuple #[])), (17, .v (.tuple #[])), (18, .v (.tuple #[])), (19, .v (.tuple #[])), (20, .v (.tuple #[])), (21, .v (.tuple #[])), (22, .v (.bool false))] [.row false (.ints .i64 a0_0), .row false (.ints .i64 a0_1), .rbox [.sl 0, .sl 1]] := by
     exact hL.fin (by kernel_rfl) (hK _ _ Red.auto)
    have n5 : L 3 lz2_spec_DiskValid [(1, .pp 2 0), (3, .pp 2 0), (4, .sl 0), (5, .v (.int .i64 (a0_0.length : Int))), (6, .v (.bool true)), (7, .v (.bool true)), (8, .pp 2 1), (9, .sl 1), (10, .v (.int .i64 (a0_1.length : Int))), (11, .v (.bool false)), (12, .v (.bool false)), (13, .v (.bool false)), (14, .v (.tuple #[])), (15, .v (.tuple #[])), (16, .v (.tuple #[])), (17, .v (.tuple #[])), (18, .v (.tuple #[])), (19, .v (.tuple #[])), (20, .v (.tuple #[]))] [.row false (.ints .i64 a0_0), .row false (.ints .i64 a0_1), .rbox [.sl 0, .sl 1]] := by
     refine hL.step [(18, [19, 20], 0, lz1_spec_DiskValid)] (by kernel_rfl) ⟨?_, trivial⟩
     ·simp (maxSteps := 4000000) only [go_sem, Nat.reduceBEq, Nat.reduceLT, Nat.reduceAdd, Nat.reduceLeDiff, Nat.reduceSub, Nat.reduceEqDiff, Int.reduceToNat, reduceCtorEq, ↓reduceIte, hb1, hb1d, hb2, hb2d]
      repeat' (first | refine And.intro ?_ ?_ | intro hg)
      all_goals (try simp (disch := omega) only [wrap_fits])
      all_goals first
       | (refine hL.red ?_ n6; exact Red.auto)
       | exact trivial
       | assumption
       | omega
       | exact wrap_fits (by omega) (by omega)
       | (simp (maxSteps := 4000000) only [go_sem, Nat.reduceBEq, Nat.reduceLT, Nat.reduceAdd, Nat.reduceLeDiff, Nat.reduceSub, Nat.reduceEqDiff, Int.reduceToNat, reduceCtorEq, ↓reduceIte, hb1, hb1d, hb2, hb2d]
          repeat' (first | refine And.intro ?_ ?_ | intro hg)
          all_goals (try simp (disch := omega) only [wrap_fits])
          all_goals first | (refine hL.red ?_ n6; exact Red.auto) | exact trivial | assumption | omega | exact wrap_fits (by omega) (by omega))
       | (simp_all; done)
       | (simp_all; omega)
    have n4 : L 4 lz3_spec_DiskValid [(1, .pp 2 0), (3, .pp 2 0), (4, .sl 0), (5, .v (.int .i64 (a0_0.length : Int))), (6, .v (.bool true)), (7, .v (.bool true)), (8, .pp 2 1), (9, .sl 1), (10, .v (.int .i64 (a0_1.length : Int))), (11, .v (.bool false)), (12, .v (.bool false)), (13, .v (.bool false)), (14, .v (.tuple #[])), (15, .v (.tuple #[])), (16, .v (.tuple #[])), (17, .v (.tuple #[])), (18, .v (.tuple #[])), (19, .v (.tuple #[]))] [.row false (.ints .i64 a0_0), .row false (.ints .i64 a0_1), .rbox [.sl 0, .sl 1]] := by
     refine hL.step [(17, [], 3, lz2_spec_DiskValid)] (by kernel_rfl) ⟨?_, trivial⟩
     ·simp (maxSteps := 4000000) only [go_sem, Nat.reduceBEq, Nat.reduceLT, Nat.reduceAdd, Nat.reduceLeDiff, Nat.reduceSub, Nat.reduceEqDiff, Int.reduceToNat, reduceCtorEq, ↓reduceIte, hb1, hb1d, hb2, hb2d]
      repeat' (first | refine And.intro ?_ ?_ | intro hg)
      all_goals (try simp (disch := omega) only [wrap_fits])
      all_goals first
       | (refine hL.red ?_ n5; exact Red.auto)
       | exact trivial
       | assumption
       | omega
       | exact wrap_fits (by omega) (by omega)
       | (simp (maxSteps := 4000000) only [go_sem, Nat.reduceBEq, Nat.reduceLT, Nat.reduceAdd, Nat.reduceLeDiff, Nat.reduceSub, Nat.reduceEqDiff, Int.reduceToNat, reduceCtorEq, ↓reduceIte, hb1, hb1d, hb2, hb2d]
          repeat' (first | refine And.intro ?_ ?_ | intro hg)
          all_goals (try simp (disch := omega) only [wrap_fits])
          all_goals first | (refine hL.red ?_ n5; exact Red.auto) | exact trivial | assumption | omega | exact wrap_fits (by omega) (by omega))
       | (simp_all; done)
       | (simp_all; omega)
    have n3 : L 5 lz4_spec_DiskValid [(1, .pp 2 0), (3, .pp 2 0), (4, .sl 0), (5, .v (.int .i64 (a0_0.length : Int))), (6, .v (.bool true)), (7, .v (.bool true)), (8, .pp 2 1), (9, .sl 1), (10, .v (.int .i64 (a0_1.length : Int))), (11, .v (.bool false)), (12, .v (.bool false)), (13, .v (.bool false)), (14, .v (.tuple #[])), (15, .v (.tuple #[])), (16, .v (.tuple #[])), (17, .v (.tuple #[])), (18, .v (.tuple #[]))] [.row false (.ints .i64 a0_0), .row false (.ints .i64 a0_1), .rbox [.sl 0, .sl 1]] := by
     refine hL.step [(16, [], 4, lz3_spec_DiskValid)] (by kernel_rfl) ⟨?_, trivial⟩
     ·simp (maxSteps := 4000000) only [go_sem, Nat.reduceBEq, Nat.reduceLT, Nat.reduceAdd, Nat.reduceLeDiff, Nat.reduceSub, Nat.reduceEqDiff, Int.reduceToNat, reduceCtorEq, ↓reduceIte, hb1, hb1d, hb2, hb2d]
      repeat' (first | refine And.intro ?_ ?_ | intro hg)
      all_goals (try simp (disch := omega) only [wrap_fits])
      all_goals first
       | (refine hL.red ?_ n4; exact Red.auto)
       | exact trivial
       | assumption
       | omega
       | exact wrap_fits (by omega) (by omega)
       | (simp (maxSteps := 4000000) only [go_sem, Nat.reduceBEq, Nat.reduceLT, Nat.reduceAdd, Nat.reduceLeDiff, Nat.reduceSub, Nat.reduceEqDiff, Int.reduceToNat, reduceCtorEq, ↓reduceIte, hb1, hb1d, hb2, hb2d]
          repeat' (first | refine And.intro ?_ ?_ | intro hg)
          all_goals (try simp (disch := omega) only [wrap_fits])
          all_goals first | (refine hL.red ?_ n4; exact Red.auto) | exact trivial | assumption | omega | exact wrap_fits (by omega) (by omega))
       | (simp_all; done)
       | (simp_all; omega)
    have n7 : L 5 lz5_spec_DiskValid [(1, .pp 2 0), (3, .pp 2 0), (4, .sl 0), (5, .v (.int .i64 (a0_0.length : Int))), (6, .v (.bool true)), (7, .v (.bool true)), (8, .pp 2 1), (9, .sl 1), (10, .v (.int .i64 (a0_1.length : Int))), (11, .v (.bool false)), (12, .v (.bool false)), (13, .v (.bool false)), (14, .v (.tuple #[])), (15, .v (.tuple #[])), (16, .v (.tuple #[])), (18, .v (.tuple #[])), (19, .v (.tuple #[]))] [.row false (.ints .i64 a0_0), .row false (.ints .i64 a0_1), .rbox [.sl 0, .sl 1]] := by
     refine hL.step [(14, [], 4, lz3_spec_DiskValid)] (by kernel_rfl) ⟨?_, trivial⟩
     ·simp (maxSteps := 4000000) only [go_sem, Nat.reduceBEq, Nat.reduceLT, Nat.reduceAdd, Nat.reduceLeDiff, Nat.reduceSub, Nat.reduceEqDiff, Int.reduceToNat, reduceCtorEq, ↓reduceIte, hb1, hb1d, hb2, hb2d]
      repeat' (first | refine And.intro ?_ ?_ | intro hg)
      all_goals (try simp (disch := omega) only [wrap_fits])
      all_goals first
       | (refine hL.red ?_ n4; exact Red.auto)
       | exact trivial
       | assumption
       | omega
       | exact wrap_fits (by omega) (by omega)
       | (simp (maxSteps := 4000000) only [go_sem, Nat.reduceBEq, Nat.reduceLT, Nat.reduceAdd, Nat.reduceLeDiff, Nat.reduceSub, Nat.reduceEqDiff, Int.reduceToNat, reduceCtorEq, ↓reduceIte, hb1, hb1d, hb2, hb2d]
          repeat' (first | refine And.intro ?_ ?_ | intro hg)
          all_goals (try simp (disch := omega) only [wrap_fits])
          all_goals first | (refine hL.red ?_ n4; exact Red.auto) | exact trivial | assumption | omega | exact wrap_fits (by omega) (by omega))
       | (simp_all; done)
       | (simp_all; omega)
    have n2 : L 6 lz6_spec_DiskValid [(1, .pp 2 0), (3, .pp 2 0), (4, .sl 0), (5, .v (.int .i64 (a0_0.length : Int))), (6, .v (.bool true)), (7, .v (.bool true)), (8, .pp 2 1), (9, .sl 1), (10, .v (.int .i64 (a0_1.length : Int))), (11, .v (.bool false)), (12, .v (.bool false)), (13, .v (.bool false)), (14, .v (.tuple #[])), (15, .v (.tuple #[])), (16, .v (.tuple #[])), (18, .v (.tuple #[]))] [.row false (.ints .i64 a0_0), .row false (.ints .i64 a0_1), .rbox [.sl 0, .sl 1]] := by
     refine hL.step [(14, [], 5, lz4_spec_DiskValid), (16, [], 5, lz5_spec_DiskValid)] (by kernel_rfl) ⟨?_, ?_, trivial⟩
     ·simp (maxSteps := 4000000) only [go_sem, Nat.reduceBEq, Nat.reduceLT, Nat.reduceAdd, Nat.reduceLeDiff, Nat.reduceSub, Nat.reduceEqDiff, Int.reduceToNat, reduceCtorEq, ↓reduceIte, hb1, hb1d, hb2, hb2d]
      repeat' (first | refine And.intro ?_ ?_ | intro hg)
      all_goals (try simp (disch := omega) only [wrap_fits])
      all_goals first
       | (refine hL.red ?_ n3; exact Red.auto)
       | exact trivial
       | assumption
       | omega
       | exact wrap_fits (by omega) (by omega)
       | (simp (maxSteps := 4000000) only [go_sem, Nat.reduceBEq, Nat.reduceLT, Nat.reduceAdd, Nat.reduceLeDiff, Nat.reduceSub, Nat.reduceEqDiff, Int.reduceToNat, reduceCtorEq, ↓reduceIte, hb1, hb1d, hb2, hb2d]
          repeat' (first | refine And.intro ?_ ?_ | intro hg)
          all_goals (try simp (disch := omega) only [wrap_fits])
          all_goals first | (refine hL.red ?_ n3; exact Red.auto) | exact trivial | assumption | omega | exact wrap_fits (by omega) (by omega))
       | (simp_all; done)
       | (simp_all; omega)
     ·simp (maxSteps := 4000000) only [go_sem, Nat.reduceBEq, Nat.reduceLT, Nat.reduceAdd, Nat.reduceLeDiff, Nat.reduceSub, Nat.reduceEqDiff, Int.reduceToNat, reduceCtorEq, ↓reduceIte, hb1, hb1d, hb2, hb2d]
      repeat' (first | refine And.intro ?_ ?_ | intro hg)
      all_goals (try simp (disch := omega) only [wrap_fits])
      all_goals first
       | (refine hL.red ?_ n7; exact Red.auto)
       | exact trivial
       | assumption
       | omega
       | exact wrap_fits (by omega) (by omega)
       | (simp (maxSteps := 4000000) only [go_sem, Nat.reduceBEq, Nat.reduceLT, Nat.reduceAdd, Nat.reduceLeDiff, Nat.reduceSub, Nat.reduceEqDiff, Int.reduceToNat, reduceCtorEq, ↓reduceIte, hb1, hb1d, hb2, hb2d]
          repeat' (first | refine And.intro ?_ ?_ | intro hg)
          all_goals (try simp (disch := omega) only [wrap_fits])
          all_goals first | (refine hL.red ?_ n7; exact Red.auto) | exact trivial | assumption | omega | exact wrap_fits (by omega) (by omega))
       | (simp_all; done)
       | (simp_all; omega)
    have n8 : L 6 lz7_spec_DiskValid [(1, .pp 2 0), (3, .pp 2 0), (4, .sl 0), (5, .v (.int .i64 (a0_0.length : Int))), (6, .v (.bool true)), (7, .v (.bool true)), (8, .pp 2 1), (9, .sl 1), (10, .v (.int .i64 (a0_1.length : Int))), (11, .v (.bool false)), (12, .v (.bool false)), (13, .v (.bool false)), (14, .v (.tuple #[])), (15, .v (.tuple #[])), (18, .v (.tuple #[])), (19, .v (.tuple #[]))] [.row false (.ints .i64 a0_0), .row false (.ints .i64 a0_1), .rbox [.sl 0, .sl 1]] := by
     refine hL.step [(13, [], 5, lz5_spec_DiskValid)] (by kernel_rfl) ⟨?_, trivial⟩
     ·simp (maxSteps := 4000000) only [go_sem, Nat.reduceBEq, Nat.reduceLT, Nat.reduceAdd, Nat.reduceLeDiff, Nat.reduceSub, Nat.reduceEqDiff, Int.reduceToNat, reduceCtorEq, ↓reduceIte, hb1, hb1d, hb2, hb2d]
      repeat' (first | refine And.intro ?_ ?_ | intro hg)
      all_goals (try simp (disch := omega) only [wrap_fits])
      all_goals first
       | (refine hL.red ?_ n7; exact Red.auto)
       | exact trivial
       | assumption
       | omega
       | exact wrap_fits (by omega) (by omega)
       | (simp (maxSteps := 4000000) only [go_sem, Nat.reduceBEq, Nat.reduceLT, Nat.reduceAdd, Nat.reduceLeDiff, Nat.reduceSub, Nat.reduceEqDiff, Int.reduceToNat, reduceCtorEq, ↓reduceIte, hb1, hb1d, hb2, hb2d]
          repeat' (first | refine And.intro ?_ ?_ | intro hg)
          all_goals (try simp (disch := omega) only [wrap_fits])
          all_goals first | (refine hL.red ?_ n7; exact Red.auto) | exact trivial | assumption | omega | exact wrap_fits (by omega) (by omega))
       | (simp_all; done)
       | (simp_all; omega)
    have n1 : L 7 lz8_spec_DiskValid [(1, .pp 2 0), (3, .pp 2 0), (4, .sl 0), (5, .v (.int .i64 (a0_0.length : Int))), (6, .v (.bool true)), (7, .v (.bool true)), (8, .pp 2 1), (9, .sl 1), (10, .v (.int .i64 (a0_1.length : Int))), (11, .v (.bool false)), (12, .v (.bool false)), (13, .v (.bool false)), (14, .v (.tuple #[])), (15, .v (.tuple #[])), (18, .v (.tuple #[]))] [.row false (.ints .i64 a0_0), .row false (.ints .i64 a0_1), .rbox [.sl 0, .sl 1]] := by
     refine hL.step [(13, [], 6, lz6_spec_DiskValid), (16, [], 6, lz7_spec_DiskValid)] (by kernel_rfl) ⟨?_, ?_, trivial⟩
     ·simp (maxSteps := 4000000) only [go_sem, Nat.reduceBEq, Nat.reduceLT, Nat.reduceAdd, Nat.reduceLeDiff, Nat.reduceSub, Nat.reduceEqDiff, Int.reduceToNat, reduceCtorEq, ↓reduceIte, hb1, hb1d, hb2, hb2d]
      repeat' (first | refine And.intro ?_ ?_ | intro hg)
      all_goals (try simp (disch := omega) only [wrap_fits])
      all_goals first
       | (refine hL.red ?_ n2; exact Red.auto)
       | exact trivial
       | assumption
       | omega
       | exact wrap_fits (by omega) (by omega)
       | (simp (maxSteps := 4000000) only [go_sem, Nat.reduceBEq, Nat.reduceLT, Nat.reduceAdd, Nat.reduceLeDiff, Nat.reduceSub, Nat.reduceEqDiff, Int.reduceToNat, reduceCtorEq, ↓reduceIte, hb1, hb1d, hb2, hb2d]
          repeat' (first | refine And.intro ?_ ?_ | intro hg)
          all_goals (try simp (disch := omega) only [wrap_fits])
          all_goals first | (refine hL.red ?_ n2; exact Red.auto) | exact trivial | assumption | omega | exact wrap_fits (by omega) (by omega))
       | (simp_all; done)
       | (simp_all; omega)
     ·simp (maxSteps := 4000000) only [go_sem, Nat.reduceBEq, Nat.reduceLT, Nat.reduceAdd, Nat.reduceLeDiff, Nat.reduceSub, Nat.reduceEqDiff, Int.reduceToNat, reduceCtorEq, ↓reduceIte, hb1, hb1d, hb2, hb2d]
      repeat' (first | refine And.intro ?_ ?_ | intro hg)
      all_goals (try simp (disch := omega) only [wrap_fits])
      all_goals first
       | (refine hL.red ?_ n8; exact Red.auto)
       | exact trivial
       | assumption
       | omega
       | exact wrap_fits (by omega) (by omega)
       | (simp (maxSteps := 4000000) only [go_sem, Nat.reduceBEq, Nat.reduceLT, Nat.reduceAdd, Nat.reduceLeDiff, Nat.reduceSub, Nat.reduceEqDiff, Int.reduceToNat, reduceCtorEq, ↓reduceIte, hb1, hb1d, hb2, hb2d]
          repeat' (first | refine And.intro ?_ ?_ | intro hg)
          all_goals (try simp (disch := omega) only [wrap_fits])
          all_goals first | (refine hL.red ?_ n8; exact Red.auto) | exact trivial | assumption | omega | exact wrap_fits (by omega) (by omega))
       | (simp_all; done)
       | (simp_all; omega)
    have n10 : L 6 lz9_spec_DiskValid [(1, .pp 2 0), (3, .pp 2 0), (4, .sl 0), (5, .v (.int .i64 (a0_0.length : Int))), (6, .v (.bool true)), (7, .v (.bool true)), (8, .pp 2 1), (9, .sl 1), (10, .v (.int .i64 (a0_1.length : Int))), (11, .v (.bool false)), (12, .v (.bool false)), (13, .v (.bool false)), (15, .v (.tuple #[])), (16, .v (.tuple #[])), (18, .v (.tuple #[])), (19, .v (.tuple #[]))] [.row false (.ints .i64 a0_0), .row false (.ints .i64 a0_1), .rbox [.sl 0, .sl 1]] := by
     refine hL.step [(11, [], 5, lz5_spec_DiskValid)] (by kernel_rfl) ⟨?_, trivial⟩
     ·simp (maxSteps := 4000000) only [go_sem, Nat.reduceBEq, Nat.reduceLT, Nat.reduceAdd, Nat.reduceLeDiff, Nat.reduceSub, Nat.reduceEqDiff, Int.reduceToNat, reduceCtorEq, ↓reduceIte, hb1, hb1d, hb2, hb2d]
      repeat' (first | refine And.intro ?_ ?_ | intro hg)
      all_goals (try simp (disch := omega) only [wrap_fits])
      all_goals first
       | (refine hL.red ?_ n7; exact Red.auto)
       | exact trivial
       | assumption
       | omega
       | exact wrap_fits (by omega) (by omega)
       | (simp (maxSteps := 4000000) only [go_sem, Nat.reduceBEq, Nat.reduceLT, Nat.reduceAdd, Nat.reduceLeDiff, Nat.reduceSub, Nat.reduceEqDiff, Int.reduceToNat, reduceCtorEq, ↓reduceIte, hb1, hb1d, hb2, hb2d]
          repeat' (first | refine And.intro ?_ ?_ | intro hg)
          all_goals (try simp (disch := omega) only [wrap_fits])
          all_goals first | (refine hL.red ?_ n7; exact Red.auto) | exact trivial | assumption | omega | exact wrap_fits (by omega) (by omega))
       | (simp_all; done)
       | (simp_all; omega)
    have n9 : L 7 lz10_spec_DiskValid [(1, .pp 2 0), (3, .pp 2 0), (4, .sl 0), (5, .v (.int .i64 (a0_0.length : Int))), (6, .v (.bool true)), (7, .v (.bool true)), (8, .pp 2 1), (9, .sl 1), (10, .v (.int .i64 (a0_1.length : Int))), (11, .v (.bool false)), (12, .v (.bool false)), (13, .v (.bool false)), (15, .v (.tuple #[])), (16, .v (.tuple #[])), (18, .v (.tuple #[]))] [.row false (.ints .i64 a0_0), .row false (.ints .i64 a0_1), .rbox [.sl 0, .sl 1]] := by
     refine hL.step [(11, [], 6, lz6_spec_DiskValid), (16, [], 6, lz9_spec_DiskValid)] (by kernel_rfl) ⟨?_, ?_, trivial⟩
     ·simp (maxSteps := 4000000) only [go_sem, Nat.reduceBEq, Nat.reduceLT, Nat.reduceAdd, Nat.reduceLeDiff, Nat.reduceSub, Nat.reduceEqDiff, Int.reduceToNat, reduceCtorEq, ↓reduceIte, hb1, hb1d, hb2, hb2d]
      repeat' (first | refine And.intro ?_ ?_ | intro hg)
      all_goals (try simp (disch := omega) only [wrap_fits])
      all_goals first
       | (refine hL.red ?_ n2; exact Red.auto)
       | exact trivial
       | assumption
       | omega
       | exact wrap_fits (by omega) (by omega)
       | (simp (maxSteps := 4000000) only [go_sem, Nat.reduceBEq, Nat.reduceLT, Nat.reduceAdd, Nat.reduceLeDiff, Nat.reduceSub, Nat.reduceEqDiff, Int.reduceToNat, reduceCtorEq, ↓reduceIte, hb1, hb1d, hb2, hb2d]
          repeat' (first | refine And.intro ?_ ?_ | intro hg)
          all_goals (try simp (disch := omega) only [wrap_fits])
          all_goals first | (refine hL.red ?_ n2; exact Red.auto) | exact trivial | assumption | omega | exact wrap_fits (by omega) (by omega))
       | (simp_all; done)
       | (simp_all; omega)
     ·simp (maxSteps := 4000000) only [go_sem, Nat.reduceBEq, Nat.reduceLT, Nat.reduceAdd, Nat.reduceLeDiff, Nat.reduceSub, Nat.reduceEqDiff, Int.reduceToNat, reduceCtorEq, ↓reduceIte, hb1, hb1d, hb2, hb2d]
      repeat' (first | refine And.intro ?_ ?_ | intro hg)
      all_goals (try simp (disch := omega) only [wrap_fits])
      all_goals first
       | (refine hL.red ?_ n10; exact Red.auto)
       | exact trivial
       | assumption
       | omega
       | exact wrap_fits (by omega) (by omega)
       | (simp (maxSteps := 4000000) only [go_sem, Nat.reduceBEq, Nat.reduceLT, Nat.reduceAdd, Nat.reduceLeDiff, Nat.reduceSub, Nat.reduceEqDiff, Int.reduceToNat, reduceCtorEq, ↓reduceIte, hb1, hb1d, hb2, hb2d]
          repeat' (first | refine And.intro ?_ ?_ | intro hg)
          all_goals (try simp (disch := omega) only [wrap_fits])
          all_goals first | (refine hL.red ?_ n10; exact Red.auto) | exact trivial | assumption | omega | exact wrap_fits (by omega) (by omega))
       | (simp_all; done)
       | (simp_all; omega)
    have n11 : L 7 lz11_spec_DiskValid [(1, .pp 2 0), (3, .pp 2 0), (4, .sl 0), (5, .v (.int .i64 (a0_0.length : Int))), (6, .v (.bool true)), (7, .v (.bool true)), (8, .pp 2 1), (9, .sl 1), (10, .v (.int .i64 (a0_1.length : Int))), (11, .v (.bool false)), (12, .v (.bool false)), (13, .v (.bool false)), (15, .v (.tuple #[])), (18, .v (.tuple #[])), (19, .v (.tuple #[]))] [.row false (.ints .i64 a0_0), .row false (.ints .i64 a0_1), .rbox [.sl 0, .sl 1]] := by
     refine hL.step [(11, [], 6, lz7_spec_DiskValid), (13, [], 6, lz9_spec_DiskValid)] (by kernel_rfl) ⟨?_, ?_, trivial⟩
     ·simp (maxSteps := 4000000) only [go_sem, Nat.reduceBEq, Nat.reduceLT, Nat.reduceAdd, Nat.reduceLeDiff, Nat.reduceSub, Nat.reduceEqDiff, Int.reduceToNat, reduceCtorEq, ↓reduceIte, hb1, hb1d, hb2, hb2d]
      repeat' (first | refine And.intro ?_ ?_ | intro hg)
      all_goals (try simp (disch := omega) only [wrap_fits])
      all_goals first
       | (refine hL.red ?_ n8; exact Red.auto)
       | exact trivial
       | assumption
       | omega
       | exact wrap_fits (by omega) (by omega)
       | (simp (maxSteps := 4000000) only [go_sem, Nat.reduceBEq, Nat.reduceLT, Nat.reduceAdd, Nat.reduceLeDiff, Nat.reduceSub, Nat.reduceEqDiff, Int.reduceToNat, reduceCtorEq, ↓reduceIte, hb1, hb1d, hb2, hb2d]
          repeat' (first | refine And.intro ?_ ?_ | intro hg)
          all_goals (try simp (disch := omega) only [wrap_fits])
          all_goals first | (refine hL.red ?_ n8; exact Red.auto) | exact trivial | assumption | omega | exact wrap_fits (by omega) (by omega))
       | (simp_all; done)
       | (simp_all; omega)
     ·simp (maxSteps := 4000000) only [go_sem, Nat.reduceBEq, Nat.reduceLT, Nat.reduceAdd, Nat.reduceLeDiff, Nat.reduceSub, Nat.reduceEqDiff, Int.reduceToNat, reduceCtorEq, ↓reduceIte, hb1, hb1d, hb2, hb2d]
      repeat' (first | refine And.intro ?_ ?_ | intro hg)
      all_goals (try simp (disch := omega) only [wrap_fits])
      all_goals first
       | (refine hL.red ?_ n10; exact Red.auto)
       | exact trivial
       | assumption
       | omega
       | exact wrap_fits (by omega) (by omega)
       | (simp (maxSteps := 4000000) only [go_sem, Nat.reduceBEq, Nat.reduceLT, Nat.reduceAdd, Nat.reduceLeDiff, Nat.reduceSub, Nat.reduceEqDiff, Int.reduceToNat, reduceCtorEq, ↓reduceIte, hb1, hb1d, hb2, hb2d]
          repeat' (first | refine And.intro ?_ ?_ | intro hg)
          all_goals (try simp (disch := omega) only [wrap_fits])
          all_goals first | (refine hL.red ?_ n10; exact Red.auto) | exact trivial | assumption | omega | exact wrap_fits (by omega) (by omega))
       | (simp_all; done)
       | (simp_all; omega)
    have n0 : L 8 lz12_spec_DiskValid [(1, .pp 2 0), (3, .pp 2 0), (4, .sl 0), (5, .v (.int .i64 (a0_0.length : Int))), (6, .v (.bool true)), (7, .v (.bool true)), (8, .pp 2 1), (9, .sl 1), (10, .v (.int .i64 (a0_1.length : Int))), (11, .v (.bool false)), (12, .v (.bool false)), (13, .v (.bool false)), (15, .v (.tuple #[])), (18, .v (.tuple #[]))] [.row false (.ints .i64 a0_0), .row false (.ints .i64 a0_1), .rbox [.sl 0, .sl 1]] := by
     refine hL.step [(11, [], 7, lz8_spec_DiskValid), (13, [], 7, lz10_spec_DiskValid), (16, [], 7, lz11_spec_DiskValid)] (by kernel_rfl) ⟨?_, ?_, ?_, trivial⟩
     ·simp (maxSteps := 4000000) only [go_sem, Nat.reduceBEq, Nat.reduceLT, Nat.reduceAdd, Nat.reduceLeDiff, Nat.reduceSub, Nat.reduceEqDiff, Int.reduceToNat, reduceCtorEq, ↓reduceIte, hb1, hb1d, hb2, hb2d]
      repeat' (first | refine And.intro ?_ ?_ | intro hg)
      all_goals (try simp (disch := omega) only [wrap_fits])
      all_goals first
       | (refine hL.red ?_ n1; exact Red.auto)
       | exact trivial
       | assumption
       | omega
       | exact wrap_fits (by omega) (by omega)
       | (simp (maxSteps := 4000000) only [go_sem, Nat.reduceBEq, Nat.reduceLT, Nat.reduceAdd, Nat.reduceLeDiff, Nat.reduceSub, Nat.reduceEqDiff, Int.reduceToNat, reduceCtorEq, ↓reduceIte, hb1, hb1d, hb2, hb2d]
          repeat' (first | refine And.intro ?_ ?_ | intro hg)
          all_goals (try simp (disch := omega) only [wrap_fits])
          all_goals first | (refine hL.red ?_ n1; exact Red.auto) | exact trivial | assumption | omega | exact wrap_fits (by omega) (by omega))
       | (simp_all; done)
       | (simp_all; omega)
     ·simp (maxSteps := 4000000) only [go_sem, Nat.reduceBEq, Nat.reduceLT, Nat.reduceAdd, Nat.reduceLeDiff, Nat.reduceSub, Nat.reduceEqDiff, Int.reduceToNat, reduceCtorEq, ↓reduceIte, hb1, hb1d, hb2, hb2d]
      repeat' (first | refine And.intro ?_ ?_ | intro hg)
      all_goals (try simp (disch := omega) only [wrap_fits])
      all_goals first
       | (refine hL.red ?_ n9; exact Red.auto)
       | exact trivial
       | assumption
       | omega
       | exact wrap_fits (by omega) (by omega)
       | (simp (maxSteps := 4000000) only [go_sem, Nat.reduceBEq, Nat.reduceLT, Nat.reduceAdd, Nat.reduceLeDiff, Nat.reduceSub, Nat.reduceEqDiff, Int.reduceToNat, reduceCtorEq, ↓reduceIte, hb1, hb1d, hb2, hb2d]
          repeat' (first | refine And.intro ?_ ?_ | intro hg)
          all_goals (try simp (disch := omega) only [wrap_fits])
          all_goals first | (refine hL.red ?_ n9; exact Red.auto) | exact trivial | assumption | omega | exact wrap_fits (by omega) (by omega))
       | (simp_all; done)
       | (simp_all; omega)
     ·simp (maxSteps := 4000000) only [go_sem, Nat.reduceBEq, Nat.reduceLT, Nat.reduceAdd, Nat.reduceLeDiff, Nat.reduceSub, Nat.reduceEqDiff, Int.reduceToNat, reduceCtorEq, ↓reduceIte, hb1, hb1d, hb2, hb2d]
      repeat' (first | refine And.intro ?_ ?_ | intro hg)
      all_goals (try simp (disch := omega) only [wrap_fits])
      all_goals first
       | (refine hL.red ?_ n11; exact Red.auto)
       | exact trivial
       | assumption
       | omega
       | exact wrap_fits (by omega) (by omega)
       | (simp (maxSteps := 4000000) only [go_sem, Nat.reduceBEq, Nat.reduceLT, Nat.reduceAdd, Nat.reduceLeDiff, Nat.reduceSub, Nat.reduceEqDiff, Int.reduceToNat, reduceCtorEq, ↓reduceIte, hb1, hb1d, hb2, hb2d]
          repeat' (first | refine And.intro ?_ ?_ | intro hg)
          all_goals (try simp (disch := omega) only [wrap_fits])
          all_goals first | (refine hL.red ?_ n11; exact Red.auto) | exact trivial | assumption | omega | exact wrap_fits (by omega) (by omega))
       | (simp_all; done)
       | (simp_all; omega)
    simp (maxSteps := 4000000) only [go_sem, Nat.reduceBEq, Nat.reduceLT, Nat.reduceAdd, Nat.reduceLeDiff, Nat.reduceSub, Nat.reduceEqDiff, Int.reduceToNat, reduceCtorEq, ↓reduceIte, hb1, hb1d, hb2, hb2d]
    repeat' (first | refine And.intro ?_ ?_ | intro hg)
    all_goals (try simp (disch := omega) only [wrap_fits])
    all_goals first
     | (refine hL.red ?_ n0; exact Red.auto)
     | exact trivial
     | assumption
     | omega
     | exact wrap_fits (by omega) (by omega)
     | (simp (maxSteps := 4000000) only [go_sem, Nat.reduceBEq, Nat.reduceLT, Nat.reduceAdd, Nat.reduceLeDiff, Nat.reduceSub, Nat.reduceEqDiff, Int.reduceToNat, reduceCtorEq, ↓reduceIte, hb1, hb1d, hb2, hb2d]
        repeat' (first | refine And.intro ?_ ?_ | intro hg)
        all_goals (try simp (disch := omega) only [wrap_fits])
        all_goals first | (refine hL.red ?_ n0; exact Red.auto) | exact trivial | assumption | omega | exact wrap_fits (by omega) (by omega))
     | (simp_all; done)
     | (simp_all; omega)
   ·refine awp_ret ?_
    obtain rfl := Option.some.inj h
    exact finQ [0, 1]
 ·rw [Bool.not_eq_true] at hb1
  replace h := bite_f h hb1
  have hb1d := hb1
  try simp only [decide_eq_true_eq, decide_eq_false_iff_not, beq_iff_eq, bne_iff_ne, ne_eq, beq_eq_false_iff_ne, bne_eq_false_iff_eq, Bool.not_eq_true', Bool.not_eq_false', Bool.and_eq_true, Bool.or_eq_true, Bool.and_eq_false_iff, Bool.or_eq_false_iff] at hb1d
  refine awp_to [(2, .v (.bool false))] [.row false (.ints .i64 a0_0), .row false (.ints .i64 a0_1), .rbox [.sl 0, .sl 1]] ?_ ?_
  ·clear h
   intro K hK
   refine awp_drawL [0, 1, 2] [0, 1, 2, 3, 4, 5] 15 lz0_spec_DiskValid mixed ftCOk (by kernel_rfl) (by first | rfl | kernel_rfl) (by rfl) (by simp) fun L hL => ?_
   have n9 : L 0 lz1_spec_DiskValid [(1, .pp 2 0), (2, .v (.bool false)), (3, .pp 2 0), (4, .sl 0), (5, .v (.int .i64 (a0_0.length : Int))), (6, .v (.bool false)), (7, .v (.bool false)), (8, .v (.tuple #[])), (9, .v (.tuple #[])), (10, .v (.tuple #[])), (11, .v (.tuple #[])), (12, .v (.bool false)), (13, .v (.bool false)), (14, .v (.tuple #[])), (15, .v (.tuple #[])), (16, .v (.tuple #[])), (17, .v (.tuple #[])), (18, .v (.tuple #[])), (19, .v (.tuple #[])), (20, .v (.tuple #[])), (21, .v (.tuple #[])), (22, .v (.bool false))] [.row false (.ints .i64 a0_0), .row false (.ints .i64 a0_1), .rbox [.sl 0, .sl 1]] := by
    exact hL.fin (by kernel_rfl) (hK _ _ Red.auto)
   have n8 : L 3 lz2_spec_DiskValid [(1, .pp 2 0), (3, .pp 2 0), (4, .sl 0), (5, .v (.int .i64 (a0_0.length : Int))), (6, .v (.bool false)), (7, .v (.bool false)), (8, .v (.tuple #[])), (9, .v (.tuple #[])), (10, .v (.tuple #[])), (11, .v (.tuple #[])), (12, .v (.bool false)), (13, .v (.bool false)), (14, .v (.tuple #[])), (15, .v (.tuple #[])), (16, .v (.tuple #[])), (17, .v (.tuple #[])), (18, .v (.tuple #[])), (19, .v (.tuple #[])), (20, .v (.tuple #[]))] [.row false (.ints .i64 a0_0), .row false (.ints .i64 a0_1), .rbox [.sl 0, .sl 1]] := by
    refine hL.step [(18, [19, 20], 0, lz1_spec_DiskValid)] (by kernel_rfl) ⟨?_, trivial⟩
    ·simp (maxSteps := 4000000) only [go_sem, Nat.reduceBEq, Nat.reduceLT, Nat.reduceAdd, Nat.reduceLeDiff, Nat.reduceSub, Nat.reduceEqDiff, Int.reduceToNat, reduceCtorEq, ↓reduceIte, hb1, hb1d]
     repeat' (first | refine And.intro ?_ ?_ | intro hg)
     all_goals (try simp (disch := omega) only [wrap_fits])
     all_goals first
      | (refine hL.red ?_ n9; exact Red.auto)
      | exact trivial
      | assumption
      | omega
      | exact wrap_fits (by omega) (by omega)
      | (simp (maxSteps := 4000000) only [go_sem, Nat.reduceBEq, Nat.reduceLT, Nat.reduceAdd, Nat.reduceLeDiff, Nat.reduceSub, Nat.reduceEqDiff, Int.reduceToNat, reduceCtorEq, ↓reduceIte, hb1, hb1d]
         repeat' (first | refine And.intro ?_ ?_ | intro hg)
         all_goals (try simp (disch := omega) only [wrap_fits])
         all_goals first | (refine hL.red ?_ n9; exact Red.auto) | exact trivial | assumption | omega | exact wrap_fits (by omega) (by omega))
      | (simp_all; done)
      | (simp_all; omega)
   have n7 : L 4 lz3_spec_DiskValid [(1, .pp 2 0), (3, .pp 2 0), (4, .sl 0), (5, .v (.int .i64 (a0_0.length : Int))), (6, .v (.bool false)), (7, .v (.bool false)), (8, .v (.tuple #[])), (9, .v (.tuple #[])), (10, .v (.tuple #[])), (11, .v (.tuple #[])), (12, .v (.bool false)), (13, .v (.bool false)), (14, .v (.tuple #[])), (15, .v (.tuple #[])), (16, .v (.tuple #[])), (17, .v (.tuple #[])), (18, .v (.tuple #[])), (19, .v (.tuple #[]))] [.row false (.ints .i64 a0_0), .row false (.ints .i64 a0_1), .rbox [.sl 0, .sl 1]] := by
    refine hL.step [(17, [], 3, lz2_spec_DiskValid)] (by kernel_rfl) ⟨?_, trivial⟩
    ·simp (maxSteps := 4000000) only [go_sem, Nat.reduceBEq, Nat.reduceLT, Nat.reduceAdd, Nat.reduceLeDiff, Nat.reduceSub, Nat.reduceEqDiff, Int.reduceToNat, reduceCtorEq, ↓reduceIte, hb1, hb1d]
     repeat' (first | refine And.intro ?_ ?_ | intro hg)
     all_goals (try simp (disch := omega) only [wrap_fits])
     all_goals first
      | (refine hL.red ?_ n8; exact Red.auto)
      | exact trivial
      | assumption
      | omega
      | exact wrap_fits (by omega) (by omega)
      | (simp (maxSteps := 4000000) only [go_sem, Nat.reduceBEq, Nat.reduceLT, Nat.reduceAdd, Nat.reduceLeDiff, Nat.reduceSub, Nat.reduceEqDiff, Int.reduceToNat, reduceCtorEq, ↓reduceIte, hb1, hb1d]
         repeat' (first | refine And.intro ?_ ?_ | intro hg)
         all_goals (try simp (disch := omega) only [wrap_fits])
         all_goals first | (refine hL.red ?_ n8; exact Red.auto) | exact trivial | assumption | omega | exact wrap_fits (by omega) (by omega))
      | (simp_all; done)
      | (simp_all; omega)
   have n6 : L 5 lz4_spec_DiskValid [(1, .pp 2 0), (3, .pp 2 0), (4, .sl 0), (5, .v (.int .i64 (a0_0.length : Int))), (6, .v (.bool false)), (7, .v (.bool false)), (8, .v (.tuple #[])), (9, .v (.tuple #[])), (10, .v (.tuple #[])), (11, .v (.tuple #[])), (12, .v (.bool false)), (13, .v (.bool false)), (14, .v (.tuple #[])), (15, .v (.tuple #[])), (16, .v (.tuple #[])), (17, .v (.tuple #[])), (18, .v (.tuple #[]))] [.row false (.ints .i64 a0_0), .row false (.ints .i64 a0_1), .rbox [.sl 0, .sl 1]] := by
    refine hL.step [(16, [], 4, lz3_spec_DiskValid)] (by kernel_rfl) ⟨?_, trivial⟩
    ·simp (maxSteps := 4000000) only [go_sem, Nat.reduceBEq, Nat.reduceLT, Nat.reduceAdd, Nat.reduceLeDiff, Nat.reduceSub, Nat.reduceEqDiff, Int.reduceToNat, reduceCtorEq, ↓reduceIte, hb1, hb1d]
     repeat' (first | refine And.intro ?_ ?_ | intro hg)
     all_goals (try simp (disch := omega) only [wrap_fits])
     all_goals first
      | (refine hL.red ?_ n7; exact Red.auto)
      | exact trivial
      | assumption
      | omega
      | exact wrap_fits (by omega) (by omega)
      | (simp (maxSteps := 4000000) only [go_sem, Nat.reduceBEq, Nat.reduceLT, Nat.reduceAdd, Nat.reduceLeDiff, Nat.reduceSub, Nat.reduceEqDiff, Int.reduceToNat, reduceCtorEq, ↓reduceIte, hb1, hb1d]
         repeat' (first | refine And.intro ?_ ?_ | intro hg)
         all_goals (try simp (disch := omega) only [wrap_fits])
         all_goals first | (refine hL.red ?_ n7; exact Red.auto) | exact trivial | assumption | omega | exact wrap_fits (by omega) (by omega))
      | (simp_all; done)
      | (simp_all; omega)
   have n10 : L 5 lz5_spec_DiskValid [(1, .pp 2 0), (3, .pp 2 0), (4, .sl 0), (5, .v (.int .i64 (a0_0.length : Int))), (6, .v (.bool false)), (7, .v (.bool false)), (8, .v (.tuple #[])), (9, .v (.tuple #[])), (10, .v (.tuple #[])), (11, .v (.tuple #[])), (12, .v (.bool false)), (13, .v (.bool false)), (14, .v (.tuple #[])), (15, .v (.tuple #[])), (16, .v (.tuple #[])), (18, .v (.tuple #[])), (19, .v (.tuple #[]))] [.row false (.ints .i64 a0_0), .row false (.ints .i64 a0_1), .rbox [.sl 0, .sl 1]] := by
    refine hL.step [(14, [], 4, lz3_spec_DiskValid)] (by kernel_rfl) ⟨?_, trivial⟩
    ·simp (maxSteps := 4000000) only [go_sem, Nat.reduceBEq, Nat.reduceLT, Nat.reduceAdd, Nat.reduceLeDiff, Nat.reduceSub, Nat.reduceEqDiff, Int.reduceToNat, reduceCtorEq, ↓reduceIte, hb1, hb1d]
     repeat' (first | refine And.intro ?_ ?_ | intro hg)
     all_goals (try simp (disch := omega) only [wrap_fits])
     all_goals first
      | (refine hL.red ?_ n7; exact Red.auto)
      | exact trivial
      | assumption
      | omega
      | exact wrap_fits (by omega) (by omega)
      | (simp (maxSteps := 4000000) only [go_sem, Nat.reduceBEq, Nat.reduceLT, Nat.reduceAdd, Nat.reduceLeDiff, Nat.reduceSub, Nat.reduceEqDiff, Int.reduceToNat, reduceCtorEq, ↓reduceIte, hb1, hb1d]
         repeat' (first | refine And.intro ?_ ?_ | intro hg)
         all_goals (try simp (disch := omega) only [wrap_fits])
         all_goals first | (refine hL.red ?_ n7; exact Red.auto) | exact trivial | assumption | omega | exact wrap_fits (by omega) (by omega))
      | (simp_all; done)
      | (simp_all; omega)
   have n5 : L 6 lz6_spec_DiskValid [(1, .pp 2 0), (3, .pp 2 0), (4, .sl 0), (5, .v (.int .i64 (a0_0.length : Int))), (6, .v (.bool false)), (7, .v (.bool false)), (8, .v (.tuple #[])), (9, .v (.tuple #[])), (10, .v (.tuple #[])), (11, .v (.tuple #[])), (12, .v (.bool false)), (13, .v (.bool false)), (14, .v (.tuple #[])), (15, .v (.tuple #[])), (16, .v (.tuple #[])), (18, .v (.tuple #[]))] [.row false (.ints .i64 a0_0), .row false (.ints .i64 a0_1), .rbox [.sl 0, .sl 1]] := by
    refine hL.step [(14, [], 5, lz4_spec_DiskValid), (16, [], 5, lz5_spec_DiskValid)] (by kernel_rfl) ⟨?_, ?_, trivial⟩
    ·simp (maxSteps := 4000000) only [go_sem, Nat.reduceBEq, Nat.reduceLT, Nat.reduceAdd, Nat.reduceLeDiff, Nat.reduceSub, Nat.reduceEqDiff, Int.reduceToNat, reduceCtorEq, ↓reduceIte, hb1, hb1d]
     repeat' (first | refine And.intro ?_ ?_ | intro hg)
     all_goals (try simp (disch := omega) only [wrap_fits])
     all_goals first
      | (refine hL.red ?_ n6; exact Red.auto)
      | exact trivial
      | assumption
      | omega
      | exact wrap_fits (by omega) (by omega)
      | (simp (maxSteps := 4000000) only [go_sem, Nat.reduceBEq, Nat.reduceLT, Nat.reduceAdd, Nat.reduceLeDiff, Nat.reduceSub, Nat.reduceEqDiff, Int.reduceToNat, reduceCtorEq, ↓reduceIte, hb1, hb1d]
         repeat' (first | refine And.intro ?_ ?_ | intro hg)
         all_goals (try simp (disch := omega) only [wrap_fits])
         all_goals first | (refine hL.red ?_ n6; exact Red.auto) | exact trivial | assumption | omega | exact wrap_fits (by omega) (by omega))
      | (simp_all; done)
      | (simp_all; omega)
    ·simp (maxSteps := 4000000) only [go_sem, Nat.reduceBEq, Nat.reduceLT, Nat.reduceAdd, Nat.reduceLeDiff, Nat.reduceSub, Nat.reduceEqDiff, Int.reduceToNat, reduceCtorEq, ↓reduceIte, hb1, hb1d]
     repeat' (first | refine And.intro ?_ ?_ | intro hg)
     all_goals (try simp (disch := omega) only [wrap_fits])
     all_goals first
      | (refine hL.red ?_ n10; exact Red.auto)
      | exact trivial
      | assumption
      | omega
      | exact wrap_fits (by omega) (by omega)
      | (simp (maxSteps := 4000000) only [go_sem, Nat.reduceBEq, Nat.reduceLT, Nat.reduceAdd, Nat.reduceLeDiff, Nat.reduceSub, Nat.reduceEqDiff, Int.reduceToNat, reduceCtorEq, ↓reduceIte, hb1, hb1d]
         repeat' (first | refine And.intro ?_ ?_ | intro hg)
         all_goals (try simp (disch := omega) only [wrap_fits])
         all_goals first | (refine hL.red ?_ n10; exact Red.auto) | exact trivial | assumption | omega | exact wrap_fits (by omega) (by omega))
      | (simp_all; done)
      | (simp_all; omega)
   have n11 : L 6 lz7_spec_DiskValid [(1, .pp 2 0), (3, .pp 2 0), (4, .sl 0), (5, .v (.int .i64 (a0_0.length : Int))), (6, .v (.bool false)), (7, .v (.bool false)), (8, .v (.tuple #[])), (9, .v (.tuple #[])), (10, .v (.tuple #[])), (11, .v (.tuple #[])), (12, .v (.bool false)), (13, .v (.bool false)), (14, .v (.tuple #[])), (15, .v (.tuple #[])), (18, .v (.tuple #[])), (19, .v (.tuple #[]))] [.row false (.ints .i64 a0_0), .row false (.ints .i64 a0_1), .rbox [.sl 0, .sl 1]] := by
    refine hL.step [(13, [], 5, lz5_spec_DiskValid)] (by kernel_rfl) ⟨?_, trivial⟩
    ·simp (maxSteps := 4000000) only [go_sem, Nat.reduceBEq, Nat.reduceLT, Nat.reduceAdd, Nat.reduceLeDiff, Nat.reduceSub, Nat.reduceEqDiff, Int.reduceToNat, reduceCtorEq, ↓reduceIte, hb1, hb1d]
     repeat' (first | refine And.intro ?_ ?_ | intro hg)
     all_goals (try simp (disch := omega) only [wrap_fits])
     all_goals first
      | (refine hL.red ?_ n10; exact Red.auto)
      | exact trivial
      | assumption
      | omega
      | exact wrap_fits (by omega) (by omega)
      | (simp (maxSteps := 4000000) only [go_sem, Nat.reduceBEq, Nat.reduceLT, Nat.reduceAdd, Nat.reduceLeDiff, Nat.reduceSub, Nat.reduceEqDiff, Int.reduceToNat, reduceCtorEq, ↓reduceIte, hb1, hb1d]
         repeat' (first | refine And.intro ?_ ?_ | intro hg)
         all_goals (try simp (disch := omega) only [wrap_fits])
         all_goals first | (refine hL.red ?_ n10; exact Red.auto) | exact trivial | assumption | omega | exact wrap_fits (by omega) (by omega))
      | (simp_all; done)
      | (simp_all; omega)
   have n4 : L 7 lz8_spec_DiskValid [(1, .pp 2 0), (3, .pp 2 0), (4, .sl 0), (5, .v (.int .i64 (a0_0.length : Int))), (6, .v (.bool false)), (7, .v (.bool false)), (8, .v (.tuple #[])), (9, .v (.tuple #[])), (10, .v (.tuple #[])), (11, .v (.tuple #[])), (12, .v (.bool false)), (13, .v (.bool false)), (14, .v (.tuple #[])), (15, .v (.tuple #[])), (18, .v (.tuple #[]))] [.row false (.ints .i64 a0_0), .row false (.ints .i64 a0_1), .rbox [.sl 0, .sl 1]] := by
    refine hL.step [(13, [], 6, lz6_spec_DiskValid), (16, [], 6, lz7_spec_DiskValid)] (by kernel_rfl) ⟨?_, ?_, trivial⟩
    ·simp (maxSteps := 4000000) only [go_sem, Nat.reduceBEq, Nat.reduceLT, Nat.reduceAdd, Nat.reduceLeDiff, Nat.reduceSub, Nat.reduceEqDiff, Int.reduceToNat, reduceCtorEq, ↓reduceIte, hb1, hb1d]
     repeat' (first | refine And.intro ?_ ?_ | intro hg)
     all_goals (try simp (disch := omega) only [wrap_fits])
     all_goals first
      | (refine hL.red ?_ n5; exact Red.auto)
      | exact trivial
      | assumption
      | omega
      | exact wrap_fits (by omega) (by omega)
      | (simp (maxSteps := 4000000) only [go_sem, Nat.reduceBEq, Nat.reduceLT, Nat.reduceAdd, Nat.reduceLeDiff, Nat.reduceSub, Nat.reduceEqDiff, Int.reduceToNat, reduceCtorEq, ↓reduceIte, hb1, hb1d]
         repeat' (first | refine And.intro ?_ ?_ | intro hg)
         all_goals (try simp (disch := omega) only [wrap_fits])
         all_goals first | (refine hL.red ?_ n5; exact Red.auto) | exact trivial | assumption | omega | exact wrap_fits (by omega) (by omega))
      | (simp_all; done)
      | (simp_all; omega)
    ·simp (maxSteps := 4000000) only [go_sem, Nat.reduceBEq, Nat.reduceLT, Nat.reduceAdd, Nat.reduceLeDiff, Nat.reduceSub, Nat.reduceEqDiff, Int.reduceToNat, reduceCtorEq, ↓reduceIte, hb1, hb1d]
     repeat' (first | refine And.intro ?_ ?_ | intro hg)
     all_goals (try simp (disch := omega) only [wrap_fits])
     all_goals first
      | (refine hL.red ?_ n11; exact Red.auto)
      | exact trivial
      | assumption
      | omega
      | exact wrap_fits (by omega) (by omega)
      | (simp (maxSteps := 4000000) only [go_sem, Nat.reduceBEq, Nat.reduceLT, Nat.reduceAdd, Nat.reduceLeDiff, Nat.reduceSub, Nat.reduceEqDiff, Int.reduceToNat, reduceCtorEq, ↓reduceIte, hb1, hb1d]
         repeat' (first | refine And.intro ?_ ?_ | intro hg)
         all_goals (try simp (disch := omega) only [wrap_fits])
         all_goals first | (refine hL.red ?_ n11; exact Red.auto) | exact trivial | assumption | omega | exact wrap_fits (by omega) (by omega))
      | (simp_all; done)
      | (simp_all; omega)
   have n13 : L 6 lz9_spec_DiskValid [(1, .pp 2 0), (3, .pp 2 0), (4, .sl 0), (5, .v (.int .i64 (a0_0.length : Int))), (6, .v (.bool false)), (7, .v (.bool false)), (8, .v (.tuple #[])), (9, .v (.tuple #[])), (10, .v (.tuple #[])), (11, .v (.tuple #[])), (12, .v (.bool false)), (13, .v (.bool false)), (15, .v (.tuple #[])), (16, .v (.tuple #[])), (18, .v (.tuple #[])), (19, .v (.tuple #[]))] [.row false (.ints .i64 a0_0), .row false (.ints .i64 a0_1), .rbox [.sl 0, .sl 1]] := by
    refine hL.step [(11, [], 5, lz5_spec_DiskValid)] (by kernel_rfl) ⟨?_, trivial⟩
    ·simp (maxSteps := 4000000) only [go_sem, Nat.reduceBEq, Nat.reduceLT, Nat.reduceAdd, Nat.reduceLeDiff, Nat.reduceSub, Nat.reduceEqDiff, Int.reduceToNat, reduceCtorEq, ↓reduceIte, hb1, hb1d]
     repeat' (first | refine And.intro ?_ ?_ | intro hg)
     all_goals (try simp (disch := omega) only [wrap_fits])
     all_goals first
      | (refine hL.red ?_ n10; exact Red.auto)
      | exact trivial
      | assumption
      | omega
      | exact wrap_fits (by omega) (by omega)
      | (simp (maxSteps := 4000000) only [go_sem, Nat.reduceBEq, Nat.reduceLT, Nat.reduceAdd, Nat.reduceLeDiff, Nat.reduceSub, Nat.reduceEqDiff, Int.reduceToNat, reduceCtorEq, ↓reduceIte, hb1, hb1d]
         repeat' (first | refine And.intro ?_ ?_ | intro hg)
         all_goals (try simp (disch := omega) only [wrap_fits])
         all_goals first | (refine hL.red ?_ n10; exact Red.auto) | exact trivial | assumption | omega | exact wrap_fits (by omega) (by omega))
      | (simp_all; done)
      | (simp_all; omega)
   have n12 : L 7 lz10_spec_DiskValid [(1, .pp 2 0), (3, .pp 2 0), (4, .sl 0), (5, .v (.int .i64 (a0_0.length : Int))), (6, .v (.bool false)), (7, .v (.bool false)), (8, .v (.tuple #[])), (9, .v (.tuple #[])), (10, .v (.tuple #[])), (11, .v (.tuple #[])), (12, .v (.bool false)), (13, .v (.bool false)), (15, .v (.tuple #[])), (16, .v (.tuple #[])), (18, .v (.tuple #[]))] [.row false (.ints .i64 a0_0), .row false (.ints .i64 a0_1), .rbox [.sl 0, .sl 1]] := by
    refine hL.step [(11, [], 6, lz6_spec_DiskValid), (16, [], 6, lz9_spec_DiskValid)] (by kernel_rfl) ⟨?_, ?_, trivial⟩
    ·simp (maxSteps := 4000000) only [go_sem, Nat.reduceBEq, Nat.reduceLT, Nat.reduceAdd, Nat.reduceLeDiff, Nat.reduceSub, Nat.reduceEqDiff, Int.reduceToNat, reduceCtorEq, ↓reduceIte, hb1, hb1d]
     repeat' (first | refine And.intro ?_ ?_ | intro hg)
     all_goals (try simp (disch := omega) only [wrap_fits])
     all_goals first
      | (refine hL.red ?_ n5; exact Red.auto)
      | exact trivial
      | assumption
      | omega
      | exact wrap_fits (by omega) (by omega)
      | (simp (maxSteps := 4000000) only [go_sem, Nat.reduceBEq, Nat.reduceLT, Nat.reduceAdd, Nat.reduceLeDiff, Nat.reduceSub, Nat.reduceEqDiff, Int.reduceToNat, reduceCtorEq, ↓reduceIte, hb1, hb1d]
         repeat' (first | refine And.intro ?_ ?_ | intro hg)
         all_goals (try simp (disch := omega) only [wrap_fits])
         all_goals first | (refine hL.red ?_ n5; exact Red.auto) | exact trivial | assumption | omega | exact wrap_fits (by omega) (by omega))
      | (simp_all; done)
      | (simp_all; omega)
    ·simp (maxSteps := 4000000) only [go_sem, Nat.reduceBEq, Nat.reduceLT, Nat.reduceAdd, Nat.reduceLeDiff, Nat.reduceSub, Nat.reduceEqDiff, Int.reduceToNat, reduceCtorEq, ↓reduceIte, hb1, hb1d]
     repeat' (first | refine And.intro ?_ ?_ | intro hg)
     all_goals (try simp (disch := omega) only [wrap_fits])
     all_goals first
      | (refine hL.red ?_ n13; exact Red.auto)
      | exact trivial
      | assumption
      | omega
      | exact wrap_fits (by omega) (by omega)
      | (simp (maxSteps := 4000000) only [go_sem, Nat.reduceBEq, Nat.reduceLT, Nat.reduceAdd, Nat.reduceLeDiff, Nat.reduceSub, Nat.reduceEqDiff, Int.reduceToNat, reduceCtorEq, ↓reduceIte, hb1, hb1d]
         repeat' (first | refine And.intro ?_ ?_ | intro hg)
         all_goals (try simp (disch := omega) only [wrap_fits])
         all_goals first | (refine hL.red ?_ n13; exact Red.auto) | exact trivial | assumption | omega | exact wrap_fits (by omega) (by omega))
      | (simp_all; done)
      | (simp_all; omega)
   have n14 : L 7 lz11_spec_DiskValid [(1, .pp 2 0), (3, .pp 2 0), (4, .sl 0), (5, .v (.int .i64 (a0_0.length : Int))), (6, .v (.bool false)), (7, .v (.bool false)), (8, .v (.tuple #[])), (9, .v (.tuple #[])), (10, .v (.tuple #[])), (11, .v (.tuple #[])), (12, .v (.bool false)), (13, .v (.bool false)), (15, .v (.tuple #[])), (18, .v (.tuple #[])), (19, .v (.tuple #[]))] [.row false (.ints .i64 a0_0), .row false (.ints .i64 a0_1), .rbox [.sl 0, .sl 1]] := by
    refine hL.step [(11, [], 6, lz7_spec_DiskValid), (13, [], 6, lz9_spec_DiskValid)] (by kernel_rfl) ⟨?_, ?_, trivial⟩
    ·simp (maxSteps := 4000000) only [go_sem, Nat.reduceBEq, Nat.reduceLT, Nat.reduceAdd, Nat.reduceLeDiff, Nat.reduceSub, Nat.reduceEqDiff, Int.reduceToNat, reduceCtorEq, ↓reduceIte, hb1, hb1d]
     repeat' (first | refine And.intro ?_ ?_ | intro hg)
     all_goals (try simp (disch := omega) only [wrap_fits])
     all_goals first
      | (refine hL.red ?_ n11; exact Red.auto)
      | exact trivial
      | assumption
      | omega
      | exact wrap_fits (by omega) (by omega)
      | (simp (maxSteps := 4000000) only [go_sem, Nat.reduceBEq, Nat.reduceLT, Nat.reduceAdd, Nat.reduceLeDiff, Nat.reduceSub, Nat.reduceEqDiff, Int.reduceToNat, reduceCtorEq, ↓reduceIte, hb1, hb1d]
         repeat' (first | refine And.intro ?_ ?_ | intro hg)
         all_goals (try simp (disch := omega) only [wrap_fits])
         all_goals first | (refine hL.red ?_ n11; exact Red.auto) | exact trivial | assumption | omega | exact wrap_fits (by omega) (by omega))
      | (simp_all; done)
      | (simp_all; omega)
    ·simp (maxSteps := 4000000) only [go_sem, Nat.reduceBEq, Nat.reduceLT, Nat.reduceAdd, Nat.reduceLeDiff, Nat.reduceSub, Nat.reduceEqDiff, Int.reduceToNat, reduceCtorEq, ↓reduceIte, hb1, hb1d]
     repeat' (first | refine And.intro ?_ ?_ | intro hg)
     all_goals (try simp (disch := omega) only [wrap_fits])
     all_goals first
      | (refine hL.red ?_ n13; exact Red.auto)
      | exact trivial
      | assumption
      | omega
      | exact wrap_fits (by omega) (by omega)
      | (simp (maxSteps := 4000000) only [go_sem, Nat.reduceBEq, Nat.reduceLT, Nat.reduceAdd, Nat.reduceLeDiff, Nat.reduceSub, Nat.reduceEqDiff, Int.reduceToNat, reduceCtorEq, ↓reduceIte, hb1, hb1d]
         repeat' (first | refine And.intro ?_ ?_ | intro hg)
         all_goals (try simp (disch := omega) only [wrap_fits])
         all_goals first | (refine hL.red ?_ n13; exact Red.auto) | exact trivial | assumption | omega | exact wrap_fits (by omega) (by omega))
      | (simp_all; done)
      | (simp_all; omega)
   have n3 : L 8 lz12_spec_DiskValid [(1, .pp 2 0), (3, .pp 2 0), (4, .sl 0), (5, .v (.int .i64 (a0_0.length : Int))), (6, .v (.bool false)), (7, .v (.bool false)), (8, .v (.tuple #[])), (9, .v (.tuple #[])), (10, .v (.tuple #[])), (11, .v (.tuple #[])), (12, .v (.bool false)), (13, .v (.bool false)), (15, .v (.tuple #[])), (18, .v (.tuple #[]))] [.row false (.ints .i64 a0_0), .row false (.ints .i64 a0_1), .rbox [.sl 0, .sl 1]] := by
    refine hL.step [(11, [], 7, lz8_spec_DiskValid), (13, [], 7, lz10_spec_DiskValid), (16, [], 7, lz11_spec_DiskValid)] (by kernel_rfl) ⟨?_, ?_, ?_, trivial⟩
    ·simp (maxSteps := 4000000) only [go_sem, Nat.reduceBEq, Nat.reduceLT, Nat.reduceAdd, Nat.reduceLeDiff, Nat.reduceSub, Nat.reduceEqDiff, Int.reduceToNat, reduceCtorEq, ↓reduceIte, hb1, hb1d]
     repeat' (first | refine And.intro ?_ ?_ | intro hg)
     all_goals (try simp (disch := omega) only [wrap_fits])
     all_goals first
      | (refine hL.red ?_ n4; exact Red.auto)
      | exact trivial
      | assumption
      | omega
      | exact wrap_fits (by omega) (by omega)
      | (simp (maxSteps := 4000000) only [go_sem, Nat.reduceBEq, Nat.reduceLT, Nat.reduceAdd, Nat.reduceLeDiff, Nat.reduceSub, Nat.reduceEqDiff, Int.reduceToNat, reduceCtorEq, ↓reduceIte, hb1, hb1d]
         repeat' (first | refine And.intro ?_ ?_ | intro hg)
         all_goals (try simp (disch := omega) only [wrap_fits])
         all_goals first | (refine hL.red ?_ n4; exact Red.auto) | exact trivial | assumption | omega | exact wrap_fits (by omega) (by omega))
      | (simp_all; done)
      | (simp_all; omega)
    ·simp (maxSteps := 4000000) only [go_sem, Nat.reduceBEq, Nat.reduceLT, Nat.reduceAdd, Nat.reduceLeDiff, Nat.reduceSub, Nat.reduceEqDiff, Int.reduceToNat, reduceCtorEq, ↓reduceIte, hb1, hb1d]
     repeat' (first | refine And.intro ?_ ?_ | intro hg)
     all_goals (try simp (disch := omega) only [wrap_fits])
     all_goals first
      | (refine hL.red ?_ n12; exact Red.auto)
      | exact trivial
      | assumption
      | omega
      | exact wrap_fits (by omega) (by omega)
      | (simp (maxSteps := 4000000) only [go_sem, Nat.reduceBEq, Nat.reduceLT, Nat.reduceAdd, Nat.reduceLeDiff, Nat.reduceSub, Nat.reduceEqDiff, Int.reduceToNat, reduceCtorEq, ↓reduceIte, hb1, hb1d]
         repeat' (first | refine And.intro ?_ ?_ | intro hg)
         all_goals (try simp (disch := omega) only [wrap_fits])
         all_goals first | (refine hL.red ?_ n12; exact Red.auto) | exact trivial | assumption | omega | exact wrap_fits (by omega) (by omega))
      | (simp_all; done)
      | (simp_all; omega)
    ·simp (maxSteps := 4000000) only [go_sem, Nat.reduceBEq, Nat.reduceLT, Nat.reduceAdd, Nat.reduceLeDiff, Nat.reduceSub, Nat.reduceEqDiff, Int.reduceToNat, reduceCtorEq, ↓reduceIte, hb1, hb1d]
     repeat' (first | refine And.intro ?_ ?_ | intro hg)
     all_goals (try simp (disch := omega) only [wrap_fits])
     all_goals first
      | (refine hL.red ?_ n14; exact Red.auto)
      | exact trivial
      | assumption
      | omega
      | exact wrap_fits (by omega) (by omega)
      | (simp (maxSteps := 4000000) only [go_sem, Nat.reduceBEq, Nat.reduceLT, Nat.reduceAdd, Nat.reduceLeDiff, Nat.reduceSub, Nat.reduceEqDiff, Int.reduceToNat, reduceCtorEq, ↓reduceIte, hb1, hb1d]
         repeat' (first | refine And.intro ?_ ?_ | intro hg)
         all_goals (try simp (disch := omega) only [wrap_fits])
         all_goals first | (refine hL.red ?_ n14; exact Red.auto) | exact trivial | assumption | omega | exact wrap_fits (by omega) (by omega))
      | (simp_all; done)
      | (simp_all; omega)
   have n2 : L 13 lz13_spec_DiskValid [(1, .pp 2 0), (3, .pp 2 0), (4, .sl 0), (5, .v (.int .i64 (a0_0.length : Int))), (6, .v (.bool false)), (7, .v (.bool false)), (8, .v (.tuple #[])), (9, .v (.tuple #[])), (10, .v (.tuple #[]))] [.row false (.ints .i64 a0_0), .row false (.ints .i64 a0_1), .rbox [.sl 0, .sl 1]] := by
    refine hL.step [(8, [9, 10, 12, 15], 8, lz12_spec_DiskValid)] (by kernel_rfl) ⟨?_, trivial⟩
    ·simp (maxSteps := 4000000) only [go_sem, Nat.reduceBEq, Nat.reduceLT, Nat.reduceAdd, Nat.reduceLeDiff, Nat.reduceSub, Nat.reduceEqDiff, Int.reduceToNat, reduceCtorEq, ↓reduceIte, hb1, hb1d]
     repeat' (first | refine And.intro ?_ ?_ | intro hg)
     all_goals (try simp (disch := omega) only [wrap_fits])
     all_goals first
      | (refine hL.red ?_ n3; exact Red.auto)
      | exact trivial
      | assumption
      | omega
      | exact wrap_fits (by omega) (by omega)
      | (simp (maxSteps := 4000000) only [go_sem, Nat.reduceBEq, Nat.reduceLT, Nat.reduceAdd, Nat.reduceLeDiff, Nat.reduceSub, Nat.reduceEqDiff, Int.reduceToNat, reduceCtorEq, ↓reduceIte, hb1, hb1d]
         repeat' (first | refine And.intro ?_ ?_ | intro hg)
         all_goals (try simp (disch := omega) only [wrap_fits])
         all_goals first | (refine hL.red ?_ n3; exact Red.auto) | exact trivial | assumption | omega | exact wrap_fits (by omega) (by omega))
      | (simp_all; done)
      | (simp_all; omega)
   have n1 : L 14 lz14_spec_DiskValid [(1, .pp 2 0), (3, .pp 2 0), (4, .sl 0), (5, .v (.int .i64 (a0_0.length : Int))), (6, .v (.bool false)), (7, .v (.bool false)), (8, .v (.tuple #[])), (9, .v (.tuple #[]))] [.row false (.ints .i64 a0_0), .row false (.ints .i64 a0_1), .rbox [.sl 0, .sl 1]] := by
    refine hL.step [(7, [], 13, lz13_spec_DiskValid)] (by kernel_rfl) ⟨?_, trivial⟩
    ·simp (maxSteps := 4000000) only [go_sem, Nat.reduceBEq, Nat.reduceLT, Nat.reduceAdd, Nat.reduceLeDiff, Nat.reduceSub, Nat.reduceEqDiff, Int.reduceToNat, reduceCtorEq, ↓reduceIte, hb1, hb1d]
     repeat' (first | refine And.intro ?_ ?_ | intro hg)
     all_goals (try simp (disch := omega) only [wrap_fits])
     all_goals first
      | (refine hL.red ?_ n2; exact Red.auto)
      | exact trivial
      | assumption
      | omega
      | exact wrap_fits (by omega) (by omega)
      | (simp (maxSteps := 4000000) only [go_sem, Nat.reduceBEq, Nat.reduceLT, Nat.reduceAdd, Nat.reduceLeDiff, Nat.reduceSub, Nat.reduceEqDiff, Int.reduceToNat, reduceCtorEq, ↓reduceIte, hb1, hb1d]
         repeat' (first | refine And.intro ?_ ?_ | intro hg)
         all_goals (try simp (disch := omega) only [wrap_fits])
         all_goals first | (refine hL.red ?_ n2; exact Red.auto) | exact trivial | assumption | omega | exact wrap_fits (by omega) (by omega))
      | (simp_all; done)
      | (simp_all; omega)
   have n0 : L 15 lz0_spec_DiskValid [(1, .pp 2 0), (3, .pp 2 0), (4, .sl 0), (5, .v (.int .i64 (a0_0.length : Int))), (6, .v (.bool false)), (7, .v (.bool false)), (8, .v (.tuple #[]))] [.row false (.ints .i64 a0_0), .row false (.ints .i64 a0_1), .rbox [.sl 0, .sl 1]] := by
    refine hL.step [(6, [], 14, lz14_spec_DiskValid)] (by kernel_rfl) ⟨?_, trivial⟩
    ·simp (maxSteps := 4000000) only [go_sem, Nat.reduceBEq, Nat.reduceLT, Nat.reduceAdd, Nat.reduceLeDiff, Nat.reduceSub, Nat.reduceEqDiff, Int.reduceToNat, reduceCtorEq, ↓reduceIte, hb1, hb1d]
     repeat' (first | refine And.intro ?_ ?_ | intro hg)
     all_goals (try simp (disch := omega) only [wrap_fits])
     all_goals first
      | (refine hL.red ?_ n1; exact Red.auto)
      | exact trivial
      | assumption
      | omega
      | exact wrap_fits (by omega) (by omega)
      | (simp (maxSteps := 4000000) only [go_sem, Nat.reduceBEq, Nat.reduceLT, Nat.reduceAdd, Nat.reduceLeDiff, Nat.reduceSub, Nat.reduceEqDiff, Int.reduceToNat, reduceCtorEq, ↓reduceIte, hb1, hb1d]
         repeat' (first | refine And.intro ?_ ?_ | intro hg)
         all_goals (try simp (disch := omega) only [wrap_fits])
         all_goals first | (refine hL.red ?_ n1; exact Red.auto) | exact trivial | assumption | omega | exact wrap_fits (by omega) (by omega))
      | (simp_all; done)
      | (simp_all; omega)
   simp (maxSteps := 4000000) only [go_sem, Nat.reduceBEq, Nat.reduceLT, Nat.reduceAdd, Nat.reduceLeDiff, Nat.reduceSub, Nat.reduceEqDiff, Int.reduceToNat, reduceCtorEq, ↓reduceIte, hb1, hb1d]
   repeat' (first | refine And.intro ?_ ?_ | intro hg)
   all_goals (try simp (disch := omega) only [wrap_fits])
   all_goals first
    | (refine hL.red ?_ n0; exact Red.auto)
    | exact trivial
    | assumption
    | omega
    | exact wrap_fits (by omega) (by omega)
    | (simp (maxSteps := 4000000) only [go_sem, Nat.reduceBEq, Nat.reduceLT, Nat.reduceAdd, Nat.reduceLeDiff, Nat.reduceSub, Nat.reduceEqDiff, Int.reduceToNat, reduceCtorEq, ↓reduceIte, hb1, hb1d]
       repeat' (first | refine And.intro ?_ ?_ | intro hg)
       all_goals (try simp (disch := omega) only [wrap_fits])
       all_goals first | (refine hL.red ?_ n0; exact Red.auto) | exact trivial | assumption | omega | exact wrap_fits (by omega) (by omega))
    | (simp_all; done)
    | (simp_all; omega)
  ·refine awp_ret ?_
   obtain rfl := Option.some.inj h
   exact finQ [0, 1]
theorem k_spec_l1OwnState (a0_0 : Int) (a0_1 : List Int) (a0_2 : List Bool) (a0_3 : List (Int × Int × Int)) {r : Int × List Int × List Bool × (List (Int × Int × Int))} (h : spec_l1OwnState a0_0 a0_1 a0_2 a0_3 = some r) :
 FnA Try.prog 21 [.agg [.v (.int .i64 a0_0), .sl 0, .sl 1, .sl 2]] [.row false (.ints .i64 a0_1), .row false (.bools a0_2), .row false (.trips a0_3)] [] (fun x H => x = .agg [.v (.int .i64 r.1), .sl 3, .sl 4, .sl 5] ∧ H = [.row false (.ints .i64 a0_1), .row false (.bools a0_2), .row false (.trips a0_3), .row true (.ints .i64 r.2.1), .row true (.bools r.2.2.1), .row true (.trips r.2.2.2)]) := by
 unfold spec_l1OwnState at h
 refine FnA.ofA 21 [0, 1, 2] [.cell 2 34] Try.func21 en21 ?_
 refine awp_reg ftCOk [(1, .pp 3 0), (2, .pp 4 0)] [.row false (.ints .i64 a0_1), .row false (.bools a0_2), .row false (.trips a0_3), .box [.v (.int .i64 a0_0), .sl 0, .sl 1, .sl 2], .box [.v (.int .i64 0), .v (.slice none 0 0), .v (.slice none 0 0), .v (.slice none 0 0)]] ?_
 refine awp_freeze 1 (by rfl) (by rfl) (by exact rfl) ?_
 refine awp_reg ftCOk [(1, .pp 3 0), (2, .pp 4 0), (3, .pp 5 0)] [.row false (.ints .i64 a0_1), .row false (.bools a0_2), .row false (.trips a0_3), .rbox [.v (.int .i64 a0_0), .sl 0, .sl 1, .sl 2], .box [.v (.int .i64 0), .v (.slice none 0 0), .v (.slice none 0 0), .v (.slice none 0 0)], .box [.v (.int .i64 a0_0), .sl 0, .sl 1, .sl 2]] ?_
 replace ⟨hp0, h⟩ := chk_some h
 refine awp_reg ftCOk [(1, .pp 3 0), (2, .pp 4 0), (3, .pp 5 0)] [.row false (.ints .i64 a0_1), .row false (.bools a0_2), .row false (.trips a0_3), .rbox [.v (.int .i64 a0_0), .sl 0, .sl 1, .sl 2], .box [.v (.int .i64 0), .v (.slice none 0 0), .v (.slice none 0 0), .v (.slice none 0 0)], .box [.v (.int .i64 a0_0), .sl 6, .sl 1, .sl 2], .row true (.ints .i64 ([] ++ a0_1))] ?_
 clear hp0
 replace ⟨hp0, h⟩ := chk_some h
 refine awp_reg ftCOk [(1, .pp 3 0), (2, .pp 4 0), (3, .pp 5 0)] [.row false (.ints .i64 a0_1), .row false (.bools a0_2), .row false (.trips a0_3), .rbox [.v (.int .i64 a0_0), .sl 0, .sl 1, .sl 2], .box [.v (.int .i64 0), .v (.slice none 0 0), .v (.slice none 0 0), .v (.slice none 0 0)], .box [.v (.int .i64 a0_0), .sl 6, .sl 7, .sl 2], .row true (.ints .i64 ([] ++ a0_1)), .row true (.bools ([] ++ a0_2))] ?_
 clear hp0
 replace ⟨hp0, h⟩ := chk_some h
 refine awp_reg ftCOk [(2, .pp 4 0), (3, .pp 5 0)] [.row false (.ints .i64 a0_1), .row false (.bools a0_2), .row false (.trips a0_3), .rbox [.v (.int .i64 a0_0), .sl 0, .sl 1, .sl 2], .box [.v (.int .i64 0), .v (.slice none 0 0), .v (.slice none 0 0), .v (.slice none 0 0)], .box [.v (.int .i64 a0_0), .sl 6, .sl 7, .sl 8], .row true (.ints .i64 ([] ++ a0_1)), .row true (.bools ([] ++ a0_2)), .row true (.trips ([] ++ a0_3))] ?_
 clear hp0
 refine awp_reg ftCOk [(2, .pp 4 0)] [.row false (.ints .i64 a0_1), .row false (.bools a0_2), .row false (.trips a0_3), .rbox [.v (.int .i64 a0_0), .sl 0, .sl 1, .sl 2], .box [.v (.int .i64 a0_0), .sl 6, .sl 7, .sl 8], .box [.v (.int .i64 a0_0), .sl 6, .sl 7, .sl 8], .row true (.ints .i64 ([] ++ a0_1)), .row true (.bools ([] ++ a0_2)), .row true (.trips ([] ++ a0_3))] ?_
 refine awp_ret ?_
 obtain rfl := Option.some.inj h
 exact finQ [0, 1, 2, 6, 7, 8]
theorem k_spec_l11Message (a0_0 : Int) (a0_1 : Int) (a0_2 : Int) (a1 : Int) {r : Bool} (h : spec_l11Message a0_0 a0_1 a0_2 a1 = some r) :
 FnA Try.prog 66 [.agg [.v (.int .i64 a0_0), .v (.int .i64 a0_1), .v (.int .i64 a0_2)], .v (.int .i64 a1)] [] [] (fun x H => x = .v (.bool r) ∧ H = []) := by
 unfold spec_l11Message at h
 refine FnA.ofA 22 [] [.tmp 4] Try.func66 en66 ?_
 refine awp_reg ftCOk [(1, .v (.int .i64 a1)), (2, .pp 0 0)] [.box [.v (.int .i64 a0_0), .v (.int .i64 a0_1), .v (.int .i64 a0_2)]] ?_
 refine awp_freeze 2 (by rfl) (by rfl) (by exact rfl) ?_
 refine awp_regS ftCOk [(4, .v (.bool (((decide (0 ≤ a0_0) && decide (a0_0 ≤ (IntKind.i64.wrap (a1 - 1)))) && (decide (0 ≤ a0_2) && decide (a0_2 ≤ (IntKind.i64.wrap (a1 - 1))))) && (decide (0 ≤ a0_1) && decide (a0_1 ≤ 999999)))))] ?_
 refine awp_ret ?_
 obtain rfl := Option.some.inj h
 exact finQ []
theorem k_spec_l9Before (a0_0 : Int) (a0_1 : Int) (a0_2 : Int) (a1_0 : Int) (a1_1 : Int) (a1_2 : Int) {r : Bool} (h : spec_l9Before a0_0 a0_1 a0_2 a1_0 a1_1 a1_2 = some r) :
 FnA Try.prog 67 [.agg [.v (.int .i64 a0_0), .v (.int .i64 a0_1), .v (.int .i64 a0_2)], .agg [.v (.int .i64 a1_0), .v (.int .i64 a1_1), .v (.int .i64 a1_2)]] [] [] (fun x H => x = .v (.bool r) ∧ H = []) := by
 unfold spec_l9Before at h
 refine FnA.ofA 30 [] [.tmp 4] Try.func67 en67 ?_
 refine awp_reg ftCOk [(2, .pp 0 0), (3, .pp 1 0)] [.box [.v (.int .i64 a0_0), .v (.int .i64 a0_1), .v (.int .i64 a0_2)], .box [.v (.int .i64 a1_0), .v (.int .i64 a1_1), .v (.int .i64 a1_2)]] ?_
 refine awp_freeze 2 (by rfl) (by rfl) (by exact rfl) ?_
 refine awp_freeze 3 (by rfl) (by rfl) (by exact rfl) ?_
 refine awp_seq fun K2 hK2 => ?_
 refine awp_regS ftCOk [(2, .pp 0 0), (3, .pp 1 0), (9, .v (.bool (a0_0 != a1_0)))] ?_
 refine awp_cond (t := 9) rfl (fun hc3 => ?_) (fun hc3 => ?_)
 ·replace h := bite_t h hc3
  refine awp_regS ftCOk [(4, .v (.bool (decide (a0_0 < a1_0))))] ?_
  refine awp_ret ?_
  obtain rfl := Option.some.inj h
  exact finQ []
 ·replace h := bite_f h hc3
  refine awp_skip ?_
  refine hK2 _ _ ?_
  clear hK2
  refine awp_seq fun K5 hK5 => ?_
  refine awp_regS ftCOk [(2, .pp 0 0), (3, .pp 1 0), (19, .v (.bool (a0_1 != a1_1)))] ?_
  refine awp_cond (t := 19) rfl (fun hc6 => ?_) (fun hc6 => ?_)
  ·replace h := bite_t h hc6
   refine awp_regS ftCOk [(4, .v (.bool (decide (a0_1 < a1_1))))] ?_
   refine awp_ret ?_
   obtain rfl := Option.some.inj h
   exact finQ []
  ·replace h := bite_f h hc6
   refine awp_skip ?_
   refine hK5 _ _ ?_
   clear hK5
   refine awp_regS ftCOk [(4, .v (.bool (decide (a0_2 < a1_2))))] ?_
   refine awp_ret ?_
   obtain rfl := Option.some.inj h
   exact finQ []
theorem k_spec_StateValid (a0_0 : Int) (a0_1 : List Int) (a0_2 : List Bool) (a0_3 : List (Int × Int × Int)) (a1 : Int) {r : Bool} (h : spec_StateValid a0_0 a0_1 a0_2 a0_3 a1 = some r) :
 FnA Try.prog 54 [.agg [.v (.int .i64 a0_0), .sl 0, .sl 1, .sl 2], .v (.int .i64 a1)] [.row false (.ints .i64 a0_1), .row false (.bools a0_2), .row false (.trips a0_3)] [] (fun x H => x = .v (.bool r) ∧ H = [.row false (.ints .i64 a0_1), .row false (.bools a0_2), .row false (.trips a0_3)]) := by
 unfold spec_StateValid at h
 refine FnA.ofA 81 [0, 1, 2] [.tmp 4] Try.func54 en54 ?_
 refine awp_reg ftCOk [(1, .v (.int .i64 a1)), (2, .pp 3 0)] [.row false (.ints .i64 a0_1), .row false (.bools a0_2), .row false (.trips a0_3), .box [.v (.int .i64 a0_0), .sl 0, .sl 1, .sl 2]] ?_
 refine awp_freeze 2 (by rfl) (by rfl) (by exact rfl) ?_
 refine awp_seq fun K20 hK20 => ?_
 refine awp_regS ftCOk [(1, .v (.int .i64 a1)), (2, .pp 3 0), (5, .v (.int .i64 0))] ?_
 refine awp_block ?_
 replace h := bind_some h
 obtain ⟨x39, hx, h⟩ := h
 refine awp_loopL hx (fun (t5 : Int) => [(1, .v (.int .i64 a1)), (2, .pp 3 0), (5, .v (.int .i64 t5))]) (fun (t5 : Int) => [.row false (.ints .i64 a0_1), .row false (.bools a0_2), .row false (.trips a0_3), .rbox [.v (.int .i64 a0_0), .sl 0, .sl 1, .sl 2]]) (Sum.elim (fun (_ : Unit) => Exit.exit 0) (fun (_ : Unit) => Exit.ret)) (Sum.elim (fun (_ : Unit) => [(1, .v (.int .i64 a1)), (2, .pp 3 0)]) (fun (_ : Unit) => [(4, .v (.bool false))])) (Sum.elim (fun (_ : Unit) => [.row false (.ints .i64 a0_1), .row false (.bools a0_2), .row false (.trips a0_3), .rbox [.v (.int .i64 a0_0), .sl 0, .sl 1, .sl 2]]) (fun (_ : Unit) => [.row false (.ints .i64 a0_1), .row false (.bools a0_2), .row false (.trips a0_3)])) ?_ ?_ ?_ ?_
 ·rintro (⟨⟩ | ⟨⟩) hy <;> cases hy
 ·clear h hx
  exact Red.auto
 ·clear h hx
  rintro t5 r h
  unfold spec_StateValid_b0 at h
  try dsimp only at h
  try dsimp only
  refine awp_seq fun K34 hK34 => ?_
  refine awp_regS ftCOk [(1, .v (.int .i64 a1)), (2, .pp 3 0), (5, .v (.int .i64 t5)), (11, .v (.bool (decide (t5 < (a0_1.length : Int)))))] ?_
  refine awp_cond (t := 11) rfl (fun hc35 => ?_) (fun hc35 => ?_)
  ·replace h := bite_t h hc35
   refine awp_skip ?_
   refine hK34 _ _ ?_
   clear hK34
   refine awp_seq fun K37 hK37 => ?_
   refine awp_block ?_
   replace ⟨hp0, h⟩ := chk_some h
   refine awp_regS ftCOk [(1, .v (.int .i64 a1)), (2, .pp 3 0), (5, .v (.int .i64 t5)), (20, .v (.bool (!(decide ((-1) ≤ (a0_1.getD t5.toNat 0)) && decide ((a0_1.getD t5.toNat 0) ≤ 999999)))))] ?_
   clear hp0
   refine awp_cond (t := 20) rfl (fun hc38 => ?_) (fun hc38 => ?_)
   ·replace h := bite_t h hc38
    refine awp_regS ftCOk [(4, .v (.bool false))] ?_
    refine awp_ret ?_
    (try simp only [Thn, InBlk, ↓reduceIte, Nat.reduceEqDiff])
    obtain rfl := Option.some.inj h
    refine LoopQ.out rfl ?_
    exact Red.selA [0, 1, 2] Red.auto
   ·replace h := bite_f h hc38
    refine awp_skip ?_
    refine hK37 _ _ ?_
    clear hK37
    replace ⟨hp0, h⟩ := chk_some h
    refine awp_regES ftCOk [(1, .v (.int .i64 a1)), (2, .pp 3 0), (5, .v (.int .i64 (t5 + 1)))] ?_
    clear hp0
    obtain rfl := Option.some.inj h
    refine LoopQ.next ?_
    exact Red.auto
  ·replace h := bite_f h hc35
   refine awp_exit ?_
   (try simp only [Thn, InBlk, ↓reduceIte, Nat.reduceEqDiff])
   obtain rfl := Option.some.inj h
   refine LoopQ.out rfl ?_
   exact Red.auto
 ·clear hx
  rcases x39 with (⟨⟩ | ⟨⟩)
  ·try dsimp only [Sum.elim_inl, Sum.elim_inr] at h
   try dsimp only [Sum.elim_inl, Sum.elim_inr]
   refine hK20 _ _ ?_
   clear hK20
   refine awp_seq fun K59 hK59 => ?_
   refine awp_regS ftCOk [(1, .v (.int .i64 a1)), (2, .pp 3 0), (6, .v (.int .i64 0))] ?_
   refine awp_block ?_
   replace h := bind_some h
   obtain ⟨x78, hx, h⟩ := h
   refine awp_loopL hx (fun (t6 : Int) => [(1, .v (.int .i64 a1)), (2, .pp 3 0), (6, .v (.int .i64 t6))]) (fun (t6 : Int) => [.row false (.ints .i64 a0_1), .row false (.bools a0_2), .row false (.trips a0_3), .rbox [.v (.int .i64 a0_0), .sl 0, .sl 1, .sl 2]]) (Sum.elim (fun (_ : Unit) => Exit.exit 2) (fun (_ : Unit) => Exit.ret)) (Sum.elim (fun (_ : Unit) => [(1, .v (.int .i64 a1)), (2, .pp 3 0)]) (fun (_ : Unit) => [(4, .v (.bool false))])) (Sum.elim (fun (_ : Unit) => [.row false (.ints .i64 a0_1), .row false (.bools a0_2), .row false (.trips a0_3), .rbox [.v (.int .i64 a0_0), .sl 0, .sl 1, .sl 2]]) (fun (_ : Unit) => [.row false (.ints .i64 a0_1), .row false (.bools a0_2), .row false (.trips a0_3)])) ?_ ?_ ?_ ?_
   ·rintro (⟨⟩ | ⟨⟩) hy <;> cases hy
   ·clear h hx
    exact Red.auto
   ·clear h hx
    rintro t6 r h
    unfold spec_StateValid_b1 at h
    try dsimp only at h
    try dsimp only
    refine awp_seq fun K73 hK73 => ?_
    refine awp_regS ftCOk [(1, .v (.int .i64 a1)), (2, .pp 3 0), (6, .v (.int .i64 t6)), (25, .v (.bool (decide (t6 < (a0_3.length : Int)))))] ?_
    refine awp_cond (t := 25) rfl (fun hc74 => ?_) (fun hc74 => ?_)
    ·replace h := bite_t h hc74
     refine awp_skip ?_
     refine hK73 _ _ ?_
     clear hK73
     refine awp_seq fun K76 hK76 => ?_
     refine awp_block ?_
     replace ⟨hp0, h⟩ := chk_some h
     replace ⟨y, hr1, h⟩ := bind_some h
     replace ⟨hp2, h⟩ := chk_some h
     have hwhp2 := wrap_fits hp2.1 hp2.2
     replace ⟨hp3, h⟩ := chk_some h
     replace ⟨hp4, h⟩ := chk_some h
     replace ⟨y_1, hr5, h⟩ := bind_some h
     refine awp_to [(1, .v (.int .i64 a1)), (2, .pp 3 0), (6, .v (.int .i64 t6)), (53, .v (.bool ((!y) || ((decide (0 < t6)) && y_1))))] [.row false (.ints .i64 a0_1), .row false (.bools a0_2), .row false (.trips a0_3), .rbox [.v (.int .i64 a0_0), .sl 0, .sl 1, .sl 2]] ?_ ?_
     ·clear h
      intro K hK
      refine awp_drawT mixed ftCOk (.free 0 (.free 2 (.free 5 (.one 1 (.one 3 (.one 4 (.one 6 (.one 7 (.one 8 (.one 9 (.one 10 (.one 11 (.free 12 (.free 14 (.free 17 (.free 19 (.free 20 (.free 13 (.free 15 (.free 16 (.one 18 (.one 21 (.one 22 (.one 23 (.one 24 (.one 25 .fin)))))))))))))))))))))))))) (by kernel_rfl) (by simp) ?_
      simp (maxSteps := 4000000) only [go_sem, Nat.reduceBEq, Nat.reduceLT, Nat.reduceAdd, Nat.reduceLeDiff, Nat.reduceSub, Nat.reduceEqDiff, Int.reduceToNat, reduceCtorEq, ↓reduceIte]
      repeat' (first | refine And.intro ?_ ?_ | intro hg)
      all_goals (try simp (disch := omega) only [wrap_fits])
      all_goals first
       | (refine hK _ _ ?_; exact Red.auto)
       | exact trivial
       | assumption
       | omega
       | exact wrap_fits (by omega) (by omega)
       | (have hq := hp3 (by first | assumption | (simp only [*, Bool.false_or, Bool.true_or, Bool.or_false, Bool.or_true, Bool.false_and, Bool.true_and, Bool.and_false, Bool.and_true, Bool.not_true, Bool.not_false, beq_self_eq_true]; done) | (simp_all; done)) (by first | assumption | (simp only [*, Bool.false_or, Bool.true_or, Bool.or_false, Bool.or_true, Bool.false_and, Bool.true_and, Bool.and_false, Bool.and_true, Bool.not_true, Bool.not_false, beq_self_eq_true]; done) | (simp_all; done)); omega)
       | (have hq := hp4 (by first | assumption | (simp only [*, Bool.false_or, Bool.true_or, Bool.or_false, Bool.or_true, Bool.false_and, Bool.true_and, Bool.and_false, Bool.and_true, Bool.not_true, Bool.not_false, beq_self_eq_true]; done) | (simp_all; done)) (by first | assumption | (simp only [*, Bool.false_or, Bool.true_or, Bool.or_false, Bool.or_true, Bool.false_and, Bool.true_and, Bool.and_false, Bool.and_true, Bool.not_true, Bool.not_false, beq_self_eq_true]; done) | (simp_all; done)); omega)
       | (refine OpK_callA (k_spec_l11Message ((a0_3.getD t6.toNat (0, 0, 0)).1) ((a0_3.getD t6.toNat (0, 0, 0)).2.1) ((a0_3.getD t6.toNat (0, 0, 0)).2.2) a1 (h := hr1)) [] [] ?_
          rintro x Hc' ⟨rfl, rfl⟩ hlen
          simp (maxSteps := 4000000) only [go_sem, Nat.reduceBEq, Nat.reduceLT, Nat.reduceAdd, Nat.reduceLeDiff, Nat.reduceSub, Nat.reduceEqDiff, Int.reduceToNat, reduceCtorEq, ↓reduceIte]
          repeat' (first | refine And.intro ?_ ?_ | intro hg)
          all_goals (try simp (disch := omega) only [wrap_fits])
          all_goals first
           | (refine hK _ _ ?_; exact Red.auto)
           | exact trivial
           | assumption
           | omega
           | exact wrap_fits (by omega) (by omega)
           | (have hq := hp3 (by first | assumption | (simp only [*, Bool.false_or, Bool.true_or, Bool.or_false, Bool.or_true, Bool.false_and, Bool.true_and, Bool.and_false, Bool.and_true, Bool.not_true, Bool.not_false, beq_self_eq_true]; done) | (simp_all; done)) (by first | assumption | (simp only [*, Bool.false_or, Bool.true_or, Bool.or_false, Bool.or_true, Bool.false_and, Bool.true_and, Bool.and_false, Bool.and_true, Bool.not_true, Bool.not_false, beq_self_eq_true]; done) | (simp_all; done)); omega)
           | (have hq := hp4 (by first | assumption | (simp only [*, Bool.false_or, Bool.true_or, Bool.or_false, Bool.or_true, Bool.false_and, Bool.true_and, Bool.and_false, Bool.and_true, Bool.not_true, Bool.not_false, beq_self_eq_true]; done) | (simp_all; done)) (by first | assumption | (simp only [*, Bool.false_or, Bool.true_or, Bool.or_false, Bool.or_true, Bool.false_and, Bool.true_and, Bool.and_false, Bool.and_true, Bool.not_true, Bool.not_false, beq_self_eq_true]; done) | (simp_all; done)); omega)
           | (refine OpK_callA (k_spec_l9Before ((a0_3.getD t6.toNat (0, 0, 0)).1) ((a0_3.getD t6.toNat (0, 0, 0)).2.1) ((a0_3.getD t6.toNat (0, 0, 0)).2.2) ((a0_3.getD ((t6 - 1).toNat) (0, 0, 0)).1) ((a0_3.getD ((t6 - 1).toNat) (0, 0, 0)).2.1) ((a0_3.getD ((t6 - 1).toNat) (0, 0, 0)).2.2) (h := (bite_t (bite_t hr5 (by first | assumption | (simp only [*, Bool.false_or, Bool.true_or, Bool.or_false, Bool.or_true, Bool.false_and, Bool.true_and, Bool.and_false, Bool.and_true, Bool.not_true, Bool.not_false, beq_self_eq_true]; done) | (simp_all; done))) (by rw [Bool.not_eq_true']; exact (by first | assumption | (simp only [*, Bool.false_or, Bool.true_or, Bool.or_false, Bool.or_true, Bool.false_and, Bool.true_and, Bool.and_false, Bool.and_true, Bool.not_true, Bool.not_false, beq_self_eq_true]; done) | (simp_all; done)))))) [] [] ?_
              rintro x Hc' ⟨rfl, rfl⟩ hlen
              simp (maxSteps := 4000000) only [go_sem, Nat.reduceBEq, Nat.reduceLT, Nat.reduceAdd, Nat.reduceLeDiff, Nat.reduceSub, Nat.reduceEqDiff, Int.reduceToNat, reduceCtorEq, ↓reduceIte]
              repeat' (first | refine And.intro ?_ ?_ | intro hg)
              all_goals (try simp (disch := omega) only [wrap_fits])
              all_goals first
               | (refine hK _ _ ?_; exact Red.auto)
               | exact trivial
               | assumption
               | omega
               | exact wrap_fits (by omega) (by omega)
               | (have hq := hp3 (by first | assumption | (simp only [*, Bool.false_or, Bool.true_or, Bool.or_false, Bool.or_true, Bool.false_and, Bool.true_and, Bool.and_false, Bool.and_true, Bool.not_true, Bool.not_false, beq_self_eq_true]; done) | (simp_all; done)) (by first | assumption | (simp only [*, Bool.false_or, Bool.true_or, Bool.or_false, Bool.or_true, Bool.false_and, Bool.true_and, Bool.and_false, Bool.and_true, Bool.not_true, Bool.not_false, beq_self_eq_true]; done) | (simp_all; done)); omega)
               | (have hq := hp4 (by first | assumption | (simp only [*, Bool.false_or, Bool.true_or, Bool.or_false, Bool.or_true, Bool.false_and, Bool.true_and, Bool.and_false, Bool.and_true, Bool.not_true, Bool.not_false, beq_self_eq_true]; done) | (simp_all; done)) (by first | assumption | (simp only [*, Bool.false_or, Bool.true_or, Bool.or_false, Bool.or_true, Bool.false_and, Bool.true_and, Bool.and_false, Bool.and_true, Bool.not_true, Bool.not_false, beq_self_eq_true]; done) | (simp_all; done)); omega)
               | (simp (maxSteps := 4000000) only [go_sem, Nat.reduceBEq, Nat.reduceLT, Nat.reduceAdd, Nat.reduceLeDiff, Nat.reduceSub, Nat.reduceEqDiff, Int.reduceToNat, reduceCtorEq, ↓reduceIte]
                  repeat' (first | refine And.intro ?_ ?_ | intro hg)
                  all_goals (try simp (disch := omega) only [wrap_fits])
                  all_goals first | (refine hK _ _ ?_; exact Red.auto) | exact trivial | assumption | omega | exact wrap_fits (by omega) (by omega) | (have hq := hp3 (by first | assumption | (simp only [*, Bool.false_or, Bool.true_or, Bool.or_false, Bool.or_true, Bool.false_and, Bool.true_and, Bool.and_false, Bool.and_true, Bool.not_true, Bool.not_false, beq_self_eq_true]; done) | (simp_all; done)) (by first | assumption | (simp only [*, Bool.false_or, Bool.true_or, Bool.or_false, Bool.or_true, Bool.false_and, Bool.true_and, Bool.and_false, Bool.and_true, Bool.not_true, Bool.not_false, beq_self_eq_true]; done) | (simp_all; done)); omega) | (have hq := hp4 (by first | assumption | (simp only [*, Bool.false_or, Bool.true_or, Bool.or_false, Bool.or_true, Bool.false_and, Bool.true_and, Bool.and_false, Bool.and_true, Bool.not_true, Bool.not_false, beq_self_eq_true]; done) | (simp_all; done)) (by first | assumption | (simp only [*, Bool.false_or, Bool.true_or, Bool.or_false, Bool.or_true, Bool.false_and, Bool.true_and, Bool.and_false, Bool.and_true, Bool.not_true, Bool.not_false, beq_self_eq_true]; done) | (simp_all; done)); omega))
               | (simp_all; done)
               | (simp_all; omega))
           | (simp_all; done)
           | (simp_all; omega))
       | (simp_all; done)
       | (simp_all; omega)
     ·clear hp0 hr1 hp2 hp3 hp4 hr5
      refine awp_cond (t := 53) rfl (fun hc77 => ?_) (fun hc77 => ?_)
      ·replace h := bite_t h hc77
       refine awp_regS ftCOk [(4, .v (.bool false))] ?_
       refine awp_ret ?_
       (try simp only [Thn, InBlk, ↓reduceIte, Nat.reduceEqDiff])
       obtain rfl := Option.some.inj h
       refine LoopQ.out rfl ?_
       exact Red.selA [0, 1, 2] Red.auto
      ·replace h := bite_f h hc77
       refine awp_skip ?_
       refine hK76 _ _ ?_
       clear hK76
       replace ⟨hp0, h⟩ := chk_some h
       refine awp_regES ftCOk [(1, .v (.int .i64 a1)), (2, .pp 3 0), (6, .v (.int .i64 (t6 + 1)))] ?_
       clear hp0
       obtain rfl := Option.some.inj h
       refine LoopQ.next ?_
       exact Red.auto
    ·replace h := bite_f h hc74
     refine awp_exit ?_
     (try simp only [Thn, InBlk, ↓reduceIte, Nat.reduceEqDiff])
     obtain rfl := Option.some.inj h
     refine LoopQ.out rfl ?_
     exact Red.auto
   ·clear hx
    rcases x78 with (⟨⟩ | ⟨⟩)
    ·try dsimp only [Sum.elim_inl, Sum.elim_inr] at h
     try dsimp only [Sum.elim_inl, Sum.elim_inr]
     refine hK59 _ _ ?_
     clear hK59
     refine awp_to [(4, .v (.bool (((((decide (0 ≤ a1) && decide (a1 ≤ 16)) && (decide (0 ≤ a0_0) && decide (a0_0 ≤ 100))) && ((a0_1.length : Int) == a1)) && ((a0_2.length : Int) == a1)) && (decide ((a0_3.length : Int) ≤ 2000)))))] [.row false (.ints .i64 a0_1), .row false (.bools a0_2), .row false (.trips a0_3), .rbox [.v (.int .i64 a0_0), .sl 0, .sl 1, .sl 2]] ?_ ?_
     ·clear h
      intro K hK
      refine awp_regionA ?_
      refine wpA_cutAt 7 [(1, .v (.int .i64 a1)), (2, .pp 3 0), (60, .v (.bool ((decide (0 ≤ a1) && decide (a1 ≤ 16)) && (decide (0 ≤ a0_0) && decide (a0_0 ≤ 100)))))] [.row false (.ints .i64 a0_1), .row false (.bools a0_2), .row false (.trips a0_3), .rbox [.v (.int .i64 a0_0), .sl 0, .sl 1, .sl 2]] ?_ ?_
      ·clear hK K
       intro K hK
       refine vcOps_sound ftCOk ?_
       simp (maxSteps := 4000000) only [go_sem, Nat.reduceBEq, Nat.reduceLT, Nat.reduceAdd, Nat.reduceLeDiff, Nat.reduceSub, Nat.reduceEqDiff, Int.reduceToNat, reduceCtorEq, ↓reduceIte]
       repeat' (first | refine And.intro ?_ ?_ | intro hg)
       all_goals (try simp (disch := omega) only [wrap_fits])
       all_goals first | (refine hK _ _ ?_; exact Red.auto) | exact trivial | assumption | omega | exact wrap_fits (by omega) (by omega) | (simp_all; done) | (simp_all; omega)
      refine wpA_cutAt 7 [(1, .v (.int .i64 a1)), (2, .pp 3 0), (67, .v (.bool (((decide (0 ≤ a1) && decide (a1 ≤ 16)) && (decide (0 ≤ a0_0) && decide (a0_0 ≤ 100))) && ((a0_1.length : Int) == a1))))] [.row false (.ints .i64 a0_1), .row false (.bools a0_2), .row false (.trips a0_3), .rbox [.v (.int .i64 a0_0), .sl 0, .sl 1, .sl 2]] ?_ ?_
      ·clear hK K
       intro K hK
       refine vcOps_sound ftCOk ?_
       simp (maxSteps := 4000000) only [go_sem, Nat.reduceBEq, Nat.reduceLT, Nat.reduceAdd, Nat.reduceLeDiff, Nat.reduceSub, Nat.reduceEqDiff, Int.reduceToNat, reduceCtorEq, ↓reduceIte]
       repeat' (first | refine And.intro ?_ ?_ | intro hg)
       all_goals (try simp (disch := omega) only [wrap_fits])
       all_goals first | (refine hK _ _ ?_; exact Red.auto) | exact trivial | assumption | omega | exact wrap_fits (by omega) (by omega) | (simp_all; done) | (simp_all; omega)
      refine wpA_cutAt 7 [(2, .pp 3 0), (74, .v (.bool ((((decide (0 ≤ a1) && decide (a1 ≤ 16)) && (decide (0 ≤ a0_0) && decide (a0_0 ≤ 100))) && ((a0_1.length : Int) == a1)) && ((a0_2.length : Int) == a1))))] [.row false (.ints .i64 a0_1), .row false (.bools a0_2), .row false (.trips a0_3), .rbox [.v (.int .i64 a0_0), .sl 0, .sl 1, .sl 2]] ?_ ?_
      ·clear hK K
       intro K hK
       refine vcOps_sound ftCOk ?_
       simp (maxSteps := 4000000) only [go_sem, Nat.reduceBEq, Nat.reduceLT, Nat.reduceAdd, Nat.reduceLeDiff, Nat.reduceSub, Nat.reduceEqDiff, Int.reduceToNat, reduceCtorEq, ↓reduceIte]
       repeat' (first | refine And.intro ?_ ?_ | intro hg)
       all_goals (try simp (disch := omega) only [wrap_fits])
       all_goals first | (refine hK _ _ ?_; exact Red.auto) | exact trivial | assumption | omega | exact wrap_fits (by omega) (by omega) | (simp_all; done) | (simp_all; omega)
      refine vcOps_sound ftCOk ?_
      simp (maxSteps := 4000000) only [go_sem, Nat.reduceBEq, Nat.reduceLT, Nat.reduceAdd, Nat.reduceLeDiff, Nat.reduceSub, Nat.reduceEqDiff, Int.reduceToNat, reduceCtorEq, ↓reduceIte]
      repeat' (first | refine And.intro ?_ ?_ | intro hg)
      all_goals (try simp (disch := omega) only [wrap_fits])
      all_goals first | (refine hK _ _ ?_; exact Red.auto) | exact trivial | assumption | omega | exact wrap_fits (by omega) (by omega) | (simp_all; done) | (simp_all; omega)
     ·refine awp_ret ?_
      obtain rfl := Option.some.inj h
      exact finQ [0, 1, 2]
    ·try dsimp only [Sum.elim_inl, Sum.elim_inr] at h
     try dsimp only [Sum.elim_inl, Sum.elim_inr]
     obtain rfl := Option.some.inj h
     exact finQ [0, 1, 2]
  ·try dsimp only [Sum.elim_inl, Sum.elim_inr] at h
   try dsimp only [Sum.elim_inl, Sum.elim_inr]
   obtain rfl := Option.some.inj h
   exact finQ [0, 1, 2]
theorem k_spec_EncodeNumber (a0 : Int) {r : List Int} (h : spec_EncodeNumber a0 = some r) :
 FnA Try.prog 56 [.v (.int .i64 a0)] [] [] (fun x H => x = .sl 0 ∧ H = [.row true (.ints .i64 r)]) := by
 unfold spec_EncodeNumber at h
 refine FnA.ofA 23 [] [.tmp 2] Try.func56 en56 ?_
 refine awp_regS ftCOk [(0, .v (.int .i64 a0))] ?_
 refine awp_reg ftCOk [(0, .v (.int .i64 a0)), (3, .sl 0)] [.row true (.ints .i64 [])] ?_
 refine awp_seq fun K2 hK2 => ?_
 refine awp_regS ftCOk [(0, .v (.int .i64 a0)), (3, .sl 0), (7, .v (.bool (!(decide (0 ≤ a0) && decide (a0 ≤ 1000000)))))] ?_
 refine awp_cond (t := 7) rfl (fun hc3 => ?_) (fun hc3 => ?_)
 ·replace h := bite_t h hc3
  refine awp_regS ftCOk [(2, .sl 0)] ?_
  refine awp_ret ?_
  obtain rfl := Option.some.inj h
  exact finQ [0]
 ·replace h := bite_f h hc3
  refine awp_skip ?_
  refine hK2 _ _ ?_
  clear hK2
  refine awp_seq fun K14 hK14 => ?_
  refine awp_block ?_
  replace h := bind_some h
  obtain ⟨x24, hx, h⟩ := h
  refine awp_loopL hx (fun ((t0, t3s) : Int × List Int) => [(0, .v (.int .i64 t0)), (3, .sl 0)]) (fun ((t0, t3s) : Int × List Int) => [.row true (.ints .i64 t3s)]) (fun ((t0_1, t3s_1) : Int × List Int) => Exit.exit 0) (fun ((t0_1, t3s_1) : Int × List Int) => [(0, .v (.int .i64 t0_1)), (3, .sl 0)]) (fun ((t0_1, t3s_1) : Int × List Int) => [.row true (.ints .i64 t3s_1)]) ?_ ?_ ?_ ?_
  ·rintro ⟨t0_1, t3s_1⟩ hy <;> cases hy
  ·clear h hx
   exact Red.auto
  ·clear h hx
   rintro ⟨t0, t3s⟩ r h
   unfold spec_EncodeNumber_b0 at h
   try dsimp only at h
   try dsimp only
   refine awp_seq fun K22 hK22 => ?_
   refine awp_regS ftCOk [(0, .v (.int .i64 t0)), (3, .sl 0), (10, .v (.bool (decide (127 < t0))))] ?_
   refine awp_cond (t := 10) rfl (fun hc23 => ?_) (fun hc23 => ?_)
   ·replace h := bite_t h hc23
    refine awp_skip ?_
    refine hK22 _ _ ?_
    clear hK22
    refine awp_block ?_
    replace ⟨hp0, h⟩ := chk_some h
    replace ⟨hp1, h⟩ := chk_some h
    replace ⟨hp2, h⟩ := chk_some h
    refine awp_reg ftCOk [(0, .v (.int .i64 t0)), (3, .sl 0)] [.row true (.ints .i64 (t3s ++ [((t0 % 128) + 128)])), .row true (.ints .i64 [((t0 % 128) + 128)])] ?_
    clear hp0 hp1 hp2
    replace ⟨hp0, h⟩ := chk_some h
    refine awp_regES ftCOk [(0, .v (.int .i64 (t0 / 128))), (3, .sl 0)] ?_
    clear hp0
    (try simp only [Thn, InBlk, ↓reduceIte, Nat.reduceEqDiff])
    obtain rfl := Option.some.inj h
    refine LoopQ.next ?_
    exact Red.selA [0] Red.auto
   ·replace h := bite_f h hc23
    refine awp_exit ?_
    (try simp only [Thn, InBlk, ↓reduceIte, Nat.reduceEqDiff])
    obtain rfl := Option.some.inj h
    refine LoopQ.out rfl ?_
    exact Red.auto
  ·clear hx
   rcases x24 with ⟨t0_1, t3s_1⟩
   ·try dsimp only [Sum.elim_inl, Sum.elim_inr] at h
    try dsimp only [Sum.elim_inl, Sum.elim_inr]
    refine hK14 _ _ ?_
    clear hK14
    replace ⟨hp0, h⟩ := chk_some h
    refine awp_reg ftCOk [(2, .sl 0)] [.row true (.ints .i64 (t3s_1 ++ [t0_1])), .row true (.ints .i64 [t0_1])] ?_
    clear hp0
    refine awp_ret ?_
    obtain rfl := Option.some.inj h
    exact finQ [0]
theorem k_spec_l18Start (a0_0 : Int) (a0_1 : List Int) (a0_2 : List Bool) (a0_3 : List (Int × Int × Int)) {r : List Int} (h : spec_l18Start a0_0 a0_1 a0_2 a0_3 = some r) :
 FnA Try.prog 55 [.agg [.v (.int .i64 a0_0), .sl 0, .sl 1, .sl 2]] [.row false (.ints .i64 a0_1), .row false (.bools a0_2), .row false (.trips a0_3)] [] (fun x H => x = .sl 3 ∧ H = [.row false (.ints .i64 a0_1), .row false (.bools a0_2), .row false (.trips a0_3), .row true (.ints .i64 r)]) := by
 unfold spec_l18Start at h
 refine FnA.ofA 21 [0, 1, 2] [.tmp 2] Try.func55 en55 ?_
 refine awp_reg ftCOk [(1, .pp 3 0)] [.row false (.ints .i64 a0_1), .row false (.bools a0_2), .row false (.trips a0_3), .box [.v (.int .i64 a0_0), .sl 0, .sl 1, .sl 2]] ?_
 refine awp_freeze 1 (by rfl) (by rfl) (by exact rfl) ?_
 replace ⟨y, hr0, h⟩ := bind_some h
 replace ⟨hp1, h⟩ := chk_some h
 refine awp_regC ftCOk [(1, .pp 3 0), (3, .sl 4)] [.row false (.ints .i64 a0_1), .row false (.bools a0_2), .row false (.trips a0_3), .rbox [.v (.int .i64 a0_0), .sl 0, .sl 1, .sl 2], .row true (.ints .i64 ([1] ++ y)), .row true (.ints .i64 y)] 3 [] (k_spec_EncodeNumber a0_0 (h := hr0)) ?_
 clear hr0 hp1
 replace ⟨y_1, hr0, h⟩ := bind_some h
 replace ⟨hp1, h⟩ := chk_some h
 refine awp_regC ftCOk [(1, .pp 3 0), (3, .sl 4)] [.row false (.ints .i64 a0_1), .row false (.bools a0_2), .row false (.trips a0_3), .rbox [.v (.int .i64 a0_0), .sl 0, .sl 1, .sl 2], .row true (.ints .i64 (([1] ++ y) ++ y_1)), .row true (.ints .i64 y), .row true (.ints .i64 y_1)] 4 [] (k_spec_EncodeNumber (a0_1.length : Int) (h := hr0)) ?_
 clear hr0 hp1
 replace ⟨y_2, hr0, h⟩ := bind_some h
 replace ⟨hp1, h⟩ := chk_some h
 refine awp_regC ftCOk [(2, .sl 4)] [.row false (.ints .i64 a0_1), .row false (.bools a0_2), .row false (.trips a0_3), .rbox [.v (.int .i64 a0_0), .sl 0, .sl 1, .sl 2], .row true (.ints .i64 ((([1] ++ y) ++ y_1) ++ y_2)), .row true (.ints .i64 y), .row true (.ints .i64 y_1), .row true (.ints .i64 y_2)] 4 [] (k_spec_EncodeNumber (a0_3.length : Int) (h := hr0)) ?_
 clear hr0 hp1
 refine awp_ret ?_
 obtain rfl := Option.some.inj h
 exact finQ [0, 1, 2, 4]
theorem k_spec_EdgeBody (a0_0 : Int) (a0_1 : Int) (a0_2 : Int) {r : List Int} (h : spec_EdgeBody a0_0 a0_1 a0_2 = some r) :
 FnA Try.prog 57 [.agg [.v (.int .i64 a0_0), .v (.int .i64 a0_1), .v (.int .i64 a0_2)]] [] [] (fun x H => x = .sl 0 ∧ H = [.row true (.ints .i64 r)]) := by
 unfold spec_EdgeBody at h
 refine FnA.ofA 34 [] [.tmp 2] Try.func57 en57 ?_
 refine awp_reg ftCOk [(1, .pp 0 0)] [.box [.v (.int .i64 a0_0), .v (.int .i64 a0_1), .v (.int .i64 a0_2)]] ?_
 refine awp_freeze 1 (by rfl) (by rfl) (by exact rfl) ?_
 replace ⟨y, hr0, h⟩ := bind_some h
 refine awp_regC ftCOk [(1, .pp 0 0), (3, .sl 1)] [.rbox [.v (.int .i64 a0_0), .v (.int .i64 a0_1), .v (.int .i64 a0_2)], .row true (.ints .i64 y)] 2 [] (k_spec_EncodeNumber a0_0 (h := hr0)) ?_
 clear hr0
 replace ⟨y_1, hr0, h⟩ := bind_some h
 refine awp_regC ftCOk [(1, .pp 0 0), (3, .sl 1), (4, .sl 2)] [.rbox [.v (.int .i64 a0_0), .v (.int .i64 a0_1), .v (.int .i64 a0_2)], .row true (.ints .i64 y), .row true (.ints .i64 y_1)] 2 [] (k_spec_EncodeNumber a0_1 (h := hr0)) ?_
 clear hr0
 replace ⟨y_2, hr0, h⟩ := bind_some h
 refine awp_regC ftCOk [(3, .sl 1), (4, .sl 2), (5, .sl 3)] [.rbox [.v (.int .i64 a0_0), .v (.int .i64 a0_1), .v (.int .i64 a0_2)], .row true (.ints .i64 y), .row true (.ints .i64 y_1), .row true (.ints .i64 y_2)] 2 [] (k_spec_EncodeNumber a0_2 (h := hr0)) ?_
 clear hr0
 refine awp_seq fun K2 hK2 => ?_
 refine awp_regS ftCOk [(3, .sl 1), (4, .sl 2), (5, .sl 3), (27, .v (.bool ((((y.length : Int) == 0) || ((y_1.length : Int) == 0)) || ((y_2.length : Int) == 0))))] ?_
 refine awp_cond (t := 27) rfl (fun hc3 => ?_) (fun hc3 => ?_)
 ·replace h := bite_t h hc3
  refine awp_reg ftCOk [(2, .sl 4)] [.rbox [.v (.int .i64 a0_0), .v (.int .i64 a0_1), .v (.int .i64 a0_2)], .row true (.ints .i64 y), .row true (.ints .i64 y_1), .row true (.ints .i64 y_2), .row true (.ints .i64 [])] ?_
  refine awp_ret ?_
  obtain rfl := Option.some.inj h
  exact finQ [4]
 ·replace h := bite_f h hc3
  refine awp_skip ?_
  refine hK2 _ _ ?_
  clear hK2
  replace ⟨hp0, h⟩ := chk_some h
  replace ⟨hp1, h⟩ := chk_some h
  refine awp_reg ftCOk [(2, .sl 1)] [.rbox [.v (.int .i64 a0_0), .v (.int .i64 a0_1), .v (.int .i64 a0_2)], .row true (.ints .i64 ((y ++ y_1) ++ y_2)), .row true (.ints .i64 y_1), .row true (.ints .i64 y_2)] ?_
  clear hp0 hp1
  refine awp_ret ?_
  obtain rfl := Option.some.inj h
  exact finQ [1]
theorem k_spec_StateBodies (a0_0 : Int) (a0_1 : List Int) (a0_2 : List Bool) (a0_3 : List (Int × Int × Int)) {r : List (List Int)} (h : spec_StateBodies a0_0 a0_1 a0_2 a0_3 = some r) :
 FnA Try.prog 44 [.agg [.v (.int .i64 a0_0), .sl 0, .sl 1, .sl 2]] [.row false (.ints .i64 a0_1), .row false (.bools a0_2), .row false (.trips a0_3)] [] (fun x H => x = .sl 3 ∧ H = [.row false (.ints .i64 a0_1), .row false (.bools a0_2), .row false (.trips a0_3), .row true (.intss .i64 r)]) := by
 unfold spec_StateBodies at h
 refine FnA.ofA 79 [0, 1, 2] [.tmp 2] Try.func44 en44 ?_
 refine awp_reg ftCOk [(1, .pp 3 0)] [.row false (.ints .i64 a0_1), .row false (.bools a0_2), .row false (.trips a0_3), .box [.v (.int .i64 a0_0), .sl 0, .sl 1, .sl 2]] ?_
 replace ⟨⟨y, y_1, y_2, y_3⟩, hr0, h⟩ := bind_some h
 try dsimp only at h
 refine awp_regC ftCOk [(1, .pp 3 0)] [.row false (.ints .i64 a0_1), .row false (.bools a0_2), .row false (.trips a0_3), .box [.v (.int .i64 y), .sl 4, .sl 5, .sl 6], .row true (.ints .i64 y_1), .row true (.bools y_2), .row true (.trips y_3)] 1 [0, 1, 2] (k_spec_l1OwnState a0_0 a0_1 a0_2 a0_3 (h := hr0)) ?_
 clear hr0
 refine awp_reg ftCOk [(1, .pp 3 0), (3, .sl 7)] [.row false (.ints .i64 a0_1), .row false (.bools a0_2), .row false (.trips a0_3), .box [.v (.int .i64 y), .sl 4, .sl 5, .sl 6], .row true (.ints .i64 y_1), .row true (.bools y_2), .row true (.trips y_3), .row true (.intss .i64 [])] ?_
 refine awp_seq fun K2 hK2 => ?_
 replace ⟨y_4, hr0, h⟩ := bind_some h
 refine awp_regC ftCOk [(1, .pp 3 0), (3, .sl 7), (16, .v (.bool (!y_4)))] [.row false (.ints .i64 a0_1), .row false (.bools a0_2), .row false (.trips a0_3), .box [.v (.int .i64 y), .sl 4, .sl 5, .sl 6], .row true (.ints .i64 y_1), .row true (.bools y_2), .row true (.trips y_3), .row true (.intss .i64 [])] 4 [4, 5, 6] (k_spec_StateValid y y_1 y_2 y_3 (y_1.length : Int) (h := hr0)) ?_
 clear hr0
 refine awp_cond (t := 16) rfl (fun hc3 => ?_) (fun hc3 => ?_)
 ·replace h := bite_t h hc3
  refine awp_regS ftCOk [(2, .sl 7)] ?_
  refine awp_ret ?_
  obtain rfl := Option.some.inj h
  exact finQ [0, 1, 2, 7]
 ·replace h := bite_f h hc3
  refine awp_skip ?_
  refine hK2 _ _ ?_
  clear hK2
  replace ⟨y_5, hr0, h⟩ := bind_some h
  replace ⟨hp1, h⟩ := chk_some h
  refine awp_regC ftCOk [(1, .pp 3 0), (3, .sl 7)] [.row false (.ints .i64 a0_1), .row false (.bools a0_2), .row false (.trips a0_3), .box [.v (.int .i64 y), .sl 4, .sl 5, .sl 6], .row true (.ints .i64 y_1), .row true (.bools y_2), .row true (.trips y_3), .tak true (.intss .i64 ([] ++ [[]])) 0 0 (some 8), .row true (.ints .i64 y_5), .tak true (.intss .i64 [[]]) 0 0 (some 8)] 2 [4, 5, 6] (k_spec_l18Start y y_1 y_2 y_3 (h := hr0)) ?_
  clear hr0 hp1
  refine awp_seq fun K29 hK29 => ?_
  refine awp_put 7 8 (by rfl) (by rfl) (by rfl) (by exact rfl) ?_
  refine awp_regS ftCOk [(1, .pp 3 0), (3, .sl 7), (4, .v (.int .i64 0))] ?_
  refine awp_block ?_
  replace h := bind_some h
  obtain ⟨t3s_1, hx, h⟩ := h
  refine awp_loopL hx (fun ((t4, t3s) : Int × List (List Int)) => [(1, .pp 3 0), (3, .sl 7), (4, .v (.int .i64 t4))]) (fun ((t4, t3s) : Int × List (List Int)) => [.row false (.ints .i64 a0_1), .row false (.bools a0_2), .row false (.trips a0_3), .box [.v (.int .i64 y), .sl 4, .sl 5, .sl 6], .row true (.ints .i64 y_1), .row true (.bools y_2), .row true (.trips y_3), .row true (.intss .i64 t3s)]) (fun (t3s_1 : List (List Int)) => Exit.exit 0) (fun (t3s_1 : List (List Int)) => [(1, .pp 3 0), (3, .sl 7)]) (fun (t3s_1 : List (List Int)) => [.row false (.ints .i64 a0_1), .row false (.bools a0_2), .row false (.trips a0_3), .box [.v (.int .i64 y), .sl 4, .sl 5, .sl 6], .row true (.ints .i64 y_1), .row true (.bools y_2), .row true (.trips y_3), .row true (.intss .i64 t3s_1)]) ?_ ?_ ?_ ?_
  ·rintro t3s_1 hy <;> cases hy
  ·clear h hx
   exact Red.selA [0, 1, 2, 3, 4, 5, 6, 7] Red.auto
  ·clear h hx
   rintro ⟨t4, t3s⟩ r h
   unfold spec_StateBodies_b0 at h
   try dsimp only at h
   try dsimp only
   refine awp_seq fun K47 hK47 => ?_
   refine awp_regS ftCOk [(1, .pp 3 0), (3, .sl 7), (4, .v (.int .i64 t4)), (27, .v (.bool (decide (t4 < (y_1.length : Int)))))] ?_
   refine awp_cond (t := 27) rfl (fun hc48 => ?_) (fun hc48 => ?_)
   ·replace h := bite_t h hc48
    refine awp_skip ?_
    refine hK47 _ _ ?_
    clear hK47
    refine awp_seq fun K51 hK51 => ?_
    refine awp_block ?_
    refine awp_regS ftCOk [(1, .pp 3 0), (3, .sl 7), (4, .v (.int .i64 t4)), (5, .v (.int .i64 0))] ?_
    refine awp_join h (fun (t5 : Int) => [(1, .pp 3 0), (3, .sl 7), (4, .v (.int .i64 t4)), (5, .v (.int .i64 t5))]) (fun (t5 : Int) => [.row false (.ints .i64 a0_1), .row false (.bools a0_2), .row false (.trips a0_3), .box [.v (.int .i64 y), .sl 4, .sl 5, .sl 6], .row true (.ints .i64 y_1), .row true (.bools y_2), .row true (.trips y_3), .row true (.intss .i64 t3s)]) ?_ ?_
    ·clear h
     intro k h
     try dsimp only at h
     replace ⟨hp0, h⟩ := chk_some h
     refine awp_regS ftCOk [(1, .pp 3 0), (3, .sl 7), (4, .v (.int .i64 t4)), (5, .v (.int .i64 0)), (34, .v (.bool (y_2.getD t4.toNat false)))] ?_
     clear hp0
     refine awp_cond (t := 34) rfl (fun hc53 => ?_) (fun hc53 => ?_)
     ·replace h := bite_t h hc53
      refine awp_regES ftCOk [(1, .pp 3 0), (3, .sl 7), (4, .v (.int .i64 t4)), (5, .v (.int .i64 1))] ?_
      (try simp only [Thn, InBlk, ↓reduceIte, Nat.reduceEqDiff])
      refine ⟨_, h, ?_⟩
      exact Red.auto
     ·replace h := bite_f h hc53
      refine awp_skip ?_
      (try simp only [Thn, InBlk, ↓reduceIte, Nat.reduceEqDiff])
      refine ⟨_, h, ?_⟩
      exact Red.auto
    ·clear h
     rintro t5 h
     try dsimp only at h
     try dsimp only
     replace ⟨hp0, h⟩ := chk_some h
     replace ⟨hp1, h⟩ := chk_some h
     replace ⟨y_6, hr2, h⟩ := bind_some h
     replace ⟨hp3, h⟩ := chk_some h
     replace ⟨hp4, h⟩ := chk_some h
     replace ⟨hp5, h⟩ := chk_some h
     refine awp_regEC ftCOk [(1, .pp 3 0), (3, .sl 7), (4, .v (.int .i64 t4))] [.row false (.ints .i64 a0_1), .row false (.bools a0_2), .row false (.trips a0_3), .box [.v (.int .i64 y), .sl 4, .sl 5, .sl 6], .row true (.ints .i64 y_1), .row true (.bools y_2), .row true (.trips y_3), .tak true (.intss .i64 (t3s ++ [[]])) t3s.length 0 (some 8), .row true (.ints .i64 (([2] ++ y_6) ++ [t5])), .row true (.ints .i64 y_6), .row true (.ints .i64 [t5]), .tak true (.intss .i64 [[]]) 0 0 (some 8)] 8 [] (k_spec_EncodeNumber ((y_1.getD t4.toNat 0) + 1) (h := hr2)) ?_
     clear hp0 hp1 hr2 hp3 hp4 hp5
     refine hK51 _ _ ?_
     clear hK51
     refine awp_put 7 8 (by rfl) (by rfl) (by rfl) (by exact rfl) ?_
     replace ⟨hp0, h⟩ := chk_some h
     refine awp_regES ftCOk [(1, .pp 3 0), (3, .sl 7), (4, .v (.int .i64 (t4 + 1)))] ?_
     clear hp0
     obtain rfl := Option.some.inj h
     refine LoopQ.next ?_
     exact Red.selA [0, 1, 2, 3, 4, 5, 6, 7] Red.auto
   ·replace h := bite_f h hc48
    refine awp_exit ?_
    (try simp only [Thn, InBlk, ↓reduceIte, Nat.reduceEqDiff])
    obtain rfl := Option.some.inj h
    refine LoopQ.out rfl ?_
    exact Red.auto
  ·clear hx
   skip
   ·try dsimp only [Sum.elim_inl, Sum.elim_inr] at h
    try dsimp only [Sum.elim_inl, Sum.elim_inr]
    refine hK29 _ _ ?_
    clear hK29
    refine awp_seq fun K68 hK68 => ?_
    refine awp_regS ftCOk [(1, .pp 3 0), (3, .sl 7), (6, .v (.int .i64 0))] ?_
    refine awp_block ?_
    replace h := bind_some h
    obtain ⟨t3s_3, hx, h⟩ := h
    refine awp_loopL hx (fun ((t6, t3s_2) : Int × List (List Int)) => [(1, .pp 3 0), (3, .sl 7), (6, .v (.int .i64 t6))]) (fun ((t6, t3s_2) : Int × List (List Int)) => [.row false (.ints .i64 a0_1), .row false (.bools a0_2), .row false (.trips a0_3), .box [.v (.int .i64 y), .sl 4, .sl 5, .sl 6], .row true (.ints .i64 y_1), .row true (.bools y_2), .row true (.trips y_3), .row true (.intss .i64 t3s_2)]) (fun (t3s_3 : List (List Int)) => Exit.exit 2) (fun (t3s_3 : List (List Int)) => [(3, .sl 3)]) (fun (t3s_3 : List (List Int)) => [.row false (.ints .i64 a0_1), .row false (.bools a0_2), .row false (.trips a0_3), .row true (.intss .i64 t3s_3)]) ?_ ?_ ?_ ?_
    ·rintro t3s_3 hy <;> cases hy
    ·clear h hx
     exact Red.auto
    ·clear h hx
     rintro ⟨t6, t3s_2⟩ r h
     unfold spec_StateBodies_b1 at h
     try dsimp only at h
     try dsimp only
     refine awp_seq fun K78 hK78 => ?_
     refine awp_regS ftCOk [(1, .pp 3 0), (3, .sl 7), (6, .v (.int .i64 t6)), (54, .v (.bool (decide (t6 < (y_3.length : Int)))))] ?_
     refine awp_cond (t := 54) rfl (fun hc79 => ?_) (fun hc79 => ?_)
     ·replace h := bite_t h hc79
      refine awp_skip ?_
      refine hK78 _ _ ?_
      clear hK78
      refine awp_seq fun K80 hK80 => ?_
      refine awp_block ?_
      replace ⟨hp0, h⟩ := chk_some h
      refine awp_reg ftCOk [(1, .pp 3 0), (3, .sl 7), (6, .v (.int .i64 t6)), (7, .pp 8 0)] [.row false (.ints .i64 a0_1), .row false (.bools a0_2), .row false (.trips a0_3), .box [.v (.int .i64 y), .sl 4, .sl 5, .sl 6], .row true (.ints .i64 y_1), .row true (.bools y_2), .row true (.trips y_3), .row true (.intss .i64 t3s_2), .box [.v (.int .i64 ((y_3.getD t6.toNat (0, 0, 0)).1)), .v (.int .i64 ((y_3.getD t6.toNat (0, 0, 0)).2.1)), .v (.int .i64 ((y_3.getD t6.toNat (0, 0, 0)).2.2))]] ?_
      clear hp0
      replace ⟨y_7, hr0, h⟩ := bind_some h
      replace ⟨hp1, h⟩ := chk_some h
      replace ⟨hp2, h⟩ := chk_some h
      refine awp_regEC ftCOk [(1, .pp 3 0), (3, .sl 7), (6, .v (.int .i64 t6))] [.row false (.ints .i64 a0_1), .row false (.bools a0_2), .row false (.trips a0_3), .box [.v (.int .i64 y), .sl 4, .sl 5, .sl 6], .row true (.ints .i64 y_1), .row true (.bools y_2), .row true (.trips y_3), .tak true (.intss .i64 (t3s_2 ++ [[]])) t3s_2.length 0 (some 9), .box [.v (.int .i64 ((y_3.getD t6.toNat (0, 0, 0)).1)), .v (.int .i64 ((y_3.getD t6.toNat (0, 0, 0)).2.1)), .v (.int .i64 ((y_3.getD t6.toNat (0, 0, 0)).2.2))], .row true (.ints .i64 ([3] ++ y_7)), .row true (.ints .i64 y_7), .tak true (.intss .i64 [[]]) 0 0 (some 9)] 9 [] (k_spec_EdgeBody ((y_3.getD t6.toNat (0, 0, 0)).1) ((y_3.getD t6.toNat (0, 0, 0)).2.1) ((y_3.getD t6.toNat (0, 0, 0)).2.2) (h := hr0)) ?_
      clear hr0 hp1 hp2
      refine hK80 _ _ ?_
      clear hK80
      refine awp_put 7 9 (by rfl) (by rfl) (by rfl) (by exact rfl) ?_
      replace ⟨hp0, h⟩ := chk_some h
      refine awp_regES ftCOk [(1, .pp 3 0), (3, .sl 7), (6, .v (.int .i64 (t6 + 1)))] ?_
      clear hp0
      obtain rfl := Option.some.inj h
      refine LoopQ.next ?_
      exact Red.selA [0, 1, 2, 3, 4, 5, 6, 7] Red.auto
     ·replace h := bite_f h hc79
      refine awp_exit ?_
      (try simp only [Thn, InBlk, ↓reduceIte, Nat.reduceEqDiff])
      obtain rfl := Option.some.inj h
      refine LoopQ.out rfl ?_
      exact Red.selA [0, 1, 2, 7] Red.auto
    ·clear hx
     skip
     ·try dsimp only [Sum.elim_inl, Sum.elim_inr] at h
      try dsimp only [Sum.elim_inl, Sum.elim_inr]
      refine hK68 _ _ ?_
      clear hK68
      replace ⟨hp0, h⟩ := chk_some h
      refine awp_reg ftCOk [(2, .sl 3)] [.row false (.ints .i64 a0_1), .row false (.bools a0_2), .row false (.trips a0_3), .tak true (.intss .i64 (t3s_3 ++ [[]])) t3s_3.length 0 (some 4), .row true (.ints .i64 [4]), .tak true (.intss .i64 [[]]) 0 0 (some 4)] ?_
      clear hp0
      refine awp_red (Red.put 3 4 (by rfl) (by rfl) (by rfl)) ?_
      refine awp_ret ?_
      obtain rfl := Option.some.inj h
      exact finQ [0, 1, 2, 3]
theorem k_spec_l3Copy (a0_0 : List Int) (a0_1 : List Int) {r : List Int × List Int} (h : spec_l3Copy a0_0 a0_1 = some r) :
 FnA Try.prog 34 [.agg [.sl 0, .sl 1]] [.row false (.ints .i64 a0_0), .row false (.ints .i64 a0_1)] [] (fun x H => x = .agg [.sl 2, .sl 3] ∧ H = [.row false (.ints .i64 a0_0), .row false (.ints .i64 a0_1), .row true (.ints .i64 r.1), .row true (.ints .i64 r.2)]) := by
 unfold spec_l3Copy at h
 refine FnA.ofA 12 [0, 1] [.cell 2 29] Try.func34 en34 ?_
 refine awp_reg ftCOk [(1, .pp 2 0), (2, .pp 3 0)] [.row false (.ints .i64 a0_0), .row false (.ints .i64 a0_1), .box [.sl 0, .sl 1], .box [.v (.slice none 0 0), .v (.slice none 0 0)]] ?_
 refine awp_freeze 1 (by rfl) (by rfl) (by exact rfl) ?_
 replace ⟨hp0, h⟩ := chk_some h
 replace ⟨hp1, h⟩ := chk_some h
 refine awp_to [(2, .pp 3 0)] [.row false (.ints .i64 a0_0), .row false (.ints .i64 a0_1), .rbox [.sl 0, .sl 1], .box [.sl 4, .sl 5], .row true (.ints .i64 ([] ++ a0_0)), .row true (.ints .i64 ([] ++ a0_1))] ?_ ?_
 ·clear h
  intro K hK
  refine awp_drawL [0, 1, 2, 3] [1, 5, 2, 6] 6 #[false, true, true, false, false, true, true, false, false, false] mixed ftCOk (by kernel_rfl) (by first | rfl | kernel_rfl) (by rfl) (by simp) fun L hL => ?_
  have n5 : L 0 #[true, true, true, true, true, true, true, true, true, true] [(1, .pp 2 0), (2, .pp 3 0), (4, .pp 2 0), (5, .sl 0), (6, .sl 4), (8, .pp 2 1), (9, .sl 1), (10, .sl 5), (11, .agg [.sl 4, .sl 5])] [.row false (.ints .i64 a0_0), .row false (.ints .i64 a0_1), .rbox [.sl 0, .sl 1], .box [.sl 4, .sl 5], .row true (.ints .i64 ([] ++ a0_0)), .row true (.ints .i64 ([] ++ a0_1))] := by
   exact hL.fin (by kernel_rfl) (hK _ _ Red.auto)
  have n4 : L 1 #[true, true, true, true, true, true, true, true, true, false] [(1, .pp 2 0), (2, .pp 3 0), (4, .pp 2 0), (5, .sl 0), (6, .sl 4), (8, .pp 2 1), (9, .sl 1), (10, .sl 5), (11, .agg [.sl 4, .sl 5])] [.row false (.ints .i64 a0_0), .row false (.ints .i64 a0_1), .rbox [.sl 0, .sl 1], .box [.v (.slice none 0 0), .v (.slice none 0 0)], .row true (.ints .i64 ([] ++ a0_0)), .row true (.ints .i64 ([] ++ a0_1))] := by
   refine hL.step [(9, [], 0, #[true, true, true, true, true, true, true, true, true, true])] (by kernel_rfl) ⟨?_, trivial⟩
   ·exact hL.edge n5
  have n3 : L 3 #[true, true, true, true, true, true, true, false, false, false] [(1, .pp 2 0), (2, .pp 3 0), (4, .pp 2 0), (5, .sl 0), (6, .sl 4), (7, .sl 5), (8, .pp 2 1), (9, .sl 1)] [.row false (.ints .i64 a0_0), .row false (.ints .i64 a0_1), .rbox [.sl 0, .sl 1], .box [.v (.slice none 0 0), .v (.slice none 0 0)], .row true (.ints .i64 ([] ++ a0_0)), .row true (.ints .i64 [])] := by
   refine hL.step [(7, [8], 1, #[true, true, true, true, true, true, true, true, true, false])] (by kernel_rfl) ⟨?_, trivial⟩
   ·exact hL.edge n4
  have n2 : L 4 #[true, true, true, true, false, true, true, false, false, false] [(1, .pp 2 0), (2, .pp 3 0), (4, .pp 2 0), (5, .sl 0), (6, .sl 4), (8, .pp 2 1), (9, .sl 1)] [.row false (.ints .i64 a0_0), .row false (.ints .i64 a0_1), .rbox [.sl 0, .sl 1], .box [.v (.slice none 0 0), .v (.slice none 0 0)], .row true (.ints .i64 ([] ++ a0_0))] := by
   refine hL.step [(4, [], 3, #[true, true, true, true, true, true, true, false, false, false])] (by kernel_rfl) ⟨?_, trivial⟩
   ·exact hL.edge n3
  have n6 : L 4 #[true, true, true, false, true, true, true, false, false, false] [(1, .pp 2 0), (2, .pp 3 0), (3, .sl 4), (4, .pp 2 0), (5, .sl 0), (7, .sl 5), (8, .pp 2 1), (9, .sl 1)] [.row false (.ints .i64 a0_0), .row false (.ints .i64 a0_1), .rbox [.sl 0, .sl 1], .box [.v (.slice none 0 0), .v (.slice none 0 0)], .row true (.ints .i64 []), .row true (.ints .i64 [])] := by
   refine hL.step [(3, [], 3, #[true, true, true, true, true, true, true, false, false, false])] (by kernel_rfl) ⟨?_, trivial⟩
   ·exact hL.edge n3
  have n1 : L 5 #[true, true, true, false, false, true, true, false, false, false] [(1, .pp 2 0), (2, .pp 3 0), (3, .sl 4), (4, .pp 2 0), (5, .sl 0), (8, .pp 2 1), (9, .sl 1)] [.row false (.ints .i64 a0_0), .row false (.ints .i64 a0_1), .rbox [.sl 0, .sl 1], .box [.v (.slice none 0 0), .v (.slice none 0 0)], .row true (.ints .i64 [])] := by
   refine hL.step [(3, [], 4, #[true, true, true, true, false, true, true, false, false, false]), (4, [], 4, #[true, true, true, false, true, true, true, false, false, false])] (by kernel_rfl) ⟨?_, ?_, trivial⟩
   ·exact hL.edge n2
   ·exact hL.edge n6
  have n7 : L 5 #[false, true, true, false, true, true, true, false, false, false] [(1, .pp 2 0), (2, .pp 3 0), (4, .pp 2 0), (5, .sl 0), (7, .sl 4), (8, .pp 2 1), (9, .sl 1)] [.row false (.ints .i64 a0_0), .row false (.ints .i64 a0_1), .rbox [.sl 0, .sl 1], .box [.v (.slice none 0 0), .v (.slice none 0 0)], .row true (.ints .i64 [])] := by
   refine hL.step [(0, [], 4, #[true, true, true, false, true, true, true, false, false, false])] (by kernel_rfl) ⟨?_, trivial⟩
   ·exact hL.edgeS [0, 1, 2, 3, 5, 4] n6
  have n0 : L 6 #[false, true, true, false, false, true, true, false, false, false] [(1, .pp 2 0), (2, .pp 3 0), (4, .pp 2 0), (5, .sl 0), (8, .pp 2 1), (9, .sl 1)] [.row false (.ints .i64 a0_0), .row false (.ints .i64 a0_1), .rbox [.sl 0, .sl 1], .box [.v (.slice none 0 0), .v (.slice none 0 0)]] := by
   refine hL.step [(0, [], 5, #[true, true, true, false, false, true, true, false, false, false]), (4, [], 5, #[false, true, true, false, true, true, true, false, false, false])] (by kernel_rfl) ⟨?_, ?_, trivial⟩
   ·exact hL.edge n1
   ·exact hL.edge n7
  simp (maxSteps := 4000000) only [go_sem, Nat.reduceBEq, Nat.reduceLT, Nat.reduceAdd, Nat.reduceLeDiff, Nat.reduceSub, Nat.reduceEqDiff, Int.reduceToNat, reduceCtorEq, ↓reduceIte]
  repeat' (first | refine And.intro ?_ ?_ | intro hg)
  all_goals (try simp (disch := omega) only [wrap_fits])
  all_goals first
   | (refine hL.red ?_ n0; exact Red.auto)
   | exact trivial
   | assumption
   | omega
   | exact wrap_fits (by omega) (by omega)
   | (simp (maxSteps := 4000000) only [go_sem, Nat.reduceBEq, Nat.reduceLT, Nat.reduceAdd, Nat.reduceLeDiff, Nat.reduceSub, Nat.reduceEqDiff, Int.reduceToNat, reduceCtorEq, ↓reduceIte]
      repeat' (first | refine And.intro ?_ ?_ | intro hg)
      all_goals (try simp (disch := omega) only [wrap_fits])
      all_goals first | (refine hL.red ?_ n0; exact Red.auto) | exact trivial | assumption | omega | exact wrap_fits (by omega) (by omega))
   | (simp_all; done)
   | (simp_all; omega)
 ·clear hp0 hp1
  refine awp_ret ?_
  obtain rfl := Option.some.inj h
  exact finQ [0, 1, 4, 5]
theorem k_spec_CheckSum (a0 : List Int) {r : Int} (h : spec_CheckSum a0 = some r) :
 FnA Try.prog 68 [.sl 0] [.row false (.ints .i64 a0)] [] (fun x H => x = .v (.int .i64 r) ∧ H = [.row false (.ints .i64 a0)]) := by
 unfold spec_CheckSum at h
 refine FnA.ofA 24 [0] [.tmp 2] Try.func68 en68 ?_
 refine awp_regS ftCOk [(0, .sl 0)] ?_
 refine awp_seq fun K2 hK2 => ?_
 replace ⟨y, hr0, h⟩ := bind_some h
 refine awp_regC ftCOk [(0, .sl 0), (7, .v (.bool (!y)))] [.row false (.ints .i64 a0)] 1 [0] (k_spec_BytesValid a0 (h := hr0)) ?_
 clear hr0
 refine awp_cond (t := 7) rfl (fun hc3 => ?_) (fun hc3 => ?_)
 ·replace h := bite_t h hc3
  refine awp_regS ftCOk [(2, .v (.int .i64 (-1)))] ?_
  refine awp_ret ?_
  obtain rfl := Option.some.inj h
  exact finQ [0]
 ·replace h := bite_f h hc3
  refine awp_skip ?_
  refine hK2 _ _ ?_
  clear hK2
  refine awp_regS ftCOk [(0, .sl 0), (3, .v (.int .i64 7))] ?_
  refine awp_seq fun K17 hK17 => ?_
  refine awp_regS ftCOk [(0, .sl 0), (3, .v (.int .i64 7)), (4, .v (.int .i64 0))] ?_
  refine awp_block ?_
  replace h := bind_some h
  obtain ⟨t3_1, hx, h⟩ := h
  refine awp_loopL hx (fun ((t3, t4) : Int × Int) => [(0, .sl 0), (3, .v (.int .i64 t3)), (4, .v (.int .i64 t4))]) (fun ((t3, t4) : Int × Int) => [.row false (.ints .i64 a0)]) (fun (t3_1 : Int) => Exit.exit 0) (fun (t3_1 : Int) => [(3, .v (.int .i64 t3_1))]) (fun (t3_1 : Int) => [.row false (.ints .i64 a0)]) ?_ ?_ ?_ ?_
  ·rintro t3_1 hy <;> cases hy
  ·clear h hx
   exact Red.auto
  ·clear h hx
   rintro ⟨t3, t4⟩ r h
   unfold spec_CheckSum_b0 at h
   try dsimp only at h
   try dsimp only
   refine awp_seq fun K27 hK27 => ?_
   refine awp_regS ftCOk [(0, .sl 0), (3, .v (.int .i64 t3)), (4, .v (.int .i64 t4)), (11, .v (.bool (decide (t4 < (a0.length : Int)))))] ?_
   refine awp_cond (t := 11) rfl (fun hc28 => ?_) (fun hc28 => ?_)
   ·replace h := bite_t h hc28
    refine awp_skip ?_
    refine hK27 _ _ ?_
    clear hK27
    refine awp_seq fun K29 hK29 => ?_
    refine awp_block ?_
    replace ⟨hp0, h⟩ := chk_some h
    replace ⟨hp1, h⟩ := chk_some h
    replace ⟨hp2, h⟩ := chk_some h
    replace ⟨hp3, h⟩ := chk_some h
    replace ⟨hp4, h⟩ := chk_some h
    refine awp_regES ftCOk [(0, .sl 0), (3, .v (.int .i64 ((((31 * t3) + (a0.getD t4.toNat 0)) + 1) % 251))), (4, .v (.int .i64 t4))] ?_
    clear hp0 hp1 hp2 hp3 hp4
    refine hK29 _ _ ?_
    clear hK29
    replace ⟨hp0, h⟩ := chk_some h
    refine awp_regES ftCOk [(0, .sl 0), (3, .v (.int .i64 ((((31 * t3) + (a0.getD t4.toNat 0)) + 1) % 251))), (4, .v (.int .i64 (t4 + 1)))] ?_
    clear hp0
    obtain rfl := Option.some.inj h
    refine LoopQ.next ?_
    exact Red.auto
   ·replace h := bite_f h hc28
    refine awp_exit ?_
    (try simp only [Thn, InBlk, ↓reduceIte, Nat.reduceEqDiff])
    obtain rfl := Option.some.inj h
    refine LoopQ.out rfl ?_
    exact Red.auto
  ·clear hx
   skip
   ·try dsimp only [Sum.elim_inl, Sum.elim_inr] at h
    try dsimp only [Sum.elim_inl, Sum.elim_inr]
    refine hK17 _ _ ?_
    clear hK17
    refine awp_regS ftCOk [(2, .v (.int .i64 t3_1))] ?_
    refine awp_ret ?_
    obtain rfl := Option.some.inj h
    exact finQ [0]
theorem k_spec_FrameOf (a0 : List Int) {r : List Int} (h : spec_FrameOf a0 = some r) :
 FnA Try.prog 58 [.sl 0] [.row false (.ints .i64 a0)] [] (fun x H => x = .sl 1 ∧ H = [.row false (.ints .i64 a0), .row true (.ints .i64 r)]) := by
 unfold spec_FrameOf at h
 refine FnA.ofA 24 [0] [.tmp 2] Try.func58 en58 ?_
 refine awp_regS ftCOk [(0, .sl 0)] ?_
 refine awp_seq fun K2 hK2 => ?_
 replace ⟨y, hr0, h⟩ := bind_some h
 refine awp_to [(0, .sl 0), (12, .v (.bool ((!y) || (!(decide (1 ≤ (a0.length : Int)) && decide ((a0.length : Int) ≤ 100))))))] [.row false (.ints .i64 a0)] ?_ ?_
 ·clear h
  intro K hK
  refine awp_region ftCOk ?_
  simp (maxSteps := 4000000) only [go_sem, Nat.reduceBEq, Nat.reduceLT, Nat.reduceAdd, Nat.reduceLeDiff, Nat.reduceSub, Nat.reduceEqDiff, Int.reduceToNat, reduceCtorEq, ↓reduceIte]
  repeat' (first | refine And.intro ?_ ?_ | intro hg)
  all_goals (try simp (disch := omega) only [wrap_fits])
  all_goals first
   | (refine hK _ _ ?_; exact Red.auto)
   | exact trivial
   | assumption
   | omega
   | exact wrap_fits (by omega) (by omega)
   | (refine wpA_callA (k_spec_BytesValid a0 (h := hr0)) [0] [] ?_
      rintro x Hc' ⟨rfl, rfl⟩ hlen
      refine vcOps_sound ftCOk ?_
      simp (maxSteps := 4000000) only [go_sem, Nat.reduceBEq, Nat.reduceLT, Nat.reduceAdd, Nat.reduceLeDiff, Nat.reduceSub, Nat.reduceEqDiff, Int.reduceToNat, reduceCtorEq, ↓reduceIte]
      repeat' (first | refine And.intro ?_ ?_ | intro hg)
      all_goals (try simp (disch := omega) only [wrap_fits])
      all_goals first | (refine hK _ _ ?_; exact Red.auto) | exact trivial | assumption | omega | exact wrap_fits (by omega) (by omega) | (simp_all; done) | (simp_all; omega))
   | (simp_all; done)
   | (simp_all; omega)
 ·clear hr0
  refine awp_cond (t := 12) rfl (fun hc3 => ?_) (fun hc3 => ?_)
  ·replace h := bite_t h hc3
   refine awp_reg ftCOk [(2, .sl 1)] [.row false (.ints .i64 a0), .row true (.ints .i64 [])] ?_
   refine awp_ret ?_
   obtain rfl := Option.some.inj h
   exact finQ [0, 1]
  ·replace h := bite_f h hc3
   refine awp_skip ?_
   refine hK2 _ _ ?_
   clear hK2
   replace ⟨hp0, h⟩ := chk_some h
   refine awp_reg ftCOk [(0, .sl 0), (3, .sl 1)] [.row false (.ints .i64 a0), .row true (.ints .i64 ([(a0.length : Int)] ++ a0))] ?_
   clear hp0
   replace ⟨y_1, hr0, h⟩ := bind_some h
   replace ⟨hp1, h⟩ := chk_some h
   refine awp_regC ftCOk [(2, .sl 1)] [.row false (.ints .i64 a0), .row true (.ints .i64 (([(a0.length : Int)] ++ a0) ++ [y_1])), .row true (.ints .i64 [y_1])] 2 [0] (k_spec_CheckSum a0 (h := hr0)) ?_
   clear hr0 hp1
   refine awp_ret ?_
   obtain rfl := Option.some.inj h
   exact finQ [0, 1]
theorem k_spec_DiskWrite (a0_0 : List Int) (a0_1 : List Int) (a1 : List Int) {r : List Int × List Int × Bool} (h : spec_DiskWrite a0_0 a0_1 a1 = some r) :
 FnA Try.prog 45 [.agg [.sl 0, .sl 1], .sl 2] [.row false (.ints .i64 a0_0), .row false (.ints .i64 a0_1), .row false (.ints .i64 a1)] [] (fun x H => x = .tup [.agg [.sl 3, .sl 4], .v (.bool r.2.2)] ∧ H = [.row false (.ints .i64 a0_0), .row false (.ints .i64 a0_1), .row false (.ints .i64 a1), .row true (.ints .i64 r.1), .row true (.ints .i64 r.2.1)]) := by
 unfold spec_DiskWrite at h
 refine FnA.ofA 39 [0, 1, 2] [.cell 4 29, .tmp 5] Try.func45 en45 ?_
 refine awp_reg ftCOk [(1, .sl 2), (2, .pp 3 0), (4, .pp 4 0)] [.row false (.ints .i64 a0_0), .row false (.ints .i64 a0_1), .row false (.ints .i64 a1), .box [.sl 0, .sl 1], .box [.v (.slice none 0 0), .v (.slice none 0 0)]] ?_
 refine awp_freeze 2 (by rfl) (by rfl) (by exact rfl) ?_
 refine awp_seq fun K2 hK2 => ?_
 replace ⟨y, hr0, h⟩ := bind_some h
 refine awp_regC ftCOk [(1, .sl 2), (2, .pp 3 0), (4, .pp 4 0), (10, .v (.bool (!y)))] [.row false (.ints .i64 a0_0), .row false (.ints .i64 a0_1), .row false (.ints .i64 a1), .rbox [.sl 0, .sl 1], .box [.v (.slice none 0 0), .v (.slice none 0 0)]] 1 [0, 1] (k_spec_DiskValid a0_0 a0_1 (h := hr0)) ?_
 clear hr0
 refine awp_cond (t := 10) rfl (fun hc3 => ?_) (fun hc3 => ?_)
 ·replace h := bite_t h hc3
  refine awp_regS ftCOk [(4, .pp 4 0), (5, .v (.bool false))] ?_
  refine awp_red (Red.nilCell (o := 4) (i := 0) (.ints .i64 []) rfl rfl rfl) ?_
  refine awp_red (Red.nilCell (o := 4) (i := 1) (.ints .i64 []) rfl rfl rfl) ?_
  refine awp_ret ?_
  obtain rfl := Option.some.inj h
  exact finQ [0, 1, 2, 5, 6]
 ·replace h := bite_f h hc3
  refine awp_skip ?_
  refine hK2 _ _ ?_
  clear hK2
  replace ⟨⟨y_1, y_2⟩, hr0, h⟩ := bind_some h
  try dsimp only at h
  refine awp_regC ftCOk [(1, .sl 2), (2, .pp 3 0), (4, .pp 4 0), (6, .pp 7 0)] [.row false (.ints .i64 a0_0), .row false (.ints .i64 a0_1), .row false (.ints .i64 a1), .rbox [.sl 0, .sl 1], .box [.v (.slice none 0 0), .v (.slice none 0 0)], .row true (.ints .i64 y_1), .row true (.ints .i64 y_2), .box [.sl 5, .sl 6]] 1 [0, 1] (k_spec_l3Copy a0_0 a0_1 (h := hr0)) ?_
  clear hr0
  replace ⟨y_3, hr0, h⟩ := bind_some h
  refine awp_regC ftCOk [(2, .pp 3 0), (4, .pp 4 0), (6, .pp 7 0), (7, .sl 8)] [.row false (.ints .i64 a0_0), .row false (.ints .i64 a0_1), .row false (.ints .i64 a1), .rbox [.sl 0, .sl 1], .box [.v (.slice none 0 0), .v (.slice none 0 0)], .row true (.ints .i64 y_1), .row true (.ints .i64 y_2), .box [.sl 5, .sl 6], .row true (.ints .i64 y_3)] 1 [2] (k_spec_FrameOf a1 (h := hr0)) ?_
  clear hr0
  refine awp_seq fun K5 hK5 => ?_
  replace ⟨hp0, h⟩ := chk_some h
  replace ⟨hp1, h⟩ := chk_some h
  refine awp_to [(4, .pp 4 0), (6, .pp 7 0), (7, .sl 8), (31, .v (.bool (((y_3.length : Int) == 0) || (decide (2000 < (((a0_0.length : Int) + (a0_1.length : Int)) + (y_3.length : Int)))))))] [.row false (.ints .i64 a0_0), .row false (.ints .i64 a0_1), .row false (.ints .i64 a1), .rbox [.sl 0, .sl 1], .box [.v (.slice none 0 0), .v (.slice none 0 0)], .row true (.ints .i64 y_1), .row true (.ints .i64 y_2), .box [.sl 5, .sl 6], .row true (.ints .i64 y_3)] ?_ ?_
  ·clear h
   intro K hK
   refine awp_region ftCOk ?_
   simp (maxSteps := 4000000) only [go_sem, Nat.reduceBEq, Nat.reduceLT, Nat.reduceAdd, Nat.reduceLeDiff, Nat.reduceSub, Nat.reduceEqDiff, Int.reduceToNat, reduceCtorEq, ↓reduceIte]
   repeat' (first | refine And.intro ?_ ?_ | intro hg)
   all_goals (try simp (disch := omega) only [wrap_fits])
   all_goals first | (refine hK _ _ ?_; exact Red.auto) | exact trivial | assumption | omega | exact wrap_fits (by omega) (by omega) | (have hq := hp0 (by first | assumption | (simp only [*, Bool.false_or, Bool.true_or, Bool.or_false, Bool.or_true, Bool.false_and, Bool.true_and, Bool.and_false, Bool.and_true, Bool.not_true, Bool.not_false, beq_self_eq_true]; done) | (simp_all; done)); omega) | (have hq := hp1 (by first | assumption | (simp only [*, Bool.false_or, Bool.true_or, Bool.or_false, Bool.or_true, Bool.false_and, Bool.true_and, Bool.and_false, Bool.and_true, Bool.not_true, Bool.not_false, beq_self_eq_true]; done) | (simp_all; done)); omega) | (simp_all; done) | (simp_all; omega)
  ·clear hp0 hp1
   refine awp_cond (t := 31) rfl (fun hc6 => ?_) (fun hc6 => ?_)
   ·replace h := bite_t h hc6
    refine awp_reg ftCOk [(4, .pp 4 0), (5, .v (.bool false))] [.row false (.ints .i64 a0_0), .row false (.ints .i64 a0_1), .row false (.ints .i64 a1), .rbox [.sl 0, .sl 1], .box [.sl 5, .sl 6], .row true (.ints .i64 y_1), .row true (.ints .i64 y_2), .box [.sl 5, .sl 6], .row true (.ints .i64 y_3)] ?_
    refine awp_ret ?_
    obtain rfl := Option.some.inj h
    exact finQ [0, 1, 2, 5, 6]
   ·replace h := bite_f h hc6
    refine awp_skip ?_
    refine hK5 _ _ ?_
    clear hK5
    replace ⟨hp0, h⟩ := chk_some h
    refine awp_reg ftCOk [(4, .pp 4 0), (6, .pp 7 0)] [.row false (.ints .i64 a0_0), .row false (.ints .i64 a0_1), .row false (.ints .i64 a1), .rbox [.sl 0, .sl 1], .box [.v (.slice none 0 0), .v (.slice none 0 0)], .row true (.ints .i64 y_1), .row true (.ints .i64 (y_2 ++ y_3)), .box [.sl 5, .sl 6], .row true (.ints .i64 y_3)] ?_
    clear hp0
    refine awp_reg ftCOk [(4, .pp 4 0), (5, .v (.bool true))] [.row false (.ints .i64 a0_0), .row false (.ints .i64 a0_1), .row false (.ints .i64 a1), .rbox [.sl 0, .sl 1], .box [.sl 5, .sl 6], .row true (.ints .i64 y_1), .row true (.ints .i64 (y_2 ++ y_3)), .box [.sl 5, .sl 6], .row true (.ints .i64 y_3)] ?_
    refine awp_ret ?_
    obtain rfl := Option.some.inj h
    exact finQ [0, 1, 2, 5, 6]
theorem k_spec_l18Write (a0_0 : List Int) (a0_1 : List Int) (a1_0 : Int) (a1_1 : List Int) (a1_2 : List Bool) (a1_3 : List (Int × Int × Int)) {r : List Int × List Int × Bool} (h : spec_l18Write a0_0 a0_1 a1_0 a1_1 a1_2 a1_3 = some r) :
 FnA Try.prog 33 [.agg [.sl 0, .sl 1], .agg [.v (.int .i64 a1_0), .sl 2, .sl 3, .sl 4]] [.row false (.ints .i64 a0_0), .row false (.ints .i64 a0_1), .row false (.ints .i64 a1_1), .row false (.bools a1_2), .row false (.trips a1_3)] [] (fun x H => x = .tup [.agg [.sl 5, .sl 6], .v (.bool r.2.2)] ∧ H = [.row false (.ints .i64 a0_0), .row false (.ints .i64 a0_1), .row false (.ints .i64 a1_1), .row false (.bools a1_2), .row false (.trips a1_3), .row true (.ints .i64 r.1), .row true (.ints .i64 r.2.1)]) := by
 unfold spec_l18Write at h
 refine FnA.ofA 38 [0, 1, 2, 3, 4] [.cell 4 29, .tmp 5] Try.func33 en33 ?_
 refine awp_reg ftCOk [(2, .pp 5 0), (3, .pp 6 0), (4, .pp 7 0)] [.row false (.ints .i64 a0_0), .row false (.ints .i64 a0_1), .row false (.ints .i64 a1_1), .row false (.bools a1_2), .row false (.trips a1_3), .box [.sl 0, .sl 1], .box [.v (.int .i64 a1_0), .sl 2, .sl 3, .sl 4], .box [.v (.slice none 0 0), .v (.slice none 0 0)]] ?_
 refine awp_freeze 2 (by rfl) (by rfl) (by exact rfl) ?_
 refine awp_freeze 3 (by rfl) (by rfl) (by exact rfl) ?_
 replace ⟨y, hr0, h⟩ := bind_some h
 refine awp_regC ftCOk [(2, .pp 5 0), (4, .pp 7 0), (6, .sl 8)] [.row false (.ints .i64 a0_0), .row false (.ints .i64 a0_1), .row false (.ints .i64 a1_1), .row false (.bools a1_2), .row false (.trips a1_3), .rbox [.sl 0, .sl 1], .rbox [.v (.int .i64 a1_0), .sl 2, .sl 3, .sl 4], .box [.v (.slice none 0 0), .v (.slice none 0 0)], .row true (.intss .i64 y)] 1 [2, 3, 4] (k_spec_StateBodies a1_0 a1_1 a1_2 a1_3 (h := hr0)) ?_
 clear hr0
 replace ⟨⟨y_1, y_2⟩, hr0, h⟩ := bind_some h
 try dsimp only at h
 refine awp_regC ftCOk [(4, .pp 7 0), (6, .sl 8), (7, .pp 11 0)] [.row false (.ints .i64 a0_0), .row false (.ints .i64 a0_1), .row false (.ints .i64 a1_1), .row false (.bools a1_2), .row false (.trips a1_3), .rbox [.sl 0, .sl 1], .rbox [.v (.int .i64 a1_0), .sl 2, .sl 3, .sl 4], .box [.v (.slice none 0 0), .v (.slice none 0 0)], .row true (.intss .i64 y), .row true (.ints .i64 y_1), .row true (.ints .i64 y_2), .box [.sl 9, .sl 10]] 1 [0, 1] (k_spec_l3Copy a0_0 a0_1 (h := hr0)) ?_
 clear hr0
 refine awp_seq fun K38 hK38 => ?_
 refine awp_regS ftCOk [(4, .pp 7 0), (6, .sl 8), (7, .pp 11 0), (8, .v (.int .i64 0))] ?_
 refine awp_block ?_
 replace h := bind_some h
 obtain ⟨x75, hx, h⟩ := h
 refine awp_loopL hx (fun ((t8, t7_0s, t7_1s) : Int × List Int × List Int) => [(4, .pp 5 0), (6, .sl 6), (7, .pp 7 0), (8, .v (.int .i64 t8))]) (fun ((t8, t7_0s, t7_1s) : Int × List Int × List Int) => [.row false (.ints .i64 a0_0), .row false (.ints .i64 a0_1), .row false (.ints .i64 a1_1), .row false (.bools a1_2), .row false (.trips a1_3), .box [.v (.slice none 0 0), .v (.slice none 0 0)], .row true (.intss .i64 y), .box [.sl 8, .sl 9], .row true (.ints .i64 t7_0s), .row true (.ints .i64 t7_1s)]) (Sum.elim (fun ((t7_0s_1, t7_1s_1) : List Int × List Int) => Exit.exit 0) (fun ((t4_0s, t4_1s) : List Int × List Int) => Exit.ret)) (Sum.elim (fun ((t7_0s_1, t7_1s_1) : List Int × List Int) => [(4, .pp 5 0), (6, .sl 6), (7, .pp 7 0)]) (fun ((t4_0s, t4_1s) : List Int × List Int) => [(4, .pp 5 0), (5, .v (.bool false))])) (Sum.elim (fun ((t7_0s_1, t7_1s_1) : List Int × List Int) => [.row false (.ints .i64 a0_0), .row false (.ints .i64 a0_1), .row false (.ints .i64 a1_1), .row false (.bools a1_2), .row false (.trips a1_3), .box [.v (.slice none 0 0), .v (.slice none 0 0)], .row true (.intss .i64 y), .box [.sl 8, .sl 9], .row true (.ints .i64 t7_0s_1), .row true (.ints .i64 t7_1s_1)]) (fun ((t4_0s, t4_1s) : List Int × List Int) => [.row false (.ints .i64 a0_0), .row false (.ints .i64 a0_1), .row false (.ints .i64 a1_1), .row false (.bools a1_2), .row false (.trips a1_3), .box [.sl 6, .sl 7], .row true (.ints .i64 t4_0s), .row true (.ints .i64 t4_1s)])) ?_ ?_ ?_ ?_
 ·rintro (⟨t7_0s_1, t7_1s_1⟩ | ⟨t4_0s, t4_1s⟩) hy <;> cases hy
 ·clear h hx
  exact Red.selA [0, 1, 2, 3, 4, 7, 8, 11, 9, 10] Red.auto
 ·clear h hx
  rintro ⟨t8, t7_0s, t7_1s⟩ r h
  unfold spec_l18Write_b0 at h
  try dsimp only at h
  try dsimp only
  refine awp_seq fun K64 hK64 => ?_
  refine awp_regS ftCOk [(4, .pp 5 0), (6, .sl 6), (7, .pp 7 0), (8, .v (.int .i64 t8)), (18, .v (.bool (decide (t8 < (y.length : Int)))))] ?_
  refine awp_cond (t := 18) rfl (fun hc65 => ?_) (fun hc65 => ?_)
  ·replace h := bite_t h hc65
   refine awp_skip ?_
   refine hK64 _ _ ?_
   clear hK64
   refine awp_seq fun K70 hK70 => ?_
   refine awp_block ?_
   replace h := chk_some h
   obtain ⟨hpt74, h⟩ := h
   refine awp_take 6 t8.toNat 0 (by rfl) (by exact hpt74) (by rfl) (by exact rfl) ?_
   clear hpt74
   replace ⟨hp0, h⟩ := chk_some h
   replace ⟨⟨y_3, y_4, y_5⟩, hr1, h⟩ := bind_some h
   try dsimp only at h
   refine awp_to [(4, .pp 5 0), (6, .sl 6), (7, .pp 7 0), (8, .v (.int .i64 t8)), (9, .pp 13 0), (10, .v (.bool y_5))] [.row false (.ints .i64 a0_0), .row false (.ints .i64 a0_1), .row false (.ints .i64 a1_1), .row false (.bools a1_2), .row false (.trips a1_3), .box [.v (.slice none 0 0), .v (.slice none 0 0)], .tak true (.intss .i64 y) t8.toNat 0 (some 10), .box [.sl 8, .sl 9], .row true (.ints .i64 t7_0s), .row true (.ints .i64 t7_1s), .row true (.ints .i64 (y.getD t8.toNat [])), .row true (.ints .i64 y_3), .row true (.ints .i64 y_4), .box [.sl 11, .sl 12]] ?_ ?_
   ·clear h
    intro K hK
    refine awp_drawL [0, 1, 2, 3, 4, 5, 6, 7, 8, 9, 10] [1, 2] 10 #[false, true, true, false, false, false, false, false, false, false, false, false] mixed ftCOk (by kernel_rfl) (by first | rfl | kernel_rfl) (by rfl) (by simp) fun L hL => ?_
    have n7 : L 0 #[true, true, true, true, true, true, true, true, true, true, true, true] [(4, .pp 5 0), (6, .sl 6), (7, .pp 7 0), (8, .v (.int .i64 t8)), (9, .pp 13 0), (10, .v (.bool y_5)), (18, .v (.bool (decide (t8 < (y.length : Int))))), (21, .tup [.agg [.sl 11, .sl 12], .v (.bool y_5)]), (22, .agg [.sl 8, .sl 9]), (23, .sl 6), (24, .v (.int .i64 t8)), (25, .ep 6 t8.toNat 1 0), (26, .sl 10), (27, .tup [.agg [.sl 11, .sl 12], .v (.bool y_5)]), (28, .agg [.sl 11, .sl 12]), (29, .v (.bool y_5))] [.row false (.ints .i64 a0_0), .row false (.ints .i64 a0_1), .row false (.ints .i64 a1_1), .row false (.bools a1_2), .row false (.trips a1_3), .box [.v (.slice none 0 0), .v (.slice none 0 0)], .tak true (.intss .i64 y) t8.toNat 0 (some 10), .box [.sl 8, .sl 9], .row true (.ints .i64 t7_0s), .row true (.ints .i64 t7_1s), .row true (.ints .i64 (y.getD t8.toNat [])), .row true (.ints .i64 y_3), .row true (.ints .i64 y_4), .box [.sl 11, .sl 12]] := by
     exact hL.fin (by kernel_rfl) (hK _ _ Red.auto)
    have n6 : L 2 #[true, true, true, true, true, true, true, true, true, true, false, false] [(4, .pp 5 0), (6, .sl 6), (7, .pp 7 0), (8, .v (.int .i64 t8)), (9, .pp 13 0), (18, .v (.bool (decide (t8 < (y.length : Int))))), (21, .tup [.agg [.sl 11, .sl 12], .v (.bool y_5)]), (22, .agg [.sl 8, .sl 9]), (23, .sl 6), (24, .v (.int .i64 t8)), (25, .ep 6 t8.toNat 1 0), (26, .sl 10), (27, .tup [.agg [.sl 11, .sl 12], .v (.bool y_5)]), (28, .agg [.sl 11, .sl 12]), (29, .v (.bool y_5))] [.row false (.ints .i64 a0_0), .row false (.ints .i64 a0_1), .row false (.ints .i64 a1_1), .row false (.bools a1_2), .row false (.trips a1_3), .box [.v (.slice none 0 0), .v (.slice none 0 0)], .tak true (.intss .i64 y) t8.toNat 0 (some 10), .box [.sl 8, .sl 9], .row true (.ints .i64 t7_0s), .row true (.ints .i64 t7_1s), .row true (.ints .i64 (y.getD t8.toNat [])), .row true (.ints .i64 y_3), .row true (.ints .i64 y_4), .box [.v (.slice none 0 0), .v (.slice none 0 0)]] := by
     refine hL.step [(10, [11], 0, #[true, true, true, true, true, true, true, true, true, true, true, true])] (by kernel_rfl) ⟨?_, trivial⟩
     ·exact hL.edge n7
    have n5 : L 3 #[true, true, true, true, true, true, true, true, true, false, false, false] [(4, .pp 5 0), (6, .sl 6), (7, .pp 7 0), (8, .v (.int .i64 t8)), (18, .v (.bool (decide (t8 < (y.length : Int))))), (21, .tup [.agg [.sl 11, .sl 12], .v (.bool y_5)]), (22, .agg [.sl 8, .sl 9]), (23, .sl 6), (24, .v (.int .i64 t8)), (25, .ep 6 t8.toNat 1 0), (26, .sl 10), (27, .tup [.agg [.sl 11, .sl 12], .v (.bool y_5)]), (28, .agg [.sl 11, .sl 12]), (29, .v (.bool y_5))] [.row false (.ints .i64 a0_0), .row false (.ints .i64 a0_1), .row false (.ints .i64 a1_1), .row false (.bools a1_2), .row false (.trips a1_3), .box [.v (.slice none 0 0), .v (.slice none 0 0)], .tak true (.intss .i64 y) t8.toNat 0 (some 10), .box [.sl 8, .sl 9], .row true (.ints .i64 t7_0s), .row true (.ints .i64 t7_1s), .row true (.ints .i64 (y.getD t8.toNat [])), .row true (.ints .i64 y_3), .row true (.ints .i64 y_4)] := by
     refine hL.step [(9, [], 2, #[true, true, true, true, true, true, true, true, true, true, false, false])] (by kernel_rfl) ⟨?_, trivial⟩
     ·exact hL.edge n6
    have n8 : L 5 #[true, true, true, true, true, true, false, false, false, true, false, false] [(4, .pp 5 0), (6, .sl 6), (7, .pp 7 0), (8, .v (.int .i64 t8)), (9, .pp 13 0), (18, .v (.bool (decide (t8 < (y.length : Int))))), (22, .agg [.sl 8, .sl 9]), (23, .sl 6), (24, .v (.int .i64 t8)), (25, .ep 6 t8.toNat 1 0), (26, .sl 10), (27, .tup [.agg [.sl 11, .sl 12], .v (.bool y_5)])] [.row false (.ints .i64 a0_0), .row false (.ints .i64 a0_1), .row false (.ints .i64 a1_1), .row false (.bools a1_2), .row false (.trips a1_3), .box [.v (.slice none 0 0), .v (.slice none 0 0)], .tak true (.intss .i64 y) t8.toNat 0 (some 10), .box [.sl 8, .sl 9], .row true (.ints .i64 t7_0s), .row true (.ints .i64 t7_1s), .row true (.ints .i64 (y.getD t8.toNat [])), .row true (.ints .i64 y_3), .row true (.ints .i64 y_4), .box [.v (.slice none 0 0), .v (.slice none 0 0)]] := by
     refine hL.step [(6, [7, 8], 2, #[true, true, true, true, true, true, true, true, true, true, false, false])] (by kernel_rfl) ⟨?_, trivial⟩
     ·exact hL.edge n6
    have n4 : L 6 #[true, true, true, true, true, true, false, false, false, false, false, false] [(4, .pp 5 0), (6, .sl 6), (7, .pp 7 0), (8, .v (.int .i64 t8)), (18, .v (.bool (decide (t8 < (y.length : Int))))), (22, .agg [.sl 8, .sl 9]), (23, .sl 6), (24, .v (.int .i64 t8)), (25, .ep 6 t8.toNat 1 0), (26, .sl 10), (27, .tup [.agg [.sl 11, .sl 12], .v (.bool y_5)])] [.row false (.ints .i64 a0_0), .row false (.ints .i64 a0_1), .row false (.ints .i64 a1_1), .row false (.bools a1_2), .row false (.trips a1_3), .box [.v (.slice none 0 0), .v (.slice none 0 0)], .tak true (.intss .i64 y) t8.toNat 0 (some 10), .box [.sl 8, .sl 9], .row true (.ints .i64 t7_0s), .row true (.ints .i64 t7_1s), .row true (.ints .i64 (y.getD t8.toNat [])), .row true (.ints .i64 y_3), .row true (.ints .i64 y_4)] := by
     refine hL.step [(6, [7, 8], 3, #[true, true, true, true, true, true, true, true, true, false, false, false]), (9, [], 5, #[true, true, true, true, true, true, false, false, false, true, false, false])] (by kernel_rfl) ⟨?_, ?_, trivial⟩
     ·exact hL.edge n5
     ·exact hL.edge n8
    have n9 : L 6 #[true, true, true, true, true, false, false, false, false, true, false, false] [(4, .pp 5 0), (6, .sl 6), (7, .pp 7 0), (8, .v (.int .i64 t8)), (9, .pp 11 0), (18, .v (.bool (decide (t8 < (y.length : Int))))), (22, .agg [.sl 8, .sl 9]), (23, .sl 6), (24, .v (.int .i64 t8)), (25, .ep 6 t8.toNat 1 0), (26, .sl 10)] [.row false (.ints .i64 a0_0), .row false (.ints .i64 a0_1), .row false (.ints .i64 a1_1), .row false (.bools a1_2), .row false (.trips a1_3), .box [.v (.slice none 0 0), .v (.slice none 0 0)], .tak true (.intss .i64 y) t8.toNat 0 (some 10), .box [.sl 8, .sl 9], .row true (.ints .i64 t7_0s), .row true (.ints .i64 t7_1s), .row true (.ints .i64 (y.getD t8.toNat [])), .box [.v (.slice none 0 0), .v (.slice none 0 0)]] := by
     refine hL.step [(5, [], 5, #[true, true, true, true, true, true, false, false, false, true, false, false])] (by kernel_rfl) ⟨?_, trivial⟩
     ·simp (maxSteps := 4000000) only [go_sem, Nat.reduceBEq, Nat.reduceLT, Nat.reduceAdd, Nat.reduceLeDiff, Nat.reduceSub, Nat.reduceEqDiff, Int.reduceToNat, reduceCtorEq, ↓reduceIte]
      repeat' (first | refine And.intro ?_ ?_ | intro hg)
      all_goals (try simp (disch := omega) only [wrap_fits])
      all_goals first
       | (refine hL.red ?_ n8; exact Red.selA [0, 1, 2, 3, 4, 5, 6, 7, 8, 9, 10, 12, 13, 11] Red.auto)
       | exact trivial
       | assumption
       | omega
       | exact wrap_fits (by omega) (by omega)
       | (refine OpK_callA (k_spec_DiskWrite t7_0s t7_1s (y.getD t8.toNat []) (h := hr1)) [8, 9, 10] [] ?_
          rintro x Hc' ⟨rfl, rfl⟩ hlen
          simp (maxSteps := 4000000) only [go_sem, Nat.reduceBEq, Nat.reduceLT, Nat.reduceAdd, Nat.reduceLeDiff, Nat.reduceSub, Nat.reduceEqDiff, Int.reduceToNat, reduceCtorEq, ↓reduceIte]
          repeat' (first | refine And.intro ?_ ?_ | intro hg)
          all_goals (try simp (disch := omega) only [wrap_fits])
          all_goals first | (refine hL.red ?_ n8; exact Red.selA [0, 1, 2, 3, 4, 5, 6, 7, 8, 9, 10, 12, 13, 11] Red.auto) | exact trivial | assumption | omega | exact wrap_fits (by omega) (by omega) | (simp_all; done) | (simp_all; omega))
       | (simp (maxSteps := 4000000) only [go_sem, Nat.reduceBEq, Nat.reduceLT, Nat.reduceAdd, Nat.reduceLeDiff, Nat.reduceSub, Nat.reduceEqDiff, Int.reduceToNat, reduceCtorEq, ↓reduceIte]
          repeat' (first | refine And.intro ?_ ?_ | intro hg)
          all_goals (try simp (disch := omega) only [wrap_fits])
          all_goals first | (refine hL.red ?_ n8; exact Red.selA [0, 1, 2, 3, 4, 5, 6, 7, 8, 9, 10, 12, 13, 11] Red.auto) | exact trivial | assumption | omega | exact wrap_fits (by omega) (by omega))
       | (simp_all; done)
       | (simp_all; omega)
    have n3 : L 7 #[true, true, true, true, true, false, false, false, false, false, false, false] [(4, .pp 5 0), (6, .sl 6), (7, .pp 7 0), (8, .v (.int .i64 t8)), (18, .v (.bool (decide (t8 < (y.length : Int))))), (22, .agg [.sl 8, .sl 9]), (23, .sl 6), (24, .v (.int .i64 t8)), (25, .ep 6 t8.toNat 1 0), (26, .sl 10)] [.row false (.ints .i64 a0_0), .row false (.ints .i64 a0_1), .row false (.ints .i64 a1_1), .row false (.bools a1_2), .row false (.trips a1_3), .box [.v (.slice none 0 0), .v (.slice none 0 0)], .tak true (.intss .i64 y) t8.toNat 0 (some 10), .box [.sl 8, .sl 9], .row true (.ints .i64 t7_0s), .row true (.ints .i64 t7_1s), .row true (.ints .i64 (y.getD t8.toNat []))] := by
     refine hL.step [(5, [], 6, #[true, true, true, true, true, true, false, false, false, false, false, false]), (9, [], 6, #[true, true, true, true, true, false, false, false, false, true, false, false])] (by kernel_rfl) ⟨?_, ?_, trivial⟩
     ·simp (maxSteps := 4000000) only [go_sem, Nat.reduceBEq, Nat.reduceLT, Nat.reduceAdd, Nat.reduceLeDiff, Nat.reduceSub, Nat.reduceEqDiff, Int.reduceToNat, reduceCtorEq, ↓reduceIte]
      repeat' (first | refine And.intro ?_ ?_ | intro hg)
      all_goals (try simp (disch := omega) only [wrap_fits])
      all_goals first
       | (refine hL.red ?_ n4; exact Red.auto)
       | exact trivial
       | assumption
       | omega
       | exact wrap_fits (by omega) (by omega)
       | (refine OpK_callA (k_spec_DiskWrite t7_0s t7_1s (y.getD t8.toNat []) (h := hr1)) [8, 9, 10] [] ?_
          rintro x Hc' ⟨rfl, rfl⟩ hlen
          simp (maxSteps := 4000000) only [go_sem, Nat.reduceBEq, Nat.reduceLT, Nat.reduceAdd, Nat.reduceLeDiff, Nat.reduceSub, Nat.reduceEqDiff, Int.reduceToNat, reduceCtorEq, ↓reduceIte]
          repeat' (first | refine And.intro ?_ ?_ | intro hg)
          all_goals (try simp (disch := omega) only [wrap_fits])
          all_goals first | (refine hL.red ?_ n4; exact Red.auto) | exact trivial | assumption | omega | exact wrap_fits (by omega) (by omega) | (simp_all; done) | (simp_all; omega))
       | (simp (maxSteps := 4000000) only [go_sem, Nat.reduceBEq, Nat.reduceLT, Nat.reduceAdd, Nat.reduceLeDiff, Nat.reduceSub, Nat.reduceEqDiff, Int.reduceToNat, reduceCtorEq, ↓reduceIte]
          repeat' (first | refine And.intro ?_ ?_ | intro hg)
          all_goals (try simp (disch := omega) only [wrap_fits])
          all_goals first | (refine hL.red ?_ n4; exact Red.auto) | exact trivial | assumption | omega | exact wrap_fits (by omega) (by omega))
       | (simp_all; done)
       | (simp_all; omega)
     ·exact hL.edge n9
    have n10 : L 7 #[true, true, true, true, false, false, false, false, false, true, false, false] [(4, .pp 5 0), (6, .sl 6), (7, .pp 7 0), (8, .v (.int .i64 t8)), (9, .pp 11 0), (18, .v (.bool (decide (t8 < (y.length : Int))))), (22, .agg [.sl 8, .sl 9]), (23, .sl 6), (24, .v (.int .i64 t8)), (25, .ep 6 t8.toNat 1 0)] [.row false (.ints .i64 a0_0), .row false (.ints .i64 a0_1), .row false (.ints .i64 a1_1), .row false (.bools a1_2), .row false (.trips a1_3), .box [.v (.slice none 0 0), .v (.slice none 0 0)], .tak true (.intss .i64 y) t8.toNat 0 (some 10), .box [.sl 8, .sl 9], .row true (.ints .i64 t7_0s), .row true (.ints .i64 t7_1s), .row true (.ints .i64 (y.getD t8.toNat [])), .box [.v (.slice none 0 0), .v (.slice none 0 0)]] := by
     refine hL.step [(4, [], 6, #[true, true, true, true, true, false, false, false, false, true, false, false])] (by kernel_rfl) ⟨?_, trivial⟩
     ·exact hL.edge n9
    have n2 : L 8 #[true, true, true, true, false, false, false, false, false, false, false, false] [(4, .pp 5 0), (6, .sl 6), (7, .pp 7 0), (8, .v (.int .i64 t8)), (18, .v (.bool (decide (t8 < (y.length : Int))))), (22, .agg [.sl 8, .sl 9]), (23, .sl 6), (24, .v (.int .i64 t8)), (25, .ep 6 t8.toNat 1 0)] [.row false (.ints .i64 a0_0), .row false (.ints .i64 a0_1), .row false (.ints .i64 a1_1), .row false (.bools a1_2), .row false (.trips a1_3), .box [.v (.slice none 0 0), .v (.slice none 0 0)], .tak true (.intss .i64 y) t8.toNat 0 (some 10), .box [.sl 8, .sl 9], .row true (.ints .i64 t7_0s), .row true (.ints .i64 t7_1s), .row true (.ints .i64 (y.getD t8.toNat []))] := by
     refine hL.step [(4, [], 7, #[true, true, true, true, true, false, false, false, false, false, false, false]), (9, [], 7, #[true, true, true, true, false, false, false, false, false, true, false, false])] (by kernel_rfl) ⟨?_, ?_, trivial⟩
     ·exact hL.edge n3
     ·exact hL.edge n10
    have n11 : L 8 #[true, true, true, false, false, false, false, false, false, true, false, false] [(4, .pp 5 0), (6, .sl 6), (7, .pp 7 0), (8, .v (.int .i64 t8)), (9, .pp 11 0), (18, .v (.bool (decide (t8 < (y.length : Int))))), (22, .agg [.sl 8, .sl 9]), (23, .sl 6), (24, .v (.int .i64 t8))] [.row false (.ints .i64 a0_0), .row false (.ints .i64 a0_1), .row false (.ints .i64 a1_1), .row false (.bools a1_2), .row false (.trips a1_3), .box [.v (.slice none 0 0), .v (.slice none 0 0)], .tak true (.intss .i64 y) t8.toNat 0 (some 10), .box [.sl 8, .sl 9], .row true (.ints .i64 t7_0s), .row true (.ints .i64 t7_1s), .row true (.ints .i64 (y.getD t8.toNat [])), .box [.v (.slice none 0 0), .v (.slice none 0 0)]] := by
     refine hL.step [(3, [], 7, #[true, true, true, true, false, false, false, false, false, true, false, false])] (by kernel_rfl) ⟨?_, trivial⟩
     ·exact hL.edge n10
    have n1 : L 9 #[true, true, true, false, false, false, false, false, false, false, false, false] [(4, .pp 5 0), (6, .sl 6), (7, .pp 7 0), (8, .v (.int .i64 t8)), (18, .v (.bool (decide (t8 < (y.length : Int))))), (22, .agg [.sl 8, .sl 9]), (23, .sl 6), (24, .v (.int .i64 t8))] [.row false (.ints .i64 a0_0), .row false (.ints .i64 a0_1), .row false (.ints .i64 a1_1), .row false (.bools a1_2), .row false (.trips a1_3), .box [.v (.slice none 0 0), .v (.slice none 0 0)], .tak true (.intss .i64 y) t8.toNat 0 (some 10), .box [.sl 8, .sl 9], .row true (.ints .i64 t7_0s), .row true (.ints .i64 t7_1s), .row true (.ints .i64 (y.getD t8.toNat []))] := by
     refine hL.step [(3, [], 8, #[true, true, true, true, false, false, false, false, false, false, false, false]), (9, [], 8, #[true, true, true, false, false, false, false, false, false, true, false, false])] (by kernel_rfl) ⟨?_, ?_, trivial⟩
     ·exact hL.edge n2
     ·exact hL.edge n11
    have n14 : L 7 #[false, true, true, true, true, false, false, false, false, true, false, false] [(4, .pp 5 0), (6, .sl 6), (7, .pp 7 0), (8, .v (.int .i64 t8)), (9, .pp 11 0), (18, .v (.bool (decide (t8 < (y.length : Int))))), (23, .sl 6), (24, .v (.int .i64 t8)), (25, .ep 6 t8.toNat 1 0), (26, .sl 10)] [.row false (.ints .i64 a0_0), .row false (.ints .i64 a0_1), .row false (.ints .i64 a1_1), .row false (.bools a1_2), .row false (.trips a1_3), .box [.v (.slice none 0 0), .v (.slice none 0 0)], .tak true (.intss .i64 y) t8.toNat 0 (some 10), .box [.sl 8, .sl 9], .row true (.ints .i64 t7_0s), .row true (.ints .i64 t7_1s), .row true (.ints .i64 (y.getD t8.toNat [])), .box [.v (.slice none 0 0), .v (.slice none 0 0)]] := by
     refine hL.step [(0, [], 6, #[true, true, true, true, true, false, false, false, false, true, false, false])] (by kernel_rfl) ⟨?_, trivial⟩
     ·exact hL.edge n9
    have n13 : L 8 #[false, true, true, true, true, false, false, false, false, false, false, false] [(4, .pp 5 0), (6, .sl 6), (7, .pp 7 0), (8, .v (.int .i64 t8)), (18, .v (.bool (decide (t8 < (y.length : Int))))), (23, .sl 6), (24, .v (.int .i64 t8)), (25, .ep 6 t8.toNat 1 0), (26, .sl 10)] [.row false (.ints .i64 a0_0), .row false (.ints .i64 a0_1), .row false (.ints .i64 a1_1), .row false (.bools a1_2), .row false (.trips a1_3), .box [.v (.slice none 0 0), .v (.slice none 0 0)], .tak true (.intss .i64 y) t8.toNat 0 (some 10), .box [.sl 8, .sl 9], .row true (.ints .i64 t7_0s), .row true (.ints .i64 t7_1s), .row true (.ints .i64 (y.getD t8.toNat []))] := by
     refine hL.step [(0, [], 7, #[true, true, true, true, true, false, false, false, false, false, false, false]), (9, [], 7, #[false, true, true, true, true, false, false, false, false, true, false, false])] (by kernel_rfl) ⟨?_, ?_, trivial⟩
     ·exact hL.edge n3
     ·exact hL.edge n14
    have n15 : L 8 #[false, true, true, true, false, false, false, false, false, true, false, false] [(4, .pp 5 0), (6, .sl 6), (7, .pp 7 0), (8, .v (.int .i64 t8)), (9, .pp 11 0), (18, .v (.bool (decide (t8 < (y.length : Int))))), (23, .sl 6), (24, .v (.int .i64 t8)), (25, .ep 6 t8.toNat 1 0)] [.row false (.ints .i64 a0_0), .row false (.ints .i64 a0_1), .row false (.ints .i64 a1_1), .row false (.bools a1_2), .row false (.trips a1_3), .box [.v (.slice none 0 0), .v (.slice none 0 0)], .tak true (.intss .i64 y) t8.toNat 0 (some 10), .box [.sl 8, .sl 9], .row true (.ints .i64 t7_0s), .row true (.ints .i64 t7_1s), .row true (.ints .i64 (y.getD t8.toNat [])), .box [.v (.slice none 0 0), .v (.slice none 0 0)]] := by
     refine hL.step [(0, [], 7, #[true, true, true, true, false, false, false, false, false, true, false, false]), (4, [], 7, #[false, true, true, true, true, false, false, false, false, true, false, false])] (by kernel_rfl) ⟨?_, ?_, trivial⟩
     ·exact hL.edge n10
     ·exact hL.edge n14
    have n12 : L 9 #[false, true, true, true, false, false, false, false, false, false, false, false] [(4, .pp 5 0), (6, .sl 6), (7, .pp 7 0), (8, .v (.int .i64 t8)), (18, .v (.bool (decide (t8 < (y.length : Int))))), (23, .sl 6), (24, .v (.int .i64 t8)), (25, .ep 6 t8.toNat 1 0)] [.row false (.ints .i64 a0_0), .row false (.ints .i64 a0_1), .row false (.ints .i64 a1_1), .row false (.bools a1_2), .row false (.trips a1_3), .box [.v (.slice none 0 0), .v (.slice none 0 0)], .tak true (.intss .i64 y) t8.toNat 0 (some 10), .box [.sl 8, .sl 9], .row true (.ints .i64 t7_0s), .row true (.ints .i64 t7_1s), .row true (.ints .i64 (y.getD t8.toNat []))] := by
     refine hL.step [(0, [], 8, #[true, true, true, true, false, false, false, false, false, false, false, false]), (4, [], 8, #[false, true, true, true, true, false, false, false, false, false, false, false]), (9, [], 8, #[false, true, true, true, false, false, false, false, false, true, false, false])] (by kernel_rfl) ⟨?_, ?_, ?_, trivial⟩
     ·exact hL.edge n2
     ·exact hL.edge n13
     ·exact hL.edge n15
    have n16 : L 9 #[false, true, true, false, false, false, false, false, false, true, false, false] [(4, .pp 5 0), (6, .sl 6), (7, .pp 7 0), (8, .v (.int .i64 t8)), (9, .pp 11 0), (18, .v (.bool (decide (t8 < (y.length : Int))))), (23, .sl 6), (24, .v (.int .i64 t8))] [.row false (.ints .i64 a0_0), .row false (.ints .i64 a0_1), .row false (.ints .i64 a1_1), .row false (.bools a1_2), .row false (.trips a1_3), .box [.v (.slice none 0 0), .v (.slice none 0 0)], .tak true (.intss .i64 y) t8.toNat 0 (some 10), .box [.sl 8, .sl 9], .row true (.ints .i64 t7_0s), .row true (.ints .i64 t7_1s), .row true (.ints .i64 (y.getD t8.toNat [])), .box [.v (.slice none 0 0), .v (.slice none 0 0)]] := by
     refine hL.step [(0, [], 8, #[true, true, true, false, false, false, false, false, false, true, false, false]), (3, [], 8, #[false, true, true, true, false, false, false, false, false, true, false, false])] (by kernel_rfl) ⟨?_, ?_, trivial⟩
     ·exact hL.edge n11
     ·exact hL.edge n15
    have n0 : L 10 #[false, true, true, false, false, false, false, false, false, false, false, false] [(4, .pp 5 0), (6, .sl 6), (7, .pp 7 0), (8, .v (.int .i64 t8)), (18, .v (.bool (decide (t8 < (y.length : Int))))), (23, .sl 6), (24, .v (.int .i64 t8))] [.row false (.ints .i64 a0_0), .row false (.ints .i64 a0_1), .row false (.ints .i64 a1_1), .row false (.bools a1_2), .row false (.trips a1_3), .box [.v (.slice none 0 0), .v (.slice none 0 0)], .tak true (.intss .i64 y) t8.toNat 0 (some 10), .box [.sl 8, .sl 9], .row true (.ints .i64 t7_0s), .row true (.ints .i64 t7_1s), .row true (.ints .i64 (y.getD t8.toNat []))] := by
     refine hL.step [(0, [], 9, #[true, true, true, false, false, false, false, false, false, false, false, false]), (3, [], 9, #[false, true, true, true, false, false, false, false, false, false, false, false]), (9, [], 9, #[false, true, true, false, false, false, false, false, false, true, false, false])] (by kernel_rfl) ⟨?_, ?_, ?_, trivial⟩
     ·exact hL.edge n1
     ·exact hL.edge n12
     ·exact hL.edge n16
    simp (maxSteps := 4000000) only [go_sem, Nat.reduceBEq, Nat.reduceLT, Nat.reduceAdd, Nat.reduceLeDiff, Nat.reduceSub, Nat.reduceEqDiff, Int.reduceToNat, reduceCtorEq, ↓reduceIte]
    repeat' (first | refine And.intro ?_ ?_ | intro hg)
    all_goals (try simp (disch := omega) only [wrap_fits])
    all_goals first
     | (refine hL.red ?_ n0; exact Red.auto)
     | exact trivial
     | assumption
     | omega
     | exact wrap_fits (by omega) (by omega)
     | (simp (maxSteps := 4000000) only [go_sem, Nat.reduceBEq, Nat.reduceLT, Nat.reduceAdd, Nat.reduceLeDiff, Nat.reduceSub, Nat.reduceEqDiff, Int.reduceToNat, reduceCtorEq, ↓reduceIte]
        repeat' (first | refine And.intro ?_ ?_ | intro hg)
        all_goals (try simp (disch := omega) only [wrap_fits])
        all_goals first | (refine hL.red ?_ n0; exact Red.auto) | exact trivial | assumption | omega | exact wrap_fits (by omega) (by omega))
     | (simp_all; done)
     | (simp_all; omega)
   ·clear hp0 hr1
    refine awp_seq fun K72 hK72 => ?_
    refine awp_put 6 10 (by rfl) (by rfl) (Cont.setChild_self (by rfl)) (by exact rfl) ?_
    refine awp_regS ftCOk [(4, .pp 5 0), (6, .sl 6), (7, .pp 7 0), (8, .v (.int .i64 t8)), (9, .pp 13 0), (31, .v (.bool (!y_5)))] ?_
    refine awp_cond (t := 31) rfl (fun hc73 => ?_) (fun hc73 => ?_)
    ·replace h := bite_t h hc73
     refine awp_reg ftCOk [(4, .pp 5 0), (5, .v (.bool false))] [.row false (.ints .i64 a0_0), .row false (.ints .i64 a0_1), .row false (.ints .i64 a1_1), .row false (.bools a1_2), .row false (.trips a1_3), .box [.sl 8, .sl 9], .row true (.intss .i64 y), .box [.sl 8, .sl 9], .row true (.ints .i64 t7_0s), .row true (.ints .i64 t7_1s), .view 6 (.ints .i64 (y.getD t8.toNat [])), .row true (.ints .i64 y_3), .row true (.ints .i64 y_4), .box [.sl 11, .sl 12]] ?_
     refine awp_ret ?_
     (try simp only [Thn, InBlk, ↓reduceIte, Nat.reduceEqDiff])
     obtain rfl := Option.some.inj h
     refine LoopQ.out rfl ?_
     exact Red.selA [0, 1, 2, 3, 4, 5, 8, 9] Red.auto
    ·replace h := bite_f h hc73
     refine awp_skip ?_
     refine hK72 _ _ ?_
     clear hK72
     refine awp_regE ftCOk [(4, .pp 5 0), (6, .sl 6), (7, .pp 7 0), (8, .v (.int .i64 t8))] [.row false (.ints .i64 a0_0), .row false (.ints .i64 a0_1), .row false (.ints .i64 a1_1), .row false (.bools a1_2), .row false (.trips a1_3), .box [.v (.slice none 0 0), .v (.slice none 0 0)], .row true (.intss .i64 y), .box [.sl 11, .sl 12], .row true (.ints .i64 t7_0s), .row true (.ints .i64 t7_1s), .view 6 (.ints .i64 (y.getD t8.toNat [])), .row true (.ints .i64 y_3), .row true (.ints .i64 y_4), .box [.sl 11, .sl 12]] ?_
     refine hK70 _ _ ?_
     clear hK70
     replace ⟨hp0, h⟩ := chk_some h
     refine awp_regES ftCOk [(4, .pp 5 0), (6, .sl 6), (7, .pp 7 0), (8, .v (.int .i64 (t8 + 1)))] ?_
     clear hp0
     obtain rfl := Option.some.inj h
     refine LoopQ.next ?_
     exact Red.selA [0, 1, 2, 3, 4, 5, 6, 7, 11, 12] Red.auto
  ·replace h := bite_f h hc65
   refine awp_exit ?_
   (try simp only [Thn, InBlk, ↓reduceIte, Nat.reduceEqDiff])
   obtain rfl := Option.some.inj h
   refine LoopQ.out rfl ?_
   exact Red.auto
 ·clear hx
  rcases x75 with (⟨t7_0s_1, t7_1s_1⟩ | ⟨t4_0s, t4_1s⟩)
  ·try dsimp only [Sum.elim_inl, Sum.elim_inr] at h
   try dsimp only [Sum.elim_inl, Sum.elim_inr]
   refine hK38 _ _ ?_
   clear hK38
   refine awp_reg ftCOk [(4, .pp 5 0), (5, .v (.bool (decide (0 < (y.length : Int)))))] [.row false (.ints .i64 a0_0), .row false (.ints .i64 a0_1), .row false (.ints .i64 a1_1), .row false (.bools a1_2), .row false (.trips a1_3), .box [.sl 8, .sl 9], .row true (.intss .i64 y), .box [.sl 8, .sl 9], .row true (.ints .i64 t7_0s_1), .row true (.ints .i64 t7_1s_1)] ?_
   refine awp_ret ?_
   obtain rfl := Option.some.inj h
   exact finQ [0, 1, 2, 3, 4, 8, 9]
  ·try dsimp only [Sum.elim_inl, Sum.elim_inr] at h
   try dsimp only [Sum.elim_inl, Sum.elim_inr]
   obtain rfl := Option.some.inj h
   exact finQ [0, 1, 2, 3, 4, 6, 7]
theorem k_spec_l1OwnDisk (a0_0 : List Int) (a0_1 : List Int) {r : List Int × List Int} (h : spec_l1OwnDisk a0_0 a0_1 = some r) :
 FnA Try.prog 46 [.agg [.sl 0, .sl 1]] [.row false (.ints .i64 a0_0), .row false (.ints .i64 a0_1)] [] (fun x H => x = .agg [.sl 2, .sl 3] ∧ H = [.row false (.ints .i64 a0_0), .row false (.ints .i64 a0_1), .row true (.ints .i64 r.1), .row true (.ints .i64 r.2)]) := by
 unfold spec_l1OwnDisk at h
 refine FnA.ofA 16 [0, 1] [.cell 2 29] Try.func46 en46 ?_
 refine awp_reg ftCOk [(1, .pp 2 0), (2, .pp 3 0)] [.row false (.ints .i64 a0_0), .row false (.ints .i64 a0_1), .box [.sl 0, .sl 1], .box [.v (.slice none 0 0), .v (.slice none 0 0)]] ?_
 refine awp_freeze 1 (by rfl) (by rfl) (by exact rfl) ?_
 refine awp_reg ftCOk [(1, .pp 2 0), (2, .pp 3 0), (3, .pp 4 0)] [.row false (.ints .i64 a0_0), .row false (.ints .i64 a0_1), .rbox [.sl 0, .sl 1], .box [.v (.slice none 0 0), .v (.slice none 0 0)], .box [.sl 0, .sl 1]] ?_
 replace ⟨hp0, h⟩ := chk_some h
 refine awp_reg ftCOk [(1, .pp 2 0), (2, .pp 3 0), (3, .pp 4 0)] [.row false (.ints .i64 a0_0), .row false (.ints .i64 a0_1), .rbox [.sl 0, .sl 1], .box [.v (.slice none 0 0), .v (.slice none 0 0)], .box [.sl 5, .sl 1], .row true (.ints .i64 ([] ++ a0_0))] ?_
 clear hp0
 replace ⟨hp0, h⟩ := chk_some h
 refine awp_reg ftCOk [(2, .pp 3 0), (3, .pp 4 0)] [.row false (.ints .i64 a0_0), .row false (.ints .i64 a0_1), .rbox [.sl 0, .sl 1], .box [.v (.slice none 0 0), .v (.slice none 0 0)], .box [.sl 5, .sl 6], .row true (.ints .i64 ([] ++ a0_0)), .row true (.ints .i64 ([] ++ a0_1))] ?_
 clear hp0
 refine awp_reg ftCOk [(2, .pp 3 0)] [.row false (.ints .i64 a0_0), .row false (.ints .i64 a0_1), .rbox [.sl 0, .sl 1], .box [.sl 5, .sl 6], .box [.sl 5, .sl 6], .row true (.ints .i64 ([] ++ a0_0)), .row true (.ints .i64 ([] ++ a0_1))] ?_
 refine awp_ret ?_
 obtain rfl := Option.some.inj h
 exact finQ [0, 1, 5, 6]
theorem k_spec_DiskSync (a0_0 : List Int) (a0_1 : List Int) {r : List Int × List Int} (h : spec_DiskSync a0_0 a0_1 = some r) :
 FnA Try.prog 35 [.agg [.sl 0, .sl 1]] [.row false (.ints .i64 a0_0), .row false (.ints .i64 a0_1)] [] (fun x H => x = .agg [.sl 2, .sl 3] ∧ H = [.row false (.ints .i64 a0_0), .row false (.ints .i64 a0_1), .row true (.ints .i64 r.1), .row true (.ints .i64 r.2)]) := by
 unfold spec_DiskSync at h
 refine FnA.ofA 17 [0, 1] [.cell 2 29] Try.func35 en35 ?_
 refine awp_reg ftCOk [(1, .pp 2 0), (2, .pp 3 0)] [.row false (.ints .i64 a0_0), .row false (.ints .i64 a0_1), .box [.sl 0, .sl 1], .box [.v (.slice none 0 0), .v (.slice none 0 0)]] ?_
 replace ⟨⟨y, y_1⟩, hr0, h⟩ := bind_some h
 try dsimp only at h
 refine awp_regC ftCOk [(1, .pp 2 0), (2, .pp 3 0)] [.row false (.ints .i64 a0_0), .row false (.ints .i64 a0_1), .box [.sl 4, .sl 5], .box [.v (.slice none 0 0), .v (.slice none 0 0)], .row true (.ints .i64 y), .row true (.ints .i64 y_1)] 1 [0, 1] (k_spec_l1OwnDisk a0_0 a0_1 (h := hr0)) ?_
 clear hr0
 refine awp_seq fun K2 hK2 => ?_
 replace ⟨y_2, hr0, h⟩ := bind_some h
 refine awp_regC ftCOk [(1, .pp 2 0), (2, .pp 3 0), (7, .v (.bool (!y_2)))] [.row false (.ints .i64 a0_0), .row false (.ints .i64 a0_1), .box [.sl 4, .sl 5], .box [.v (.slice none 0 0), .v (.slice none 0 0)], .row true (.ints .i64 y), .row true (.ints .i64 y_1)] 1 [4, 5] (k_spec_DiskValid y y_1 (h := hr0)) ?_
 clear hr0
 refine awp_cond (t := 7) rfl (fun hc3 => ?_) (fun hc3 => ?_)
 ·replace h := bite_t h hc3
  refine awp_regS ftCOk [(2, .pp 3 0)] ?_
  refine awp_red (Red.nilCell (o := 3) (i := 0) (.ints .i64 []) rfl rfl rfl) ?_
  refine awp_red (Red.nilCell (o := 3) (i := 1) (.ints .i64 []) rfl rfl rfl) ?_
  refine awp_ret ?_
  obtain rfl := Option.some.inj h
  exact finQ [0, 1, 6, 7]
 ·replace h := bite_f h hc3
  refine awp_skip ?_
  refine hK2 _ _ ?_
  clear hK2
  refine awp_freeze 1 (by rfl) (by rfl) (by first | exact rfl | (simp only [List.map_cons, List.map_nil, List.set_cons_succ, List.set_cons_zero, AObj.unview, reduceCtorEq, ↓reduceIte, Nat.reduceEqDiff]; exact rfl)) ?_
  replace ⟨hp0, h⟩ := chk_some h
  replace ⟨hp1, h⟩ := chk_some h
  refine awp_to [(2, .pp 3 0)] [.row false (.ints .i64 a0_0), .row false (.ints .i64 a0_1), .rbox [.sl 4, .sl 5], .box [.sl 6, .v (.slice none 0 0)], .row true (.ints .i64 y), .row true (.ints .i64 y_1), .row true (.ints .i64 (([] ++ y) ++ y_1))] ?_ ?_
  ·clear h
   intro K hK
   refine awp_drawT mixed ftCOk (.free 1 (.free 4 (.free 2 (.free 5 (.one 0 (.one 3 (.one 6 (.one 7 (.one 8 .fin))))))))) (by kernel_rfl) (by simp) ?_
   simp (maxSteps := 4000000) only [go_sem, Nat.reduceBEq, Nat.reduceLT, Nat.reduceAdd, Nat.reduceLeDiff, Nat.reduceSub, Nat.reduceEqDiff, Int.reduceToNat, reduceCtorEq, ↓reduceIte]
   repeat' (first | refine And.intro ?_ ?_ | intro hg)
   all_goals (try simp (disch := omega) only [wrap_fits])
   all_goals first
    | (refine hK _ _ ?_; exact Red.auto)
    | exact trivial
    | assumption
    | omega
    | exact wrap_fits (by omega) (by omega)
    | (simp (maxSteps := 4000000) only [go_sem, Nat.reduceBEq, Nat.reduceLT, Nat.reduceAdd, Nat.reduceLeDiff, Nat.reduceSub, Nat.reduceEqDiff, Int.reduceToNat, reduceCtorEq, ↓reduceIte]
       repeat' (first | refine And.intro ?_ ?_ | intro hg)
       all_goals (try simp (disch := omega) only [wrap_fits])
       all_goals first | (refine hK _ _ ?_; exact Red.auto) | exact trivial | assumption | omega | exact wrap_fits (by omega) (by omega))
    | (simp_all; done)
    | (simp_all; omega)
  ·clear hp0 hp1
   refine awp_red (Red.nilCell (o := 3) (i := 1) (.ints .i64 []) rfl rfl rfl) ?_
   refine awp_ret ?_
   obtain rfl := Option.some.inj h
   exact finQ [0, 1, 6, 7]
theorem k_spec_SaveState (a0_0 : List Int) (a0_1 : List Int) (a1_0 : Int) (a1_1 : List Int) (a1_2 : List Bool) (a1_3 : List (Int × Int × Int)) {r : List Int × List Int × Bool} (h : spec_SaveState a0_0 a0_1 a1_0 a1_1 a1_2 a1_3 = some r) :
 FnA Try.prog 15 [.agg [.sl 0, .sl 1], .agg [.v (.int .i64 a1_0), .sl 2, .sl 3, .sl 4]] [.row false (.ints .i64 a0_0), .row false (.ints .i64 a0_1), .row false (.ints .i64 a1_1), .row false (.bools a1_2), .row false (.trips a1_3)] [] (fun x H => x = .tup [.agg [.sl 5, .sl 6], .v (.bool r.2.2)] ∧ H = [.row false (.ints .i64 a0_0), .row false (.ints .i64 a0_1), .row false (.ints .i64 a1_1), .row false (.bools a1_2), .row false (.trips a1_3), .row true (.ints .i64 r.1), .row true (.ints .i64 r.2.1)]) := by
 unfold spec_SaveState at h
 refine FnA.ofA 24 [0, 1, 2, 3, 4] [.cell 4 29, .tmp 5] Try.func15 en15 ?_
 refine awp_reg ftCOk [(2, .pp 5 0), (3, .pp 6 0), (4, .pp 7 0)] [.row false (.ints .i64 a0_0), .row false (.ints .i64 a0_1), .row false (.ints .i64 a1_1), .row false (.bools a1_2), .row false (.trips a1_3), .box [.sl 0, .sl 1], .box [.v (.int .i64 a1_0), .sl 2, .sl 3, .sl 4], .box [.v (.slice none 0 0), .v (.slice none 0 0)]] ?_
 refine awp_freeze 2 (by rfl) (by rfl) (by exact rfl) ?_
 refine awp_freeze 3 (by rfl) (by rfl) (by exact rfl) ?_
 refine awp_seq fun K2 hK2 => ?_
 replace ⟨y, hr0, h⟩ := bind_some h
 refine awp_regC ftCOk [(2, .pp 5 0), (3, .pp 6 0), (4, .pp 7 0), (10, .v (.bool (!y)))] [.row false (.ints .i64 a0_0), .row false (.ints .i64 a0_1), .row false (.ints .i64 a1_1), .row false (.bools a1_2), .row false (.trips a1_3), .rbox [.sl 0, .sl 1], .rbox [.v (.int .i64 a1_0), .sl 2, .sl 3, .sl 4], .box [.v (.slice none 0 0), .v (.slice none 0 0)]] 1 [0, 1] (k_spec_DiskValid a0_0 a0_1 (h := hr0)) ?_
 clear hr0
 refine awp_cond (t := 10) rfl (fun hc3 => ?_) (fun hc3 => ?_)
 ·replace h := bite_t h hc3
  refine awp_regS ftCOk [(4, .pp 7 0), (5, .v (.bool false))] ?_
  refine awp_red (Red.nilCell (o := 7) (i := 0) (.ints .i64 []) rfl rfl rfl) ?_
  refine awp_red (Red.nilCell (o := 7) (i := 1) (.ints .i64 []) rfl rfl rfl) ?_
  refine awp_ret ?_
  obtain rfl := Option.some.inj h
  exact finQ [0, 1, 2, 3, 4, 8, 9]
 ·replace h := bite_f h hc3
  refine awp_skip ?_
  refine hK2 _ _ ?_
  clear hK2
  replace ⟨⟨y_1, y_2, y_3⟩, hr0, h⟩ := bind_some h
  try dsimp only at h
  refine awp_regC ftCOk [(2, .pp 5 0), (4, .pp 7 0), (6, .pp 10 0), (7, .v (.bool y_3))] [.row false (.ints .i64 a0_0), .row false (.ints .i64 a0_1), .row false (.ints .i64 a1_1), .row false (.bools a1_2), .row false (.trips a1_3), .rbox [.sl 0, .sl 1], .rbox [.v (.int .i64 a1_0), .sl 2, .sl 3, .sl 4], .box [.v (.slice none 0 0), .v (.slice none 0 0)], .row true (.ints .i64 y_1), .row true (.ints .i64 y_2), .box [.sl 8, .sl 9]] 2 [0, 1, 2, 3, 4] (k_spec_l18Write a0_0 a0_1 a1_0 a1_1 a1_2 a1_3 (h := hr0)) ?_
  clear hr0
  refine awp_seq fun K5 hK5 => ?_
  refine awp_regS ftCOk [(2, .pp 5 0), (4, .pp 7 0), (6, .pp 10 0), (19, .v (.bool (!y_3)))] ?_
  refine awp_cond (t := 19) rfl (fun hc6 => ?_) (fun hc6 => ?_)
  ·replace h := bite_t h hc6
   replace ⟨⟨y_4, y_5⟩, hr0, h⟩ := bind_some h
   try dsimp only at h
   refine awp_regC ftCOk [(4, .pp 7 0), (5, .v (.bool false))] [.row false (.ints .i64 a0_0), .row false (.ints .i64 a0_1), .row false (.ints .i64 a1_1), .row false (.bools a1_2), .row false (.trips a1_3), .rbox [.sl 0, .sl 1], .rbox [.v (.int .i64 a1_0), .sl 2, .sl 3, .sl 4], .box [.sl 11, .sl 12], .row true (.ints .i64 y_1), .row true (.ints .i64 y_2), .box [.sl 8, .sl 9], .row true (.ints .i64 y_4), .row true (.ints .i64 y_5)] 1 [0, 1] (k_spec_l3Copy a0_0 a0_1 (h := hr0)) ?_
   clear hr0
   refine awp_ret ?_
   obtain rfl := Option.some.inj h
   exact finQ [0, 1, 2, 3, 4, 11, 12]
  ·replace h := bite_f h hc6
   refine awp_skip ?_
   refine hK5 _ _ ?_
   clear hK5
   replace ⟨⟨y_6, y_7⟩, hr0, h⟩ := bind_some h
   try dsimp only at h
   refine awp_regC ftCOk [(4, .pp 7 0), (5, .v (.bool true))] [.row false (.ints .i64 a0_0), .row false (.ints .i64 a0_1), .row false (.ints .i64 a1_1), .row false (.bools a1_2), .row false (.trips a1_3), .rbox [.sl 0, .sl 1], .rbox [.v (.int .i64 a1_0), .sl 2, .sl 3, .sl 4], .box [.sl 11, .sl 12], .row true (.ints .i64 y_1), .row true (.ints .i64 y_2), .box [.sl 8, .sl 9], .row true (.ints .i64 y_6), .row true (.ints .i64 y_7)] 1 [8, 9] (k_spec_DiskSync y_1 y_2 (h := hr0)) ?_
   clear hr0
   refine awp_ret ?_
   obtain rfl := Option.some.inj h
   exact finQ [0, 1, 2, 3, 4, 11, 12]
theorem k_impl_BytesValid (a0 : List Int) {r : Bool} (h : impl_BytesValid a0 = some r) :
 FnA Try.prog 47 [.sl 0] [.row false (.ints .i64 a0)] [] (fun x H => x = .v (.bool r) ∧ H = [.row false (.ints .i64 a0)]) := by
 unfold impl_BytesValid at h
 refine FnA.ofA 21 [0] [.tmp 2] Try.func47 en47 ?_
 refine awp_regS ftCOk [(0, .sl 0)] ?_
 refine awp_seq fun K2 hK2 => ?_
 refine awp_regS ftCOk [(0, .sl 0), (7, .v (.bool (decide (2000 < (a0.length : Int)))))] ?_
 refine awp_cond (t := 7) rfl (fun hc3 => ?_) (fun hc3 => ?_)
 ·replace h := bite_t h hc3
  refine awp_regS ftCOk [(2, .v (.bool false))] ?_
  refine awp_ret ?_
  obtain rfl := Option.some.inj h
  exact finQ [0]
 ·replace h := bite_f h hc3
  refine awp_skip ?_
  refine hK2 _ _ ?_
  clear hK2
  refine awp_seq fun K23 hK23 => ?_
  refine awp_regS ftCOk [(8, .sl 0), (9, .v (.int .i64 (a0.length : Int))), (10, .v (.int .i64 0))] ?_
  refine awp_block ?_
  replace h := bind_some h
  obtain ⟨x42, hx, h⟩ := h
  refine awp_loopL hx (fun (t10 : Int) => [(8, .sl 0), (9, .v (.int .i64 (a0.length : Int))), (10, .v (.int .i64 t10))]) (fun (t10 : Int) => [.row false (.ints .i64 a0)]) (Sum.elim (fun (_ : Unit) => Exit.exit 0) (fun (_ : Unit) => Exit.ret)) (Sum.elim (fun (_ : Unit) => []) (fun (_ : Unit) => [(2, .v (.bool false))])) (Sum.elim (fun (_ : Unit) => [.row false (.ints .i64 a0)]) (fun (_ : Unit) => [.row false (.ints .i64 a0)])) ?_ ?_ ?_ ?_
  ·rintro (⟨⟩ | ⟨⟩) hy <;> cases hy
  ·clear h hx
   exact Red.auto
  ·clear h hx
   rintro t10 r h
   unfold impl_BytesValid_b0 at h
   try dsimp only at h
   try dsimp only
   refine awp_regS ftCOk [(8, .sl 0), (9, .v (.int .i64 (a0.length : Int))), (10, .v (.int .i64 t10)), (11, .v (.bool (decide (t10 < (a0.length : Int)))))] ?_
   refine awp_seq fun K37 hK37 => ?_
   refine awp_cond (t := 11) rfl (fun hc38 => ?_) (fun hc38 => ?_)
   ·replace h := bite_t h hc38
    refine awp_skip ?_
    refine hK37 _ _ ?_
    clear hK37
    refine awp_seq fun K40 hK40 => ?_
    refine awp_block ?_
    replace ⟨hp0, h⟩ := chk_some h
    refine awp_regS ftCOk [(4, .v (.int .i64 (a0.getD t10.toNat 0))), (8, .sl 0), (9, .v (.int .i64 (a0.length : Int))), (10, .v (.int .i64 t10))] ?_
    clear hp0
    refine awp_regS ftCOk [(8, .sl 0), (9, .v (.int .i64 (a0.length : Int))), (10, .v (.int .i64 t10)), (19, .v (.bool ((decide ((a0.getD t10.toNat 0) < 0)) || (decide (255 < (a0.getD t10.toNat 0))))))] ?_
    refine awp_cond (t := 19) rfl (fun hc41 => ?_) (fun hc41 => ?_)
    ·replace h := bite_t h hc41
     refine awp_regS ftCOk [(2, .v (.bool false))] ?_
     refine awp_ret ?_
     (try simp only [Thn, InBlk, ↓reduceIte, Nat.reduceEqDiff])
     obtain rfl := Option.some.inj h
     refine LoopQ.out rfl ?_
     exact Red.auto
    ·replace h := bite_f h hc41
     refine awp_skip ?_
     refine hK40 _ _ ?_
     clear hK40
     replace ⟨hp0, h⟩ := chk_some h
     refine awp_regES ftCOk [(8, .sl 0), (9, .v (.int .i64 (a0.length : Int))), (10, .v (.int .i64 (t10 + 1)))] ?_
     clear hp0
     obtain rfl := Option.some.inj h
     refine LoopQ.next ?_
     exact Red.auto
   ·replace h := bite_f h hc38
    refine awp_exit ?_
    (try simp only [Thn, InBlk, ↓reduceIte, Nat.reduceEqDiff])
    obtain rfl := Option.some.inj h
    refine LoopQ.out rfl ?_
    exact Red.auto
  ·clear hx
   rcases x42 with (⟨⟩ | ⟨⟩)
   ·try dsimp only [Sum.elim_inl, Sum.elim_inr] at h
    try dsimp only [Sum.elim_inl, Sum.elim_inr]
    refine hK23 _ _ ?_
    clear hK23
    refine awp_regS ftCOk [(2, .v (.bool true))] ?_
    refine awp_ret ?_
    obtain rfl := Option.some.inj h
    exact finQ [0]
   ·try dsimp only [Sum.elim_inl, Sum.elim_inr] at h
    try dsimp only [Sum.elim_inl, Sum.elim_inr]
    obtain rfl := Option.some.inj h
    exact finQ [0]
theorem k_impl_DiskValid (a0_0 : List Int) (a0_1 : List Int) {r : Bool} (h : impl_DiskValid a0_0 a0_1 = some r) :
 FnA Try.prog 36 [.agg [.sl 0, .sl 1]] [.row false (.ints .i64 a0_0), .row false (.ints .i64 a0_1)] [] (fun x H => x = .v (.bool r) ∧ H = [.row false (.ints .i64 a0_0), .row false (.ints .i64 a0_1)]) := by
 unfold impl_DiskValid at h
 refine FnA.ofA 21 [0, 1] [.tmp 2] Try.func36 en36 ?_
 refine awp_reg ftCOk [(1, .pp 2 0)] [.row false (.ints .i64 a0_0), .row false (.ints .i64 a0_1), .box [.sl 0, .sl 1]] ?_
 refine awp_freeze 1 (by rfl) (by rfl) (by exact rfl) ?_
 replace ⟨y, hr0, h⟩ := bind_some h
 replace ⟨y_1, hr1, h⟩ := bind_some h
 replace ⟨hp2, h⟩ := chk_some h
 refine awp_to [(2, .v (.bool ((y && y_1) && (decide (((a0_0.length : Int) + (a0_1.length : Int)) ≤ 2000)))))] [.row false (.ints .i64 a0_0), .row false (.ints .i64 a0_1), .rbox [.sl 0, .sl 1]] ?_ ?_
 ·clear h
  intro K hK
  refine awp_regionA ?_
  refine wpA_cutAt 8 [(1, .pp 2 0), (10, .v (.bool (y && y_1)))] [.row false (.ints .i64 a0_0), .row false (.ints .i64 a0_1), .rbox [.sl 0, .sl 1]] ?_ ?_
  ·clear hK K
   intro K hK
   refine vcOps_sound ftCOk ?_
   simp (maxSteps := 4000000) only [go_sem, Nat.reduceBEq, Nat.reduceLT, Nat.reduceAdd, Nat.reduceLeDiff, Nat.reduceSub, Nat.reduceEqDiff, Int.reduceToNat, reduceCtorEq, ↓reduceIte]
   repeat' (first | refine And.intro ?_ ?_ | intro hg)
   all_goals (try simp (disch := omega) only [wrap_fits])
   all_goals first
    | (refine hK _ _ ?_; exact Red.auto)
    | exact trivial
    | assumption
    | omega
    | exact wrap_fits (by omega) (by omega)
    | (have hq := hp2 (by first | assumption | (simp only [*, Bool.false_or, Bool.true_or, Bool.or_false, Bool.or_true, Bool.false_and, Bool.true_and, Bool.and_false, Bool.and_true, Bool.not_true, Bool.not_false, beq_self_eq_true]; done) | (simp_all; done)); omega)
    | (refine wpA_callA (k_impl_BytesValid a0_0 (h := hr0)) [0] [] ?_
       rintro x Hc' ⟨rfl, rfl⟩ hlen
       refine vcOps_sound ftCOk ?_
       simp (maxSteps := 4000000) only [go_sem, Nat.reduceBEq, Nat.reduceLT, Nat.reduceAdd, Nat.reduceLeDiff, Nat.reduceSub, Nat.reduceEqDiff, Int.reduceToNat, reduceCtorEq, ↓reduceIte]
       repeat' (first | refine And.intro ?_ ?_ | intro hg)
       all_goals (try simp (disch := omega) only [wrap_fits])
       all_goals first
        | (refine hK _ _ ?_; exact Red.auto)
        | exact trivial
        | assumption
        | omega
        | exact wrap_fits (by omega) (by omega)
        | (have hq := hp2 (by first | assumption | (simp only [*, Bool.false_or, Bool.true_or, Bool.or_false, Bool.or_true, Bool.false_and, Bool.true_and, Bool.and_false, Bool.and_true, Bool.not_true, Bool.not_false, beq_self_eq_true]; done) | (simp_all; done)); omega)
        | (refine wpA_guard rfl rfl ?_
           refine wpA_callA (k_impl_BytesValid a0_1 (h := (bite_t hr1 (by first | assumption | (simp only [*, Bool.false_or, Bool.true_or, Bool.or_false, Bool.or_true, Bool.false_and, Bool.true_and, Bool.and_false, Bool.and_true, Bool.not_true, Bool.not_false, beq_self_eq_true]; done) | (simp_all; done))))) [1] [] ?_
           rintro x Hc' ⟨rfl, rfl⟩ hlen
           refine vcOps_sound ftCOk ?_
           simp (maxSteps := 4000000) only [go_sem, Nat.reduceBEq, Nat.reduceLT, Nat.reduceAdd, Nat.reduceLeDiff, Nat.reduceSub, Nat.reduceEqDiff, Int.reduceToNat, reduceCtorEq, ↓reduceIte]
           repeat' (first | refine And.intro ?_ ?_ | intro hg)
           all_goals (try simp (disch := omega) only [wrap_fits])
           all_goals first | (refine hK _ _ ?_; exact Red.auto) | exact trivial | assumption | omega | exact wrap_fits (by omega) (by omega) | (have hq := hp2 (by first | assumption | (simp only [*, Bool.false_or, Bool.true_or, Bool.or_false, Bool.or_true, Bool.false_and, Bool.true_and, Bool.and_false, Bool.and_true, Bool.not_true, Bool.not_false, beq_self_eq_true]; done) | (simp_all; done)); omega) | (simp_all; done) | (simp_all; omega))
        | (simp_all; done)
        | (simp_all; omega))
    | (simp_all; done)
    | (simp_all; omega)
  refine vcOps_sound ftCOk ?_
  simp (maxSteps := 4000000) only [go_sem, Nat.reduceBEq, Nat.reduceLT, Nat.reduceAdd, Nat.reduceLeDiff, Nat.reduceSub, Nat.reduceEqDiff, Int.reduceToNat, reduceCtorEq, ↓reduceIte]
  repeat' (first | refine And.intro ?_ ?_ | intro hg)
  all_goals (try simp (disch := omega) only [wrap_fits])
  all_goals first | (refine hK _ _ ?_; exact Red.auto) | exact trivial | assumption | omega | exact wrap_fits (by omega) (by omega) | (have hq := hp2 (by first | assumption | (simp only [*, Bool.false_or, Bool.true_or, Bool.or_false, Bool.or_true, Bool.false_and, Bool.true_and, Bool.and_false, Bool.and_true, Bool.not_true, Bool.not_false, beq_self_eq_true]; done) | (simp_all; done)); omega) | (simp_all; done) | (simp_all; omega)
 ·clear hr0 hr1 hp2
  refine awp_ret ?_
  obtain rfl := Option.some.inj h
  exact finQ [0, 1]
theorem k_impl_roundFits (a0 : Int) {r : Bool} (h : impl_roundFits a0 = some r) :
 FnA Try.prog 59 [.v (.int .i64 a0)] [] [] (fun x H => x = .v (.bool r) ∧ H = []) := by
 unfold impl_roundFits at h
 refine FnA.ofA 9 [] [.tmp 2] Try.func59 en59 ?_
 refine awp_regS ftCOk [(0, .v (.int .i64 a0))] ?_
 refine awp_regS ftCOk [(2, .v (.bool ((decide (0 ≤ a0)) && (decide (a0 ≤ 100)))))] ?_
 refine awp_ret ?_
 obtain rfl := Option.some.inj h
 exact finQ []
theorem k_impl_valueFits (a0 : Int) {r : Bool} (h : impl_valueFits a0 = some r) :
 FnA Try.prog 69 [.v (.int .i64 a0)] [] [] (fun x H => x = .v (.bool r) ∧ H = []) := by
 unfold impl_valueFits at h
 refine FnA.ofA 9 [] [.tmp 2] Try.func69 en69 ?_
 refine awp_regS ftCOk [(0, .v (.int .i64 a0))] ?_
 refine awp_regS ftCOk [(2, .v (.bool ((decide ((-1) ≤ a0)) && (decide (a0 < 1000000)))))] ?_
 refine awp_ret ?_
 obtain rfl := Option.some.inj h
 exact finQ []
theorem k_impl_valuesFit (a0 : List Int) {r : Bool} (h : impl_valuesFit a0 = some r) :
 FnA Try.prog 60 [.sl 0] [.row false (.ints .i64 a0)] [] (fun x H => x = .v (.bool r) ∧ H = [.row false (.ints .i64 a0)]) := by
 unfold impl_valuesFit at h
 refine FnA.ofA 15 [0] [.tmp 2] Try.func60 en60 ?_
 refine awp_regS ftCOk [(0, .sl 0)] ?_
 refine awp_seq fun K20 hK20 => ?_
 refine awp_regS ftCOk [(5, .sl 0), (6, .v (.int .i64 (a0.length : Int))), (7, .v (.int .i64 0))] ?_
 refine awp_block ?_
 replace h := bind_some h
 obtain ⟨x39, hx, h⟩ := h
 refine awp_loopL hx (fun (t7 : Int) => [(5, .sl 0), (6, .v (.int .i64 (a0.length : Int))), (7, .v (.int .i64 t7))]) (fun (t7 : Int) => [.row false (.ints .i64 a0)]) (Sum.elim (fun (_ : Unit) => Exit.exit 0) (fun (_ : Unit) => Exit.ret)) (Sum.elim (fun (_ : Unit) => []) (fun (_ : Unit) => [(2, .v (.bool false))])) (Sum.elim (fun (_ : Unit) => [.row false (.ints .i64 a0)]) (fun (_ : Unit) => [.row false (.ints .i64 a0)])) ?_ ?_ ?_ ?_
 ·rintro (⟨⟩ | ⟨⟩) hy <;> cases hy
 ·clear h hx
  exact Red.auto
 ·clear h hx
  rintro t7 r h
  unfold impl_valuesFit_b0 at h
  try dsimp only at h
  try dsimp only
  refine awp_regS ftCOk [(5, .sl 0), (6, .v (.int .i64 (a0.length : Int))), (7, .v (.int .i64 t7)), (8, .v (.bool (decide (t7 < (a0.length : Int)))))] ?_
  refine awp_seq fun K34 hK34 => ?_
  refine awp_cond (t := 8) rfl (fun hc35 => ?_) (fun hc35 => ?_)
  ·replace h := bite_t h hc35
   refine awp_skip ?_
   refine hK34 _ _ ?_
   clear hK34
   refine awp_seq fun K37 hK37 => ?_
   refine awp_block ?_
   replace ⟨hp0, h⟩ := chk_some h
   refine awp_regS ftCOk [(4, .v (.int .i64 (a0.getD t7.toNat 0))), (5, .sl 0), (6, .v (.int .i64 (a0.length : Int))), (7, .v (.int .i64 t7))] ?_
   clear hp0
   replace ⟨y, hr0, h⟩ := bind_some h
   refine awp_regC ftCOk [(5, .sl 0), (6, .v (.int .i64 (a0.length : Int))), (7, .v (.int .i64 t7)), (13, .v (.bool (!y)))] [.row false (.ints .i64 a0)] 1 [] (k_impl_valueFits (a0.getD t7.toNat 0) (h := hr0)) ?_
   clear hr0
   refine awp_cond (t := 13) rfl (fun hc38 => ?_) (fun hc38 => ?_)
   ·replace h := bite_t h hc38
    refine awp_regS ftCOk [(2, .v (.bool false))] ?_
    refine awp_ret ?_
    (try simp only [Thn, InBlk, ↓reduceIte, Nat.reduceEqDiff])
    obtain rfl := Option.some.inj h
    refine LoopQ.out rfl ?_
    exact Red.auto
   ·replace h := bite_f h hc38
    refine awp_skip ?_
    refine hK37 _ _ ?_
    clear hK37
    replace ⟨hp0, h⟩ := chk_some h
    refine awp_regES ftCOk [(5, .sl 0), (6, .v (.int .i64 (a0.length : Int))), (7, .v (.int .i64 (t7 + 1)))] ?_
    clear hp0
    obtain rfl := Option.some.inj h
    refine LoopQ.next ?_
    exact Red.auto
  ·replace h := bite_f h hc35
   refine awp_exit ?_
   (try simp only [Thn, InBlk, ↓reduceIte, Nat.reduceEqDiff])
   obtain rfl := Option.some.inj h
   refine LoopQ.out rfl ?_
   exact Red.auto
 ·clear hx
  rcases x39 with (⟨⟩ | ⟨⟩)
  ·try dsimp only [Sum.elim_inl, Sum.elim_inr] at h
   try dsimp only [Sum.elim_inl, Sum.elim_inr]
   refine hK20 _ _ ?_
   clear hK20
   refine awp_regS ftCOk [(2, .v (.bool true))] ?_
   refine awp_ret ?_
   obtain rfl := Option.some.inj h
   exact finQ [0]
  ·try dsimp only [Sum.elim_inl, Sum.elim_inr] at h
   try dsimp only [Sum.elim_inl, Sum.elim_inr]
   obtain rfl := Option.some.inj h
   exact finQ [0]
theorem k_impl_messageFits (a0_0 : Int) (a0_1 : Int) (a0_2 : Int) (a1 : Int) {r : Bool} (h : impl_messageFits a0_0 a0_1 a0_2 a1 = some r) :
 FnA Try.prog 72 [.agg [.v (.int .i64 a0_0), .v (.int .i64 a0_1), .v (.int .i64 a0_2)], .v (.int .i64 a1)] [] [] (fun x H => x = .v (.bool r) ∧ H = []) := by
 unfold impl_messageFits at h
 refine FnA.ofA 35 [] [.tmp 4] Try.func72 en72 ?_
 refine awp_reg ftCOk [(1, .v (.int .i64 a1)), (2, .pp 0 0)] [.box [.v (.int .i64 a0_0), .v (.int .i64 a0_1), .v (.int .i64 a0_2)]] ?_
 refine awp_freeze 2 (by rfl) (by rfl) (by exact rfl) ?_
 refine awp_to [(4, .v (.bool ((((((decide (0 ≤ a0_0)) && (decide (a0_0 < a1))) && (decide (0 ≤ a0_2))) && (decide (a0_2 < a1))) && (decide (0 ≤ a0_1))) && (decide (a0_1 < 1000000)))))] [.rbox [.v (.int .i64 a0_0), .v (.int .i64 a0_1), .v (.int .i64 a0_2)]] ?_ ?_
 ·clear h
  intro K hK
  refine awp_regionA ?_
  refine wpA_cutAt 9 [(1, .v (.int .i64 a1)), (2, .pp 0 0), (13, .v (.bool ((decide (0 ≤ a0_0)) && (decide (a0_0 < a1)))))] [.rbox [.v (.int .i64 a0_0), .v (.int .i64 a0_1), .v (.int .i64 a0_2)]] ?_ ?_
  ·clear hK K
   intro K hK
   refine vcOps_sound ftCOk ?_
   simp (maxSteps := 4000000) only [go_sem, Nat.reduceBEq, Nat.reduceLT, Nat.reduceAdd, Nat.reduceLeDiff, Nat.reduceSub, Nat.reduceEqDiff, Int.reduceToNat, reduceCtorEq, ↓reduceIte]
   repeat' (first | refine And.intro ?_ ?_ | intro hg)
   all_goals (try simp (disch := omega) only [wrap_fits])
   all_goals first | (refine hK _ _ ?_; exact Red.auto) | exact trivial | assumption | omega | exact wrap_fits (by omega) (by omega) | (simp_all; done) | (simp_all; omega)
  refine wpA_cutAt 5 [(1, .v (.int .i64 a1)), (2, .pp 0 0), (18, .v (.bool (((decide (0 ≤ a0_0)) && (decide (a0_0 < a1))) && (decide (0 ≤ a0_2)))))] [.rbox [.v (.int .i64 a0_0), .v (.int .i64 a0_1), .v (.int .i64 a0_2)]] ?_ ?_
  ·clear hK K
   intro K hK
   refine vcOps_sound ftCOk ?_
   simp (maxSteps := 4000000) only [go_sem, Nat.reduceBEq, Nat.reduceLT, Nat.reduceAdd, Nat.reduceLeDiff, Nat.reduceSub, Nat.reduceEqDiff, Int.reduceToNat, reduceCtorEq, ↓reduceIte]
   repeat' (first | refine And.intro ?_ ?_ | intro hg)
   all_goals (try simp (disch := omega) only [wrap_fits])
   all_goals first | (refine hK _ _ ?_; exact Red.auto) | exact trivial | assumption | omega | exact wrap_fits (by omega) (by omega) | (simp_all; done) | (simp_all; omega)
  refine wpA_cutAt 6 [(2, .pp 0 0), (24, .v (.bool ((((decide (0 ≤ a0_0)) && (decide (a0_0 < a1))) && (decide (0 ≤ a0_2))) && (decide (a0_2 < a1)))))] [.rbox [.v (.int .i64 a0_0), .v (.int .i64 a0_1), .v (.int .i64 a0_2)]] ?_ ?_
  ·clear hK K
   intro K hK
   refine vcOps_sound ftCOk ?_
   simp (maxSteps := 4000000) only [go_sem, Nat.reduceBEq, Nat.reduceLT, Nat.reduceAdd, Nat.reduceLeDiff, Nat.reduceSub, Nat.reduceEqDiff, Int.reduceToNat, reduceCtorEq, ↓reduceIte]
   repeat' (first | refine And.intro ?_ ?_ | intro hg)
   all_goals (try simp (disch := omega) only [wrap_fits])
   all_goals first | (refine hK _ _ ?_; exact Red.auto) | exact trivial | assumption | omega | exact wrap_fits (by omega) (by omega) | (simp_all; done) | (simp_all; omega)
  refine wpA_cutAt 5 [(2, .pp 0 0), (29, .v (.bool (((((decide (0 ≤ a0_0)) && (decide (a0_0 < a1))) && (decide (0 ≤ a0_2))) && (decide (a0_2 < a1))) && (decide (0 ≤ a0_1)))))] [.rbox [.v (.int .i64 a0_0), .v (.int .i64 a0_1), .v (.int .i64 a0_2)]] ?_ ?_
  ·clear hK K
   intro K hK
   refine vcOps_sound ftCOk ?_
   simp (maxSteps := 4000000) only [go_sem, Nat.reduceBEq, Nat.reduceLT, Nat.reduceAdd, Nat.reduceLeDiff, Nat.reduceSub, Nat.reduceEqDiff, Int.reduceToNat, reduceCtorEq, ↓reduceIte]
   repeat' (first | refine And.intro ?_ ?_ | intro hg)
   all_goals (try simp (disch := omega) only [wrap_fits])
   all_goals first | (refine hK _ _ ?_; exact Red.auto) | exact trivial | assumption | omega | exact wrap_fits (by omega) (by omega) | (simp_all; done) | (simp_all; omega)
  refine vcOps_sound ftCOk ?_
  simp (maxSteps := 4000000) only [go_sem, Nat.reduceBEq, Nat.reduceLT, Nat.reduceAdd, Nat.reduceLeDiff, Nat.reduceSub, Nat.reduceEqDiff, Int.reduceToNat, reduceCtorEq, ↓reduceIte]
  repeat' (first | refine And.intro ?_ ?_ | intro hg)
  all_goals (try simp (disch := omega) only [wrap_fits])
  all_goals first | (refine hK _ _ ?_; exact Red.auto) | exact trivial | assumption | omega | exact wrap_fits (by omega) (by omega) | (simp_all; done) | (simp_all; omega)
 ·refine awp_ret ?_
  obtain rfl := Option.some.inj h
  exact finQ []
theorem k_slices_IsSortedFunc_impl_Message_impl_Message__impl_compareMessages (a0 : List (Int × Int × Int)) {r : Bool} (h : slices_IsSortedFunc_impl_Message_impl_Message__impl_compareMessages a0 = some r) :
 FnA Try.prog 70 [.sl 0, .v (.func (.func 71) #[] #[])] [.row false (.trips a0)] [] (fun x H => x = .v (.bool r) ∧ H = [.row false (.trips a0)]) := by
 unfold slices_IsSortedFunc_impl_Message_impl_Message__impl_compareMessages at h
 refine FnA.ofA 25 [0] [.tmp 4] Try.func70 en70 ?_
 refine awp_regS ftCOk [(0, .sl 0), (1, .v (.func (.func 71) #[] #[]))] ?_
 refine awp_seq fun K20 hK20 => ?_
 replace ⟨hp0, h⟩ := chk_some h
 have hwhp0 := wrap_fits hp0.1 hp0.2
 refine awp_regS ftCOk [(0, .sl 0), (1, .v (.func (.func 71) #[] #[])), (5, .v (.int .i64 ((a0.length : Int) - 1)))] ?_
 clear hp0
 refine awp_block ?_
 replace h := bind_some h
 obtain ⟨x39, hx, h⟩ := h
 refine awp_loopL hx (fun (t5 : Int) => [(0, .sl 0), (1, .v (.func (.func 71) #[] #[])), (5, .v (.int .i64 t5))]) (fun (t5 : Int) => [.row false (.trips a0)]) (Sum.elim (fun (_ : Unit) => Exit.exit 0) (fun (_ : Unit) => Exit.ret)) (Sum.elim (fun (_ : Unit) => []) (fun (_ : Unit) => [(4, .v (.bool false))])) (Sum.elim (fun (_ : Unit) => [.row false (.trips a0)]) (fun (_ : Unit) => [.row false (.trips a0)])) ?_ ?_ ?_ ?_
 ·rintro (⟨⟩ | ⟨⟩) hy <;> cases hy
 ·clear h hx
  exact Red.auto
 ·clear h hx
  rintro t5 r h
  unfold slices_IsSortedFunc_impl_Message_impl_Message__impl_compareMessages_b0 at h
  try dsimp only at h
  try dsimp only
  refine awp_seq fun K34 hK34 => ?_
  refine awp_regS ftCOk [(0, .sl 0), (1, .v (.func (.func 71) #[] #[])), (5, .v (.int .i64 t5)), (10, .v (.bool (decide (0 < t5))))] ?_
  refine awp_cond (t := 10) rfl (fun hc35 => ?_) (fun hc35 => ?_)
  ·replace h := bite_t h hc35
   refine awp_skip ?_
   refine hK34 _ _ ?_
   clear hK34
   refine awp_seq fun K37 hK37 => ?_
   refine awp_block ?_
   replace ⟨hp0, h⟩ := chk_some h
   replace ⟨hp1, h⟩ := chk_some h
   have hwhp1 := wrap_fits hp1.1 hp1.2
   replace ⟨hp2, h⟩ := chk_some h
   refine awp_regQS mixed ftCOk [(0, .sl 0), (1, .v (.func (.func 71) #[] #[])), (5, .v (.int .i64 t5)), (24, .v (.bool (decide ((orF [cmpI (a0.getD t5.toNat (0, 0, 0)).1 (a0.getD ((t5 - 1).toNat) (0, 0, 0)).1, cmpI (a0.getD t5.toNat (0, 0, 0)).2.1 (a0.getD ((t5 - 1).toNat) (0, 0, 0)).2.1, cmpI (a0.getD t5.toNat (0, 0, 0)).2.2 (a0.getD ((t5 - 1).toNat) (0, 0, 0)).2.2]) < 0))))] ?_
   clear hp0 hp1 hp2
   refine awp_cond (t := 24) rfl (fun hc38 => ?_) (fun hc38 => ?_)
   ·replace h := bite_t h hc38
    refine awp_regS ftCOk [(4, .v (.bool false))] ?_
    refine awp_ret ?_
    (try simp only [Thn, InBlk, ↓reduceIte, Nat.reduceEqDiff])
    obtain rfl := Option.some.inj h
    refine LoopQ.out rfl ?_
    exact Red.auto
   ·replace h := bite_f h hc38
    refine awp_skip ?_
    refine hK37 _ _ ?_
    clear hK37
    replace ⟨hp0, h⟩ := chk_some h
    have hwhp0 := wrap_fits hp0.1 hp0.2
    refine awp_regES ftCOk [(0, .sl 0), (1, .v (.func (.func 71) #[] #[])), (5, .v (.int .i64 (t5 - 1)))] ?_
    clear hp0
    obtain rfl := Option.some.inj h
    refine LoopQ.next ?_
    exact Red.auto
  ·replace h := bite_f h hc35
   refine awp_exit ?_
   (try simp only [Thn, InBlk, ↓reduceIte, Nat.reduceEqDiff])
   obtain rfl := Option.some.inj h
   refine LoopQ.out rfl ?_
   exact Red.auto
 ·clear hx
  rcases x39 with (⟨⟩ | ⟨⟩)
  ·try dsimp only [Sum.elim_inl, Sum.elim_inr] at h
   try dsimp only [Sum.elim_inl, Sum.elim_inr]
   refine hK20 _ _ ?_
   clear hK20
   refine awp_regS ftCOk [(4, .v (.bool true))] ?_
   refine awp_ret ?_
   obtain rfl := Option.some.inj h
   exact finQ [0]
  ·try dsimp only [Sum.elim_inl, Sum.elim_inr] at h
   try dsimp only [Sum.elim_inl, Sum.elim_inr]
   obtain rfl := Option.some.inj h
   exact finQ [0]
theorem k_impl_inboxFits (a0 : List (Int × Int × Int)) (a1 : Int) {r : Bool} (h : impl_inboxFits a0 a1 = some r) :
 FnA Try.prog 61 [.sl 0, .v (.int .i64 a1)] [.row false (.trips a0)] [] (fun x H => x = .v (.bool r) ∧ H = [.row false (.trips a0)]) := by
 unfold impl_inboxFits at h
 refine FnA.ofA 26 [0] [.tmp 4] Try.func61 en61 ?_
 refine awp_regS ftCOk [(0, .sl 0), (1, .v (.int .i64 a1))] ?_
 refine awp_seq fun K2 hK2 => ?_
 replace ⟨y, hr0, h⟩ := bind_some h
 refine awp_to [(0, .sl 0), (1, .v (.int .i64 a1)), (14, .v (.bool ((decide (2000 < (a0.length : Int))) || (!y))))] [.row false (.trips a0)] ?_ ?_
 ·clear h
  intro K hK
  refine awp_region ftCOk ?_
  simp (maxSteps := 4000000) only [go_sem, Nat.reduceBEq, Nat.reduceLT, Nat.reduceAdd, Nat.reduceLeDiff, Nat.reduceSub, Nat.reduceEqDiff, Int.reduceToNat, reduceCtorEq, ↓reduceIte]
  repeat' (first | refine And.intro ?_ ?_ | intro hg)
  all_goals (try simp (disch := omega) only [wrap_fits])
  all_goals first
   | (refine hK _ _ ?_; exact Red.auto)
   | exact trivial
   | assumption
   | omega
   | exact wrap_fits (by omega) (by omega)
   | (refine wpA_guard rfl rfl ?_
      refine wpA_callA (k_slices_IsSortedFunc_impl_Message_impl_Message__impl_compareMessages a0 (h := (bite_t hr0 (by rw [Bool.not_eq_true']; exact (by first | assumption | (simp only [*, Bool.false_or, Bool.true_or, Bool.or_false, Bool.or_true, Bool.false_and, Bool.true_and, Bool.and_false, Bool.and_true, Bool.not_true, Bool.not_false, beq_self_eq_true]; done) | (simp_all; done)))))) [0] [] ?_
      rintro x Hc' ⟨rfl, rfl⟩ hlen
      refine vcOps_sound ftCOk ?_
      simp (maxSteps := 4000000) only [go_sem, Nat.reduceBEq, Nat.reduceLT, Nat.reduceAdd, Nat.reduceLeDiff, Nat.reduceSub, Nat.reduceEqDiff, Int.reduceToNat, reduceCtorEq, ↓reduceIte]
      repeat' (first | refine And.intro ?_ ?_ | intro hg)
      all_goals (try simp (disch := omega) only [wrap_fits])
      all_goals first | (refine hK _ _ ?_; exact Red.auto) | exact trivial | assumption | omega | exact wrap_fits (by omega) (by omega) | (simp_all; done) | (simp_all; omega))
   | (simp_all; done)
   | (simp_all; omega)
 ·clear hr0
  refine awp_cond (t := 14) rfl (fun hc3 => ?_) (fun hc3 => ?_)
  ·replace h := bite_t h hc3
   refine awp_regS ftCOk [(4, .v (.bool false))] ?_
   refine awp_ret ?_
   obtain rfl := Option.some.inj h
   exact finQ [0]
  ·replace h := bite_f h hc3
   refine awp_skip ?_
   refine hK2 _ _ ?_
   clear hK2
   refine awp_seq fun K23 hK23 => ?_
   refine awp_regS ftCOk [(1, .v (.int .i64 a1)), (15, .sl 0), (16, .v (.int .i64 (a0.length : Int))), (17, .v (.int .i64 0))] ?_
   refine awp_block ?_
   replace h := bind_some h
   obtain ⟨x42, hx, h⟩ := h
   refine awp_loopL hx (fun (t17 : Int) => [(1, .v (.int .i64 a1)), (15, .sl 0), (16, .v (.int .i64 (a0.length : Int))), (17, .v (.int .i64 t17))]) (fun (t17 : Int) => [.row false (.trips a0)]) (Sum.elim (fun (_ : Unit) => Exit.exit 0) (fun (_ : Unit) => Exit.ret)) (Sum.elim (fun (_ : Unit) => []) (fun (_ : Unit) => [(4, .v (.bool false))])) (Sum.elim (fun (_ : Unit) => [.row false (.trips a0)]) (fun (_ : Unit) => [.row false (.trips a0)])) ?_ ?_ ?_ ?_
   ·rintro (⟨⟩ | ⟨⟩) hy <;> cases hy
   ·clear h hx
    exact Red.auto
   ·clear h hx
    rintro t17 r h
    unfold impl_inboxFits_b0 at h
    try dsimp only at h
    try dsimp only
    refine awp_regS ftCOk [(1, .v (.int .i64 a1)), (15, .sl 0), (16, .v (.int .i64 (a0.length : Int))), (17, .v (.int .i64 t17)), (18, .v (.bool (decide (t17 < (a0.length : Int)))))] ?_
    refine awp_seq fun K37 hK37 => ?_
    refine awp_cond (t := 18) rfl (fun hc38 => ?_) (fun hc38 => ?_)
    ·replace h := bite_t h hc38
     refine awp_skip ?_
     refine hK37 _ _ ?_
     clear hK37
     refine awp_seq fun K40 hK40 => ?_
     refine awp_block ?_
     replace ⟨hp0, h⟩ := chk_some h
     refine awp_reg ftCOk [(1, .v (.int .i64 a1)), (6, .pp 1 0), (15, .sl 0), (16, .v (.int .i64 (a0.length : Int))), (17, .v (.int .i64 t17))] [.row false (.trips a0), .box [.v (.int .i64 ((a0.getD t17.toNat (0, 0, 0)).1)), .v (.int .i64 ((a0.getD t17.toNat (0, 0, 0)).2.1)), .v (.int .i64 ((a0.getD t17.toNat (0, 0, 0)).2.2))]] ?_
     clear hp0
     replace ⟨y_1, hr0, h⟩ := bind_some h
     refine awp_regC ftCOk [(1, .v (.int .i64 a1)), (15, .sl 0), (16, .v (.int .i64 (a0.length : Int))), (17, .v (.int .i64 t17)), (24, .v (.bool (!y_1)))] [.row false (.trips a0), .box [.v (.int .i64 ((a0.getD t17.toNat (0, 0, 0)).1)), .v (.int .i64 ((a0.getD t17.toNat (0, 0, 0)).2.1)), .v (.int .i64 ((a0.getD t17.toNat (0, 0, 0)).2.2))]] 2 [] (k_impl_messageFits ((a0.getD t17.toNat (0, 0, 0)).1) ((a0.getD t17.toNat (0, 0, 0)).2.1) ((a0.getD t17.toNat (0, 0, 0)).2.2) a1 (h := hr0)) ?_
     clear hr0
     refine awp_cond (t := 24) rfl (fun hc41 => ?_) (fun hc41 => ?_)
     ·replace h := bite_t h hc41
      refine awp_regS ftCOk [(4, .v (.bool false))] ?_
      refine awp_ret ?_
      (try simp only [Thn, InBlk, ↓reduceIte, Nat.reduceEqDiff])
      obtain rfl := Option.some.inj h
      refine LoopQ.out rfl ?_
      exact Red.selA [0] Red.auto
     ·replace h := bite_f h hc41
      refine awp_skip ?_
      refine hK40 _ _ ?_
      clear hK40
      replace ⟨hp0, h⟩ := chk_some h
      refine awp_regES ftCOk [(1, .v (.int .i64 a1)), (15, .sl 0), (16, .v (.int .i64 (a0.length : Int))), (17, .v (.int .i64 (t17 + 1)))] ?_
      clear hp0
      obtain rfl := Option.some.inj h
      refine LoopQ.next ?_
      exact Red.selA [0] Red.auto
    ·replace h := bite_f h hc38
     refine awp_exit ?_
     (try simp only [Thn, InBlk, ↓reduceIte, Nat.reduceEqDiff])
     obtain rfl := Option.some.inj h
     refine LoopQ.out rfl ?_
     exact Red.auto
   ·clear hx
    rcases x42 with (⟨⟩ | ⟨⟩)
    ·try dsimp only [Sum.elim_inl, Sum.elim_inr] at h
     try dsimp only [Sum.elim_inl, Sum.elim_inr]
     refine hK23 _ _ ?_
     clear hK23
     refine awp_regS ftCOk [(4, .v (.bool true))] ?_
     refine awp_ret ?_
     obtain rfl := Option.some.inj h
     exact finQ [0]
    ·try dsimp only [Sum.elim_inl, Sum.elim_inr] at h
     try dsimp only [Sum.elim_inl, Sum.elim_inr]
     obtain rfl := Option.some.inj h
     exact finQ [0]
theorem k_impl_StateValid (a0_0 : Int) (a0_1 : List Int) (a0_2 : List Bool) (a0_3 : List (Int × Int × Int)) (a1 : Int) {r : Bool} (h : impl_StateValid a0_0 a0_1 a0_2 a0_3 a1 = some r) :
 FnA Try.prog 48 [.agg [.v (.int .i64 a0_0), .sl 0, .sl 1, .sl 2], .v (.int .i64 a1)] [.row false (.ints .i64 a0_1), .row false (.bools a0_2), .row false (.trips a0_3)] [] (fun x H => x = .v (.bool r) ∧ H = [.row false (.ints .i64 a0_1), .row false (.bools a0_2), .row false (.trips a0_3)]) := by
 unfold impl_StateValid at h
 refine FnA.ofA 38 [0, 1, 2] [.tmp 4] Try.func48 en48 ?_
 refine awp_reg ftCOk [(1, .v (.int .i64 a1)), (2, .pp 3 0)] [.row false (.ints .i64 a0_1), .row false (.bools a0_2), .row false (.trips a0_3), .box [.v (.int .i64 a0_0), .sl 0, .sl 1, .sl 2]] ?_
 refine awp_freeze 2 (by rfl) (by rfl) (by exact rfl) ?_
 refine awp_seq fun K2 hK2 => ?_
 replace ⟨y, hr0, h⟩ := bind_some h
 refine awp_to [(1, .v (.int .i64 a1)), (2, .pp 3 0), (16, .v (.bool (((decide (a1 < 0)) || (decide (16 < a1))) || (!y))))] [.row false (.ints .i64 a0_1), .row false (.bools a0_2), .row false (.trips a0_3), .rbox [.v (.int .i64 a0_0), .sl 0, .sl 1, .sl 2]] ?_ ?_
 ·clear h
  intro K hK
  refine awp_regionA ?_
  refine wpA_cutAt 6 [(1, .v (.int .i64 a1)), (2, .pp 3 0), (10, .v (.bool ((decide (a1 < 0)) || (decide (16 < a1)))))] [.row false (.ints .i64 a0_1), .row false (.bools a0_2), .row false (.trips a0_3), .rbox [.v (.int .i64 a0_0), .sl 0, .sl 1, .sl 2]] ?_ ?_
  ·clear hK K
   intro K hK
   refine vcOps_sound ftCOk ?_
   simp (maxSteps := 4000000) only [go_sem, Nat.reduceBEq, Nat.reduceLT, Nat.reduceAdd, Nat.reduceLeDiff, Nat.reduceSub, Nat.reduceEqDiff, Int.reduceToNat, reduceCtorEq, ↓reduceIte]
   repeat' (first | refine And.intro ?_ ?_ | intro hg)
   all_goals (try simp (disch := omega) only [wrap_fits])
   all_goals first | (refine hK _ _ ?_; exact Red.auto) | exact trivial | assumption | omega | exact wrap_fits (by omega) (by omega) | (simp_all; done) | (simp_all; omega)
  refine vcOps_sound ftCOk ?_
  simp (maxSteps := 4000000) only [go_sem, Nat.reduceBEq, Nat.reduceLT, Nat.reduceAdd, Nat.reduceLeDiff, Nat.reduceSub, Nat.reduceEqDiff, Int.reduceToNat, reduceCtorEq, ↓reduceIte]
  repeat' (first | refine And.intro ?_ ?_ | intro hg)
  all_goals (try simp (disch := omega) only [wrap_fits])
  all_goals first
   | (refine hK _ _ ?_; exact Red.auto)
   | exact trivial
   | assumption
   | omega
   | exact wrap_fits (by omega) (by omega)
   | (refine wpA_guard rfl rfl ?_
      refine wpA_callA (k_impl_roundFits a0_0 (h := (bite_t hr0 (by rw [Bool.not_eq_true']; exact (by first | assumption | (simp only [*, Bool.false_or, Bool.true_or, Bool.or_false, Bool.or_true, Bool.false_and, Bool.true_and, Bool.and_false, Bool.and_true, Bool.not_true, Bool.not_false, beq_self_eq_true]; done) | (simp_all; done)))))) [] [] ?_
      rintro x Hc' ⟨rfl, rfl⟩ hlen
      refine vcOps_sound ftCOk ?_
      simp (maxSteps := 4000000) only [go_sem, Nat.reduceBEq, Nat.reduceLT, Nat.reduceAdd, Nat.reduceLeDiff, Nat.reduceSub, Nat.reduceEqDiff, Int.reduceToNat, reduceCtorEq, ↓reduceIte]
      repeat' (first | refine And.intro ?_ ?_ | intro hg)
      all_goals (try simp (disch := omega) only [wrap_fits])
      all_goals first | (refine hK _ _ ?_; exact Red.auto) | exact trivial | assumption | omega | exact wrap_fits (by omega) (by omega) | (simp_all; done) | (simp_all; omega))
   | (simp_all; done)
   | (simp_all; omega)
 ·clear hr0
  refine awp_cond (t := 16) rfl (fun hc3 => ?_) (fun hc3 => ?_)
  ·replace h := bite_t h hc3
   refine awp_regS ftCOk [(4, .v (.bool false))] ?_
   refine awp_ret ?_
   obtain rfl := Option.some.inj h
   exact finQ [0, 1, 2]
  ·replace h := bite_f h hc3
   refine awp_skip ?_
   refine hK2 _ _ ?_
   clear hK2
   refine awp_seq fun K5 hK5 => ?_
   refine awp_regS ftCOk [(1, .v (.int .i64 a1)), (2, .pp 3 0), (28, .v (.bool (((a0_1.length : Int) != a1) || ((a0_2.length : Int) != a1))))] ?_
   refine awp_cond (t := 28) rfl (fun hc6 => ?_) (fun hc6 => ?_)
   ·replace h := bite_t h hc6
    refine awp_regS ftCOk [(4, .v (.bool false))] ?_
    refine awp_ret ?_
    obtain rfl := Option.some.inj h
    exact finQ [0, 1, 2]
   ·replace h := bite_f h hc6
    refine awp_skip ?_
    refine hK5 _ _ ?_
    clear hK5
    replace ⟨y_1, hr0, h⟩ := bind_some h
    replace ⟨y_2, hr1, h⟩ := bind_some h
    refine awp_to [(4, .v (.bool (y_1 && y_2)))] [.row false (.ints .i64 a0_1), .row false (.bools a0_2), .row false (.trips a0_3), .rbox [.v (.int .i64 a0_0), .sl 0, .sl 1, .sl 2]] ?_ ?_
    ·clear h
     intro K hK
     refine awp_region ftCOk ?_
     simp (maxSteps := 4000000) only [go_sem, Nat.reduceBEq, Nat.reduceLT, Nat.reduceAdd, Nat.reduceLeDiff, Nat.reduceSub, Nat.reduceEqDiff, Int.reduceToNat, reduceCtorEq, ↓reduceIte]
     repeat' (first | refine And.intro ?_ ?_ | intro hg)
     all_goals (try simp (disch := omega) only [wrap_fits])
     all_goals first
      | (refine hK _ _ ?_; exact Red.auto)
      | exact trivial
      | assumption
      | omega
      | exact wrap_fits (by omega) (by omega)
      | (refine wpA_callA (k_impl_valuesFit a0_1 (h := hr0)) [0] [] ?_
         rintro x Hc' ⟨rfl, rfl⟩ hlen
         refine vcOps_sound ftCOk ?_
         simp (maxSteps := 4000000) only [go_sem, Nat.reduceBEq, Nat.reduceLT, Nat.reduceAdd, Nat.reduceLeDiff, Nat.reduceSub, Nat.reduceEqDiff, Int.reduceToNat, reduceCtorEq, ↓reduceIte]
         repeat' (first | refine And.intro ?_ ?_ | intro hg)
         all_goals (try simp (disch := omega) only [wrap_fits])
         all_goals first
          | (refine hK _ _ ?_; exact Red.auto)
          | exact trivial
          | assumption
          | omega
          | exact wrap_fits (by omega) (by omega)
          | (refine wpA_guard rfl rfl ?_
             refine wpA_callA (k_impl_inboxFits a0_3 a1 (h := (bite_t hr1 (by first | assumption | (simp only [*, Bool.false_or, Bool.true_or, Bool.or_false, Bool.or_true, Bool.false_and, Bool.true_and, Bool.and_false, Bool.and_true, Bool.not_true, Bool.not_false, beq_self_eq_true]; done) | (simp_all; done))))) [2] [] ?_
             rintro x Hc' ⟨rfl, rfl⟩ hlen
             refine vcOps_sound ftCOk ?_
             simp (maxSteps := 4000000) only [go_sem, Nat.reduceBEq, Nat.reduceLT, Nat.reduceAdd, Nat.reduceLeDiff, Nat.reduceSub, Nat.reduceEqDiff, Int.reduceToNat, reduceCtorEq, ↓reduceIte]
             repeat' (first | refine And.intro ?_ ?_ | intro hg)
             all_goals (try simp (disch := omega) only [wrap_fits])
             all_goals first | (refine hK _ _ ?_; exact Red.auto) | exact trivial | assumption | omega | exact wrap_fits (by omega) (by omega) | (simp_all; done) | (simp_all; omega))
          | (simp_all; done)
          | (simp_all; omega))
      | (simp_all; done)
      | (simp_all; omega)
    ·clear hr0 hr1
     refine awp_ret ?_
     obtain rfl := Option.some.inj h
     exact finQ [0, 1, 2]
theorem k_impl_State_ownValid (a0_0 : Int) (a0_1 : List Int) (a0_2 : List Bool) (a0_3 : List (Int × Int × Int)) {r : Bool} (h : impl_State_ownValid a0_0 a0_1 a0_2 a0_3 = some r) :
 FnA Try.prog 37 [.agg [.v (.int .i64 a0_0), .sl 0, .sl 1, .sl 2]] [.row false (.ints .i64 a0_1), .row false (.bools a0_2), .row false (.trips a0_3)] [] (fun x H => x = .v (.bool r) ∧ H = [.row false (.ints .i64 a0_1), .row false (.bools a0_2), .row false (.trips a0_3)]) := by
 unfold impl_State_ownValid at h
 refine FnA.ofA 8 [0, 1, 2] [.tmp 2] Try.func37 en37 ?_
 refine awp_reg ftCOk [(1, .pp 3 0)] [.row false (.ints .i64 a0_1), .row false (.bools a0_2), .row false (.trips a0_3), .box [.v (.int .i64 a0_0), .sl 0, .sl 1, .sl 2]] ?_
 refine awp_freeze 1 (by rfl) (by rfl) (by exact rfl) ?_
 replace ⟨y, hr0, h⟩ := bind_some h
 refine awp_regC ftCOk [(2, .v (.bool y))] [.row false (.ints .i64 a0_1), .row false (.bools a0_2), .row false (.trips a0_3), .rbox [.v (.int .i64 a0_0), .sl 0, .sl 1, .sl 2]] 4 [0, 1, 2] (k_impl_StateValid a0_0 a0_1 a0_2 a0_3 (a0_1.length : Int) (h := hr0)) ?_
 clear hr0
 refine awp_ret ?_
 obtain rfl := Option.some.inj h
 exact finQ [0, 1, 2]
theorem k_slices_Clone_int_int (a0 : List Int) {r : List Int} (h : slices_Clone_int_int a0 = some r) :
 FnA Try.prog 49 [.sl 0] [.row false (.ints .i64 a0)] [] (fun x H => x = .sl 1 ∧ H = [.row false (.ints .i64 a0), .row true (.ints .i64 r)]) := by
 unfold slices_Clone_int_int at h
 refine FnA.ofA 8 [0] [.tmp 2] Try.func49 en49 ?_
 refine awp_regS ftCOk [(0, .sl 0)] ?_
 refine awp_seq fun K2 hK2 => ?_
 have hboth := both_some h
 refine awp_isnil (by rfl) (by rfl) Try.underlying22 rfl rfl fun b hb => ?_
 replace h := hboth b hb
 clear hboth
 refine awp_cond (t := 4) rfl (fun hc3 => ?_) (fun hc3 => ?_)
 ·replace h := bite_t h hc3
  refine awp_regS ftCOk [(2, .v (.slice none 0 0))] ?_
  refine awp_red (Red.nil (t := 2) (.ints .i64 []) rfl rfl) ?_
  refine awp_ret ?_
  obtain rfl := Option.some.inj h
  exact finQ [0, 1]
 ·replace h := bite_f h hc3
  refine awp_skip ?_
  refine hK2 _ _ ?_
  clear hK2
  replace ⟨hp0, h⟩ := chk_some h
  refine awp_reg ftCOk [(2, .sl 1)] [.row false (.ints .i64 a0), .row true (.ints .i64 ([] ++ a0))] ?_
  clear hp0
  refine awp_ret ?_
  obtain rfl := Option.some.inj h
  exact finQ [0, 1]
theorem k_impl_Disk_copied (a0_0 : List Int) (a0_1 : List Int) {r : List Int × List Int} (h : impl_Disk_copied a0_0 a0_1 = some r) :
 FnA Try.prog 38 [.agg [.sl 0, .sl 1]] [.row false (.ints .i64 a0_0), .row false (.ints .i64 a0_1)] [] (fun x H => x = .agg [.sl 2, .sl 3] ∧ H = [.row false (.ints .i64 a0_0), .row false (.ints .i64 a0_1), .row true (.ints .i64 r.1), .row true (.ints .i64 r.2)]) := by
 unfold impl_Disk_copied at h
 refine FnA.ofA 10 [0, 1] [.cell 2 29] Try.func38 en38 ?_
 refine awp_reg ftCOk [(1, .pp 2 0), (2, .pp 3 0)] [.row false (.ints .i64 a0_0), .row false (.ints .i64 a0_1), .box [.sl 0, .sl 1], .box [.v (.slice none 0 0), .v (.slice none 0 0)]] ?_
 refine awp_freeze 1 (by rfl) (by rfl) (by exact rfl) ?_
 replace ⟨y, hr0, h⟩ := bind_some h
 replace ⟨y_1, hr1, h⟩ := bind_some h
 refine awp_to [(2, .pp 3 0)] [.row false (.ints .i64 a0_0), .row false (.ints .i64 a0_1), .rbox [.sl 0, .sl 1], .box [.sl 4, .sl 5], .row true (.ints .i64 y), .row true (.ints .i64 y_1)] ?_ ?_
 ·clear h
  intro K hK
  refine awp_drawT mixed ftCOk (.free 0 (.free 3 (.free 1 (.free 4 (.one 2 (.one 5 (.one 6 (.one 7 .fin)))))))) (by kernel_rfl) (by simp) ?_
  simp (maxSteps := 4000000) only [go_sem, Nat.reduceBEq, Nat.reduceLT, Nat.reduceAdd, Nat.reduceLeDiff, Nat.reduceSub, Nat.reduceEqDiff, Int.reduceToNat, reduceCtorEq, ↓reduceIte]
  repeat' (first | refine And.intro ?_ ?_ | intro hg)
  all_goals (try simp (disch := omega) only [wrap_fits])
  all_goals first
   | (refine hK _ _ ?_; exact Red.auto)
   | exact trivial
   | assumption
   | omega
   | exact wrap_fits (by omega) (by omega)
   | (refine OpK_callA (k_slices_Clone_int_int a0_0 (h := hr0)) [0] [] ?_
      rintro x Hc' ⟨rfl, rfl⟩ hlen
      simp (maxSteps := 4000000) only [go_sem, Nat.reduceBEq, Nat.reduceLT, Nat.reduceAdd, Nat.reduceLeDiff, Nat.reduceSub, Nat.reduceEqDiff, Int.reduceToNat, reduceCtorEq, ↓reduceIte]
      repeat' (first | refine And.intro ?_ ?_ | intro hg)
      all_goals (try simp (disch := omega) only [wrap_fits])
      all_goals first
       | (refine hK _ _ ?_; exact Red.auto)
       | exact trivial
       | assumption
       | omega
       | exact wrap_fits (by omega) (by omega)
       | (refine OpK_callA (k_slices_Clone_int_int a0_1 (h := hr1)) [1] [] ?_
          rintro x Hc' ⟨rfl, rfl⟩ hlen
          simp (maxSteps := 4000000) only [go_sem, Nat.reduceBEq, Nat.reduceLT, Nat.reduceAdd, Nat.reduceLeDiff, Nat.reduceSub, Nat.reduceEqDiff, Int.reduceToNat, reduceCtorEq, ↓reduceIte]
          repeat' (first | refine And.intro ?_ ?_ | intro hg)
          all_goals (try simp (disch := omega) only [wrap_fits])
          all_goals first
           | (refine hK _ _ ?_; exact Red.auto)
           | exact trivial
           | assumption
           | omega
           | exact wrap_fits (by omega) (by omega)
           | (simp (maxSteps := 4000000) only [go_sem, Nat.reduceBEq, Nat.reduceLT, Nat.reduceAdd, Nat.reduceLeDiff, Nat.reduceSub, Nat.reduceEqDiff, Int.reduceToNat, reduceCtorEq, ↓reduceIte]
              repeat' (first | refine And.intro ?_ ?_ | intro hg)
              all_goals (try simp (disch := omega) only [wrap_fits])
              all_goals first | (refine hK _ _ ?_; exact Red.auto) | exact trivial | assumption | omega | exact wrap_fits (by omega) (by omega))
           | (simp_all; done)
           | (simp_all; omega))
       | (simp_all; done)
       | (simp_all; omega))
   | (simp_all; done)
   | (simp_all; omega)
 ·clear hr0 hr1
  refine awp_ret ?_
  obtain rfl := Option.some.inj h
  exact finQ [0, 1, 4, 5]
theorem k_impl_EncodeNumber (a0 : Int) {r : List Int} (h : impl_EncodeNumber a0 = some r) :
 FnA Try.prog 79 [.v (.int .i64 a0)] [] [] (fun x H => x = .sl 0 ∧ H = [.row true (.ints .i64 r)]) := by
 unfold impl_EncodeNumber at h
 refine FnA.ofA 24 [] [.tmp 2] Try.func79 en79 ?_
 refine awp_regS ftCOk [(0, .v (.int .i64 a0))] ?_
 refine awp_seq fun K2 hK2 => ?_
 refine awp_regS ftCOk [(0, .v (.int .i64 a0)), (9, .v (.bool ((decide (a0 < 0)) || (decide (1000000 < a0)))))] ?_
 refine awp_cond (t := 9) rfl (fun hc3 => ?_) (fun hc3 => ?_)
 ·replace h := bite_t h hc3
  refine awp_regS ftCOk [(2, .v (.slice none 0 0))] ?_
  refine awp_red (Red.nil (t := 2) (.ints .i64 []) rfl rfl) ?_
  refine awp_ret ?_
  obtain rfl := Option.some.inj h
  exact finQ [0]
 ·replace h := bite_f h hc3
  refine awp_skip ?_
  refine hK2 _ _ ?_
  clear hK2
  refine awp_regS ftCOk [(0, .v (.int .i64 a0)), (3, .v (.slice none 0 0))] ?_
  refine awp_seq fun K17 hK17 => ?_
  refine awp_block ?_
  replace h := bind_some h
  obtain ⟨x30, hx, h⟩ := h
  refine awp_loopL hx (fun ((t0, t3s) : Int × List Int) => [(0, .v (.int .i64 t0)), (3, .sl 0)]) (fun ((t0, t3s) : Int × List Int) => [.row true (.ints .i64 t3s)]) (fun ((t0_1, t3s_1) : Int × List Int) => Exit.exit 0) (fun ((t0_1, t3s_1) : Int × List Int) => [(0, .v (.int .i64 t0_1)), (3, .sl 0)]) (fun ((t0_1, t3s_1) : Int × List Int) => [.row true (.ints .i64 t3s_1)]) ?_ ?_ ?_ ?_
  ·rintro ⟨t0_1, t3s_1⟩ hy <;> cases hy
  ·clear h hx
   refine Red.trans (Red.nil (t := 3) (.ints .i64 []) rfl rfl) ?_
   exact Red.auto
  ·clear h hx
   rintro ⟨t0, t3s⟩ r h
   unfold impl_EncodeNumber_b0 at h
   try dsimp only at h
   try dsimp only
   refine awp_seq fun K28 hK28 => ?_
   refine awp_regS ftCOk [(0, .v (.int .i64 t0)), (3, .sl 0), (11, .v (.bool (decide (128 ≤ t0))))] ?_
   refine awp_cond (t := 11) rfl (fun hc29 => ?_) (fun hc29 => ?_)
   ·replace h := bite_t h hc29
    refine awp_skip ?_
    refine hK28 _ _ ?_
    clear hK28
    refine awp_block ?_
    replace ⟨hp0, h⟩ := chk_some h
    replace ⟨hp1, h⟩ := chk_some h
    replace ⟨hp2, h⟩ := chk_some h
    refine awp_reg ftCOk [(0, .v (.int .i64 t0)), (3, .sl 0)] [.row true (.ints .i64 (t3s ++ [((t0 % 128) + 128)])), .row true (.ints .i64 [((t0 % 128) + 128)])] ?_
    clear hp0 hp1 hp2
    replace ⟨hp0, h⟩ := chk_some h
    refine awp_regES ftCOk [(0, .v (.int .i64 (t0 / 128))), (3, .sl 0)] ?_
    clear hp0
    (try simp only [Thn, InBlk, ↓reduceIte, Nat.reduceEqDiff])
    obtain rfl := Option.some.inj h
    refine LoopQ.next ?_
    exact Red.selA [0] Red.auto
   ·replace h := bite_f h hc29
    refine awp_exit ?_
    (try simp only [Thn, InBlk, ↓reduceIte, Nat.reduceEqDiff])
    obtain rfl := Option.some.inj h
    refine LoopQ.out rfl ?_
    exact Red.auto
  ·clear hx
   rcases x30 with ⟨t0_1, t3s_1⟩
   ·try dsimp only [Sum.elim_inl, Sum.elim_inr] at h
    try dsimp only [Sum.elim_inl, Sum.elim_inr]
    refine hK17 _ _ ?_
    clear hK17
    replace ⟨hp0, h⟩ := chk_some h
    refine awp_reg ftCOk [(2, .sl 0)] [.row true (.ints .i64 (t3s_1 ++ [t0_1])), .row true (.ints .i64 [t0_1])] ?_
    clear hp0
    refine awp_ret ?_
    obtain rfl := Option.some.inj h
    exact finQ [0]
theorem k_impl_numberWriter_put (a0_0 : List Int) (a1 : Int) {r : List Int} (h : impl_numberWriter_put a0_0 a1 = some r) :
 FnA Try.prog 73 [.pp 0 0, .v (.int .i64 a1)] [.box [.sl 1], .row true (.ints .i64 a0_0)] [] (fun x H => x = .tup [] ∧ H = [.box [.sl 2], .dead, .row true (.ints .i64 r)]) := by
 unfold impl_numberWriter_put at h
 refine FnA.ofA 14 [0, 1] [] Try.func73 en73 ?_
 refine awp_move 1 [(0, .pp 0 0), (1, .v (.int .i64 a1))] [.box [.sl 2], .dead, .row true (.ints .i64 a0_0)] (by rfl) (by rfl) (by exact rfl) ?_
 replace ⟨y, hr0, h⟩ := bind_some h
 replace ⟨hp1, h⟩ := chk_some h
 refine awp_end [] [.box [.sl 2], .dead, .row true (.ints .i64 (a0_0 ++ y)), .row true (.ints .i64 y)] ?_ ?_
 ·clear h
  intro K hK
  refine awp_drawP [0, 1] (by first | rfl | kernel_rfl) (by rfl) mixed ftCOk (.free 0 (.free 1 (.free 2 (.free 3 (.free 5 (.two 4 6 (.one 6 (.one 7 (.one 8 (.one 9 (.one 10 .fin))))) (.one 4 (.one 7 (.one 8 (.one 9 (.one 10 .fin))))))))))) (by kernel_rfl) (by simp) ?_
  simp (maxSteps := 4000000) only [go_sem, Nat.reduceBEq, Nat.reduceLT, Nat.reduceAdd, Nat.reduceLeDiff, Nat.reduceSub, Nat.reduceEqDiff, Int.reduceToNat, reduceCtorEq, ↓reduceIte]
  repeat' (first | refine And.intro ?_ ?_ | intro hg)
  all_goals (try simp (disch := omega) only [wrap_fits])
  all_goals first
   | (refine hK _ _ ?_; exact Red.auto)
   | exact trivial
   | assumption
   | omega
   | exact wrap_fits (by omega) (by omega)
   | (refine OpK_callA (k_impl_EncodeNumber a1 (h := hr0)) [] [] ?_
      rintro x Hc' ⟨rfl, rfl⟩ hlen
      simp (maxSteps := 4000000) only [go_sem, Nat.reduceBEq, Nat.reduceLT, Nat.reduceAdd, Nat.reduceLeDiff, Nat.reduceSub, Nat.reduceEqDiff, Int.reduceToNat, reduceCtorEq, ↓reduceIte]
      repeat' (first | refine And.intro ?_ ?_ | intro hg)
      all_goals (try simp (disch := omega) only [wrap_fits])
      all_goals first
       | (refine hK _ _ ?_; exact Red.auto)
       | exact trivial
       | assumption
       | omega
       | exact wrap_fits (by omega) (by omega)
       | (simp (maxSteps := 4000000) only [go_sem, Nat.reduceBEq, Nat.reduceLT, Nat.reduceAdd, Nat.reduceLeDiff, Nat.reduceSub, Nat.reduceEqDiff, Int.reduceToNat, reduceCtorEq, ↓reduceIte]
          repeat' (first | refine And.intro ?_ ?_ | intro hg)
          all_goals (try simp (disch := omega) only [wrap_fits])
          all_goals first | (refine hK _ _ ?_; exact Red.auto) | exact trivial | assumption | omega | exact wrap_fits (by omega) (by omega))
       | (simp_all; done)
       | (simp_all; omega))
   | (simp_all; done)
   | (simp_all; omega)
 ·clear hr0 hp1
  obtain rfl := Option.some.inj h
  exact finQ [0, 1, 2]
theorem k_impl_taggedBody (a0 : Int) (a1 : List Int) {r : List Int} (h : impl_taggedBody a0 a1 = some r) :
 FnA Try.prog 63 [.v (.int .i64 a0), .sl 0] [.row false (.ints .i64 a1)] [] (fun x H => x = .sl 1 ∧ H = [.row false (.ints .i64 a1), .row true (.ints .i64 r)]) := by
 unfold impl_taggedBody at h
 refine FnA.ofA 22 [0] [.tmp 4] Try.func63 en63 ?_
 refine awp_regS ftCOk [(0, .v (.int .i64 a0)), (1, .sl 0)] ?_
 refine awp_reg ftCOk [(1, .sl 0), (5, .pp 2 0)] [.row false (.ints .i64 a1), .row true (.ints .i64 [a0]), .box [.sl 1]] ?_
 refine awp_seq fun K14 hK14 => ?_
 refine awp_regS ftCOk [(5, .pp 2 0), (11, .sl 0), (12, .v (.int .i64 (a1.length : Int))), (13, .v (.int .i64 0))] ?_
 refine awp_block ?_
 replace h := bind_some h
 obtain ⟨t5_0s_1, hx, h⟩ := h
 refine awp_loopL hx (fun ((t13, t5_0s) : Int × List Int) => [(5, .pp 1 0), (11, .sl 0), (12, .v (.int .i64 (a1.length : Int))), (13, .v (.int .i64 t13))]) (fun ((t13, t5_0s) : Int × List Int) => [.row false (.ints .i64 a1), .box [.sl 2], .row true (.ints .i64 t5_0s)]) (fun (t5_0s_1 : List Int) => Exit.exit 0) (fun (t5_0s_1 : List Int) => [(5, .pp 1 0)]) (fun (t5_0s_1 : List Int) => [.row false (.ints .i64 a1), .box [.sl 2], .row true (.ints .i64 t5_0s_1)]) ?_ ?_ ?_ ?_
 ·rintro t5_0s_1 hy <;> cases hy
 ·clear h hx
  exact Red.selA [0, 2, 1] Red.auto
 ·clear h hx
  rintro ⟨t13, t5_0s⟩ r h
  unfold impl_taggedBody_b0 at h
  try dsimp only at h
  try dsimp only
  refine awp_regS ftCOk [(5, .pp 1 0), (11, .sl 0), (12, .v (.int .i64 (a1.length : Int))), (13, .v (.int .i64 t13)), (14, .v (.bool (decide (t13 < (a1.length : Int)))))] ?_
  refine awp_seq fun K24 hK24 => ?_
  refine awp_cond (t := 14) rfl (fun hc25 => ?_) (fun hc25 => ?_)
  ·replace h := bite_t h hc25
   refine awp_skip ?_
   refine hK24 _ _ ?_
   clear hK24
   refine awp_seq fun K26 hK26 => ?_
   refine awp_block ?_
   replace ⟨hp0, h⟩ := chk_some h
   refine awp_regS ftCOk [(5, .pp 1 0), (7, .v (.int .i64 (a1.getD t13.toNat 0))), (11, .sl 0), (12, .v (.int .i64 (a1.length : Int))), (13, .v (.int .i64 t13))] ?_
   clear hp0
   replace ⟨y, hr0, h⟩ := bind_some h
   refine awp_regEC ftCOk [(5, .pp 1 0), (11, .sl 0), (12, .v (.int .i64 (a1.length : Int))), (13, .v (.int .i64 t13))] [.row false (.ints .i64 a1), .box [.sl 3], .dead, .row true (.ints .i64 y)] 1 [1, 2] (k_impl_numberWriter_put t5_0s (a1.getD t13.toNat 0) (h := hr0)) ?_
   clear hr0
   refine hK26 _ _ ?_
   clear hK26
   replace ⟨hp0, h⟩ := chk_some h
   refine awp_regES ftCOk [(5, .pp 1 0), (11, .sl 0), (12, .v (.int .i64 (a1.length : Int))), (13, .v (.int .i64 (t13 + 1)))] ?_
   clear hp0
   obtain rfl := Option.some.inj h
   refine LoopQ.next ?_
   exact Red.selA [0, 1, 3] Red.auto
  ·replace h := bite_f h hc25
   refine awp_exit ?_
   (try simp only [Thn, InBlk, ↓reduceIte, Nat.reduceEqDiff])
   obtain rfl := Option.some.inj h
   refine LoopQ.out rfl ?_
   exact Red.auto
 ·clear hx
  skip
  ·try dsimp only [Sum.elim_inl, Sum.elim_inr] at h
   try dsimp only [Sum.elim_inl, Sum.elim_inr]
   refine hK14 _ _ ?_
   clear hK14
   refine awp_regS ftCOk [(4, .sl 2)] ?_
   refine awp_ret ?_
   obtain rfl := Option.some.inj h
   exact finQ [0, 2]
end Go.Proofs.Yteoedigfnfjopaa
