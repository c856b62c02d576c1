/- The code computes the functions that were taken out of it. -/
import Derived.Test.YteoedigfnfjopaaGreatLaD
import Derived.Test.YteoedigfnfjopaaGreatAvWt
set_option maxRecDepth 100000
set_option maxHeartbeats 4000000
set_option linter.unusedSimpArgs false
set_option linter.unusedVariables false
namespace Go.Proofs.YteoedigfnfjopaaGreat
open Go Go.Av
attribute [local irreducible] wpA OpK awp OpKI
attribute [go_sem] vcCalls vcCall List.take_succ_cons List.take_zero List.drop_succ_cons List.drop_zero frs_nil frs_cons pw8_32 pw16_32 pw24_32 pw27_32 strQ eqAgg eqAggV buildQ placesOf buildCells List.toList_toArray vcQg gfind gfree gput un3_agg unI_int unB_bool unK_int guardU skipV resVs resV vcD_nil vcD_cons vcT_fin vcT_free vcT_one vcT_two opS vcD1 roH roOb ftNone ftAdd oneOrTup AV.detup AV.ren AV.ren2 AV.ren1 pos selH AObj.ren fitAll fit fit1 fit1s matchAll matchOb exIds AObj.excl Env.killp pastH setAll upId AObj.past AObj.back AV.killp AV.killp1 AV.killp2 Nat.sub_self Nat.lt_irrefl Bool.or_self vcOps vcOp vcQs vcQ dstOk quiet eff pcall calleeF plain valsOf ev ofConst argEnv List.lookup Nat.add_eq decide_true decide_false Env.put binV quoC isTwo_2 isTwo_1 isTwo_3 isTwo_4 isTwo_5 isTwo_6 isTwo_7 isTwo_8 isTwo_9 isTwo_10 isTwo_11 isTwo_12 isTwo_13 isTwo_14 isTwo_15 isTwo_16 isTwo_17 isTwo_20 isTwo_24 isTwo_32 isTwo_60 isTwo_64 isTwo_100 isTwo_128 isTwo_256 isTwo_1000 wrapTo unV convV loadQ indexQ callQ builtinQ rd rdI globC AObj.globC partAV isAggD isArrayD addrAdd boxE storeE storeXE storeCE storeGE storeFE storeAE storeHE allocAE buildME appendME lookupQ lookupI mapUpE mapUpI mapZ plainVs isIfaceD ifaceQ assertQ List.all_cons aggQ arrD arrL arrL_map arrV makeE makeXE makeNE makeGE buildXE buildNE buildGE nestZero Cont.child Cont.setChild buildSliceE buildFold appendE appendXE appendNE appendGE Cont.setG nestApp appendV promoteH sliceE boundAV subObj asCells Value.oneCell' contZero Cont.sets Cont.app Cont.sub Cont.len Cont.esz Cont.cell Cont.cells Cont.flat AV.det AV.det1 guardV AObj.unview AObj.kill Env.kill AV.kill AV.kill1 AV.kill2 fits64 Option.getD_some Option.getD_none Option.map_some Option.map_none Option.bind_some List.map_cons List.map_nil List.getElem?_cons_zero List.getElem?_cons_succ List.getElem?_nil true_and and_true and_false false_and List.getElem?_toArray List.cons_append List.nil_append List.length_cons List.length_nil List.set_cons_zero List.set_cons_succ List.take_succ_cons List.take_zero List.drop_succ_cons List.drop_zero List.drop_nil List.take_nil List.contains_cons List.contains_nil List.elem_cons List.elem_nil Bool.not_true Bool.not_false Bool.false_eq_true Bool.or_false Bool.or_true Bool.and_true Bool.and_false Bool.true_and Bool.false_and List.all_cons List.all_nil List.size_toArray Nat.lt_add_one Nat.zero_lt_succ Nat.one_ne_zero Nat.zero_ne_one and_self List.replicate_succ List.replicate_zero Int.toNat_natCast Int.toNat_zero Value.cells false_implies true_implies forall_const Thn InBlk Nat.zero_add Nat.add_zero Int.zero_add Ele Env.ren Option.some.injEq AV.v.injEq AV.sl.injEq AV.pp.injEq AV.ep.injEq AV.agg.injEq List.cons.injEq Value.int.injEq Value.bool.injEq Value.string.injEq true_or or_true or_false false_or guardOk evN pastY deadAll AObj.gone List.foldl_cons List.foldl_nil List.contains_cons List.contains_nil Tryz.underlying0 Tryz.underlying1 Tryz.underlying2 Tryz.underlying3 Tryz.underlying4 Tryz.underlying5 Tryz.underlying6 Tryz.underlying7 Tryz.underlying8 Tryz.underlying9 Tryz.underlying10 Tryz.underlying12 Tryz.underlying16 Tryz.underlying17 Tryz.underlying20 Tryz.underlying21 Tryz.underlying22 Tryz.underlying23 Tryz.underlying24 Tryz.underlying25 Tryz.underlying26 Tryz.underlying27 Tryz.underlying29 Tryz.underlying30 Tryz.underlying31 Tryz.underlying32 Tryz.underlying35 Tryz.underlying37 Tryz.underlying40 Tryz.underlying44 Tryz.underlying46 Tryz.underlying50 Tryz.underlying52 Tryz.underlying53 Tryz.underlying54 Tryz.underlying55 Tryz.underlying56 Tryz.underlying57 Tryz.underlying66 Tryz.underlying67 Tryz.underlying72 Tryz.underlying73 Tryz.underlying74 Tryz.underlying78 Tryz.underlying79 Tryz.underlying89 Tryz.underlying90 Tryz.underlying91 Tryz.underlying97 Tryz.underlying98 Tryz.underlying99 Tryz.underlying100 Tryz.underlying101 Tryz.underlying102 Tryz.underlying103 Tryz.underlying104 Tryz.underlying105 Tryz.underlying108 Tryz.underlying110 Tryz.underlying111 Tryz.underlying114 Tryz.underlying115 Tryz.underlying116 Tryz.underlying117 Tryz.underlying118 Tryz.underlying119 Tryz.underlying122 Tryz.underlying123 Tryz.underlying131 Tryz.underlying133 Tryz.underlying135 Tryz.underlying136 Tryz.underlying145 Tryz.underlying146 Tryz.underlying147 Tryz.underlying149 Tryz.underlying150 Tryz.underlying151 Tryz.underlying152 Tryz.underlying153 Tryz.underlying154 Tryz.underlying155 Tryz.underlying156 Tryz.underlying157 Tryz.underlying158 l1InG l4BeforeG isNaNG cmpIntG cmpMsgG ftC tf0 tf1 tf2 tf3 tf4 tf5 tf6 tf7 tf8
theorem vc2 {p : Prop} (h : p := by
  simp (maxSteps := 4000000) only [go_sem, Nat.reduceBEq, Nat.reduceLT, Nat.reduceAdd, Nat.reduceLeDiff, Nat.reduceSub, Nat.reduceEqDiff, Int.reduceToNat, reduceCtorEq, ↓reduceIte, hb1, hb1d, hb2, hb2d, Nat.reduceBEq, Nat.reduceLT, Nat.reduceAdd, Nat.reduceLeDiff, Nat.reduceSub, Nat.reduceEqDiff, Int.reduceToNat, reduceCtorEq, ↓reduceIte]
  repeat' (first | refine And.intro ?_ ?_ | intro hg | (simp (disch := omega) only [wrap_fits]) | (refine iw ?_; (first | (refine wcM c0 ?_) | (refine wpA_guard rfl rfl ?_; refine wcM (cg c0) ?_) | (refine wpA_guard rfl rfl ?_; refine wcM (cg (cg c0)) ?_) | (refine wpA_guard rfl rfl ?_; refine wcM c0 ?_) | (refine wcM c1 ?_) | (refine wpA_guard rfl rfl ?_; refine wcM (cg c1) ?_) | (refine wpA_guard rfl rfl ?_; refine wcM (cg (cg c1)) ?_) | (refine wpA_guard rfl rfl ?_; refine wcM c1 ?_) | (refine wcM c2 ?_) | (refine wpA_guard rfl rfl ?_; refine wcM (cg c2) ?_) | (refine wpA_guard rfl rfl ?_; refine wcM (cg (cg c2)) ?_) | (refine wpA_guard rfl rfl ?_; refine wcM c2 ?_) | (refine wcM c3 ?_) | (refine wpA_guard rfl rfl ?_; refine wcM (cg c3) ?_) | (refine wpA_guard rfl rfl ?_; refine wcM (cg (cg c3)) ?_) | (refine wpA_guard rfl rfl ?_; refine wcM c3 ?_) | (refine wcM c4 ?_) | (refine wpA_guard rfl rfl ?_; refine wcM (cg c4) ?_) | (refine wpA_guard rfl rfl ?_; refine wcM (cg (cg c4)) ?_) | (refine wpA_guard rfl rfl ?_; refine wcM c4 ?_) | (refine wcM c5 ?_) | (refine wpA_guard rfl rfl ?_; refine wcM (cg c5) ?_) | (refine wpA_guard rfl rfl ?_; refine wcM (cg (cg c5)) ?_) | (refine wpA_guard rfl rfl ?_; refine wcM c5 ?_) | (refine wpA_guard rfl rfl ?_; refine wcM (cg (cg (cg c0))) ?_) | (refine wpA_here d0 ?_)); rintro x Hc' ⟨rfl, rfl⟩ hlen; refine vcOps_sound ftCOk ?_; simp (maxSteps := 4000000) only [go_sem, Nat.reduceBEq, Nat.reduceLT, Nat.reduceAdd, Nat.reduceLeDiff, Nat.reduceSub, Nat.reduceEqDiff, Int.reduceToNat, reduceCtorEq, ↓reduceIte, hb1, hb1d, hb2, hb2d, Nat.reduceBEq, Nat.reduceLT, Nat.reduceAdd, Nat.reduceLeDiff, Nat.reduceSub, Nat.reduceEqDiff, Int.reduceToNat, reduceCtorEq, ↓reduceIte]) | (refine io ?_; (first | (refine ocM c0 ?_) | (refine ocM (cg c0) ?_) | (refine ocM (cg (cg c0)) ?_) | (refine ocM c1 ?_) | (refine ocM (cg c1) ?_) | (refine ocM (cg (cg c1)) ?_) | (refine ocM c2 ?_) | (refine ocM (cg c2) ?_) | (refine ocM (cg (cg c2)) ?_) | (refine ocM c3 ?_) | (refine ocM (cg c3) ?_) | (refine ocM (cg (cg c3)) ?_) | (refine ocM c4 ?_) | (refine ocM (cg c4) ?_) | (refine ocM (cg (cg c4)) ?_) | (refine ocM c5 ?_) | (refine ocM (cg c5) ?_) | (refine ocM (cg (cg c5)) ?_) | (refine ocM (cg (cg (cg c0))) ?_) | (refine OpK_here d0 ?_)); rintro x Hc' ⟨rfl, rfl⟩ hlen; simp (maxSteps := 4000000) only [go_sem, Nat.reduceBEq, Nat.reduceLT, Nat.reduceAdd, Nat.reduceLeDiff, Nat.reduceSub, Nat.reduceEqDiff, Int.reduceToNat, reduceCtorEq, ↓reduceIte, hb1, hb1d, hb2, hb2d, Nat.reduceBEq, Nat.reduceLT, Nat.reduceAdd, Nat.reduceLeDiff, Nat.reduceSub, Nat.reduceEqDiff, Int.reduceToNat, reduceCtorEq, ↓reduceIte]) | exact al0 | contradiction | (simp only [List.length_nil, List.length_append]; omega) | (have hq := hp0 byg; omega) | (have hq := hp0 byg byg; omega) | (have hq := hp1 byg; omega) | (have hq := hp1 byg byg; omega) | (have hq := hp2 byg; omega) | (have hq := hp2 byg byg; omega) | (have hq := hp3 byg; omega) | (have hq := hp3 byg byg; omega) | (have hq := hp4 byg; omega) | (have hq := hp4 byg byg; omega) | (have hq := hp5 byg; omega) | (have hq := hp5 byg byg; omega) | (have hq := hp6 byg; omega) | (have hq := hp6 byg byg; omega) | (have hq := hp7 byg; omega) | (have hq := hp7 byg byg; omega) | (have hq := hp8 byg; omega) | (have hq := hp8 byg byg; omega) | (have hq := hp9 byg; omega) | (have hq := hp9 byg byg; omega) | (simp (maxSteps := 4000000) only [go_sem, Nat.reduceBEq, Nat.reduceLT, Nat.reduceAdd, Nat.reduceLeDiff, Nat.reduceSub, Nat.reduceEqDiff, Int.reduceToNat, reduceCtorEq, ↓reduceIte, hb1, hb1d, hb2, hb2d, Nat.reduceBEq, Nat.reduceLT, Nat.reduceAdd, Nat.reduceLeDiff, Nat.reduceSub, Nat.reduceEqDiff, Int.reduceToNat, reduceCtorEq, ↓reduceIte]) | exact al1)) : p := h
theorem au1 {p : Prop} (h : p := by
 simp (maxSteps := 4000000) only [go_sem, Nat.reduceBEq, Nat.reduceLT, Nat.reduceAdd, Nat.reduceLeDiff, Nat.reduceSub, Nat.reduceEqDiff, Int.reduceToNat, reduceCtorEq, ↓reduceIte, hb1, hb1d]
 repeat' (first | refine And.intro ?_ ?_ | intro hg)
 all_goals (try simp (disch := omega) only [wrap_fits])
 all_goals first | (refine hL.red ?_ nn; exact Red.auto) | exact al0) : p := h
theorem au2 {p : Prop} (h : p := by
 simp (maxSteps := 4000000) only [go_sem, Nat.reduceBEq, Nat.reduceLT, Nat.reduceAdd, Nat.reduceLeDiff, Nat.reduceSub, Nat.reduceEqDiff, Int.reduceToNat, reduceCtorEq, ↓reduceIte, hb1, hb1d, hb2, hb2d]
 repeat' (first | refine And.intro ?_ ?_ | intro hg)
 all_goals (try simp (disch := omega) only [wrap_fits])
 all_goals first | (refine hL.red ?_ nn; exact Red.auto) | exact al0) : p := h
theorem au3 {p : Prop} (h : p := by
 simp (maxSteps := 4000000) only [go_sem, Nat.reduceBEq, Nat.reduceLT, Nat.reduceAdd, Nat.reduceLeDiff, Nat.reduceSub, Nat.reduceEqDiff, Int.reduceToNat, reduceCtorEq, ↓reduceIte]
 repeat' (first | refine And.intro ?_ ?_ | intro hg)
 all_goals (try simp (disch := omega) only [wrap_fits])
 all_goals first | (refine hL.red ?_ nn; exact Red.auto) | exact al0) : p := h
theorem au4 {p : Prop} (h : p := by
 simp (maxSteps := 4000000) only [go_sem, Nat.reduceBEq, Nat.reduceLT, Nat.reduceAdd, Nat.reduceLeDiff, Nat.reduceSub, Nat.reduceEqDiff, Int.reduceToNat, reduceCtorEq, ↓reduceIte]
 repeat' (first | refine And.intro ?_ ?_ | intro hg)
 all_goals (try simp (disch := omega) only [wrap_fits])
 all_goals first | (refine hK _ _ ?_; exact Red.selA [0, 1, 2, 3, 4, 5, 6, 7, 8, 9, 10, 11, 12, 13, 14, 15] Red.auto) | exact al0) : p := h
theorem au5 {p : Prop} (h : p := by
 simp (maxSteps := 4000000) only [go_sem, Nat.reduceBEq, Nat.reduceLT, Nat.reduceAdd, Nat.reduceLeDiff, Nat.reduceSub, Nat.reduceEqDiff, Int.reduceToNat, reduceCtorEq, ↓reduceIte]
 repeat' (first | refine And.intro ?_ ?_ | intro hg)
 all_goals (try simp (disch := omega) only [wrap_fits])
 all_goals first | exact al0 | contradiction | (simp only [List.length_nil, List.length_append]; omega) | exact al1) : p := h
theorem au8 {p : Prop} (h : p := by
 simp (maxSteps := 4000000) only [go_sem, Nat.reduceBEq, Nat.reduceLT, Nat.reduceAdd, Nat.reduceLeDiff, Nat.reduceSub, Nat.reduceEqDiff, Int.reduceToNat, reduceCtorEq, ↓reduceIte]
 repeat' (first | refine And.intro ?_ ?_ | intro hg)
 all_goals (try simp (disch := omega) only [wrap_fits])
 all_goals first
  | exact al0
  | (refine wpA_guard rfl rfl ?_
     refine wpA_callA (k_spec_GraphValid (bite_t hr0 byg)) [0] [] ?_
     rintro x Hc' ⟨rfl, rfl⟩ hlen
     refine vcOps_sound ftCOk ?_
     exact auV)
  | exact al1) : p := h
theorem au12 {p : Prop} (h : p := by
 simp (maxSteps := 4000000) only [go_sem, Nat.reduceBEq, Nat.reduceLT, Nat.reduceAdd, Nat.reduceLeDiff, Nat.reduceSub, Nat.reduceEqDiff, Int.reduceToNat, reduceCtorEq, ↓reduceIte]
 repeat' (first | refine And.intro ?_ ?_ | intro hg)
 all_goals (try simp (disch := omega) only [wrap_fits])
 all_goals first
  | exact al0
  | (refine OpYA (hY _ _ _ _ hr1) 0 [6] [6] ?_
     rintro b Φ' ⟨rfl, rfl⟩
     refine vcOps_sound ftCOk ?_
     exact auV)
  | exact al1) : p := h
theorem au13 {p : Prop} (h : p := by
 simp (maxSteps := 4000000) only [go_sem, Nat.reduceBEq, Nat.reduceLT, Nat.reduceAdd, Nat.reduceLeDiff, Nat.reduceSub, Nat.reduceEqDiff, Int.reduceToNat, reduceCtorEq, ↓reduceIte, hb1, hb1d]
 repeat' (first | refine And.intro ?_ ?_ | intro hg)
 all_goals (try simp (disch := omega) only [wrap_fits])
 all_goals first
  | (refine hL.red ?_ nn; exact Red.auto)
  | exact al0
  | (exact au1)
  | exact al1) : p := h
theorem au14 {p : Prop} (h : p := by
 simp (maxSteps := 4000000) only [go_sem, Nat.reduceBEq, Nat.reduceLT, Nat.reduceAdd, Nat.reduceLeDiff, Nat.reduceSub, Nat.reduceEqDiff, Int.reduceToNat, reduceCtorEq, ↓reduceIte, hb1, hb1d, hb2, hb2d]
 repeat' (first | refine And.intro ?_ ?_ | intro hg)
 all_goals (try simp (disch := omega) only [wrap_fits])
 all_goals first
  | (refine hL.red ?_ nn; exact Red.auto)
  | exact al0
  | (exact au2)
  | exact al1) : p := h
theorem au15 {p : Prop} (h : p := by
 simp (maxSteps := 4000000) only [go_sem, Nat.reduceBEq, Nat.reduceLT, Nat.reduceAdd, Nat.reduceLeDiff, Nat.reduceSub, Nat.reduceEqDiff, Int.reduceToNat, reduceCtorEq, ↓reduceIte]
 repeat' (first | refine And.intro ?_ ?_ | intro hg)
 all_goals (try simp (disch := omega) only [wrap_fits])
 all_goals first
  | (refine hK _ _ ?_; exact Red.selA [0, 1, 2, 3, 4, 5, 6, 7, 8, 9, 10, 11, 12, 13, 14, 15] Red.auto)
  | exact al0
  | (exact au4)
  | exact al1) : p := h
theorem au16 {p : Prop} (h : p := by
 simp (maxSteps := 4000000) only [go_sem, Nat.reduceBEq, Nat.reduceLT, Nat.reduceAdd, Nat.reduceLeDiff, Nat.reduceSub, Nat.reduceEqDiff, Int.reduceToNat, reduceCtorEq, ↓reduceIte]
 repeat' (first | refine And.intro ?_ ?_ | intro hg)
 all_goals (try simp (disch := omega) only [wrap_fits])
 all_goals first
  | (refine hL.red ?_ nn; exact Red.auto)
  | exact al0
  | (exact au3)
  | exact al1) : p := h
theorem au17 {p : Prop} (h : p := by
 simp (maxSteps := 4000000) only [go_sem, Nat.reduceBEq, Nat.reduceLT, Nat.reduceAdd, Nat.reduceLeDiff, Nat.reduceSub, Nat.reduceEqDiff, Int.reduceToNat, reduceCtorEq, ↓reduceIte]
 repeat' (first | refine And.intro ?_ ?_ | intro hg)
 all_goals (try simp (disch := omega) only [wrap_fits])
 all_goals first
  | (refine hK _ _ ?_; exact Red.selA [0, 1, 2, 3, 4, 5, 6, 7, 8, 9, 10, 11, 12, 13, 14, 15] Red.auto)
  | exact al0
  | (refine OpK_callA (k_laws_sameRecords (bite_t hr3 byg)) [16, 17] [] ?_
     rintro x Hc' ⟨rfl, rfl⟩ hlen
     exact au15)
  | exact al1) : p := h
theorem au18 {p : Prop} (h : p := by
 simp (maxSteps := 4000000) only [go_sem, Nat.reduceBEq, Nat.reduceLT, Nat.reduceAdd, Nat.reduceLeDiff, Nat.reduceSub, Nat.reduceEqDiff, Int.reduceToNat, reduceCtorEq, ↓reduceIte]
 repeat' (first | refine And.intro ?_ ?_ | intro hg)
 all_goals (try simp (disch := omega) only [wrap_fits])
 all_goals first
  | (refine hK _ _ ?_; exact Red.selA [0, 1, 2, 3, 4, 5, 6, 7, 8, 9, 10, 11, 12, 13, 14, 15] Red.auto)
  | exact al0
  | (refine OpK_callA (k_impl_StateBodies (bite_t hr2 byg)) [1, 2, 3] [] ?_
     rintro x Hc' ⟨rfl, rfl⟩ hlen
     exact au17)
  | (refine OpK_callA (k_laws_sameRecords (bite_t hr3 byg)) [16, 17] [] ?_
     rintro x Hc' ⟨rfl, rfl⟩ hlen
     exact au15)
  | exact al1) : p := h
theorem k_slices_Grow_int_int (n : Int) {r : List Int} (h : slices_Grow_int_int n = some r) :
 FnA Tryz.prog 82 [nV, iV n] [] [] (fun x H => x = .sl 0 ∧ H = [oI r]) := by
 unfold slices_Grow_int_int at h
 obtain ⟨h1, h⟩ := chk_some h
 simp only [Option.some.injEq] at h
 subst h
 exact grow_nil Go.Proofs.growL rfl en82 _ rfl rfl rfl rfl n h1.1 h1.2
theorem k_spec_l20Rd_pick {a0_0 a0_1 a1 r} (h : spec_l20Rd_pick a0_0 a0_1 a1 = some r) : KA Tryz.prog 46 [.pp 0 0, iV a1] [.box [.sl 1, iV a0_1], rY a0_0] (iV r.1) [.box [.sl 1, iV r.2], rY a0_0] := by
 unfold spec_l20Rd_pick at h
 refine FnA.ofA 99 [0, 1] [.tmp 4] Tryz.func46 en46 ?_
 refine rg [] [] ?_
 replace ⟨p, h⟩ := k1 h
 refine rm [] [] [(0, .box [.sl 1, iV (a0_1 + 1)])] [] ?_
 refine awp_seq fun K2 hK2 => ?_
 refine rg [] [(24, bV ((decide (a1 < 1)) || ((a0_0.length : Int) == 0)))] ?_
 refine awp_if h ?_ ?_ <;> intro hc h
 ·refine rg [0, 1, 24] [(4, iV 0)] ?_
  exact fr [0, 1]
 refine sk hK2 ?_
 replace ⟨p, h⟩ := k1 h
 refine rg [24] [(5, iV ((a0_1 + 1) - 1))] ?_
 refine awp_seq fun K5 hK5 => ?_
 refine rg [] [(36, bV (decide (((a0_1 + 1) - 1) < (a0_0.length : Int))))] ?_
 refine awp_if h ?_ ?_ <;> intro hc h
 ·replace ⟨p, h⟩ := k3 h
  refine rg [0, 1, 5, 36] [(4, iV ((a0_0.getD (((a0_1 + 1) - 1).toNat) 0) % a1))] ?_
  exact fr [0, 1]
 refine sk hK5 ?_
 replace ⟨p, h⟩ := k8 h
 replace ⟨pa, h⟩ := k8 h
 refine qg [0, 5, 36] [(6, iV (((((a0_0.getD ((((a0_1 + 1) - 1) % (a0_0.length : Int)).toNat) 0) * 131) + ((a0_0.getD ((((((a0_1 + 1) - 1) * 7) + 3) % (a0_0.length : Int)).toNat) 0) * 1117)) + (((a0_1 + 1) - 1) * 29)) + ((((a0_1 + 1) - 1) / (a0_0.length : Int)) * 53)))] ?_
 replace ⟨p, h⟩ := k1 h
 refine rg [6] [(6, iV (bitsV .xor .i64 (((((a0_0.getD ((((a0_1 + 1) - 1) % (a0_0.length : Int)).toNat) 0) * 131) + ((a0_0.getD ((((((a0_1 + 1) - 1) * 7) + 3) % (a0_0.length : Int)).toNat) 0) * 1117)) + (((a0_1 + 1) - 1) * 29)) + ((((a0_1 + 1) - 1) / (a0_0.length : Int)) * 53)) ((((((a0_0.getD ((((a0_1 + 1) - 1) % (a0_0.length : Int)).toNat) 0) * 131) + ((a0_0.getD ((((((a0_1 + 1) - 1) * 7) + 3) % (a0_0.length : Int)).toNat) 0) * 1117)) + (((a0_1 + 1) - 1) * 29)) + ((((a0_1 + 1) - 1) / (a0_0.length : Int)) * 53)) / 64)))] ?_
 replace ⟨p, h⟩ := k1 h
 refine rg [1, 6] [(4, iV ((bitsV .xor .i64 (((((a0_0.getD ((((a0_1 + 1) - 1) % (a0_0.length : Int)).toNat) 0) * 131) + ((a0_0.getD ((((((a0_1 + 1) - 1) * 7) + 3) % (a0_0.length : Int)).toNat) 0) * 1117)) + (((a0_1 + 1) - 1) * 29)) + ((((a0_1 + 1) - 1) / (a0_0.length : Int)) * 53)) ((((((a0_0.getD ((((a0_1 + 1) - 1) % (a0_0.length : Int)).toNat) 0) * 131) + ((a0_0.getD ((((((a0_1 + 1) - 1) * 7) + 3) % (a0_0.length : Int)).toNat) 0) * 1117)) + (((a0_1 + 1) - 1) * 29)) + ((((a0_1 + 1) - 1) / (a0_0.length : Int)) * 53)) / 64)) % a1))] ?_
 exact fr [0, 1]
theorem k_spec_l20Edge {a0_0 a0_1 a1 r} (h : spec_l20Edge a0_0 a0_1 a1 = some r) : KA Tryz.prog 70 [.pp 0 0, iV a1] [.box [.sl 1, iV a0_1], rY a0_0] (.agg [iV r.1, iV r.2.1, iV r.2.2.1]) [.box [.sl 1, iV r.2.2.2], rY a0_0] := by
 unfold spec_l20Edge at h
 refine FnA.ofA 21 [0, 1] [.cell 4 105] Tryz.func70 en70 ?_
 refine rm [] [(4, .pp 2 0)] [] [.box [iV 0, iV 0, iV 0]] ?_
 replace ⟨y, y_1, hr0, h⟩ := bd2 h
 replace ⟨y_2, y_3, hr1, h⟩ := bd2 h
 replace ⟨y_4, y_5, hr2, h⟩ := bd2 h
 replace ⟨y_6, y_7, hr3, h⟩ := bd2 h
 replace ⟨p, h⟩ := k1 h
 refine rc [0, 1] [] [(0, .box [.sl 1, iV y_7]), (1, .box [iV y, iV y_2, iV (([y_4, 0, 1, 20] : List Int).getD y_6.toNat 0)])] [oI [y_4, 0, 1, 20]] [⟨3, [0, 1], k_spec_l20Rd_pick hr0⟩, ⟨3, [0, 1], k_spec_l20Rd_pick hr1⟩, ⟨1, [0, 1], k_spec_l20Rd_pick hr2⟩, ⟨2, [0, 1], k_spec_l20Rd_pick hr3⟩] ?_
 exact fr [0, 1]
theorem k_spec_l1OwnGraph {a0_0 a0_1 r} (h : spec_l1OwnGraph a0_0 a0_1 = some r) : KA Tryz.prog 72 [.agg [iV a0_0, .sl 0]] [rT a0_1] (.agg [iV r.1, .sl 1]) [rT a0_1, oT r.2] := by
 unfold spec_l1OwnGraph at h
 refine FnA.ofA 11 [0] [.cell 2 54] Tryz.func72 en72 ?_
 refine rm [0] [(1, .pp 1 0), (2, .pp 2 0)] [] [.box [iV a0_0, .sl 0], .box [iV 0, nV]] ?_
 refine fz 1 ?_
 refine rm [] [(3, .pp 3 0)] [] [.box [iV a0_0, .sl 0]] ?_
 replace ⟨p, h⟩ := k1 h
 refine rm [1] [] [(3, .box [iV a0_0, .sl 4])] [oT ([] ++ a0_1)] ?_
 refine rm [3] [] [(2, .box [iV a0_0, .sl 4])] [] ?_
 exact fr [0, 4]
theorem k_spec_GraphValid {a0_0 a0_1 r} (h : spec_GraphValid a0_0 a0_1 = some r) : KA Tryz.prog 73 [.agg [iV a0_0, .sl 0]] [rT a0_1] (bV r) [rT a0_1] := by
 unfold spec_GraphValid at h
 refine FnA.ofA 70 [0] [.tmp 2] Tryz.func73 en73 ?_
 refine rm [0] [(1, .pp 1 0)] [] [.box [iV a0_0, .sl 0]] ?_
 refine fz 1 ?_
 refine awp_seq fun K20 hK20 => ?_
 refine rg [] [(3, iV 0)] ?_
 refine awp_block ?_
 refine lp2 h (fun t3 => [(1, .pp 1 0), (3, iV t3)]) (fun t3 => [rT a0_1, .rbox [iV a0_0, .sl 0]]) (fun _ => Exit.exit 0) (fun _ => [(1, .pp 1 0)]) (fun _ => [rT a0_1, .rbox [iV a0_0, .sl 0]]) (fun _ => Exit.ret) (fun _ => [(2, bV false)]) (fun _ => [rT a0_1]) ?_ ?_ ?_
 ·rintro t3 r h
  unfold spec_GraphValid_b0 at h
  try dsimp only
  refine awp_seq fun K34 hK34 => ?_
  refine rg [] [(9, bV (decide (t3 < (a0_1.length : Int))))] ?_
  refine awp_if h ?_ ?_ <;> intro hc h
  ·refine sk hK34 ?_
   refine awp_seq fun K37 hK37 => ?_
   refine awp_block ?_
   replace ⟨p, h⟩ := k1 h
   refine rm [9] [(4, .pp 2 0)] [] [.box [iV ((a0_1.getD t3.toNat (0, 0, 0)).1), iV ((a0_1.getD t3.toNat (0, 0, 0)).2.1), iV ((a0_1.getD t3.toNat (0, 0, 0)).2.2)]] ?_
   replace ⟨⟨_, hp1⟩, h⟩ := k2 h
   refine qm [4] [(60, bV (((((!(decide (0 ≤ (a0_1.getD t3.toNat (0, 0, 0)).1) && decide ((a0_1.getD t3.toNat (0, 0, 0)).1 ≤ (IntKind.i64.wrap (a0_0 - 1))))) || (!(decide (0 ≤ (a0_1.getD t3.toNat (0, 0, 0)).2.1) && decide ((a0_1.getD t3.toNat (0, 0, 0)).2.1 ≤ (IntKind.i64.wrap (a0_0 - 1)))))) || ((a0_1.getD t3.toNat (0, 0, 0)).1 == (a0_1.getD t3.toNat (0, 0, 0)).2.1)) || (!(decide (0 ≤ (a0_1.getD t3.toNat (0, 0, 0)).2.2) && decide ((a0_1.getD t3.toNat (0, 0, 0)).2.2 ≤ 20)))) || ((decide (0 < t3)) && (!(decide ((a0_1.getD ((t3 - 1).toNat) (0, 0, 0)).1 < (a0_1.getD t3.toNat (0, 0, 0)).1 ∨ (a0_1.getD ((t3 - 1).toNat) (0, 0, 0)).1 = (a0_1.getD t3.toNat (0, 0, 0)).1 ∧ (a0_1.getD ((t3 - 1).toNat) (0, 0, 0)).2.1 < (a0_1.getD t3.toNat (0, 0, 0)).2.1))))))] [] [] ?_
   refine awp_if h ?_ ?_ <;> intro hc h
   ·refine rg [1, 3, 60] [(2, bV false)] ?_
    exact lors [0]
   refine sk hK37 ?_
   replace ⟨p, h⟩ := k1 h
   refine eg [3, 60] [(3, iV (t3 + 1))] ?_
   exact lns [0, 1]
  exact lo
 ·rintro ⟨⟩ h
  try dsimp only
  refine hK20 _ _ ?_
  refine rg [1] [(2, bV ((decide (0 ≤ a0_0) && decide (a0_0 ≤ 16)) && (decide ((a0_1.length : Int) ≤ 40))))] ?_
  exact fr [0]
 rintro ⟨⟩ h
 try dsimp only
 exact fr [0]
theorem k_spec_AddEdge {a0_0 a0_1 a1_0 a1_1 a1_2 r} (h : spec_AddEdge a0_0 a0_1 a1_0 a1_1 a1_2 = some r) : KA Tryz.prog 69 [.agg [iV a0_0, .sl 0], .agg [iV a1_0, iV a1_1, iV a1_2]] [rT a0_1] (.tup [.agg [iV r.1, .sl 1], bV r.2.2]) [rT a0_1, oT r.2.1] := by
 unfold spec_AddEdge at h
 refine FnA.ofA 82 [0] [.cell 4 54, .tmp 5] Tryz.func69 en69 ?_
 refine rm [0, 1] [(2, .pp 1 0), (3, .pp 2 0), (4, .pp 3 0)] [] [.box [iV a0_0, .sl 0], .box [iV a1_0, iV a1_1, iV a1_2], .box [iV 0, nV]] ?_
 refine fz 3 ?_
 replace ⟨y, y_1, hr0, h⟩ := bd2 h
 refine rc [] [] [(1, .box [iV y, .sl 4])] [oT y_1] [⟨1, [0], k_spec_l1OwnGraph hr0⟩] ?_
 refine awp_seq fun K2 hK2 => ?_
 replace ⟨y_2, hr0, h⟩ := bd h
 refine rc [] [(14, bV (!y_2))] [] [] [⟨1, [4], k_spec_GraphValid hr0⟩] ?_
 refine awp_if h ?_ ?_ <;> intro hc h
 ·refine rg [2, 3, 14] [(5, bV false)] ?_
  refine nc 3 1 (.trips []) ?_
  exact fr [0, 5]
 refine sk hK2 ?_
 refine rm [14] [(6, .pp 5 0)] [] [.box [iV y, nV]] ?_
 refine rg [] [(7, bV false)] ?_
 refine awp_seq fun K49 hK49 => ?_
 refine rg [] [(8, iV 0)] ?_
 refine awp_block ?_
 refine lp h (fun (t7, t8, t6_1s) => [(2, .pp 1 0), (3, .pp 3 0), (4, .pp 4 0), (6, .pp 5 0), (7, bV t7), (8, iV t8)]) (fun (t7, t8, t6_1s) => [rT a0_1, .box [iV y, .sl 2], oT y_1, .rbox [iV a1_0, iV a1_1, iV a1_2], .box [iV 0, nV], .box [iV y, .sl 6], oT t6_1s]) (fun _ => Exit.exit 0) (fun (t7_1, t6_1s_1) => [(2, .pp 1 0), (3, .pp 3 0), (4, .pp 4 0), (6, .pp 5 0), (7, bV t7_1)]) (fun (t7_1, t6_1s_1) => [rT a0_1, .box [iV y, .sl 2], oT y_1, .rbox [iV a1_0, iV a1_1, iV a1_2], .box [iV 0, nV], .box [iV y, .sl 6], oT t6_1s_1]) ?_ ?_ (h0 := by refine Red.trans (Red.nilCell (o := 5) (i := 1) (.trips []) rfl rfl rfl) ?_; exact Red.selA [0, 1, 4, 2, 3, 5, 6] Red.auto)
 ·rintro ⟨t7, t8, t6_1s⟩ r h
  unfold spec_AddEdge_b0 at h
  try dsimp only
  refine awp_seq fun K84 hK84 => ?_
  refine rg [] [(23, bV (decide (t8 < (y_1.length : Int))))] ?_
  refine awp_if h ?_ ?_ <;> intro hc h
  ·refine sk hK84 ?_
   refine awp_join h (fun (t7_2, t6_1s_2) => [(2, .pp 1 0), (3, .pp 3 0), (4, .pp 4 0), (6, .pp 5 0), (7, bV t7_2), (8, iV t8)]) (fun (t7_2, t6_1s_2) => [rT a0_1, .box [iV y, .sl 2], oT y_1, .rbox [iV a1_0, iV a1_1, iV a1_2], .box [iV 0, nV], .box [iV y, .sl 6], oT t6_1s_2]) ?_ ?_
   ·intro k h
    refine awp_block ?_
    replace ⟨p, h⟩ := k1 h
    refine rm [23] [(9, .pp 7 0)] [] [.box [iV ((y_1.getD t8.toNat (0, 0, 0)).1), iV ((y_1.getD t8.toNat (0, 0, 0)).2.1), iV ((y_1.getD t8.toNat (0, 0, 0)).2.2)]] ?_
    refine awp_join h (fun (t7_3, t6_1s_3) => [(2, .pp 1 0), (3, .pp 3 0), (4, .pp 4 0), (6, .pp 5 0), (7, bV t7_3), (8, iV t8), (9, .pp 7 0)]) (fun (t7_3, t6_1s_3) => [rT a0_1, .box [iV y, .sl 2], oT y_1, .rbox [iV a1_0, iV a1_1, iV a1_2], .box [iV 0, nV], .box [iV y, .sl 6], oT t6_1s_3, .box [iV ((y_1.getD t8.toNat (0, 0, 0)).1), iV ((y_1.getD t8.toNat (0, 0, 0)).2.1), iV ((y_1.getD t8.toNat (0, 0, 0)).2.2)]]) ?_ ?_
    ·intro k_1 h
     refine rg [] [(38, bV ((!t7) && (!(decide ((y_1.getD t8.toNat (0, 0, 0)).1 < a1_0 ∨ (y_1.getD t8.toNat (0, 0, 0)).1 = a1_0 ∧ (y_1.getD t8.toNat (0, 0, 0)).2.1 < a1_1)))))] ?_
     refine awp_if h ?_ ?_ <;> intro hc h
     ·replace ⟨p, h⟩ := k1 h
      refine rm [7, 38] [] [(6, oT (t6_1s ++ [(a1_0, a1_1, a1_2)]))] [oT [(a1_0, a1_1, a1_2)]] ?_
      refine rg [] [(7, bV true)] ?_
      refine rg [] [(56, bV (((y_1.getD t8.toNat (0, 0, 0)).1 == a1_0) && ((y_1.getD t8.toNat (0, 0, 0)).2.1 == a1_1)))] ?_
      refine awp_if h ?_ ?_ <;> intro hc h
      ·refine awp_exit ?_
       exact jos [0, 1, 2, 3, 4, 5, 6]
      refine awp_skip ?_
      exact jos [0, 1, 2, 3, 4, 5, 6, 7]
     refine awp_skip ?_
     exact jo
    rintro ⟨t7_3, t6_1s_3⟩ h
    try dsimp only
    replace ⟨p, h⟩ := k1 h
    refine em [9] [] [(6, oT (t6_1s_3 ++ [((y_1.getD t8.toNat (0, 0, 0)).1, (y_1.getD t8.toNat (0, 0, 0)).2.1, (y_1.getD t8.toNat (0, 0, 0)).2.2)]))] [oT [((y_1.getD t8.toNat (0, 0, 0)).1, (y_1.getD t8.toNat (0, 0, 0)).2.1, (y_1.getD t8.toNat (0, 0, 0)).2.2)]] ?_
    exact jos [0, 1, 2, 3, 4, 5, 6]
   rintro ⟨t7_2, t6_1s_2⟩ h
   try dsimp only
   replace ⟨p, h⟩ := k1 h
   refine eg [8] [(8, iV (t8 + 1))] ?_
   exact ln
  exact lo
 rintro ⟨t7_1, t6_1s_1⟩ h
 try dsimp only
 refine hK49 _ _ ?_
 refine awp_join h (fun t6_1s_4 => [(2, .pp 1 0), (4, .pp 3 0), (6, .pp 4 0)]) (fun t6_1s_4 => [rT a0_1, .box [iV y, .sl 2], oT y_1, .box [iV 0, nV], .box [iV y, .sl 5], oT t6_1s_4]) ?_ ?_
 ·intro k_2 h
  refine rg [7] [(64, bV (!t7_1))] ?_
  refine awp_if h ?_ ?_ <;> intro hc h
  ·replace ⟨p, h⟩ := k1 h
   refine em [3, 64] [] [(6, oT (t6_1s_1 ++ [(a1_0, a1_1, a1_2)]))] [oT [(a1_0, a1_1, a1_2)]] ?_
   exact jos [0, 1, 2, 4, 5, 6]
  refine awp_skip ?_
  exact jos [0, 1, 2, 4, 5, 6]
 rintro t6_1s_4 h
 try dsimp only
 refine awp_seq fun K98 hK98 => ?_
 replace ⟨y_3, hr0, h⟩ := bd h
 refine rc [] [(73, bV (!y_3))] [] [] [⟨1, [5], k_spec_GraphValid hr0⟩] ?_
 refine awp_if h ?_ ?_ <;> intro hc h
 ·refine awp_freeze 2 (by rfl) (by rfl) (by first | exact rfl | (simp only [List.map_cons, List.map_nil, List.set_cons_succ, List.set_cons_zero, AObj.unview, reduceCtorEq, ↓reduceIte, Nat.reduceEqDiff]; exact rfl)) ?_
  replace ⟨p, h⟩ := k1 h
  refine dm (.free 0 (.free 3 (.free 1 (.free 4 (.one 2 (.one 5 (.one 6 (.one 7 (.one 8 .fin))))))))) [2, 6, 73] [(5, bV false)] [(3, .box [iV y, .sl 6])] [oT ([] ++ y_1)] ?_
  exact fr [0, 6]
 refine sk hK98 ?_
 refine rm [2, 6, 73] [(5, bV true)] [(3, .box [iV y, .sl 5])] [] ?_
 exact fr [0, 5]
theorem k_spec_l20Rd_odd {a0_0 a0_1 a1 r} (h : spec_l20Rd_odd a0_0 a0_1 a1 = some r) : KA Tryz.prog 53 [.pp 0 0, iV a1] [.box [.sl 1, iV a0_1], rY a0_0] (bV r.1) [.box [.sl 1, iV r.2], rY a0_0] := by
 unfold spec_l20Rd_odd at h
 refine FnA.ofA 15 [0, 1] [.tmp 4] Tryz.func53 en53 ?_
 refine rg [] [] ?_
 replace ⟨y, y_1, hr0, h⟩ := bd2 h
 have c0 := cm [0, 1] (fun g0 => k_spec_l20Rd_pick (bite_t hr0 g0))
 refine rm [0, 1] [(4, bV ((decide (0 < a1)) && (y == (IntKind.i64.wrap (a1 - 1)))))] [(0, .box [.sl 1, iV y_1])] [] ?_
 exact fr [0, 1]
theorem k_spec_l20Graph {a0_0 a0_1 a1 r} (h : spec_l20Graph a0_0 a0_1 a1 = some r) : KA Tryz.prog 45 [.pp 0 0, iV a1] [.box [.sl 1, iV a0_1], rY a0_0] (.agg [iV r.1, .sl 2]) [.box [.sl 1, iV r.2.2], rY a0_0, oT r.2.1] := by
 unfold spec_l20Graph at h
 refine FnA.ofA 72 [0, 1] [.cell 4 54] Tryz.func45 en45 ?_
 refine rm [] [(4, .pp 2 0)] [] [.box [iV 0, nV]] ?_
 replace ⟨y, y_1, hr0, h⟩ := bd2 h
 replace ⟨y_2, y_3, hr1, h⟩ := bd2 h
 replace ⟨p, h⟩ := k1 h
 replace ⟨y_4, y_5, hr3, h⟩ := bd2 h
 replace ⟨pa, h⟩ := k2 h
 refine rc [] [(5, .pp 5 0)] [(0, .box [.sl 1, iV y_5])] [oI [y, (2 + y_2), 16, 0], oI [0, 1, 1, 1, 1, 1, 2, 3], .box [iV (([y, (2 + y_2), 16, 0] : List Int).getD ((([0, 1, 1, 1, 1, 1, 2, 3] : List Int).getD y_4.toNat 0).toNat) 0), nV]] [⟨1, [0, 1], k_spec_l20Rd_pick hr0⟩, ⟨1, [0, 1], k_spec_l20Rd_pick hr1⟩, ⟨4, [0, 1], k_spec_l20Rd_pick hr3⟩] ?_
 refine awp_seq fun K18 hK18 => ?_
 replace ⟨y_6, y_7, hr0, h⟩ := bd2 h
 refine rc [] [(6, iV y_6)] [(0, .box [.sl 1, iV y_7])] [] [⟨1, [0, 1], k_spec_l20Rd_pick hr0⟩] ?_
 refine awp_block ?_
 refine lp h (fun (t6, p0_1, t5_0, t5_1s) => [(0, .pp 0 0), (1, iV a1), (4, .pp 2 0), (5, .pp 4 0), (6, iV t6)]) (fun (t6, p0_1, t5_0, t5_1s) => [.box [.sl 1, iV p0_1], rY a0_0, .box [iV 0, .sl 3], oT [], .box [iV t5_0, .sl 5], oT t5_1s]) (fun _ => Exit.exit 0) (fun (p0_1_1, t5_0_1, t5_1s_1) => [(0, .pp 0 0), (1, iV a1), (4, .pp 2 0), (5, .pp 4 0)]) (fun (p0_1_1, t5_0_1, t5_1s_1) => [.box [.sl 1, iV p0_1_1], rY a0_0, .box [iV 0, .sl 3], oT [], .box [iV t5_0_1, .sl 5], oT t5_1s_1]) ?_ ?_ (h0 := by refine Red.trans (Red.nilCell (o := 2) (i := 1) (.trips []) rfl rfl rfl) ?_; refine Red.trans (Red.nilCell (o := 5) (i := 1) (.trips []) rfl rfl rfl) ?_; exact Red.selA [0, 1, 2, 6, 5, 7] Red.auto)
 ·rintro ⟨t6, p0_1, t5_0, t5_1s⟩ r h
  unfold spec_l20Graph_b0 at h
  try dsimp only
  refine awp_seq fun K32 hK32 => ?_
  refine rg [] [(24, bV (decide (0 < t6)))] ?_
  refine awp_if h ?_ ?_ <;> intro hc h
  ·refine sk hK32 ?_
   refine awp_seq fun K34 hK34 => ?_
   refine awp_block ?_
   replace ⟨y_8, y_9, y_10, y_11, hr0, h⟩ := bd4 h
   replace ⟨y_12, y_13, y_14, hr1, h⟩ := bd3 h
   have c0 := cm [0, 1] (k_spec_l20Edge hr0)
   have c1 := cm [5] (k_spec_AddEdge hr1)
   refine de (.free 1 (.free 2 (.two 0 3 (.one 3 (.one 4 (.one 5 (.one 6 (.free 7 (.free 8 (.one 9 .fin))))))) (.two 0 4 (.one 4 (.one 5 (.one 6 (.free 7 (.free 8 (.one 9 .fin)))))) (.one 0 (.one 5 (.one 6 (.free 7 (.free 8 (.one 9 .fin)))))))))) [24] [] [(0, .box [.sl 1, iV y_11]), (3, .box [iV y_12, .sl 6])] [oT y_13] ?_
   refine hK34 _ _ ?_
   replace ⟨p, h⟩ := k1 h
   refine eg [6] [(6, iV (t6 - 1))] ?_
   exact lns [0, 1, 2, 3, 4, 6]
  exact lo
 rintro ⟨p0_1_1, t5_0_1, t5_1s_1⟩ h
 try dsimp only
 refine hK18 _ _ ?_
 refine awp_join h (fun (p0_1_2, t5_0_2, t5_1s_2) => [(4, .pp 2 0), (5, .pp 4 0)]) (fun (p0_1_2, t5_0_2, t5_1s_2) => [.box [.sl 1, iV p0_1_2], rY a0_0, .box [iV 0, .sl 3], oT [], .box [iV t5_0_2, .sl 5], oT t5_1s_2]) ?_ ?_
 ·intro k h
  replace ⟨y_15, y_16, hr0, h⟩ := bd2 h
  refine rc [1] [(38, bV y_15)] [(0, .box [.sl 1, iV y_16])] [] [⟨2, [0, 1], k_spec_l20Rd_odd hr0⟩] ?_
  refine awp_if h ?_ ?_ <;> intro hc h
  ·replace ⟨y_17, y_18, hr0, h⟩ := bd2 h
   refine rc [38] [(40, iV y_17)] [(0, .box [.sl 1, iV y_18])] [] [⟨1, [0, 1], k_spec_l20Rd_pick hr0⟩] ?_
   refine awp_block ?_
   refine rg [] [(47, bV (y_17 == 0))] ?_
   refine awp_if h ?_ ?_ <;> intro hc h
   ·replace ⟨y_19, y_20, hr0, h⟩ := bd2 h
    replace ⟨p, h⟩ := k1 h
    refine ec [0, 40, 47] [] [(0, .box [.sl 1, iV y_20]), (3, .box [iV (([(-1), 17] : List Int).getD y_19.toNat 0), .sl 5])] [oI [(-1), 17]] [⟨2, [0, 1], k_spec_l20Rd_pick hr0⟩] ?_
    exact jos [0, 1, 2, 3, 4, 5]
   refine rg [0, 47] [(55, bV (y_17 == 1))] ?_
   refine awp_if h ?_ ?_ <;> intro hc h
   ·replace ⟨p, h⟩ := k1 h
    refine em [40, 55] [] [(5, oT (t5_1s_1 ++ [(0, 0, 0)]))] [oT [(0, 0, 0)]] ?_
    exact jos [0, 1, 2, 3, 4, 5]
   refine rg [40, 55] [(63, bV (y_17 == 2))] ?_
   refine awp_if h ?_ ?_ <;> intro hc h
   ·replace ⟨p, h⟩ := k1 h
    refine em [63] [] [(5, oT (t5_1s_1 ++ [(0, 1, 21)]))] [oT [(0, 1, 21)]] ?_
    exact jos [0, 1, 2, 3, 4, 5]
   replace ⟨p, h⟩ := k1 h
   refine em [63] [] [(4, .box [iV t5_0_1, .sl 6])] [oT ([(15, 0, 0)] ++ t5_1s_1)] ?_
   exact jos [0, 1, 2, 3, 4, 6]
  refine awp_skip ?_
  exact jo
 rintro ⟨p0_1_2, t5_0_2, t5_1s_2⟩ h
 try dsimp only
 refine rm [5] [] [(2, .box [iV t5_0_2, .sl 5])] [] ?_
 exact fr [0, 1, 5]
theorem k_spec_l20Dense {a0_0 a0_1 r} (h : spec_l20Dense a0_0 a0_1 = some r) : KA Tryz.prog 47 [.pp 0 0] [.box [.sl 1, iV a0_1], rY a0_0] (.agg [iV r.1, .sl 2]) [.box [.sl 1, iV r.2.2], rY a0_0, oT r.2.1] := by
 unfold spec_l20Dense at h
 refine FnA.ofA 29 [0, 1] [.cell 2 54] Tryz.func47 en47 ?_
 refine rm [] [(2, .pp 2 0)] [] [.box [iV 0, nV]] ?_
 replace ⟨y, y_1, hr0, h⟩ := bd2 h
 replace ⟨p, h⟩ := k1 h
 refine rc [] [(3, .pp 3 0)] [(0, .box [.sl 1, iV y_1])] [.box [iV (3 + y), nV]] [⟨1, [0, 1], k_spec_l20Rd_pick hr0⟩] ?_
 refine awp_seq fun K18 hK18 => ?_
 replace ⟨y_2, y_3, hr0, h⟩ := bd2 h
 replace ⟨p, h⟩ := k1 h
 refine rc [] [(4, iV (6 + y_2))] [(0, .box [.sl 1, iV y_3])] [] [⟨1, [0, 1], k_spec_l20Rd_pick hr0⟩] ?_
 refine awp_block ?_
 refine lp h (fun (t4, p0_1, t3_0, t3_1s) => [(0, .pp 0 0), (2, .pp 2 0), (3, .pp 4 0), (4, iV t4)]) (fun (t4, p0_1, t3_0, t3_1s) => [.box [.sl 1, iV p0_1], rY a0_0, .box [iV 0, .sl 3], oT [], .box [iV t3_0, .sl 5], oT t3_1s]) (fun _ => Exit.exit 0) (fun (p0_1_1, t3_0_1, t3_1s_1) => [(0, .pp 0 0), (2, .pp 2 0), (3, .pp 4 0)]) (fun (p0_1_1, t3_0_1, t3_1s_1) => [.box [.sl 1, iV p0_1_1], rY a0_0, .box [iV 0, .sl 3], oT [], .box [iV t3_0_1, .sl 5], oT t3_1s_1]) ?_ ?_ (h0 := by refine Red.trans (Red.nilCell (o := 2) (i := 1) (.trips []) rfl rfl rfl) ?_; refine Red.trans (Red.nilCell (o := 3) (i := 1) (.trips []) rfl rfl rfl) ?_; exact Red.selA [0, 1, 2, 4, 3, 5] Red.auto)
 ·rintro ⟨t4, p0_1, t3_0, t3_1s⟩ r h
  unfold spec_l20Dense_b0 at h
  try dsimp only
  refine awp_seq fun K32 hK32 => ?_
  refine rg [] [(13, bV (decide (0 < t4)))] ?_
  refine awp_if h ?_ ?_ <;> intro hc h
  ·refine sk hK32 ?_
   refine awp_seq fun K34 hK34 => ?_
   refine awp_block ?_
   replace ⟨y_4, y_5, y_6, y_7, hr0, h⟩ := bd4 h
   replace ⟨y_8, y_9, y_10, hr1, h⟩ := bd3 h
   have c0 := cm [0, 1] (k_spec_l20Edge hr0)
   have c1 := cm [5] (k_spec_AddEdge hr1)
   refine de (.free 1 (.free 2 (.two 0 3 (.one 3 (.one 4 (.one 5 (.one 6 (.free 7 (.free 8 (.one 9 .fin))))))) (.two 0 4 (.one 4 (.one 5 (.one 6 (.free 7 (.free 8 (.one 9 .fin)))))) (.one 0 (.one 5 (.one 6 (.free 7 (.free 8 (.one 9 .fin)))))))))) [13] [] [(0, .box [.sl 1, iV y_7]), (3, .box [iV y_8, .sl 6])] [oT y_9] ?_
   refine hK34 _ _ ?_
   replace ⟨p, h⟩ := k1 h
   refine eg [4] [(4, iV (t4 - 1))] ?_
   exact lns [0, 1, 2, 3, 4, 6]
  exact lo
 rintro ⟨p0_1_1, t3_0_1, t3_1s_1⟩ h
 try dsimp only
 refine hK18 _ _ ?_
 refine awp_join h (fun (p0_1_2, t3_0_2) => [(2, .pp 2 0), (3, .pp 4 0)]) (fun (p0_1_2, t3_0_2) => [.box [.sl 1, iV p0_1_2], rY a0_0, .box [iV 0, .sl 3], oT [], .box [iV t3_0_2, .sl 5], oT t3_1s_1]) ?_ ?_
 ·intro k h
  replace ⟨y_11, y_12, hr0, h⟩ := bd2 h
  refine rc [0] [(26, bV y_11)] [(0, .box [.sl 1, iV y_12])] [] [⟨1, [0, 1], k_spec_l20Rd_odd hr0⟩] ?_
  refine awp_if h ?_ ?_ <;> intro hc h
  ·refine em [26] [] [(4, .box [iV 1, .sl 5])] [] ?_
   exact jo
  refine awp_skip ?_
  exact jo
 rintro ⟨p0_1_2, t3_0_2⟩ h
 try dsimp only
 refine rm [3] [] [(2, .box [iV t3_0_2, .sl 5])] [] ?_
 exact fr [0, 1, 5]
theorem k_spec_l20Program {a0_0 a0_1 a1 a2 r} (h : spec_l20Program a0_0 a0_1 a1 a2 = some r) : KA Tryz.prog 48 [.pp 0 0, iV a1, iV a2] [.box [.sl 1, iV a0_1], rY a0_0] (.agg [iV r.1, iV r.2.1, iV r.2.2.1]) [.box [.sl 1, iV r.2.2.2], rY a0_0] := by
 unfold spec_l20Program at h
 refine FnA.ofA 62 [0, 1] [.cell 6 56] Tryz.func48 en48 ?_
 refine rm [] [(6, .pp 2 0)] [] [.box [iV 0, iV 0, iV 0]] ?_
 replace ⟨y, y_1, hr0, h⟩ := bd2 h
 replace ⟨p, h⟩ := k1 h
 refine rc [] [(7, .pp 3 0)] [(0, .box [.sl 1, iV y_1])] [.box [iV (1 + y), iV 0, iV 0]] [⟨1, [0, 1], k_spec_l20Rd_pick hr0⟩] ?_
 refine awp_join h (fun (p0_1, t7_1, t7_2) => [(0, .pp 0 0), (2, iV a2), (6, .pp 2 0), (7, .pp 3 0)]) (fun (p0_1, t7_1, t7_2) => [.box [.sl 1, iV p0_1], rY a0_0, .box [iV 0, iV 0, iV 0], .box [iV (1 + y), iV t7_1, iV t7_2]]) ?_ ?_
 ·intro k h
  refine rg [] [(13, iV (1 + y))] ?_
  refine awp_block ?_
  refine awp_join h (fun t14 => [(0, .pp 0 0), (1, iV a1), (2, iV a2), (6, .pp 2 0), (7, .pp 3 0), (13, iV (1 + y)), (14, bV t14)]) (fun t14 => [.box [.sl 1, iV y_1], rY a0_0, .box [iV 0, iV 0, iV 0], .box [iV (1 + y), iV 0, iV 0]]) ?_ ?_
  ·intro k_1 h
   refine rg [] [(14, bV ((1 + y) == 1))] ?_
   refine awp_if h ?_ ?_ <;> intro hc h
   ·refine awp_skip ?_
    exact jo
   refine eg [14] [(14, bV ((1 + y) == 2))] ?_
   exact jo
  rintro t14 h
  try dsimp only
  refine awp_if h ?_ ?_ <;> intro hc h
  ·replace ⟨y_2, y_3, hr0, h⟩ := bd2 h
   refine ec [1, 13, 14] [] [(0, .box [.sl 1, iV y_3]), (2, .box [iV (1 + y), iV y_2, iV 0])] [] [⟨3, [0, 1], k_spec_l20Rd_pick hr0⟩] ?_
   exact jo
  refine awp_join h (fun t22 => [(0, .pp 0 0), (2, iV a2), (6, .pp 2 0), (7, .pp 3 0), (22, bV t22)]) (fun t22 => [.box [.sl 1, iV y_1], rY a0_0, .box [iV 0, iV 0, iV 0], .box [iV (1 + y), iV 0, iV 0]]) ?_ ?_
  ·intro k_2 h
   refine rg [1, 14] [(22, bV ((1 + y) == 4))] ?_
   refine awp_if h ?_ ?_ <;> intro hc h
   ·refine awp_skip ?_
    exact jo
   refine eg [13, 22] [(22, bV ((1 + y) == 6))] ?_
   exact jo
  rintro t22 h
  try dsimp only
  refine awp_if h ?_ ?_ <;> intro hc h
  ·replace ⟨y_4, y_5, hr0, h⟩ := bd2 h
   replace ⟨p, h⟩ := k1 h
   replace ⟨y_6, y_7, hr2, h⟩ := bd2 h
   replace ⟨pa, h⟩ := k1 h
   refine ec [22] [] [(0, .box [.sl 1, iV y_7]), (2, .box [iV (1 + y), iV 0, iV (([(1 + y_4), 8, 20] : List Int).getD y_6.toNat 0)])] [oI [(1 + y_4), 8, 20]] [⟨1, [0, 1], k_spec_l20Rd_pick hr0⟩, ⟨3, [0, 1], k_spec_l20Rd_pick hr2⟩] ?_
   exact jos [0, 1, 2, 3]
  refine awp_skip ?_
  exact jo
 rintro ⟨p0_1, t7_1, t7_2⟩ h
 try dsimp only
 refine awp_join h (fun (p0_1_1, t7_0, t7_1_1, t7_2_1) => [(6, .pp 2 0), (7, .pp 3 0)]) (fun (p0_1_1, t7_0, t7_1_1, t7_2_1) => [.box [.sl 1, iV p0_1_1], rY a0_0, .box [iV 0, iV 0, iV 0], .box [iV t7_0, iV t7_1_1, iV t7_2_1]]) ?_ ?_
 ·intro k_3 h
  replace ⟨y_8, y_9, hr0, h⟩ := bd2 h
  refine rc [2] [(36, bV y_8)] [(0, .box [.sl 1, iV y_9])] [] [⟨2, [0, 1], k_spec_l20Rd_odd hr0⟩] ?_
  refine awp_if h ?_ ?_ <;> intro hc h
  ·replace ⟨y_10, y_11, hr0, h⟩ := bd2 h
   refine rc [36] [(38, iV y_10)] [(0, .box [.sl 1, iV y_11])] [] [⟨1, [0, 1], k_spec_l20Rd_pick hr0⟩] ?_
   refine awp_block ?_
   refine rg [] [(45, bV (y_10 == 0))] ?_
   refine awp_if h ?_ ?_ <;> intro hc h
   ·replace ⟨y_12, y_13, hr0, h⟩ := bd2 h
    replace ⟨p, h⟩ := k1 h
    refine ec [0, 38, 45] [] [(0, .box [.sl 1, iV y_13]), (2, .box [iV (([0, 7] : List Int).getD y_12.toNat 0), iV t7_1, iV t7_2])] [oI [0, 7]] [⟨2, [0, 1], k_spec_l20Rd_pick hr0⟩] ?_
    exact jos [0, 1, 2, 3]
   refine rg [38, 45] [(53, bV (y_10 == 1))] ?_
   refine awp_if h ?_ ?_ <;> intro hc h
   ·replace ⟨y_14, y_15, hr0, h⟩ := bd2 h
    replace ⟨p, h⟩ := k1 h
    refine ec [0, 53] [] [(0, .box [.sl 1, iV y_15]), (2, .box [iV (1 + y), iV (([(-1), 16] : List Int).getD y_14.toNat 0), iV t7_2])] [oI [(-1), 16]] [⟨2, [0, 1], k_spec_l20Rd_pick hr0⟩] ?_
    exact jos [0, 1, 2, 3]
   replace ⟨y_16, y_17, hr0, h⟩ := bd2 h
   replace ⟨p, h⟩ := k1 h
   refine ec [0, 53] [] [(0, .box [.sl 1, iV y_17]), (2, .box [iV (1 + y), iV t7_1, iV (([(-1), 21] : List Int).getD y_16.toNat 0)])] [oI [(-1), 21]] [⟨2, [0, 1], k_spec_l20Rd_pick hr0⟩] ?_
   exact jos [0, 1, 2, 3]
  refine awp_skip ?_
  exact jo
 rintro ⟨p0_1_1, t7_0, t7_1_1, t7_2_1⟩ h
 try dsimp only
 refine rm [7] [] [(2, .box [iV t7_0, iV t7_1_1, iV t7_2_1])] [] ?_
 exact fr [0, 1]
theorem k_spec_l20Task {a0_0 a0_1 a1 r} (h : spec_l20Task a0_0 a0_1 a1 = some r) : KA Tryz.prog 22 [.pp 0 0, iV a1] [.box [.sl 1, iV a0_1], rY a0_0] (.tup [.agg [iV r.1, .sl 2], .agg [iV r.2.2.1, iV r.2.2.2.1, iV r.2.2.2.2.1]]) [.box [.sl 1, iV r.2.2.2.2.2], rY a0_0, oT r.2.1] := by
 unfold spec_l20Task at h
 refine FnA.ofA 21 [0, 1] [.cell 4 54, .cell 5 56] Tryz.func22 en22 ?_
 refine rm [] [(4, .pp 2 0), (5, .pp 3 0)] [] [.box [iV 0, nV], .box [iV 0, iV 0, iV 0]] ?_
 replace ⟨y, y_1, y_2, hr0, h⟩ := bd3 h
 refine rc [] [(6, .pp 5 0)] [(0, .box [.sl 1, iV y_2])] [oT y_1, .box [iV y, .sl 4]] [⟨2, [0, 1], k_spec_l20Graph hr0⟩] ?_
 refine awp_join h (fun (p0_1, t6_0, t6_1s) => [(0, .pp 0 0), (1, iV a1), (4, .pp 2 0), (5, .pp 3 0), (6, .pp 4 0)]) (fun (p0_1, t6_0, t6_1s) => [.box [.sl 1, iV p0_1], rY a0_0, .box [iV 0, nV], .box [iV 0, iV 0, iV 0], .box [iV t6_0, .sl 5], oT t6_1s]) ?_ ?_
 ·intro k h
  replace ⟨y_3, y_4, hr0, h⟩ := bd2 h
  refine rc [] [(12, bV (y_3 == 0))] [(0, .box [.sl 1, iV y_4])] [] [⟨1, [0, 1], k_spec_l20Rd_pick hr0⟩] ?_
  refine awp_if h ?_ ?_ <;> intro hc h
  ·replace ⟨y_5, y_6, y_7, hr0, h⟩ := bd3 h
   refine ec [12] [] [(0, .box [.sl 1, iV y_7]), (4, .box [iV y_5, .sl 6])] [oT y_6] [⟨1, [0, 1], k_spec_l20Dense hr0⟩] ?_
   exact jos [0, 1, 2, 3, 5, 6]
  refine awp_skip ?_
  exact jos [0, 1, 2, 3, 5, 4]
 rintro ⟨p0_1, t6_0, t6_1s⟩ h
 try dsimp only
 replace ⟨y_8, y_9, y_10, y_11, hr0, h⟩ := bd4 h
 have c0 := cm [0, 1] (k_spec_l20Program hr0)
 refine dm (.free 1 (.free 2 (.free 4 (.two 0 3 (.one 3 (.one 5 (.one 6 (.one 7 .fin)))) (.two 0 5 (.one 5 (.one 6 (.one 7 .fin))) (.one 0 (.one 6 (.one 7 .fin)))))))) [0, 1, 6] [] [(0, .box [.sl 1, iV y_11]), (1, .box [iV t6_0, .sl 5]), (0, .box [iV y_8, iV y_9, iV y_10])] [] ?_
 exact fr [0, 1, 5]
theorem k_spec_StartState {a0 r} (h : spec_StartState a0 = some r) : KA Tryz.prog 49 [iV a0] [] (.agg [iV r.1, .sl 0, .sl 1, .sl 2]) [oI r.2.1, oB r.2.2.1, oT r.2.2.2] := by
 unfold spec_StartState at h
 refine FnA.ofA 23 [] [.cell 2 27] Tryz.func49 en49 ?_
 refine rm [] [(2, .pp 0 0)] [] [.box [iV 0, nV, nV, nV]] ?_
 refine awp_seq fun K2 hK2 => ?_
 refine rg [] [(7, bV (!(decide (0 ≤ a0) && decide (a0 ≤ 16))))] ?_
 refine awp_if h ?_ ?_ <;> intro hc h
 ·refine rg [0, 7] [] ?_
  refine nc 0 1 (.ints .i64 []) ?_
  refine nc 0 2 (.bools []) ?_
  refine nc 0 3 (.trips []) ?_
  exact fr [1, 2, 3]
 refine sk hK2 ?_
 replace ⟨p, h⟩ := k1 h
 refine rm [7] [(3, .pp 2 0)] [] [oI (List.replicate a0.toNat 0), .box [iV 0, .sl 1, nV, nV]] ?_
 refine awp_seq fun K21 hK21 => ?_
 refine rg [] [(4, iV 0)] ?_
 refine awp_block ?_
 refine lp h (fun (t4, t3_2s) => [(0, iV a0), (2, .pp 0 0), (3, .pp 1 0), (4, iV t4)]) (fun (t4, t3_2s) => [.box [iV 0, nV, nV, nV], .box [iV 0, .sl 2, .sl 3, nV], oI (List.replicate a0.toNat 0), oB t3_2s]) (fun _ => Exit.exit 0) (fun t3_2s_1 => [(2, .pp 0 0), (3, .pp 1 0)]) (fun t3_2s_1 => [.box [iV 0, nV, nV, nV], .box [iV 0, .sl 2, .sl 3, nV], oI (List.replicate a0.toNat 0), oB t3_2s_1]) ?_ ?_ (h0 := by refine Red.trans (Red.nilCell (o := 2) (i := 2) (.bools []) rfl rfl rfl) ?_; exact Red.selA [0, 2, 1, 3] Red.auto)
 ·rintro ⟨t4, t3_2s⟩ r h
  unfold spec_StartState_b0 at h
  try dsimp only
  refine awp_seq fun K35 hK35 => ?_
  refine rg [] [(14, bV (decide (t4 < a0)))] ?_
  refine awp_if h ?_ ?_ <;> intro hc h
  ·refine sk hK35 ?_
   refine awp_seq fun K37 hK37 => ?_
   refine awp_block ?_
   replace ⟨p, h⟩ := k1 h
   refine em [14] [] [(3, oB (t3_2s ++ [true]))] [oB [true]] ?_
   refine hK37 _ _ ?_
   replace ⟨p, h⟩ := k1 h
   refine eg [4] [(4, iV (t4 + 1))] ?_
   exact lns [0, 1, 2, 3]
  exact lo
 rintro t3_2s_1 h
 try dsimp only
 refine hK21 _ _ ?_
 refine rm [3] [] [(0, .box [iV 0, .sl 2, .sl 3, nV])] [] ?_
 refine nc 0 3 (.trips []) ?_
 exact fr [2, 3, 4]
theorem k_spec_l1OwnState {a0_0 a0_1 a0_2 a0_3 r} (h : spec_l1OwnState a0_0 a0_1 a0_2 a0_3 = some r) : KA Tryz.prog 24 [.agg [iV a0_0, .sl 0, .sl 1, .sl 2]] [rI a0_1, rB a0_2, rT a0_3] (.agg [iV r.1, .sl 3, .sl 4, .sl 5]) [rI a0_1, rB a0_2, rT a0_3, oI r.2.1, oB r.2.2.1, oT r.2.2.2] := by
 unfold spec_l1OwnState at h
 refine FnA.ofA 21 [0, 1, 2] [.cell 2 27] Tryz.func24 en24 ?_
 refine rm [0] [(1, .pp 3 0), (2, .pp 4 0)] [] [.box [iV a0_0, .sl 0, .sl 1, .sl 2], .box [iV 0, nV, nV, nV]] ?_
 refine fz 1 ?_
 refine rm [] [(3, .pp 5 0)] [] [.box [iV a0_0, .sl 0, .sl 1, .sl 2]] ?_
 replace ⟨p, h⟩ := k1 h
 refine rm [] [] [(5, .box [iV a0_0, .sl 6, .sl 1, .sl 2])] [oI ([] ++ a0_1)] ?_
 replace ⟨p, h⟩ := k1 h
 refine rm [] [] [(5, .box [iV a0_0, .sl 6, .sl 7, .sl 2])] [oB ([] ++ a0_2)] ?_
 replace ⟨p, h⟩ := k1 h
 refine rm [1] [] [(5, .box [iV a0_0, .sl 6, .sl 7, .sl 8])] [oT ([] ++ a0_3)] ?_
 refine rm [3] [] [(4, .box [iV a0_0, .sl 6, .sl 7, .sl 8])] [] ?_
 exact fr [0, 1, 2, 6, 7, 8]
theorem k_spec_ProgramValid {a0_0 a0_1 a0_2 r} (h : spec_ProgramValid a0_0 a0_1 a0_2 = some r) : KA Tryz.prog 74 [.agg [iV a0_0, iV a0_1, iV a0_2]] [] (bV r) [] := by
 unfold spec_ProgramValid at h
 refine FnA.ofA 45 [] [.tmp 2] Tryz.func74 en74 ?_
 refine rm [0] [(1, .pp 0 0)] [] [.box [iV a0_0, iV a0_1, iV a0_2]] ?_
 refine fz 1 ?_
 refine awp_seq fun K7 hK7 => ?_
 refine rg [] [(4, iV a0_0)] ?_
 refine awp_block ?_
 refine awp_join h (fun t5 => [(1, .pp 0 0), (4, iV a0_0), (5, bV t5)]) (fun t5 => [.rbox [iV a0_0, iV a0_1, iV a0_2]]) ?_ ?_
 ·intro k h
  refine rg [] [(5, bV (a0_0 == 1))] ?_
  refine awp_if h ?_ ?_ <;> intro hc h
  ·refine awp_skip ?_
   exact jo
  refine eg [5] [(5, bV (a0_0 == 2))] ?_
  exact jo
 rintro t5 h
 try dsimp only
 refine awp_if h ?_ ?_ <;> intro hc h
 ·refine rg [1, 4, 5] [(2, bV ((decide (0 ≤ a0_1) && decide (a0_1 ≤ 15)) && (a0_2 == 0)))] ?_
  exact fr []
 refine awp_join h (fun t16 => [(1, .pp 0 0), (16, bV t16)]) (fun t16 => [.rbox [iV a0_0, iV a0_1, iV a0_2]]) ?_ ?_
 ·intro k_1 h
  refine rg [5] [(16, bV (a0_0 == 4))] ?_
  refine awp_if h ?_ ?_ <;> intro hc h
  ·refine awp_skip ?_
   exact jo
  refine eg [4, 16] [(16, bV (a0_0 == 6))] ?_
  exact jo
 rintro t16 h
 try dsimp only
 refine awp_if h ?_ ?_ <;> intro hc h
 ·refine rg [1, 16] [(2, bV ((a0_1 == 0) && (decide (1 ≤ a0_2) && decide (a0_2 ≤ 20))))] ?_
  exact fr []
 refine sk hK7 ?_
 refine awp_t [1, 16] [(2, bV ((((a0_0 == 3) || (a0_0 == 5)) && (a0_1 == 0)) && (a0_2 == 0)))] [] [] ?_ ?_
 ·intro K hK
  refine awp_regionA ?_
  refine wc 8 [(1, .pp 0 0), (34, bV ((a0_0 == 3) || (a0_0 == 5)))] [.rbox [iV a0_0, iV a0_1, iV a0_2]] ?_
  refine wc 5 [(1, .pp 0 0), (39, bV (((a0_0 == 3) || (a0_0 == 5)) && (a0_1 == 0)))] [.rbox [iV a0_0, iV a0_1, iV a0_2]] ?_
  exact vs
 exact fr []
theorem k_spec_l11Message {a0_0 a0_1 a0_2 a1 r} (h : spec_l11Message a0_0 a0_1 a0_2 a1 = some r) : KA Tryz.prog 94 [.agg [iV a0_0, iV a0_1, iV a0_2], iV a1] [] (bV r) [] := by
 unfold spec_l11Message at h
 refine FnA.ofA 22 [] [.tmp 4] Tryz.func94 en94 ?_
 refine rm [0] [(2, .pp 0 0)] [] [.box [iV a0_0, iV a0_1, iV a0_2]] ?_
 refine fz 2 ?_
 refine rg [1, 2] [(4, bV (((decide (0 ≤ a0_0) && decide (a0_0 ≤ (IntKind.i64.wrap (a1 - 1)))) && (decide (0 ≤ a0_2) && decide (a0_2 ≤ (IntKind.i64.wrap (a1 - 1))))) && (decide (0 ≤ a0_1) && decide (a0_1 ≤ 999999))))] ?_
 exact fr []
theorem k_spec_l9Before {a0_0 a0_1 a0_2 a1_0 a1_1 a1_2 r} (h : spec_l9Before a0_0 a0_1 a0_2 a1_0 a1_1 a1_2 = some r) : KA Tryz.prog 78 [.agg [iV a0_0, iV a0_1, iV a0_2], .agg [iV a1_0, iV a1_1, iV a1_2]] [] (bV r) [] := by
 unfold spec_l9Before at h
 refine FnA.ofA 30 [] [.tmp 4] Tryz.func78 en78 ?_
 refine rm [0, 1] [(2, .pp 0 0), (3, .pp 1 0)] [] [.box [iV a0_0, iV a0_1, iV a0_2], .box [iV a1_0, iV a1_1, iV a1_2]] ?_
 refine fz 2 ?_
 refine fz 3 ?_
 refine awp_seq fun K2 hK2 => ?_
 refine rg [] [(9, bV (a0_0 != a1_0))] ?_
 refine awp_if h ?_ ?_ <;> intro hc h
 ·refine rg [2, 3, 9] [(4, bV (decide (a0_0 < a1_0)))] ?_
  exact fr []
 refine sk hK2 ?_
 refine awp_seq fun K5 hK5 => ?_
 refine rg [9] [(19, bV (a0_1 != a1_1))] ?_
 refine awp_if h ?_ ?_ <;> intro hc h
 ·refine rg [2, 3, 19] [(4, bV (decide (a0_1 < a1_1)))] ?_
  exact fr []
 refine sk hK5 ?_
 refine rg [2, 3, 19] [(4, bV (decide (a0_2 < a1_2)))] ?_
 exact fr []
theorem k_spec_StateValid {a0_0 a0_1 a0_2 a0_3 a1 r} (h : spec_StateValid a0_0 a0_1 a0_2 a0_3 a1 = some r) : KA Tryz.prog 75 [.agg [iV a0_0, .sl 0, .sl 1, .sl 2], iV a1] [rI a0_1, rB a0_2, rT a0_3] (bV r) [rI a0_1, rB a0_2, rT a0_3] := by
 unfold spec_StateValid at h
 refine FnA.ofA 81 [0, 1, 2] [.tmp 4] Tryz.func75 en75 ?_
 refine rm [0] [(2, .pp 3 0)] [] [.box [iV a0_0, .sl 0, .sl 1, .sl 2]] ?_
 refine fz 2 ?_
 refine awp_seq fun K20 hK20 => ?_
 refine rg [] [(5, iV 0)] ?_
 refine awp_block ?_
 refine lp2 h (fun t5 => [(1, iV a1), (2, .pp 3 0), (5, iV t5)]) (fun t5 => [rI a0_1, rB a0_2, rT a0_3, .rbox [iV a0_0, .sl 0, .sl 1, .sl 2]]) (fun _ => Exit.exit 0) (fun _ => [(1, iV a1), (2, .pp 3 0)]) (fun _ => [rI a0_1, rB a0_2, rT a0_3, .rbox [iV a0_0, .sl 0, .sl 1, .sl 2]]) (fun _ => Exit.ret) (fun _ => [(4, bV false)]) (fun _ => [rI a0_1, rB a0_2, rT a0_3]) ?_ ?_ ?_
 ·rintro t5 r h
  unfold spec_StateValid_b0 at h
  try dsimp only
  refine awp_seq fun K34 hK34 => ?_
  refine rg [] [(11, bV (decide (t5 < (a0_1.length : Int))))] ?_
  refine awp_if h ?_ ?_ <;> intro hc h
  ·refine sk hK34 ?_
   refine awp_seq fun K37 hK37 => ?_
   refine awp_block ?_
   replace ⟨p, h⟩ := k1 h
   refine rg [11] [(20, bV (!(decide ((-1) ≤ (a0_1.getD t5.toNat 0)) && decide ((a0_1.getD t5.toNat 0) ≤ 999999))))] ?_
   refine awp_if h ?_ ?_ <;> intro hc h
   ·refine rg [1, 2, 5, 20] [(4, bV false)] ?_
    exact lors [0, 1, 2]
   refine sk hK37 ?_
   replace ⟨p, h⟩ := k1 h
   refine eg [5, 20] [(5, iV (t5 + 1))] ?_
   exact ln
  exact lo
 ·rintro ⟨⟩ h
  try dsimp only
  refine hK20 _ _ ?_
  refine awp_seq fun K59 hK59 => ?_
  refine rg [] [(6, iV 0)] ?_
  refine awp_block ?_
  refine lp2 h (fun t6 => [(1, iV a1), (2, .pp 3 0), (6, iV t6)]) (fun t6 => [rI a0_1, rB a0_2, rT a0_3, .rbox [iV a0_0, .sl 0, .sl 1, .sl 2]]) (fun _ => Exit.exit 2) (fun _ => [(1, iV a1), (2, .pp 3 0)]) (fun _ => [rI a0_1, rB a0_2, rT a0_3, .rbox [iV a0_0, .sl 0, .sl 1, .sl 2]]) (fun _ => Exit.ret) (fun _ => [(4, bV false)]) (fun _ => [rI a0_1, rB a0_2, rT a0_3]) ?_ ?_ ?_
  ·rintro t6 r h
   unfold spec_StateValid_b1 at h
   try dsimp only
   refine awp_seq fun K73 hK73 => ?_
   refine rg [] [(25, bV (decide (t6 < (a0_3.length : Int))))] ?_
   refine awp_if h ?_ ?_ <;> intro hc h
   ·refine sk hK73 ?_
    refine awp_seq fun K76 hK76 => ?_
    refine awp_block ?_
    replace ⟨p, h⟩ := k1 h
    replace ⟨y, hr1, h⟩ := bd h
    replace ⟨⟨_, hp3, hp4⟩, h⟩ := k3 h
    replace ⟨y_1, hr5, h⟩ := bd h
    have c0 := cm [] (k_spec_l11Message hr1)
    have c1 := cm [] (fun g1 g0 => k_spec_l9Before (bite_t (bite_t hr5 g0) g1))
    refine dm (.free 0 (.free 2 (.free 5 (.one 1 (.one 3 (.one 4 (.one 6 (.one 7 (.one 8 (.one 9 (.one 10 (.one 11 (.free 12 (.free 14 (.free 17 (.free 19 (.free 20 (.free 13 (.free 15 (.free 16 (.one 18 (.one 21 (.one 22 (.one 23 (.one 24 (.one 25 .fin)))))))))))))))))))))))))) [25] [(53, bV ((!y) || ((decide (0 < t6)) && y_1)))] [] [] ?_
    refine awp_if h ?_ ?_ <;> intro hc h
    ·refine rg [1, 2, 6, 53] [(4, bV false)] ?_
     exact lors [0, 1, 2]
    refine sk hK76 ?_
    replace ⟨p, h⟩ := k1 h
    refine eg [6, 53] [(6, iV (t6 + 1))] ?_
    exact ln
   exact lo
  ·rintro ⟨⟩ h
   try dsimp only
   refine hK59 _ _ ?_
   refine awp_t [1, 2] [(4, bV (((((decide (0 ≤ a1) && decide (a1 ≤ 16)) && (decide (0 ≤ a0_0) && decide (a0_0 ≤ 100))) && ((a0_1.length : Int) == a1)) && ((a0_2.length : Int) == a1)) && (decide ((a0_3.length : Int) ≤ 2000))))] [] [] ?_ ?_
   ·intro K hK
    refine awp_regionA ?_
    refine wc 7 [(1, iV a1), (2, .pp 3 0), (60, bV ((decide (0 ≤ a1) && decide (a1 ≤ 16)) && (decide (0 ≤ a0_0) && decide (a0_0 ≤ 100))))] [rI a0_1, rB a0_2, rT a0_3, .rbox [iV a0_0, .sl 0, .sl 1, .sl 2]] ?_
    refine wc 7 [(1, iV a1), (2, .pp 3 0), (67, bV (((decide (0 ≤ a1) && decide (a1 ≤ 16)) && (decide (0 ≤ a0_0) && decide (a0_0 ≤ 100))) && ((a0_1.length : Int) == a1)))] [rI a0_1, rB a0_2, rT a0_3, .rbox [iV a0_0, .sl 0, .sl 1, .sl 2]] ?_
    refine wc 7 [(2, .pp 3 0), (74, bV ((((decide (0 ≤ a1) && decide (a1 ≤ 16)) && (decide (0 ≤ a0_0) && decide (a0_0 ≤ 100))) && ((a0_1.length : Int) == a1)) && ((a0_2.length : Int) == a1)))] [rI a0_1, rB a0_2, rT a0_3, .rbox [iV a0_0, .sl 0, .sl 1, .sl 2]] ?_
    exact vs
   exact fr [0, 1, 2]
  rintro ⟨⟩ h
  try dsimp only
  exact fr [0, 1, 2]
 rintro ⟨⟩ h
 try dsimp only
 exact fr [0, 1, 2]
theorem k_spec_l11All {a0 r} (h : spec_l11All a0 = some r) : KA Tryz.prog 77 [iV a0] [] (.sl 0) [oI r] := by
 unfold spec_l11All at h
 refine FnA.ofA 16 [] [.tmp 2] Tryz.func77 en77 ?_
 refine rg [] [] ?_
 refine rm [] [(3, .sl 0)] [] [oI []] ?_
 refine awp_seq fun K14 hK14 => ?_
 refine rg [] [(4, iV 0)] ?_
 refine awp_block ?_
 refine lp h (fun (t4, t3s) => [(0, iV a0), (3, .sl 0), (4, iV t4)]) (fun (t4, t3s) => [oI t3s]) (fun _ => Exit.exit 0) (fun t3s_1 => [(3, .sl 0)]) (fun t3s_1 => [oI t3s_1]) ?_ ?_
 ·rintro ⟨t4, t3s⟩ r h
  unfold spec_l11All_b0 at h
  try dsimp only
  refine awp_seq fun K24 hK24 => ?_
  refine rg [] [(8, bV (decide (t4 < a0)))] ?_
  refine awp_if h ?_ ?_ <;> intro hc h
  ·refine sk hK24 ?_
   refine awp_seq fun K26 hK26 => ?_
   refine awp_block ?_
   replace ⟨p, h⟩ := k1 h
   refine em [8] [] [(0, oI (t3s ++ [t4]))] [oI [t4]] ?_
   refine hK26 _ _ ?_
   replace ⟨p, h⟩ := k1 h
   refine eg [4] [(4, iV (t4 + 1))] ?_
   exact lns [0]
  exact lo
 rintro t3s_1 h
 try dsimp only
 refine hK14 _ _ ?_
 refine rg [3] [(2, .sl 0)] ?_
 exact fr [0]
theorem k_spec_ValuesFor {a0 a1 r} (h : spec_ValuesFor a0 a1 = some r) : KA Tryz.prog 95 [.sl 0, iV a1] [rT a0] (.sl 1) [rT a0, oI r] := by
 unfold spec_ValuesFor at h
 refine FnA.ofA 35 [0] [.tmp 4] Tryz.func95 en95 ?_
 refine rg [] [] ?_
 refine rm [] [(5, .sl 1)] [] [oI []] ?_
 refine awp_seq fun K17 hK17 => ?_
 refine rg [] [(6, iV 0)] ?_
 refine awp_block ?_
 refine lp h (fun (t6, t5s) => [(0, .sl 0), (1, iV a1), (5, .sl 1), (6, iV t6)]) (fun (t6, t5s) => [rT a0, oI t5s]) (fun _ => Exit.exit 0) (fun t5s_1 => [(5, .sl 1)]) (fun t5s_1 => [rT a0, oI t5s_1]) ?_ ?_
 ·rintro ⟨t6, t5s⟩ r h
  unfold spec_ValuesFor_b0 at h
  try dsimp only
  refine awp_seq fun K29 hK29 => ?_
  refine rg [] [(16, bV ((decide (t6 < (a0.length : Int))) && (decide ((a0.length : Int) ≤ 2000))))] ?_
  refine awp_if h ?_ ?_ <;> intro hc h
  ·refine sk hK29 ?_
   refine awp_join h (fun t5s_2 => [(0, .sl 0), (1, iV a1), (5, .sl 1), (6, iV t6)]) (fun t5s_2 => [rT a0, oI t5s_2]) ?_ ?_
   ·intro k h
    refine awp_block ?_
    replace ⟨p, h⟩ := k1 h
    refine rg [16] [(25, bV ((a0.getD t6.toNat (0, 0, 0)).1 == a1))] ?_
    refine awp_if h ?_ ?_ <;> intro hc h
    ·replace ⟨p, h⟩ := k2 h
     refine em [25] [] [(1, oI (t5s ++ [(a0.getD t6.toNat (0, 0, 0)).2.1]))] [oI [(a0.getD t6.toNat (0, 0, 0)).2.1]] ?_
     exact jos [0, 1]
    refine awp_skip ?_
    exact jo
   rintro t5s_2 h
   try dsimp only
   replace ⟨p, h⟩ := k1 h
   refine eg [6] [(6, iV (t6 + 1))] ?_
   exact ln
  exact lo
 rintro t5s_1 h
 try dsimp only
 refine hK17 _ _ ?_
 refine rg [5] [(4, .sl 1)] ?_
 exact fr [0, 1]
theorem k_spec_l10Least {a0 r} (h : spec_l10Least a0 = some r) : KA Tryz.prog 104 [.sl 0] [rI a0] (iV r) [rI a0] := by
 unfold spec_l10Least at h
 refine FnA.ofA 21 [0] [.tmp 2] Tryz.func104 en104 ?_
 refine rg [] [] ?_
 replace ⟨p, h⟩ := k1 h
 refine rg [] [(3, iV (a0.getD 0 0))] ?_
 refine awp_seq fun K14 hK14 => ?_
 refine rg [] [(4, iV 1)] ?_
 refine awp_block ?_
 refine lp h (fun (t3, t4) => [(0, .sl 0), (3, iV t3), (4, iV t4)]) (fun (t3, t4) => [rI a0]) (fun _ => Exit.exit 0) (fun t3_1 => [(3, iV t3_1)]) (fun t3_1 => [rI a0]) ?_ ?_
 ·rintro ⟨t3, t4⟩ r h
  unfold spec_l10Least_b0 at h
  try dsimp only
  refine awp_seq fun K24 hK24 => ?_
  refine rg [] [(11, bV (decide (t4 < (a0.length : Int))))] ?_
  refine awp_if h ?_ ?_ <;> intro hc h
  ·refine sk hK24 ?_
   refine awp_seq fun K26 hK26 => ?_
   refine awp_block ?_
   replace ⟨p, h⟩ := k1 h
   refine eg [3, 11] [(3, iV (min t3 (a0.getD t4.toNat 0)))] ?_
   refine hK26 _ _ ?_
   replace ⟨p, h⟩ := k1 h
   refine eg [4] [(4, iV (t4 + 1))] ?_
   exact ln
  exact lo
 rintro t3_1 h
 try dsimp only
 refine hK14 _ _ ?_
 refine rg [3] [(2, iV t3_1)] ?_
 exact fr [0]
theorem k_spec_NextOf {a0_0 a0_1 a1 r} (h : spec_NextOf a0_0 a0_1 a1 = some r) : KA Tryz.prog 105 [.agg [iV a0_0, .sl 0], iV a1] [rT a0_1] (.sl 1) [rT a0_1, oI r] := by
 unfold spec_NextOf at h
 refine FnA.ofA 37 [0] [.tmp 4] Tryz.func105 en105 ?_
 refine rm [0] [(2, .pp 1 0)] [] [.box [iV a0_0, .sl 0]] ?_
 refine fz 2 ?_
 refine rm [] [(5, .sl 2)] [] [oI []] ?_
 refine awp_seq fun K17 hK17 => ?_
 refine rg [] [(6, iV 0)] ?_
 refine awp_block ?_
 refine lp h (fun (t6, t5s) => [(1, iV a1), (2, .pp 1 0), (5, .sl 2), (6, iV t6)]) (fun (t6, t5s) => [rT a0_1, .rbox [iV a0_0, .sl 0], oI t5s]) (fun _ => Exit.exit 0) (fun t5s_1 => [(5, .sl 1)]) (fun t5s_1 => [rT a0_1, oI t5s_1]) ?_ ?_
 ·rintro ⟨t6, t5s⟩ r h
  unfold spec_NextOf_b0 at h
  try dsimp only
  refine awp_seq fun K29 hK29 => ?_
  replace ⟨y, hr0, h⟩ := bd h
  refine awp_t [] [(16, bV ((decide (t6 < (a0_1.length : Int))) && y))] [] [] ?_ ?_
  ·intro K hK
   refine awp_region ftCOk ?_
   exact au8
  refine awp_if h ?_ ?_ <;> intro hc h
  ·refine sk hK29 ?_
   refine awp_join h (fun t5s_2 => [(1, iV a1), (2, .pp 1 0), (5, .sl 2), (6, iV t6)]) (fun t5s_2 => [rT a0_1, .rbox [iV a0_0, .sl 0], oI t5s_2]) ?_ ?_
   ·intro k h
    refine awp_block ?_
    replace ⟨p, h⟩ := k1 h
    refine rg [16] [(26, bV ((a0_1.getD t6.toNat (0, 0, 0)).1 == a1))] ?_
    refine awp_if h ?_ ?_ <;> intro hc h
    ·replace ⟨p, h⟩ := k2 h
     refine em [26] [] [(2, oI (t5s ++ [(a0_1.getD t6.toNat (0, 0, 0)).2.1]))] [oI [(a0_1.getD t6.toNat (0, 0, 0)).2.1]] ?_
     exact jos [0, 1, 2]
    refine awp_skip ?_
    exact jo
   rintro t5s_2 h
   try dsimp only
   replace ⟨p, h⟩ := k1 h
   refine eg [6] [(6, iV (t6 + 1))] ?_
   exact ln
  exact los [0, 2]
 rintro t5s_1 h
 try dsimp only
 refine hK17 _ _ ?_
 refine rg [5] [(4, .sl 1)] ?_
 exact fr [0, 1]
theorem k_spec_WeightOf {a0_0 a0_1 a1 a2 r} (h : spec_WeightOf a0_0 a0_1 a1 a2 = some r) : KA Tryz.prog 106 [.agg [iV a0_0, .sl 0], iV a1, iV a2] [rT a0_1] (iV r) [rT a0_1] := by
 unfold spec_WeightOf at h
 refine FnA.ofA 43 [0] [.tmp 6] Tryz.func106 en106 ?_
 refine rm [0] [(3, .pp 1 0)] [] [.box [iV a0_0, .sl 0]] ?_
 refine fz 3 ?_
 refine awp_seq fun K20 hK20 => ?_
 refine rg [] [(7, iV 0)] ?_
 refine awp_block ?_
 refine lp2 h (fun t7 => [(1, iV a1), (2, iV a2), (3, .pp 1 0), (7, iV t7)]) (fun t7 => [rT a0_1, .rbox [iV a0_0, .sl 0]]) (fun _ => Exit.exit 0) (fun _ => []) (fun _ => [rT a0_1]) (fun _ => Exit.ret) (fun t6 => [(6, iV t6)]) (fun t6 => [rT a0_1]) ?_ ?_ ?_
 ·rintro t7 r h
  unfold spec_WeightOf_b0 at h
  try dsimp only
  refine awp_seq fun K34 hK34 => ?_
  replace ⟨y, hr0, h⟩ := bd h
  refine awp_t [] [(16, bV ((decide (t7 < (a0_1.length : Int))) && y))] [] [] ?_ ?_
  ·intro K hK
   refine awp_region ftCOk ?_
   exact au8
  refine awp_if h ?_ ?_ <;> intro hc h
  ·refine sk hK34 ?_
   refine awp_seq fun K37 hK37 => ?_
   refine awp_block ?_
   replace ⟨⟨_, hp1⟩, h⟩ := k2 h
   refine rm [16] [(36, bV (((a0_1.getD t7.toNat (0, 0, 0)).1 == a1) && ((a0_1.getD t7.toNat (0, 0, 0)).2.1 == a2)))] [] [] ?_
   refine awp_if h ?_ ?_ <;> intro hc h
   ·replace ⟨p, h⟩ := k1 h
    refine rg [1, 2, 3, 7, 36] [(6, iV ((a0_1.getD t7.toNat (0, 0, 0)).2.2))] ?_
    exact lors [0]
   refine sk hK37 ?_
   replace ⟨p, h⟩ := k1 h
   refine eg [7, 36] [(7, iV (t7 + 1))] ?_
   exact ln
  exact los [0]
 ·rintro ⟨⟩ h
  try dsimp only
  refine hK20 _ _ ?_
  refine rg [] [(6, iV (-1))] ?_
  exact fr [0]
 rintro t6 h
 try dsimp only
 exact fr [0]
theorem k_spec_NearOf {a0_0 a0_1 a1 r} (h : spec_NearOf a0_0 a0_1 a1 = some r) : KA Tryz.prog 108 [.agg [iV a0_0, .sl 0], iV a1] [rT a0_1] (.sl 1) [rT a0_1, oI r] := by
 unfold spec_NearOf at h
 refine FnA.ofA 64 [0] [.tmp 4] Tryz.func108 en108 ?_
 refine rm [0] [(2, .pp 1 0)] [] [.box [iV a0_0, .sl 0]] ?_
 refine fz 2 ?_
 refine rm [] [(5, .sl 2)] [] [oI []] ?_
 refine awp_seq fun K179 hK179 => ?_
 refine rg [] [(6, iV 0)] ?_
 refine awp_block ?_
 refine lp h (fun (t6, t5s) => [(1, iV a1), (2, .pp 1 0), (5, .sl 2), (6, iV t6)]) (fun (t6, t5s) => [rT a0_1, .rbox [iV a0_0, .sl 0], oI t5s]) (fun _ => Exit.exit 0) (fun t5s_1 => [(5, .sl 1)]) (fun t5s_1 => [rT a0_1, oI t5s_1]) ?_ ?_
 ·rintro ⟨t6, t5s⟩ r h
  unfold spec_NearOf_b1 at h
  try dsimp only
  refine awp_seq fun K299 hK299 => ?_
  replace ⟨y, hr0, h⟩ := bd h
  refine awp_t [] [(18, bV ((decide (t6 < a0_0)) && y))] [] [] ?_ ?_
  ·intro K hK
   refine awp_region ftCOk ?_
   exact au8
  refine awp_if h ?_ ?_ <;> intro hc h
  ·refine sk hK299 ?_
   refine awp_join h (fun t5s_2 => [(1, iV a1), (2, .pp 1 0), (5, .sl 2), (6, iV t6)]) (fun t5s_2 => [rT a0_1, .rbox [iV a0_0, .sl 0], oI t5s_2]) ?_ ?_
   ·intro k h
    refine awp_block ?_
    refine rg [18] [(7, bV false)] ?_
    refine awp_seq fun K342 hK342 => ?_
    refine rg [] [(8, iV 0)] ?_
    refine awp_block ?_
    refine lp h (fun (t7, t8) => [(1, iV a1), (2, .pp 1 0), (5, .sl 2), (6, iV t6), (7, bV t7), (8, iV t8)]) (fun (t7, t8) => [rT a0_1, .rbox [iV a0_0, .sl 0], oI t5s]) (fun _ => Exit.exit 2) (fun t7_1 => [(1, iV a1), (2, .pp 1 0), (5, .sl 2), (6, iV t6), (7, bV t7_1)]) (fun t7_1 => [rT a0_1, .rbox [iV a0_0, .sl 0], oI t5s]) ?_ ?_
    ·rintro ⟨t7, t8⟩ r h
     unfold spec_NearOf_b0 at h
     try dsimp only
     refine awp_seq fun K352 hK352 => ?_
     refine rg [] [(25, bV (decide (t8 < (a0_1.length : Int))))] ?_
     refine awp_if h ?_ ?_ <;> intro hc h
     ·refine sk hK352 ?_
      refine awp_seq fun K354 hK354 => ?_
      refine awp_block ?_
      replace ⟨p, h⟩ := k1 h
      refine rm [25] [(9, .pp 3 0)] [] [.box [iV ((a0_1.getD t8.toNat (0, 0, 0)).1), iV ((a0_1.getD t8.toNat (0, 0, 0)).2.1), iV ((a0_1.getD t8.toNat (0, 0, 0)).2.2)]] ?_
      refine eg [7, 9] [(7, bV ((t7 || (((a0_1.getD t8.toNat (0, 0, 0)).1 == a1) && ((a0_1.getD t8.toNat (0, 0, 0)).2.1 == t6))) || (((a0_1.getD t8.toNat (0, 0, 0)).1 == t6) && ((a0_1.getD t8.toNat (0, 0, 0)).2.1 == a1))))] ?_
      refine hK354 _ _ ?_
      replace ⟨p, h⟩ := k1 h
      refine eg [8] [(8, iV (t8 + 1))] ?_
      exact lns [0, 1, 2]
     exact lo
    rintro t7_1 h
    try dsimp only
    refine hK342 _ _ ?_
    refine rg [7] [(58, bV t7_1)] ?_
    refine awp_if h ?_ ?_ <;> intro hc h
    ·replace ⟨p, h⟩ := k1 h
     refine em [58] [] [(2, oI (t5s ++ [t6]))] [oI [t6]] ?_
     exact jos [0, 1, 2]
    refine awp_skip ?_
    exact jo
   rintro t5s_2 h
   try dsimp only
   replace ⟨p, h⟩ := k1 h
   refine eg [6] [(6, iV (t6 + 1))] ?_
   exact ln
  exact los [0, 2]
 rintro t5s_1 h
 try dsimp only
 refine hK179 _ _ ?_
 refine rg [5] [(4, .sl 1)] ?_
 exact fr [0, 1]
theorem k_spec_l10Send {a0 a1 a2 r} (h : spec_l10Send a0 a1 a2 = some r) : KA Tryz.prog 107 [.sl 0, iV a1, iV a2] [rI a0] (.sl 1) [rI a0, oT r] := by
 unfold spec_l10Send at h
 refine FnA.ofA 27 [0] [.tmp 6] Tryz.func107 en107 ?_
 refine rg [] [] ?_
 refine rm [] [(7, .sl 1)] [] [oT []] ?_
 refine awp_seq fun K14 hK14 => ?_
 refine rg [] [(8, iV 0)] ?_
 refine awp_block ?_
 refine lp h (fun (t8, t7s) => [(0, .sl 0), (1, iV a1), (2, iV a2), (7, .sl 1), (8, iV t8)]) (fun (t8, t7s) => [rI a0, oT t7s]) (fun _ => Exit.exit 0) (fun t7s_1 => [(7, .sl 1)]) (fun t7s_1 => [rI a0, oT t7s_1]) ?_ ?_
 ·rintro ⟨t8, t7s⟩ r h
  unfold spec_l10Send_b0 at h
  try dsimp only
  refine awp_seq fun K24 hK24 => ?_
  refine rg [] [(13, bV (decide (t8 < (a0.length : Int))))] ?_
  refine awp_if h ?_ ?_ <;> intro hc h
  ·refine sk hK24 ?_
   refine awp_seq fun K26 hK26 => ?_
   refine awp_block ?_
   replace ⟨p, h⟩ := k2 h
   refine em [13] [] [(1, oT (t7s ++ [((a0.getD t8.toNat 0), a1, a2)]))] [oT [((a0.getD t8.toNat 0), a1, a2)]] ?_
   refine hK26 _ _ ?_
   replace ⟨p, h⟩ := k1 h
   refine eg [8] [(8, iV (t8 + 1))] ?_
   exact lns [0, 1]
  exact lo
 rintro t7s_1 h
 try dsimp only
 refine hK14 _ _ ?_
 refine rg [7] [(6, .sl 1)] ?_
 exact fr [0, 1]
theorem k_spec_MostFrequent {a0 r} (h : spec_MostFrequent a0 = some r) : KA Tryz.prog 109 [.sl 0] [rI a0] (iV r) [rI a0] := by
 unfold spec_MostFrequent at h
 refine FnA.ofA 53 [0] [.tmp 2] Tryz.func109 en109 ?_
 refine rg [] [] ?_
 refine rg [] [(3, iV 0)] ?_
 refine rg [] [(4, iV 0)] ?_
 refine awp_seq fun K215 hK215 => ?_
 refine rg [] [(5, iV 0)] ?_
 refine awp_block ?_
 refine lp h (fun (t3, t4, t5) => [(0, .sl 0), (3, iV t3), (4, iV t4), (5, iV t5)]) (fun (t3, t4, t5) => [rI a0]) (fun _ => Exit.exit 0) (fun t3_1 => [(3, iV t3_1)]) (fun t3_1 => [rI a0]) ?_ ?_
 ·rintro ⟨t3, t4, t5⟩ r h
  unfold spec_MostFrequent_b1 at h
  try dsimp only
  refine awp_seq fun K359 hK359 => ?_
  refine rg [] [(11, bV (decide (t5 < (a0.length : Int))))] ?_
  refine awp_if h ?_ ?_ <;> intro hc h
  ·refine sk hK359 ?_
   refine awp_join h (fun (t3_2, t4_1) => [(0, .sl 0), (3, iV t3_2), (4, iV t4_1), (5, iV t5)]) (fun (t3_2, t4_1) => [rI a0]) ?_ ?_
   ·intro k h
    refine awp_block ?_
    refine rg [11] [(6, iV 0)] ?_
    refine awp_seq fun K411 hK411 => ?_
    refine rg [] [(7, iV 0)] ?_
    refine awp_block ?_
    refine lp h (fun (t6, t7) => [(0, .sl 0), (3, iV t3), (4, iV t4), (5, iV t5), (6, iV t6), (7, iV t7)]) (fun (t6, t7) => [rI a0]) (fun _ => Exit.exit 2) (fun t6_1 => [(0, .sl 0), (3, iV t3), (4, iV t4), (5, iV t5), (6, iV t6_1)]) (fun t6_1 => [rI a0]) ?_ ?_
    ·rintro ⟨t6, t7⟩ r h
     unfold spec_MostFrequent_b0 at h
     try dsimp only
     refine awp_seq fun K423 hK423 => ?_
     refine rg [] [(17, bV (decide (t7 < (a0.length : Int))))] ?_
     refine awp_if h ?_ ?_ <;> intro hc h
     ·refine sk hK423 ?_
      refine awp_join h (fun t6_2 => [(0, .sl 0), (3, iV t3), (4, iV t4), (5, iV t5), (6, iV t6_2), (7, iV t7)]) (fun t6_2 => [rI a0]) ?_ ?_
      ·intro k_1 h
       refine awp_block ?_
       replace ⟨p, h⟩ := k2 h
       refine qg [17] [(28, bV ((a0.getD t7.toNat 0) == (a0.getD t5.toNat 0)))] ?_
       refine awp_if h ?_ ?_ <;> intro hc h
       ·replace ⟨p, h⟩ := k1 h
        refine eg [6, 28] [(6, iV (t6 + 1))] ?_
        exact jo
       refine awp_skip ?_
       exact jo
      rintro t6_2 h
      try dsimp only
      replace ⟨p, h⟩ := k1 h
      refine eg [7] [(7, iV (t7 + 1))] ?_
      exact ln
     exact lo
    rintro t6_1 h
    try dsimp only
    refine hK411 _ _ ?_
    replace ⟨hp0, h⟩ := k1 h
    refine rm [] [(46, bV ((decide (t4 < t6_1)) || ((t6_1 == t4) && (decide ((a0.getD t5.toNat 0) < t3)))))] [] [] ?_
    refine awp_if h ?_ ?_ <;> intro hc h
    ·replace ⟨p, h⟩ := k1 h
     refine rg [3, 4, 46] [(3, iV (a0.getD t5.toNat 0))] ?_
     refine eg [6] [(4, iV t6_1)] ?_
     exact jo
    refine awp_skip ?_
    exact jo
   rintro ⟨t3_2, t4_1⟩ h
   try dsimp only
   replace ⟨p, h⟩ := k1 h
   refine eg [5] [(5, iV (t5 + 1))] ?_
   exact ln
  exact lo
 rintro t3_1 h
 try dsimp only
 refine hK215 _ _ ?_
 refine rg [3] [(2, iV t3_1)] ?_
 exact fr [0]
theorem k_spec_ManyAtLeast {a0 r} (h : spec_ManyAtLeast a0 = some r) : KA Tryz.prog 110 [.sl 0] [rI a0] (iV r) [rI a0] := by
 unfold spec_ManyAtLeast at h
 refine FnA.ofA 33 [0] [.tmp 2] Tryz.func110 en110 ?_
 refine rg [] [] ?_
 refine rg [] [(3, iV 0)] ?_
 refine awp_seq fun K119 hK119 => ?_
 refine awp_block ?_
 refine lp2 h (fun t3 => [(0, .sl 0), (3, iV t3)]) (fun t3 => [rI a0]) (fun _ => Exit.exit 0) (fun t3_1 => [(3, iV t3_1)]) (fun t3_1 => [rI a0]) (fun _ => Exit.ret) (fun t2 => [(2, iV t2)]) (fun t2 => [rI a0]) ?_ ?_ ?_
 ·rintro t3 r h
  unfold spec_ManyAtLeast_b1 at h
  try dsimp only
  refine awp_seq fun K199 hK199 => ?_
  refine rg [] [(9, bV (decide (t3 < (a0.length : Int))))] ?_
  refine awp_if h ?_ ?_ <;> intro hc h
  ·refine sk hK199 ?_
   refine awp_block ?_
   refine rg [9] [(4, iV 0)] ?_
   refine awp_seq fun K217 hK217 => ?_
   refine rg [] [(5, iV 0)] ?_
   refine awp_block ?_
   refine lp h (fun (t4, t5) => [(0, .sl 0), (3, iV t3), (4, iV t4), (5, iV t5)]) (fun (t4, t5) => [rI a0]) (fun _ => Exit.exit 2) (fun t4_1 => [(0, .sl 0), (3, iV t3), (4, iV t4_1)]) (fun t4_1 => [rI a0]) ?_ ?_
   ·rintro ⟨t4, t5⟩ r h
    unfold spec_ManyAtLeast_b0 at h
    try dsimp only
    refine awp_seq fun K229 hK229 => ?_
    refine rg [] [(13, bV (decide (t5 < (a0.length : Int))))] ?_
    refine awp_if h ?_ ?_ <;> intro hc h
    ·refine sk hK229 ?_
     refine awp_join h (fun t4_2 => [(0, .sl 0), (3, iV t3), (4, iV t4_2), (5, iV t5)]) (fun t4_2 => [rI a0]) ?_ ?_
     ·intro k h
      refine awp_block ?_
      replace ⟨p, h⟩ := k2 h
      refine rg [13] [(22, bV (decide ((t3 + 1) ≤ (a0.getD t5.toNat 0))))] ?_
      refine awp_if h ?_ ?_ <;> intro hc h
      ·replace ⟨p, h⟩ := k1 h
       refine eg [4, 22] [(4, iV (t4 + 1))] ?_
       exact jo
      refine awp_skip ?_
      exact jo
     rintro t4_2 h
     try dsimp only
     replace ⟨p, h⟩ := k1 h
     refine eg [5] [(5, iV (t5 + 1))] ?_
     exact ln
    exact lo
   rintro t4_1 h
   try dsimp only
   refine hK217 _ _ ?_
   refine awp_seq fun K235 hK235 => ?_
   replace ⟨p, h⟩ := k1 h
   refine rg [4] [(28, bV (decide (t4_1 < (t3 + 1))))] ?_
   refine awp_if h ?_ ?_ <;> intro hc h
   ·refine rg [0, 3, 28] [(2, iV t3)] ?_
    exact lor
   refine sk hK235 ?_
   replace ⟨p, h⟩ := k1 h
   refine eg [3, 28] [(3, iV (t3 + 1))] ?_
   refine nm ?_
   exact ln
  exact lo
 ·rintro t3_1 h
  try dsimp only
  refine hK119 _ _ ?_
  refine rg [3] [(2, iV t3_1)] ?_
  exact fr [0]
 rintro t2 h
 try dsimp only
 exact fr [0]
theorem k_spec_l10Greater {a0_0 a0_1 a1 r} (h : spec_l10Greater a0_0 a0_1 a1 = some r) : KA Tryz.prog 111 [.agg [iV a0_0, .sl 0], iV a1] [rT a0_1] (.sl 1) [rT a0_1, oI r] := by
 unfold spec_l10Greater at h
 refine FnA.ofA 32 [0] [.tmp 4] Tryz.func111 en111 ?_
 refine rm [0] [(2, .pp 1 0)] [] [.box [iV a0_0, .sl 0]] ?_
 refine fz 2 ?_
 refine rm [] [(5, .sl 2)] [] [oI []] ?_
 replace ⟨y, hr0, h⟩ := bd h
 refine rc [2] [(6, .sl 3)] [] [oI y] [⟨2, [0], k_spec_NearOf hr0⟩] ?_
 refine awp_seq fun K17 hK17 => ?_
 refine rg [] [(7, iV 0)] ?_
 refine awp_block ?_
 refine lp h (fun (t7, t5s) => [(1, iV a1), (5, .sl 1), (6, .sl 2), (7, iV t7)]) (fun (t7, t5s) => [rT a0_1, oI t5s, oI y]) (fun _ => Exit.exit 0) (fun t5s_1 => [(5, .sl 1)]) (fun t5s_1 => [rT a0_1, oI t5s_1]) ?_ ?_ (h0 := Red.selA [0, 2, 3] Red.auto)
 ·rintro ⟨t7, t5s⟩ r h
  unfold spec_l10Greater_b0 at h
  try dsimp only
  refine awp_seq fun K29 hK29 => ?_
  refine rg [] [(15, bV (decide (t7 < (y.length : Int))))] ?_
  refine awp_if h ?_ ?_ <;> intro hc h
  ·refine sk hK29 ?_
   refine awp_join h (fun t5s_2 => [(1, iV a1), (5, .sl 1), (6, .sl 2), (7, iV t7)]) (fun t5s_2 => [rT a0_1, oI t5s_2, oI y]) ?_ ?_
   ·intro k h
    refine awp_block ?_
    replace ⟨p, h⟩ := k1 h
    refine rg [15] [(23, bV (decide (a1 < (y.getD t7.toNat 0))))] ?_
    refine awp_if h ?_ ?_ <;> intro hc h
    ·replace ⟨p, h⟩ := k2 h
     refine em [23] [] [(1, oI (t5s ++ [(y.getD t7.toNat 0)]))] [oI [(y.getD t7.toNat 0)]] ?_
     exact jos [0, 1, 2]
    refine awp_skip ?_
    exact jo
   rintro t5s_2 h
   try dsimp only
   replace ⟨p, h⟩ := k1 h
   refine eg [7] [(7, iV (t7 + 1))] ?_
   exact ln
  exact los [0, 1]
 rintro t5s_1 h
 try dsimp only
 refine hK17 _ _ ?_
 refine rg [5] [(4, .sl 1)] ?_
 exact fr [0, 1]
theorem k_spec_l7Has {a0 a1 r} (h : spec_l7Has a0 a1 = some r) : KA Tryz.prog 112 [.sl 0, iV a1] [rI a0] (bV r) [rI a0] := by
 unfold spec_l7Has at h
 refine FnA.ofA 18 [0] [.tmp 4] Tryz.func112 en112 ?_
 refine rg [] [] ?_
 refine awp_seq fun K20 hK20 => ?_
 refine rg [] [(5, iV 0)] ?_
 refine awp_block ?_
 refine lp2 h (fun t5 => [(0, .sl 0), (1, iV a1), (5, iV t5)]) (fun t5 => [rI a0]) (fun _ => Exit.exit 0) (fun _ => []) (fun _ => [rI a0]) (fun _ => Exit.ret) (fun _ => [(4, bV true)]) (fun _ => [rI a0]) ?_ ?_ ?_
 ·rintro t5 r h
  unfold spec_l7Has_b0 at h
  try dsimp only
  refine awp_seq fun K34 hK34 => ?_
  refine rg [] [(9, bV (decide (t5 < (a0.length : Int))))] ?_
  refine awp_if h ?_ ?_ <;> intro hc h
  ·refine sk hK34 ?_
   refine awp_seq fun K37 hK37 => ?_
   refine awp_block ?_
   replace ⟨p, h⟩ := k1 h
   refine rg [9] [(17, bV ((a0.getD t5.toNat 0) == a1))] ?_
   refine awp_if h ?_ ?_ <;> intro hc h
   ·refine rg [0, 1, 5, 17] [(4, bV true)] ?_
    exact lor
   refine sk hK37 ?_
   replace ⟨p, h⟩ := k1 h
   refine eg [5, 17] [(5, iV (t5 + 1))] ?_
   exact ln
  exact lo
 ·rintro ⟨⟩ h
  try dsimp only
  refine hK20 _ _ ?_
  refine rg [] [(4, bV false)] ?_
  exact fr [0]
 rintro ⟨⟩ h
 try dsimp only
 exact fr [0]
theorem k_spec_l10Step {a0_0 a0_1 a1_0 a1_1 a1_2 a2 a3 a4 a5 r} (h : spec_l10Step a0_0 a0_1 a1_0 a1_1 a1_2 a2 a3 a4 a5 = some r) : KA Tryz.prog 96 [.agg [iV a0_0, .sl 0], .agg [iV a1_0, iV a1_1, iV a1_2], iV a2, iV a3, iV a4, .sl 1] [rT a0_1, rI a5] (.tup [iV r.1, .sl 2, bV r.2.2]) [rT a0_1, rI a5, oT r.2.1] := by
 unfold spec_l10Step at h
 refine FnA.ofA 227 [0, 1] [.tmp 12, .tmp 13, .tmp 14] Tryz.func96 en96 ?_
 refine rm [0, 1] [(6, .pp 2 0), (7, .pp 3 0)] [] [.box [iV a0_0, .sl 0], .box [iV a1_0, iV a1_1, iV a1_2]] ?_
 refine fz 6 ?_
 refine fz 7 ?_
 refine rm [] [(15, .sl 4)] [] [oT []] ?_
 refine awp_seq fun K81 hK81 => ?_
 refine rg [] [(27, iV a1_0)] ?_
 refine awp_block ?_
 refine awp_join h (fun t28 => [(2, iV a2), (3, iV a3), (4, iV a4), (5, .sl 1), (6, .pp 2 0), (7, .pp 3 0), (15, .sl 4), (27, iV a1_0), (28, bV t28)]) (fun t28 => [rT a0_1, rI a5, .rbox [iV a0_0, .sl 0], .rbox [iV a1_0, iV a1_1, iV a1_2], oT []]) ?_ ?_
 ·intro k h
  refine rg [] [(28, bV (a1_0 == 1))] ?_
  refine awp_if h ?_ ?_ <;> intro hc h
  ·refine awp_skip ?_
   exact jo
  refine eg [28] [(28, bV (a1_0 == 2))] ?_
  exact jo
 rintro t28 h
 try dsimp only
 refine awp_if h ?_ ?_ <;> intro hc h
 ·refine rg [27, 28] [(16, bV ((a2 == 0) && (a3 == a1_1)))] ?_
  refine awp_join h (fun t4 => [(2, iV a2), (3, iV a3), (4, iV t4), (5, .sl 1), (6, .pp 2 0), (7, .pp 3 0), (15, .sl 4), (16, bV ((a2 == 0) && (a3 == a1_1)))]) (fun t4 => [rT a0_1, rI a5, .rbox [iV a0_0, .sl 0], .rbox [iV a1_0, iV a1_1, iV a1_2], oT []]) ?_ ?_
  ·intro k_1 h
   refine rg [] [(40, bV (a2 == 0))] ?_
   refine awp_if h ?_ ?_ <;> intro hc h
   ·refine eg [4, 40] [(4, iV (-1))] ?_
    exact jo
   refine awp_skip ?_
   exact jo
  rintro t4 h
  try dsimp only
  refine awp_join h (fun t4_1 => [(2, iV a2), (3, iV a3), (4, iV t4_1), (5, .sl 1), (6, .pp 2 0), (7, .pp 3 0), (15, .sl 4), (16, bV ((a2 == 0) && (a3 == a1_1)))]) (fun t4_1 => [rT a0_1, rI a5, .rbox [iV a0_0, .sl 0], .rbox [iV a1_0, iV a1_1, iV a1_2], oT []]) ?_ ?_
  ·intro k_2 h
   refine rg [] [(41, bV ((a2 == 0) && (a3 == a1_1)))] ?_
   refine awp_if h ?_ ?_ <;> intro hc h
   ·refine eg [4, 41] [(4, iV 0)] ?_
    exact jo
   refine awp_skip ?_
   exact jo
  rintro t4_1 h
  try dsimp only
  refine awp_join h (fun (t4_2, t16) => [(3, iV a3), (4, iV t4_2), (6, .pp 2 0), (7, .pp 3 0), (15, .sl 4), (16, bV t16)]) (fun (t4_2, t16) => [rT a0_1, rI a5, .rbox [iV a0_0, .sl 0], .rbox [iV a1_0, iV a1_1, iV a1_2], oT []]) ?_ ?_
  ·intro k_3 h
   refine rg [2] [(48, bV ((decide (0 < a2)) && (decide (0 < (a5.length : Int)))))] ?_
   refine awp_if h ?_ ?_ <;> intro hc h
   ·replace ⟨y, hr0, h⟩ := bd h
    refine rc [5, 48] [(17, iV y)] [] [] [⟨1, [1], k_spec_l10Least hr0⟩] ?_
    refine rg [] [(57, bV ((decide (t4_1 < 0)) || (decide (y < t4_1))))] ?_
    refine awp_if h ?_ ?_ <;> intro hc h
    ·refine rg [4, 16, 17, 57] [(4, iV y)] ?_
     refine eg [] [(16, bV true)] ?_
     exact jo
    refine awp_skip ?_
    exact jo
   refine awp_skip ?_
   exact jo
  rintro ⟨t4_2, t16⟩ h
  try dsimp only
  replace ⟨y_1, hr0, h⟩ := bd h
  refine rc [] [(18, .sl 5)] [] [oI y_1] [⟨2, [0], k_spec_NextOf hr0⟩] ?_
  refine awp_seq fun K118 hK118 => ?_
  refine rg [] [(19, iV 0)] ?_
  refine awp_block ?_
  refine lp h (fun (t19, t15s) => [(3, iV a3), (4, iV t4_2), (6, .pp 2 0), (7, .pp 3 0), (15, .sl 4), (16, bV t16), (18, .sl 5), (19, iV t19)]) (fun (t19, t15s) => [rT a0_1, rI a5, .rbox [iV a0_0, .sl 0], .rbox [iV a1_0, iV a1_1, iV a1_2], oT t15s, oI y_1]) (fun _ => Exit.exit 1) (fun t15s_1 => [(4, iV t4_2), (15, .sl 2)]) (fun t15s_1 => [rT a0_1, rI a5, oT t15s_1]) ?_ ?_
  ·rintro ⟨t19, t15s⟩ r h
   unfold spec_l10Step_b0 at h
   try dsimp only
   refine awp_seq fun K136 hK136 => ?_
   refine rg [] [(68, bV ((decide (t19 < (y_1.length : Int))) && t16))] ?_
   refine awp_if h ?_ ?_ <;> intro hc h
   ·refine sk hK136 ?_
    refine awp_seq fun K140 hK140 => ?_
    refine awp_block ?_
    refine rg [68] [(20, iV 1)] ?_
    refine awp_join h (fun t20 => [(3, iV a3), (4, iV t4_2), (6, .pp 2 0), (7, .pp 3 0), (15, .sl 4), (16, bV t16), (18, .sl 5), (19, iV t19), (20, iV t20)]) (fun t20 => [rT a0_1, rI a5, .rbox [iV a0_0, .sl 0], .rbox [iV a1_0, iV a1_1, iV a1_2], oT t15s, oI y_1]) ?_ ?_
    ·intro k_4 h
     refine rg [] [(73, bV (a1_0 == 2))] ?_
     refine awp_if h ?_ ?_ <;> intro hc h
     ·replace ⟨p, h⟩ := k1 h
      replace ⟨y_2, hr1, h⟩ := bd h
      have c0 := cm [0] (k_spec_WeightOf hr1)
      refine de (.free 1 (.free 2 (.free 3 (.free 0 (.one 4 (.one 5 (.one 6 (.one 7 .fin)))))))) [20, 73] [(20, iV y_2)] [] [] ?_
      exact jo
     refine awp_skip ?_
     exact jo
    rintro t20 h
    try dsimp only
    replace ⟨p, h⟩ := k3 h
    refine em [20] [] [(4, oT (t15s ++ [((y_1.getD t19.toNat 0), (t4_2 + t20), a3)]))] [oT [((y_1.getD t19.toNat 0), (t4_2 + t20), a3)]] ?_
    refine hK140 _ _ ?_
    replace ⟨p, h⟩ := k1 h
    refine eg [19] [(19, iV (t19 + 1))] ?_
    exact lns [0, 1, 2, 3, 4, 5]
   exact los [0, 1, 4]
  rintro t15s_1 h
  try dsimp only
  refine hK118 _ _ ?_
  refine rg [4, 15] [(12, iV t4_2), (13, .sl 2), (14, bV false)] ?_
  exact fr [0, 1, 2]
 refine rg [28] [(95, bV (a1_0 == 3))] ?_
 refine awp_if h ?_ ?_ <;> intro hc h
 ·refine awp_seq fun K146 hK146 => ?_
  refine rg [2, 7, 27, 95] [(98, bV (a2 == 0))] ?_
  refine awp_if h ?_ ?_ <;> intro hc h
  ·replace ⟨y_3, hr0, h⟩ := bd h
   replace ⟨y_4, hr1, h⟩ := bd h
   refine rc [3, 4, 5, 6, 15, 98] [(12, iV a3), (13, .sl 6), (14, bV false)] [] [oI y_3, oT y_4] [⟨3, [0], k_spec_NearOf hr0⟩, ⟨2, [5], k_spec_l10Send hr1⟩] ?_
   exact fr [0, 1, 6]
  refine sk hK146 ?_
  refine awp_join h (fun (t4_3, t15s_2) => [(4, iV t4_3), (15, .sl 2)]) (fun (t4_3, t15s_2) => [rT a0_1, rI a5, oT t15s_2]) ?_ ?_
  ·intro k_5 h
   replace ⟨y_5, hr0, h⟩ := bd h
   have c0 := cm [1] (fun g0 => k_spec_l10Least (bite_t hr0 g0))
   refine rm [98] [(114, bV ((decide (0 < (a5.length : Int))) && (decide (y_5 < a4))))] [] [] ?_
   refine awp_if h ?_ ?_ <;> intro hc h
   ·replace ⟨y_6, hr0, h⟩ := bd h
    refine rc [4, 5, 15, 114] [(4, iV y_6)] [] [] [⟨1, [1], k_spec_l10Least hr0⟩] ?_
    replace ⟨y_7, hr0, h⟩ := bd h
    replace ⟨y_8, hr1, h⟩ := bd h
    refine ec [3, 6] [(15, .sl 6)] [] [oI y_7, oT y_8] [⟨2, [0], k_spec_NearOf hr0⟩, ⟨2, [5], k_spec_l10Send hr1⟩] ?_
    exact jos [0, 1, 6]
   refine awp_skip ?_
   exact jos [0, 1, 4]
  rintro ⟨t4_3, t15s_2⟩ h
  try dsimp only
  refine rg [4, 15] [(12, iV t4_3), (13, .sl 2), (14, bV false)] ?_
  exact fr [0, 1, 2]
 refine rg [95] [(125, bV (a1_0 == 4))] ?_
 refine awp_if h ?_ ?_ <;> intro hc h
 ·refine awp_join h (fun t4_4 => [(2, iV a2), (3, iV a3), (4, iV t4_4), (6, .pp 2 0), (7, .pp 3 0), (15, .sl 4)]) (fun t4_4 => [rT a0_1, rI a5, .rbox [iV a0_0, .sl 0], .rbox [iV a1_0, iV a1_1, iV a1_2], oT []]) ?_ ?_
  ·intro k_6 h
   refine rg [27, 125] [(128, bV (a2 == 0))] ?_
   refine awp_if h ?_ ?_ <;> intro hc h
   ·refine eg [4, 5, 128] [(4, iV a3)] ?_
    exact jo
   refine rg [128] [(132, bV (decide (0 < (a5.length : Int))))] ?_
   refine awp_if h ?_ ?_ <;> intro hc h
   ·replace ⟨y_9, hr0, h⟩ := bd h
    refine ec [4, 5, 132] [(4, iV y_9)] [] [] [⟨1, [1], k_spec_MostFrequent hr0⟩] ?_
    exact jo
   refine awp_skip ?_
   exact jo
  rintro t4_4 h
  try dsimp only
  refine awp_join h (fun t15s_3 => [(2, iV a2), (4, iV t4_4), (7, .pp 2 0), (15, .sl 3)]) (fun t15s_3 => [rT a0_1, rI a5, .rbox [iV a1_0, iV a1_1, iV a1_2], oT t15s_3]) ?_ ?_
  ·intro k_7 h
   refine rg [] [(138, bV (decide (a2 < a1_2)))] ?_
   refine awp_if h ?_ ?_ <;> intro hc h
   ·replace ⟨y_10, hr0, h⟩ := bd h
    replace ⟨y_11, hr1, h⟩ := bd h
    refine ec [3, 6, 15, 138] [(15, .sl 6)] [] [oI y_10, oT y_11] [⟨2, [0], k_spec_NearOf hr0⟩, ⟨2, [5], k_spec_l10Send hr1⟩] ?_
    exact jos [0, 1, 3, 6]
   refine awp_skip ?_
   exact jos [0, 1, 3, 4]
  rintro t15s_3 h
  try dsimp only
  refine qg [2, 4, 7, 15] [(12, iV t4_4), (13, .sl 3), (14, bV (decide (a2 < a1_2)))] ?_
  exact fr [0, 1, 3]
 refine rg [27, 125] [(151, bV (a1_0 == 6))] ?_
 refine awp_if h ?_ ?_ <;> intro hc h
 ·refine awp_join h (fun t4_5 => [(2, iV a2), (3, iV a3), (4, iV t4_5), (6, .pp 2 0), (7, .pp 3 0), (15, .sl 4)]) (fun t4_5 => [rT a0_1, rI a5, .rbox [iV a0_0, .sl 0], .rbox [iV a1_0, iV a1_1, iV a1_2], oT []]) ?_ ?_
  ·intro k_8 h
   refine rg [151] [(154, bV (a2 == 0))] ?_
   refine awp_if h ?_ ?_ <;> intro hc h
   ·replace ⟨y_12, hr0, h⟩ := bd h
    refine ec [4, 5, 154] [(4, iV (y_12.length : Int))] [] [oI y_12] [⟨2, [0], k_spec_NearOf hr0⟩] ?_
    exact jos [0, 1, 2, 3, 4]
   replace ⟨y_13, hr0, h⟩ := bd h
   refine ec [4, 5, 154] [(4, iV (min a4 y_13))] [] [] [⟨2, [1], k_spec_ManyAtLeast hr0⟩] ?_
   exact jo
  rintro t4_5 h
  try dsimp only
  refine awp_join h (fun t15s_4 => [(2, iV a2), (4, iV t4_5), (7, .pp 2 0), (15, .sl 3)]) (fun t15s_4 => [rT a0_1, rI a5, .rbox [iV a1_0, iV a1_1, iV a1_2], oT t15s_4]) ?_ ?_
  ·intro k_9 h
   refine rg [] [(166, bV (decide (a2 < a1_2)))] ?_
   refine awp_if h ?_ ?_ <;> intro hc h
   ·replace ⟨y_14, hr0, h⟩ := bd h
    replace ⟨y_15, hr1, h⟩ := bd h
    refine ec [3, 6, 15, 166] [(15, .sl 6)] [] [oI y_14, oT y_15] [⟨2, [0], k_spec_NearOf hr0⟩, ⟨2, [5], k_spec_l10Send hr1⟩] ?_
    exact jos [0, 1, 3, 6]
   refine awp_skip ?_
   exact jos [0, 1, 3, 4]
  rintro t15s_4 h
  try dsimp only
  refine qg [2, 4, 7, 15] [(12, iV t4_5), (13, .sl 3), (14, bV (decide (a2 < a1_2)))] ?_
  exact fr [0, 1, 3]
 refine sk hK81 ?_
 refine awp_seq fun K191 hK191 => ?_
 refine rg [2, 4, 7, 151] [(179, iV a2)] ?_
 refine awp_block ?_
 refine rg [] [(180, bV (a2 == 0))] ?_
 refine awp_if h ?_ ?_ <;> intro hc h
 ·replace ⟨y_16, hr0, h⟩ := bd h
  replace ⟨y_17, hr1, h⟩ := bd h
  refine rc [3, 5, 6, 15, 179, 180] [(12, iV 0), (13, .sl 6), (14, bV false)] [] [oI y_16, oT y_17] [⟨2, [0], k_spec_l10Greater hr0⟩, ⟨2, [5], k_spec_l10Send hr1⟩] ?_
  exact fr [0, 1, 6]
 refine rg [179, 180] [(188, bV (a2 == 1))] ?_
 refine awp_if h ?_ ?_ <;> intro hc h
 ·refine awp_seq fun K207 hK207 => ?_
  refine rg [188] [(21, iV 0)] ?_
  refine awp_block ?_
  refine lp h (fun (t21, t15s_5) => [(3, iV a3), (5, .sl 1), (6, .pp 2 0), (15, .sl 3), (21, iV t21)]) (fun (t21, t15s_5) => [rT a0_1, rI a5, .rbox [iV a0_0, .sl 0], oT t15s_5]) (fun _ => Exit.exit 4) (fun t15s_6 => [(15, .sl 2)]) (fun t15s_6 => [rT a0_1, rI a5, oT t15s_6]) ?_ ?_ (h0 := Red.selA [0, 1, 2, 4] Red.auto)
  ·rintro ⟨t21, t15s_5⟩ r h
   unfold spec_l10Step_b1 at h
   try dsimp only
   refine awp_seq fun K217 hK217 => ?_
   refine rg [] [(193, bV (decide (t21 < (a5.length : Int))))] ?_
   refine awp_if h ?_ ?_ <;> intro hc h
   ·refine sk hK217 ?_
    refine awp_seq fun K219 hK219 => ?_
    refine awp_block ?_
    replace ⟨p, h⟩ := k1 h
    replace ⟨y_18, hr1, h⟩ := bd h
    replace ⟨y_19, hr2, h⟩ := bd h
    replace ⟨pa, h⟩ := k1 h
    have c0 := cm [0] (k_spec_l10Greater hr1)
    have c1 := cm [4] (k_spec_l10Send hr2)
    refine pe [0, 1, 2] (.free 0 (.free 2 (.free 4 (.free 5 (.free 6 (.free 8 (.free 1 (.free 7 (.one 3 (.one 9 (.one 10 (.one 11 .fin)))))))))))) [193] [] [(3, oT (t15s_5 ++ y_19))] [oI y_18, oT y_19] ?_
    refine hK219 _ _ ?_
    replace ⟨p, h⟩ := k1 h
    refine eg [21] [(21, iV (t21 + 1))] ?_
    exact lns [0, 1, 2, 3]
   exact los [0, 1, 3]
  rintro t15s_6 h
  try dsimp only
  refine hK207 _ _ ?_
  refine rg [15] [(12, iV 0), (13, .sl 2), (14, bV false)] ?_
  exact fr [0, 1, 2]
 refine sk hK191 ?_
 refine rg [188] [(22, iV 0)] ?_
 replace ⟨y_20, hr0, h⟩ := bd h
 refine rc [3, 6] [(23, .sl 5)] [] [oI y_20] [⟨2, [0], k_spec_NearOf hr0⟩] ?_
 refine awp_seq fun K237 hK237 => ?_
 refine rg [] [(24, iV 0)] ?_
 refine awp_block ?_
 refine lp h (fun (t22, t24) => [(5, .sl 1), (15, .sl 2), (22, iV t22), (23, .sl 3), (24, iV t24)]) (fun (t22, t24) => [rT a0_1, rI a5, oT [], oI y_20]) (fun _ => Exit.exit 6) (fun t22_1 => [(15, .sl 2), (22, iV t22_1)]) (fun t22_1 => [rT a0_1, rI a5, oT []]) ?_ ?_ (h0 := Red.selA [0, 1, 4, 5] Red.auto)
 ·rintro ⟨t22, t24⟩ r h
  unfold spec_l10Step_b2 at h
  try dsimp only
  refine awp_seq fun K249 hK249 => ?_
  refine rg [] [(214, bV (decide (t24 < (a5.length : Int))))] ?_
  refine awp_if h ?_ ?_ <;> intro hc h
  ·refine sk hK249 ?_
   refine awp_join h (fun t22_2 => [(5, .sl 1), (15, .sl 2), (22, iV t22_2), (23, .sl 3), (24, iV t24)]) (fun t22_2 => [rT a0_1, rI a5, oT [], oI y_20]) ?_ ?_
   ·intro k_10 h
    refine awp_block ?_
    replace ⟨p, h⟩ := k1 h
    replace ⟨y_21, hr1, h⟩ := bd h
    refine rc [214] [(222, bV y_21)] [] [] [⟨5, [3], k_spec_l7Has hr1⟩] ?_
    refine awp_if h ?_ ?_ <;> intro hc h
    ·replace ⟨p, h⟩ := k1 h
     refine eg [22, 222] [(22, iV (t22 + 1))] ?_
     exact jo
    refine awp_skip ?_
    exact jo
   rintro t22_2 h
   try dsimp only
   replace ⟨p, h⟩ := k1 h
   refine eg [24] [(24, iV (t24 + 1))] ?_
   exact ln
  exact los [0, 1, 2]
 rintro t22_1 h
 try dsimp only
 refine hK237 _ _ ?_
 refine rg [15, 22] [(12, iV t22_1), (13, .sl 2), (14, bV false)] ?_
 exact fr [0, 1, 2]
theorem k_spec_l11Some {a0_0 a0_1 a1_0 a1_1 a1_2 a2_0 a2_1 a2_2 a2_3 a3 r} (h : spec_l11Some a0_0 a0_1 a1_0 a1_1 a1_2 a2_0 a2_1 a2_2 a2_3 a3 = some r) : KA Tryz.prog 76 [.agg [iV a0_0, .sl 0], .agg [iV a1_0, iV a1_1, iV a1_2], .agg [iV a2_0, .sl 1, .sl 2, .sl 3], .sl 4] [rT a0_1, rI a2_1, rB a2_2, rT a2_3, rI a3] (.tup [.sl 5, .sl 6, .sl 7]) [rT a0_1, rI a2_1, rB a2_2, rT a2_3, rI a3, oI r.1, oB r.2.1, oT r.2.2] := by
 unfold spec_l11Some at h
 refine FnA.ofA 84 [0, 1, 2, 3, 4] [.tmp 8, .tmp 9, .tmp 10] Tryz.func76 en76 ?_
 refine rm [0, 1, 2] [(4, .pp 5 0), (5, .pp 6 0), (6, .pp 7 0)] [] [.box [iV a0_0, .sl 0], .box [iV a1_0, iV a1_1, iV a1_2], .box [iV a2_0, .sl 1, .sl 2, .sl 3]] ?_
 refine fz 4 ?_
 refine fz 5 ?_
 refine fz 6 ?_
 replace ⟨p, h⟩ := k1 h
 refine rm [] [(11, .sl 8)] [] [oI ([] ++ a2_1)] ?_
 replace ⟨p, h⟩ := k1 h
 refine rm [] [(12, .sl 9)] [] [oB ([] ++ a2_2)] ?_
 refine rm [] [(13, .sl 10)] [] [oT []] ?_
 refine awp_seq fun K29 hK29 => ?_
 refine rg [] [(14, iV 0)] ?_
 refine awp_block ?_
 refine lp h (fun (t14, t11s, t12s, t13s) => [(3, .sl 4), (4, .pp 5 0), (5, .pp 6 0), (6, .pp 7 0), (11, .sl 8), (12, .sl 9), (13, .sl 10), (14, iV t14)]) (fun (t14, t11s, t12s, t13s) => [rT a0_1, rI a2_1, rB a2_2, rT a2_3, rI a3, .rbox [iV a0_0, .sl 0], .rbox [iV a1_0, iV a1_1, iV a1_2], .rbox [iV a2_0, .sl 1, .sl 2, .sl 3], oI t11s, oB t12s, oT t13s]) (fun _ => Exit.exit 0) (fun (t11s_1, t12s_1, t13s_1) => [(11, .sl 5), (12, .sl 6), (13, .sl 7)]) (fun (t11s_1, t12s_1, t13s_1) => [rT a0_1, rI a2_1, rB a2_2, rT a2_3, rI a3, oI t11s_1, oB t12s_1, oT t13s_1]) ?_ ?_
 ·rintro ⟨t14, t11s, t12s, t13s⟩ r h
  unfold spec_l11Some_b0 at h
  try dsimp only
  refine awp_seq fun K49 hK49 => ?_
  refine rg [] [(32, bV (decide (t14 < (a3.length : Int))))] ?_
  refine awp_if h ?_ ?_ <;> intro hc h
  ·refine sk hK49 ?_
   refine awp_join h (fun (t11s_2, t12s_2, t13s_2) => [(3, .sl 4), (4, .pp 5 0), (5, .pp 6 0), (6, .pp 7 0), (11, .sl 8), (12, .sl 9), (13, .sl 10), (14, iV t14)]) (fun (t11s_2, t12s_2, t13s_2) => [rT a0_1, rI a2_1, rB a2_2, rT a2_3, rI a3, .rbox [iV a0_0, .sl 0], .rbox [iV a1_0, iV a1_1, iV a1_2], .rbox [iV a2_0, .sl 1, .sl 2, .sl 3], oI t11s_2, oB t12s_2, oT t13s_2]) ?_ ?_
   ·intro k h
    refine awp_block ?_
    replace ⟨p, h⟩ := k1 h
    refine rg [32] [(15, iV (a3.getD t14.toNat 0))] ?_
    replace ⟨y, hr0, h⟩ := bd h
    refine rc [] [(16, .sl 11)] [] [oI y] [⟨3, [3], k_spec_ValuesFor hr0⟩] ?_
    refine awp_seq fun K55 hK55 => ?_
    replace ⟨p, h⟩ := k1 h
    refine rg [] [(53, bV ((!(a2_2.getD ((a3.getD t14.toNat 0).toNat) false)) && ((y.length : Int) == 0)))] ?_
    refine awp_if h ?_ ?_ <;> intro hc h
    ·refine awp_exit ?_
     exact jos [0, 1, 2, 3, 4, 5, 6, 7, 8, 9, 10]
    refine sk hK55 ?_
    replace ⟨p, h⟩ := k1 h
    replace ⟨y_1, y_2, y_3, hr1, h⟩ := bd3 h
    have c0 := cm [0, 11] (k_spec_l10Step hr1)
    refine dm (.free 2 (.free 4 (.free 5 (.free 7 (.free 10 (.free 0 (.free 1 (.free 3 (.one 6 (.one 8 (.one 9 (.one 11 (.one 12 (.free 13 (.free 14 (.free 15 (.one 16 (.one 17 (.one 18 .fin))))))))))))))))))) [16, 53] [(17, iV y_1), (18, .sl 12), (19, bV y_3)] [] [oT y_2] ?_
    replace ⟨p, h⟩ := k1 h
    refine rm [17] [] [(8, oI (t11s.set ((a3.getD t14.toNat 0).toNat) y_1))] [] ?_
    replace ⟨p, h⟩ := k1 h
    refine rm [15, 19] [] [(9, oB (t12s.set ((a3.getD t14.toNat 0).toNat) y_3))] [] ?_
    replace ⟨p, h⟩ := k1 h
    refine em [18] [] [(10, oT (t13s ++ y_2))] [] ?_
    exact jos [0, 1, 2, 3, 4, 5, 6, 7, 8, 9, 10]
   rintro ⟨t11s_2, t12s_2, t13s_2⟩ h
   try dsimp only
   replace ⟨p, h⟩ := k1 h
   refine eg [14] [(14, iV (t14 + 1))] ?_
   exact ln
  exact los [0, 1, 2, 3, 4, 8, 9, 10]
 rintro ⟨t11s_1, t12s_1, t13s_1⟩ h
 try dsimp only
 refine hK29 _ _ ?_
 refine rg [11, 12, 13] [(8, .sl 5), (9, .sl 6), (10, .sl 7)] ?_
 exact fr [0, 1, 2, 3, 4, 5, 6, 7]
theorem k_spec_SortMessages {a0 r} (h : spec_SortMessages a0 = some r) : KA Tryz.prog 51 [.sl 0] [rT a0] (.sl 1) [rT a0, oT r] := by
 unfold spec_SortMessages at h
 refine FnA.ofA 54 [0] [.tmp 2] Tryz.func51 en51 ?_
 refine rg [] [] ?_
 refine rm [] [(3, .sl 1)] [] [oT []] ?_
 refine awp_seq fun K140 hK140 => ?_
 refine rg [] [(4, iV 0)] ?_
 refine awp_block ?_
 refine lp h (fun (t4, t3s) => [(0, .sl 0), (3, .sl 1), (4, iV t4)]) (fun (t4, t3s) => [rT a0, oT t3s]) (fun _ => Exit.exit 0) (fun t3s_1 => [(3, .sl 1)]) (fun t3s_1 => [rT a0, oT t3s_1]) ?_ ?_
 ·rintro ⟨t4, t3s⟩ r h
  unfold spec_SortMessages_b1 at h
  try dsimp only
  refine awp_seq fun K234 hK234 => ?_
  refine rg [] [(16, bV ((decide (t4 < (a0.length : Int))) && (decide ((a0.length : Int) ≤ 2000))))] ?_
  refine awp_if h ?_ ?_ <;> intro hc h
  ·refine sk hK234 ?_
   refine awp_seq fun K257 hK257 => ?_
   refine awp_block ?_
   refine rg [16] [(5, iV (t3s.length : Int))] ?_
   refine awp_seq fun K268 hK268 => ?_
   refine awp_block ?_
   refine lp h (fun t5 => [(0, .sl 0), (3, .sl 1), (4, iV t4), (5, iV t5)]) (fun t5 => [rT a0, oT t3s]) (fun _ => Exit.exit 2) (fun t5_1 => [(0, .sl 0), (3, .sl 1), (4, iV t4), (5, iV t5_1)]) (fun t5_1 => [rT a0, oT t3s]) ?_ ?_
   ·rintro t5 r h
    unfold spec_SortMessages_b0 at h
    try dsimp only
    refine awp_seq fun K276 hK276 => ?_
    replace ⟨⟨hp0, _, hp2⟩, h⟩ := k3 h
    replace ⟨y, hr3, h⟩ := bd h
    have c0 := cm [] (fun g0 => k_spec_l9Before (bite_t hr3 g0))
    refine dm (.one 0 (.one 1 (.one 2 (.free 3 (.free 4 (.free 5 (.free 7 (.free 8 (.free 9 (.free 6 (.one 10 (.one 11 (.one 12 (.one 13 .fin)))))))))))))) [] [(34, bV ((decide (0 < t5)) && y))] [] [] ?_
    refine awp_if h ?_ ?_ <;> intro hc h
    ·refine sk hK276 ?_
     refine awp_block ?_
     replace ⟨p, h⟩ := k1 h
     refine eg [5, 34] [(5, iV (t5 - 1))] ?_
     refine nm ?_
     exact ln
    exact lo
   rintro t5_1 h
   try dsimp only
   refine hK268 _ _ ?_
   replace ⟨p, h⟩ := k2 h
   refine rm [] [(6, .sl 2)] [] [oT ([] ++ ((t3s.take t3s.length).drop t5_1.toNat)), .view 1 (.trips ((t3s.take t3s.length).drop t5_1.toNat))] ?_
   replace ⟨p, h⟩ := k4 h
   refine awp_tE [3, 5, 6] [(3, .sl 4)] [(1, .dead), (1, .dead)] [oT ((((t3s.take t5_1.toNat).drop 0) ++ [((a0.getD t4.toNat (0, 0, 0)).1, (a0.getD t4.toNat (0, 0, 0)).2.1, (a0.getD t4.toNat (0, 0, 0)).2.2)]) ++ ([] ++ ((t3s.take t3s.length).drop t5_1.toNat))), oT [((a0.getD t4.toNat (0, 0, 0)).1, (a0.getD t4.toNat (0, 0, 0)).2.1, (a0.getD t4.toNat (0, 0, 0)).2.2)]] ?_ ?_
   ·intro K hK
    refine dM [0, 1, 2, 3] [0, 1, 3, 4, 5, 9, 6] 5 (bt 12 635) fun L hL hN => ?_
    refine hN.node L 0 (bt 12 4095) 4 [3] [(3, .sl 4), (42, .sl 1), (43, iV t5_1), (45, .sl 0), (46, iV t4), (47, .ep 0 t4.toNat 3 0), (48, .agg [iV ((a0.getD t4.toNat (0, 0, 0)).1), iV ((a0.getD t4.toNat (0, 0, 0)).2.1), iV ((a0.getD t4.toNat (0, 0, 0)).2.2)]), (49, .sl 5), (51, .sl 2), (52, .sl 4)] [(1, .dead), (1, .dead)] [oT ((((t3s.take t5_1.toNat).drop 0) ++ [((a0.getD t4.toNat (0, 0, 0)).1, (a0.getD t4.toNat (0, 0, 0)).2.1, (a0.getD t4.toNat (0, 0, 0)).2.2)]) ++ ([] ++ ((t3s.take t3s.length).drop t5_1.toNat))), oT [((a0.getD t4.toNat (0, 0, 0)).1, (a0.getD t4.toNat (0, 0, 0)).2.1, (a0.getD t4.toNat (0, 0, 0)).2.2)]] ?_ fun n4 hN => ?_
    ·exact hL.fin (by kernel_rfl) (hK _ _ Red.auto)
    refine hN.node L 2 (bt 12 1023) 6 [3, 52] [(3, .sl 1), (50, .sl 4)] [(4, oT (((t3s.take t5_1.toNat).drop 0) ++ [((a0.getD t4.toNat (0, 0, 0)).1, (a0.getD t4.toNat (0, 0, 0)).2.1, (a0.getD t4.toNat (0, 0, 0)).2.2)]))] [] ?_ fun n3 hN => ?_
    ·refine st hL [(10, [11], 0, (bt 12 4095))] ⟨?_, trivial⟩
     exact hL.edge n4
    refine hN.node L 3 (bt 12 767) 6 [50] [(44, .sl 4)] [(1, oT t3s), (1, .view 1 (.trips ((t3s.take t3s.length).drop t5_1.toNat))), (0, .view 1 (.trips ((t3s.take t5_1.toNat).drop 0)))] [] ?_ fun n2 hN => ?_
    ·refine st hL [(8, [], 2, (bt 12 1023))] ⟨?_, trivial⟩
     exact hL.edge n3
    refine hN.node L 4 (bt 12 639) 5 [49] [] [] [] ?_ fun n1 hN => ?_
    ·refine st hL [(7, [], 3, (bt 12 767))] ⟨?_, trivial⟩
     exact hL.edge n2
    refine hN.node L 4 (bt 12 763) 5 [44] [(49, .sl 4)] [(4, oT [((a0.getD t4.toNat (0, 0, 0)).1, (a0.getD t4.toNat (0, 0, 0)).2.1, (a0.getD t4.toNat (0, 0, 0)).2.2)])] [] ?_ fun n5 hN => ?_
    ·refine st hL [(2, [], 3, (bt 12 767))] ⟨?_, trivial⟩
     exact hL.edgeS [0, 1, 2, 3, 5, 4] n2
    refine hN.node L 5 (bt 12 635) 4 [49] [] [] [] ?_ fun n0 hN => ?_
    ·refine st hL [(2, [], 4, (bt 12 639)), (7, [], 4, (bt 12 763))] ⟨?_, ?_, trivial⟩
     ·exact hL.edge n1
     exact hL.edge n5
    have nn := n0
    exact au16
   refine hK257 _ _ ?_
   replace ⟨p, h⟩ := k1 h
   refine eg [4] [(4, iV (t4 + 1))] ?_
   exact lns [0, 4]
  exact lo
 rintro t3s_1 h
 try dsimp only
 refine hK140 _ _ ?_
 refine rg [3] [(2, .sl 1)] ?_
 exact fr [0, 1]
end Go.Proofs.YteoedigfnfjopaaGreat
