/- The code computes the functions that were taken out of it. -/
import Derived.Test.YteoedigfnfjopaaGreatLaD
import Derived.Test.YteoedigfnfjopaaGreatAvWk
set_option maxRecDepth 100000
set_option maxHeartbeats 4000000
set_option linter.unusedSimpArgs false
set_option linter.unusedVariables false
namespace Go.Proofs.YteoedigfnfjopaaGreat
open Go Go.Av
attribute [local irreducible] wpA OpK awp OpKI
attribute [go_sem] vcCalls vcCall List.take_succ_cons List.take_zero List.drop_succ_cons List.drop_zero frs_nil frs_cons pw8_32 pw16_32 pw24_32 pw27_32 eqAgg eqAggV buildQ placesOf buildCells List.toList_toArray vcQg gfind gfree gput un3_agg unI_int unB_bool unK_int guardU skipV resVs resV vcD_nil vcD_cons vcT_fin vcT_free vcT_one vcT_two opS vcD1 roH roOb ftNone ftAdd oneOrTup AV.detup AV.ren AV.ren2 AV.ren1 pos selH AObj.ren fitAll fit fit1 fit1s matchAll matchOb exIds AObj.excl Env.killp pastH setAll upId AObj.past AObj.back AV.killp AV.killp1 AV.killp2 Nat.sub_self Nat.lt_irrefl Bool.or_self vcOps vcOp vcQs vcQ dstOk quiet eff pcall calleeF plain valsOf ev ofConst argEnv List.lookup Nat.add_eq decide_true decide_false Env.put binV quoC isTwo_2 isTwo_1 isTwo_3 isTwo_4 isTwo_5 isTwo_6 isTwo_7 isTwo_8 isTwo_9 isTwo_10 isTwo_11 isTwo_12 isTwo_13 isTwo_14 isTwo_15 isTwo_16 isTwo_17 isTwo_20 isTwo_24 isTwo_32 isTwo_60 isTwo_64 isTwo_100 isTwo_128 isTwo_256 isTwo_1000 wrapTo unV convV loadQ indexQ callQ builtinQ rd rdI globC AObj.globC partAV isAggD isArrayD addrAdd boxE storeE storeXE storeCE storeGE storeFE storeAE storeHE allocAE buildME appendME lookupQ mapUpE plainVs isIfaceD ifaceQ assertQ List.all_cons aggQ arrD arrL arrL_map arrV makeE makeXE makeNE makeGE buildXE buildNE buildGE nestZero Cont.child Cont.setChild buildSliceE buildFold appendE appendXE appendNE appendGE Cont.setG nestApp appendV promoteH sliceE boundAV subObj asCells Value.oneCell' contZero Cont.sets Cont.app Cont.sub Cont.len Cont.esz Cont.cell Cont.cells Cont.flat AV.det AV.det1 guardV AObj.unview AObj.kill Env.kill AV.kill AV.kill1 AV.kill2 fits64 Option.getD_some Option.getD_none Option.map_some Option.map_none Option.bind_some List.map_cons List.map_nil List.getElem?_cons_zero List.getElem?_cons_succ List.getElem?_nil true_and and_true and_false false_and List.getElem?_toArray List.cons_append List.nil_append List.length_cons List.length_nil List.set_cons_zero List.set_cons_succ List.take_succ_cons List.take_zero List.drop_succ_cons List.drop_zero List.drop_nil List.take_nil List.contains_cons List.contains_nil List.elem_cons List.elem_nil Bool.not_true Bool.not_false Bool.false_eq_true Bool.or_false Bool.or_true Bool.and_true Bool.and_false Bool.true_and Bool.false_and List.all_cons List.all_nil List.size_toArray Nat.lt_add_one Nat.zero_lt_succ Nat.one_ne_zero Nat.zero_ne_one and_self List.replicate_succ List.replicate_zero Int.toNat_natCast Int.toNat_zero Value.cells false_implies true_implies forall_const Thn InBlk Nat.zero_add Nat.add_zero Int.zero_add Ele Env.ren Option.some.injEq AV.v.injEq AV.sl.injEq AV.pp.injEq AV.ep.injEq AV.agg.injEq List.cons.injEq Value.int.injEq Value.bool.injEq Value.string.injEq true_or or_true or_false false_or guardOk evN pastY deadAll AObj.gone List.foldl_cons List.foldl_nil List.contains_cons List.contains_nil Tryz.underlying0 Tryz.underlying1 Tryz.underlying2 Tryz.underlying3 Tryz.underlying4 Tryz.underlying5 Tryz.underlying6 Tryz.underlying7 Tryz.underlying8 Tryz.underlying9 Tryz.underlying10 Tryz.underlying12 Tryz.underlying16 Tryz.underlying17 Tryz.underlying20 Tryz.underlying21 Tryz.underlying22 Tryz.underlying23 Tryz.underlying24 Tryz.underlying25 Tryz.underlying26 Tryz.underlying27 Tryz.underlying29 Tryz.underlying30 Tryz.underlying31 Tryz.underlying32 Tryz.underlying35 Tryz.underlying37 Tryz.underlying40 Tryz.underlying43 Tryz.underlying44 Tryz.underlying46 Tryz.underlying50 Tryz.underlying52 Tryz.underlying53 Tryz.underlying54 Tryz.underlying55 Tryz.underlying56 Tryz.underlying57 Tryz.underlying66 Tryz.underlying67 Tryz.underlying72 Tryz.underlying73 Tryz.underlying74 Tryz.underlying78 Tryz.underlying79 Tryz.underlying89 Tryz.underlying90 Tryz.underlying91 Tryz.underlying97 Tryz.underlying98 Tryz.underlying99 Tryz.underlying100 Tryz.underlying101 Tryz.underlying102 Tryz.underlying103 Tryz.underlying104 Tryz.underlying105 Tryz.underlying108 Tryz.underlying110 Tryz.underlying111 Tryz.underlying114 Tryz.underlying115 Tryz.underlying116 Tryz.underlying117 Tryz.underlying118 Tryz.underlying119 Tryz.underlying122 Tryz.underlying123 Tryz.underlying131 Tryz.underlying133 Tryz.underlying135 Tryz.underlying136 Tryz.underlying145 Tryz.underlying146 Tryz.underlying147 Tryz.underlying149 Tryz.underlying150 Tryz.underlying151 Tryz.underlying152 Tryz.underlying153 Tryz.underlying154 Tryz.underlying155 Tryz.underlying156 Tryz.underlying157 Tryz.underlying158 l1InG l4BeforeG isNaNG cmpIntG cmpMsgG ftC tf0 tf1 tf2 tf3 tf4 tf5 tf6 tf7 tf8
theorem au1 {p : Prop} (h : p := by
 simp (maxSteps := 4000000) only [go_sem, hb1, hb1d]
 repeat' (first | refine And.intro ?_ ?_ | intro hg)
 all_goals (try simp (disch := omega) only [wrap_fits])
 all_goals first | (refine hL.red ?_ nn; exact Red.auto) | exact al0) : p := h
theorem au2 {p : Prop} (h : p := by
 simp (maxSteps := 4000000) only [go_sem, hb1, hb1d, hb2, hb2d]
 repeat' (first | refine And.intro ?_ ?_ | intro hg)
 all_goals (try simp (disch := omega) only [wrap_fits])
 all_goals first | (refine hL.red ?_ nn; exact Red.auto) | exact al0) : p := h
theorem au3 {p : Prop} (h : p := by
 simp (maxSteps := 4000000) only [go_sem]
 repeat' (first | refine And.intro ?_ ?_ | intro hg)
 all_goals (try simp (disch := omega) only [wrap_fits])
 all_goals first | (refine hL.red ?_ nn; exact Red.auto) | exact al0) : p := h
theorem au4 {p : Prop} (h : p := by
 simp (maxSteps := 4000000) only [go_sem]
 repeat' (first | refine And.intro ?_ ?_ | intro hg)
 all_goals (try simp (disch := omega) only [wrap_fits])
 all_goals first | (refine hL.red ?_ nn; exact Red.auto) | exact al0 | exact al1) : p := h
theorem au5 {p : Prop} (h : p := by
 simp (maxSteps := 4000000) only [go_sem]
 repeat' (first | refine And.intro ?_ ?_ | intro hg)
 all_goals (try simp (disch := omega) only [wrap_fits])
 all_goals first | exact al0 | contradiction | (simp only [List.length_nil, List.length_append]; omega) | exact al1) : p := h
theorem au6 {p : Prop} (h : p := by
 simp (maxSteps := 4000000) only [go_sem]
 repeat' (first | refine And.intro ?_ ?_ | intro hg)
 all_goals (try simp (disch := omega) only [wrap_fits])
 all_goals first | exact al0 | (have hq := hp0 byg; omega) | exact al1) : p := h
theorem au7 {p : Prop} (h : p := by
 simp (maxSteps := 4000000) only [go_sem]
 repeat' (first | refine And.intro ?_ ?_ | intro hg)
 all_goals (try simp (disch := omega) only [wrap_fits])
 all_goals first | exact al0 | (have hq := hp1 byg; omega) | exact al1) : p := h
theorem au8 {p : Prop} (h : p := by
 simp (maxSteps := 4000000) only [go_sem]
 repeat' (first | refine And.intro ?_ ?_ | intro hg)
 all_goals (try simp (disch := omega) only [wrap_fits])
 all_goals first
  | exact al0
  | (refine wpA_guard rfl rfl ?_
     refine wpA_callA (k_spec_GraphValid a0_0 a0_1 (h := (bite_t hr0 byg))) [0] [] ?_
     rintro x Hc' ⟨rfl, rfl⟩ hlen
     refine vcOps_sound ftCOk ?_
     exact auV)
  | exact al1) : p := h
theorem au9 {p : Prop} (h : p := by
 simp (maxSteps := 4000000) only [go_sem]
 repeat' (first | refine And.intro ?_ ?_ | intro hg)
 all_goals (try simp (disch := omega) only [wrap_fits])
 all_goals first | exact al0 | (have hq := hp0 byg; omega) | (have hq := hp1 byg; omega) | exact al1) : p := h
theorem au10 {p : Prop} (h : p := by
 simp (maxSteps := 4000000) only [go_sem]
 repeat' (first | refine And.intro ?_ ?_ | intro hg)
 all_goals (try simp (disch := omega) only [wrap_fits])
 all_goals first
  | exact al0
  | (refine OpYA (hY _ _ _ _ hr1) 0 [6] [6] ?_
     rintro b Φ' ⟨rfl, rfl⟩
     refine vcOps_sound ftCOk ?_
     exact auV)
  | exact al1) : p := h
theorem au11 {p : Prop} (h : p := by
 simp (maxSteps := 4000000) only [go_sem]
 repeat' (first | refine And.intro ?_ ?_ | intro hg)
 all_goals (try simp (disch := omega) only [wrap_fits])
 all_goals first | exact al0 | (have hq := hp2 byg; omega) | exact al1) : p := h
theorem au12 {p : Prop} (h : p := by
 simp (maxSteps := 4000000) only [go_sem, hb1, hb1d]
 repeat' (first | refine And.intro ?_ ?_ | intro hg)
 all_goals (try simp (disch := omega) only [wrap_fits])
 all_goals first
  | (refine hL.red ?_ nn; exact Red.auto)
  | exact al0
  | (exact au1)
  | exact al1) : p := h
theorem au13 {p : Prop} (h : p := by
 simp (maxSteps := 4000000) only [go_sem, hb1, hb1d, hb2, hb2d]
 repeat' (first | refine And.intro ?_ ?_ | intro hg)
 all_goals (try simp (disch := omega) only [wrap_fits])
 all_goals first
  | (refine hL.red ?_ nn; exact Red.auto)
  | exact al0
  | (exact au2)
  | exact al1) : p := h
theorem au14 {p : Prop} (h : p := by
 simp (maxSteps := 4000000) only [go_sem]
 repeat' (first | refine And.intro ?_ ?_ | intro hg)
 all_goals (try simp (disch := omega) only [wrap_fits])
 all_goals first
  | (refine hL.red ?_ nn; exact Red.auto)
  | exact al0
  | (exact au3)
  | exact al1) : p := h
theorem au15 {p : Prop} (h : p := by
 simp (maxSteps := 4000000) only [go_sem]
 repeat' (first | refine And.intro ?_ ?_ | intro hg)
 all_goals (try simp (disch := omega) only [wrap_fits])
 all_goals first
  | (refine hL.red ?_ nn; exact Red.auto)
  | exact al0
  | (refine OpK_callA (k_spec_l20Rd_pick a0_0 y_9 2 (h := hr0)) [0, 1] [] ?_
     rintro x Hc' ⟨rfl, rfl⟩ hlen
     exact au4)
  | (exact au3)
  | exact al1) : p := h
theorem k_slices_Grow_int_int (n : Int) {r : List Int} (h : slices_Grow_int_int n = some r) :
 FnA Tryz.prog 82 [nV, iV n] [] [] (fun x H => x = .sl 0 ∧ H = [oI r]) := by
 unfold slices_Grow_int_int at h
 obtain ⟨h1, h⟩ := chk_some h
 simp only [Option.some.injEq] at h
 subst h
 exact grow_nil Go.Proofs.growL rfl en82 _ rfl rfl rfl rfl n h1.1 h1.2
theorem k_spec_l20Rd_pick (a0_0 : List Int) (a0_1 : Int) (a1 : Int) {r : Int × Int} (h : spec_l20Rd_pick a0_0 a0_1 a1 = some r) :
 FnA Tryz.prog 46 [.pp 0 0, iV a1] [.box [.sl 1, iV a0_1], rY a0_0] [] (fun x H => x = iV r.1 ∧ H = [.box [.sl 1, iV r.2], rY a0_0]) := by
 unfold spec_l20Rd_pick at h
 refine FnA.ofA 99 [0, 1] [.tmp 4] Tryz.func46 en46 ?_
 refine awp_rS ftCOk [] [] ?_
 replace ⟨hp0, h⟩ := chk_some h
 refine awp_rM ftCOk [] [] [(0, .box [.sl 1, iV (a0_1 + 1)])] [] ?_
 clear hp0
 refine awp_seq fun K2 hK2 => ?_
 refine awp_rS ftCOk [] [(24, bV ((decide (a1 < 1)) || ((a0_0.length : Int) == 0)))] ?_
 refine awp_if h ?_ ?_ <;> clear h <;> intro hc h
 ·refine awp_rS ftCOk [0, 1, 24] [(4, iV 0)] ?_
  refine awp_ret ?_
  obtain rfl := Option.some.inj h
  exact finQ [0, 1]
 ·refine awp_skip ?_
  refine hK2 _ _ ?_
  clear hK2
  replace ⟨hp0, h⟩ := chk_some h
  have hwhp0 := wrap_fits hp0.1 hp0.2
  refine awp_rS ftCOk [24] [(5, iV ((a0_1 + 1) - 1))] ?_
  clear hp0
  refine awp_seq fun K5 hK5 => ?_
  refine awp_rS ftCOk [] [(36, bV (decide (((a0_1 + 1) - 1) < (a0_0.length : Int))))] ?_
  refine awp_if h ?_ ?_ <;> clear h <;> intro hc h
  ·replace ⟨hp0, h⟩ := chk_some h
   replace ⟨hp1, h⟩ := chk_some h
   replace ⟨hp2, h⟩ := chk_some h
   refine awp_rS ftCOk [0, 1, 5, 36] [(4, iV ((a0_0.getD (((a0_1 + 1) - 1).toNat) 0) % a1))] ?_
   clear hp0 hp1 hp2
   refine awp_ret ?_
   obtain rfl := Option.some.inj h
   exact finQ [0, 1]
  ·refine awp_skip ?_
   refine hK5 _ _ ?_
   clear hK5
   replace ⟨hp0, h⟩ := chk_some h
   replace ⟨hp1, h⟩ := chk_some h
   replace ⟨hp2, h⟩ := chk_some h
   replace ⟨hp3, h⟩ := chk_some h
   replace ⟨hp4, h⟩ := chk_some h
   replace ⟨hp5, h⟩ := chk_some h
   replace ⟨hp6, h⟩ := chk_some h
   replace ⟨hp7, h⟩ := chk_some h
   replace ⟨hp8, h⟩ := chk_some h
   replace ⟨hp9, h⟩ := chk_some h
   replace ⟨hp10, h⟩ := chk_some h
   replace ⟨hp11, h⟩ := chk_some h
   replace ⟨hp12, h⟩ := chk_some h
   replace ⟨hp13, h⟩ := chk_some h
   replace ⟨hp14, h⟩ := chk_some h
   replace ⟨hp15, h⟩ := chk_some h
   refine awp_qS mixed ftCOk [0, 5, 36] [(6, iV (((((a0_0.getD ((((a0_1 + 1) - 1) % (a0_0.length : Int)).toNat) 0) * 131) + ((a0_0.getD ((((((a0_1 + 1) - 1) * 7) + 3) % (a0_0.length : Int)).toNat) 0) * 1117)) + (((a0_1 + 1) - 1) * 29)) + ((((a0_1 + 1) - 1) / (a0_0.length : Int)) * 53)))] ?_
   clear hp0 hp1 hp2 hp3 hp4 hp5 hp6 hp7 hp8 hp9 hp10 hp11 hp12 hp13 hp14 hp15
   replace ⟨hp0, h⟩ := chk_some h
   refine awp_rS ftCOk [6] [(6, iV (bitsV .xor .i64 (((((a0_0.getD ((((a0_1 + 1) - 1) % (a0_0.length : Int)).toNat) 0) * 131) + ((a0_0.getD ((((((a0_1 + 1) - 1) * 7) + 3) % (a0_0.length : Int)).toNat) 0) * 1117)) + (((a0_1 + 1) - 1) * 29)) + ((((a0_1 + 1) - 1) / (a0_0.length : Int)) * 53)) ((((((a0_0.getD ((((a0_1 + 1) - 1) % (a0_0.length : Int)).toNat) 0) * 131) + ((a0_0.getD ((((((a0_1 + 1) - 1) * 7) + 3) % (a0_0.length : Int)).toNat) 0) * 1117)) + (((a0_1 + 1) - 1) * 29)) + ((((a0_1 + 1) - 1) / (a0_0.length : Int)) * 53)) / 64)))] ?_
   clear hp0
   replace ⟨hp0, h⟩ := chk_some h
   refine awp_rS ftCOk [1, 6] [(4, iV ((bitsV .xor .i64 (((((a0_0.getD ((((a0_1 + 1) - 1) % (a0_0.length : Int)).toNat) 0) * 131) + ((a0_0.getD ((((((a0_1 + 1) - 1) * 7) + 3) % (a0_0.length : Int)).toNat) 0) * 1117)) + (((a0_1 + 1) - 1) * 29)) + ((((a0_1 + 1) - 1) / (a0_0.length : Int)) * 53)) ((((((a0_0.getD ((((a0_1 + 1) - 1) % (a0_0.length : Int)).toNat) 0) * 131) + ((a0_0.getD ((((((a0_1 + 1) - 1) * 7) + 3) % (a0_0.length : Int)).toNat) 0) * 1117)) + (((a0_1 + 1) - 1) * 29)) + ((((a0_1 + 1) - 1) / (a0_0.length : Int)) * 53)) / 64)) % a1))] ?_
   clear hp0
   refine awp_ret ?_
   obtain rfl := Option.some.inj h
   exact finQ [0, 1]
theorem k_spec_l20Rd_odd (a0_0 : List Int) (a0_1 : Int) (a1 : Int) {r : Bool × Int} (h : spec_l20Rd_odd a0_0 a0_1 a1 = some r) :
 FnA Tryz.prog 53 [.pp 0 0, iV a1] [.box [.sl 1, iV a0_1], rY a0_0] [] (fun x H => x = bV r.1 ∧ H = [.box [.sl 1, iV r.2], rY a0_0]) := by
 unfold spec_l20Rd_odd at h
 refine FnA.ofA 15 [0, 1] [.tmp 4] Tryz.func53 en53 ?_
 refine awp_rS ftCOk [] [] ?_
 replace ⟨⟨y, y_1⟩, hr0, h⟩ := bind_some h
 try dsimp only at h
 refine awp_t [0, 1] [(4, bV ((decide (0 < a1)) && (y == (IntKind.i64.wrap (a1 - 1)))))] [(0, .box [.sl 1, iV y_1])] [] ?_ ?_
 ·clear h
  intro K hK
  refine awp_region ftCOk ?_
  simp (maxSteps := 4000000) only [go_sem]
  repeat' (first | refine And.intro ?_ ?_ | intro hg)
  all_goals (try simp (disch := omega) only [wrap_fits])
  all_goals first
   | exact al0
   | (refine wpA_guard rfl rfl ?_
      refine wpA_callA (k_spec_l20Rd_pick a0_0 a0_1 a1 (h := (bite_t hr0 byg))) [0, 1] [] ?_
      rintro x Hc' ⟨rfl, rfl⟩ hlen
      refine vcOps_sound ftCOk ?_
      exact auV)
   | exact al1
 ·clear hr0
  refine awp_ret ?_
  obtain rfl := Option.some.inj h
  exact finQ [0, 1]
theorem k_spec_l20Bytes (a0_0 : List Int) (a0_1 : Int) (a1 : Int) {r : List Int × Int} (h : spec_l20Bytes a0_0 a0_1 a1 = some r) :
 FnA Tryz.prog 88 [.pp 0 0, iV a1] [.box [.sl 1, iV a0_1], rY a0_0] [] (fun x H => x = .sl 2 ∧ H = [.box [.sl 1, iV r.2], rY a0_0, oI r.1]) := by
 unfold spec_l20Bytes at h
 refine FnA.ofA 45 [0, 1] [.tmp 4] Tryz.func88 en88 ?_
 refine awp_rS ftCOk [] [] ?_
 refine awp_rM ftCOk [] [(5, .sl 2)] [] [oI []] ?_
 refine awp_seq fun K14 hK14 => ?_
 replace ⟨⟨y, y_1⟩, hr0, h⟩ := bind_some h
 try dsimp only at h
 refine awp_c ftCOk [] [(6, iV y)] [(0, .box [.sl 1, iV y_1])] [] [⟨1, [0, 1], k_spec_l20Rd_pick a0_0 a0_1 12 (h := hr0)⟩] ?_
 clear hr0
 refine awp_block ?_
 replace h := bind_some h
 obtain ⟨x27, hx, h⟩ := h
 refine awp_loopL hx (fun (t6, p0_1, t5s) => [(0, .pp 0 0), (1, iV a1), (5, .sl 2), (6, iV t6)]) (fun (t6, p0_1, t5s) => [.box [.sl 1, iV p0_1], rY a0_0, oI t5s]) (fun _ => Exit.exit 0) (fun (p0_1_1, t5s_1) => [(0, .pp 0 0), (1, iV a1), (5, .sl 2)]) (fun (p0_1_1, t5s_1) => [.box [.sl 1, iV p0_1_1], rY a0_0, oI t5s_1]) ?_ ?_ ?_ ?_
 ·rintro ⟨p0_1_1, t5s_1⟩ hy <;> cases hy
 ·clear h hx
  exact Red.auto
 ·clear h hx
  rintro ⟨t6, p0_1, t5s⟩ r h
  unfold spec_l20Bytes_b0 at h
  try dsimp only at h
  try dsimp only
  refine awp_seq fun K24 hK24 => ?_
  refine awp_rS ftCOk [] [(11, bV (decide (0 < t6)))] ?_
  refine awp_if h ?_ ?_ <;> clear h <;> intro hc h
  ·refine awp_skip ?_
   refine hK24 _ _ ?_
   clear hK24
   refine awp_seq fun K26 hK26 => ?_
   refine awp_block ?_
   replace ⟨⟨y_2, y_3⟩, hr0, h⟩ := bind_some h
   try dsimp only at h
   replace ⟨⟨y_4, y_5⟩, hr1, h⟩ := bind_some h
   try dsimp only at h
   replace ⟨⟨y_6, y_7⟩, hr2, h⟩ := bind_some h
   try dsimp only at h
   replace ⟨hp3, h⟩ := chk_some h
   replace ⟨⟨y_8, y_9⟩, hr4, h⟩ := bind_some h
   try dsimp only at h
   replace ⟨hp5, h⟩ := chk_some h
   replace ⟨hp6, h⟩ := chk_some h
   refine awp_cE ftCOk [11] [] [(0, .box [.sl 1, iV y_9]), (1, oI (t5s ++ [(([y_2, y_4, (127 + y_6)] : List Int).getD y_8.toNat 0)]))] [oI [y_2, y_4, (127 + y_6)], oI [(([y_2, y_4, (127 + y_6)] : List Int).getD y_8.toNat 0)]] [⟨2, [0, 1], k_spec_l20Rd_pick a0_0 p0_1 256 (h := hr0)⟩, ⟨1, [0, 1], k_spec_l20Rd_pick a0_0 y_3 4 (h := hr1)⟩, ⟨1, [0, 1], k_spec_l20Rd_pick a0_0 y_5 3 (h := hr2)⟩, ⟨3, [0, 1], k_spec_l20Rd_pick a0_0 y_7 3 (h := hr4)⟩] ?_
   clear hr0 hr1 hr2 hp3 hr4 hp5 hp6
   refine hK26 _ _ ?_
   clear hK26
   replace ⟨hp0, h⟩ := chk_some h
   have hwhp0 := wrap_fits hp0.1 hp0.2
   refine awp_rES ftCOk [6] [(6, iV (t6 - 1))] ?_
   clear hp0
   obtain rfl := Option.some.inj h
   refine LoopQ.next ?_
   exact Red.selA [0, 1, 2] Red.auto
  ·refine awp_exit ?_
   refine nm ?_
   obtain rfl := Option.some.inj h
   refine LoopQ.out rfl ?_
   exact Red.auto
 ·clear hx
  rcases x27 with ⟨p0_1_1, t5s_1⟩
  ·try dsimp only [Sum.elim_inl, Sum.elim_inr] at h
   try dsimp only [Sum.elim_inl, Sum.elim_inr]
   refine hK14 _ _ ?_
   clear hK14
   refine awp_join h (fun (p0_1_2, t5s_2) => [(5, .sl 2)]) (fun (p0_1_2, t5s_2) => [.box [.sl 1, iV p0_1_2], rY a0_0, oI t5s_2]) ?_ ?_
   ·clear h
    intro k h
    try dsimp only at h
    replace ⟨⟨y_10, y_11⟩, hr0, h⟩ := bind_some h
    try dsimp only at h
    refine awp_c ftCOk [1] [(31, bV y_10)] [(0, .box [.sl 1, iV y_11])] [] [⟨2, [0, 1], k_spec_l20Rd_odd a0_0 p0_1_1 a1 (h := hr0)⟩] ?_
    clear hr0
    refine awp_if h ?_ ?_ <;> clear h <;> intro hc h
    ·replace ⟨⟨y_12, y_13⟩, hr0, h⟩ := bind_some h
     try dsimp only at h
     refine awp_c ftCOk [31] [(34, bV (y_12 == 0))] [(0, .box [.sl 1, iV y_13])] [] [⟨1, [0, 1], k_spec_l20Rd_pick a0_0 y_11 2 (h := hr0)⟩] ?_
     clear hr0
     refine awp_if h ?_ ?_ <;> clear h <;> intro hc h
     ·replace ⟨⟨y_14, y_15⟩, hr0, h⟩ := bind_some h
      try dsimp only at h
      replace ⟨hp1, h⟩ := chk_some h
      replace ⟨hp2, h⟩ := chk_some h
      refine awp_cE ftCOk [0, 34] [] [(0, .box [.sl 1, iV y_15]), (1, oI (t5s_1 ++ [(([(-1), 256] : List Int).getD y_14.toNat 0)]))] [oI [(-1), 256], oI [(([(-1), 256] : List Int).getD y_14.toNat 0)]] [⟨3, [0, 1], k_spec_l20Rd_pick a0_0 y_13 2 (h := hr0)⟩] ?_
      clear hr0 hp1 hp2
      refine nm ?_
      refine ⟨_, h, ?_⟩
      exact Red.selA [0, 1, 2] Red.auto
     ·replace ⟨hp0, h⟩ := chk_some h
      refine awp_rEM ftCOk [0, 5, 34] [(5, .sl 3)] [] [oI (List.replicate 2001 0)] ?_
      clear hp0
      refine nm ?_
      refine ⟨_, h, ?_⟩
      exact Red.selA [0, 1, 3] Red.auto
    ·refine awp_skip ?_
     refine nm ?_
     refine ⟨_, h, ?_⟩
     exact Red.auto
   ·clear h
    rintro ⟨p0_1_2, t5s_2⟩ h
    try dsimp only at h
    try dsimp only
    refine awp_rS ftCOk [5] [(4, .sl 2)] ?_
    refine awp_ret ?_
    obtain rfl := Option.some.inj h
    exact finQ [0, 1, 2]
theorem k_spec_BytesValid (a0 : List Int) {r : Bool} (h : spec_BytesValid a0 = some r) :
 FnA Tryz.prog 63 [.sl 0] [rI a0] [] (fun x H => x = bV r ∧ H = [rI a0]) := by
 unfold spec_BytesValid at h
 refine FnA.ofA 19 [0] [.tmp 2] Tryz.func63 en63 ?_
 refine awp_rS ftCOk [] [] ?_
 refine awp_seq fun K20 hK20 => ?_
 refine awp_rS ftCOk [] [(3, iV 0)] ?_
 refine awp_block ?_
 replace h := bind_some h
 obtain ⟨x39, hx, h⟩ := h
 refine awp_loopL hx (fun t3 => [(0, .sl 0), (3, iV t3)]) (fun t3 => [rI a0]) (Sum.elim (fun _ => Exit.exit 0) (fun _ => Exit.ret)) (Sum.elim (fun _ => [(0, .sl 0)]) (fun _ => [(2, bV false)])) (Sum.elim (fun _ => [rI a0]) (fun _ => [rI a0])) ?_ ?_ ?_ ?_
 ·rintro (⟨⟩ | ⟨⟩) hy <;> cases hy
 ·clear h hx
  exact Red.auto
 ·clear h hx
  rintro t3 r h
  unfold spec_BytesValid_b0 at h
  try dsimp only at h
  try dsimp only
  refine awp_seq fun K34 hK34 => ?_
  refine awp_rS ftCOk [] [(7, bV (decide (t3 < (a0.length : Int))))] ?_
  refine awp_if h ?_ ?_ <;> clear h <;> intro hc h
  ·refine awp_skip ?_
   refine hK34 _ _ ?_
   clear hK34
   refine awp_seq fun K37 hK37 => ?_
   refine awp_block ?_
   replace ⟨hp0, h⟩ := chk_some h
   refine awp_rS ftCOk [7] [(15, bV (!(decide (0 ≤ (a0.getD t3.toNat 0)) && decide ((a0.getD t3.toNat 0) ≤ 255))))] ?_
   clear hp0
   refine awp_if h ?_ ?_ <;> clear h <;> intro hc h
   ·refine awp_rS ftCOk [0, 3, 15] [(2, bV false)] ?_
    refine awp_ret ?_
    refine nm ?_
    obtain rfl := Option.some.inj h
    refine LoopQ.out rfl ?_
    exact Red.auto
   ·refine awp_skip ?_
    refine hK37 _ _ ?_
    clear hK37
    replace ⟨hp0, h⟩ := chk_some h
    refine awp_rES ftCOk [3, 15] [(3, iV (t3 + 1))] ?_
    clear hp0
    obtain rfl := Option.some.inj h
    refine LoopQ.next ?_
    exact Red.auto
  ·refine awp_exit ?_
   refine nm ?_
   obtain rfl := Option.some.inj h
   refine LoopQ.out rfl ?_
   exact Red.auto
 ·clear hx
  rcases x39 with (⟨⟩ | ⟨⟩)
  ·try dsimp only [Sum.elim_inl, Sum.elim_inr] at h
   try dsimp only [Sum.elim_inl, Sum.elim_inr]
   refine hK20 _ _ ?_
   clear hK20
   refine awp_rS ftCOk [0] [(2, bV (decide ((a0.length : Int) ≤ 2000)))] ?_
   refine awp_ret ?_
   obtain rfl := Option.some.inj h
   exact finQ [0]
  ·try dsimp only [Sum.elim_inl, Sum.elim_inr] at h
   try dsimp only [Sum.elim_inl, Sum.elim_inr]
   obtain rfl := Option.some.inj h
   exact finQ [0]
theorem k_spec_CheckSum (a0 : List Int) {r : Int} (h : spec_CheckSum a0 = some r) :
 FnA Tryz.prog 103 [.sl 0] [rI a0] [] (fun x H => x = iV r ∧ H = [rI a0]) := by
 unfold spec_CheckSum at h
 refine FnA.ofA 24 [0] [.tmp 2] Tryz.func103 en103 ?_
 refine awp_rS ftCOk [] [] ?_
 refine awp_seq fun K2 hK2 => ?_
 replace ⟨y, hr0, h⟩ := bind_some h
 refine awp_c ftCOk [] [(7, bV (!y))] [] [] [⟨1, [0], k_spec_BytesValid a0 (h := hr0)⟩] ?_
 clear hr0
 refine awp_if h ?_ ?_ <;> clear h <;> intro hc h
 ·refine awp_rS ftCOk [0, 7] [(2, iV (-1))] ?_
  refine awp_ret ?_
  obtain rfl := Option.some.inj h
  exact finQ [0]
 ·refine awp_skip ?_
  refine hK2 _ _ ?_
  clear hK2
  refine awp_rS ftCOk [7] [(3, iV 7)] ?_
  refine awp_seq fun K17 hK17 => ?_
  refine awp_rS ftCOk [] [(4, iV 0)] ?_
  refine awp_block ?_
  replace h := bind_some h
  obtain ⟨t3_1, hx, h⟩ := h
  refine awp_loopL hx (fun (t3, t4) => [(0, .sl 0), (3, iV t3), (4, iV t4)]) (fun (t3, t4) => [rI a0]) (fun _ => Exit.exit 0) (fun t3_1 => [(3, iV t3_1)]) (fun t3_1 => [rI a0]) ?_ ?_ ?_ ?_
  ·rintro t3_1 hy <;> cases hy
  ·clear h hx
   exact Red.auto
  ·clear h hx
   rintro ⟨t3, t4⟩ r h
   unfold spec_CheckSum_b0 at h
   try dsimp only at h
   try dsimp only
   refine awp_seq fun K27 hK27 => ?_
   refine awp_rS ftCOk [] [(11, bV (decide (t4 < (a0.length : Int))))] ?_
   refine awp_if h ?_ ?_ <;> clear h <;> intro hc h
   ·refine awp_skip ?_
    refine hK27 _ _ ?_
    clear hK27
    refine awp_seq fun K29 hK29 => ?_
    refine awp_block ?_
    replace ⟨hp0, h⟩ := chk_some h
    replace ⟨hp1, h⟩ := chk_some h
    replace ⟨hp2, h⟩ := chk_some h
    replace ⟨hp3, h⟩ := chk_some h
    replace ⟨hp4, h⟩ := chk_some h
    refine awp_rES ftCOk [3, 11] [(3, iV ((((31 * t3) + (a0.getD t4.toNat 0)) + 1) % 251))] ?_
    clear hp0 hp1 hp2 hp3 hp4
    refine hK29 _ _ ?_
    clear hK29
    replace ⟨hp0, h⟩ := chk_some h
    refine awp_rES ftCOk [4] [(4, iV (t4 + 1))] ?_
    clear hp0
    obtain rfl := Option.some.inj h
    refine LoopQ.next ?_
    exact Red.auto
   ·refine awp_exit ?_
    refine nm ?_
    obtain rfl := Option.some.inj h
    refine LoopQ.out rfl ?_
    exact Red.auto
  ·clear hx
   skip
   ·try dsimp only [Sum.elim_inl, Sum.elim_inr] at h
    try dsimp only [Sum.elim_inl, Sum.elim_inr]
    refine hK17 _ _ ?_
    clear hK17
    refine awp_rS ftCOk [3] [(2, iV t3_1)] ?_
    refine awp_ret ?_
    obtain rfl := Option.some.inj h
    exact finQ [0]
theorem k_spec_FrameOf (a0 : List Int) {r : List Int} (h : spec_FrameOf a0 = some r) :
 FnA Tryz.prog 87 [.sl 0] [rI a0] [] (fun x H => x = .sl 1 ∧ H = [rI a0, oI r]) := by
 unfold spec_FrameOf at h
 refine FnA.ofA 24 [0] [.tmp 2] Tryz.func87 en87 ?_
 refine awp_rS ftCOk [] [] ?_
 refine awp_seq fun K2 hK2 => ?_
 replace ⟨y, hr0, h⟩ := bind_some h
 refine awp_t [] [(12, bV ((!y) || (!(decide (1 ≤ (a0.length : Int)) && decide ((a0.length : Int) ≤ 100)))))] [] [] ?_ ?_
 ·clear h
  intro K hK
  refine awp_region ftCOk ?_
  simp (maxSteps := 4000000) only [go_sem]
  repeat' (first | refine And.intro ?_ ?_ | intro hg)
  all_goals (try simp (disch := omega) only [wrap_fits])
  all_goals first
   | exact al0
   | (refine wpA_callA (k_spec_BytesValid a0 (h := hr0)) [0] [] ?_
      rintro x Hc' ⟨rfl, rfl⟩ hlen
      refine vcOps_sound ftCOk ?_
      exact auV)
   | exact al1
 ·clear hr0
  refine awp_if h ?_ ?_ <;> clear h <;> intro hc h
  ·refine awp_rM ftCOk [0, 12] [(2, .sl 1)] [] [oI []] ?_
   refine awp_ret ?_
   obtain rfl := Option.some.inj h
   exact finQ [0, 1]
  ·refine awp_skip ?_
   refine hK2 _ _ ?_
   clear hK2
   replace ⟨hp0, h⟩ := chk_some h
   refine awp_rM ftCOk [12] [(3, .sl 1)] [] [oI ([(a0.length : Int)] ++ a0)] ?_
   clear hp0
   replace ⟨y_1, hr0, h⟩ := bind_some h
   replace ⟨hp1, h⟩ := chk_some h
   refine awp_c ftCOk [0, 3] [(2, .sl 1)] [(1, oI (([(a0.length : Int)] ++ a0) ++ [y_1]))] [oI [y_1]] [⟨2, [0], k_spec_CheckSum a0 (h := hr0)⟩] ?_
   clear hr0 hp1
   refine awp_ret ?_
   obtain rfl := Option.some.inj h
   exact finQ [0, 1]
theorem k_spec_l20Frames (a0_0 : List Int) (a0_1 : Int) {r : List Int × Int} (h : spec_l20Frames a0_0 a0_1 = some r) :
 FnA Tryz.prog 61 [.pp 0 0] [.box [.sl 1, iV a0_1], rY a0_0] [] (fun x H => x = .sl 2 ∧ H = [.box [.sl 1, iV r.2], rY a0_0, oI r.1]) := by
 unfold spec_l20Frames at h
 refine FnA.ofA 61 [0, 1] [.tmp 2] Tryz.func61 en61 ?_
 refine awp_rS ftCOk [] [] ?_
 refine awp_rM ftCOk [] [(3, .sl 2)] [] [oI []] ?_
 refine awp_seq fun K14 hK14 => ?_
 replace ⟨⟨y, y_1⟩, hr0, h⟩ := bind_some h
 try dsimp only at h
 refine awp_c ftCOk [] [(4, iV y)] [(0, .box [.sl 1, iV y_1])] [] [⟨1, [0, 1], k_spec_l20Rd_pick a0_0 a0_1 4 (h := hr0)⟩] ?_
 clear hr0
 refine awp_block ?_
 replace h := bind_some h
 obtain ⟨x27, hx, h⟩ := h
 refine awp_loopL hx (fun (t4, p0_1, t3s) => [(0, .pp 0 0), (3, .sl 2), (4, iV t4)]) (fun (t4, p0_1, t3s) => [.box [.sl 1, iV p0_1], rY a0_0, oI t3s]) (fun _ => Exit.exit 0) (fun (p0_1_1, t3s_1) => [(0, .pp 0 0), (3, .sl 2)]) (fun (p0_1_1, t3s_1) => [.box [.sl 1, iV p0_1_1], rY a0_0, oI t3s_1]) ?_ ?_ ?_ ?_
 ·rintro ⟨p0_1_1, t3s_1⟩ hy <;> cases hy
 ·clear h hx
  exact Red.auto
 ·clear h hx
  rintro ⟨t4, p0_1, t3s⟩ r h
  unfold spec_l20Frames_b0 at h
  try dsimp only at h
  try dsimp only
  refine awp_seq fun K24 hK24 => ?_
  refine awp_rS ftCOk [] [(10, bV (decide (0 < t4)))] ?_
  refine awp_if h ?_ ?_ <;> clear h <;> intro hc h
  ·refine awp_skip ?_
   refine hK24 _ _ ?_
   clear hK24
   refine awp_seq fun K26 hK26 => ?_
   refine awp_block ?_
   replace ⟨⟨y_2, y_3⟩, hr0, h⟩ := bind_some h
   try dsimp only at h
   replace ⟨⟨y_4, y_5⟩, hr1, h⟩ := bind_some h
   try dsimp only at h
   replace ⟨hp2, h⟩ := chk_some h
   replace ⟨y_6, hr3, h⟩ := bind_some h
   replace ⟨hp4, h⟩ := chk_some h
   refine awp_cE ftCOk [10] [] [(0, .box [.sl 1, iV y_5]), (1, oI (t3s ++ y_6))] [oI (y_2 ++ [y_4]), oI [y_4], oI y_6] [⟨2, [0, 1], k_spec_l20Bytes a0_0 p0_1 0 (h := hr0)⟩, ⟨1, [0, 1], k_spec_l20Rd_pick a0_0 y_3 9 (h := hr1)⟩, ⟨2, [3], k_spec_FrameOf (y_2 ++ [y_4]) (h := hr3)⟩] ?_
   clear hr0 hr1 hp2 hr3 hp4
   refine hK26 _ _ ?_
   clear hK26
   replace ⟨hp0, h⟩ := chk_some h
   have hwhp0 := wrap_fits hp0.1 hp0.2
   refine awp_rES ftCOk [4] [(4, iV (t4 - 1))] ?_
   clear hp0
   obtain rfl := Option.some.inj h
   refine LoopQ.next ?_
   exact Red.selA [0, 1, 2] Red.auto
  ·refine awp_exit ?_
   refine nm ?_
   obtain rfl := Option.some.inj h
   refine LoopQ.out rfl ?_
   exact Red.auto
 ·clear hx
  rcases x27 with ⟨p0_1_1, t3s_1⟩
  ·try dsimp only [Sum.elim_inl, Sum.elim_inr] at h
   try dsimp only [Sum.elim_inl, Sum.elim_inr]
   refine hK14 _ _ ?_
   clear hK14
   refine awp_join h (fun (p0_1_2, t3s_2) => [(3, .sl 2)]) (fun (p0_1_2, t3s_2) => [.box [.sl 1, iV p0_1_2], rY a0_0, oI t3s_2]) ?_ ?_
   ·clear h
    intro k h
    try dsimp only at h
    replace ⟨⟨y_7, y_8⟩, hr0, h⟩ := bind_some h
    try dsimp only at h
    refine awp_t [] [(28, bV (y_7 && (decide (0 < (t3s_1.length : Int)))))] [(0, .box [.sl 1, iV y_8])] [] ?_ ?_
    ·clear h
     intro K hK
     refine awp_region ftCOk ?_
     simp (maxSteps := 4000000) only [go_sem]
     repeat' (first | refine And.intro ?_ ?_ | intro hg)
     all_goals (try simp (disch := omega) only [wrap_fits])
     all_goals first
      | exact al0
      | (refine wpA_callA (k_spec_l20Rd_odd a0_0 p0_1_1 2 (h := hr0)) [0, 1] [] ?_
         rintro x Hc' ⟨rfl, rfl⟩ hlen
         refine vcOps_sound ftCOk ?_
         exact auV)
      | exact al1
    ·clear hr0
     refine awp_if h ?_ ?_ <;> clear h <;> intro hc h
     ·replace ⟨⟨y_9, y_10⟩, hr0, h⟩ := bind_some h
      try dsimp only at h
      refine awp_c ftCOk [28] [(30, iV y_9)] [(0, .box [.sl 1, iV y_10])] [] [⟨1, [0, 1], k_spec_l20Rd_pick a0_0 y_8 3 (h := hr0)⟩] ?_
      clear hr0
      refine awp_block ?_
      refine awp_rS ftCOk [] [(35, bV (y_9 == 0))] ?_
      refine awp_if h ?_ ?_ <;> clear h <;> intro hc h
      ·replace ⟨⟨y_11, y_12⟩, hr0, h⟩ := bind_some h
       try dsimp only at h
       replace ⟨hp1, h⟩ := chk_some h
       refine awp_cE ftCOk [0, 3, 30, 35] [(3, .sl 3)] [(0, .box [.sl 1, iV y_12])] [.view 2 (.ints .i64 ((t3s_1.take y_11.toNat).drop 0))] [⟨5, [0, 1], k_spec_l20Rd_pick a0_0 y_10 (min 256 (t3s_1.length : Int)) (h := hr0)⟩] ?_
       clear hr0 hp1
       refine nm ?_
       refine ⟨_, h, ?_⟩
       refine Red.trans (Red.promote 2 3 (by rfl) (by rfl)) ?_
       exact Red.selA [0, 1, 3] Red.auto
      ·refine awp_rS ftCOk [30, 35] [(44, bV (y_9 == 1))] ?_
       refine awp_if h ?_ ?_ <;> clear h <;> intro hc h
       ·replace ⟨⟨y_13, y_14⟩, hr0, h⟩ := bind_some h
        try dsimp only at h
        refine awp_c ftCOk [0, 44] [(5, iV y_13)] [(0, .box [.sl 1, iV y_14])] [] [⟨4, [0, 1], k_spec_l20Rd_pick a0_0 y_10 (min 256 (t3s_1.length : Int)) (h := hr0)⟩] ?_
        clear hr0
        replace ⟨hp0, h⟩ := chk_some h
        replace ⟨hp1, h⟩ := chk_some h
        replace ⟨hp2, h⟩ := chk_some h
        refine awp_rEM ftCOk [5] [] [(2, oI (t3s_1.set y_13.toNat (((t3s_1.getD y_13.toNat 0) + 1) % 256)))] [] ?_
        clear hp0 hp1 hp2
        refine nm ?_
        refine ⟨_, h, ?_⟩
        exact Red.auto
       ·replace ⟨⟨y_15, y_16⟩, hr0, h⟩ := bind_some h
        try dsimp only at h
        replace ⟨hp1, h⟩ := chk_some h
        refine awp_cE ftCOk [0, 44] [] [(0, .box [.sl 1, iV y_16]), (1, oI (t3s_1 ++ y_15))] [oI y_15] [⟨2, [0, 1], k_spec_l20Bytes a0_0 y_10 6 (h := hr0)⟩] ?_
        clear hr0 hp1
        refine nm ?_
        refine ⟨_, h, ?_⟩
        exact Red.selA [0, 1, 2] Red.auto
     ·refine awp_skip ?_
      refine nm ?_
      refine ⟨_, h, ?_⟩
      exact Red.auto
   ·clear h
    rintro ⟨p0_1_2, t3s_2⟩ h
    try dsimp only at h
    try dsimp only
    refine awp_rS ftCOk [3] [(2, .sl 2)] ?_
    refine awp_ret ?_
    obtain rfl := Option.some.inj h
    exact finQ [0, 1, 2]
theorem k_spec_l20Disk (a0_0 : List Int) (a0_1 : Int) (a1 : Int) {r : List Int × List Int × Int} (h : spec_l20Disk a0_0 a0_1 a1 = some r) :
 FnA Tryz.prog 33 [.pp 0 0, iV a1] [.box [.sl 1, iV a0_1], rY a0_0] [] (fun x H => x = .agg [.sl 2, .sl 3] ∧ H = [.box [.sl 1, iV r.2.2], rY a0_0, oI r.1, oI r.2.1]) := by
 unfold spec_l20Disk at h
 refine FnA.ofA 34 [0, 1] [.cell 4 30] Tryz.func33 en33 ?_
 refine awp_rM ftCOk [] [(4, .pp 2 0)] [] [.box [nV, nV]] ?_
 replace ⟨⟨y, y_1⟩, hr0, h⟩ := bind_some h
 replace ⟨⟨y_2, y_3⟩, hr1, h⟩ := bind_some h
 try dsimp only at h
 refine awp_c ftCOk [] [(5, .pp 5 0)] [(0, .box [.sl 1, iV y_3])] [oI y, oI y_2, .box [.sl 3, .sl 4]] [⟨1, [0, 1], k_spec_l20Frames a0_0 a0_1 (h := hr0)⟩, ⟨1, [0, 1], k_spec_l20Frames a0_0 y_1 (h := hr1)⟩] ?_
 clear hr0 hr1
 refine awp_join h (fun (p0_1, t5_0s) => [(0, .pp 0 0), (1, iV a1), (4, .pp 2 0), (5, .pp 3 0)]) (fun (p0_1, t5_0s) => [.box [.sl 1, iV p0_1], rY a0_0, .box [nV, nV], .box [.sl 4, .sl 5], oI t5_0s, oI y_2]) ?_ ?_
 ·clear h
  intro k h
  try dsimp only at h
  replace ⟨⟨y_4, y_5⟩, hr0, h⟩ := bind_some h
  try dsimp only at h
  refine awp_c ftCOk [] [(12, bV y_4)] [(0, .box [.sl 1, iV y_5])] [] [⟨1, [0, 1], k_spec_l20Rd_odd a0_0 y_3 9 (h := hr0)⟩] ?_
  clear hr0
  refine awp_if h ?_ ?_ <;> clear h <;> intro hc h
  ·replace ⟨hp0, h⟩ := chk_some h
   refine awp_rEM ftCOk [12] [] [(5, .box [.sl 6, .sl 4])] [oI (List.replicate 1950 0)] ?_
   clear hp0
   refine nm ?_
   refine ⟨_, h, ?_⟩
   exact Red.selA [0, 1, 2, 5, 6, 4] Red.auto
  ·refine awp_skip ?_
   refine nm ?_
   refine ⟨_, h, ?_⟩
   exact Red.selA [0, 1, 2, 5, 3, 4] Red.auto
 ·clear h
  rintro ⟨p0_1, t5_0s⟩ h
  try dsimp only at h
  try dsimp only
  refine awp_join h (fun (p0_1_1, t5_0s_1, t5_1s) => [(4, .pp 2 0), (5, .pp 3 0)]) (fun (p0_1_1, t5_0s_1, t5_1s) => [.box [.sl 1, iV p0_1_1], rY a0_0, .box [nV, nV], .box [.sl 4, .sl 5], oI t5_0s_1, oI t5_1s]) ?_ ?_
  ·clear h
   intro k_1 h
   try dsimp only at h
   replace ⟨⟨y_6, y_7⟩, hr0, h⟩ := bind_some h
   try dsimp only at h
   refine awp_c ftCOk [1] [(17, bV y_6)] [(0, .box [.sl 1, iV y_7])] [] [⟨2, [0, 1], k_spec_l20Rd_odd a0_0 p0_1 a1 (h := hr0)⟩] ?_
   clear hr0
   refine awp_if h ?_ ?_ <;> clear h <;> intro hc h
   ·replace ⟨⟨y_8, y_9⟩, hr0, h⟩ := bind_some h
    try dsimp only at h
    refine awp_c ftCOk [17] [(20, bV (y_8 == 0))] [(0, .box [.sl 1, iV y_9])] [] [⟨1, [0, 1], k_spec_l20Rd_pick a0_0 y_7 2 (h := hr0)⟩] ?_
    clear hr0
    refine awp_if h ?_ ?_ <;> clear h <;> intro hc h
    ·replace ⟨⟨y_10, y_11⟩, hr0, h⟩ := bind_some h
     try dsimp only at h
     replace ⟨hp1, h⟩ := chk_some h
     replace ⟨hp2, h⟩ := chk_some h
     refine awp_tE [0, 20] [] [(0, .box [.sl 1, iV y_11]), (4, oI (y_2 ++ [(([(-1), 256] : List Int).getD y_10.toNat 0)]))] [oI [(-1), 256], oI [(([(-1), 256] : List Int).getD y_10.toNat 0)]] ?_ ?_
     ·clear h
      intro K hK
      refine awp_drawM [0, 1, 2, 3, 4] [0, 3] 9 #[true, false, false, true, false, false, false, false, false, false, false] mixed ftCOk (by kernel_rfl) (by first | rfl | kernel_rfl) (by rfl) (by simp) fun L hL hN => ?_
      refine hN.node L 0 #[true, true, true, true, true, true, true, true, true, true, true] 6 [] [(21, .pp 3 1), (23, .sl 6), (24, .pp 0 0), (25, iV y_10), (26, .ep 6 y_10.toNat 1 0), (27, iV (([(-1), 256] : List Int).getD y_10.toNat 0)), (28, .sl 7), (29, .sl 5), (30, .pp 3 1)] [(0, .box [.sl 1, iV y_11]), (4, oI (y_2 ++ [(([(-1), 256] : List Int).getD y_10.toNat 0)]))] [oI [(-1), 256], oI [(([(-1), 256] : List Int).getD y_10.toNat 0)]] ?_ fun n8 hN => ?_
      ·exact hL.fin (by kernel_rfl) (hK _ _ Red.auto)
      refine hN.node L 1 #[true, true, true, true, true, true, true, true, true, true, false] 8 [] [] [(3, .box [.sl 4, .top])] [] ?_ fun n7 hN => ?_
      ·refine hL.step [(10, [], 0, #[true, true, true, true, true, true, true, true, true, true, true])] (by kernel_rfl) ⟨?_, trivial⟩
       ·exact hL.edge n8
      refine hN.node L 3 #[true, true, true, true, true, true, true, true, false, false, false] 8 [29, 30] [(22, .sl 5)] [(3, .box [.sl 4, .sl 5]), (1, oI y_2)] [] ?_ fun n6 hN => ?_
      ·refine hL.step [(8, [9], 1, #[true, true, true, true, true, true, true, true, true, true, false])] (by kernel_rfl) ⟨?_, trivial⟩
       ·exact hL.edge n7
      refine hN.node L 4 #[true, true, true, true, true, true, true, false, false, false, false] 7 [28] [] [] [] ?_ fun n5 hN => ?_
      ·refine hL.step [(7, [], 3, #[true, true, true, true, true, true, true, true, false, false, false])] (by kernel_rfl) ⟨?_, trivial⟩
       ·exact hL.edge n6
      refine hN.node L 5 #[true, true, true, true, true, true, false, false, false, false, false] 7 [27] [] [] [] ?_ fun n4 hN => ?_
      ·refine hL.step [(6, [], 4, #[true, true, true, true, true, true, true, false, false, false, false])] (by kernel_rfl) ⟨?_, trivial⟩
       ·exact hL.edge n5
      refine hN.node L 6 #[true, true, true, true, true, false, false, false, false, false, false] 7 [26] [] [] [] ?_ fun n3 hN => ?_
      ·refine hL.step [(5, [], 5, #[true, true, true, true, true, true, false, false, false, false, false])] (by kernel_rfl) ⟨?_, trivial⟩
       ·exact hL.edge n4
      refine hN.node L 7 #[true, true, true, true, false, false, false, false, false, false, false] 7 [25] [] [(0, .box [.sl 1, iV y_9])] [] ?_ fun n2 hN => ?_
      ·refine hL.step [(4, [], 6, #[true, true, true, true, true, false, false, false, false, false, false])] (by kernel_rfl) ⟨?_, trivial⟩
       ·have nn := n3
        exact au15
      refine hN.node L 7 #[true, true, false, true, true, false, false, false, false, false, false] 6 [23] [(25, iV y_10)] [(0, .box [.sl 1, iV y_11])] [] ?_ fun n9 hN => ?_
      ·refine hL.step [(2, [], 6, #[true, true, true, true, true, false, false, false, false, false, false])] (by kernel_rfl) ⟨?_, trivial⟩
       ·exact hL.edge n3
      refine hN.node L 8 #[true, true, false, true, false, false, false, false, false, false, false] 6 [25] [] [(0, .box [.sl 1, iV y_9])] [] ?_ fun n1 hN => ?_
      ·refine hL.step [(2, [], 7, #[true, true, true, true, false, false, false, false, false, false, false]), (4, [], 7, #[true, true, false, true, true, false, false, false, false, false, false])] (by kernel_rfl) ⟨?_, ?_, trivial⟩
       ·exact hL.edge n2
       ·have nn := n9
        exact au15
      refine hN.node L 4 #[true, false, true, true, true, true, true, true, false, false, false] 6 [22] [(23, .sl 6), (25, iV y_10), (26, .ep 6 y_10.toNat 1 0), (27, iV (([(-1), 256] : List Int).getD y_10.toNat 0)), (28, .sl 7)] [(0, .box [.sl 1, iV y_11])] [oI [(-1), 256], oI [(([(-1), 256] : List Int).getD y_10.toNat 0)]] ?_ fun n14 hN => ?_
      ·refine hL.step [(1, [], 3, #[true, true, true, true, true, true, true, true, false, false, false])] (by kernel_rfl) ⟨?_, trivial⟩
       ·exact hL.edge n6
      refine hN.node L 5 #[true, false, true, true, true, true, true, false, false, false, false] 7 [28] [] [] [] ?_ fun n13 hN => ?_
      ·refine hL.step [(1, [], 4, #[true, true, true, true, true, true, true, false, false, false, false]), (7, [], 4, #[true, false, true, true, true, true, true, true, false, false, false])] (by kernel_rfl) ⟨?_, ?_, trivial⟩
       ·exact hL.edge n5
       ·exact hL.edge n14
      refine hN.node L 6 #[true, false, true, true, true, true, false, false, false, false, false] 7 [27] [] [] [] ?_ fun n12 hN => ?_
      ·refine hL.step [(1, [], 5, #[true, true, true, true, true, true, false, false, false, false, false]), (6, [], 5, #[true, false, true, true, true, true, true, false, false, false, false])] (by kernel_rfl) ⟨?_, ?_, trivial⟩
       ·exact hL.edge n4
       ·exact hL.edge n13
      refine hN.node L 7 #[true, false, true, true, true, false, false, false, false, false, false] 7 [26] [] [] [] ?_ fun n11 hN => ?_
      ·refine hL.step [(1, [], 6, #[true, true, true, true, true, false, false, false, false, false, false]), (5, [], 6, #[true, false, true, true, true, true, false, false, false, false, false])] (by kernel_rfl) ⟨?_, ?_, trivial⟩
       ·exact hL.edge n3
       ·exact hL.edge n12
      refine hN.node L 8 #[true, false, true, true, false, false, false, false, false, false, false] 7 [25] [] [(0, .box [.sl 1, iV y_9])] [] ?_ fun n10 hN => ?_
      ·refine hL.step [(1, [], 7, #[true, true, true, true, false, false, false, false, false, false, false]), (4, [], 7, #[true, false, true, true, true, false, false, false, false, false, false])] (by kernel_rfl) ⟨?_, ?_, trivial⟩
       ·exact hL.edge n2
       ·have nn := n11
        exact au15
      refine hN.node L 8 #[true, false, false, true, true, false, false, false, false, false, false] 6 [23] [(25, iV y_10)] [(0, .box [.sl 1, iV y_11])] [] ?_ fun n15 hN => ?_
      ·refine hL.step [(1, [], 7, #[true, true, false, true, true, false, false, false, false, false, false]), (2, [], 7, #[true, false, true, true, true, false, false, false, false, false, false])] (by kernel_rfl) ⟨?_, ?_, trivial⟩
       ·exact hL.edge n9
       ·exact hL.edge n11
      refine hN.node L 9 #[true, false, false, true, false, false, false, false, false, false, false] 6 [25] [] [(0, .box [.sl 1, iV y_9])] [] ?_ fun n0 hN => ?_
      ·refine hL.step [(1, [], 8, #[true, true, false, true, false, false, false, false, false, false, false]), (2, [], 8, #[true, false, true, true, false, false, false, false, false, false, false]), (4, [], 8, #[true, false, false, true, true, false, false, false, false, false, false])] (by kernel_rfl) ⟨?_, ?_, ?_, trivial⟩
       ·exact hL.edge n1
       ·exact hL.edge n10
       ·have nn := n15
        exact au15
      have nn := n0
      exact au14
     ·clear hr0 hp1 hp2
      refine nm ?_
      refine ⟨_, h, ?_⟩
      exact Red.selA [0, 1, 2, 3, 4, 5] Red.auto
    ·replace ⟨hp0, h⟩ := chk_some h
     refine awp_rEM ftCOk [0, 20] [] [(3, .box [.sl 6, .sl 5])] [oI (List.replicate 2001 0)] ?_
     clear hp0
     refine nm ?_
     refine ⟨_, h, ?_⟩
     exact Red.selA [0, 1, 2, 3, 6, 5] Red.auto
   ·refine awp_skip ?_
    refine nm ?_
    refine ⟨_, h, ?_⟩
    exact Red.auto
  ·clear h
   rintro ⟨p0_1_1, t5_0s_1, t5_1s⟩ h
   try dsimp only at h
   try dsimp only
   refine awp_rM ftCOk [5] [] [(2, .box [.sl 4, .sl 5])] [] ?_
   refine awp_ret ?_
   obtain rfl := Option.some.inj h
   exact finQ [0, 1, 4, 5]
theorem k_spec_l20Edge (a0_0 : List Int) (a0_1 : Int) (a1 : Int) {r : Int × Int × Int × Int} (h : spec_l20Edge a0_0 a0_1 a1 = some r) :
 FnA Tryz.prog 70 [.pp 0 0, iV a1] [.box [.sl 1, iV a0_1], rY a0_0] [] (fun x H => x = .agg [iV r.1, iV r.2.1, iV r.2.2.1] ∧ H = [.box [.sl 1, iV r.2.2.2], rY a0_0]) := by
 unfold spec_l20Edge at h
 refine FnA.ofA 21 [0, 1] [.cell 4 105] Tryz.func70 en70 ?_
 refine awp_rM ftCOk [] [(4, .pp 2 0)] [] [.box [iV 0, iV 0, iV 0]] ?_
 replace ⟨⟨y, y_1⟩, hr0, h⟩ := bind_some h
 try dsimp only at h
 replace ⟨⟨y_2, y_3⟩, hr1, h⟩ := bind_some h
 try dsimp only at h
 replace ⟨⟨y_4, y_5⟩, hr2, h⟩ := bind_some h
 try dsimp only at h
 replace ⟨⟨y_6, y_7⟩, hr3, h⟩ := bind_some h
 try dsimp only at h
 replace ⟨hp4, h⟩ := chk_some h
 refine awp_c ftCOk [0, 1] [] [(0, .box [.sl 1, iV y_7]), (1, .box [iV y, iV y_2, iV (([y_4, 0, 1, 20] : List Int).getD y_6.toNat 0)])] [oI [y_4, 0, 1, 20]] [⟨3, [0, 1], k_spec_l20Rd_pick a0_0 a0_1 (max 1 a1) (h := hr0)⟩, ⟨3, [0, 1], k_spec_l20Rd_pick a0_0 y_1 (max 1 a1) (h := hr1)⟩, ⟨1, [0, 1], k_spec_l20Rd_pick a0_0 y_3 6 (h := hr2)⟩, ⟨2, [0, 1], k_spec_l20Rd_pick a0_0 y_5 4 (h := hr3)⟩] ?_
 clear hr0 hr1 hr2 hr3 hp4
 refine awp_ret ?_
 obtain rfl := Option.some.inj h
 exact finQ [0, 1]
theorem k_spec_l1OwnGraph (a0_0 : Int) (a0_1 : List (Int × Int × Int)) {r : Int × (List (Int × Int × Int))} (h : spec_l1OwnGraph a0_0 a0_1 = some r) :
 FnA Tryz.prog 72 [.agg [iV a0_0, .sl 0]] [rT a0_1] [] (fun x H => x = .agg [iV r.1, .sl 1] ∧ H = [rT a0_1, oT r.2]) := by
 unfold spec_l1OwnGraph at h
 refine FnA.ofA 11 [0] [.cell 2 54] Tryz.func72 en72 ?_
 refine awp_rM ftCOk [0] [(1, .pp 1 0), (2, .pp 2 0)] [] [.box [iV a0_0, .sl 0], .box [iV 0, nV]] ?_
 refine awp_freeze 1 (by rfl) (by rfl) (by exact rfl) ?_
 refine awp_rM ftCOk [] [(3, .pp 3 0)] [] [.box [iV a0_0, .sl 0]] ?_
 replace ⟨hp0, h⟩ := chk_some h
 refine awp_rM ftCOk [1] [] [(3, .box [iV a0_0, .sl 4])] [oT ([] ++ a0_1)] ?_
 clear hp0
 refine awp_rM ftCOk [3] [] [(2, .box [iV a0_0, .sl 4])] [] ?_
 refine awp_ret ?_
 obtain rfl := Option.some.inj h
 exact finQ [0, 4]
theorem k_spec_GraphValid (a0_0 : Int) (a0_1 : List (Int × Int × Int)) {r : Bool} (h : spec_GraphValid a0_0 a0_1 = some r) :
 FnA Tryz.prog 73 [.agg [iV a0_0, .sl 0]] [rT a0_1] [] (fun x H => x = bV r ∧ H = [rT a0_1]) := by
 unfold spec_GraphValid at h
 refine FnA.ofA 70 [0] [.tmp 2] Tryz.func73 en73 ?_
 refine awp_rM ftCOk [0] [(1, .pp 1 0)] [] [.box [iV a0_0, .sl 0]] ?_
 refine awp_freeze 1 (by rfl) (by rfl) (by exact rfl) ?_
 refine awp_seq fun K20 hK20 => ?_
 refine awp_rS ftCOk [] [(3, iV 0)] ?_
 refine awp_block ?_
 replace h := bind_some h
 obtain ⟨x39, hx, h⟩ := h
 refine awp_loopL hx (fun t3 => [(1, .pp 1 0), (3, iV t3)]) (fun t3 => [rT a0_1, .rbox [iV a0_0, .sl 0]]) (Sum.elim (fun _ => Exit.exit 0) (fun _ => Exit.ret)) (Sum.elim (fun _ => [(1, .pp 1 0)]) (fun _ => [(2, bV false)])) (Sum.elim (fun _ => [rT a0_1, .rbox [iV a0_0, .sl 0]]) (fun _ => [rT a0_1])) ?_ ?_ ?_ ?_
 ·rintro (⟨⟩ | ⟨⟩) hy <;> cases hy
 ·clear h hx
  exact Red.auto
 ·clear h hx
  rintro t3 r h
  unfold spec_GraphValid_b0 at h
  try dsimp only at h
  try dsimp only
  refine awp_seq fun K34 hK34 => ?_
  refine awp_rS ftCOk [] [(9, bV (decide (t3 < (a0_1.length : Int))))] ?_
  refine awp_if h ?_ ?_ <;> clear h <;> intro hc h
  ·refine awp_skip ?_
   refine hK34 _ _ ?_
   clear hK34
   refine awp_seq fun K37 hK37 => ?_
   refine awp_block ?_
   replace ⟨hp0, h⟩ := chk_some h
   refine awp_rM ftCOk [9] [(4, .pp 2 0)] [] [.box [iV ((a0_1.getD t3.toNat (0, 0, 0)).1), iV ((a0_1.getD t3.toNat (0, 0, 0)).2.1), iV ((a0_1.getD t3.toNat (0, 0, 0)).2.2)]] ?_
   clear hp0
   replace ⟨hp0, h⟩ := chk_some h
   have hwhp0 := wrap_fits hp0.1 hp0.2
   replace ⟨hp1, h⟩ := chk_some h
   refine awp_t [4] [(60, bV (((((!(decide (0 ≤ (a0_1.getD t3.toNat (0, 0, 0)).1) && decide ((a0_1.getD t3.toNat (0, 0, 0)).1 ≤ (IntKind.i64.wrap (a0_0 - 1))))) || (!(decide (0 ≤ (a0_1.getD t3.toNat (0, 0, 0)).2.1) && decide ((a0_1.getD t3.toNat (0, 0, 0)).2.1 ≤ (IntKind.i64.wrap (a0_0 - 1)))))) || ((a0_1.getD t3.toNat (0, 0, 0)).1 == (a0_1.getD t3.toNat (0, 0, 0)).2.1)) || (!(decide (0 ≤ (a0_1.getD t3.toNat (0, 0, 0)).2.2) && decide ((a0_1.getD t3.toNat (0, 0, 0)).2.2 ≤ 20)))) || ((decide (0 < t3)) && (!(decide ((a0_1.getD ((t3 - 1).toNat) (0, 0, 0)).1 < (a0_1.getD t3.toNat (0, 0, 0)).1 ∨ (a0_1.getD ((t3 - 1).toNat) (0, 0, 0)).1 = (a0_1.getD t3.toNat (0, 0, 0)).1 ∧ (a0_1.getD ((t3 - 1).toNat) (0, 0, 0)).2.1 < (a0_1.getD t3.toNat (0, 0, 0)).2.1))))))] [] [] ?_ ?_
   ·clear h
    intro K hK
    refine awp_quietg mixed ftCOk (by kernel_rfl) ?_
    simp (maxSteps := 4000000) only [go_sem]
    repeat' (first | refine And.intro ?_ ?_ | intro hg)
    all_goals (try simp (disch := omega) only [wrap_fits])
    all_goals first | exact al0 | (have hq := hp1 byg byg; omega) | exact al1
   ·clear hp0 hp1
    refine awp_if h ?_ ?_ <;> clear h <;> intro hc h
    ·refine awp_rS ftCOk [1, 3, 60] [(2, bV false)] ?_
     refine awp_ret ?_
     refine nm ?_
     obtain rfl := Option.some.inj h
     refine LoopQ.out rfl ?_
     exact Red.selA [0] Red.auto
    ·refine awp_skip ?_
     refine hK37 _ _ ?_
     clear hK37
     replace ⟨hp0, h⟩ := chk_some h
     refine awp_rES ftCOk [3, 60] [(3, iV (t3 + 1))] ?_
     clear hp0
     obtain rfl := Option.some.inj h
     refine LoopQ.next ?_
     exact Red.selA [0, 1] Red.auto
  ·refine awp_exit ?_
   refine nm ?_
   obtain rfl := Option.some.inj h
   refine LoopQ.out rfl ?_
   exact Red.auto
 ·clear hx
  rcases x39 with (⟨⟩ | ⟨⟩)
  ·try dsimp only [Sum.elim_inl, Sum.elim_inr] at h
   try dsimp only [Sum.elim_inl, Sum.elim_inr]
   refine hK20 _ _ ?_
   clear hK20
   refine awp_rS ftCOk [1] [(2, bV ((decide (0 ≤ a0_0) && decide (a0_0 ≤ 16)) && (decide ((a0_1.length : Int) ≤ 40))))] ?_
   refine awp_ret ?_
   obtain rfl := Option.some.inj h
   exact finQ [0]
  ·try dsimp only [Sum.elim_inl, Sum.elim_inr] at h
   try dsimp only [Sum.elim_inl, Sum.elim_inr]
   obtain rfl := Option.some.inj h
   exact finQ [0]
theorem k_spec_AddEdge (a0_0 : Int) (a0_1 : List (Int × Int × Int)) (a1_0 : Int) (a1_1 : Int) (a1_2 : Int) {r : Int × (List (Int × Int × Int)) × Bool} (h : spec_AddEdge a0_0 a0_1 a1_0 a1_1 a1_2 = some r) :
 FnA Tryz.prog 69 [.agg [iV a0_0, .sl 0], .agg [iV a1_0, iV a1_1, iV a1_2]] [rT a0_1] [] (fun x H => x = .tup [.agg [iV r.1, .sl 1], bV r.2.2] ∧ H = [rT a0_1, oT r.2.1]) := by
 unfold spec_AddEdge at h
 refine FnA.ofA 82 [0] [.cell 4 54, .tmp 5] Tryz.func69 en69 ?_
 refine awp_rM ftCOk [0, 1] [(2, .pp 1 0), (3, .pp 2 0), (4, .pp 3 0)] [] [.box [iV a0_0, .sl 0], .box [iV a1_0, iV a1_1, iV a1_2], .box [iV 0, nV]] ?_
 refine awp_freeze 3 (by rfl) (by rfl) (by exact rfl) ?_
 replace ⟨⟨y, y_1⟩, hr0, h⟩ := bind_some h
 try dsimp only at h
 refine awp_c ftCOk [] [] [(1, .box [iV y, .sl 4])] [oT y_1] [⟨1, [0], k_spec_l1OwnGraph a0_0 a0_1 (h := hr0)⟩] ?_
 clear hr0
 refine awp_seq fun K2 hK2 => ?_
 replace ⟨y_2, hr0, h⟩ := bind_some h
 refine awp_c ftCOk [] [(14, bV (!y_2))] [] [] [⟨1, [4], k_spec_GraphValid y y_1 (h := hr0)⟩] ?_
 clear hr0
 refine awp_if h ?_ ?_ <;> clear h <;> intro hc h
 ·refine awp_rS ftCOk [2, 3, 14] [(5, bV false)] ?_
  refine awp_red (Red.nilCell (o := 3) (i := 1) (.trips []) rfl rfl rfl) ?_
  refine awp_ret ?_
  obtain rfl := Option.some.inj h
  exact finQ [0, 5]
 ·refine awp_skip ?_
  refine hK2 _ _ ?_
  clear hK2
  refine awp_rM ftCOk [14] [(6, .pp 5 0)] [] [.box [iV y, nV]] ?_
  refine awp_rS ftCOk [] [(7, bV false)] ?_
  refine awp_seq fun K49 hK49 => ?_
  refine awp_rS ftCOk [] [(8, iV 0)] ?_
  refine awp_block ?_
  replace h := bind_some h
  obtain ⟨x94, hx, h⟩ := h
  refine awp_loopL hx (fun (t7, t8, t6_1s) => [(2, .pp 1 0), (3, .pp 3 0), (4, .pp 4 0), (6, .pp 5 0), (7, bV t7), (8, iV t8)]) (fun (t7, t8, t6_1s) => [rT a0_1, .box [iV y, .sl 2], oT y_1, .rbox [iV a1_0, iV a1_1, iV a1_2], .box [iV 0, nV], .box [iV y, .sl 6], oT t6_1s]) (fun _ => Exit.exit 0) (fun (t7_1, t6_1s_1) => [(2, .pp 1 0), (3, .pp 3 0), (4, .pp 4 0), (6, .pp 5 0), (7, bV t7_1)]) (fun (t7_1, t6_1s_1) => [rT a0_1, .box [iV y, .sl 2], oT y_1, .rbox [iV a1_0, iV a1_1, iV a1_2], .box [iV 0, nV], .box [iV y, .sl 6], oT t6_1s_1]) ?_ ?_ ?_ ?_
  ·rintro ⟨t7_1, t6_1s_1⟩ hy <;> cases hy
  ·clear h hx
   refine Red.trans (Red.nilCell (o := 5) (i := 1) (.trips []) rfl rfl rfl) ?_
   exact Red.selA [0, 1, 4, 2, 3, 5, 6] Red.auto
  ·clear h hx
   rintro ⟨t7, t8, t6_1s⟩ r h
   unfold spec_AddEdge_b0 at h
   try dsimp only at h
   try dsimp only
   refine awp_seq fun K84 hK84 => ?_
   refine awp_rS ftCOk [] [(23, bV (decide (t8 < (y_1.length : Int))))] ?_
   refine awp_if h ?_ ?_ <;> clear h <;> intro hc h
   ·refine awp_skip ?_
    refine hK84 _ _ ?_
    clear hK84
    refine awp_join h (fun (t7_2, t6_1s_2) => [(2, .pp 1 0), (3, .pp 3 0), (4, .pp 4 0), (6, .pp 5 0), (7, bV t7_2), (8, iV t8)]) (fun (t7_2, t6_1s_2) => [rT a0_1, .box [iV y, .sl 2], oT y_1, .rbox [iV a1_0, iV a1_1, iV a1_2], .box [iV 0, nV], .box [iV y, .sl 6], oT t6_1s_2]) ?_ ?_
    ·clear h
     intro k h
     try dsimp only at h
     refine awp_block ?_
     replace ⟨hp0, h⟩ := chk_some h
     refine awp_rM ftCOk [23] [(9, .pp 7 0)] [] [.box [iV ((y_1.getD t8.toNat (0, 0, 0)).1), iV ((y_1.getD t8.toNat (0, 0, 0)).2.1), iV ((y_1.getD t8.toNat (0, 0, 0)).2.2)]] ?_
     clear hp0
     refine awp_join h (fun (t7_3, t6_1s_3) => [(2, .pp 1 0), (3, .pp 3 0), (4, .pp 4 0), (6, .pp 5 0), (7, bV t7_3), (8, iV t8), (9, .pp 7 0)]) (fun (t7_3, t6_1s_3) => [rT a0_1, .box [iV y, .sl 2], oT y_1, .rbox [iV a1_0, iV a1_1, iV a1_2], .box [iV 0, nV], .box [iV y, .sl 6], oT t6_1s_3, .box [iV ((y_1.getD t8.toNat (0, 0, 0)).1), iV ((y_1.getD t8.toNat (0, 0, 0)).2.1), iV ((y_1.getD t8.toNat (0, 0, 0)).2.2)]]) ?_ ?_
     ·clear h
      intro k_1 h
      try dsimp only at h
      refine awp_rS ftCOk [] [(38, bV ((!t7) && (!(decide ((y_1.getD t8.toNat (0, 0, 0)).1 < a1_0 ∨ (y_1.getD t8.toNat (0, 0, 0)).1 = a1_0 ∧ (y_1.getD t8.toNat (0, 0, 0)).2.1 < a1_1)))))] ?_
      refine awp_if h ?_ ?_ <;> clear h <;> intro hc h
      ·replace ⟨hp0, h⟩ := chk_some h
       refine awp_rM ftCOk [7, 38] [] [(6, oT (t6_1s ++ [(a1_0, a1_1, a1_2)]))] [oT [(a1_0, a1_1, a1_2)]] ?_
       clear hp0
       refine awp_rS ftCOk [] [(7, bV true)] ?_
       refine awp_rS ftCOk [] [(56, bV (((y_1.getD t8.toNat (0, 0, 0)).1 == a1_0) && ((y_1.getD t8.toNat (0, 0, 0)).2.1 == a1_1)))] ?_
       refine awp_if h ?_ ?_ <;> clear h <;> intro hc h
       ·refine awp_exit ?_
        refine nm ?_
        refine ⟨_, h, ?_⟩
        exact Red.selA [0, 1, 2, 3, 4, 5, 6] Red.auto
       ·refine awp_skip ?_
        refine nm ?_
        refine ⟨_, h, ?_⟩
        exact Red.selA [0, 1, 2, 3, 4, 5, 6, 7] Red.auto
      ·refine awp_skip ?_
       refine nm ?_
       refine ⟨_, h, ?_⟩
       exact Red.auto
     ·clear h
      rintro ⟨t7_3, t6_1s_3⟩ h
      try dsimp only at h
      try dsimp only
      replace ⟨hp0, h⟩ := chk_some h
      refine awp_rEM ftCOk [9] [] [(6, oT (t6_1s_3 ++ [((y_1.getD t8.toNat (0, 0, 0)).1, (y_1.getD t8.toNat (0, 0, 0)).2.1, (y_1.getD t8.toNat (0, 0, 0)).2.2)]))] [oT [((y_1.getD t8.toNat (0, 0, 0)).1, (y_1.getD t8.toNat (0, 0, 0)).2.1, (y_1.getD t8.toNat (0, 0, 0)).2.2)]] ?_
      clear hp0
      refine nm ?_
      refine ⟨_, h, ?_⟩
      exact Red.selA [0, 1, 2, 3, 4, 5, 6] Red.auto
    ·clear h
     rintro ⟨t7_2, t6_1s_2⟩ h
     try dsimp only at h
     try dsimp only
     replace ⟨hp0, h⟩ := chk_some h
     refine awp_rES ftCOk [8] [(8, iV (t8 + 1))] ?_
     clear hp0
     obtain rfl := Option.some.inj h
     refine LoopQ.next ?_
     exact Red.auto
   ·refine awp_exit ?_
    refine nm ?_
    obtain rfl := Option.some.inj h
    refine LoopQ.out rfl ?_
    exact Red.auto
  ·clear hx
   rcases x94 with ⟨t7_1, t6_1s_1⟩
   ·try dsimp only [Sum.elim_inl, Sum.elim_inr] at h
    try dsimp only [Sum.elim_inl, Sum.elim_inr]
    refine hK49 _ _ ?_
    clear hK49
    refine awp_join h (fun t6_1s_4 => [(2, .pp 1 0), (4, .pp 3 0), (6, .pp 4 0)]) (fun t6_1s_4 => [rT a0_1, .box [iV y, .sl 2], oT y_1, .box [iV 0, nV], .box [iV y, .sl 5], oT t6_1s_4]) ?_ ?_
    ·clear h
     intro k_2 h
     try dsimp only at h
     refine awp_rS ftCOk [7] [(64, bV (!t7_1))] ?_
     refine awp_if h ?_ ?_ <;> clear h <;> intro hc h
     ·replace ⟨hp0, h⟩ := chk_some h
      refine awp_rEM ftCOk [3, 64] [] [(6, oT (t6_1s_1 ++ [(a1_0, a1_1, a1_2)]))] [oT [(a1_0, a1_1, a1_2)]] ?_
      clear hp0
      refine nm ?_
      refine ⟨_, h, ?_⟩
      exact Red.selA [0, 1, 2, 4, 5, 6] Red.auto
     ·refine awp_skip ?_
      refine nm ?_
      refine ⟨_, h, ?_⟩
      exact Red.selA [0, 1, 2, 4, 5, 6] Red.auto
    ·clear h
     rintro t6_1s_4 h
     try dsimp only at h
     try dsimp only
     refine awp_seq fun K98 hK98 => ?_
     replace ⟨y_3, hr0, h⟩ := bind_some h
     refine awp_c ftCOk [] [(73, bV (!y_3))] [] [] [⟨1, [5], k_spec_GraphValid y t6_1s_4 (h := hr0)⟩] ?_
     clear hr0
     refine awp_if h ?_ ?_ <;> clear h <;> intro hc h
     ·refine awp_freeze 2 (by rfl) (by rfl) (by first | exact rfl | (simp only [List.map_cons, List.map_nil, List.set_cons_succ, List.set_cons_zero, AObj.unview, reduceCtorEq, ↓reduceIte, Nat.reduceEqDiff]; exact rfl)) ?_
      replace ⟨hp0, h⟩ := chk_some h
      refine awp_t [2, 6, 73] [(5, bV false)] [(3, .box [iV y, .sl 6])] [oT ([] ++ y_1)] ?_ ?_
      ·clear h
       intro K hK
       refine awp_drawT mixed ftCOk (.free 0 (.free 3 (.free 1 (.free 4 (.one 2 (.one 5 (.one 6 (.one 7 (.one 8 .fin))))))))) (by kernel_rfl) (by simp) ?_
       exact auV
      ·clear hp0
       refine awp_ret ?_
       obtain rfl := Option.some.inj h
       exact finQ [0, 6]
     ·refine awp_skip ?_
      refine hK98 _ _ ?_
      clear hK98
      refine awp_rM ftCOk [2, 6, 73] [(5, bV true)] [(3, .box [iV y, .sl 5])] [] ?_
      refine awp_ret ?_
      obtain rfl := Option.some.inj h
      exact finQ [0, 5]
theorem k_spec_l20Graph (a0_0 : List Int) (a0_1 : Int) (a1 : Int) {r : Int × (List (Int × Int × Int)) × Int} (h : spec_l20Graph a0_0 a0_1 a1 = some r) :
 FnA Tryz.prog 45 [.pp 0 0, iV a1] [.box [.sl 1, iV a0_1], rY a0_0] [] (fun x H => x = .agg [iV r.1, .sl 2] ∧ H = [.box [.sl 1, iV r.2.2], rY a0_0, oT r.2.1]) := by
 unfold spec_l20Graph at h
 refine FnA.ofA 72 [0, 1] [.cell 4 54] Tryz.func45 en45 ?_
 refine awp_rM ftCOk [] [(4, .pp 2 0)] [] [.box [iV 0, nV]] ?_
 replace ⟨⟨y, y_1⟩, hr0, h⟩ := bind_some h
 try dsimp only at h
 replace ⟨⟨y_2, y_3⟩, hr1, h⟩ := bind_some h
 try dsimp only at h
 replace ⟨hp2, h⟩ := chk_some h
 replace ⟨⟨y_4, y_5⟩, hr3, h⟩ := bind_some h
 try dsimp only at h
 replace ⟨hp4, h⟩ := chk_some h
 replace ⟨hp5, h⟩ := chk_some h
 refine awp_c ftCOk [] [(5, .pp 5 0)] [(0, .box [.sl 1, iV y_5])] [oI [y, (2 + y_2), 16, 0], oI [0, 1, 1, 1, 1, 1, 2, 3], .box [iV (([y, (2 + y_2), 16, 0] : List Int).getD ((([0, 1, 1, 1, 1, 1, 2, 3] : List Int).getD y_4.toNat 0).toNat) 0), nV]] [⟨1, [0, 1], k_spec_l20Rd_pick a0_0 a0_1 9 (h := hr0)⟩, ⟨1, [0, 1], k_spec_l20Rd_pick a0_0 y_1 7 (h := hr1)⟩, ⟨4, [0, 1], k_spec_l20Rd_pick a0_0 y_3 8 (h := hr3)⟩] ?_
 clear hr0 hr1 hp2 hr3 hp4 hp5
 refine awp_seq fun K18 hK18 => ?_
 replace ⟨⟨y_6, y_7⟩, hr0, h⟩ := bind_some h
 try dsimp only at h
 refine awp_c ftCOk [] [(6, iV y_6)] [(0, .box [.sl 1, iV y_7])] [] [⟨1, [0, 1], k_spec_l20Rd_pick a0_0 y_5 14 (h := hr0)⟩] ?_
 clear hr0
 refine awp_block ?_
 replace h := bind_some h
 obtain ⟨x35, hx, h⟩ := h
 refine awp_loopL hx (fun (t6, p0_1, t5_0, t5_1s) => [(0, .pp 0 0), (1, iV a1), (4, .pp 2 0), (5, .pp 4 0), (6, iV t6)]) (fun (t6, p0_1, t5_0, t5_1s) => [.box [.sl 1, iV p0_1], rY a0_0, .box [iV 0, .sl 3], oT [], .box [iV t5_0, .sl 5], oT t5_1s]) (fun _ => Exit.exit 0) (fun (p0_1_1, t5_0_1, t5_1s_1) => [(0, .pp 0 0), (1, iV a1), (4, .pp 2 0), (5, .pp 4 0)]) (fun (p0_1_1, t5_0_1, t5_1s_1) => [.box [.sl 1, iV p0_1_1], rY a0_0, .box [iV 0, .sl 3], oT [], .box [iV t5_0_1, .sl 5], oT t5_1s_1]) ?_ ?_ ?_ ?_
 ·rintro ⟨p0_1_1, t5_0_1, t5_1s_1⟩ hy <;> cases hy
 ·clear h hx
  refine Red.trans (Red.nilCell (o := 2) (i := 1) (.trips []) rfl rfl rfl) ?_
  refine Red.trans (Red.nilCell (o := 5) (i := 1) (.trips []) rfl rfl rfl) ?_
  exact Red.selA [0, 1, 2, 6, 5, 7] Red.auto
 ·clear h hx
  rintro ⟨t6, p0_1, t5_0, t5_1s⟩ r h
  unfold spec_l20Graph_b0 at h
  try dsimp only at h
  try dsimp only
  refine awp_seq fun K32 hK32 => ?_
  refine awp_rS ftCOk [] [(24, bV (decide (0 < t6)))] ?_
  refine awp_if h ?_ ?_ <;> clear h <;> intro hc h
  ·refine awp_skip ?_
   refine hK32 _ _ ?_
   clear hK32
   refine awp_seq fun K34 hK34 => ?_
   refine awp_block ?_
   replace ⟨⟨y_8, y_9, y_10, y_11⟩, hr0, h⟩ := bind_some h
   replace ⟨⟨y_12, y_13, y_14⟩, hr1, h⟩ := bind_some h
   try dsimp only at h
   refine awp_tE [24] [] [(0, .box [.sl 1, iV y_11]), (3, .box [iV y_12, .sl 6])] [oT y_13] ?_ ?_
   ·clear h
    intro K hK
    refine awp_drawT mixed ftCOk (.free 1 (.free 2 (.two 0 3 (.one 3 (.one 4 (.one 5 (.one 6 (.free 7 (.free 8 (.one 9 .fin))))))) (.two 0 4 (.one 4 (.one 5 (.one 6 (.free 7 (.free 8 (.one 9 .fin)))))) (.one 0 (.one 5 (.one 6 (.free 7 (.free 8 (.one 9 .fin)))))))))) (by kernel_rfl) (by simp) ?_
    simp (maxSteps := 4000000) only [go_sem]
    repeat' (first | refine And.intro ?_ ?_ | intro hg)
    all_goals (try simp (disch := omega) only [wrap_fits])
    all_goals first
     | exact al0
     | (refine OpK_callA (k_spec_l20Edge a0_0 p0_1 t5_0 (h := hr0)) [0, 1] [] ?_
        rintro x Hc' ⟨rfl, rfl⟩ hlen
        simp (maxSteps := 4000000) only [go_sem]
        repeat' (first | refine And.intro ?_ ?_ | intro hg)
        all_goals (try simp (disch := omega) only [wrap_fits])
        all_goals first
         | exact al0
         | (refine OpK_callA (k_spec_AddEdge t5_0 t5_1s y_8 y_9 y_10 (h := hr1)) [5] [] ?_
            rintro x Hc' ⟨rfl, rfl⟩ hlen
            exact auV)
         | exact al1)
     | exact al1
   ·clear hr0 hr1
    refine hK34 _ _ ?_
    clear hK34
    replace ⟨hp0, h⟩ := chk_some h
    have hwhp0 := wrap_fits hp0.1 hp0.2
    refine awp_rES ftCOk [6] [(6, iV (t6 - 1))] ?_
    clear hp0
    obtain rfl := Option.some.inj h
    refine LoopQ.next ?_
    exact Red.selA [0, 1, 2, 3, 4, 6] Red.auto
  ·refine awp_exit ?_
   refine nm ?_
   obtain rfl := Option.some.inj h
   refine LoopQ.out rfl ?_
   exact Red.auto
 ·clear hx
  rcases x35 with ⟨p0_1_1, t5_0_1, t5_1s_1⟩
  ·try dsimp only [Sum.elim_inl, Sum.elim_inr] at h
   try dsimp only [Sum.elim_inl, Sum.elim_inr]
   refine hK18 _ _ ?_
   clear hK18
   refine awp_join h (fun (p0_1_2, t5_0_2, t5_1s_2) => [(4, .pp 2 0), (5, .pp 4 0)]) (fun (p0_1_2, t5_0_2, t5_1s_2) => [.box [.sl 1, iV p0_1_2], rY a0_0, .box [iV 0, .sl 3], oT [], .box [iV t5_0_2, .sl 5], oT t5_1s_2]) ?_ ?_
   ·clear h
    intro k h
    try dsimp only at h
    replace ⟨⟨y_15, y_16⟩, hr0, h⟩ := bind_some h
    try dsimp only at h
    refine awp_c ftCOk [1] [(38, bV y_15)] [(0, .box [.sl 1, iV y_16])] [] [⟨2, [0, 1], k_spec_l20Rd_odd a0_0 p0_1_1 a1 (h := hr0)⟩] ?_
    clear hr0
    refine awp_if h ?_ ?_ <;> clear h <;> intro hc h
    ·replace ⟨⟨y_17, y_18⟩, hr0, h⟩ := bind_some h
     try dsimp only at h
     refine awp_c ftCOk [38] [(40, iV y_17)] [(0, .box [.sl 1, iV y_18])] [] [⟨1, [0, 1], k_spec_l20Rd_pick a0_0 y_16 4 (h := hr0)⟩] ?_
     clear hr0
     refine awp_block ?_
     refine awp_rS ftCOk [] [(47, bV (y_17 == 0))] ?_
     refine awp_if h ?_ ?_ <;> clear h <;> intro hc h
     ·replace ⟨⟨y_19, y_20⟩, hr0, h⟩ := bind_some h
      try dsimp only at h
      replace ⟨hp1, h⟩ := chk_some h
      refine awp_cE ftCOk [0, 40, 47] [] [(0, .box [.sl 1, iV y_20]), (3, .box [iV (([(-1), 17] : List Int).getD y_19.toNat 0), .sl 5])] [oI [(-1), 17]] [⟨2, [0, 1], k_spec_l20Rd_pick a0_0 y_18 2 (h := hr0)⟩] ?_
      clear hr0 hp1
      refine nm ?_
      refine ⟨_, h, ?_⟩
      exact Red.selA [0, 1, 2, 3, 4, 5] Red.auto
     ·refine awp_rS ftCOk [0, 47] [(55, bV (y_17 == 1))] ?_
      refine awp_if h ?_ ?_ <;> clear h <;> intro hc h
      ·replace ⟨hp0, h⟩ := chk_some h
       refine awp_rEM ftCOk [40, 55] [] [(5, oT (t5_1s_1 ++ [(0, 0, 0)]))] [oT [(0, 0, 0)]] ?_
       clear hp0
       refine nm ?_
       refine ⟨_, h, ?_⟩
       exact Red.selA [0, 1, 2, 3, 4, 5] Red.auto
      ·refine awp_rS ftCOk [40, 55] [(63, bV (y_17 == 2))] ?_
       refine awp_if h ?_ ?_ <;> clear h <;> intro hc h
       ·replace ⟨hp0, h⟩ := chk_some h
        refine awp_rEM ftCOk [63] [] [(5, oT (t5_1s_1 ++ [(0, 1, 21)]))] [oT [(0, 1, 21)]] ?_
        clear hp0
        refine nm ?_
        refine ⟨_, h, ?_⟩
        exact Red.selA [0, 1, 2, 3, 4, 5] Red.auto
       ·replace ⟨hp0, h⟩ := chk_some h
        refine awp_rEM ftCOk [63] [] [(4, .box [iV t5_0_1, .sl 6])] [oT ([(15, 0, 0)] ++ t5_1s_1)] ?_
        clear hp0
        refine nm ?_
        refine ⟨_, h, ?_⟩
        exact Red.selA [0, 1, 2, 3, 4, 6] Red.auto
    ·refine awp_skip ?_
     refine nm ?_
     refine ⟨_, h, ?_⟩
     exact Red.auto
   ·clear h
    rintro ⟨p0_1_2, t5_0_2, t5_1s_2⟩ h
    try dsimp only at h
    try dsimp only
    refine awp_rM ftCOk [5] [] [(2, .box [iV t5_0_2, .sl 5])] [] ?_
    refine awp_ret ?_
    obtain rfl := Option.some.inj h
    exact finQ [0, 1, 5]
theorem k_spec_l20Dense (a0_0 : List Int) (a0_1 : Int) {r : Int × (List (Int × Int × Int)) × Int} (h : spec_l20Dense a0_0 a0_1 = some r) :
 FnA Tryz.prog 47 [.pp 0 0] [.box [.sl 1, iV a0_1], rY a0_0] [] (fun x H => x = .agg [iV r.1, .sl 2] ∧ H = [.box [.sl 1, iV r.2.2], rY a0_0, oT r.2.1]) := by
 unfold spec_l20Dense at h
 refine FnA.ofA 29 [0, 1] [.cell 2 54] Tryz.func47 en47 ?_
 refine awp_rM ftCOk [] [(2, .pp 2 0)] [] [.box [iV 0, nV]] ?_
 replace ⟨⟨y, y_1⟩, hr0, h⟩ := bind_some h
 try dsimp only at h
 replace ⟨hp1, h⟩ := chk_some h
 refine awp_c ftCOk [] [(3, .pp 3 0)] [(0, .box [.sl 1, iV y_1])] [.box [iV (3 + y), nV]] [⟨1, [0, 1], k_spec_l20Rd_pick a0_0 a0_1 5 (h := hr0)⟩] ?_
 clear hr0 hp1
 refine awp_seq fun K18 hK18 => ?_
 replace ⟨⟨y_2, y_3⟩, hr0, h⟩ := bind_some h
 try dsimp only at h
 replace ⟨hp1, h⟩ := chk_some h
 refine awp_c ftCOk [] [(4, iV (6 + y_2))] [(0, .box [.sl 1, iV y_3])] [] [⟨1, [0, 1], k_spec_l20Rd_pick a0_0 y_1 16 (h := hr0)⟩] ?_
 clear hr0 hp1
 refine awp_block ?_
 replace h := bind_some h
 obtain ⟨x35, hx, h⟩ := h
 refine awp_loopL hx (fun (t4, p0_1, t3_0, t3_1s) => [(0, .pp 0 0), (2, .pp 2 0), (3, .pp 4 0), (4, iV t4)]) (fun (t4, p0_1, t3_0, t3_1s) => [.box [.sl 1, iV p0_1], rY a0_0, .box [iV 0, .sl 3], oT [], .box [iV t3_0, .sl 5], oT t3_1s]) (fun _ => Exit.exit 0) (fun (p0_1_1, t3_0_1, t3_1s_1) => [(0, .pp 0 0), (2, .pp 2 0), (3, .pp 4 0)]) (fun (p0_1_1, t3_0_1, t3_1s_1) => [.box [.sl 1, iV p0_1_1], rY a0_0, .box [iV 0, .sl 3], oT [], .box [iV t3_0_1, .sl 5], oT t3_1s_1]) ?_ ?_ ?_ ?_
 ·rintro ⟨p0_1_1, t3_0_1, t3_1s_1⟩ hy <;> cases hy
 ·clear h hx
  refine Red.trans (Red.nilCell (o := 2) (i := 1) (.trips []) rfl rfl rfl) ?_
  refine Red.trans (Red.nilCell (o := 3) (i := 1) (.trips []) rfl rfl rfl) ?_
  exact Red.selA [0, 1, 2, 4, 3, 5] Red.auto
 ·clear h hx
  rintro ⟨t4, p0_1, t3_0, t3_1s⟩ r h
  unfold spec_l20Dense_b0 at h
  try dsimp only at h
  try dsimp only
  refine awp_seq fun K32 hK32 => ?_
  refine awp_rS ftCOk [] [(13, bV (decide (0 < t4)))] ?_
  refine awp_if h ?_ ?_ <;> clear h <;> intro hc h
  ·refine awp_skip ?_
   refine hK32 _ _ ?_
   clear hK32
   refine awp_seq fun K34 hK34 => ?_
   refine awp_block ?_
   replace ⟨⟨y_4, y_5, y_6, y_7⟩, hr0, h⟩ := bind_some h
   replace ⟨⟨y_8, y_9, y_10⟩, hr1, h⟩ := bind_some h
   try dsimp only at h
   refine awp_tE [13] [] [(0, .box [.sl 1, iV y_7]), (3, .box [iV y_8, .sl 6])] [oT y_9] ?_ ?_
   ·clear h
    intro K hK
    refine awp_drawT mixed ftCOk (.free 1 (.free 2 (.two 0 3 (.one 3 (.one 4 (.one 5 (.one 6 (.free 7 (.free 8 (.one 9 .fin))))))) (.two 0 4 (.one 4 (.one 5 (.one 6 (.free 7 (.free 8 (.one 9 .fin)))))) (.one 0 (.one 5 (.one 6 (.free 7 (.free 8 (.one 9 .fin)))))))))) (by kernel_rfl) (by simp) ?_
    simp (maxSteps := 4000000) only [go_sem]
    repeat' (first | refine And.intro ?_ ?_ | intro hg)
    all_goals (try simp (disch := omega) only [wrap_fits])
    all_goals first
     | exact al0
     | (refine OpK_callA (k_spec_l20Edge a0_0 p0_1 t3_0 (h := hr0)) [0, 1] [] ?_
        rintro x Hc' ⟨rfl, rfl⟩ hlen
        simp (maxSteps := 4000000) only [go_sem]
        repeat' (first | refine And.intro ?_ ?_ | intro hg)
        all_goals (try simp (disch := omega) only [wrap_fits])
        all_goals first
         | exact al0
         | (refine OpK_callA (k_spec_AddEdge t3_0 t3_1s y_4 y_5 y_6 (h := hr1)) [5] [] ?_
            rintro x Hc' ⟨rfl, rfl⟩ hlen
            exact auV)
         | exact al1)
     | exact al1
   ·clear hr0 hr1
    refine hK34 _ _ ?_
    clear hK34
    replace ⟨hp0, h⟩ := chk_some h
    have hwhp0 := wrap_fits hp0.1 hp0.2
    refine awp_rES ftCOk [4] [(4, iV (t4 - 1))] ?_
    clear hp0
    obtain rfl := Option.some.inj h
    refine LoopQ.next ?_
    exact Red.selA [0, 1, 2, 3, 4, 6] Red.auto
  ·refine awp_exit ?_
   refine nm ?_
   obtain rfl := Option.some.inj h
   refine LoopQ.out rfl ?_
   exact Red.auto
 ·clear hx
  rcases x35 with ⟨p0_1_1, t3_0_1, t3_1s_1⟩
  ·try dsimp only [Sum.elim_inl, Sum.elim_inr] at h
   try dsimp only [Sum.elim_inl, Sum.elim_inr]
   refine hK18 _ _ ?_
   clear hK18
   refine awp_join h (fun (p0_1_2, t3_0_2) => [(2, .pp 2 0), (3, .pp 4 0)]) (fun (p0_1_2, t3_0_2) => [.box [.sl 1, iV p0_1_2], rY a0_0, .box [iV 0, .sl 3], oT [], .box [iV t3_0_2, .sl 5], oT t3_1s_1]) ?_ ?_
   ·clear h
    intro k h
    try dsimp only at h
    replace ⟨⟨y_11, y_12⟩, hr0, h⟩ := bind_some h
    try dsimp only at h
    refine awp_c ftCOk [0] [(26, bV y_11)] [(0, .box [.sl 1, iV y_12])] [] [⟨1, [0, 1], k_spec_l20Rd_odd a0_0 p0_1_1 12 (h := hr0)⟩] ?_
    clear hr0
    refine awp_if h ?_ ?_ <;> clear h <;> intro hc h
    ·refine awp_rEM ftCOk [26] [] [(4, .box [iV 1, .sl 5])] [] ?_
     refine nm ?_
     refine ⟨_, h, ?_⟩
     exact Red.auto
    ·refine awp_skip ?_
     refine nm ?_
     refine ⟨_, h, ?_⟩
     exact Red.auto
   ·clear h
    rintro ⟨p0_1_2, t3_0_2⟩ h
    try dsimp only at h
    try dsimp only
    refine awp_rM ftCOk [3] [] [(2, .box [iV t3_0_2, .sl 5])] [] ?_
    refine awp_ret ?_
    obtain rfl := Option.some.inj h
    exact finQ [0, 1, 5]
theorem k_spec_l20Program (a0_0 : List Int) (a0_1 : Int) (a1 : Int) (a2 : Int) {r : Int × Int × Int × Int} (h : spec_l20Program a0_0 a0_1 a1 a2 = some r) :
 FnA Tryz.prog 48 [.pp 0 0, iV a1, iV a2] [.box [.sl 1, iV a0_1], rY a0_0] [] (fun x H => x = .agg [iV r.1, iV r.2.1, iV r.2.2.1] ∧ H = [.box [.sl 1, iV r.2.2.2], rY a0_0]) := by
 unfold spec_l20Program at h
 refine FnA.ofA 62 [0, 1] [.cell 6 56] Tryz.func48 en48 ?_
 refine awp_rM ftCOk [] [(6, .pp 2 0)] [] [.box [iV 0, iV 0, iV 0]] ?_
 replace ⟨⟨y, y_1⟩, hr0, h⟩ := bind_some h
 try dsimp only at h
 replace ⟨hp1, h⟩ := chk_some h
 refine awp_c ftCOk [] [(7, .pp 3 0)] [(0, .box [.sl 1, iV y_1])] [.box [iV (1 + y), iV 0, iV 0]] [⟨1, [0, 1], k_spec_l20Rd_pick a0_0 a0_1 6 (h := hr0)⟩] ?_
 clear hr0 hp1
 refine awp_join h (fun (p0_1, t7_1, t7_2) => [(0, .pp 0 0), (2, iV a2), (6, .pp 2 0), (7, .pp 3 0)]) (fun (p0_1, t7_1, t7_2) => [.box [.sl 1, iV p0_1], rY a0_0, .box [iV 0, iV 0, iV 0], .box [iV (1 + y), iV t7_1, iV t7_2]]) ?_ ?_
 ·clear h
  intro k h
  try dsimp only at h
  refine awp_rS ftCOk [] [(13, iV (1 + y))] ?_
  refine awp_block ?_
  refine awp_join h (fun t14 => [(0, .pp 0 0), (1, iV a1), (2, iV a2), (6, .pp 2 0), (7, .pp 3 0), (13, iV (1 + y)), (14, bV t14)]) (fun t14 => [.box [.sl 1, iV y_1], rY a0_0, .box [iV 0, iV 0, iV 0], .box [iV (1 + y), iV 0, iV 0]]) ?_ ?_
  ·clear h
   intro k_1 h
   try dsimp only at h
   refine awp_rS ftCOk [] [(14, bV ((1 + y) == 1))] ?_
   refine awp_if h ?_ ?_ <;> clear h <;> intro hc h
   ·refine awp_skip ?_
    refine nm ?_
    refine ⟨_, h, ?_⟩
    exact Red.auto
   ·refine awp_rES ftCOk [14] [(14, bV ((1 + y) == 2))] ?_
    refine nm ?_
    refine ⟨_, h, ?_⟩
    exact Red.auto
  ·clear h
   rintro t14 h
   try dsimp only at h
   try dsimp only
   refine awp_if h ?_ ?_ <;> clear h <;> intro hc h
   ·replace ⟨⟨y_2, y_3⟩, hr0, h⟩ := bind_some h
    try dsimp only at h
    refine awp_cE ftCOk [1, 13, 14] [] [(0, .box [.sl 1, iV y_3]), (2, .box [iV (1 + y), iV y_2, iV 0])] [] [⟨3, [0, 1], k_spec_l20Rd_pick a0_0 y_1 (max 1 a1) (h := hr0)⟩] ?_
    clear hr0
    refine nm ?_
    refine ⟨_, h, ?_⟩
    exact Red.auto
   ·refine awp_join h (fun t22 => [(0, .pp 0 0), (2, iV a2), (6, .pp 2 0), (7, .pp 3 0), (22, bV t22)]) (fun t22 => [.box [.sl 1, iV y_1], rY a0_0, .box [iV 0, iV 0, iV 0], .box [iV (1 + y), iV 0, iV 0]]) ?_ ?_
    ·clear h
     intro k_2 h
     try dsimp only at h
     refine awp_rS ftCOk [1, 14] [(22, bV ((1 + y) == 4))] ?_
     refine awp_if h ?_ ?_ <;> clear h <;> intro hc h
     ·refine awp_skip ?_
      refine nm ?_
      refine ⟨_, h, ?_⟩
      exact Red.auto
     ·refine awp_rES ftCOk [13, 22] [(22, bV ((1 + y) == 6))] ?_
      refine nm ?_
      refine ⟨_, h, ?_⟩
      exact Red.auto
    ·clear h
     rintro t22 h
     try dsimp only at h
     try dsimp only
     refine awp_if h ?_ ?_ <;> clear h <;> intro hc h
     ·replace ⟨⟨y_4, y_5⟩, hr0, h⟩ := bind_some h
      try dsimp only at h
      replace ⟨hp1, h⟩ := chk_some h
      replace ⟨⟨y_6, y_7⟩, hr2, h⟩ := bind_some h
      try dsimp only at h
      replace ⟨hp3, h⟩ := chk_some h
      refine awp_cE ftCOk [22] [] [(0, .box [.sl 1, iV y_7]), (2, .box [iV (1 + y), iV 0, iV (([(1 + y_4), 8, 20] : List Int).getD y_6.toNat 0)])] [oI [(1 + y_4), 8, 20]] [⟨1, [0, 1], k_spec_l20Rd_pick a0_0 y_1 6 (h := hr0)⟩, ⟨3, [0, 1], k_spec_l20Rd_pick a0_0 y_5 3 (h := hr2)⟩] ?_
      clear hr0 hp1 hr2 hp3
      refine nm ?_
      refine ⟨_, h, ?_⟩
      exact Red.selA [0, 1, 2, 3] Red.auto
     ·refine awp_skip ?_
      refine nm ?_
      refine ⟨_, h, ?_⟩
      exact Red.auto
 ·clear h
  rintro ⟨p0_1, t7_1, t7_2⟩ h
  try dsimp only at h
  try dsimp only
  refine awp_join h (fun (p0_1_1, t7_0, t7_1_1, t7_2_1) => [(6, .pp 2 0), (7, .pp 3 0)]) (fun (p0_1_1, t7_0, t7_1_1, t7_2_1) => [.box [.sl 1, iV p0_1_1], rY a0_0, .box [iV 0, iV 0, iV 0], .box [iV t7_0, iV t7_1_1, iV t7_2_1]]) ?_ ?_
  ·clear h
   intro k_3 h
   try dsimp only at h
   replace ⟨⟨y_8, y_9⟩, hr0, h⟩ := bind_some h
   try dsimp only at h
   refine awp_c ftCOk [2] [(36, bV y_8)] [(0, .box [.sl 1, iV y_9])] [] [⟨2, [0, 1], k_spec_l20Rd_odd a0_0 p0_1 a2 (h := hr0)⟩] ?_
   clear hr0
   refine awp_if h ?_ ?_ <;> clear h <;> intro hc h
   ·replace ⟨⟨y_10, y_11⟩, hr0, h⟩ := bind_some h
    try dsimp only at h
    refine awp_c ftCOk [36] [(38, iV y_10)] [(0, .box [.sl 1, iV y_11])] [] [⟨1, [0, 1], k_spec_l20Rd_pick a0_0 y_9 3 (h := hr0)⟩] ?_
    clear hr0
    refine awp_block ?_
    refine awp_rS ftCOk [] [(45, bV (y_10 == 0))] ?_
    refine awp_if h ?_ ?_ <;> clear h <;> intro hc h
    ·replace ⟨⟨y_12, y_13⟩, hr0, h⟩ := bind_some h
     try dsimp only at h
     replace ⟨hp1, h⟩ := chk_some h
     refine awp_cE ftCOk [0, 38, 45] [] [(0, .box [.sl 1, iV y_13]), (2, .box [iV (([0, 7] : List Int).getD y_12.toNat 0), iV t7_1, iV t7_2])] [oI [0, 7]] [⟨2, [0, 1], k_spec_l20Rd_pick a0_0 y_11 2 (h := hr0)⟩] ?_
     clear hr0 hp1
     refine nm ?_
     refine ⟨_, h, ?_⟩
     exact Red.selA [0, 1, 2, 3] Red.auto
    ·refine awp_rS ftCOk [38, 45] [(53, bV (y_10 == 1))] ?_
     refine awp_if h ?_ ?_ <;> clear h <;> intro hc h
     ·replace ⟨⟨y_14, y_15⟩, hr0, h⟩ := bind_some h
      try dsimp only at h
      replace ⟨hp1, h⟩ := chk_some h
      refine awp_cE ftCOk [0, 53] [] [(0, .box [.sl 1, iV y_15]), (2, .box [iV (1 + y), iV (([(-1), 16] : List Int).getD y_14.toNat 0), iV t7_2])] [oI [(-1), 16]] [⟨2, [0, 1], k_spec_l20Rd_pick a0_0 y_11 2 (h := hr0)⟩] ?_
      clear hr0 hp1
      refine nm ?_
      refine ⟨_, h, ?_⟩
      exact Red.selA [0, 1, 2, 3] Red.auto
     ·replace ⟨⟨y_16, y_17⟩, hr0, h⟩ := bind_some h
      try dsimp only at h
      replace ⟨hp1, h⟩ := chk_some h
      refine awp_cE ftCOk [0, 53] [] [(0, .box [.sl 1, iV y_17]), (2, .box [iV (1 + y), iV t7_1, iV (([(-1), 21] : List Int).getD y_16.toNat 0)])] [oI [(-1), 21]] [⟨2, [0, 1], k_spec_l20Rd_pick a0_0 y_11 2 (h := hr0)⟩] ?_
      clear hr0 hp1
      refine nm ?_
      refine ⟨_, h, ?_⟩
      exact Red.selA [0, 1, 2, 3] Red.auto
   ·refine awp_skip ?_
    refine nm ?_
    refine ⟨_, h, ?_⟩
    exact Red.auto
  ·clear h
   rintro ⟨p0_1_1, t7_0, t7_1_1, t7_2_1⟩ h
   try dsimp only at h
   try dsimp only
   refine awp_rM ftCOk [7] [] [(2, .box [iV t7_0, iV t7_1_1, iV t7_2_1])] [] ?_
   refine awp_ret ?_
   obtain rfl := Option.some.inj h
   exact finQ [0, 1]
theorem k_spec_l20Task (a0_0 : List Int) (a0_1 : Int) (a1 : Int) {r : Int × (List (Int × Int × Int)) × Int × Int × Int × Int} (h : spec_l20Task a0_0 a0_1 a1 = some r) :
 FnA Tryz.prog 22 [.pp 0 0, iV a1] [.box [.sl 1, iV a0_1], rY a0_0] [] (fun x H => x = .tup [.agg [iV r.1, .sl 2], .agg [iV r.2.2.1, iV r.2.2.2.1, iV r.2.2.2.2.1]] ∧ H = [.box [.sl 1, iV r.2.2.2.2.2], rY a0_0, oT r.2.1]) := by
 unfold spec_l20Task at h
 refine FnA.ofA 21 [0, 1] [.cell 4 54, .cell 5 56] Tryz.func22 en22 ?_
 refine awp_rM ftCOk [] [(4, .pp 2 0), (5, .pp 3 0)] [] [.box [iV 0, nV], .box [iV 0, iV 0, iV 0]] ?_
 replace ⟨⟨y, y_1, y_2⟩, hr0, h⟩ := bind_some h
 try dsimp only at h
 refine awp_c ftCOk [] [(6, .pp 5 0)] [(0, .box [.sl 1, iV y_2])] [oT y_1, .box [iV y, .sl 4]] [⟨2, [0, 1], k_spec_l20Graph a0_0 a0_1 a1 (h := hr0)⟩] ?_
 clear hr0
 refine awp_join h (fun (p0_1, t6_0, t6_1s) => [(0, .pp 0 0), (1, iV a1), (4, .pp 2 0), (5, .pp 3 0), (6, .pp 4 0)]) (fun (p0_1, t6_0, t6_1s) => [.box [.sl 1, iV p0_1], rY a0_0, .box [iV 0, nV], .box [iV 0, iV 0, iV 0], .box [iV t6_0, .sl 5], oT t6_1s]) ?_ ?_
 ·clear h
  intro k h
  try dsimp only at h
  replace ⟨⟨y_3, y_4⟩, hr0, h⟩ := bind_some h
  try dsimp only at h
  refine awp_c ftCOk [] [(12, bV (y_3 == 0))] [(0, .box [.sl 1, iV y_4])] [] [⟨1, [0, 1], k_spec_l20Rd_pick a0_0 y_2 3 (h := hr0)⟩] ?_
  clear hr0
  refine awp_if h ?_ ?_ <;> clear h <;> intro hc h
  ·replace ⟨⟨y_5, y_6, y_7⟩, hr0, h⟩ := bind_some h
   try dsimp only at h
   refine awp_cE ftCOk [12] [] [(0, .box [.sl 1, iV y_7]), (4, .box [iV y_5, .sl 6])] [oT y_6] [⟨1, [0, 1], k_spec_l20Dense a0_0 y_4 (h := hr0)⟩] ?_
   clear hr0
   refine nm ?_
   refine ⟨_, h, ?_⟩
   exact Red.selA [0, 1, 2, 3, 5, 6] Red.auto
  ·refine awp_skip ?_
   refine nm ?_
   refine ⟨_, h, ?_⟩
   exact Red.selA [0, 1, 2, 3, 5, 4] Red.auto
 ·clear h
  rintro ⟨p0_1, t6_0, t6_1s⟩ h
  try dsimp only at h
  try dsimp only
  replace ⟨⟨y_8, y_9, y_10, y_11⟩, hr0, h⟩ := bind_some h
  try dsimp only at h
  refine awp_t [0, 1, 6] [] [(0, .box [.sl 1, iV y_11]), (1, .box [iV t6_0, .sl 5]), (0, .box [iV y_8, iV y_9, iV y_10])] [] ?_ ?_
  ·clear h
   intro K hK
   refine awp_drawT mixed ftCOk (.free 1 (.free 2 (.free 4 (.two 0 3 (.one 3 (.one 5 (.one 6 (.one 7 .fin)))) (.two 0 5 (.one 5 (.one 6 (.one 7 .fin))) (.one 0 (.one 6 (.one 7 .fin)))))))) (by kernel_rfl) (by simp) ?_
   simp (maxSteps := 4000000) only [go_sem]
   repeat' (first | refine And.intro ?_ ?_ | intro hg)
   all_goals (try simp (disch := omega) only [wrap_fits])
   all_goals first
    | exact al0
    | (refine OpK_callA (k_spec_l20Program a0_0 p0_1 t6_0 a1 (h := hr0)) [0, 1] [] ?_
       rintro x Hc' ⟨rfl, rfl⟩ hlen
       exact auV)
    | exact al1
  ·clear hr0
   refine awp_ret ?_
   obtain rfl := Option.some.inj h
   exact finQ [0, 1, 5]
theorem k_spec_StartState (a0 : Int) {r : Int × List Int × List Bool × (List (Int × Int × Int))} (h : spec_StartState a0 = some r) :
 FnA Tryz.prog 49 [iV a0] [] [] (fun x H => x = .agg [iV r.1, .sl 0, .sl 1, .sl 2] ∧ H = [oI r.2.1, oB r.2.2.1, oT r.2.2.2]) := by
 unfold spec_StartState at h
 refine FnA.ofA 23 [] [.cell 2 27] Tryz.func49 en49 ?_
 refine awp_rM ftCOk [] [(2, .pp 0 0)] [] [.box [iV 0, nV, nV, nV]] ?_
 refine awp_seq fun K2 hK2 => ?_
 refine awp_rS ftCOk [] [(7, bV (!(decide (0 ≤ a0) && decide (a0 ≤ 16))))] ?_
 refine awp_if h ?_ ?_ <;> clear h <;> intro hc h
 ·refine awp_rS ftCOk [0, 7] [] ?_
  refine awp_red (Red.nilCell (o := 0) (i := 1) (.ints .i64 []) rfl rfl rfl) ?_
  refine awp_red (Red.nilCell (o := 0) (i := 2) (.bools []) rfl rfl rfl) ?_
  refine awp_red (Red.nilCell (o := 0) (i := 3) (.trips []) rfl rfl rfl) ?_
  refine awp_ret ?_
  obtain rfl := Option.some.inj h
  exact finQ [1, 2, 3]
 ·refine awp_skip ?_
  refine hK2 _ _ ?_
  clear hK2
  replace ⟨hp0, h⟩ := chk_some h
  refine awp_rM ftCOk [7] [(3, .pp 2 0)] [] [oI (List.replicate a0.toNat 0), .box [iV 0, .sl 1, nV, nV]] ?_
  clear hp0
  refine awp_seq fun K21 hK21 => ?_
  refine awp_rS ftCOk [] [(4, iV 0)] ?_
  refine awp_block ?_
  replace h := bind_some h
  obtain ⟨t3_2s_1, hx, h⟩ := h
  refine awp_loopL hx (fun (t4, t3_2s) => [(0, iV a0), (2, .pp 0 0), (3, .pp 1 0), (4, iV t4)]) (fun (t4, t3_2s) => [.box [iV 0, nV, nV, nV], .box [iV 0, .sl 2, .sl 3, nV], oI (List.replicate a0.toNat 0), oB t3_2s]) (fun _ => Exit.exit 0) (fun t3_2s_1 => [(2, .pp 0 0), (3, .pp 1 0)]) (fun t3_2s_1 => [.box [iV 0, nV, nV, nV], .box [iV 0, .sl 2, .sl 3, nV], oI (List.replicate a0.toNat 0), oB t3_2s_1]) ?_ ?_ ?_ ?_
  ·rintro t3_2s_1 hy <;> cases hy
  ·clear h hx
   refine Red.trans (Red.nilCell (o := 2) (i := 2) (.bools []) rfl rfl rfl) ?_
   exact Red.selA [0, 2, 1, 3] Red.auto
  ·clear h hx
   rintro ⟨t4, t3_2s⟩ r h
   unfold spec_StartState_b0 at h
   try dsimp only at h
   try dsimp only
   refine awp_seq fun K35 hK35 => ?_
   refine awp_rS ftCOk [] [(14, bV (decide (t4 < a0)))] ?_
   refine awp_if h ?_ ?_ <;> clear h <;> intro hc h
   ·refine awp_skip ?_
    refine hK35 _ _ ?_
    clear hK35
    refine awp_seq fun K37 hK37 => ?_
    refine awp_block ?_
    replace ⟨hp0, h⟩ := chk_some h
    refine awp_rEM ftCOk [14] [] [(3, oB (t3_2s ++ [true]))] [oB [true]] ?_
    clear hp0
    refine hK37 _ _ ?_
    clear hK37
    replace ⟨hp0, h⟩ := chk_some h
    refine awp_rES ftCOk [4] [(4, iV (t4 + 1))] ?_
    clear hp0
    obtain rfl := Option.some.inj h
    refine LoopQ.next ?_
    exact Red.selA [0, 1, 2, 3] Red.auto
   ·refine awp_exit ?_
    refine nm ?_
    obtain rfl := Option.some.inj h
    refine LoopQ.out rfl ?_
    exact Red.auto
  ·clear hx
   skip
   ·try dsimp only [Sum.elim_inl, Sum.elim_inr] at h
    try dsimp only [Sum.elim_inl, Sum.elim_inr]
    refine hK21 _ _ ?_
    clear hK21
    refine awp_rM ftCOk [3] [] [(0, .box [iV 0, .sl 2, .sl 3, nV])] [] ?_
    refine awp_red (Red.nilCell (o := 0) (i := 3) (.trips []) rfl rfl rfl) ?_
    refine awp_ret ?_
    obtain rfl := Option.some.inj h
    exact finQ [2, 3, 4]
theorem k_spec_l1OwnState (a0_0 : Int) (a0_1 : List Int) (a0_2 : List Bool) (a0_3 : List (Int × Int × Int)) {r : Int × List Int × List Bool × (List (Int × Int × Int))} (h : spec_l1OwnState a0_0 a0_1 a0_2 a0_3 = some r) :
 FnA Tryz.prog 24 [.agg [iV a0_0, .sl 0, .sl 1, .sl 2]] [rI a0_1, rB a0_2, rT a0_3] [] (fun x H => x = .agg [iV r.1, .sl 3, .sl 4, .sl 5] ∧ H = [rI a0_1, rB a0_2, rT a0_3, oI r.2.1, oB r.2.2.1, oT r.2.2.2]) := by
 unfold spec_l1OwnState at h
 refine FnA.ofA 21 [0, 1, 2] [.cell 2 27] Tryz.func24 en24 ?_
 refine awp_rM ftCOk [0] [(1, .pp 3 0), (2, .pp 4 0)] [] [.box [iV a0_0, .sl 0, .sl 1, .sl 2], .box [iV 0, nV, nV, nV]] ?_
 refine awp_freeze 1 (by rfl) (by rfl) (by exact rfl) ?_
 refine awp_rM ftCOk [] [(3, .pp 5 0)] [] [.box [iV a0_0, .sl 0, .sl 1, .sl 2]] ?_
 replace ⟨hp0, h⟩ := chk_some h
 refine awp_rM ftCOk [] [] [(5, .box [iV a0_0, .sl 6, .sl 1, .sl 2])] [oI ([] ++ a0_1)] ?_
 clear hp0
 replace ⟨hp0, h⟩ := chk_some h
 refine awp_rM ftCOk [] [] [(5, .box [iV a0_0, .sl 6, .sl 7, .sl 2])] [oB ([] ++ a0_2)] ?_
 clear hp0
 replace ⟨hp0, h⟩ := chk_some h
 refine awp_rM ftCOk [1] [] [(5, .box [iV a0_0, .sl 6, .sl 7, .sl 8])] [oT ([] ++ a0_3)] ?_
 clear hp0
 refine awp_rM ftCOk [3] [] [(4, .box [iV a0_0, .sl 6, .sl 7, .sl 8])] [] ?_
 refine awp_ret ?_
 obtain rfl := Option.some.inj h
 exact finQ [0, 1, 2, 6, 7, 8]
theorem k_spec_ProgramValid (a0_0 : Int) (a0_1 : Int) (a0_2 : Int) {r : Bool} (h : spec_ProgramValid a0_0 a0_1 a0_2 = some r) :
 FnA Tryz.prog 74 [.agg [iV a0_0, iV a0_1, iV a0_2]] [] [] (fun x H => x = bV r ∧ H = []) := by
 unfold spec_ProgramValid at h
 refine FnA.ofA 45 [] [.tmp 2] Tryz.func74 en74 ?_
 refine awp_rM ftCOk [0] [(1, .pp 0 0)] [] [.box [iV a0_0, iV a0_1, iV a0_2]] ?_
 refine awp_freeze 1 (by rfl) (by rfl) (by exact rfl) ?_
 refine awp_seq fun K7 hK7 => ?_
 refine awp_rS ftCOk [] [(4, iV a0_0)] ?_
 refine awp_block ?_
 refine awp_join h (fun t5 => [(1, .pp 0 0), (4, iV a0_0), (5, bV t5)]) (fun t5 => [.rbox [iV a0_0, iV a0_1, iV a0_2]]) ?_ ?_
 ·clear h
  intro k h
  try dsimp only at h
  refine awp_rS ftCOk [] [(5, bV (a0_0 == 1))] ?_
  refine awp_if h ?_ ?_ <;> clear h <;> intro hc h
  ·refine awp_skip ?_
   refine nm ?_
   refine ⟨_, h, ?_⟩
   exact Red.auto
  ·refine awp_rES ftCOk [5] [(5, bV (a0_0 == 2))] ?_
   refine nm ?_
   refine ⟨_, h, ?_⟩
   exact Red.auto
 ·clear h
  rintro t5 h
  try dsimp only at h
  try dsimp only
  refine awp_if h ?_ ?_ <;> clear h <;> intro hc h
  ·refine awp_rS ftCOk [1, 4, 5] [(2, bV ((decide (0 ≤ a0_1) && decide (a0_1 ≤ 15)) && (a0_2 == 0)))] ?_
   refine awp_ret ?_
   obtain rfl := Option.some.inj h
   exact finQ []
  ·refine awp_join h (fun t16 => [(1, .pp 0 0), (16, bV t16)]) (fun t16 => [.rbox [iV a0_0, iV a0_1, iV a0_2]]) ?_ ?_
   ·clear h
    intro k_1 h
    try dsimp only at h
    refine awp_rS ftCOk [5] [(16, bV (a0_0 == 4))] ?_
    refine awp_if h ?_ ?_ <;> clear h <;> intro hc h
    ·refine awp_skip ?_
     refine nm ?_
     refine ⟨_, h, ?_⟩
     exact Red.auto
    ·refine awp_rES ftCOk [4, 16] [(16, bV (a0_0 == 6))] ?_
     refine nm ?_
     refine ⟨_, h, ?_⟩
     exact Red.auto
   ·clear h
    rintro t16 h
    try dsimp only at h
    try dsimp only
    refine awp_if h ?_ ?_ <;> clear h <;> intro hc h
    ·refine awp_rS ftCOk [1, 16] [(2, bV ((a0_1 == 0) && (decide (1 ≤ a0_2) && decide (a0_2 ≤ 20))))] ?_
     refine awp_ret ?_
     obtain rfl := Option.some.inj h
     exact finQ []
    ·refine awp_skip ?_
     refine hK7 _ _ ?_
     clear hK7
     refine awp_t [1, 16] [(2, bV ((((a0_0 == 3) || (a0_0 == 5)) && (a0_1 == 0)) && (a0_2 == 0)))] [] [] ?_ ?_
     ·clear h
      intro K hK
      refine awp_regionA ?_
      refine wpA_cutAt 8 [(1, .pp 0 0), (34, bV ((a0_0 == 3) || (a0_0 == 5)))] [.rbox [iV a0_0, iV a0_1, iV a0_2]] ?_ ?_
      ·clear hK K
       intro K hK
       refine vcOps_sound ftCOk ?_
       exact auV
      refine wpA_cutAt 5 [(1, .pp 0 0), (39, bV (((a0_0 == 3) || (a0_0 == 5)) && (a0_1 == 0)))] [.rbox [iV a0_0, iV a0_1, iV a0_2]] ?_ ?_
      ·clear hK K
       intro K hK
       refine vcOps_sound ftCOk ?_
       exact auV
      refine vcOps_sound ftCOk ?_
      exact auV
     ·refine awp_ret ?_
      obtain rfl := Option.some.inj h
      exact finQ []
theorem k_spec_l11Message (a0_0 : Int) (a0_1 : Int) (a0_2 : Int) (a1 : Int) {r : Bool} (h : spec_l11Message a0_0 a0_1 a0_2 a1 = some r) :
 FnA Tryz.prog 94 [.agg [iV a0_0, iV a0_1, iV a0_2], iV a1] [] [] (fun x H => x = bV r ∧ H = []) := by
 unfold spec_l11Message at h
 refine FnA.ofA 22 [] [.tmp 4] Tryz.func94 en94 ?_
 refine awp_rM ftCOk [0] [(2, .pp 0 0)] [] [.box [iV a0_0, iV a0_1, iV a0_2]] ?_
 refine awp_freeze 2 (by rfl) (by rfl) (by exact rfl) ?_
 refine awp_rS ftCOk [1, 2] [(4, bV (((decide (0 ≤ a0_0) && decide (a0_0 ≤ (IntKind.i64.wrap (a1 - 1)))) && (decide (0 ≤ a0_2) && decide (a0_2 ≤ (IntKind.i64.wrap (a1 - 1))))) && (decide (0 ≤ a0_1) && decide (a0_1 ≤ 999999))))] ?_
 refine awp_ret ?_
 obtain rfl := Option.some.inj h
 exact finQ []
theorem k_spec_l9Before (a0_0 : Int) (a0_1 : Int) (a0_2 : Int) (a1_0 : Int) (a1_1 : Int) (a1_2 : Int) {r : Bool} (h : spec_l9Before a0_0 a0_1 a0_2 a1_0 a1_1 a1_2 = some r) :
 FnA Tryz.prog 78 [.agg [iV a0_0, iV a0_1, iV a0_2], .agg [iV a1_0, iV a1_1, iV a1_2]] [] [] (fun x H => x = bV r ∧ H = []) := by
 unfold spec_l9Before at h
 refine FnA.ofA 30 [] [.tmp 4] Tryz.func78 en78 ?_
 refine awp_rM ftCOk [0, 1] [(2, .pp 0 0), (3, .pp 1 0)] [] [.box [iV a0_0, iV a0_1, iV a0_2], .box [iV a1_0, iV a1_1, iV a1_2]] ?_
 refine awp_freeze 2 (by rfl) (by rfl) (by exact rfl) ?_
 refine awp_freeze 3 (by rfl) (by rfl) (by exact rfl) ?_
 refine awp_seq fun K2 hK2 => ?_
 refine awp_rS ftCOk [] [(9, bV (a0_0 != a1_0))] ?_
 refine awp_if h ?_ ?_ <;> clear h <;> intro hc h
 ·refine awp_rS ftCOk [2, 3, 9] [(4, bV (decide (a0_0 < a1_0)))] ?_
  refine awp_ret ?_
  obtain rfl := Option.some.inj h
  exact finQ []
 ·refine awp_skip ?_
  refine hK2 _ _ ?_
  clear hK2
  refine awp_seq fun K5 hK5 => ?_
  refine awp_rS ftCOk [9] [(19, bV (a0_1 != a1_1))] ?_
  refine awp_if h ?_ ?_ <;> clear h <;> intro hc h
  ·refine awp_rS ftCOk [2, 3, 19] [(4, bV (decide (a0_1 < a1_1)))] ?_
   refine awp_ret ?_
   obtain rfl := Option.some.inj h
   exact finQ []
  ·refine awp_skip ?_
   refine hK5 _ _ ?_
   clear hK5
   refine awp_rS ftCOk [2, 3, 19] [(4, bV (decide (a0_2 < a1_2)))] ?_
   refine awp_ret ?_
   obtain rfl := Option.some.inj h
   exact finQ []
theorem k_spec_StateValid (a0_0 : Int) (a0_1 : List Int) (a0_2 : List Bool) (a0_3 : List (Int × Int × Int)) (a1 : Int) {r : Bool} (h : spec_StateValid a0_0 a0_1 a0_2 a0_3 a1 = some r) :
 FnA Tryz.prog 75 [.agg [iV a0_0, .sl 0, .sl 1, .sl 2], iV a1] [rI a0_1, rB a0_2, rT a0_3] [] (fun x H => x = bV r ∧ H = [rI a0_1, rB a0_2, rT a0_3]) := by
 unfold spec_StateValid at h
 refine FnA.ofA 81 [0, 1, 2] [.tmp 4] Tryz.func75 en75 ?_
 refine awp_rM ftCOk [0] [(2, .pp 3 0)] [] [.box [iV a0_0, .sl 0, .sl 1, .sl 2]] ?_
 refine awp_freeze 2 (by rfl) (by rfl) (by exact rfl) ?_
 refine awp_seq fun K20 hK20 => ?_
 refine awp_rS ftCOk [] [(5, iV 0)] ?_
 refine awp_block ?_
 replace h := bind_some h
 obtain ⟨x39, hx, h⟩ := h
 refine awp_loopL hx (fun t5 => [(1, iV a1), (2, .pp 3 0), (5, iV t5)]) (fun t5 => [rI a0_1, rB a0_2, rT a0_3, .rbox [iV a0_0, .sl 0, .sl 1, .sl 2]]) (Sum.elim (fun _ => Exit.exit 0) (fun _ => Exit.ret)) (Sum.elim (fun _ => [(1, iV a1), (2, .pp 3 0)]) (fun _ => [(4, bV false)])) (Sum.elim (fun _ => [rI a0_1, rB a0_2, rT a0_3, .rbox [iV a0_0, .sl 0, .sl 1, .sl 2]]) (fun _ => [rI a0_1, rB a0_2, rT a0_3])) ?_ ?_ ?_ ?_
 ·rintro (⟨⟩ | ⟨⟩) hy <;> cases hy
 ·clear h hx
  exact Red.auto
 ·clear h hx
  rintro t5 r h
  unfold spec_StateValid_b0 at h
  try dsimp only at h
  try dsimp only
  refine awp_seq fun K34 hK34 => ?_
  refine awp_rS ftCOk [] [(11, bV (decide (t5 < (a0_1.length : Int))))] ?_
  refine awp_if h ?_ ?_ <;> clear h <;> intro hc h
  ·refine awp_skip ?_
   refine hK34 _ _ ?_
   clear hK34
   refine awp_seq fun K37 hK37 => ?_
   refine awp_block ?_
   replace ⟨hp0, h⟩ := chk_some h
   refine awp_rS ftCOk [11] [(20, bV (!(decide ((-1) ≤ (a0_1.getD t5.toNat 0)) && decide ((a0_1.getD t5.toNat 0) ≤ 999999))))] ?_
   clear hp0
   refine awp_if h ?_ ?_ <;> clear h <;> intro hc h
   ·refine awp_rS ftCOk [1, 2, 5, 20] [(4, bV false)] ?_
    refine awp_ret ?_
    refine nm ?_
    obtain rfl := Option.some.inj h
    refine LoopQ.out rfl ?_
    exact Red.selA [0, 1, 2] Red.auto
   ·refine awp_skip ?_
    refine hK37 _ _ ?_
    clear hK37
    replace ⟨hp0, h⟩ := chk_some h
    refine awp_rES ftCOk [5, 20] [(5, iV (t5 + 1))] ?_
    clear hp0
    obtain rfl := Option.some.inj h
    refine LoopQ.next ?_
    exact Red.auto
  ·refine awp_exit ?_
   refine nm ?_
   obtain rfl := Option.some.inj h
   refine LoopQ.out rfl ?_
   exact Red.auto
 ·clear hx
  rcases x39 with (⟨⟩ | ⟨⟩)
  ·try dsimp only [Sum.elim_inl, Sum.elim_inr] at h
   try dsimp only [Sum.elim_inl, Sum.elim_inr]
   refine hK20 _ _ ?_
   clear hK20
   refine awp_seq fun K59 hK59 => ?_
   refine awp_rS ftCOk [] [(6, iV 0)] ?_
   refine awp_block ?_
   replace h := bind_some h
   obtain ⟨x78, hx, h⟩ := h
   refine awp_loopL hx (fun t6 => [(1, iV a1), (2, .pp 3 0), (6, iV t6)]) (fun t6 => [rI a0_1, rB a0_2, rT a0_3, .rbox [iV a0_0, .sl 0, .sl 1, .sl 2]]) (Sum.elim (fun _ => Exit.exit 2) (fun _ => Exit.ret)) (Sum.elim (fun _ => [(1, iV a1), (2, .pp 3 0)]) (fun _ => [(4, bV false)])) (Sum.elim (fun _ => [rI a0_1, rB a0_2, rT a0_3, .rbox [iV a0_0, .sl 0, .sl 1, .sl 2]]) (fun _ => [rI a0_1, rB a0_2, rT a0_3])) ?_ ?_ ?_ ?_
   ·rintro (⟨⟩ | ⟨⟩) hy <;> cases hy
   ·clear h hx
    exact Red.auto
   ·clear h hx
    rintro t6 r h
    unfold spec_StateValid_b1 at h
    try dsimp only at h
    try dsimp only
    refine awp_seq fun K73 hK73 => ?_
    refine awp_rS ftCOk [] [(25, bV (decide (t6 < (a0_3.length : Int))))] ?_
    refine awp_if h ?_ ?_ <;> clear h <;> intro hc h
    ·refine awp_skip ?_
     refine hK73 _ _ ?_
     clear hK73
     refine awp_seq fun K76 hK76 => ?_
     refine awp_block ?_
     replace ⟨hp0, h⟩ := chk_some h
     replace ⟨y, hr1, h⟩ := bind_some h
     replace ⟨hp2, h⟩ := chk_some h
     have hwhp2 := wrap_fits hp2.1 hp2.2
     replace ⟨hp3, h⟩ := chk_some h
     replace ⟨hp4, h⟩ := chk_some h
     replace ⟨y_1, hr5, h⟩ := bind_some h
     refine awp_t [25] [(53, bV ((!y) || ((decide (0 < t6)) && y_1)))] [] [] ?_ ?_
     ·clear h
      intro K hK
      refine awp_drawT mixed ftCOk (.free 0 (.free 2 (.free 5 (.one 1 (.one 3 (.one 4 (.one 6 (.one 7 (.one 8 (.one 9 (.one 10 (.one 11 (.free 12 (.free 14 (.free 17 (.free 19 (.free 20 (.free 13 (.free 15 (.free 16 (.one 18 (.one 21 (.one 22 (.one 23 (.one 24 (.one 25 .fin)))))))))))))))))))))))))) (by kernel_rfl) (by simp) ?_
      simp (maxSteps := 4000000) only [go_sem]
      repeat' (first | refine And.intro ?_ ?_ | intro hg)
      all_goals (try simp (disch := omega) only [wrap_fits])
      all_goals first
       | exact al0
       | (have hq := hp3 byg byg; omega)
       | (have hq := hp4 byg byg; omega)
       | (refine OpK_callA (k_spec_l11Message ((a0_3.getD t6.toNat (0, 0, 0)).1) ((a0_3.getD t6.toNat (0, 0, 0)).2.1) ((a0_3.getD t6.toNat (0, 0, 0)).2.2) a1 (h := hr1)) [] [] ?_
          rintro x Hc' ⟨rfl, rfl⟩ hlen
          simp (maxSteps := 4000000) only [go_sem]
          repeat' (first | refine And.intro ?_ ?_ | intro hg)
          all_goals (try simp (disch := omega) only [wrap_fits])
          all_goals first
           | exact al0
           | (have hq := hp3 byg byg; omega)
           | (have hq := hp4 byg byg; omega)
           | (refine OpK_callA (k_spec_l9Before ((a0_3.getD t6.toNat (0, 0, 0)).1) ((a0_3.getD t6.toNat (0, 0, 0)).2.1) ((a0_3.getD t6.toNat (0, 0, 0)).2.2) ((a0_3.getD ((t6 - 1).toNat) (0, 0, 0)).1) ((a0_3.getD ((t6 - 1).toNat) (0, 0, 0)).2.1) ((a0_3.getD ((t6 - 1).toNat) (0, 0, 0)).2.2) (h := (bite_t (bite_t hr5 byg) bygn))) [] [] ?_
              rintro x Hc' ⟨rfl, rfl⟩ hlen
              simp (maxSteps := 4000000) only [go_sem]
              repeat' (first | refine And.intro ?_ ?_ | intro hg)
              all_goals (try simp (disch := omega) only [wrap_fits])
              all_goals first
               | exact al0
               | (have hq := hp3 byg byg; omega)
               | (have hq := hp4 byg byg; omega)
               | (simp (maxSteps := 4000000) only [go_sem]
                  repeat' (first | refine And.intro ?_ ?_ | intro hg)
                  all_goals (try simp (disch := omega) only [wrap_fits])
                  all_goals first | exact al0 | (have hq := hp3 byg byg; omega) | (have hq := hp4 byg byg; omega))
               | exact al1)
           | exact al1)
       | exact al1
     ·clear hp0 hr1 hp2 hp3 hp4 hr5
      refine awp_if h ?_ ?_ <;> clear h <;> intro hc h
      ·refine awp_rS ftCOk [1, 2, 6, 53] [(4, bV false)] ?_
       refine awp_ret ?_
       refine nm ?_
       obtain rfl := Option.some.inj h
       refine LoopQ.out rfl ?_
       exact Red.selA [0, 1, 2] Red.auto
      ·refine awp_skip ?_
       refine hK76 _ _ ?_
       clear hK76
       replace ⟨hp0, h⟩ := chk_some h
       refine awp_rES ftCOk [6, 53] [(6, iV (t6 + 1))] ?_
       clear hp0
       obtain rfl := Option.some.inj h
       refine LoopQ.next ?_
       exact Red.auto
    ·refine awp_exit ?_
     refine nm ?_
     obtain rfl := Option.some.inj h
     refine LoopQ.out rfl ?_
     exact Red.auto
   ·clear hx
    rcases x78 with (⟨⟩ | ⟨⟩)
    ·try dsimp only [Sum.elim_inl, Sum.elim_inr] at h
     try dsimp only [Sum.elim_inl, Sum.elim_inr]
     refine hK59 _ _ ?_
     clear hK59
     refine awp_t [1, 2] [(4, bV (((((decide (0 ≤ a1) && decide (a1 ≤ 16)) && (decide (0 ≤ a0_0) && decide (a0_0 ≤ 100))) && ((a0_1.length : Int) == a1)) && ((a0_2.length : Int) == a1)) && (decide ((a0_3.length : Int) ≤ 2000))))] [] [] ?_ ?_
     ·clear h
      intro K hK
      refine awp_regionA ?_
      refine wpA_cutAt 7 [(1, iV a1), (2, .pp 3 0), (60, bV ((decide (0 ≤ a1) && decide (a1 ≤ 16)) && (decide (0 ≤ a0_0) && decide (a0_0 ≤ 100))))] [rI a0_1, rB a0_2, rT a0_3, .rbox [iV a0_0, .sl 0, .sl 1, .sl 2]] ?_ ?_
      ·clear hK K
       intro K hK
       refine vcOps_sound ftCOk ?_
       exact auV
      refine wpA_cutAt 7 [(1, iV a1), (2, .pp 3 0), (67, bV (((decide (0 ≤ a1) && decide (a1 ≤ 16)) && (decide (0 ≤ a0_0) && decide (a0_0 ≤ 100))) && ((a0_1.length : Int) == a1)))] [rI a0_1, rB a0_2, rT a0_3, .rbox [iV a0_0, .sl 0, .sl 1, .sl 2]] ?_ ?_
      ·clear hK K
       intro K hK
       refine vcOps_sound ftCOk ?_
       exact auV
      refine wpA_cutAt 7 [(2, .pp 3 0), (74, bV ((((decide (0 ≤ a1) && decide (a1 ≤ 16)) && (decide (0 ≤ a0_0) && decide (a0_0 ≤ 100))) && ((a0_1.length : Int) == a1)) && ((a0_2.length : Int) == a1)))] [rI a0_1, rB a0_2, rT a0_3, .rbox [iV a0_0, .sl 0, .sl 1, .sl 2]] ?_ ?_
      ·clear hK K
       intro K hK
       refine vcOps_sound ftCOk ?_
       exact auV
      refine vcOps_sound ftCOk ?_
      exact auV
     ·refine awp_ret ?_
      obtain rfl := Option.some.inj h
      exact finQ [0, 1, 2]
    ·try dsimp only [Sum.elim_inl, Sum.elim_inr] at h
     try dsimp only [Sum.elim_inl, Sum.elim_inr]
     obtain rfl := Option.some.inj h
     exact finQ [0, 1, 2]
  ·try dsimp only [Sum.elim_inl, Sum.elim_inr] at h
   try dsimp only [Sum.elim_inl, Sum.elim_inr]
   obtain rfl := Option.some.inj h
   exact finQ [0, 1, 2]
theorem k_spec_l11All (a0 : Int) {r : List Int} (h : spec_l11All a0 = some r) :
 FnA Tryz.prog 77 [iV a0] [] [] (fun x H => x = .sl 0 ∧ H = [oI r]) := by
 unfold spec_l11All at h
 refine FnA.ofA 16 [] [.tmp 2] Tryz.func77 en77 ?_
 refine awp_rS ftCOk [] [] ?_
 refine awp_rM ftCOk [] [(3, .sl 0)] [] [oI []] ?_
 refine awp_seq fun K14 hK14 => ?_
 refine awp_rS ftCOk [] [(4, iV 0)] ?_
 refine awp_block ?_
 replace h := bind_some h
 obtain ⟨t3s_1, hx, h⟩ := h
 refine awp_loopL hx (fun (t4, t3s) => [(0, iV a0), (3, .sl 0), (4, iV t4)]) (fun (t4, t3s) => [oI t3s]) (fun _ => Exit.exit 0) (fun t3s_1 => [(3, .sl 0)]) (fun t3s_1 => [oI t3s_1]) ?_ ?_ ?_ ?_
 ·rintro t3s_1 hy <;> cases hy
 ·clear h hx
  exact Red.auto
 ·clear h hx
  rintro ⟨t4, t3s⟩ r h
  unfold spec_l11All_b0 at h
  try dsimp only at h
  try dsimp only
  refine awp_seq fun K24 hK24 => ?_
  refine awp_rS ftCOk [] [(8, bV (decide (t4 < a0)))] ?_
  refine awp_if h ?_ ?_ <;> clear h <;> intro hc h
  ·refine awp_skip ?_
   refine hK24 _ _ ?_
   clear hK24
   refine awp_seq fun K26 hK26 => ?_
   refine awp_block ?_
   replace ⟨hp0, h⟩ := chk_some h
   refine awp_rEM ftCOk [8] [] [(0, oI (t3s ++ [t4]))] [oI [t4]] ?_
   clear hp0
   refine hK26 _ _ ?_
   clear hK26
   replace ⟨hp0, h⟩ := chk_some h
   refine awp_rES ftCOk [4] [(4, iV (t4 + 1))] ?_
   clear hp0
   obtain rfl := Option.some.inj h
   refine LoopQ.next ?_
   exact Red.selA [0] Red.auto
  ·refine awp_exit ?_
   refine nm ?_
   obtain rfl := Option.some.inj h
   refine LoopQ.out rfl ?_
   exact Red.auto
 ·clear hx
  skip
  ·try dsimp only [Sum.elim_inl, Sum.elim_inr] at h
   try dsimp only [Sum.elim_inl, Sum.elim_inr]
   refine hK14 _ _ ?_
   clear hK14
   refine awp_rS ftCOk [3] [(2, .sl 0)] ?_
   refine awp_ret ?_
   obtain rfl := Option.some.inj h
   exact finQ [0]
theorem k_spec_ValuesFor (a0 : List (Int × Int × Int)) (a1 : Int) {r : List Int} (h : spec_ValuesFor a0 a1 = some r) :
 FnA Tryz.prog 95 [.sl 0, iV a1] [rT a0] [] (fun x H => x = .sl 1 ∧ H = [rT a0, oI r]) := by
 unfold spec_ValuesFor at h
 refine FnA.ofA 35 [0] [.tmp 4] Tryz.func95 en95 ?_
 refine awp_rS ftCOk [] [] ?_
 refine awp_rM ftCOk [] [(5, .sl 1)] [] [oI []] ?_
 refine awp_seq fun K17 hK17 => ?_
 refine awp_rS ftCOk [] [(6, iV 0)] ?_
 refine awp_block ?_
 replace h := bind_some h
 obtain ⟨t5s_1, hx, h⟩ := h
 refine awp_loopL hx (fun (t6, t5s) => [(0, .sl 0), (1, iV a1), (5, .sl 1), (6, iV t6)]) (fun (t6, t5s) => [rT a0, oI t5s]) (fun _ => Exit.exit 0) (fun t5s_1 => [(5, .sl 1)]) (fun t5s_1 => [rT a0, oI t5s_1]) ?_ ?_ ?_ ?_
 ·rintro t5s_1 hy <;> cases hy
 ·clear h hx
  exact Red.auto
 ·clear h hx
  rintro ⟨t6, t5s⟩ r h
  unfold spec_ValuesFor_b0 at h
  try dsimp only at h
  try dsimp only
  refine awp_seq fun K29 hK29 => ?_
  refine awp_rS ftCOk [] [(16, bV ((decide (t6 < (a0.length : Int))) && (decide ((a0.length : Int) ≤ 2000))))] ?_
  refine awp_if h ?_ ?_ <;> clear h <;> intro hc h
  ·refine awp_skip ?_
   refine hK29 _ _ ?_
   clear hK29
   refine awp_join h (fun t5s_2 => [(0, .sl 0), (1, iV a1), (5, .sl 1), (6, iV t6)]) (fun t5s_2 => [rT a0, oI t5s_2]) ?_ ?_
   ·clear h
    intro k h
    try dsimp only at h
    refine awp_block ?_
    replace ⟨hp0, h⟩ := chk_some h
    refine awp_rS ftCOk [16] [(25, bV ((a0.getD t6.toNat (0, 0, 0)).1 == a1))] ?_
    clear hp0
    refine awp_if h ?_ ?_ <;> clear h <;> intro hc h
    ·replace ⟨hp0, h⟩ := chk_some h
     replace ⟨hp1, h⟩ := chk_some h
     refine awp_rEM ftCOk [25] [] [(1, oI (t5s ++ [(a0.getD t6.toNat (0, 0, 0)).2.1]))] [oI [(a0.getD t6.toNat (0, 0, 0)).2.1]] ?_
     clear hp0 hp1
     refine nm ?_
     refine ⟨_, h, ?_⟩
     exact Red.selA [0, 1] Red.auto
    ·refine awp_skip ?_
     refine nm ?_
     refine ⟨_, h, ?_⟩
     exact Red.auto
   ·clear h
    rintro t5s_2 h
    try dsimp only at h
    try dsimp only
    replace ⟨hp0, h⟩ := chk_some h
    refine awp_rES ftCOk [6] [(6, iV (t6 + 1))] ?_
    clear hp0
    obtain rfl := Option.some.inj h
    refine LoopQ.next ?_
    exact Red.auto
  ·refine awp_exit ?_
   refine nm ?_
   obtain rfl := Option.some.inj h
   refine LoopQ.out rfl ?_
   exact Red.auto
 ·clear hx
  skip
  ·try dsimp only [Sum.elim_inl, Sum.elim_inr] at h
   try dsimp only [Sum.elim_inl, Sum.elim_inr]
   refine hK17 _ _ ?_
   clear hK17
   refine awp_rS ftCOk [5] [(4, .sl 1)] ?_
   refine awp_ret ?_
   obtain rfl := Option.some.inj h
   exact finQ [0, 1]
theorem k_spec_l10Least (a0 : List Int) {r : Int} (h : spec_l10Least a0 = some r) :
 FnA Tryz.prog 104 [.sl 0] [rI a0] [] (fun x H => x = iV r ∧ H = [rI a0]) := by
 unfold spec_l10Least at h
 refine FnA.ofA 21 [0] [.tmp 2] Tryz.func104 en104 ?_
 refine awp_rS ftCOk [] [] ?_
 replace ⟨hp0, h⟩ := chk_some h
 refine awp_rS ftCOk [] [(3, iV (a0.getD 0 0))] ?_
 clear hp0
 refine awp_seq fun K14 hK14 => ?_
 refine awp_rS ftCOk [] [(4, iV 1)] ?_
 refine awp_block ?_
 replace h := bind_some h
 obtain ⟨t3_1, hx, h⟩ := h
 refine awp_loopL hx (fun (t3, t4) => [(0, .sl 0), (3, iV t3), (4, iV t4)]) (fun (t3, t4) => [rI a0]) (fun _ => Exit.exit 0) (fun t3_1 => [(3, iV t3_1)]) (fun t3_1 => [rI a0]) ?_ ?_ ?_ ?_
 ·rintro t3_1 hy <;> cases hy
 ·clear h hx
  exact Red.auto
 ·clear h hx
  rintro ⟨t3, t4⟩ r h
  unfold spec_l10Least_b0 at h
  try dsimp only at h
  try dsimp only
  refine awp_seq fun K24 hK24 => ?_
  refine awp_rS ftCOk [] [(11, bV (decide (t4 < (a0.length : Int))))] ?_
  refine awp_if h ?_ ?_ <;> clear h <;> intro hc h
  ·refine awp_skip ?_
   refine hK24 _ _ ?_
   clear hK24
   refine awp_seq fun K26 hK26 => ?_
   refine awp_block ?_
   replace ⟨hp0, h⟩ := chk_some h
   refine awp_rES ftCOk [3, 11] [(3, iV (min t3 (a0.getD t4.toNat 0)))] ?_
   clear hp0
   refine hK26 _ _ ?_
   clear hK26
   replace ⟨hp0, h⟩ := chk_some h
   refine awp_rES ftCOk [4] [(4, iV (t4 + 1))] ?_
   clear hp0
   obtain rfl := Option.some.inj h
   refine LoopQ.next ?_
   exact Red.auto
  ·refine awp_exit ?_
   refine nm ?_
   obtain rfl := Option.some.inj h
   refine LoopQ.out rfl ?_
   exact Red.auto
 ·clear hx
  skip
  ·try dsimp only [Sum.elim_inl, Sum.elim_inr] at h
   try dsimp only [Sum.elim_inl, Sum.elim_inr]
   refine hK14 _ _ ?_
   clear hK14
   refine awp_rS ftCOk [3] [(2, iV t3_1)] ?_
   refine awp_ret ?_
   obtain rfl := Option.some.inj h
   exact finQ [0]
theorem k_spec_NextOf (a0_0 : Int) (a0_1 : List (Int × Int × Int)) (a1 : Int) {r : List Int} (h : spec_NextOf a0_0 a0_1 a1 = some r) :
 FnA Tryz.prog 105 [.agg [iV a0_0, .sl 0], iV a1] [rT a0_1] [] (fun x H => x = .sl 1 ∧ H = [rT a0_1, oI r]) := by
 unfold spec_NextOf at h
 refine FnA.ofA 37 [0] [.tmp 4] Tryz.func105 en105 ?_
 refine awp_rM ftCOk [0] [(2, .pp 1 0)] [] [.box [iV a0_0, .sl 0]] ?_
 refine awp_freeze 2 (by rfl) (by rfl) (by exact rfl) ?_
 refine awp_rM ftCOk [] [(5, .sl 2)] [] [oI []] ?_
 refine awp_seq fun K17 hK17 => ?_
 refine awp_rS ftCOk [] [(6, iV 0)] ?_
 refine awp_block ?_
 replace h := bind_some h
 obtain ⟨t5s_1, hx, h⟩ := h
 refine awp_loopL hx (fun (t6, t5s) => [(1, iV a1), (2, .pp 1 0), (5, .sl 2), (6, iV t6)]) (fun (t6, t5s) => [rT a0_1, .rbox [iV a0_0, .sl 0], oI t5s]) (fun _ => Exit.exit 0) (fun t5s_1 => [(5, .sl 1)]) (fun t5s_1 => [rT a0_1, oI t5s_1]) ?_ ?_ ?_ ?_
 ·rintro t5s_1 hy <;> cases hy
 ·clear h hx
  exact Red.auto
 ·clear h hx
  rintro ⟨t6, t5s⟩ r h
  unfold spec_NextOf_b0 at h
  try dsimp only at h
  try dsimp only
  refine awp_seq fun K29 hK29 => ?_
  replace ⟨y, hr0, h⟩ := bind_some h
  refine awp_t [] [(16, bV ((decide (t6 < (a0_1.length : Int))) && y))] [] [] ?_ ?_
  ·clear h
   intro K hK
   refine awp_region ftCOk ?_
   exact au8
  ·clear hr0
   refine awp_if h ?_ ?_ <;> clear h <;> intro hc h
   ·refine awp_skip ?_
    refine hK29 _ _ ?_
    clear hK29
    refine awp_join h (fun t5s_2 => [(1, iV a1), (2, .pp 1 0), (5, .sl 2), (6, iV t6)]) (fun t5s_2 => [rT a0_1, .rbox [iV a0_0, .sl 0], oI t5s_2]) ?_ ?_
    ·clear h
     intro k h
     try dsimp only at h
     refine awp_block ?_
     replace ⟨hp0, h⟩ := chk_some h
     refine awp_rS ftCOk [16] [(26, bV ((a0_1.getD t6.toNat (0, 0, 0)).1 == a1))] ?_
     clear hp0
     refine awp_if h ?_ ?_ <;> clear h <;> intro hc h
     ·replace ⟨hp0, h⟩ := chk_some h
      replace ⟨hp1, h⟩ := chk_some h
      refine awp_rEM ftCOk [26] [] [(2, oI (t5s ++ [(a0_1.getD t6.toNat (0, 0, 0)).2.1]))] [oI [(a0_1.getD t6.toNat (0, 0, 0)).2.1]] ?_
      clear hp0 hp1
      refine nm ?_
      refine ⟨_, h, ?_⟩
      exact Red.selA [0, 1, 2] Red.auto
     ·refine awp_skip ?_
      refine nm ?_
      refine ⟨_, h, ?_⟩
      exact Red.auto
    ·clear h
     rintro t5s_2 h
     try dsimp only at h
     try dsimp only
     replace ⟨hp0, h⟩ := chk_some h
     refine awp_rES ftCOk [6] [(6, iV (t6 + 1))] ?_
     clear hp0
     obtain rfl := Option.some.inj h
     refine LoopQ.next ?_
     exact Red.auto
   ·refine awp_exit ?_
    refine nm ?_
    obtain rfl := Option.some.inj h
    refine LoopQ.out rfl ?_
    exact Red.selA [0, 2] Red.auto
 ·clear hx
  skip
  ·try dsimp only [Sum.elim_inl, Sum.elim_inr] at h
   try dsimp only [Sum.elim_inl, Sum.elim_inr]
   refine hK17 _ _ ?_
   clear hK17
   refine awp_rS ftCOk [5] [(4, .sl 1)] ?_
   refine awp_ret ?_
   obtain rfl := Option.some.inj h
   exact finQ [0, 1]
theorem k_spec_WeightOf (a0_0 : Int) (a0_1 : List (Int × Int × Int)) (a1 : Int) (a2 : Int) {r : Int} (h : spec_WeightOf a0_0 a0_1 a1 a2 = some r) :
 FnA Tryz.prog 106 [.agg [iV a0_0, .sl 0], iV a1, iV a2] [rT a0_1] [] (fun x H => x = iV r ∧ H = [rT a0_1]) := by
 unfold spec_WeightOf at h
 refine FnA.ofA 43 [0] [.tmp 6] Tryz.func106 en106 ?_
 refine awp_rM ftCOk [0] [(3, .pp 1 0)] [] [.box [iV a0_0, .sl 0]] ?_
 refine awp_freeze 3 (by rfl) (by rfl) (by exact rfl) ?_
 refine awp_seq fun K20 hK20 => ?_
 refine awp_rS ftCOk [] [(7, iV 0)] ?_
 refine awp_block ?_
 replace h := bind_some h
 obtain ⟨x39, hx, h⟩ := h
 refine awp_loopL hx (fun t7 => [(1, iV a1), (2, iV a2), (3, .pp 1 0), (7, iV t7)]) (fun t7 => [rT a0_1, .rbox [iV a0_0, .sl 0]]) (Sum.elim (fun _ => Exit.exit 0) (fun _ => Exit.ret)) (Sum.elim (fun _ => []) (fun t6 => [(6, iV t6)])) (Sum.elim (fun _ => [rT a0_1]) (fun t6 => [rT a0_1])) ?_ ?_ ?_ ?_
 ·rintro (⟨⟩ | t6) hy <;> cases hy
 ·clear h hx
  exact Red.auto
 ·clear h hx
  rintro t7 r h
  unfold spec_WeightOf_b0 at h
  try dsimp only at h
  try dsimp only
  refine awp_seq fun K34 hK34 => ?_
  replace ⟨y, hr0, h⟩ := bind_some h
  refine awp_t [] [(16, bV ((decide (t7 < (a0_1.length : Int))) && y))] [] [] ?_ ?_
  ·clear h
   intro K hK
   refine awp_region ftCOk ?_
   exact au8
  ·clear hr0
   refine awp_if h ?_ ?_ <;> clear h <;> intro hc h
   ·refine awp_skip ?_
    refine hK34 _ _ ?_
    clear hK34
    refine awp_seq fun K37 hK37 => ?_
    refine awp_block ?_
    replace ⟨hp0, h⟩ := chk_some h
    replace ⟨hp1, h⟩ := chk_some h
    refine awp_t [16] [(36, bV (((a0_1.getD t7.toNat (0, 0, 0)).1 == a1) && ((a0_1.getD t7.toNat (0, 0, 0)).2.1 == a2)))] [] [] ?_ ?_
    ·clear h
     intro K hK
     refine awp_region ftCOk ?_
     exact au7
    ·clear hp0 hp1
     refine awp_if h ?_ ?_ <;> clear h <;> intro hc h
     ·replace ⟨hp0, h⟩ := chk_some h
      refine awp_rS ftCOk [1, 2, 3, 7, 36] [(6, iV ((a0_1.getD t7.toNat (0, 0, 0)).2.2))] ?_
      clear hp0
      refine awp_ret ?_
      refine nm ?_
      obtain rfl := Option.some.inj h
      refine LoopQ.out rfl ?_
      exact Red.selA [0] Red.auto
     ·refine awp_skip ?_
      refine hK37 _ _ ?_
      clear hK37
      replace ⟨hp0, h⟩ := chk_some h
      refine awp_rES ftCOk [7, 36] [(7, iV (t7 + 1))] ?_
      clear hp0
      obtain rfl := Option.some.inj h
      refine LoopQ.next ?_
      exact Red.auto
   ·refine awp_exit ?_
    refine nm ?_
    obtain rfl := Option.some.inj h
    refine LoopQ.out rfl ?_
    exact Red.selA [0] Red.auto
 ·clear hx
  rcases x39 with (⟨⟩ | t6)
  ·try dsimp only [Sum.elim_inl, Sum.elim_inr] at h
   try dsimp only [Sum.elim_inl, Sum.elim_inr]
   refine hK20 _ _ ?_
   clear hK20
   refine awp_rS ftCOk [] [(6, iV (-1))] ?_
   refine awp_ret ?_
   obtain rfl := Option.some.inj h
   exact finQ [0]
  ·try dsimp only [Sum.elim_inl, Sum.elim_inr] at h
   try dsimp only [Sum.elim_inl, Sum.elim_inr]
   obtain rfl := Option.some.inj h
   exact finQ [0]
theorem k_spec_NearOf (a0_0 : Int) (a0_1 : List (Int × Int × Int)) (a1 : Int) {r : List Int} (h : spec_NearOf a0_0 a0_1 a1 = some r) :
 FnA Tryz.prog 108 [.agg [iV a0_0, .sl 0], iV a1] [rT a0_1] [] (fun x H => x = .sl 1 ∧ H = [rT a0_1, oI r]) := by
 unfold spec_NearOf at h
 refine FnA.ofA 64 [0] [.tmp 4] Tryz.func108 en108 ?_
 refine awp_rM ftCOk [0] [(2, .pp 1 0)] [] [.box [iV a0_0, .sl 0]] ?_
 refine awp_freeze 2 (by rfl) (by rfl) (by exact rfl) ?_
 refine awp_rM ftCOk [] [(5, .sl 2)] [] [oI []] ?_
 refine awp_seq fun K179 hK179 => ?_
 refine awp_rS ftCOk [] [(6, iV 0)] ?_
 refine awp_block ?_
 replace h := bind_some h
 obtain ⟨t5s_1, hx, h⟩ := h
 refine awp_loopL hx (fun (t6, t5s) => [(1, iV a1), (2, .pp 1 0), (5, .sl 2), (6, iV t6)]) (fun (t6, t5s) => [rT a0_1, .rbox [iV a0_0, .sl 0], oI t5s]) (fun _ => Exit.exit 0) (fun t5s_1 => [(5, .sl 1)]) (fun t5s_1 => [rT a0_1, oI t5s_1]) ?_ ?_ ?_ ?_
 ·rintro t5s_1 hy <;> cases hy
 ·clear h hx
  exact Red.auto
 ·clear h hx
  rintro ⟨t6, t5s⟩ r h
  unfold spec_NearOf_b1 at h
  try dsimp only at h
  try dsimp only
  refine awp_seq fun K299 hK299 => ?_
  replace ⟨y, hr0, h⟩ := bind_some h
  refine awp_t [] [(18, bV ((decide (t6 < a0_0)) && y))] [] [] ?_ ?_
  ·clear h
   intro K hK
   refine awp_region ftCOk ?_
   exact au8
  ·clear hr0
   refine awp_if h ?_ ?_ <;> clear h <;> intro hc h
   ·refine awp_skip ?_
    refine hK299 _ _ ?_
    clear hK299
    refine awp_join h (fun t5s_2 => [(1, iV a1), (2, .pp 1 0), (5, .sl 2), (6, iV t6)]) (fun t5s_2 => [rT a0_1, .rbox [iV a0_0, .sl 0], oI t5s_2]) ?_ ?_
    ·clear h
     intro k h
     try dsimp only at h
     refine awp_block ?_
     refine awp_rS ftCOk [18] [(7, bV false)] ?_
     refine awp_seq fun K342 hK342 => ?_
     refine awp_rS ftCOk [] [(8, iV 0)] ?_
     refine awp_block ?_
     replace h := bind_some h
     obtain ⟨t7_1, hx, h⟩ := h
     refine awp_loopL hx (fun (t7, t8) => [(1, iV a1), (2, .pp 1 0), (5, .sl 2), (6, iV t6), (7, bV t7), (8, iV t8)]) (fun (t7, t8) => [rT a0_1, .rbox [iV a0_0, .sl 0], oI t5s]) (fun _ => Exit.exit 2) (fun t7_1 => [(1, iV a1), (2, .pp 1 0), (5, .sl 2), (6, iV t6), (7, bV t7_1)]) (fun t7_1 => [rT a0_1, .rbox [iV a0_0, .sl 0], oI t5s]) ?_ ?_ ?_ ?_
     ·rintro t7_1 hy <;> cases hy
     ·clear h hx
      exact Red.auto
     ·clear h hx
      rintro ⟨t7, t8⟩ r h
      unfold spec_NearOf_b0 at h
      try dsimp only at h
      try dsimp only
      refine awp_seq fun K352 hK352 => ?_
      refine awp_rS ftCOk [] [(25, bV (decide (t8 < (a0_1.length : Int))))] ?_
      refine awp_if h ?_ ?_ <;> clear h <;> intro hc h
      ·refine awp_skip ?_
       refine hK352 _ _ ?_
       clear hK352
       refine awp_seq fun K354 hK354 => ?_
       refine awp_block ?_
       replace ⟨hp0, h⟩ := chk_some h
       refine awp_rM ftCOk [25] [(9, .pp 3 0)] [] [.box [iV ((a0_1.getD t8.toNat (0, 0, 0)).1), iV ((a0_1.getD t8.toNat (0, 0, 0)).2.1), iV ((a0_1.getD t8.toNat (0, 0, 0)).2.2)]] ?_
       clear hp0
       refine awp_rES ftCOk [7, 9] [(7, bV ((t7 || (((a0_1.getD t8.toNat (0, 0, 0)).1 == a1) && ((a0_1.getD t8.toNat (0, 0, 0)).2.1 == t6))) || (((a0_1.getD t8.toNat (0, 0, 0)).1 == t6) && ((a0_1.getD t8.toNat (0, 0, 0)).2.1 == a1))))] ?_
       refine hK354 _ _ ?_
       clear hK354
       replace ⟨hp0, h⟩ := chk_some h
       refine awp_rES ftCOk [8] [(8, iV (t8 + 1))] ?_
       clear hp0
       obtain rfl := Option.some.inj h
       refine LoopQ.next ?_
       exact Red.selA [0, 1, 2] Red.auto
      ·refine awp_exit ?_
       refine nm ?_
       obtain rfl := Option.some.inj h
       refine LoopQ.out rfl ?_
       exact Red.auto
     ·clear hx
      skip
      ·try dsimp only [Sum.elim_inl, Sum.elim_inr] at h
       try dsimp only [Sum.elim_inl, Sum.elim_inr]
       refine hK342 _ _ ?_
       clear hK342
       refine awp_rS ftCOk [7] [(58, bV t7_1)] ?_
       refine awp_if h ?_ ?_ <;> clear h <;> intro hc h
       ·replace ⟨hp0, h⟩ := chk_some h
        refine awp_rEM ftCOk [58] [] [(2, oI (t5s ++ [t6]))] [oI [t6]] ?_
        clear hp0
        refine nm ?_
        refine ⟨_, h, ?_⟩
        exact Red.selA [0, 1, 2] Red.auto
       ·refine awp_skip ?_
        refine nm ?_
        refine ⟨_, h, ?_⟩
        exact Red.auto
    ·clear h
     rintro t5s_2 h
     try dsimp only at h
     try dsimp only
     replace ⟨hp0, h⟩ := chk_some h
     refine awp_rES ftCOk [6] [(6, iV (t6 + 1))] ?_
     clear hp0
     obtain rfl := Option.some.inj h
     refine LoopQ.next ?_
     exact Red.auto
   ·refine awp_exit ?_
    refine nm ?_
    obtain rfl := Option.some.inj h
    refine LoopQ.out rfl ?_
    exact Red.selA [0, 2] Red.auto
 ·clear hx
  skip
  ·try dsimp only [Sum.elim_inl, Sum.elim_inr] at h
   try dsimp only [Sum.elim_inl, Sum.elim_inr]
   refine hK179 _ _ ?_
   clear hK179
   refine awp_rS ftCOk [5] [(4, .sl 1)] ?_
   refine awp_ret ?_
   obtain rfl := Option.some.inj h
   exact finQ [0, 1]
theorem k_spec_l10Send (a0 : List Int) (a1 : Int) (a2 : Int) {r : (List (Int × Int × Int))} (h : spec_l10Send a0 a1 a2 = some r) :
 FnA Tryz.prog 107 [.sl 0, iV a1, iV a2] [rI a0] [] (fun x H => x = .sl 1 ∧ H = [rI a0, oT r]) := by
 unfold spec_l10Send at h
 refine FnA.ofA 27 [0] [.tmp 6] Tryz.func107 en107 ?_
 refine awp_rS ftCOk [] [] ?_
 refine awp_rM ftCOk [] [(7, .sl 1)] [] [oT []] ?_
 refine awp_seq fun K14 hK14 => ?_
 refine awp_rS ftCOk [] [(8, iV 0)] ?_
 refine awp_block ?_
 replace h := bind_some h
 obtain ⟨t7s_1, hx, h⟩ := h
 refine awp_loopL hx (fun (t8, t7s) => [(0, .sl 0), (1, iV a1), (2, iV a2), (7, .sl 1), (8, iV t8)]) (fun (t8, t7s) => [rI a0, oT t7s]) (fun _ => Exit.exit 0) (fun t7s_1 => [(7, .sl 1)]) (fun t7s_1 => [rI a0, oT t7s_1]) ?_ ?_ ?_ ?_
 ·rintro t7s_1 hy <;> cases hy
 ·clear h hx
  exact Red.auto
 ·clear h hx
  rintro ⟨t8, t7s⟩ r h
  unfold spec_l10Send_b0 at h
  try dsimp only at h
  try dsimp only
  refine awp_seq fun K24 hK24 => ?_
  refine awp_rS ftCOk [] [(13, bV (decide (t8 < (a0.length : Int))))] ?_
  refine awp_if h ?_ ?_ <;> clear h <;> intro hc h
  ·refine awp_skip ?_
   refine hK24 _ _ ?_
   clear hK24
   refine awp_seq fun K26 hK26 => ?_
   refine awp_block ?_
   replace ⟨hp0, h⟩ := chk_some h
   replace ⟨hp1, h⟩ := chk_some h
   refine awp_rEM ftCOk [13] [] [(1, oT (t7s ++ [((a0.getD t8.toNat 0), a1, a2)]))] [oT [((a0.getD t8.toNat 0), a1, a2)]] ?_
   clear hp0 hp1
   refine hK26 _ _ ?_
   clear hK26
   replace ⟨hp0, h⟩ := chk_some h
   refine awp_rES ftCOk [8] [(8, iV (t8 + 1))] ?_
   clear hp0
   obtain rfl := Option.some.inj h
   refine LoopQ.next ?_
   exact Red.selA [0, 1] Red.auto
  ·refine awp_exit ?_
   refine nm ?_
   obtain rfl := Option.some.inj h
   refine LoopQ.out rfl ?_
   exact Red.auto
 ·clear hx
  skip
  ·try dsimp only [Sum.elim_inl, Sum.elim_inr] at h
   try dsimp only [Sum.elim_inl, Sum.elim_inr]
   refine hK14 _ _ ?_
   clear hK14
   refine awp_rS ftCOk [7] [(6, .sl 1)] ?_
   refine awp_ret ?_
   obtain rfl := Option.some.inj h
   exact finQ [0, 1]
theorem k_spec_MostFrequent (a0 : List Int) {r : Int} (h : spec_MostFrequent a0 = some r) :
 FnA Tryz.prog 109 [.sl 0] [rI a0] [] (fun x H => x = iV r ∧ H = [rI a0]) := by
 unfold spec_MostFrequent at h
 refine FnA.ofA 53 [0] [.tmp 2] Tryz.func109 en109 ?_
 refine awp_rS ftCOk [] [] ?_
 refine awp_rS ftCOk [] [(3, iV 0)] ?_
 refine awp_rS ftCOk [] [(4, iV 0)] ?_
 refine awp_seq fun K215 hK215 => ?_
 refine awp_rS ftCOk [] [(5, iV 0)] ?_
 refine awp_block ?_
 replace h := bind_some h
 obtain ⟨t3_1, hx, h⟩ := h
 refine awp_loopL hx (fun (t3, t4, t5) => [(0, .sl 0), (3, iV t3), (4, iV t4), (5, iV t5)]) (fun (t3, t4, t5) => [rI a0]) (fun _ => Exit.exit 0) (fun t3_1 => [(3, iV t3_1)]) (fun t3_1 => [rI a0]) ?_ ?_ ?_ ?_
 ·rintro t3_1 hy <;> cases hy
 ·clear h hx
  exact Red.auto
 ·clear h hx
  rintro ⟨t3, t4, t5⟩ r h
  unfold spec_MostFrequent_b1 at h
  try dsimp only at h
  try dsimp only
  refine awp_seq fun K359 hK359 => ?_
  refine awp_rS ftCOk [] [(11, bV (decide (t5 < (a0.length : Int))))] ?_
  refine awp_if h ?_ ?_ <;> clear h <;> intro hc h
  ·refine awp_skip ?_
   refine hK359 _ _ ?_
   clear hK359
   refine awp_join h (fun (t3_2, t4_1) => [(0, .sl 0), (3, iV t3_2), (4, iV t4_1), (5, iV t5)]) (fun (t3_2, t4_1) => [rI a0]) ?_ ?_
   ·clear h
    intro k h
    try dsimp only at h
    refine awp_block ?_
    refine awp_rS ftCOk [11] [(6, iV 0)] ?_
    refine awp_seq fun K411 hK411 => ?_
    refine awp_rS ftCOk [] [(7, iV 0)] ?_
    refine awp_block ?_
    replace h := bind_some h
    obtain ⟨t6_1, hx, h⟩ := h
    refine awp_loopL hx (fun (t6, t7) => [(0, .sl 0), (3, iV t3), (4, iV t4), (5, iV t5), (6, iV t6), (7, iV t7)]) (fun (t6, t7) => [rI a0]) (fun _ => Exit.exit 2) (fun t6_1 => [(0, .sl 0), (3, iV t3), (4, iV t4), (5, iV t5), (6, iV t6_1)]) (fun t6_1 => [rI a0]) ?_ ?_ ?_ ?_
    ·rintro t6_1 hy <;> cases hy
    ·clear h hx
     exact Red.auto
    ·clear h hx
     rintro ⟨t6, t7⟩ r h
     unfold spec_MostFrequent_b0 at h
     try dsimp only at h
     try dsimp only
     refine awp_seq fun K423 hK423 => ?_
     refine awp_rS ftCOk [] [(17, bV (decide (t7 < (a0.length : Int))))] ?_
     refine awp_if h ?_ ?_ <;> clear h <;> intro hc h
     ·refine awp_skip ?_
      refine hK423 _ _ ?_
      clear hK423
      refine awp_join h (fun t6_2 => [(0, .sl 0), (3, iV t3), (4, iV t4), (5, iV t5), (6, iV t6_2), (7, iV t7)]) (fun t6_2 => [rI a0]) ?_ ?_
      ·clear h
       intro k_1 h
       try dsimp only at h
       refine awp_block ?_
       replace ⟨hp0, h⟩ := chk_some h
       replace ⟨hp1, h⟩ := chk_some h
       refine awp_qS mixed ftCOk [17] [(28, bV ((a0.getD t7.toNat 0) == (a0.getD t5.toNat 0)))] ?_
       clear hp0 hp1
       refine awp_if h ?_ ?_ <;> clear h <;> intro hc h
       ·replace ⟨hp0, h⟩ := chk_some h
        refine awp_rES ftCOk [6, 28] [(6, iV (t6 + 1))] ?_
        clear hp0
        refine nm ?_
        refine ⟨_, h, ?_⟩
        exact Red.auto
       ·refine awp_skip ?_
        refine nm ?_
        refine ⟨_, h, ?_⟩
        exact Red.auto
      ·clear h
       rintro t6_2 h
       try dsimp only at h
       try dsimp only
       replace ⟨hp0, h⟩ := chk_some h
       refine awp_rES ftCOk [7] [(7, iV (t7 + 1))] ?_
       clear hp0
       obtain rfl := Option.some.inj h
       refine LoopQ.next ?_
       exact Red.auto
     ·refine awp_exit ?_
      refine nm ?_
      obtain rfl := Option.some.inj h
      refine LoopQ.out rfl ?_
      exact Red.auto
    ·clear hx
     skip
     ·try dsimp only [Sum.elim_inl, Sum.elim_inr] at h
      try dsimp only [Sum.elim_inl, Sum.elim_inr]
      refine hK411 _ _ ?_
      clear hK411
      replace ⟨hp0, h⟩ := chk_some h
      refine awp_t [] [(46, bV ((decide (t4 < t6_1)) || ((t6_1 == t4) && (decide ((a0.getD t5.toNat 0) < t3)))))] [] [] ?_ ?_
      ·clear h
       intro K hK
       refine awp_region ftCOk ?_
       simp (maxSteps := 4000000) only [go_sem]
       repeat' (first | refine And.intro ?_ ?_ | intro hg)
       all_goals (try simp (disch := omega) only [wrap_fits])
       all_goals first | exact al0 | (have hq := hp0 byg byg; omega) | exact al1
      ·clear hp0
       refine awp_if h ?_ ?_ <;> clear h <;> intro hc h
       ·replace ⟨hp0, h⟩ := chk_some h
        refine awp_rS ftCOk [3, 4, 46] [(3, iV (a0.getD t5.toNat 0))] ?_
        clear hp0
        refine awp_rES ftCOk [6] [(4, iV t6_1)] ?_
        refine nm ?_
        refine ⟨_, h, ?_⟩
        exact Red.auto
       ·refine awp_skip ?_
        refine nm ?_
        refine ⟨_, h, ?_⟩
        exact Red.auto
   ·clear h
    rintro ⟨t3_2, t4_1⟩ h
    try dsimp only at h
    try dsimp only
    replace ⟨hp0, h⟩ := chk_some h
    refine awp_rES ftCOk [5] [(5, iV (t5 + 1))] ?_
    clear hp0
    obtain rfl := Option.some.inj h
    refine LoopQ.next ?_
    exact Red.auto
  ·refine awp_exit ?_
   refine nm ?_
   obtain rfl := Option.some.inj h
   refine LoopQ.out rfl ?_
   exact Red.auto
 ·clear hx
  skip
  ·try dsimp only [Sum.elim_inl, Sum.elim_inr] at h
   try dsimp only [Sum.elim_inl, Sum.elim_inr]
   refine hK215 _ _ ?_
   clear hK215
   refine awp_rS ftCOk [3] [(2, iV t3_1)] ?_
   refine awp_ret ?_
   obtain rfl := Option.some.inj h
   exact finQ [0]
theorem k_spec_ManyAtLeast (a0 : List Int) {r : Int} (h : spec_ManyAtLeast a0 = some r) :
 FnA Tryz.prog 110 [.sl 0] [rI a0] [] (fun x H => x = iV r ∧ H = [rI a0]) := by
 unfold spec_ManyAtLeast at h
 refine FnA.ofA 33 [0] [.tmp 2] Tryz.func110 en110 ?_
 refine awp_rS ftCOk [] [] ?_
 refine awp_rS ftCOk [] [(3, iV 0)] ?_
 refine awp_seq fun K119 hK119 => ?_
 refine awp_block ?_
 replace h := bind_some h
 obtain ⟨x237, hx, h⟩ := h
 refine awp_loopL hx (fun t3 => [(0, .sl 0), (3, iV t3)]) (fun t3 => [rI a0]) (Sum.elim (fun _ => Exit.exit 0) (fun _ => Exit.ret)) (Sum.elim (fun t3_1 => [(3, iV t3_1)]) (fun t2 => [(2, iV t2)])) (Sum.elim (fun t3_1 => [rI a0]) (fun t2 => [rI a0])) ?_ ?_ ?_ ?_
 ·rintro (t3_1 | t2) hy <;> cases hy
 ·clear h hx
  exact Red.auto
 ·clear h hx
  rintro t3 r h
  unfold spec_ManyAtLeast_b1 at h
  try dsimp only at h
  try dsimp only
  refine awp_seq fun K199 hK199 => ?_
  refine awp_rS ftCOk [] [(9, bV (decide (t3 < (a0.length : Int))))] ?_
  refine awp_if h ?_ ?_ <;> clear h <;> intro hc h
  ·refine awp_skip ?_
   refine hK199 _ _ ?_
   clear hK199
   refine awp_block ?_
   refine awp_rS ftCOk [9] [(4, iV 0)] ?_
   refine awp_seq fun K217 hK217 => ?_
   refine awp_rS ftCOk [] [(5, iV 0)] ?_
   refine awp_block ?_
   replace h := bind_some h
   obtain ⟨t4_1, hx, h⟩ := h
   refine awp_loopL hx (fun (t4, t5) => [(0, .sl 0), (3, iV t3), (4, iV t4), (5, iV t5)]) (fun (t4, t5) => [rI a0]) (fun _ => Exit.exit 2) (fun t4_1 => [(0, .sl 0), (3, iV t3), (4, iV t4_1)]) (fun t4_1 => [rI a0]) ?_ ?_ ?_ ?_
   ·rintro t4_1 hy <;> cases hy
   ·clear h hx
    exact Red.auto
   ·clear h hx
    rintro ⟨t4, t5⟩ r h
    unfold spec_ManyAtLeast_b0 at h
    try dsimp only at h
    try dsimp only
    refine awp_seq fun K229 hK229 => ?_
    refine awp_rS ftCOk [] [(13, bV (decide (t5 < (a0.length : Int))))] ?_
    refine awp_if h ?_ ?_ <;> clear h <;> intro hc h
    ·refine awp_skip ?_
     refine hK229 _ _ ?_
     clear hK229
     refine awp_join h (fun t4_2 => [(0, .sl 0), (3, iV t3), (4, iV t4_2), (5, iV t5)]) (fun t4_2 => [rI a0]) ?_ ?_
     ·clear h
      intro k h
      try dsimp only at h
      refine awp_block ?_
      replace ⟨hp0, h⟩ := chk_some h
      replace ⟨hp1, h⟩ := chk_some h
      refine awp_rS ftCOk [13] [(22, bV (decide ((t3 + 1) ≤ (a0.getD t5.toNat 0))))] ?_
      clear hp0 hp1
      refine awp_if h ?_ ?_ <;> clear h <;> intro hc h
      ·replace ⟨hp0, h⟩ := chk_some h
       refine awp_rES ftCOk [4, 22] [(4, iV (t4 + 1))] ?_
       clear hp0
       refine nm ?_
       refine ⟨_, h, ?_⟩
       exact Red.auto
      ·refine awp_skip ?_
       refine nm ?_
       refine ⟨_, h, ?_⟩
       exact Red.auto
     ·clear h
      rintro t4_2 h
      try dsimp only at h
      try dsimp only
      replace ⟨hp0, h⟩ := chk_some h
      refine awp_rES ftCOk [5] [(5, iV (t5 + 1))] ?_
      clear hp0
      obtain rfl := Option.some.inj h
      refine LoopQ.next ?_
      exact Red.auto
    ·refine awp_exit ?_
     refine nm ?_
     obtain rfl := Option.some.inj h
     refine LoopQ.out rfl ?_
     exact Red.auto
   ·clear hx
    skip
    ·try dsimp only [Sum.elim_inl, Sum.elim_inr] at h
     try dsimp only [Sum.elim_inl, Sum.elim_inr]
     refine hK217 _ _ ?_
     clear hK217
     refine awp_seq fun K235 hK235 => ?_
     replace ⟨hp0, h⟩ := chk_some h
     refine awp_rS ftCOk [4] [(28, bV (decide (t4_1 < (t3 + 1))))] ?_
     clear hp0
     refine awp_if h ?_ ?_ <;> clear h <;> intro hc h
     ·refine awp_rS ftCOk [0, 3, 28] [(2, iV t3)] ?_
      refine awp_ret ?_
      refine nm ?_
      obtain rfl := Option.some.inj h
      refine LoopQ.out rfl ?_
      exact Red.auto
     ·refine awp_skip ?_
      refine hK235 _ _ ?_
      clear hK235
      replace ⟨hp0, h⟩ := chk_some h
      refine awp_rES ftCOk [3, 28] [(3, iV (t3 + 1))] ?_
      clear hp0
      refine nm ?_
      obtain rfl := Option.some.inj h
      refine LoopQ.next ?_
      exact Red.auto
  ·refine awp_exit ?_
   refine nm ?_
   obtain rfl := Option.some.inj h
   refine LoopQ.out rfl ?_
   exact Red.auto
 ·clear hx
  rcases x237 with (t3_1 | t2)
  ·try dsimp only [Sum.elim_inl, Sum.elim_inr] at h
   try dsimp only [Sum.elim_inl, Sum.elim_inr]
   refine hK119 _ _ ?_
   clear hK119
   refine awp_rS ftCOk [3] [(2, iV t3_1)] ?_
   refine awp_ret ?_
   obtain rfl := Option.some.inj h
   exact finQ [0]
  ·try dsimp only [Sum.elim_inl, Sum.elim_inr] at h
   try dsimp only [Sum.elim_inl, Sum.elim_inr]
   obtain rfl := Option.some.inj h
   exact finQ [0]
theorem k_spec_l10Greater (a0_0 : Int) (a0_1 : List (Int × Int × Int)) (a1 : Int) {r : List Int} (h : spec_l10Greater a0_0 a0_1 a1 = some r) :
 FnA Tryz.prog 111 [.agg [iV a0_0, .sl 0], iV a1] [rT a0_1] [] (fun x H => x = .sl 1 ∧ H = [rT a0_1, oI r]) := by
 unfold spec_l10Greater at h
 refine FnA.ofA 32 [0] [.tmp 4] Tryz.func111 en111 ?_
 refine awp_rM ftCOk [0] [(2, .pp 1 0)] [] [.box [iV a0_0, .sl 0]] ?_
 refine awp_freeze 2 (by rfl) (by rfl) (by exact rfl) ?_
 refine awp_rM ftCOk [] [(5, .sl 2)] [] [oI []] ?_
 replace ⟨y, hr0, h⟩ := bind_some h
 refine awp_c ftCOk [2] [(6, .sl 3)] [] [oI y] [⟨2, [0], k_spec_NearOf a0_0 a0_1 a1 (h := hr0)⟩] ?_
 clear hr0
 refine awp_seq fun K17 hK17 => ?_
 refine awp_rS ftCOk [] [(7, iV 0)] ?_
 refine awp_block ?_
 replace h := bind_some h
 obtain ⟨t5s_1, hx, h⟩ := h
 refine awp_loopL hx (fun (t7, t5s) => [(1, iV a1), (5, .sl 1), (6, .sl 2), (7, iV t7)]) (fun (t7, t5s) => [rT a0_1, oI t5s, oI y]) (fun _ => Exit.exit 0) (fun t5s_1 => [(5, .sl 1)]) (fun t5s_1 => [rT a0_1, oI t5s_1]) ?_ ?_ ?_ ?_
 ·rintro t5s_1 hy <;> cases hy
 ·clear h hx
  exact Red.selA [0, 2, 3] Red.auto
 ·clear h hx
  rintro ⟨t7, t5s⟩ r h
  unfold spec_l10Greater_b0 at h
  try dsimp only at h
  try dsimp only
  refine awp_seq fun K29 hK29 => ?_
  refine awp_rS ftCOk [] [(15, bV (decide (t7 < (y.length : Int))))] ?_
  refine awp_if h ?_ ?_ <;> clear h <;> intro hc h
  ·refine awp_skip ?_
   refine hK29 _ _ ?_
   clear hK29
   refine awp_join h (fun t5s_2 => [(1, iV a1), (5, .sl 1), (6, .sl 2), (7, iV t7)]) (fun t5s_2 => [rT a0_1, oI t5s_2, oI y]) ?_ ?_
   ·clear h
    intro k h
    try dsimp only at h
    refine awp_block ?_
    replace ⟨hp0, h⟩ := chk_some h
    refine awp_rS ftCOk [15] [(23, bV (decide (a1 < (y.getD t7.toNat 0))))] ?_
    clear hp0
    refine awp_if h ?_ ?_ <;> clear h <;> intro hc h
    ·replace ⟨hp0, h⟩ := chk_some h
     replace ⟨hp1, h⟩ := chk_some h
     refine awp_rEM ftCOk [23] [] [(1, oI (t5s ++ [(y.getD t7.toNat 0)]))] [oI [(y.getD t7.toNat 0)]] ?_
     clear hp0 hp1
     refine nm ?_
     refine ⟨_, h, ?_⟩
     exact Red.selA [0, 1, 2] Red.auto
    ·refine awp_skip ?_
     refine nm ?_
     refine ⟨_, h, ?_⟩
     exact Red.auto
   ·clear h
    rintro t5s_2 h
    try dsimp only at h
    try dsimp only
    replace ⟨hp0, h⟩ := chk_some h
    refine awp_rES ftCOk [7] [(7, iV (t7 + 1))] ?_
    clear hp0
    obtain rfl := Option.some.inj h
    refine LoopQ.next ?_
    exact Red.auto
  ·refine awp_exit ?_
   refine nm ?_
   obtain rfl := Option.some.inj h
   refine LoopQ.out rfl ?_
   exact Red.selA [0, 1] Red.auto
 ·clear hx
  skip
  ·try dsimp only [Sum.elim_inl, Sum.elim_inr] at h
   try dsimp only [Sum.elim_inl, Sum.elim_inr]
   refine hK17 _ _ ?_
   clear hK17
   refine awp_rS ftCOk [5] [(4, .sl 1)] ?_
   refine awp_ret ?_
   obtain rfl := Option.some.inj h
   exact finQ [0, 1]
theorem k_spec_l7Has (a0 : List Int) (a1 : Int) {r : Bool} (h : spec_l7Has a0 a1 = some r) :
 FnA Tryz.prog 112 [.sl 0, iV a1] [rI a0] [] (fun x H => x = bV r ∧ H = [rI a0]) := by
 unfold spec_l7Has at h
 refine FnA.ofA 18 [0] [.tmp 4] Tryz.func112 en112 ?_
 refine awp_rS ftCOk [] [] ?_
 refine awp_seq fun K20 hK20 => ?_
 refine awp_rS ftCOk [] [(5, iV 0)] ?_
 refine awp_block ?_
 replace h := bind_some h
 obtain ⟨x39, hx, h⟩ := h
 refine awp_loopL hx (fun t5 => [(0, .sl 0), (1, iV a1), (5, iV t5)]) (fun t5 => [rI a0]) (Sum.elim (fun _ => Exit.exit 0) (fun _ => Exit.ret)) (Sum.elim (fun _ => []) (fun _ => [(4, bV true)])) (Sum.elim (fun _ => [rI a0]) (fun _ => [rI a0])) ?_ ?_ ?_ ?_
 ·rintro (⟨⟩ | ⟨⟩) hy <;> cases hy
 ·clear h hx
  exact Red.auto
 ·clear h hx
  rintro t5 r h
  unfold spec_l7Has_b0 at h
  try dsimp only at h
  try dsimp only
  refine awp_seq fun K34 hK34 => ?_
  refine awp_rS ftCOk [] [(9, bV (decide (t5 < (a0.length : Int))))] ?_
  refine awp_if h ?_ ?_ <;> clear h <;> intro hc h
  ·refine awp_skip ?_
   refine hK34 _ _ ?_
   clear hK34
   refine awp_seq fun K37 hK37 => ?_
   refine awp_block ?_
   replace ⟨hp0, h⟩ := chk_some h
   refine awp_rS ftCOk [9] [(17, bV ((a0.getD t5.toNat 0) == a1))] ?_
   clear hp0
   refine awp_if h ?_ ?_ <;> clear h <;> intro hc h
   ·refine awp_rS ftCOk [0, 1, 5, 17] [(4, bV true)] ?_
    refine awp_ret ?_
    refine nm ?_
    obtain rfl := Option.some.inj h
    refine LoopQ.out rfl ?_
    exact Red.auto
   ·refine awp_skip ?_
    refine hK37 _ _ ?_
    clear hK37
    replace ⟨hp0, h⟩ := chk_some h
    refine awp_rES ftCOk [5, 17] [(5, iV (t5 + 1))] ?_
    clear hp0
    obtain rfl := Option.some.inj h
    refine LoopQ.next ?_
    exact Red.auto
  ·refine awp_exit ?_
   refine nm ?_
   obtain rfl := Option.some.inj h
   refine LoopQ.out rfl ?_
   exact Red.auto
 ·clear hx
  rcases x39 with (⟨⟩ | ⟨⟩)
  ·try dsimp only [Sum.elim_inl, Sum.elim_inr] at h
   try dsimp only [Sum.elim_inl, Sum.elim_inr]
   refine hK20 _ _ ?_
   clear hK20
   refine awp_rS ftCOk [] [(4, bV false)] ?_
   refine awp_ret ?_
   obtain rfl := Option.some.inj h
   exact finQ [0]
  ·try dsimp only [Sum.elim_inl, Sum.elim_inr] at h
   try dsimp only [Sum.elim_inl, Sum.elim_inr]
   obtain rfl := Option.some.inj h
   exact finQ [0]
theorem k_spec_l10Step (a0_0 : Int) (a0_1 : List (Int × Int × Int)) (a1_0 : Int) (a1_1 : Int) (a1_2 : Int) (a2 : Int) (a3 : Int) (a4 : Int) (a5 : List Int) {r : Int × (List (Int × Int × Int)) × Bool} (h : spec_l10Step a0_0 a0_1 a1_0 a1_1 a1_2 a2 a3 a4 a5 = some r) :
 FnA Tryz.prog 96 [.agg [iV a0_0, .sl 0], .agg [iV a1_0, iV a1_1, iV a1_2], iV a2, iV a3, iV a4, .sl 1] [rT a0_1, rI a5] [] (fun x H => x = .tup [iV r.1, .sl 2, bV r.2.2] ∧ H = [rT a0_1, rI a5, oT r.2.1]) := by
 unfold spec_l10Step at h
 refine FnA.ofA 227 [0, 1] [.tmp 12, .tmp 13, .tmp 14] Tryz.func96 en96 ?_
 refine awp_rM ftCOk [0, 1] [(6, .pp 2 0), (7, .pp 3 0)] [] [.box [iV a0_0, .sl 0], .box [iV a1_0, iV a1_1, iV a1_2]] ?_
 refine awp_freeze 6 (by rfl) (by rfl) (by exact rfl) ?_
 refine awp_freeze 7 (by rfl) (by rfl) (by exact rfl) ?_
 refine awp_rM ftCOk [] [(15, .sl 4)] [] [oT []] ?_
 refine awp_seq fun K81 hK81 => ?_
 refine awp_rS ftCOk [] [(27, iV a1_0)] ?_
 refine awp_block ?_
 refine awp_join h (fun t28 => [(2, iV a2), (3, iV a3), (4, iV a4), (5, .sl 1), (6, .pp 2 0), (7, .pp 3 0), (15, .sl 4), (27, iV a1_0), (28, bV t28)]) (fun t28 => [rT a0_1, rI a5, .rbox [iV a0_0, .sl 0], .rbox [iV a1_0, iV a1_1, iV a1_2], oT []]) ?_ ?_
 ·clear h
  intro k h
  try dsimp only at h
  refine awp_rS ftCOk [] [(28, bV (a1_0 == 1))] ?_
  refine awp_if h ?_ ?_ <;> clear h <;> intro hc h
  ·refine awp_skip ?_
   refine nm ?_
   refine ⟨_, h, ?_⟩
   exact Red.auto
  ·refine awp_rES ftCOk [28] [(28, bV (a1_0 == 2))] ?_
   refine nm ?_
   refine ⟨_, h, ?_⟩
   exact Red.auto
 ·clear h
  rintro t28 h
  try dsimp only at h
  try dsimp only
  refine awp_if h ?_ ?_ <;> clear h <;> intro hc h
  ·refine awp_rS ftCOk [27, 28] [(16, bV ((a2 == 0) && (a3 == a1_1)))] ?_
   refine awp_join h (fun t4 => [(2, iV a2), (3, iV a3), (4, iV t4), (5, .sl 1), (6, .pp 2 0), (7, .pp 3 0), (15, .sl 4), (16, bV ((a2 == 0) && (a3 == a1_1)))]) (fun t4 => [rT a0_1, rI a5, .rbox [iV a0_0, .sl 0], .rbox [iV a1_0, iV a1_1, iV a1_2], oT []]) ?_ ?_
   ·clear h
    intro k_1 h
    try dsimp only at h
    refine awp_rS ftCOk [] [(40, bV (a2 == 0))] ?_
    refine awp_if h ?_ ?_ <;> clear h <;> intro hc h
    ·refine awp_rES ftCOk [4, 40] [(4, iV (-1))] ?_
     refine nm ?_
     refine ⟨_, h, ?_⟩
     exact Red.auto
    ·refine awp_skip ?_
     refine nm ?_
     refine ⟨_, h, ?_⟩
     exact Red.auto
   ·clear h
    rintro t4 h
    try dsimp only at h
    try dsimp only
    refine awp_join h (fun t4_1 => [(2, iV a2), (3, iV a3), (4, iV t4_1), (5, .sl 1), (6, .pp 2 0), (7, .pp 3 0), (15, .sl 4), (16, bV ((a2 == 0) && (a3 == a1_1)))]) (fun t4_1 => [rT a0_1, rI a5, .rbox [iV a0_0, .sl 0], .rbox [iV a1_0, iV a1_1, iV a1_2], oT []]) ?_ ?_
    ·clear h
     intro k_2 h
     try dsimp only at h
     refine awp_rS ftCOk [] [(41, bV ((a2 == 0) && (a3 == a1_1)))] ?_
     refine awp_if h ?_ ?_ <;> clear h <;> intro hc h
     ·refine awp_rES ftCOk [4, 41] [(4, iV 0)] ?_
      refine nm ?_
      refine ⟨_, h, ?_⟩
      exact Red.auto
     ·refine awp_skip ?_
      refine nm ?_
      refine ⟨_, h, ?_⟩
      exact Red.auto
    ·clear h
     rintro t4_1 h
     try dsimp only at h
     try dsimp only
     refine awp_join h (fun (t4_2, t16) => [(3, iV a3), (4, iV t4_2), (6, .pp 2 0), (7, .pp 3 0), (15, .sl 4), (16, bV t16)]) (fun (t4_2, t16) => [rT a0_1, rI a5, .rbox [iV a0_0, .sl 0], .rbox [iV a1_0, iV a1_1, iV a1_2], oT []]) ?_ ?_
     ·clear h
      intro k_3 h
      try dsimp only at h
      refine awp_rS ftCOk [2] [(48, bV ((decide (0 < a2)) && (decide (0 < (a5.length : Int)))))] ?_
      refine awp_if h ?_ ?_ <;> clear h <;> intro hc h
      ·replace ⟨y, hr0, h⟩ := bind_some h
       refine awp_c ftCOk [5, 48] [(17, iV y)] [] [] [⟨1, [1], k_spec_l10Least a5 (h := hr0)⟩] ?_
       clear hr0
       refine awp_rS ftCOk [] [(57, bV ((decide (t4_1 < 0)) || (decide (y < t4_1))))] ?_
       refine awp_if h ?_ ?_ <;> clear h <;> intro hc h
       ·refine awp_rS ftCOk [4, 16, 17, 57] [(4, iV y)] ?_
        refine awp_rES ftCOk [] [(16, bV true)] ?_
        refine nm ?_
        refine ⟨_, h, ?_⟩
        exact Red.auto
       ·refine awp_skip ?_
        refine nm ?_
        refine ⟨_, h, ?_⟩
        exact Red.auto
      ·refine awp_skip ?_
       refine nm ?_
       refine ⟨_, h, ?_⟩
       exact Red.auto
     ·clear h
      rintro ⟨t4_2, t16⟩ h
      try dsimp only at h
      try dsimp only
      replace ⟨y_1, hr0, h⟩ := bind_some h
      refine awp_c ftCOk [] [(18, .sl 5)] [] [oI y_1] [⟨2, [0], k_spec_NextOf a0_0 a0_1 a3 (h := hr0)⟩] ?_
      clear hr0
      refine awp_seq fun K118 hK118 => ?_
      refine awp_rS ftCOk [] [(19, iV 0)] ?_
      refine awp_block ?_
      replace h := bind_some h
      obtain ⟨t15s_1, hx, h⟩ := h
      refine awp_loopL hx (fun (t19, t15s) => [(3, iV a3), (4, iV t4_2), (6, .pp 2 0), (7, .pp 3 0), (15, .sl 4), (16, bV t16), (18, .sl 5), (19, iV t19)]) (fun (t19, t15s) => [rT a0_1, rI a5, .rbox [iV a0_0, .sl 0], .rbox [iV a1_0, iV a1_1, iV a1_2], oT t15s, oI y_1]) (fun _ => Exit.exit 1) (fun t15s_1 => [(4, iV t4_2), (15, .sl 2)]) (fun t15s_1 => [rT a0_1, rI a5, oT t15s_1]) ?_ ?_ ?_ ?_
      ·rintro t15s_1 hy <;> cases hy
      ·clear h hx
       exact Red.auto
      ·clear h hx
       rintro ⟨t19, t15s⟩ r h
       unfold spec_l10Step_b0 at h
       try dsimp only at h
       try dsimp only
       refine awp_seq fun K136 hK136 => ?_
       refine awp_rS ftCOk [] [(68, bV ((decide (t19 < (y_1.length : Int))) && t16))] ?_
       refine awp_if h ?_ ?_ <;> clear h <;> intro hc h
       ·refine awp_skip ?_
        refine hK136 _ _ ?_
        clear hK136
        refine awp_seq fun K140 hK140 => ?_
        refine awp_block ?_
        refine awp_rS ftCOk [68] [(20, iV 1)] ?_
        refine awp_join h (fun t20 => [(3, iV a3), (4, iV t4_2), (6, .pp 2 0), (7, .pp 3 0), (15, .sl 4), (16, bV t16), (18, .sl 5), (19, iV t19), (20, iV t20)]) (fun t20 => [rT a0_1, rI a5, .rbox [iV a0_0, .sl 0], .rbox [iV a1_0, iV a1_1, iV a1_2], oT t15s, oI y_1]) ?_ ?_
        ·clear h
         intro k_4 h
         try dsimp only at h
         refine awp_rS ftCOk [] [(73, bV (a1_0 == 2))] ?_
         refine awp_if h ?_ ?_ <;> clear h <;> intro hc h
         ·replace ⟨hp0, h⟩ := chk_some h
          replace ⟨y_2, hr1, h⟩ := bind_some h
          refine awp_tE [20, 73] [(20, iV y_2)] [] [] ?_ ?_
          ·clear h
           intro K hK
           refine awp_drawT mixed ftCOk (.free 1 (.free 2 (.free 3 (.free 0 (.one 4 (.one 5 (.one 6 (.one 7 .fin)))))))) (by kernel_rfl) (by simp) ?_
           simp (maxSteps := 4000000) only [go_sem]
           repeat' (first | refine And.intro ?_ ?_ | intro hg)
           all_goals (try simp (disch := omega) only [wrap_fits])
           all_goals first
            | exact al0
            | (refine OpK_callA (k_spec_WeightOf a0_0 a0_1 a3 (y_1.getD t19.toNat 0) (h := hr1)) [0] [] ?_
               rintro x Hc' ⟨rfl, rfl⟩ hlen
               exact auV)
            | exact al1
          ·clear hp0 hr1
           refine nm ?_
           refine ⟨_, h, ?_⟩
           exact Red.auto
         ·refine awp_skip ?_
          refine nm ?_
          refine ⟨_, h, ?_⟩
          exact Red.auto
        ·clear h
         rintro t20 h
         try dsimp only at h
         try dsimp only
         replace ⟨hp0, h⟩ := chk_some h
         replace ⟨hp1, h⟩ := chk_some h
         replace ⟨hp2, h⟩ := chk_some h
         refine awp_rEM ftCOk [20] [] [(4, oT (t15s ++ [((y_1.getD t19.toNat 0), (t4_2 + t20), a3)]))] [oT [((y_1.getD t19.toNat 0), (t4_2 + t20), a3)]] ?_
         clear hp0 hp1 hp2
         refine hK140 _ _ ?_
         clear hK140
         replace ⟨hp0, h⟩ := chk_some h
         refine awp_rES ftCOk [19] [(19, iV (t19 + 1))] ?_
         clear hp0
         obtain rfl := Option.some.inj h
         refine LoopQ.next ?_
         exact Red.selA [0, 1, 2, 3, 4, 5] Red.auto
       ·refine awp_exit ?_
        refine nm ?_
        obtain rfl := Option.some.inj h
        refine LoopQ.out rfl ?_
        exact Red.selA [0, 1, 4] Red.auto
      ·clear hx
       skip
       ·try dsimp only [Sum.elim_inl, Sum.elim_inr] at h
        try dsimp only [Sum.elim_inl, Sum.elim_inr]
        refine hK118 _ _ ?_
        clear hK118
        refine awp_rS ftCOk [4, 15] [(12, iV t4_2), (13, .sl 2), (14, bV false)] ?_
        refine awp_ret ?_
        obtain rfl := Option.some.inj h
        exact finQ [0, 1, 2]
  ·refine awp_rS ftCOk [28] [(95, bV (a1_0 == 3))] ?_
   refine awp_if h ?_ ?_ <;> clear h <;> intro hc h
   ·refine awp_seq fun K146 hK146 => ?_
    refine awp_rS ftCOk [2, 7, 27, 95] [(98, bV (a2 == 0))] ?_
    refine awp_if h ?_ ?_ <;> clear h <;> intro hc h
    ·replace ⟨y_3, hr0, h⟩ := bind_some h
     replace ⟨y_4, hr1, h⟩ := bind_some h
     refine awp_c ftCOk [3, 4, 5, 6, 15, 98] [(12, iV a3), (13, .sl 6), (14, bV false)] [] [oI y_3, oT y_4] [⟨3, [0], k_spec_NearOf a0_0 a0_1 a3 (h := hr0)⟩, ⟨2, [5], k_spec_l10Send y_3 a3 a3 (h := hr1)⟩] ?_
     clear hr0 hr1
     refine awp_ret ?_
     obtain rfl := Option.some.inj h
     exact finQ [0, 1, 6]
    ·refine awp_skip ?_
     refine hK146 _ _ ?_
     clear hK146
     refine awp_join h (fun (t4_3, t15s_2) => [(4, iV t4_3), (15, .sl 2)]) (fun (t4_3, t15s_2) => [rT a0_1, rI a5, oT t15s_2]) ?_ ?_
     ·clear h
      intro k_5 h
      try dsimp only at h
      replace ⟨y_5, hr0, h⟩ := bind_some h
      refine awp_t [98] [(114, bV ((decide (0 < (a5.length : Int))) && (decide (y_5 < a4))))] [] [] ?_ ?_
      ·clear h
       intro K hK
       refine awp_region ftCOk ?_
       simp (maxSteps := 4000000) only [go_sem]
       repeat' (first | refine And.intro ?_ ?_ | intro hg)
       all_goals (try simp (disch := omega) only [wrap_fits])
       all_goals first
        | exact al0
        | (refine wpA_guard rfl rfl ?_
           refine wpA_callA (k_spec_l10Least a5 (h := (bite_t hr0 byg))) [1] [] ?_
           rintro x Hc' ⟨rfl, rfl⟩ hlen
           refine vcOps_sound ftCOk ?_
           exact auV)
        | exact al1
      ·clear hr0
       refine awp_if h ?_ ?_ <;> clear h <;> intro hc h
       ·replace ⟨y_6, hr0, h⟩ := bind_some h
        refine awp_c ftCOk [4, 5, 15, 114] [(4, iV y_6)] [] [] [⟨1, [1], k_spec_l10Least a5 (h := hr0)⟩] ?_
        clear hr0
        replace ⟨y_7, hr0, h⟩ := bind_some h
        replace ⟨y_8, hr1, h⟩ := bind_some h
        refine awp_cE ftCOk [3, 6] [(15, .sl 6)] [] [oI y_7, oT y_8] [⟨2, [0], k_spec_NearOf a0_0 a0_1 a3 (h := hr0)⟩, ⟨2, [5], k_spec_l10Send y_7 y_6 a3 (h := hr1)⟩] ?_
        clear hr0 hr1
        refine nm ?_
        refine ⟨_, h, ?_⟩
        exact Red.selA [0, 1, 6] Red.auto
       ·refine awp_skip ?_
        refine nm ?_
        refine ⟨_, h, ?_⟩
        exact Red.selA [0, 1, 4] Red.auto
     ·clear h
      rintro ⟨t4_3, t15s_2⟩ h
      try dsimp only at h
      try dsimp only
      refine awp_rS ftCOk [4, 15] [(12, iV t4_3), (13, .sl 2), (14, bV false)] ?_
      refine awp_ret ?_
      obtain rfl := Option.some.inj h
      exact finQ [0, 1, 2]
   ·refine awp_rS ftCOk [95] [(125, bV (a1_0 == 4))] ?_
    refine awp_if h ?_ ?_ <;> clear h <;> intro hc h
    ·refine awp_join h (fun t4_4 => [(2, iV a2), (3, iV a3), (4, iV t4_4), (6, .pp 2 0), (7, .pp 3 0), (15, .sl 4)]) (fun t4_4 => [rT a0_1, rI a5, .rbox [iV a0_0, .sl 0], .rbox [iV a1_0, iV a1_1, iV a1_2], oT []]) ?_ ?_
     ·clear h
      intro k_6 h
      try dsimp only at h
      refine awp_rS ftCOk [27, 125] [(128, bV (a2 == 0))] ?_
      refine awp_if h ?_ ?_ <;> clear h <;> intro hc h
      ·refine awp_rES ftCOk [4, 5, 128] [(4, iV a3)] ?_
       refine nm ?_
       refine ⟨_, h, ?_⟩
       exact Red.auto
      ·refine awp_rS ftCOk [128] [(132, bV (decide (0 < (a5.length : Int))))] ?_
       refine awp_if h ?_ ?_ <;> clear h <;> intro hc h
       ·replace ⟨y_9, hr0, h⟩ := bind_some h
        refine awp_cE ftCOk [4, 5, 132] [(4, iV y_9)] [] [] [⟨1, [1], k_spec_MostFrequent a5 (h := hr0)⟩] ?_
        clear hr0
        refine nm ?_
        refine ⟨_, h, ?_⟩
        exact Red.auto
       ·refine awp_skip ?_
        refine nm ?_
        refine ⟨_, h, ?_⟩
        exact Red.auto
     ·clear h
      rintro t4_4 h
      try dsimp only at h
      try dsimp only
      refine awp_join h (fun t15s_3 => [(2, iV a2), (4, iV t4_4), (7, .pp 2 0), (15, .sl 3)]) (fun t15s_3 => [rT a0_1, rI a5, .rbox [iV a1_0, iV a1_1, iV a1_2], oT t15s_3]) ?_ ?_
      ·clear h
       intro k_7 h
       try dsimp only at h
       refine awp_rS ftCOk [] [(138, bV (decide (a2 < a1_2)))] ?_
       refine awp_if h ?_ ?_ <;> clear h <;> intro hc h
       ·replace ⟨y_10, hr0, h⟩ := bind_some h
        replace ⟨y_11, hr1, h⟩ := bind_some h
        refine awp_cE ftCOk [3, 6, 15, 138] [(15, .sl 6)] [] [oI y_10, oT y_11] [⟨2, [0], k_spec_NearOf a0_0 a0_1 a3 (h := hr0)⟩, ⟨2, [5], k_spec_l10Send y_10 t4_4 a3 (h := hr1)⟩] ?_
        clear hr0 hr1
        refine nm ?_
        refine ⟨_, h, ?_⟩
        exact Red.selA [0, 1, 3, 6] Red.auto
       ·refine awp_skip ?_
        refine nm ?_
        refine ⟨_, h, ?_⟩
        exact Red.selA [0, 1, 3, 4] Red.auto
      ·clear h
       rintro t15s_3 h
       try dsimp only at h
       try dsimp only
       refine awp_qS mixed ftCOk [2, 4, 7, 15] [(12, iV t4_4), (13, .sl 3), (14, bV (decide (a2 < a1_2)))] ?_
       refine awp_ret ?_
       obtain rfl := Option.some.inj h
       exact finQ [0, 1, 3]
    ·refine awp_rS ftCOk [27, 125] [(151, bV (a1_0 == 6))] ?_
     refine awp_if h ?_ ?_ <;> clear h <;> intro hc h
     ·refine awp_join h (fun t4_5 => [(2, iV a2), (3, iV a3), (4, iV t4_5), (6, .pp 2 0), (7, .pp 3 0), (15, .sl 4)]) (fun t4_5 => [rT a0_1, rI a5, .rbox [iV a0_0, .sl 0], .rbox [iV a1_0, iV a1_1, iV a1_2], oT []]) ?_ ?_
      ·clear h
       intro k_8 h
       try dsimp only at h
       refine awp_rS ftCOk [151] [(154, bV (a2 == 0))] ?_
       refine awp_if h ?_ ?_ <;> clear h <;> intro hc h
       ·replace ⟨y_12, hr0, h⟩ := bind_some h
        refine awp_cE ftCOk [4, 5, 154] [(4, iV (y_12.length : Int))] [] [oI y_12] [⟨2, [0], k_spec_NearOf a0_0 a0_1 a3 (h := hr0)⟩] ?_
        clear hr0
        refine nm ?_
        refine ⟨_, h, ?_⟩
        exact Red.selA [0, 1, 2, 3, 4] Red.auto
       ·replace ⟨y_13, hr0, h⟩ := bind_some h
        refine awp_cE ftCOk [4, 5, 154] [(4, iV (min a4 y_13))] [] [] [⟨2, [1], k_spec_ManyAtLeast a5 (h := hr0)⟩] ?_
        clear hr0
        refine nm ?_
        refine ⟨_, h, ?_⟩
        exact Red.auto
      ·clear h
       rintro t4_5 h
       try dsimp only at h
       try dsimp only
       refine awp_join h (fun t15s_4 => [(2, iV a2), (4, iV t4_5), (7, .pp 2 0), (15, .sl 3)]) (fun t15s_4 => [rT a0_1, rI a5, .rbox [iV a1_0, iV a1_1, iV a1_2], oT t15s_4]) ?_ ?_
       ·clear h
        intro k_9 h
        try dsimp only at h
        refine awp_rS ftCOk [] [(166, bV (decide (a2 < a1_2)))] ?_
        refine awp_if h ?_ ?_ <;> clear h <;> intro hc h
        ·replace ⟨y_14, hr0, h⟩ := bind_some h
         replace ⟨y_15, hr1, h⟩ := bind_some h
         refine awp_cE ftCOk [3, 6, 15, 166] [(15, .sl 6)] [] [oI y_14, oT y_15] [⟨2, [0], k_spec_NearOf a0_0 a0_1 a3 (h := hr0)⟩, ⟨2, [5], k_spec_l10Send y_14 t4_5 a3 (h := hr1)⟩] ?_
         clear hr0 hr1
         refine nm ?_
         refine ⟨_, h, ?_⟩
         exact Red.selA [0, 1, 3, 6] Red.auto
        ·refine awp_skip ?_
         refine nm ?_
         refine ⟨_, h, ?_⟩
         exact Red.selA [0, 1, 3, 4] Red.auto
       ·clear h
        rintro t15s_4 h
        try dsimp only at h
        try dsimp only
        refine awp_qS mixed ftCOk [2, 4, 7, 15] [(12, iV t4_5), (13, .sl 3), (14, bV (decide (a2 < a1_2)))] ?_
        refine awp_ret ?_
        obtain rfl := Option.some.inj h
        exact finQ [0, 1, 3]
     ·refine awp_skip ?_
      refine hK81 _ _ ?_
      clear hK81
      refine awp_seq fun K191 hK191 => ?_
      refine awp_rS ftCOk [2, 4, 7, 151] [(179, iV a2)] ?_
      refine awp_block ?_
      refine awp_rS ftCOk [] [(180, bV (a2 == 0))] ?_
      refine awp_if h ?_ ?_ <;> clear h <;> intro hc h
      ·replace ⟨y_16, hr0, h⟩ := bind_some h
       replace ⟨y_17, hr1, h⟩ := bind_some h
       refine awp_c ftCOk [3, 5, 6, 15, 179, 180] [(12, iV 0), (13, .sl 6), (14, bV false)] [] [oI y_16, oT y_17] [⟨2, [0], k_spec_l10Greater a0_0 a0_1 a3 (h := hr0)⟩, ⟨2, [5], k_spec_l10Send y_16 a3 a3 (h := hr1)⟩] ?_
       clear hr0 hr1
       refine awp_ret ?_
       obtain rfl := Option.some.inj h
       exact finQ [0, 1, 6]
      ·refine awp_rS ftCOk [179, 180] [(188, bV (a2 == 1))] ?_
       refine awp_if h ?_ ?_ <;> clear h <;> intro hc h
       ·refine awp_seq fun K207 hK207 => ?_
        refine awp_rS ftCOk [188] [(21, iV 0)] ?_
        refine awp_block ?_
        replace h := bind_some h
        obtain ⟨t15s_6, hx, h⟩ := h
        refine awp_loopL hx (fun (t21, t15s_5) => [(3, iV a3), (5, .sl 1), (6, .pp 2 0), (15, .sl 3), (21, iV t21)]) (fun (t21, t15s_5) => [rT a0_1, rI a5, .rbox [iV a0_0, .sl 0], oT t15s_5]) (fun _ => Exit.exit 4) (fun t15s_6 => [(15, .sl 2)]) (fun t15s_6 => [rT a0_1, rI a5, oT t15s_6]) ?_ ?_ ?_ ?_
        ·rintro t15s_6 hy <;> cases hy
        ·clear h hx
         exact Red.selA [0, 1, 2, 4] Red.auto
        ·clear h hx
         rintro ⟨t21, t15s_5⟩ r h
         unfold spec_l10Step_b1 at h
         try dsimp only at h
         try dsimp only
         refine awp_seq fun K217 hK217 => ?_
         refine awp_rS ftCOk [] [(193, bV (decide (t21 < (a5.length : Int))))] ?_
         refine awp_if h ?_ ?_ <;> clear h <;> intro hc h
         ·refine awp_skip ?_
          refine hK217 _ _ ?_
          clear hK217
          refine awp_seq fun K219 hK219 => ?_
          refine awp_block ?_
          replace ⟨hp0, h⟩ := chk_some h
          replace ⟨y_18, hr1, h⟩ := bind_some h
          replace ⟨y_19, hr2, h⟩ := bind_some h
          replace ⟨hp3, h⟩ := chk_some h
          refine awp_tE [193] [] [(3, oT (t15s_5 ++ y_19))] [oI y_18, oT y_19] ?_ ?_
          ·clear h
           intro K hK
           refine awp_drawP [0, 1, 2] (by first | rfl | kernel_rfl) (by rfl) mixed ftCOk (.free 0 (.free 2 (.free 4 (.free 5 (.free 6 (.free 8 (.free 1 (.free 7 (.one 3 (.one 9 (.one 10 (.one 11 .fin)))))))))))) (by kernel_rfl) (by simp) ?_
           simp (maxSteps := 4000000) only [go_sem]
           repeat' (first | refine And.intro ?_ ?_ | intro hg)
           all_goals (try simp (disch := omega) only [wrap_fits])
           all_goals first
            | exact al0
            | (refine OpK_callA (k_spec_l10Greater a0_0 a0_1 a3 (h := hr1)) [0] [] ?_
               rintro x Hc' ⟨rfl, rfl⟩ hlen
               simp (maxSteps := 4000000) only [go_sem]
               repeat' (first | refine And.intro ?_ ?_ | intro hg)
               all_goals (try simp (disch := omega) only [wrap_fits])
               all_goals first
                | exact al0
                | (refine OpK_callA (k_spec_l10Send y_18 (a5.getD t21.toNat 0) a3 (h := hr2)) [4] [] ?_
                   rintro x Hc' ⟨rfl, rfl⟩ hlen
                   exact auV)
                | exact al1)
            | exact al1
          ·clear hp0 hr1 hr2 hp3
           refine hK219 _ _ ?_
           clear hK219
           replace ⟨hp0, h⟩ := chk_some h
           refine awp_rES ftCOk [21] [(21, iV (t21 + 1))] ?_
           clear hp0
           obtain rfl := Option.some.inj h
           refine LoopQ.next ?_
           exact Red.selA [0, 1, 2, 3] Red.auto
         ·refine awp_exit ?_
          refine nm ?_
          obtain rfl := Option.some.inj h
          refine LoopQ.out rfl ?_
          exact Red.selA [0, 1, 3] Red.auto
        ·clear hx
         skip
         ·try dsimp only [Sum.elim_inl, Sum.elim_inr] at h
          try dsimp only [Sum.elim_inl, Sum.elim_inr]
          refine hK207 _ _ ?_
          clear hK207
          refine awp_rS ftCOk [15] [(12, iV 0), (13, .sl 2), (14, bV false)] ?_
          refine awp_ret ?_
          obtain rfl := Option.some.inj h
          exact finQ [0, 1, 2]
       ·refine awp_skip ?_
        refine hK191 _ _ ?_
        clear hK191
        refine awp_rS ftCOk [188] [(22, iV 0)] ?_
        replace ⟨y_20, hr0, h⟩ := bind_some h
        refine awp_c ftCOk [3, 6] [(23, .sl 5)] [] [oI y_20] [⟨2, [0], k_spec_NearOf a0_0 a0_1 a3 (h := hr0)⟩] ?_
        clear hr0
        refine awp_seq fun K237 hK237 => ?_
        refine awp_rS ftCOk [] [(24, iV 0)] ?_
        refine awp_block ?_
        replace h := bind_some h
        obtain ⟨t22_1, hx, h⟩ := h
        refine awp_loopL hx (fun (t22, t24) => [(5, .sl 1), (15, .sl 2), (22, iV t22), (23, .sl 3), (24, iV t24)]) (fun (t22, t24) => [rT a0_1, rI a5, oT [], oI y_20]) (fun _ => Exit.exit 6) (fun t22_1 => [(15, .sl 2), (22, iV t22_1)]) (fun t22_1 => [rT a0_1, rI a5, oT []]) ?_ ?_ ?_ ?_
        ·rintro t22_1 hy <;> cases hy
        ·clear h hx
         exact Red.selA [0, 1, 4, 5] Red.auto
        ·clear h hx
         rintro ⟨t22, t24⟩ r h
         unfold spec_l10Step_b2 at h
         try dsimp only at h
         try dsimp only
         refine awp_seq fun K249 hK249 => ?_
         refine awp_rS ftCOk [] [(214, bV (decide (t24 < (a5.length : Int))))] ?_
         refine awp_if h ?_ ?_ <;> clear h <;> intro hc h
         ·refine awp_skip ?_
          refine hK249 _ _ ?_
          clear hK249
          refine awp_join h (fun t22_2 => [(5, .sl 1), (15, .sl 2), (22, iV t22_2), (23, .sl 3), (24, iV t24)]) (fun t22_2 => [rT a0_1, rI a5, oT [], oI y_20]) ?_ ?_
          ·clear h
           intro k_10 h
           try dsimp only at h
           refine awp_block ?_
           replace ⟨hp0, h⟩ := chk_some h
           replace ⟨y_21, hr1, h⟩ := bind_some h
           refine awp_c ftCOk [214] [(222, bV y_21)] [] [] [⟨5, [3], k_spec_l7Has y_20 (a5.getD t24.toNat 0) (h := hr1)⟩] ?_
           clear hp0 hr1
           refine awp_if h ?_ ?_ <;> clear h <;> intro hc h
           ·replace ⟨hp0, h⟩ := chk_some h
            refine awp_rES ftCOk [22, 222] [(22, iV (t22 + 1))] ?_
            clear hp0
            refine nm ?_
            refine ⟨_, h, ?_⟩
            exact Red.auto
           ·refine awp_skip ?_
            refine nm ?_
            refine ⟨_, h, ?_⟩
            exact Red.auto
          ·clear h
           rintro t22_2 h
           try dsimp only at h
           try dsimp only
           replace ⟨hp0, h⟩ := chk_some h
           refine awp_rES ftCOk [24] [(24, iV (t24 + 1))] ?_
           clear hp0
           obtain rfl := Option.some.inj h
           refine LoopQ.next ?_
           exact Red.auto
         ·refine awp_exit ?_
          refine nm ?_
          obtain rfl := Option.some.inj h
          refine LoopQ.out rfl ?_
          exact Red.selA [0, 1, 2] Red.auto
        ·clear hx
         skip
         ·try dsimp only [Sum.elim_inl, Sum.elim_inr] at h
          try dsimp only [Sum.elim_inl, Sum.elim_inr]
          refine hK237 _ _ ?_
          clear hK237
          refine awp_rS ftCOk [15, 22] [(12, iV t22_1), (13, .sl 2), (14, bV false)] ?_
          refine awp_ret ?_
          obtain rfl := Option.some.inj h
          exact finQ [0, 1, 2]
theorem k_spec_l11Some (a0_0 : Int) (a0_1 : List (Int × Int × Int)) (a1_0 : Int) (a1_1 : Int) (a1_2 : Int) (a2_0 : Int) (a2_1 : List Int) (a2_2 : List Bool) (a2_3 : List (Int × Int × Int)) (a3 : List Int) {r : List Int × List Bool × (List (Int × Int × Int))} (h : spec_l11Some a0_0 a0_1 a1_0 a1_1 a1_2 a2_0 a2_1 a2_2 a2_3 a3 = some r) :
 FnA Tryz.prog 76 [.agg [iV a0_0, .sl 0], .agg [iV a1_0, iV a1_1, iV a1_2], .agg [iV a2_0, .sl 1, .sl 2, .sl 3], .sl 4] [rT a0_1, rI a2_1, rB a2_2, rT a2_3, rI a3] [] (fun x H => x = .tup [.sl 5, .sl 6, .sl 7] ∧ H = [rT a0_1, rI a2_1, rB a2_2, rT a2_3, rI a3, oI r.1, oB r.2.1, oT r.2.2]) := by
 unfold spec_l11Some at h
 refine FnA.ofA 84 [0, 1, 2, 3, 4] [.tmp 8, .tmp 9, .tmp 10] Tryz.func76 en76 ?_
 refine awp_rM ftCOk [0, 1, 2] [(4, .pp 5 0), (5, .pp 6 0), (6, .pp 7 0)] [] [.box [iV a0_0, .sl 0], .box [iV a1_0, iV a1_1, iV a1_2], .box [iV a2_0, .sl 1, .sl 2, .sl 3]] ?_
 refine awp_freeze 4 (by rfl) (by rfl) (by exact rfl) ?_
 refine awp_freeze 5 (by rfl) (by rfl) (by exact rfl) ?_
 refine awp_freeze 6 (by rfl) (by rfl) (by exact rfl) ?_
 replace ⟨hp0, h⟩ := chk_some h
 refine awp_rM ftCOk [] [(11, .sl 8)] [] [oI ([] ++ a2_1)] ?_
 clear hp0
 replace ⟨hp0, h⟩ := chk_some h
 refine awp_rM ftCOk [] [(12, .sl 9)] [] [oB ([] ++ a2_2)] ?_
 clear hp0
 refine awp_rM ftCOk [] [(13, .sl 10)] [] [oT []] ?_
 refine awp_seq fun K29 hK29 => ?_
 refine awp_rS ftCOk [] [(14, iV 0)] ?_
 refine awp_block ?_
 replace h := bind_some h
 obtain ⟨x57, hx, h⟩ := h
 refine awp_loopL hx (fun (t14, t11s, t12s, t13s) => [(3, .sl 4), (4, .pp 5 0), (5, .pp 6 0), (6, .pp 7 0), (11, .sl 8), (12, .sl 9), (13, .sl 10), (14, iV t14)]) (fun (t14, t11s, t12s, t13s) => [rT a0_1, rI a2_1, rB a2_2, rT a2_3, rI a3, .rbox [iV a0_0, .sl 0], .rbox [iV a1_0, iV a1_1, iV a1_2], .rbox [iV a2_0, .sl 1, .sl 2, .sl 3], oI t11s, oB t12s, oT t13s]) (fun _ => Exit.exit 0) (fun (t11s_1, t12s_1, t13s_1) => [(11, .sl 5), (12, .sl 6), (13, .sl 7)]) (fun (t11s_1, t12s_1, t13s_1) => [rT a0_1, rI a2_1, rB a2_2, rT a2_3, rI a3, oI t11s_1, oB t12s_1, oT t13s_1]) ?_ ?_ ?_ ?_
 ·rintro ⟨t11s_1, t12s_1, t13s_1⟩ hy <;> cases hy
 ·clear h hx
  exact Red.auto
 ·clear h hx
  rintro ⟨t14, t11s, t12s, t13s⟩ r h
  unfold spec_l11Some_b0 at h
  try dsimp only at h
  try dsimp only
  refine awp_seq fun K49 hK49 => ?_
  refine awp_rS ftCOk [] [(32, bV (decide (t14 < (a3.length : Int))))] ?_
  refine awp_if h ?_ ?_ <;> clear h <;> intro hc h
  ·refine awp_skip ?_
   refine hK49 _ _ ?_
   clear hK49
   refine awp_join h (fun (t11s_2, t12s_2, t13s_2) => [(3, .sl 4), (4, .pp 5 0), (5, .pp 6 0), (6, .pp 7 0), (11, .sl 8), (12, .sl 9), (13, .sl 10), (14, iV t14)]) (fun (t11s_2, t12s_2, t13s_2) => [rT a0_1, rI a2_1, rB a2_2, rT a2_3, rI a3, .rbox [iV a0_0, .sl 0], .rbox [iV a1_0, iV a1_1, iV a1_2], .rbox [iV a2_0, .sl 1, .sl 2, .sl 3], oI t11s_2, oB t12s_2, oT t13s_2]) ?_ ?_
   ·clear h
    intro k h
    try dsimp only at h
    refine awp_block ?_
    replace ⟨hp0, h⟩ := chk_some h
    refine awp_rS ftCOk [32] [(15, iV (a3.getD t14.toNat 0))] ?_
    clear hp0
    replace ⟨y, hr0, h⟩ := bind_some h
    refine awp_c ftCOk [] [(16, .sl 11)] [] [oI y] [⟨3, [3], k_spec_ValuesFor a2_3 (a3.getD t14.toNat 0) (h := hr0)⟩] ?_
    clear hr0
    refine awp_seq fun K55 hK55 => ?_
    replace ⟨hp0, h⟩ := chk_some h
    refine awp_rS ftCOk [] [(53, bV ((!(a2_2.getD ((a3.getD t14.toNat 0).toNat) false)) && ((y.length : Int) == 0)))] ?_
    clear hp0
    refine awp_if h ?_ ?_ <;> clear h <;> intro hc h
    ·refine awp_exit ?_
     refine nm ?_
     refine ⟨_, h, ?_⟩
     exact Red.selA [0, 1, 2, 3, 4, 5, 6, 7, 8, 9, 10] Red.auto
    ·refine awp_skip ?_
     refine hK55 _ _ ?_
     clear hK55
     replace ⟨hp0, h⟩ := chk_some h
     replace ⟨⟨y_1, y_2, y_3⟩, hr1, h⟩ := bind_some h
     try dsimp only at h
     refine awp_t [16, 53] [(17, iV y_1), (18, .sl 12), (19, bV y_3)] [] [oT y_2] ?_ ?_
     ·clear h
      intro K hK
      refine awp_drawT mixed ftCOk (.free 2 (.free 4 (.free 5 (.free 7 (.free 10 (.free 0 (.free 1 (.free 3 (.one 6 (.one 8 (.one 9 (.one 11 (.one 12 (.free 13 (.free 14 (.free 15 (.one 16 (.one 17 (.one 18 .fin))))))))))))))))))) (by kernel_rfl) (by simp) ?_
      simp (maxSteps := 4000000) only [go_sem]
      repeat' (first | refine And.intro ?_ ?_ | intro hg)
      all_goals (try simp (disch := omega) only [wrap_fits])
      all_goals first
       | exact al0
       | (refine OpK_callA (k_spec_l10Step a0_0 a0_1 a1_0 a1_1 a1_2 a2_0 (a3.getD t14.toNat 0) (a2_1.getD ((a3.getD t14.toNat 0).toNat) 0) y (h := hr1)) [0, 11] [] ?_
          rintro x Hc' ⟨rfl, rfl⟩ hlen
          exact auV)
       | exact al1
     ·clear hp0 hr1
      replace ⟨hp0, h⟩ := chk_some h
      refine awp_rM ftCOk [17] [] [(8, oI (t11s.set ((a3.getD t14.toNat 0).toNat) y_1))] [] ?_
      clear hp0
      replace ⟨hp0, h⟩ := chk_some h
      refine awp_rM ftCOk [15, 19] [] [(9, oB (t12s.set ((a3.getD t14.toNat 0).toNat) y_3))] [] ?_
      clear hp0
      replace ⟨hp0, h⟩ := chk_some h
      refine awp_rEM ftCOk [18] [] [(10, oT (t13s ++ y_2))] [] ?_
      clear hp0
      refine nm ?_
      refine ⟨_, h, ?_⟩
      exact Red.selA [0, 1, 2, 3, 4, 5, 6, 7, 8, 9, 10] Red.auto
   ·clear h
    rintro ⟨t11s_2, t12s_2, t13s_2⟩ h
    try dsimp only at h
    try dsimp only
    replace ⟨hp0, h⟩ := chk_some h
    refine awp_rES ftCOk [14] [(14, iV (t14 + 1))] ?_
    clear hp0
    obtain rfl := Option.some.inj h
    refine LoopQ.next ?_
    exact Red.auto
  ·refine awp_exit ?_
   refine nm ?_
   obtain rfl := Option.some.inj h
   refine LoopQ.out rfl ?_
   exact Red.selA [0, 1, 2, 3, 4, 8, 9, 10] Red.auto
 ·clear hx
  rcases x57 with ⟨t11s_1, t12s_1, t13s_1⟩
  ·try dsimp only [Sum.elim_inl, Sum.elim_inr] at h
   try dsimp only [Sum.elim_inl, Sum.elim_inr]
   refine hK29 _ _ ?_
   clear hK29
   refine awp_rS ftCOk [11, 12, 13] [(8, .sl 5), (9, .sl 6), (10, .sl 7)] ?_
   refine awp_ret ?_
   obtain rfl := Option.some.inj h
   exact finQ [0, 1, 2, 3, 4, 5, 6, 7]
theorem k_spec_SortMessages (a0 : List (Int × Int × Int)) {r : (List (Int × Int × Int))} (h : spec_SortMessages a0 = some r) :
 FnA Tryz.prog 51 [.sl 0] [rT a0] [] (fun x H => x = .sl 1 ∧ H = [rT a0, oT r]) := by
 unfold spec_SortMessages at h
 refine FnA.ofA 54 [0] [.tmp 2] Tryz.func51 en51 ?_
 refine awp_rS ftCOk [] [] ?_
 refine awp_rM ftCOk [] [(3, .sl 1)] [] [oT []] ?_
 refine awp_seq fun K140 hK140 => ?_
 refine awp_rS ftCOk [] [(4, iV 0)] ?_
 refine awp_block ?_
 replace h := bind_some h
 obtain ⟨t3s_1, hx, h⟩ := h
 refine awp_loopL hx (fun (t4, t3s) => [(0, .sl 0), (3, .sl 1), (4, iV t4)]) (fun (t4, t3s) => [rT a0, oT t3s]) (fun _ => Exit.exit 0) (fun t3s_1 => [(3, .sl 1)]) (fun t3s_1 => [rT a0, oT t3s_1]) ?_ ?_ ?_ ?_
 ·rintro t3s_1 hy <;> cases hy
 ·clear h hx
  exact Red.auto
 ·clear h hx
  rintro ⟨t4, t3s⟩ r h
  unfold spec_SortMessages_b1 at h
  try dsimp only at h
  try dsimp only
  refine awp_seq fun K234 hK234 => ?_
  refine awp_rS ftCOk [] [(16, bV ((decide (t4 < (a0.length : Int))) && (decide ((a0.length : Int) ≤ 2000))))] ?_
  refine awp_if h ?_ ?_ <;> clear h <;> intro hc h
  ·refine awp_skip ?_
   refine hK234 _ _ ?_
   clear hK234
   refine awp_seq fun K257 hK257 => ?_
   refine awp_block ?_
   refine awp_rS ftCOk [16] [(5, iV (t3s.length : Int))] ?_
   refine awp_seq fun K268 hK268 => ?_
   refine awp_block ?_
   replace h := bind_some h
   obtain ⟨t5_1, hx, h⟩ := h
   refine awp_loopL hx (fun t5 => [(0, .sl 0), (3, .sl 1), (4, iV t4), (5, iV t5)]) (fun t5 => [rT a0, oT t3s]) (fun _ => Exit.exit 2) (fun t5_1 => [(0, .sl 0), (3, .sl 1), (4, iV t4), (5, iV t5_1)]) (fun t5_1 => [rT a0, oT t3s]) ?_ ?_ ?_ ?_
   ·rintro t5_1 hy <;> cases hy
   ·clear h hx
    exact Red.auto
   ·clear h hx
    rintro t5 r h
    unfold spec_SortMessages_b0 at h
    try dsimp only at h
    try dsimp only
    refine awp_seq fun K276 hK276 => ?_
    replace ⟨hp0, h⟩ := chk_some h
    replace ⟨hp1, h⟩ := chk_some h
    have hwhp1 := wrap_fits hp1.1 hp1.2
    replace ⟨hp2, h⟩ := chk_some h
    replace ⟨y, hr3, h⟩ := bind_some h
    refine awp_t [] [(34, bV ((decide (0 < t5)) && y))] [] [] ?_ ?_
    ·clear h
     intro K hK
     refine awp_drawT mixed ftCOk (.one 0 (.one 1 (.one 2 (.free 3 (.free 4 (.free 5 (.free 7 (.free 8 (.free 9 (.free 6 (.one 10 (.one 11 (.one 12 (.one 13 .fin)))))))))))))) (by kernel_rfl) (by simp) ?_
     simp (maxSteps := 4000000) only [go_sem]
     repeat' (first | refine And.intro ?_ ?_ | intro hg)
     all_goals (try simp (disch := omega) only [wrap_fits])
     all_goals first
      | exact al0
      | (have hq := hp0 byg; omega)
      | (have hq := hp2 byg; omega)
      | (refine OpK_callA (k_spec_l9Before ((a0.getD t4.toNat (0, 0, 0)).1) ((a0.getD t4.toNat (0, 0, 0)).2.1) ((a0.getD t4.toNat (0, 0, 0)).2.2) ((t3s.getD ((t5 - 1).toNat) (0, 0, 0)).1) ((t3s.getD ((t5 - 1).toNat) (0, 0, 0)).2.1) ((t3s.getD ((t5 - 1).toNat) (0, 0, 0)).2.2) (h := (bite_t hr3 byg))) [] [] ?_
         rintro x Hc' ⟨rfl, rfl⟩ hlen
         simp (maxSteps := 4000000) only [go_sem]
         repeat' (first | refine And.intro ?_ ?_ | intro hg)
         all_goals (try simp (disch := omega) only [wrap_fits])
         all_goals first
          | exact al0
          | (have hq := hp0 byg; omega)
          | (have hq := hp2 byg; omega)
          | (simp (maxSteps := 4000000) only [go_sem]
             repeat' (first | refine And.intro ?_ ?_ | intro hg)
             all_goals (try simp (disch := omega) only [wrap_fits])
             all_goals first | exact al0 | (have hq := hp0 byg; omega) | (have hq := hp2 byg; omega))
          | exact al1)
      | exact al1
    ·clear hp0 hp1 hp2 hr3
     refine awp_if h ?_ ?_ <;> clear h <;> intro hc h
     ·refine awp_skip ?_
      refine hK276 _ _ ?_
      clear hK276
      refine awp_block ?_
      replace ⟨hp0, h⟩ := chk_some h
      have hwhp0 := wrap_fits hp0.1 hp0.2
      refine awp_rES ftCOk [5, 34] [(5, iV (t5 - 1))] ?_
      clear hp0
      refine nm ?_
      obtain rfl := Option.some.inj h
      refine LoopQ.next ?_
      exact Red.auto
     ·refine awp_exit ?_
      refine nm ?_
      obtain rfl := Option.some.inj h
      refine LoopQ.out rfl ?_
      exact Red.auto
   ·clear hx
    skip
    ·try dsimp only [Sum.elim_inl, Sum.elim_inr] at h
     try dsimp only [Sum.elim_inl, Sum.elim_inr]
     refine hK268 _ _ ?_
     clear hK268
     replace ⟨hp0, h⟩ := chk_some h
     replace ⟨hp1, h⟩ := chk_some h
     refine awp_rM ftCOk [] [(6, .sl 2)] [] [oT ([] ++ ((t3s.take t3s.length).drop t5_1.toNat)), .view 1 (.trips ((t3s.take t3s.length).drop t5_1.toNat))] ?_
     clear hp0 hp1
     replace ⟨hp0, h⟩ := chk_some h
     replace ⟨hp1, h⟩ := chk_some h
     replace ⟨hp2, h⟩ := chk_some h
     replace ⟨hp3, h⟩ := chk_some h
     refine awp_tE [3, 5, 6] [(3, .sl 4)] [(1, .dead), (1, .dead)] [oT ((((t3s.take t5_1.toNat).drop 0) ++ [((a0.getD t4.toNat (0, 0, 0)).1, (a0.getD t4.toNat (0, 0, 0)).2.1, (a0.getD t4.toNat (0, 0, 0)).2.2)]) ++ ([] ++ ((t3s.take t3s.length).drop t5_1.toNat))), oT [((a0.getD t4.toNat (0, 0, 0)).1, (a0.getD t4.toNat (0, 0, 0)).2.1, (a0.getD t4.toNat (0, 0, 0)).2.2)]] ?_ ?_
     ·clear h
      intro K hK
      refine awp_drawM [0, 1, 2, 3] [0, 1, 3, 4, 5, 9, 6] 5 #[true, true, false, true, true, true, true, false, false, true, false, false] mixed ftCOk (by kernel_rfl) (by first | rfl | kernel_rfl) (by rfl) (by simp) fun L hL hN => ?_
      refine hN.node L 0 #[true, true, true, true, true, true, true, true, true, true, true, true] 4 [3] [(3, .sl 4), (42, .sl 1), (43, iV t5_1), (45, .sl 0), (46, iV t4), (47, .ep 0 t4.toNat 3 0), (48, .agg [iV ((a0.getD t4.toNat (0, 0, 0)).1), iV ((a0.getD t4.toNat (0, 0, 0)).2.1), iV ((a0.getD t4.toNat (0, 0, 0)).2.2)]), (49, .sl 5), (51, .sl 2), (52, .sl 4)] [(1, .dead), (1, .dead)] [oT ((((t3s.take t5_1.toNat).drop 0) ++ [((a0.getD t4.toNat (0, 0, 0)).1, (a0.getD t4.toNat (0, 0, 0)).2.1, (a0.getD t4.toNat (0, 0, 0)).2.2)]) ++ ([] ++ ((t3s.take t3s.length).drop t5_1.toNat))), oT [((a0.getD t4.toNat (0, 0, 0)).1, (a0.getD t4.toNat (0, 0, 0)).2.1, (a0.getD t4.toNat (0, 0, 0)).2.2)]] ?_ fun n4 hN => ?_
      ·exact hL.fin (by kernel_rfl) (hK _ _ Red.auto)
      refine hN.node L 2 #[true, true, true, true, true, true, true, true, true, true, false, false] 6 [3, 52] [(3, .sl 1), (50, .sl 4)] [(4, oT (((t3s.take t5_1.toNat).drop 0) ++ [((a0.getD t4.toNat (0, 0, 0)).1, (a0.getD t4.toNat (0, 0, 0)).2.1, (a0.getD t4.toNat (0, 0, 0)).2.2)]))] [] ?_ fun n3 hN => ?_
      ·refine hL.step [(10, [11], 0, #[true, true, true, true, true, true, true, true, true, true, true, true])] (by kernel_rfl) ⟨?_, trivial⟩
       ·exact hL.edge n4
      refine hN.node L 3 #[true, true, true, true, true, true, true, true, false, true, false, false] 6 [50] [(44, .sl 4)] [(1, oT t3s), (1, .view 1 (.trips ((t3s.take t3s.length).drop t5_1.toNat))), (0, .view 1 (.trips ((t3s.take t5_1.toNat).drop 0)))] [] ?_ fun n2 hN => ?_
      ·refine hL.step [(8, [], 2, #[true, true, true, true, true, true, true, true, true, true, false, false])] (by kernel_rfl) ⟨?_, trivial⟩
       ·exact hL.edge n3
      refine hN.node L 4 #[true, true, true, true, true, true, true, false, false, true, false, false] 5 [49] [] [] [] ?_ fun n1 hN => ?_
      ·refine hL.step [(7, [], 3, #[true, true, true, true, true, true, true, true, false, true, false, false])] (by kernel_rfl) ⟨?_, trivial⟩
       ·exact hL.edge n2
      refine hN.node L 4 #[true, true, false, true, true, true, true, true, false, true, false, false] 5 [44] [(49, .sl 4)] [(4, oT [((a0.getD t4.toNat (0, 0, 0)).1, (a0.getD t4.toNat (0, 0, 0)).2.1, (a0.getD t4.toNat (0, 0, 0)).2.2)])] [] ?_ fun n5 hN => ?_
      ·refine hL.step [(2, [], 3, #[true, true, true, true, true, true, true, true, false, true, false, false])] (by kernel_rfl) ⟨?_, trivial⟩
       ·exact hL.edgeS [0, 1, 2, 3, 5, 4] n2
      refine hN.node L 5 #[true, true, false, true, true, true, true, false, false, true, false, false] 4 [49] [] [] [] ?_ fun n0 hN => ?_
      ·refine hL.step [(2, [], 4, #[true, true, true, true, true, true, true, false, false, true, false, false]), (7, [], 4, #[true, true, false, true, true, true, true, true, false, true, false, false])] (by kernel_rfl) ⟨?_, ?_, trivial⟩
       ·exact hL.edge n1
       ·exact hL.edge n5
      have nn := n0
      exact au14
     ·clear hp0 hp1 hp2 hp3
      refine hK257 _ _ ?_
      clear hK257
      replace ⟨hp0, h⟩ := chk_some h
      refine awp_rES ftCOk [4] [(4, iV (t4 + 1))] ?_
      clear hp0
      obtain rfl := Option.some.inj h
      refine LoopQ.next ?_
      exact Red.selA [0, 4] Red.auto
  ·refine awp_exit ?_
   refine nm ?_
   obtain rfl := Option.some.inj h
   refine LoopQ.out rfl ?_
   exact Red.auto
 ·clear hx
  skip
  ·try dsimp only [Sum.elim_inl, Sum.elim_inr] at h
   try dsimp only [Sum.elim_inl, Sum.elim_inr]
   refine hK140 _ _ ?_
   clear hK140
   refine awp_rS ftCOk [3] [(2, .sl 1)] ?_
   refine awp_ret ?_
   obtain rfl := Option.some.inj h
   exact finQ [0, 1]
theorem k_spec_StepState (a0_0 : Int) (a0_1 : List (Int × Int × Int)) (a1_0 : Int) (a1_1 : Int) (a1_2 : Int) (a2_0 : Int) (a2_1 : List Int) (a2_2 : List Bool) (a2_3 : List (Int × Int × Int)) {r : Int × List Int × List Bool × (List (Int × Int × Int)) × Bool} (h : spec_StepState a0_0 a0_1 a1_0 a1_1 a1_2 a2_0 a2_1 a2_2 a2_3 = some r) :
 FnA Tryz.prog 50 [.agg [iV a0_0, .sl 0], .agg [iV a1_0, iV a1_1, iV a1_2], .agg [iV a2_0, .sl 1, .sl 2, .sl 3]] [rT a0_1, rI a2_1, rB a2_2, rT a2_3] [] (fun x H => x = .tup [.agg [iV r.1, .sl 4, .sl 5, .sl 6], bV r.2.2.2.2] ∧ H = [rT a0_1, rI a2_1, rB a2_2, rT a2_3, oI r.2.1, oB r.2.2.1, oT r.2.2.2.1]) := by
 unfold spec_StepState at h
 refine FnA.ofA 63 [0, 1, 2, 3] [.cell 6 27, .tmp 7] Tryz.func50 en50 ?_
 refine awp_rM ftCOk [0, 1, 2] [(3, .pp 4 0), (4, .pp 5 0), (5, .pp 6 0), (6, .pp 7 0)] [] [.box [iV a0_0, .sl 0], .box [iV a1_0, iV a1_1, iV a1_2], .box [iV a2_0, .sl 1, .sl 2, .sl 3], .box [iV 0, nV, nV, nV]] ?_
 refine awp_freeze 4 (by rfl) (by rfl) (by exact rfl) ?_
 replace ⟨⟨y, y_1⟩, hr0, h⟩ := bind_some h
 try dsimp only at h
 refine awp_c ftCOk [] [] [(4, .box [iV y, .sl 8])] [oT y_1] [⟨1, [0], k_spec_l1OwnGraph a0_0 a0_1 (h := hr0)⟩] ?_
 clear hr0
 replace ⟨⟨y_2, y_3, y_4, y_5⟩, hr0, h⟩ := bind_some h
 try dsimp only at h
 refine awp_c ftCOk [] [] [(6, .box [iV y_2, .sl 9, .sl 10, .sl 11])] [oI y_3, oB y_4, oT y_5] [⟨1, [1, 2, 3], k_spec_l1OwnState a2_0 a2_1 a2_2 a2_3 (h := hr0)⟩] ?_
 clear hr0
 refine awp_seq fun K2 hK2 => ?_
 replace ⟨y_6, hr0, h⟩ := bind_some h
 replace ⟨y_7, hr1, h⟩ := bind_some h
 replace ⟨y_8, hr2, h⟩ := bind_some h
 refine awp_t [] [(30, bV (((!y_6) || (!y_7)) || (!y_8)))] [] [] ?_ ?_
 ·clear h
  intro K hK
  refine awp_regionA ?_
  refine wpA_cutAt 8 [(3, .pp 4 0), (4, .pp 5 0), (5, .pp 6 0), (6, .pp 7 0), (23, bV ((!y_6) || (!y_7)))] [rT a0_1, rI a2_1, rB a2_2, rT a2_3, .box [iV y, .sl 8], .rbox [iV a1_0, iV a1_1, iV a1_2], .box [iV y_2, .sl 9, .sl 10, .sl 11], .box [iV 0, nV, nV, nV], oT y_1, oI y_3, oB y_4, oT y_5] ?_ ?_
  ·clear hK K
   intro K hK
   refine vcOps_sound ftCOk ?_
   simp (maxSteps := 4000000) only [go_sem]
   repeat' (first | refine And.intro ?_ ?_ | intro hg)
   all_goals (try simp (disch := omega) only [wrap_fits])
   all_goals first
    | exact al0
    | (refine wpA_callA (k_spec_GraphValid y y_1 (h := hr0)) [8] [] ?_
       rintro x Hc' ⟨rfl, rfl⟩ hlen
       refine vcOps_sound ftCOk ?_
       simp (maxSteps := 4000000) only [go_sem]
       repeat' (first | refine And.intro ?_ ?_ | intro hg)
       all_goals (try simp (disch := omega) only [wrap_fits])
       all_goals first
        | exact al0
        | (refine wpA_guard rfl rfl ?_
           refine wpA_callA (k_spec_ProgramValid a1_0 a1_1 a1_2 (h := (bite_t hr1 bygn))) [] [] ?_
           rintro x Hc' ⟨rfl, rfl⟩ hlen
           refine vcOps_sound ftCOk ?_
           exact auV)
        | exact al1)
    | exact al1
  refine vcOps_sound ftCOk ?_
  simp (maxSteps := 4000000) only [go_sem]
  repeat' (first | refine And.intro ?_ ?_ | intro hg)
  all_goals (try simp (disch := omega) only [wrap_fits])
  all_goals first
   | exact al0
   | (refine wpA_guard rfl rfl ?_
      refine wpA_callA (k_spec_StateValid y_2 y_3 y_4 y_5 y (h := (bite_t hr2 bygn))) [9, 10, 11] [] ?_
      rintro x Hc' ⟨rfl, rfl⟩ hlen
      refine vcOps_sound ftCOk ?_
      exact auV)
   | exact al1
 ·clear hr0 hr1 hr2
  refine awp_if h ?_ ?_ <;> clear h <;> intro hc h
  ·refine awp_rS ftCOk [3, 4, 5, 30] [(7, bV false)] ?_
   refine awp_red (Red.nilCell (o := 7) (i := 1) (.ints .i64 []) rfl rfl rfl) ?_
   refine awp_red (Red.nilCell (o := 7) (i := 2) (.bools []) rfl rfl rfl) ?_
   refine awp_red (Red.nilCell (o := 7) (i := 3) (.trips []) rfl rfl rfl) ?_
   refine awp_ret ?_
   obtain rfl := Option.some.inj h
   exact finQ [0, 1, 2, 3, 12, 13, 14]
  ·refine awp_skip ?_
   refine hK2 _ _ ?_
   clear hK2
   refine awp_freeze 3 (by rfl) (by rfl) (by first | exact rfl | (simp only [List.map_cons, List.map_nil, List.set_cons_succ, List.set_cons_zero, AObj.unview, reduceCtorEq, ↓reduceIte, Nat.reduceEqDiff]; exact rfl)) ?_
   refine awp_freeze 5 (by rfl) (by rfl) (by first | exact rfl | (simp only [List.map_cons, List.map_nil, List.set_cons_succ, List.set_cons_zero, AObj.unview, reduceCtorEq, ↓reduceIte, Nat.reduceEqDiff]; exact rfl)) ?_
   replace ⟨y_9, hr0, h⟩ := bind_some h
   replace ⟨⟨y_10, y_11, y_12⟩, hr1, h⟩ := bind_some h
   try dsimp only at h
   refine awp_t [4, 30] [(8, .sl 13), (9, .sl 14), (10, .sl 15)] [] [oI y_9, oI y_10, oB y_11, oT y_12] ?_ ?_
   ·clear h
    intro K hK
    refine awp_drawT mixed ftCOk (.free 3 (.free 0 (.free 1 (.free 2 (.one 4 (.one 5 (.one 6 (.one 7 (.free 8 (.free 9 (.free 10 (.one 11 (.one 12 (.one 13 .fin)))))))))))))) (by kernel_rfl) (by simp) ?_
    simp (maxSteps := 4000000) only [go_sem]
    repeat' (first | refine And.intro ?_ ?_ | intro hg)
    all_goals (try simp (disch := omega) only [wrap_fits])
    all_goals first
     | exact al0
     | (refine OpK_callA (k_spec_l11All y (h := hr0)) [] [] ?_
        rintro x Hc' ⟨rfl, rfl⟩ hlen
        simp (maxSteps := 4000000) only [go_sem]
        repeat' (first | refine And.intro ?_ ?_ | intro hg)
        all_goals (try simp (disch := omega) only [wrap_fits])
        all_goals first
         | exact al0
         | (refine OpK_callA (k_spec_l11Some y y_1 a1_0 a1_1 a1_2 y_2 y_3 y_4 y_5 y_9 (h := hr1)) [8, 9, 10, 11, 12] [] ?_
            rintro x Hc' ⟨rfl, rfl⟩ hlen
            exact auV)
         | exact al1)
     | exact al1
   ·clear hr0 hr1
    replace ⟨hp0, h⟩ := chk_some h
    replace ⟨y_13, hr1, h⟩ := bind_some h
    refine awp_t [5, 8, 9] [(11, .pp 17 0)] [] [oT y_13, .box [iV (y_2 + 1), .sl 13, .sl 14, .sl 16]] ?_ ?_
    ·clear h
     intro K hK
     refine awp_drawM [0, 1, 2, 3, 4, 5, 6, 7, 8, 9, 10, 11, 12, 13, 14, 15] [0, 3, 4, 5, 1, 2] 4 #[true, true, true, true, true, true, false, false, false, false] mixed ftCOk (by kernel_rfl) (by first | rfl | kernel_rfl) (by rfl) (by simp) fun L hL hN => ?_
     refine hN.node L 0 #[true, true, true, true, true, true, true, true, true, true] 16 [] [(11, .pp 17 0), (43, .pp 6 0), (44, iV y_2), (45, iV (y_2 + 1)), (46, .sl 13), (47, .sl 14), (48, .sl 15), (49, .sl 16), (50, .agg [iV (y_2 + 1), .sl 13, .sl 14, .sl 16])] [] [oT y_13, .box [iV (y_2 + 1), .sl 13, .sl 14, .sl 16]] ?_ fun n3 hN => ?_
     ·exact hL.fin (by kernel_rfl) (hK _ _ Red.auto)
     refine hN.node L 1 #[true, true, true, true, true, true, true, true, true, false] 18 [] [] [(17, .box [iV 0, nV, nV, nV])] [] ?_ fun n2 hN => ?_
     ·refine hL.step [(9, [], 0, #[true, true, true, true, true, true, true, true, true, true])] (by kernel_rfl) ⟨?_, trivial⟩
      ·exact hL.edge n3
     refine hN.node L 2 #[true, true, true, true, true, true, true, true, false, false] 17 [11] [] [] [] ?_ fun n1 hN => ?_
     ·refine hL.step [(8, [], 1, #[true, true, true, true, true, true, true, true, true, false])] (by kernel_rfl) ⟨?_, trivial⟩
      ·exact hL.edge n2
     refine hN.node L 3 #[true, true, true, true, true, true, false, false, true, false] 17 [49, 50] [(11, .pp 16 0)] [(16, .box [iV 0, nV, nV, nV])] [] ?_ fun n4 hN => ?_
     ·refine hL.step [(6, [7], 1, #[true, true, true, true, true, true, true, true, true, false])] (by kernel_rfl) ⟨?_, trivial⟩
      ·have nn := n2
       simp (maxSteps := 4000000) only [go_sem]
       repeat' (first | refine And.intro ?_ ?_ | intro hg)
       all_goals (try simp (disch := omega) only [wrap_fits])
       all_goals first
        | (refine hL.red ?_ nn; exact Red.selA [0, 1, 2, 3, 4, 5, 6, 7, 8, 9, 10, 11, 12, 13, 14, 15, 17, 16] Red.auto)
        | exact al0
        | (refine OpK_callA (k_spec_SortMessages y_12 (h := hr1)) [15] [] ?_
           rintro x Hc' ⟨rfl, rfl⟩ hlen
           simp (maxSteps := 4000000) only [go_sem]
           repeat' (first | refine And.intro ?_ ?_ | intro hg)
           all_goals (try simp (disch := omega) only [wrap_fits])
           all_goals first | (refine hL.red ?_ nn; exact Red.selA [0, 1, 2, 3, 4, 5, 6, 7, 8, 9, 10, 11, 12, 13, 14, 15, 17, 16] Red.auto) | exact al0 | exact al1)
        | (simp (maxSteps := 4000000) only [go_sem]
           repeat' (first | refine And.intro ?_ ?_ | intro hg)
           all_goals (try simp (disch := omega) only [wrap_fits])
           all_goals first | (refine hL.red ?_ nn; exact Red.selA [0, 1, 2, 3, 4, 5, 6, 7, 8, 9, 10, 11, 12, 13, 14, 15, 17, 16] Red.auto) | exact al0)
        | exact al1
     refine hN.node L 4 #[true, true, true, true, true, true, false, false, false, false] 16 [11] [] [] [] ?_ fun n0 hN => ?_
     ·refine hL.step [(6, [7], 2, #[true, true, true, true, true, true, true, true, false, false]), (8, [], 3, #[true, true, true, true, true, true, false, false, true, false])] (by kernel_rfl) ⟨?_, ?_, trivial⟩
      ·have nn := n1
       simp (maxSteps := 4000000) only [go_sem]
       repeat' (first | refine And.intro ?_ ?_ | intro hg)
       all_goals (try simp (disch := omega) only [wrap_fits])
       all_goals first
        | (refine hL.red ?_ nn; exact Red.auto)
        | exact al0
        | (refine OpK_callA (k_spec_SortMessages y_12 (h := hr1)) [15] [] ?_
           rintro x Hc' ⟨rfl, rfl⟩ hlen
           exact au4)
        | (exact au3)
        | exact al1
      ·exact hL.edge n4
     have nn := n0
     exact au14
    ·clear hp0 hr1
     refine awp_seq fun K5 hK5 => ?_
     replace ⟨y_14, hr0, h⟩ := bind_some h
     refine awp_t [3, 10] [(60, bV ((decide (2000 < (y_12.length : Int))) || (!y_14)))] [] [] ?_ ?_
     ·clear h
      intro K hK
      refine awp_region ftCOk ?_
      simp (maxSteps := 4000000) only [go_sem]
      repeat' (first | refine And.intro ?_ ?_ | intro hg)
      all_goals (try simp (disch := omega) only [wrap_fits])
      all_goals first
       | exact al0
       | (refine wpA_guard rfl rfl ?_
          refine wpA_callA (k_spec_StateValid (y_2 + 1) y_10 y_11 y_13 y (h := (bite_t hr0 bygn))) [13, 14, 16] [] ?_
          rintro x Hc' ⟨rfl, rfl⟩ hlen
          refine vcOps_sound ftCOk ?_
          exact auV)
       | exact al1
     ·clear hr0
      refine awp_if h ?_ ?_ <;> clear h <;> intro hc h
      ·refine awp_rS ftCOk [11, 60] [(7, bV false)] ?_
       refine awp_red (Red.nilCell (o := 7) (i := 1) (.ints .i64 []) rfl rfl rfl) ?_
       refine awp_red (Red.nilCell (o := 7) (i := 2) (.bools []) rfl rfl rfl) ?_
       refine awp_red (Red.nilCell (o := 7) (i := 3) (.trips []) rfl rfl rfl) ?_
       refine awp_ret ?_
       obtain rfl := Option.some.inj h
       exact finQ [0, 1, 2, 3, 18, 19, 20]
      ·refine awp_skip ?_
       refine hK5 _ _ ?_
       clear hK5
       refine awp_rM ftCOk [11, 60] [(7, bV true)] [(7, .box [iV (y_2 + 1), .sl 13, .sl 14, .sl 16])] [] ?_
       refine awp_ret ?_
       obtain rfl := Option.some.inj h
       exact finQ [0, 1, 2, 3, 13, 14, 16]
theorem k_spec_l20Messages (a0_0 : List Int) (a0_1 : Int) (a1 : Int) {r : (List (Int × Int × Int)) × Int} (h : spec_l20Messages a0_0 a0_1 a1 = some r) :
 FnA Tryz.prog 52 [.pp 0 0, iV a1] [.box [.sl 1, iV a0_1], rY a0_0] [] (fun x H => x = .sl 2 ∧ H = [.box [.sl 1, iV r.2], rY a0_0, oT r.1]) := by
 unfold spec_l20Messages at h
 refine FnA.ofA 31 [0, 1] [.tmp 4] Tryz.func52 en52 ?_
 refine awp_rS ftCOk [] [] ?_
 refine awp_rM ftCOk [] [(5, .sl 2)] [] [oT []] ?_
 refine awp_seq fun K14 hK14 => ?_
 replace ⟨⟨y, y_1⟩, hr0, h⟩ := bind_some h
 try dsimp only at h
 refine awp_c ftCOk [] [(6, iV y)] [(0, .box [.sl 1, iV y_1])] [] [⟨1, [0, 1], k_spec_l20Rd_pick a0_0 a0_1 9 (h := hr0)⟩] ?_
 clear hr0
 refine awp_block ?_
 replace h := bind_some h
 obtain ⟨x27, hx, h⟩ := h
 refine awp_loopL hx (fun (t6, p0_1, t5s) => [(0, .pp 0 0), (1, iV a1), (5, .sl 2), (6, iV t6)]) (fun (t6, p0_1, t5s) => [.box [.sl 1, iV p0_1], rY a0_0, oT t5s]) (fun _ => Exit.exit 0) (fun (p0_1_1, t5s_1) => [(5, .sl 2)]) (fun (p0_1_1, t5s_1) => [.box [.sl 1, iV p0_1_1], rY a0_0, oT t5s_1]) ?_ ?_ ?_ ?_
 ·rintro ⟨p0_1_1, t5s_1⟩ hy <;> cases hy
 ·clear h hx
  exact Red.auto
 ·clear h hx
  rintro ⟨t6, p0_1, t5s⟩ r h
  unfold spec_l20Messages_b0 at h
  try dsimp only at h
  try dsimp only
  refine awp_seq fun K24 hK24 => ?_
  refine awp_rS ftCOk [] [(15, bV ((decide (0 < t6)) && (decide (0 < a1))))] ?_
  refine awp_if h ?_ ?_ <;> clear h <;> intro hc h
  ·refine awp_skip ?_
   refine hK24 _ _ ?_
   clear hK24
   refine awp_seq fun K26 hK26 => ?_
   refine awp_block ?_
   replace ⟨⟨y_2, y_3⟩, hr0, h⟩ := bind_some h
   try dsimp only at h
   replace ⟨⟨y_4, y_5⟩, hr1, h⟩ := bind_some h
   try dsimp only at h
   replace ⟨⟨y_6, y_7⟩, hr2, h⟩ := bind_some h
   try dsimp only at h
   replace ⟨hp3, h⟩ := chk_some h
   refine awp_cE ftCOk [15] [] [(0, .box [.sl 1, iV y_7]), (1, oT (t5s ++ [(y_2, y_4, y_6)]))] [oT [(y_2, y_4, y_6)]] [⟨3, [0, 1], k_spec_l20Rd_pick a0_0 p0_1 a1 (h := hr0)⟩, ⟨1, [0, 1], k_spec_l20Rd_pick a0_0 y_3 9 (h := hr1)⟩, ⟨2, [0, 1], k_spec_l20Rd_pick a0_0 y_5 a1 (h := hr2)⟩] ?_
   clear hr0 hr1 hr2 hp3
   refine hK26 _ _ ?_
   clear hK26
   replace ⟨hp0, h⟩ := chk_some h
   have hwhp0 := wrap_fits hp0.1 hp0.2
   refine awp_rES ftCOk [6] [(6, iV (t6 - 1))] ?_
   clear hp0
   obtain rfl := Option.some.inj h
   refine LoopQ.next ?_
   exact Red.selA [0, 1, 2] Red.auto
  ·refine awp_exit ?_
   refine nm ?_
   obtain rfl := Option.some.inj h
   refine LoopQ.out rfl ?_
   exact Red.auto
 ·clear hx
  rcases x27 with ⟨p0_1_1, t5s_1⟩
  ·try dsimp only [Sum.elim_inl, Sum.elim_inr] at h
   try dsimp only [Sum.elim_inl, Sum.elim_inr]
   refine hK14 _ _ ?_
   clear hK14
   refine awp_rS ftCOk [5] [(4, .sl 2)] ?_
   refine awp_ret ?_
   obtain rfl := Option.some.inj h
   exact finQ [0, 1, 2]
theorem k_spec_l20State (a0_0 : List Int) (a0_1 : Int) (a1_0 : Int) (a1_1 : List (Int × Int × Int)) (a2_0 : Int) (a2_1 : Int) (a2_2 : Int) (a3 : Int) {r : Int × List Int × List Bool × (List (Int × Int × Int)) × Int} (h : spec_l20State a0_0 a0_1 a1_0 a1_1 a2_0 a2_1 a2_2 a3 = some r) :
 FnA Tryz.prog 23 [.pp 0 0, .agg [iV a1_0, .sl 2], .agg [iV a2_0, iV a2_1, iV a2_2], iV a3] [.box [.sl 1, iV a0_1], rY a0_0, rT a1_1] [] (fun x H => x = .agg [iV r.1, .sl 3, .sl 4, .sl 5] ∧ H = [.box [.sl 1, iV r.2.2.2.2], rY a0_0, rT a1_1, oI r.2.1, oB r.2.2.1, oT r.2.2.2.1]) := by
 unfold spec_l20State at h
 refine FnA.ofA 82 [0, 1, 2] [.cell 8 27] Tryz.func23 en23 ?_
 refine awp_rM ftCOk [1, 2] [(5, .pp 3 0), (6, .pp 4 0), (8, .pp 5 0)] [] [.box [iV a1_0, .sl 2], .box [iV a2_0, iV a2_1, iV a2_2], .box [iV 0, nV, nV, nV]] ?_
 refine awp_freeze 5 (by rfl) (by rfl) (by exact rfl) ?_
 refine awp_freeze 6 (by rfl) (by rfl) (by exact rfl) ?_
 replace ⟨⟨y, y_1, y_2, y_3⟩, hr0, h⟩ := bind_some h
 try dsimp only at h
 refine awp_c ftCOk [] [(9, .pp 9 0)] [] [oI y_1, oB y_2, oT y_3, .box [iV y, .sl 6, .sl 7, .sl 8]] [⟨4, [], k_spec_StartState (max 0 (min 16 a1_0)) (h := hr0)⟩] ?_
 clear hr0
 refine awp_seq fun K17 hK17 => ?_
 replace ⟨⟨y_4, y_5⟩, hr0, h⟩ := bind_some h
 try dsimp only at h
 refine awp_c ftCOk [] [(10, iV y_4)] [(0, .box [.sl 1, iV y_5])] [] [⟨1, [0, 1], k_spec_l20Rd_pick a0_0 a0_1 4 (h := hr0)⟩] ?_
 clear hr0
 refine awp_block ?_
 replace h := bind_some h
 obtain ⟨x33, hx, h⟩ := h
 refine awp_loopL hx (fun (t10, t9_0, t9_1s, t9_2s, t9_3s) => [(0, .pp 0 0), (3, iV a3), (5, .pp 3 0), (6, .pp 4 0), (8, .pp 5 0), (9, .pp 6 0), (10, iV t10)]) (fun (t10, t9_0, t9_1s, t9_2s, t9_3s) => [.box [.sl 1, iV y_5], rY a0_0, rT a1_1, .rbox [iV a1_0, .sl 2], .rbox [iV a2_0, iV a2_1, iV a2_2], .box [iV 0, nV, nV, nV], .box [iV t9_0, .sl 7, .sl 8, .sl 9], oI t9_1s, oB t9_2s, oT t9_3s]) (fun _ => Exit.exit 0) (fun (t9_0_1, t9_1s_1, t9_2s_1, t9_3s_1) => [(0, .pp 0 0), (3, iV a3), (8, .pp 3 0), (9, .pp 4 0)]) (fun (t9_0_1, t9_1s_1, t9_2s_1, t9_3s_1) => [.box [.sl 1, iV y_5], rY a0_0, rT a1_1, .box [iV 0, nV, nV, nV], .box [iV t9_0_1, .sl 5, .sl 6, .sl 7], oI t9_1s_1, oB t9_2s_1, oT t9_3s_1]) ?_ ?_ ?_ ?_
 ·rintro ⟨t9_0_1, t9_1s_1, t9_2s_1, t9_3s_1⟩ hy <;> cases hy
 ·clear h hx
  exact Red.selA [0, 1, 2, 3, 4, 5, 9, 6, 7, 8] Red.auto
 ·clear h hx
  rintro ⟨t10, t9_0, t9_1s, t9_2s, t9_3s⟩ r h
  unfold spec_l20State_b0 at h
  try dsimp only at h
  try dsimp only
  refine awp_seq fun K29 hK29 => ?_
  refine awp_rS ftCOk [] [(21, bV (decide (0 < t10)))] ?_
  refine awp_if h ?_ ?_ <;> clear h <;> intro hc h
  ·refine awp_skip ?_
   refine hK29 _ _ ?_
   clear hK29
   refine awp_join h (fun (t9_0_2, t9_1s_2, t9_2s_2, t9_3s_2) => [(0, .pp 0 0), (3, iV a3), (5, .pp 3 0), (6, .pp 4 0), (8, .pp 5 0), (9, .pp 6 0), (10, iV t10)]) (fun (t9_0_2, t9_1s_2, t9_2s_2, t9_3s_2) => [.box [.sl 1, iV y_5], rY a0_0, rT a1_1, .rbox [iV a1_0, .sl 2], .rbox [iV a2_0, iV a2_1, iV a2_2], .box [iV 0, nV, nV, nV], .box [iV t9_0_2, .sl 7, .sl 8, .sl 9], oI t9_1s_2, oB t9_2s_2, oT t9_3s_2]) ?_ ?_
   ·clear h
    intro k h
    try dsimp only at h
    refine awp_block ?_
    replace ⟨⟨y_6, y_7, y_8, y_9, y_10⟩, hr0, h⟩ := bind_some h
    try dsimp only at h
    refine awp_c ftCOk [21] [(11, .pp 13 0), (12, bV y_10)] [] [oI y_7, oB y_8, oT y_9, .box [iV y_6, .sl 10, .sl 11, .sl 12]] [⟨3, [2, 7, 8, 9], k_spec_StepState a1_0 a1_1 a2_0 a2_1 a2_2 t9_0 t9_1s t9_2s t9_3s (h := hr0)⟩] ?_
    clear hr0
    refine awp_rS ftCOk [12] [(31, bV y_10)] ?_
    refine awp_if h ?_ ?_ <;> clear h <;> intro hc h
    ·refine awp_rEM ftCOk [11, 31] [] [(6, .box [iV y_6, .sl 10, .sl 11, .sl 12])] [] ?_
     refine nm ?_
     refine ⟨_, h, ?_⟩
     exact Red.selA [0, 1, 2, 3, 4, 5, 6, 10, 11, 12] Red.auto
    ·refine awp_skip ?_
     refine nm ?_
     refine ⟨_, h, ?_⟩
     exact Red.selA [0, 1, 2, 3, 4, 5, 6, 7, 8, 9] Red.auto
   ·clear h
    rintro ⟨t9_0_2, t9_1s_2, t9_2s_2, t9_3s_2⟩ h
    try dsimp only at h
    try dsimp only
    replace ⟨hp0, h⟩ := chk_some h
    have hwhp0 := wrap_fits hp0.1 hp0.2
    refine awp_rES ftCOk [10] [(10, iV (t10 - 1))] ?_
    clear hp0
    obtain rfl := Option.some.inj h
    refine LoopQ.next ?_
    exact Red.auto
  ·refine awp_exit ?_
   refine nm ?_
   obtain rfl := Option.some.inj h
   refine LoopQ.out rfl ?_
   exact Red.selA [0, 1, 2, 5, 6, 7, 8, 9] Red.auto
 ·clear hx
  rcases x33 with ⟨t9_0_1, t9_1s_1, t9_2s_1, t9_3s_1⟩
  ·try dsimp only [Sum.elim_inl, Sum.elim_inr] at h
   try dsimp only [Sum.elim_inl, Sum.elim_inr]
   refine hK17 _ _ ?_
   clear hK17
   refine awp_join h (fun (p0_1, t9_3s_3) => [(0, .pp 0 0), (3, iV a3), (8, .pp 3 0), (9, .pp 4 0)]) (fun (p0_1, t9_3s_3) => [.box [.sl 1, iV p0_1], rY a0_0, rT a1_1, .box [iV 0, nV, nV, nV], .box [iV t9_0_1, .sl 5, .sl 6, .sl 7], oI t9_1s_1, oB t9_2s_1, oT t9_3s_3]) ?_ ?_
   ·clear h
    intro k_1 h
    try dsimp only at h
    replace ⟨⟨y_11, y_12⟩, hr0, h⟩ := bind_some h
    try dsimp only at h
    refine awp_c ftCOk [] [(35, bV (y_11 == 0))] [(0, .box [.sl 1, iV y_12])] [] [⟨1, [0, 1], k_spec_l20Rd_pick a0_0 y_5 4 (h := hr0)⟩] ?_
    clear hr0
    refine awp_if h ?_ ?_ <;> clear h <;> intro hc h
    ·replace ⟨hp0, h⟩ := chk_some h
     replace ⟨⟨y_13, y_14⟩, hr1, h⟩ := bind_some h
     try dsimp only at h
     replace ⟨hp2, h⟩ := chk_some h
     replace ⟨y_15, hr3, h⟩ := bind_some h
     refine awp_tE [35] [] [(0, .box [.sl 1, iV y_14]), (3, .box [iV t9_0_1, .sl 5, .sl 6, .sl 10])] [oT (([] ++ t9_3s_1) ++ y_13), oT y_13, oT y_15] ?_ ?_
     ·clear h
      intro K hK
      refine awp_drawM [0, 1, 2, 3, 4, 5, 6, 7] [1, 4, 5] 10 #[false, true, false, false, true, true, false, false, false, false, false, false, false] mixed ftCOk (by kernel_rfl) (by first | rfl | kernel_rfl) (by rfl) (by simp) fun L hL hN => ?_
      refine hN.node L 0 #[true, true, true, true, true, true, true, true, true, true, true, true, true] 8 [] [(37, .pp 4 3), (38, .sl 7), (40, .pp 0 0), (41, .pp 4 1), (42, .sl 5), (43, iV (t9_1s_1.length : Int)), (44, .sl 9), (45, .sl 8), (46, .sl 10), (47, .pp 4 3)] [(0, .box [.sl 1, iV y_14]), (3, .box [iV t9_0_1, .sl 5, .sl 6, .sl 10])] [oT (([] ++ t9_3s_1) ++ y_13), oT y_13, oT y_15] ?_ fun n9 hN => ?_
      ·exact hL.fin (by kernel_rfl) (hK _ _ Red.auto)
      refine hN.node L 1 #[true, true, true, true, true, true, true, true, true, true, true, true, false] 11 [] [] [(4, .box [iV t9_0_1, .sl 5, .sl 6, .sl 7])] [] ?_ fun n8 hN => ?_
      ·refine hL.step [(12, [], 0, #[true, true, true, true, true, true, true, true, true, true, true, true, true])] (by kernel_rfl) ⟨?_, trivial⟩
       ·exact hL.edge n9
      refine hN.node L 3 #[true, true, true, true, true, true, true, true, true, true, false, false, false] 10 [46, 47] [] [] [] ?_ fun n7 hN => ?_
      ·refine hL.step [(10, [11], 1, #[true, true, true, true, true, true, true, true, true, true, true, true, false])] (by kernel_rfl) ⟨?_, trivial⟩
       ·have nn := n8
        simp (maxSteps := 4000000) only [go_sem]
        repeat' (first | refine And.intro ?_ ?_ | intro hg)
        all_goals (try simp (disch := omega) only [wrap_fits])
        all_goals first
         | (refine hL.red ?_ nn; exact Red.auto)
         | exact al0
         | (refine OpK_callA (k_spec_SortMessages (([] ++ t9_3s_1) ++ y_13) (h := hr3)) [8] [] ?_
            rintro x Hc' ⟨rfl, rfl⟩ hlen
            exact au4)
         | (exact au3)
         | exact al1
      refine hN.node L 4 #[true, true, true, true, true, true, true, true, true, false, false, false, false] 10 [45] [(39, .sl 8)] [(8, oT ([] ++ t9_3s_1))] [] ?_ fun n6 hN => ?_
      ·refine hL.step [(9, [], 3, #[true, true, true, true, true, true, true, true, true, true, false, false, false])] (by kernel_rfl) ⟨?_, trivial⟩
       ·exact hL.edge n7
      refine hN.node L 5 #[true, true, true, true, true, true, true, true, false, false, false, false, false] 9 [44] [] [(0, .box [.sl 1, iV y_12])] [] ?_ fun n5 hN => ?_
      ·refine hL.step [(8, [], 4, #[true, true, true, true, true, true, true, true, true, false, false, false, false])] (by kernel_rfl) ⟨?_, trivial⟩
       ·have nn := n6
        simp (maxSteps := 4000000) only [go_sem]
        repeat' (first | refine And.intro ?_ ?_ | intro hg)
        all_goals (try simp (disch := omega) only [wrap_fits])
        all_goals first
         | (refine hL.red ?_ nn; exact Red.auto)
         | exact al0
         | (refine OpK_callA (k_spec_l20Messages a0_0 y_12 (t9_1s_1.length : Int) (h := hr1)) [0, 1] [] ?_
            rintro x Hc' ⟨rfl, rfl⟩ hlen
            exact au4)
         | (exact au3)
         | exact al1
      refine hN.node L 6 #[true, true, true, true, true, true, true, false, false, false, false, false, false] 9 [43] [] [] [] ?_ fun n4 hN => ?_
      ·refine hL.step [(7, [], 5, #[true, true, true, true, true, true, true, true, false, false, false, false, false])] (by kernel_rfl) ⟨?_, trivial⟩
       ·exact hL.edge n5
      refine hN.node L 7 #[true, true, true, true, true, true, false, false, false, false, false, false, false] 9 [42] [] [] [] ?_ fun n3 hN => ?_
      ·refine hL.step [(6, [], 6, #[true, true, true, true, true, true, true, false, false, false, false, false, false])] (by kernel_rfl) ⟨?_, trivial⟩
       ·exact hL.edge n4
      refine hN.node L 6 #[true, true, true, false, true, true, true, true, false, false, false, false, false] 9 [39] [(36, .sl 8), (42, .sl 5), (43, iV (t9_1s_1.length : Int))] [(8, oT [])] [] ?_ fun n11 hN => ?_
      ·refine hL.step [(3, [], 5, #[true, true, true, true, true, true, true, true, false, false, false, false, false])] (by kernel_rfl) ⟨?_, trivial⟩
       ·exact hL.edge n5
      refine hN.node L 7 #[true, true, true, false, true, true, true, false, false, false, false, false, false] 9 [43] [] [] [] ?_ fun n10 hN => ?_
      ·refine hL.step [(3, [], 6, #[true, true, true, true, true, true, true, false, false, false, false, false, false]), (7, [], 6, #[true, true, true, false, true, true, true, true, false, false, false, false, false])] (by kernel_rfl) ⟨?_, ?_, trivial⟩
       ·exact hL.edge n4
       ·exact hL.edge n11
      refine hN.node L 8 #[true, true, true, false, true, true, false, false, false, false, false, false, false] 9 [42] [] [] [] ?_ fun n2 hN => ?_
      ·refine hL.step [(3, [], 7, #[true, true, true, true, true, true, false, false, false, false, false, false, false]), (6, [], 7, #[true, true, true, false, true, true, true, false, false, false, false, false, false])] (by kernel_rfl) ⟨?_, ?_, trivial⟩
       ·exact hL.edge n3
       ·exact hL.edge n10
      refine hN.node L 7 #[true, true, false, false, true, true, true, true, false, false, false, false, false] 9 [38] [(42, .sl 5), (43, iV (t9_1s_1.length : Int))] [] [] ?_ fun n13 hN => ?_
      ·refine hL.step [(2, [], 6, #[true, true, true, false, true, true, true, true, false, false, false, false, false])] (by kernel_rfl) ⟨?_, trivial⟩
       ·exact hL.edge n11
      refine hN.node L 8 #[true, true, false, false, true, true, true, false, false, false, false, false, false] 9 [43] [] [] [] ?_ fun n12 hN => ?_
      ·refine hL.step [(2, [], 7, #[true, true, true, false, true, true, true, false, false, false, false, false, false]), (7, [], 7, #[true, true, false, false, true, true, true, true, false, false, false, false, false])] (by kernel_rfl) ⟨?_, ?_, trivial⟩
       ·exact hL.edge n10
       ·exact hL.edge n13
      refine hN.node L 9 #[true, true, false, false, true, true, false, false, false, false, false, false, false] 9 [42] [] [] [] ?_ fun n1 hN => ?_
      ·refine hL.step [(2, [], 8, #[true, true, true, false, true, true, false, false, false, false, false, false, false]), (6, [], 8, #[true, true, false, false, true, true, true, false, false, false, false, false, false])] (by kernel_rfl) ⟨?_, ?_, trivial⟩
       ·exact hL.edge n2
       ·exact hL.edge n12
      refine hN.node L 7 #[false, true, true, false, true, true, true, true, false, false, false, false, false] 8 [36] [(38, .sl 7), (42, .sl 5), (43, iV (t9_1s_1.length : Int))] [] [] ?_ fun n16 hN => ?_
      ·refine hL.step [(0, [], 6, #[true, true, true, false, true, true, true, true, false, false, false, false, false])] (by kernel_rfl) ⟨?_, trivial⟩
       ·exact hL.edge n11
      refine hN.node L 8 #[false, true, true, false, true, true, true, false, false, false, false, false, false] 8 [43] [] [] [] ?_ fun n15 hN => ?_
      ·refine hL.step [(0, [], 7, #[true, true, true, false, true, true, true, false, false, false, false, false, false]), (7, [], 7, #[false, true, true, false, true, true, true, true, false, false, false, false, false])] (by kernel_rfl) ⟨?_, ?_, trivial⟩
       ·exact hL.edge n10
       ·exact hL.edge n16
      refine hN.node L 9 #[false, true, true, false, true, true, false, false, false, false, false, false, false] 8 [42] [] [] [] ?_ fun n14 hN => ?_
      ·refine hL.step [(0, [], 8, #[true, true, true, false, true, true, false, false, false, false, false, false, false]), (6, [], 8, #[false, true, true, false, true, true, true, false, false, false, false, false, false])] (by kernel_rfl) ⟨?_, ?_, trivial⟩
       ·exact hL.edge n2
       ·exact hL.edge n15
      refine hN.node L 8 #[false, true, false, false, true, true, true, true, false, false, false, false, false] 8 [38] [(42, .sl 5), (43, iV (t9_1s_1.length : Int))] [] [] ?_ fun n18 hN => ?_
      ·refine hL.step [(0, [], 7, #[true, true, false, false, true, true, true, true, false, false, false, false, false]), (2, [], 7, #[false, true, true, false, true, true, true, true, false, false, false, false, false])] (by kernel_rfl) ⟨?_, ?_, trivial⟩
       ·exact hL.edge n13
       ·exact hL.edge n16
      refine hN.node L 9 #[false, true, false, false, true, true, true, false, false, false, false, false, false] 8 [43] [] [] [] ?_ fun n17 hN => ?_
      ·refine hL.step [(0, [], 8, #[true, true, false, false, true, true, true, false, false, false, false, false, false]), (2, [], 8, #[false, true, true, false, true, true, true, false, false, false, false, false, false]), (7, [], 8, #[false, true, false, false, true, true, true, true, false, false, false, false, false])] (by kernel_rfl) ⟨?_, ?_, ?_, trivial⟩
       ·exact hL.edge n12
       ·exact hL.edge n15
       ·exact hL.edge n18
      refine hN.node L 10 #[false, true, false, false, true, true, false, false, false, false, false, false, false] 8 [42] [] [] [] ?_ fun n0 hN => ?_
      ·refine hL.step [(0, [], 9, #[true, true, false, false, true, true, false, false, false, false, false, false, false]), (2, [], 9, #[false, true, true, false, true, true, false, false, false, false, false, false, false]), (6, [], 9, #[false, true, false, false, true, true, true, false, false, false, false, false, false])] (by kernel_rfl) ⟨?_, ?_, ?_, trivial⟩
       ·exact hL.edge n1
       ·exact hL.edge n14
       ·exact hL.edge n17
      have nn := n0
      exact au14
     ·clear hp0 hr1 hp2 hr3
      refine nm ?_
      refine ⟨_, h, ?_⟩
      exact Red.selA [0, 1, 2, 3, 4, 5, 6, 10] Red.auto
    ·refine awp_skip ?_
     refine nm ?_
     refine ⟨_, h, ?_⟩
     exact Red.auto
   ·clear h
    rintro ⟨p0_1, t9_3s_3⟩ h
    try dsimp only at h
    try dsimp only
    refine awp_join h (fun (p0_1_1, t9_0_3, t9_1s_3, t9_2s_3, t9_3s_4) => [(8, .pp 3 0), (9, .pp 4 0)]) (fun (p0_1_1, t9_0_3, t9_1s_3, t9_2s_3, t9_3s_4) => [.box [.sl 1, iV p0_1_1], rY a0_0, rT a1_1, .box [iV 0, nV, nV, nV], .box [iV t9_0_3, .sl 5, .sl 6, .sl 7], oI t9_1s_3, oB t9_2s_3, oT t9_3s_4]) ?_ ?_
    ·clear h
     intro k_2 h
     try dsimp only at h
     replace ⟨⟨y_16, y_17⟩, hr0, h⟩ := bind_some h
     try dsimp only at h
     refine awp_c ftCOk [3] [(50, bV y_16)] [(0, .box [.sl 1, iV y_17])] [] [⟨2, [0, 1], k_spec_l20Rd_odd a0_0 p0_1 a3 (h := hr0)⟩] ?_
     clear hr0
     refine awp_if h ?_ ?_ <;> clear h <;> intro hc h
     ·replace ⟨⟨y_18, y_19⟩, hr0, h⟩ := bind_some h
      try dsimp only at h
      refine awp_c ftCOk [50] [(52, iV y_18)] [(0, .box [.sl 1, iV y_19])] [] [⟨1, [0, 1], k_spec_l20Rd_pick a0_0 y_17 4 (h := hr0)⟩] ?_
      clear hr0
      refine awp_block ?_
      refine awp_rS ftCOk [] [(58, bV (y_18 == 0))] ?_
      refine awp_if h ?_ ?_ <;> clear h <;> intro hc h
      ·replace ⟨⟨y_20, y_21⟩, hr0, h⟩ := bind_some h
       try dsimp only at h
       replace ⟨hp1, h⟩ := chk_some h
       refine awp_cE ftCOk [0, 52, 58] [] [(0, .box [.sl 1, iV y_21]), (3, .box [iV (([(-1), 101] : List Int).getD y_20.toNat 0), .sl 5, .sl 6, .sl 7])] [oI [(-1), 101]] [⟨2, [0, 1], k_spec_l20Rd_pick a0_0 y_19 2 (h := hr0)⟩] ?_
       clear hr0 hp1
       refine nm ?_
       refine ⟨_, h, ?_⟩
       exact Red.selA [0, 1, 2, 3, 4, 5, 6, 7] Red.auto
      ·refine awp_rS ftCOk [0, 58] [(66, bV (y_18 == 1))] ?_
       refine awp_if h ?_ ?_ <;> clear h <;> intro hc h
       ·replace ⟨hp0, h⟩ := chk_some h
        refine awp_rEM ftCOk [52, 66] [] [(6, oB (t9_2s_1 ++ [true]))] [oB [true]] ?_
        clear hp0
        refine nm ?_
        refine ⟨_, h, ?_⟩
        exact Red.selA [0, 1, 2, 3, 4, 5, 6, 7] Red.auto
       ·refine awp_rS ftCOk [52, 66] [(73, bV (y_18 == 2))] ?_
        refine awp_if h ?_ ?_ <;> clear h <;> intro hc h
        ·replace ⟨hp0, h⟩ := chk_some h
         refine awp_rEM ftCOk [73] [] [(4, .box [iV t9_0_1, .sl 5, .sl 6, .sl 8])] [oT ([(16, 1, 0)] ++ t9_3s_3)] ?_
         clear hp0
         refine nm ?_
         refine ⟨_, h, ?_⟩
         exact Red.selA [0, 1, 2, 3, 4, 5, 6, 8] Red.auto
        ·replace ⟨hp0, h⟩ := chk_some h
         refine awp_rEM ftCOk [73] [] [(4, .box [iV t9_0_1, .sl 8, .sl 6, .sl 7])] [oI ([(-2)] ++ t9_1s_1)] ?_
         clear hp0
         refine nm ?_
         refine ⟨_, h, ?_⟩
         exact Red.selA [0, 1, 2, 3, 4, 8, 6, 7] Red.auto
     ·refine awp_skip ?_
      refine nm ?_
      refine ⟨_, h, ?_⟩
      exact Red.auto
    ·clear h
     rintro ⟨p0_1_1, t9_0_3, t9_1s_3, t9_2s_3, t9_3s_4⟩ h
     try dsimp only at h
     try dsimp only
     refine awp_rM ftCOk [9] [] [(3, .box [iV t9_0_3, .sl 5, .sl 6, .sl 7])] [] ?_
     refine awp_ret ?_
     obtain rfl := Option.some.inj h
     exact finQ [0, 1, 2, 5, 6, 7]
theorem k_spec_l20Open_v1 (a0 : List Int) {r : List Int × Int} (h : spec_l20Open_v1 a0 = some r) :
 FnA Tryz.prog 21 [.sl 0] [rY a0, .box [nV, nV], .box [iV 0, nV, nV, nV]] [] (fun x H => x = .pp 3 0 ∧ H = [rY a0, .box [nV, nV], .box [iV 0, nV, nV, nV], .box [.sl 4, iV r.2], rY r.1]) := by
 unfold spec_l20Open_v1 at h
 refine FnA.ofA 11 [0, 1, 2] [.tmp 2] Tryz.func21 en21 ?_
 refine awp_rS ftCOk [] [] ?_
 refine awp_join h (fun t0s => [(0, .sl 3)]) (fun t0s => [rY a0, .box [nV, nV], .box [iV 0, nV, nV, nV], rY t0s]) ?_ ?_
 ·clear h
  intro k h
  try dsimp only at h
  refine awp_rS ftCOk [] [(5, bV (decide (2000 < (a0.length : Int))))] ?_
  refine awp_if h ?_ ?_ <;> clear h <;> intro hc h
  ·replace ⟨hp0, h⟩ := chk_some h
   refine awp_rEM ftCOk [0, 5] [(0, .sl 3)] [] [rY ((a0.take 2000).drop 0)] ?_
   clear hp0
   refine nm ?_
   refine ⟨_, h, ?_⟩
   exact Red.auto
  ·refine awp_skip ?_
   refine nm ?_
   refine ⟨_, h, ?_⟩
   refine Red.trans (Red.dup (t := 0) rfl rfl) ?_
   exact Red.auto
 ·clear h
  rintro t0s h
  try dsimp only at h
  try dsimp only
  refine awp_rM ftCOk [0] [(2, .pp 4 0)] [] [.box [.sl 3, iV 0]] ?_
  refine awp_ret ?_
  obtain rfl := Option.some.inj h
  exact finQ [0, 1, 2, 4, 3]
theorem k_spec_DrawSaveState (a0 : List Int) {r : List Int × List Int × Int × List Int × List Bool × (List (Int × Int × Int))} (h : spec_DrawSaveState a0 = some r) :
 FnA Tryz.prog 15 [.sl 0] [rY a0] [] (fun x H => x = .tup [.agg [.sl 1, .sl 2], .agg [iV r.2.2.1, .sl 3, .sl 4, .sl 5]] ∧ H = [rY a0, oI r.1, oI r.2.1, oI r.2.2.2.1, oB r.2.2.2.2.1, oT r.2.2.2.2.2]) := by
 unfold spec_DrawSaveState at h
 refine FnA.ofA 22 [0] [.cell 2 30, .cell 3 27] Tryz.func15 en15 ?_
 refine awp_rM ftCOk [] [(2, .pp 1 0), (3, .pp 2 0)] [] [.box [nV, nV], .box [iV 0, nV, nV, nV]] ?_
 replace ⟨⟨y, y_1⟩, hr0, h⟩ := bind_some h
 try dsimp only at h
 refine awp_t [0] [(4, .pp 3 0)] [] [.box [.sl 4, iV y_1], rY y] ?_ ?_
 ·clear h
  intro K hK
  refine awp_region ftCOk ?_
  simp (maxSteps := 4000000) only [go_sem]
  repeat' (first | refine And.intro ?_ ?_ | intro hg)
  all_goals (try simp (disch := omega) only [wrap_fits])
  all_goals first
   | exact al0
   | (refine wpA_here (k_spec_l20Open_v1 a0 (h := hr0)) ?_
      rintro x Hc' ⟨rfl, rfl⟩ hlen
      refine vcOps_sound ftCOk ?_
      exact auV)
   | exact al1
 ·clear hr0
  replace ⟨⟨y_2, y_3, y_4⟩, hr0, h⟩ := bind_some h
  try dsimp only at h
  refine awp_c ftCOk [] [(5, .pp 7 0)] [(3, .box [.sl 4, iV y_4])] [oI y_2, oI y_3, .box [.sl 5, .sl 6]] [⟨1, [3, 4], k_spec_l20Disk y y_1 12 (h := hr0)⟩] ?_
  clear hr0
  replace ⟨⟨y_5, y_6, y_7, y_8, y_9, y_10⟩, hr0, h⟩ := bind_some h
  try dsimp only at h
  refine awp_c ftCOk [] [(6, .pp 9 0), (7, .pp 10 0)] [(3, .box [.sl 4, iV y_10])] [oT y_6, .box [iV y_5, .sl 8], .box [iV y_7, iV y_8, iV y_9]] [⟨1, [3, 4], k_spec_l20Task y y_4 0 (h := hr0)⟩] ?_
  clear hr0
  refine awp_freeze 5 (by rfl) (by rfl) (by first | exact rfl | (simp only [List.map_cons, List.map_nil, List.set_cons_succ, List.set_cons_zero, AObj.unview, reduceCtorEq, ↓reduceIte, Nat.reduceEqDiff]; exact rfl)) ?_
  refine awp_freeze 6 (by rfl) (by rfl) (by first | exact rfl | (simp only [List.map_cons, List.map_nil, List.set_cons_succ, List.set_cons_zero, AObj.unview, reduceCtorEq, ↓reduceIte, Nat.reduceEqDiff]; exact rfl)) ?_
  replace ⟨⟨y_11, y_12, y_13, y_14, y_15⟩, hr0, h⟩ := bind_some h
  try dsimp only at h
  refine awp_t [4, 5, 6, 7] [] [(1, .box [.sl 5, .sl 6]), (0, .box [iV y_11, .sl 11, .sl 12, .sl 13]), (0, .box [.sl 4, iV y_15])] [oI y_12, oB y_13, oT y_14] ?_ ?_
  ·clear h
   intro K hK
   refine awp_drawT mixed ftCOk (.free 1 (.free 0 (.free 2 (.one 3 (.one 4 (.one 5 (.one 6 .fin))))))) (by kernel_rfl) (by simp) ?_
   simp (maxSteps := 4000000) only [go_sem]
   repeat' (first | refine And.intro ?_ ?_ | intro hg)
   all_goals (try simp (disch := omega) only [wrap_fits])
   all_goals first
    | exact al0
    | (refine OpK_callA (k_spec_l20State y y_10 y_5 y_6 y_7 y_8 y_9 12 (h := hr0)) [3, 4, 8] [] ?_
       rintro x Hc' ⟨rfl, rfl⟩ hlen
       exact auV)
    | exact al1
  ·clear hr0
   refine awp_ret ?_
   obtain rfl := Option.some.inj h
   exact finQ [0, 5, 6, 11, 12, 13]
theorem k_impl_BytesValid (a0 : List Int) {r : Bool} (h : impl_BytesValid a0 = some r) :
 FnA Tryz.prog 41 [.sl 0] [rI a0] [] (fun x H => x = bV r ∧ H = [rI a0]) := by
 unfold impl_BytesValid at h
 refine FnA.ofA 21 [0] [.tmp 2] Tryz.func41 en41 ?_
 refine awp_rS ftCOk [] [] ?_
 refine awp_seq fun K2 hK2 => ?_
 refine awp_rS ftCOk [] [(7, bV (decide (2000 < (a0.length : Int))))] ?_
 refine awp_if h ?_ ?_ <;> clear h <;> intro hc h
 ·refine awp_rS ftCOk [0, 7] [(2, bV false)] ?_
  refine awp_ret ?_
  obtain rfl := Option.some.inj h
  exact finQ [0]
 ·refine awp_skip ?_
  refine hK2 _ _ ?_
  clear hK2
  refine awp_seq fun K23 hK23 => ?_
  refine awp_rS ftCOk [0, 7] [(8, .sl 0), (9, iV (a0.length : Int)), (10, iV 0)] ?_
  refine awp_block ?_
  replace h := bind_some h
  obtain ⟨x42, hx, h⟩ := h
  refine awp_loopL hx (fun t10 => [(8, .sl 0), (9, iV (a0.length : Int)), (10, iV t10)]) (fun t10 => [rI a0]) (Sum.elim (fun _ => Exit.exit 0) (fun _ => Exit.ret)) (Sum.elim (fun _ => []) (fun _ => [(2, bV false)])) (Sum.elim (fun _ => [rI a0]) (fun _ => [rI a0])) ?_ ?_ ?_ ?_
  ·rintro (⟨⟩ | ⟨⟩) hy <;> cases hy
  ·clear h hx
   exact Red.auto
  ·clear h hx
   rintro t10 r h
   unfold impl_BytesValid_b0 at h
   try dsimp only at h
   try dsimp only
   refine awp_rS ftCOk [] [(11, bV (decide (t10 < (a0.length : Int))))] ?_
   refine awp_seq fun K37 hK37 => ?_
   refine awp_if h ?_ ?_ <;> clear h <;> intro hc h
   ·refine awp_skip ?_
    refine hK37 _ _ ?_
    clear hK37
    refine awp_seq fun K40 hK40 => ?_
    refine awp_block ?_
    replace ⟨hp0, h⟩ := chk_some h
    refine awp_rS ftCOk [11] [(4, iV (a0.getD t10.toNat 0))] ?_
    clear hp0
    refine awp_rS ftCOk [4] [(19, bV ((decide ((a0.getD t10.toNat 0) < 0)) || (decide (255 < (a0.getD t10.toNat 0)))))] ?_
    refine awp_if h ?_ ?_ <;> clear h <;> intro hc h
    ·refine awp_rS ftCOk [8, 9, 10, 19] [(2, bV false)] ?_
     refine awp_ret ?_
     refine nm ?_
     obtain rfl := Option.some.inj h
     refine LoopQ.out rfl ?_
     exact Red.auto
    ·refine awp_skip ?_
     refine hK40 _ _ ?_
     clear hK40
     replace ⟨hp0, h⟩ := chk_some h
     refine awp_rES ftCOk [10, 19] [(10, iV (t10 + 1))] ?_
     clear hp0
     obtain rfl := Option.some.inj h
     refine LoopQ.next ?_
     exact Red.auto
   ·refine awp_exit ?_
    refine nm ?_
    obtain rfl := Option.some.inj h
    refine LoopQ.out rfl ?_
    exact Red.auto
  ·clear hx
   rcases x42 with (⟨⟩ | ⟨⟩)
   ·try dsimp only [Sum.elim_inl, Sum.elim_inr] at h
    try dsimp only [Sum.elim_inl, Sum.elim_inr]
    refine hK23 _ _ ?_
    clear hK23
    refine awp_rS ftCOk [] [(2, bV true)] ?_
    refine awp_ret ?_
    obtain rfl := Option.some.inj h
    exact finQ [0]
   ·try dsimp only [Sum.elim_inl, Sum.elim_inr] at h
    try dsimp only [Sum.elim_inl, Sum.elim_inr]
    obtain rfl := Option.some.inj h
    exact finQ [0]
theorem k_impl_DiskValid (a0_0 : List Int) (a0_1 : List Int) {r : Bool} (h : impl_DiskValid a0_0 a0_1 = some r) :
 FnA Tryz.prog 20 [.agg [.sl 0, .sl 1]] [rI a0_0, rI a0_1] [] (fun x H => x = bV r ∧ H = [rI a0_0, rI a0_1]) := by
 unfold impl_DiskValid at h
 refine FnA.ofA 21 [0, 1] [.tmp 2] Tryz.func20 en20 ?_
 refine awp_rM ftCOk [0] [(1, .pp 2 0)] [] [.box [.sl 0, .sl 1]] ?_
 refine awp_freeze 1 (by rfl) (by rfl) (by exact rfl) ?_
 replace ⟨y, hr0, h⟩ := bind_some h
 replace ⟨y_1, hr1, h⟩ := bind_some h
 replace ⟨hp2, h⟩ := chk_some h
 refine awp_t [1] [(2, bV ((y && y_1) && (decide (((a0_0.length : Int) + (a0_1.length : Int)) ≤ 2000))))] [] [] ?_ ?_
 ·clear h
  intro K hK
  refine awp_regionA ?_
  refine wpA_cutAt 8 [(1, .pp 2 0), (10, bV (y && y_1))] [rI a0_0, rI a0_1, .rbox [.sl 0, .sl 1]] ?_ ?_
  ·clear hK K
   intro K hK
   refine vcOps_sound ftCOk ?_
   simp (maxSteps := 4000000) only [go_sem]
   repeat' (first | refine And.intro ?_ ?_ | intro hg)
   all_goals (try simp (disch := omega) only [wrap_fits])
   all_goals first
    | exact al0
    | (have hq := hp2 byg; omega)
    | (refine wpA_callA (k_impl_BytesValid a0_0 (h := hr0)) [0] [] ?_
       rintro x Hc' ⟨rfl, rfl⟩ hlen
       refine vcOps_sound ftCOk ?_
       simp (maxSteps := 4000000) only [go_sem]
       repeat' (first | refine And.intro ?_ ?_ | intro hg)
       all_goals (try simp (disch := omega) only [wrap_fits])
       all_goals first
        | exact al0
        | (have hq := hp2 byg; omega)
        | (refine wpA_guard rfl rfl ?_
           refine wpA_callA (k_impl_BytesValid a0_1 (h := (bite_t hr1 byg))) [1] [] ?_
           rintro x Hc' ⟨rfl, rfl⟩ hlen
           refine vcOps_sound ftCOk ?_
           exact au11)
        | exact al1)
    | exact al1
  refine vcOps_sound ftCOk ?_
  exact au11
 ·clear hr0 hr1 hp2
  refine awp_ret ?_
  obtain rfl := Option.some.inj h
  exact finQ [0, 1]
theorem k_impl_roundFits (a0 : Int) {r : Bool} (h : impl_roundFits a0 = some r) :
 FnA Tryz.prog 83 [iV a0] [] [] (fun x H => x = bV r ∧ H = []) := by
 unfold impl_roundFits at h
 refine FnA.ofA 9 [] [.tmp 2] Tryz.func83 en83 ?_
 refine awp_rS ftCOk [] [] ?_
 refine awp_rS ftCOk [0] [(2, bV ((decide (0 ≤ a0)) && (decide (a0 ≤ 100))))] ?_
 refine awp_ret ?_
 obtain rfl := Option.some.inj h
 exact finQ []
theorem k_impl_valueFits (a0 : Int) {r : Bool} (h : impl_valueFits a0 = some r) :
 FnA Tryz.prog 98 [iV a0] [] [] (fun x H => x = bV r ∧ H = []) := by
 unfold impl_valueFits at h
 refine FnA.ofA 9 [] [.tmp 2] Tryz.func98 en98 ?_
 refine awp_rS ftCOk [] [] ?_
 refine awp_rS ftCOk [0] [(2, bV ((decide ((-1) ≤ a0)) && (decide (a0 < 1000000))))] ?_
 refine awp_ret ?_
 obtain rfl := Option.some.inj h
 exact finQ []
theorem k_impl_valuesFit (a0 : List Int) {r : Bool} (h : impl_valuesFit a0 = some r) :
 FnA Tryz.prog 84 [.sl 0] [rI a0] [] (fun x H => x = bV r ∧ H = [rI a0]) := by
 unfold impl_valuesFit at h
 refine FnA.ofA 15 [0] [.tmp 2] Tryz.func84 en84 ?_
 refine awp_rS ftCOk [] [] ?_
 refine awp_seq fun K20 hK20 => ?_
 refine awp_rS ftCOk [0] [(5, .sl 0), (6, iV (a0.length : Int)), (7, iV 0)] ?_
 refine awp_block ?_
 replace h := bind_some h
 obtain ⟨x39, hx, h⟩ := h
 refine awp_loopL hx (fun t7 => [(5, .sl 0), (6, iV (a0.length : Int)), (7, iV t7)]) (fun t7 => [rI a0]) (Sum.elim (fun _ => Exit.exit 0) (fun _ => Exit.ret)) (Sum.elim (fun _ => []) (fun _ => [(2, bV false)])) (Sum.elim (fun _ => [rI a0]) (fun _ => [rI a0])) ?_ ?_ ?_ ?_
 ·rintro (⟨⟩ | ⟨⟩) hy <;> cases hy
 ·clear h hx
  exact Red.auto
 ·clear h hx
  rintro t7 r h
  unfold impl_valuesFit_b0 at h
  try dsimp only at h
  try dsimp only
  refine awp_rS ftCOk [] [(8, bV (decide (t7 < (a0.length : Int))))] ?_
  refine awp_seq fun K34 hK34 => ?_
  refine awp_if h ?_ ?_ <;> clear h <;> intro hc h
  ·refine awp_skip ?_
   refine hK34 _ _ ?_
   clear hK34
   refine awp_seq fun K37 hK37 => ?_
   refine awp_block ?_
   replace ⟨hp0, h⟩ := chk_some h
   refine awp_rS ftCOk [8] [(4, iV (a0.getD t7.toNat 0))] ?_
   clear hp0
   replace ⟨y, hr0, h⟩ := bind_some h
   refine awp_c ftCOk [4] [(13, bV (!y))] [] [] [⟨1, [], k_impl_valueFits (a0.getD t7.toNat 0) (h := hr0)⟩] ?_
   clear hr0
   refine awp_if h ?_ ?_ <;> clear h <;> intro hc h
   ·refine awp_rS ftCOk [5, 6, 7, 13] [(2, bV false)] ?_
    refine awp_ret ?_
    refine nm ?_
    obtain rfl := Option.some.inj h
    refine LoopQ.out rfl ?_
    exact Red.auto
   ·refine awp_skip ?_
    refine hK37 _ _ ?_
    clear hK37
    replace ⟨hp0, h⟩ := chk_some h
    refine awp_rES ftCOk [7, 13] [(7, iV (t7 + 1))] ?_
    clear hp0
    obtain rfl := Option.some.inj h
    refine LoopQ.next ?_
    exact Red.auto
  ·refine awp_exit ?_
   refine nm ?_
   obtain rfl := Option.some.inj h
   refine LoopQ.out rfl ?_
   exact Red.auto
 ·clear hx
  rcases x39 with (⟨⟩ | ⟨⟩)
  ·try dsimp only [Sum.elim_inl, Sum.elim_inr] at h
   try dsimp only [Sum.elim_inl, Sum.elim_inr]
   refine hK20 _ _ ?_
   clear hK20
   refine awp_rS ftCOk [] [(2, bV true)] ?_
   refine awp_ret ?_
   obtain rfl := Option.some.inj h
   exact finQ [0]
  ·try dsimp only [Sum.elim_inl, Sum.elim_inr] at h
   try dsimp only [Sum.elim_inl, Sum.elim_inr]
   obtain rfl := Option.some.inj h
   exact finQ [0]
end Go.Proofs.YteoedigfnfjopaaGreat
