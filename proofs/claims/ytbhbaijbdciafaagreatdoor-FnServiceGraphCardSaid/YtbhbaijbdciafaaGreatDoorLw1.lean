/- The code computes the functions that were taken out of it. -/
import Derived.Test.YtbhbaijbdciafaaGreatDoorLaD
import Derived.Test.YtbhbaijbdciafaaGreatDoorAvWt
import Derived.Test.YtbhbaijbdciafaaGreatDoorLi
set_option maxRecDepth 100000
set_option maxHeartbeats 4000000
set_option linter.unusedSimpArgs false
set_option linter.unusedVariables false
namespace Go.Proofs.YtbhbaijbdciafaaGreatDoor
open Go Go.Av
attribute [local irreducible] wpA OpK awp OpKI
attribute [go_sem] vcCalls vcCall List.take_succ_cons List.take_zero List.drop_succ_cons List.drop_zero frs_nil frs_cons pw8_32 pw16_32 pw24_32 pw27_32 strQ eqAgg eqAggV buildQ placesOf buildCells List.toList_toArray vcQg gfind gfree gput un3_agg unI_int unB_bool unK_int guardU skipV resVs resV vcD_nil vcD_cons vcT_fin vcT_free vcT_one vcT_two opS vcD1 roH roOb ftNone ftAdd oneOrTup AV.detup AV.ren AV.ren2 AV.ren1 pos selH AObj.ren fitAll fit fit1 fit1s matchAll matchOb exIds AObj.excl Env.killp pastH setAll upId AObj.past AObj.back AV.killp AV.killp1 AV.killp2 Nat.sub_self Nat.lt_irrefl Bool.or_self vcOps vcOp vcQs vcQ dstOk quiet eff pcall calleeF plain valsOf ev ofConst argEnv List.lookup Nat.add_eq decide_true decide_false Env.put binV quoC isTwo_2 isTwo_1 isTwo_3 isTwo_4 isTwo_5 isTwo_6 isTwo_7 isTwo_8 isTwo_9 isTwo_10 isTwo_11 isTwo_12 isTwo_13 isTwo_14 isTwo_15 isTwo_16 isTwo_17 isTwo_20 isTwo_24 isTwo_32 isTwo_60 isTwo_64 isTwo_100 isTwo_128 isTwo_256 isTwo_1000 wrapTo unV convV loadQ indexQ callQ builtinQ rd rdI globC AObj.globC partAV isAggD isArrayD addrAdd boxE storeE storeXE storeCE storeGE storeFE storeAE storeHE allocAE buildME appendME lookupQ lookupI mapUpE mapUpI mapZ plainVs isIfaceD ifaceQ assertQ List.all_cons aggQ arrD arrL arrL_map arrV makeE makeXE makeNE makeGE buildXE buildNE buildGE nestZero Cont.child Cont.setChild buildSliceE buildFold appendE appendXE appendNE appendGE Cont.setG nestApp appendV promoteH sliceE boundAV subObj asCells Value.oneCell' contZero Cont.sets Cont.app Cont.sub Cont.len Cont.esz Cont.cell Cont.cells Cont.flat AV.det AV.det1 guardV AObj.unview AObj.kill Env.kill AV.kill AV.kill1 AV.kill2 fits64 Option.getD_some Option.getD_none Option.map_some Option.map_none Option.bind_some List.map_cons List.map_nil List.getElem?_cons_zero List.getElem?_cons_succ List.getElem?_nil true_and and_true and_false false_and List.getElem?_toArray List.cons_append List.nil_append List.length_cons List.length_nil List.set_cons_zero List.set_cons_succ List.take_succ_cons List.take_zero List.drop_succ_cons List.drop_zero List.drop_nil List.take_nil List.contains_cons List.contains_nil List.elem_cons List.elem_nil Bool.not_true Bool.not_false Bool.false_eq_true Bool.or_false Bool.or_true Bool.and_true Bool.and_false Bool.true_and Bool.false_and List.all_cons List.all_nil List.size_toArray Nat.lt_add_one Nat.zero_lt_succ Nat.one_ne_zero Nat.zero_ne_one and_self List.replicate_succ List.replicate_zero Int.toNat_natCast Int.toNat_zero Value.cells false_implies true_implies forall_const Thn InBlk Nat.zero_add Nat.add_zero Int.zero_add Ele Env.ren Option.some.injEq AV.v.injEq AV.sl.injEq AV.pp.injEq AV.ep.injEq AV.agg.injEq List.cons.injEq Value.int.injEq Value.bool.injEq Value.string.injEq true_or or_true or_false false_or guardOk evN pastY deadAll AObj.gone List.foldl_cons List.foldl_nil List.contains_cons List.contains_nil Tryz.underlying0 Tryz.underlying1 Tryz.underlying2 Tryz.underlying3 Tryz.underlying4 Tryz.underlying5 Tryz.underlying6 Tryz.underlying7 Tryz.underlying8 Tryz.underlying9 Tryz.underlying10 Tryz.underlying12 Tryz.underlying16 Tryz.underlying17 Tryz.underlying20 Tryz.underlying21 Tryz.underlying22 Tryz.underlying23 Tryz.underlying24 Tryz.underlying25 Tryz.underlying28 Tryz.underlying32 Tryz.underlying33 Tryz.underlying34 Tryz.underlying35 Tryz.underlying36 Tryz.underlying38 Tryz.underlying39 Tryz.underlying40 Tryz.underlying42 Tryz.underlying44 Tryz.underlying45 Tryz.underlying46 Tryz.underlying47 Tryz.underlying48 Tryz.underlying49 Tryz.underlying50 Tryz.underlying51 Tryz.underlying52 Tryz.underlying53 Tryz.underlying54 Tryz.underlying55 Tryz.underlying56 Tryz.underlying57 Tryz.underlying58 Tryz.underlying59 Tryz.underlying60 Tryz.underlying61 Tryz.underlying62 Tryz.underlying63 Tryz.underlying64 Tryz.underlying65 Tryz.underlying70 Tryz.underlying71 Tryz.underlying73 Tryz.underlying77 Tryz.underlying78 Tryz.underlying80 Tryz.underlying82 Tryz.underlying83 Tryz.underlying84 Tryz.underlying85 Tryz.underlying86 Tryz.underlying87 Tryz.underlying93 Tryz.underlying95 Tryz.underlying96 Tryz.underlying97 Tryz.underlying98 Tryz.underlying99 Tryz.underlying100 Tryz.underlying101 Tryz.underlying102 Tryz.underlying103 Tryz.underlying104 Tryz.underlying105 Tryz.underlying106 Tryz.underlying107 Tryz.underlying108 Tryz.underlying109 Tryz.underlying110 Tryz.underlying111 Tryz.underlying112 Tryz.underlying113 Tryz.underlying114 Tryz.underlying115 Tryz.underlying116 Tryz.underlying117 Tryz.underlying118 Tryz.underlying119 Tryz.underlying120 Tryz.underlying121 Tryz.underlying122 Tryz.underlying124 Tryz.underlying125 Tryz.underlying126 Tryz.underlying128 Tryz.underlying131 Tryz.underlying133 Tryz.underlying134 Tryz.underlying135 Tryz.underlying136 Tryz.underlying140 Tryz.underlying143 Tryz.underlying147 Tryz.underlying148 Tryz.underlying150 Tryz.underlying152 Tryz.underlying153 Tryz.underlying155 Tryz.underlying156 Tryz.underlying158 Tryz.underlying159 Tryz.underlying160 Tryz.underlying161 Tryz.underlying162 Tryz.underlying166 Tryz.underlying168 Tryz.underlying169 Tryz.underlying170 Tryz.underlying175 Tryz.underlying178 Tryz.underlying180 Tryz.underlying181 Tryz.underlying182 Tryz.underlying183 Tryz.underlying184 Tryz.underlying185 Tryz.underlying186 Tryz.underlying187 Tryz.underlying188 Tryz.underlying189 Tryz.underlying190 Tryz.underlying192 Tryz.underlying195 Tryz.underlying198 Tryz.underlying207 Tryz.underlying209 Tryz.underlying213 Tryz.underlying218 Tryz.underlying220 Tryz.underlying221 Tryz.underlying222 Tryz.underlying223 Tryz.underlying224 Tryz.underlying225 Tryz.underlying231 Tryz.underlying232 Tryz.underlying236 Tryz.underlying237 Tryz.underlying249 Tryz.underlying251 Tryz.underlying254 Tryz.underlying255 Tryz.underlying256 Tryz.underlying262 Tryz.underlying263 Tryz.underlying264 Tryz.underlying265 Tryz.underlying266 Tryz.underlying273 Tryz.underlying274 Tryz.underlying275 Tryz.underlying276 Tryz.underlying277 Tryz.underlying278 Tryz.underlying279 Tryz.underlying280 Tryz.underlying281 Tryz.underlying282 Tryz.underlying283 Tryz.underlying284 Tryz.underlying286 Tryz.underlying287 Tryz.underlying288 Tryz.underlying289 Tryz.underlying294 Tryz.underlying295 Tryz.underlying296 Tryz.underlying298 Tryz.underlying299 Tryz.underlying300 Tryz.underlying301 Tryz.underlying302 Tryz.underlying303 Tryz.underlying304 Tryz.underlying308 Tryz.underlying310 Tryz.underlying312 Tryz.underlying313 l1InG l4BeforeG isNaNG cmpIntG cmpEndsG cmpMsgG hop1G cost1G ftC tf0 tf1 tf2 tf3 tf4 tf5 tf6 tf7 tf8 tf9 tf10 tf11 tf12 tf13 tf14 tf15 tf16 tf17
theorem k_strings_Cut [T0] (a0 a1 : ByteArray) {r : ByteArray × ByteArray × Bool} (h : strings_Cut a0 a1 = some r) :
 FnA Tryz.prog 40 [.v (.string a0), .v (.string a1)] [.glob 0 (.ints .i64 tab0)] [] (fun x H => x = .tup [.v (.string r.1), .v (.string r.2.1), bV r.2.2] ∧ H = [.glob 0 (.ints .i64 tab0)]) := by
 unfold strings_Cut at h
 obtain ⟨h1, h⟩ := chk_some h
 simp only [Option.some.injEq] at h
 subst h
 obtain ⟨m, hm⟩ := List.length_eq_one_iff.1 T0.hl
 rw [show tab0 = [m] from hm]
 exact cut_str Go.Proofs.Tryz.lcut rfl rfl en40 a0 a1 m h1
theorem k_strings_Split [T0] (a0 a1 : ByteArray) {r : List ByteArray} (h : strings_Split a0 a1 = some r) :
 FnA Tryz.prog 73 [.v (.string a0), .v (.string a1)] [.glob 0 (.ints .i64 tab0)] [] (fun x H => x = .sl 1 ∧ H = [.glob 0 (.ints .i64 tab0), .row true (.strs r)]) := by
 unfold strings_Split at h
 obtain ⟨h1, h⟩ := chk_some h
 obtain ⟨h2, h⟩ := chk_some h
 simp only [Option.some.injEq] at h
 subst h
 obtain ⟨m, hm⟩ := List.length_eq_one_iff.1 T0.hl
 rw [show tab0 = [m] from hm]
 exact spl_str Go.Proofs.Tryz.lsplit (by kernel_rfl) rfl rfl en73 a0 a1 m h1 h2
theorem k_spec_l20Rd_pick {a0_0 a0_1 a1 r} (h : spec_l20Rd_pick a0_0 a0_1 a1 = some r) : KA Tryz.prog 26 [.pp 0 0, iV a1] [.box [.sl 1, iV a0_1], rY a0_0] (iV r.1) [.box [.sl 1, iV r.2], rY a0_0] := by
 unfold spec_l20Rd_pick at h
 refine FnA.ofA 99 [0, 1] [.tmp 4] Tryz.func26 en26 ?_
 refine rg [] [] ?_
 replace ⟨p, h⟩ := k1 h
 refine rm [] [] [(0, .box [.sl 1, iV (a0_1 + 1)])] [] ?_
 refine awp_seq fun K2 hK2 => ?_
 refine rg [] [(24, bV ((decide (a1 < 1)) || ((a0_0.length : Int) == 0)))] ?_
 refine awp_if h ?_ ?_ <;> intro hc h
 ·refine rg [0, 1, 24] [(4, iV 0)] ?_
  exact fr [0, 1]
 refine sk hK2 ?_
 replace ⟨p, h⟩ := k1 h
 refine rg [24] [(5, iV ((a0_1 + 1) - 1))] ?_
 refine awp_seq fun K5 hK5 => ?_
 refine rg [] [(36, bV (decide (((a0_1 + 1) - 1) < (a0_0.length : Int))))] ?_
 refine awp_if h ?_ ?_ <;> intro hc h
 ·replace ⟨p, h⟩ := k3 h
  refine rg [0, 1, 5, 36] [(4, iV ((a0_0.getD (((a0_1 + 1) - 1).toNat) 0) % a1))] ?_
  exact fr [0, 1]
 refine sk hK5 ?_
 replace ⟨p, h⟩ := k8 h
 replace ⟨pa, h⟩ := k8 h
 refine qg [0, 5, 36] [(6, iV (((((a0_0.getD ((((a0_1 + 1) - 1) % (a0_0.length : Int)).toNat) 0) * 131) + ((a0_0.getD ((((((a0_1 + 1) - 1) * 7) + 3) % (a0_0.length : Int)).toNat) 0) * 1117)) + (((a0_1 + 1) - 1) * 29)) + ((((a0_1 + 1) - 1) / (a0_0.length : Int)) * 53)))] ?_
 replace ⟨p, h⟩ := k1 h
 refine rg [6] [(6, iV (bitsV .xor .i64 (((((a0_0.getD ((((a0_1 + 1) - 1) % (a0_0.length : Int)).toNat) 0) * 131) + ((a0_0.getD ((((((a0_1 + 1) - 1) * 7) + 3) % (a0_0.length : Int)).toNat) 0) * 1117)) + (((a0_1 + 1) - 1) * 29)) + ((((a0_1 + 1) - 1) / (a0_0.length : Int)) * 53)) ((((((a0_0.getD ((((a0_1 + 1) - 1) % (a0_0.length : Int)).toNat) 0) * 131) + ((a0_0.getD ((((((a0_1 + 1) - 1) * 7) + 3) % (a0_0.length : Int)).toNat) 0) * 1117)) + (((a0_1 + 1) - 1) * 29)) + ((((a0_1 + 1) - 1) / (a0_0.length : Int)) * 53)) / 64)))] ?_
 replace ⟨p, h⟩ := k1 h
 refine rg [1, 6] [(4, iV ((bitsV .xor .i64 (((((a0_0.getD ((((a0_1 + 1) - 1) % (a0_0.length : Int)).toNat) 0) * 131) + ((a0_0.getD ((((((a0_1 + 1) - 1) * 7) + 3) % (a0_0.length : Int)).toNat) 0) * 1117)) + (((a0_1 + 1) - 1) * 29)) + ((((a0_1 + 1) - 1) / (a0_0.length : Int)) * 53)) ((((((a0_0.getD ((((a0_1 + 1) - 1) % (a0_0.length : Int)).toNat) 0) * 131) + ((a0_0.getD ((((((a0_1 + 1) - 1) * 7) + 3) % (a0_0.length : Int)).toNat) 0) * 1117)) + (((a0_1 + 1) - 1) * 29)) + ((((a0_1 + 1) - 1) / (a0_0.length : Int)) * 53)) / 64)) % a1))] ?_
 exact fr [0, 1]
theorem k_spec_l20Edge {a0_0 a0_1 a1 r} (h : spec_l20Edge a0_0 a0_1 a1 = some r) : KA Tryz.prog 28 [.pp 0 0, iV a1] [.box [.sl 1, iV a0_1], rY a0_0] (.agg [iV r.1, iV r.2.1, iV r.2.2.1]) [.box [.sl 1, iV r.2.2.2], rY a0_0] := by
 unfold spec_l20Edge at h
 refine FnA.ofA 21 [0, 1] [.cell 4 39] Tryz.func28 en28 ?_
 refine rm [] [(4, .pp 2 0)] [] [.box [iV 0, iV 0, iV 0]] ?_
 replace ⟨y, y_1, hr0, h⟩ := bd2 h
 replace ⟨y_2, y_3, hr1, h⟩ := bd2 h
 replace ⟨y_4, y_5, hr2, h⟩ := bd2 h
 replace ⟨y_6, y_7, hr3, h⟩ := bd2 h
 replace ⟨p, h⟩ := k1 h
 refine rc [0, 1] [] [(0, .box [.sl 1, iV y_7]), (1, .box [iV y, iV y_2, iV (([y_4, 0, 1, 20] : List Int).getD y_6.toNat 0)])] [oI [y_4, 0, 1, 20]] [⟨3, [0, 1], k_spec_l20Rd_pick hr0⟩, ⟨3, [0, 1], k_spec_l20Rd_pick hr1⟩, ⟨1, [0, 1], k_spec_l20Rd_pick hr2⟩, ⟨2, [0, 1], k_spec_l20Rd_pick hr3⟩] ?_
 exact fr [0, 1]
theorem k_spec_l1OwnGraph {a0_0 a0_1 r} (h : spec_l1OwnGraph a0_0 a0_1 = some r) : KA Tryz.prog 44 [.agg [iV a0_0, .sl 0]] [rT a0_1] (.agg [iV r.1, .sl 1]) [rT a0_1, oT r.2] := by
 unfold spec_l1OwnGraph at h
 refine FnA.ofA 11 [0] [.cell 2 25] Tryz.func44 en44 ?_
 refine rm [0] [(1, .pp 1 0), (2, .pp 2 0)] [] [.box [iV a0_0, .sl 0], .box [iV 0, nV]] ?_
 refine fz 1 ?_
 refine rm [] [(3, .pp 3 0)] [] [.box [iV a0_0, .sl 0]] ?_
 replace ⟨p, h⟩ := k1 h
 refine rm [1] [] [(3, .box [iV a0_0, .sl 4])] [oT ([] ++ a0_1)] ?_
 refine rm [3] [] [(2, .box [iV a0_0, .sl 4])] [] ?_
 exact fr [0, 4]
theorem k_spec_GraphValid {a0_0 a0_1 r} (h : spec_GraphValid a0_0 a0_1 = some r) : KA Tryz.prog 8 [.agg [iV a0_0, .sl 0]] [rT a0_1] (bV r) [rT a0_1] := by
 unfold spec_GraphValid at h
 refine FnA.ofA 70 [0] [.tmp 2] Tryz.func8 en8 ?_
 refine rm [0] [(1, .pp 1 0)] [] [.box [iV a0_0, .sl 0]] ?_
 refine fz 1 ?_
 refine awp_seq fun K20 hK20 => ?_
 refine rg [] [(3, iV 0)] ?_
 refine awp_block ?_
 refine lp2 h (fun t3 => [(1, .pp 1 0), (3, iV t3)]) (fun t3 => [rT a0_1, .rbox [iV a0_0, .sl 0]]) (fun _ => Exit.exit 0) (fun _ => [(1, .pp 1 0)]) (fun _ => [rT a0_1, .rbox [iV a0_0, .sl 0]]) (fun _ => Exit.ret) (fun _ => [(2, bV false)]) (fun _ => [rT a0_1]) ?_ ?_ ?_
 ·rintro t3 r h
  unfold spec_GraphValid_b0 at h
  try dsimp only
  refine awp_seq fun K34 hK34 => ?_
  refine rg [] [(9, bV (decide (t3 < (a0_1.length : Int))))] ?_
  refine awp_if h ?_ ?_ <;> intro hc h
  ·refine sk hK34 ?_
   refine awp_seq fun K37 hK37 => ?_
   refine awp_block ?_
   replace ⟨p, h⟩ := k1 h
   refine rm [9] [(4, .pp 2 0)] [] [.box [iV ((a0_1.getD t3.toNat (0, 0, 0)).1), iV ((a0_1.getD t3.toNat (0, 0, 0)).2.1), iV ((a0_1.getD t3.toNat (0, 0, 0)).2.2)]] ?_
   replace ⟨⟨_, hp1⟩, h⟩ := k2 h
   refine qm [4] [(60, bV (((((!(decide (0 ≤ (a0_1.getD t3.toNat (0, 0, 0)).1) && decide ((a0_1.getD t3.toNat (0, 0, 0)).1 ≤ (IntKind.i64.wrap (a0_0 - 1))))) || (!(decide (0 ≤ (a0_1.getD t3.toNat (0, 0, 0)).2.1) && decide ((a0_1.getD t3.toNat (0, 0, 0)).2.1 ≤ (IntKind.i64.wrap (a0_0 - 1)))))) || ((a0_1.getD t3.toNat (0, 0, 0)).1 == (a0_1.getD t3.toNat (0, 0, 0)).2.1)) || (!(decide (0 ≤ (a0_1.getD t3.toNat (0, 0, 0)).2.2) && decide ((a0_1.getD t3.toNat (0, 0, 0)).2.2 ≤ 20)))) || ((decide (0 < t3)) && (!(decide ((a0_1.getD ((t3 - 1).toNat) (0, 0, 0)).1 < (a0_1.getD t3.toNat (0, 0, 0)).1 ∨ (a0_1.getD ((t3 - 1).toNat) (0, 0, 0)).1 = (a0_1.getD t3.toNat (0, 0, 0)).1 ∧ (a0_1.getD ((t3 - 1).toNat) (0, 0, 0)).2.1 < (a0_1.getD t3.toNat (0, 0, 0)).2.1))))))] [] [] ?_
   refine awp_if h ?_ ?_ <;> intro hc h
   ·refine rg [1, 3, 60] [(2, bV false)] ?_
    exact lors [0]
   refine sk hK37 ?_
   replace ⟨p, h⟩ := k1 h
   refine eg [3, 60] [(3, iV (t3 + 1))] ?_
   exact lns [0, 1]
  exact lo
 ·rintro ⟨⟩ h
  try dsimp only
  refine hK20 _ _ ?_
  refine rg [1] [(2, bV ((decide (0 ≤ a0_0) && decide (a0_0 ≤ 16)) && (decide ((a0_1.length : Int) ≤ 40))))] ?_
  exact fr [0]
 rintro ⟨⟩ h
 try dsimp only
 exact fr [0]
theorem k_spec_AddEdge {a0_0 a0_1 a1_0 a1_1 a1_2 r} (h : spec_AddEdge a0_0 a0_1 a1_0 a1_1 a1_2 = some r) : KA Tryz.prog 27 [.agg [iV a0_0, .sl 0], .agg [iV a1_0, iV a1_1, iV a1_2]] [rT a0_1] (.tup [.agg [iV r.1, .sl 1], bV r.2.2]) [rT a0_1, oT r.2.1] := by
 unfold spec_AddEdge at h
 refine FnA.ofA 82 [0] [.cell 4 25, .tmp 5] Tryz.func27 en27 ?_
 refine rm [0, 1] [(2, .pp 1 0), (3, .pp 2 0), (4, .pp 3 0)] [] [.box [iV a0_0, .sl 0], .box [iV a1_0, iV a1_1, iV a1_2], .box [iV 0, nV]] ?_
 refine fz 3 ?_
 replace ⟨y, y_1, hr0, h⟩ := bd2 h
 refine rc [] [] [(1, .box [iV y, .sl 4])] [oT y_1] [⟨1, [0], k_spec_l1OwnGraph hr0⟩] ?_
 refine awp_seq fun K2 hK2 => ?_
 replace ⟨y_2, hr0, h⟩ := bd h
 refine rc [] [(14, bV (!y_2))] [] [] [⟨1, [4], k_spec_GraphValid hr0⟩] ?_
 refine awp_if h ?_ ?_ <;> intro hc h
 ·refine rg [2, 3, 14] [(5, bV false)] ?_
  refine nc 3 1 (.trips []) ?_
  exact fr [0, 5]
 refine sk hK2 ?_
 refine rm [14] [(6, .pp 5 0)] [] [.box [iV y, nV]] ?_
 refine rg [] [(7, bV false)] ?_
 refine awp_seq fun K49 hK49 => ?_
 refine rg [] [(8, iV 0)] ?_
 refine awp_block ?_
 refine lp h (fun (t7, t8, t6_1s) => [(2, .pp 1 0), (3, .pp 3 0), (4, .pp 4 0), (6, .pp 5 0), (7, bV t7), (8, iV t8)]) (fun (t7, t8, t6_1s) => [rT a0_1, .box [iV y, .sl 2], oT y_1, .rbox [iV a1_0, iV a1_1, iV a1_2], .box [iV 0, nV], .box [iV y, .sl 6], oT t6_1s]) (fun _ => Exit.exit 0) (fun (t7_1, t6_1s_1) => [(2, .pp 1 0), (3, .pp 3 0), (4, .pp 4 0), (6, .pp 5 0), (7, bV t7_1)]) (fun (t7_1, t6_1s_1) => [rT a0_1, .box [iV y, .sl 2], oT y_1, .rbox [iV a1_0, iV a1_1, iV a1_2], .box [iV 0, nV], .box [iV y, .sl 6], oT t6_1s_1]) ?_ ?_ (h0 := by refine Red.trans (Red.nilCell (o := 5) (i := 1) (.trips []) rfl rfl rfl) ?_; exact Red.selA [0, 1, 4, 2, 3, 5, 6] Red.auto)
 ·rintro ⟨t7, t8, t6_1s⟩ r h
  unfold spec_AddEdge_b0 at h
  try dsimp only
  refine awp_seq fun K84 hK84 => ?_
  refine rg [] [(23, bV (decide (t8 < (y_1.length : Int))))] ?_
  refine awp_if h ?_ ?_ <;> intro hc h
  ·refine sk hK84 ?_
   refine awp_join h (fun (t7_2, t6_1s_2) => [(2, .pp 1 0), (3, .pp 3 0), (4, .pp 4 0), (6, .pp 5 0), (7, bV t7_2), (8, iV t8)]) (fun (t7_2, t6_1s_2) => [rT a0_1, .box [iV y, .sl 2], oT y_1, .rbox [iV a1_0, iV a1_1, iV a1_2], .box [iV 0, nV], .box [iV y, .sl 6], oT t6_1s_2]) ?_ ?_
   ·intro k h
    refine awp_block ?_
    replace ⟨p, h⟩ := k1 h
    refine rm [23] [(9, .pp 7 0)] [] [.box [iV ((y_1.getD t8.toNat (0, 0, 0)).1), iV ((y_1.getD t8.toNat (0, 0, 0)).2.1), iV ((y_1.getD t8.toNat (0, 0, 0)).2.2)]] ?_
    refine awp_join h (fun (t7_3, t6_1s_3) => [(2, .pp 1 0), (3, .pp 3 0), (4, .pp 4 0), (6, .pp 5 0), (7, bV t7_3), (8, iV t8), (9, .pp 7 0)]) (fun (t7_3, t6_1s_3) => [rT a0_1, .box [iV y, .sl 2], oT y_1, .rbox [iV a1_0, iV a1_1, iV a1_2], .box [iV 0, nV], .box [iV y, .sl 6], oT t6_1s_3, .box [iV ((y_1.getD t8.toNat (0, 0, 0)).1), iV ((y_1.getD t8.toNat (0, 0, 0)).2.1), iV ((y_1.getD t8.toNat (0, 0, 0)).2.2)]]) ?_ ?_
    ·intro k_1 h
     refine rg [] [(38, bV ((!t7) && (!(decide ((y_1.getD t8.toNat (0, 0, 0)).1 < a1_0 ∨ (y_1.getD t8.toNat (0, 0, 0)).1 = a1_0 ∧ (y_1.getD t8.toNat (0, 0, 0)).2.1 < a1_1)))))] ?_
     refine awp_if h ?_ ?_ <;> intro hc h
     ·replace ⟨p, h⟩ := k1 h
      refine rm [7, 38] [] [(6, oT (t6_1s ++ [(a1_0, a1_1, a1_2)]))] [oT [(a1_0, a1_1, a1_2)]] ?_
      refine rg [] [(7, bV true)] ?_
      refine rg [] [(56, bV (((y_1.getD t8.toNat (0, 0, 0)).1 == a1_0) && ((y_1.getD t8.toNat (0, 0, 0)).2.1 == a1_1)))] ?_
      refine awp_if h ?_ ?_ <;> intro hc h
      ·refine awp_exit ?_
       exact jos [0, 1, 2, 3, 4, 5, 6]
      refine awp_skip ?_
      exact jos [0, 1, 2, 3, 4, 5, 6, 7]
     refine awp_skip ?_
     exact jo
    rintro ⟨t7_3, t6_1s_3⟩ h
    try dsimp only
    replace ⟨p, h⟩ := k1 h
    refine em [9] [] [(6, oT (t6_1s_3 ++ [((y_1.getD t8.toNat (0, 0, 0)).1, (y_1.getD t8.toNat (0, 0, 0)).2.1, (y_1.getD t8.toNat (0, 0, 0)).2.2)]))] [oT [((y_1.getD t8.toNat (0, 0, 0)).1, (y_1.getD t8.toNat (0, 0, 0)).2.1, (y_1.getD t8.toNat (0, 0, 0)).2.2)]] ?_
    exact jos [0, 1, 2, 3, 4, 5, 6]
   rintro ⟨t7_2, t6_1s_2⟩ h
   try dsimp only
   replace ⟨p, h⟩ := k1 h
   refine eg [8] [(8, iV (t8 + 1))] ?_
   exact ln
  exact lo
 rintro ⟨t7_1, t6_1s_1⟩ h
 try dsimp only
 refine hK49 _ _ ?_
 refine awp_join h (fun t6_1s_4 => [(2, .pp 1 0), (4, .pp 3 0), (6, .pp 4 0)]) (fun t6_1s_4 => [rT a0_1, .box [iV y, .sl 2], oT y_1, .box [iV 0, nV], .box [iV y, .sl 5], oT t6_1s_4]) ?_ ?_
 ·intro k_2 h
  refine rg [7] [(64, bV (!t7_1))] ?_
  refine awp_if h ?_ ?_ <;> intro hc h
  ·replace ⟨p, h⟩ := k1 h
   refine em [3, 64] [] [(6, oT (t6_1s_1 ++ [(a1_0, a1_1, a1_2)]))] [oT [(a1_0, a1_1, a1_2)]] ?_
   exact jos [0, 1, 2, 4, 5, 6]
  refine awp_skip ?_
  exact jos [0, 1, 2, 4, 5, 6]
 rintro t6_1s_4 h
 try dsimp only
 refine awp_seq fun K98 hK98 => ?_
 replace ⟨y_3, hr0, h⟩ := bd h
 refine rc [] [(73, bV (!y_3))] [] [] [⟨1, [5], k_spec_GraphValid hr0⟩] ?_
 refine awp_if h ?_ ?_ <;> intro hc h
 ·refine awp_freeze 2 (by rfl) (by rfl) (by first | exact rfl | (simp only [List.map_cons, List.map_nil, List.set_cons_succ, List.set_cons_zero, AObj.unview, reduceCtorEq, ↓reduceIte, Nat.reduceEqDiff]; exact rfl)) ?_
  replace ⟨p, h⟩ := k1 h
  refine dm (.free 0 (.free 3 (.free 1 (.free 4 (.one 2 (.one 5 (.one 6 (.one 7 (.one 8 .fin))))))))) [2, 6, 73] [(5, bV false)] [(3, .box [iV y, .sl 6])] [oT ([] ++ y_1)] ?_
  exact fr [0, 6]
 refine sk hK98 ?_
 refine rm [2, 6, 73] [(5, bV true)] [(3, .box [iV y, .sl 5])] [] ?_
 exact fr [0, 5]
theorem k_spec_l20Rd_odd {a0_0 a0_1 a1 r} (h : spec_l20Rd_odd a0_0 a0_1 a1 = some r) : KA Tryz.prog 29 [.pp 0 0, iV a1] [.box [.sl 1, iV a0_1], rY a0_0] (bV r.1) [.box [.sl 1, iV r.2], rY a0_0] := by
 unfold spec_l20Rd_odd at h
 refine FnA.ofA 15 [0, 1] [.tmp 4] Tryz.func29 en29 ?_
 refine rg [] [] ?_
 replace ⟨y, y_1, hr0, h⟩ := bd2 h
 have c0 := cm [0, 1] (fun g0 => k_spec_l20Rd_pick (bite_t hr0 g0))
 refine rm [0, 1] [(4, bV ((decide (0 < a1)) && (y == (IntKind.i64.wrap (a1 - 1)))))] [(0, .box [.sl 1, iV y_1])] [] ?_
 exact fr [0, 1]
theorem k_spec_l20Graph {a0_0 a0_1 a1 r} (h : spec_l20Graph a0_0 a0_1 a1 = some r) : KA Tryz.prog 11 [.pp 0 0, iV a1] [.box [.sl 1, iV a0_1], rY a0_0] (.agg [iV r.1, .sl 2]) [.box [.sl 1, iV r.2.2], rY a0_0, oT r.2.1] := by
 unfold spec_l20Graph at h
 refine FnA.ofA 72 [0, 1] [.cell 4 25] Tryz.func11 en11 ?_
 refine rm [] [(4, .pp 2 0)] [] [.box [iV 0, nV]] ?_
 replace ⟨y, y_1, hr0, h⟩ := bd2 h
 replace ⟨y_2, y_3, hr1, h⟩ := bd2 h
 replace ⟨p, h⟩ := k1 h
 replace ⟨y_4, y_5, hr3, h⟩ := bd2 h
 replace ⟨pa, h⟩ := k2 h
 refine rc [] [(5, .pp 5 0)] [(0, .box [.sl 1, iV y_5])] [oI [y, (2 + y_2), 16, 0], oI [0, 1, 1, 1, 1, 1, 2, 3], .box [iV (([y, (2 + y_2), 16, 0] : List Int).getD ((([0, 1, 1, 1, 1, 1, 2, 3] : List Int).getD y_4.toNat 0).toNat) 0), nV]] [⟨1, [0, 1], k_spec_l20Rd_pick hr0⟩, ⟨1, [0, 1], k_spec_l20Rd_pick hr1⟩, ⟨4, [0, 1], k_spec_l20Rd_pick hr3⟩] ?_
 refine awp_seq fun K18 hK18 => ?_
 replace ⟨y_6, y_7, hr0, h⟩ := bd2 h
 refine rc [] [(6, iV y_6)] [(0, .box [.sl 1, iV y_7])] [] [⟨1, [0, 1], k_spec_l20Rd_pick hr0⟩] ?_
 refine awp_block ?_
 refine lp h (fun (t6, p0_1, t5_0, t5_1s) => [(0, .pp 0 0), (1, iV a1), (4, .pp 2 0), (5, .pp 4 0), (6, iV t6)]) (fun (t6, p0_1, t5_0, t5_1s) => [.box [.sl 1, iV p0_1], rY a0_0, .box [iV 0, .sl 3], oT [], .box [iV t5_0, .sl 5], oT t5_1s]) (fun _ => Exit.exit 0) (fun (p0_1_1, t5_0_1, t5_1s_1) => [(0, .pp 0 0), (1, iV a1), (4, .pp 2 0), (5, .pp 4 0)]) (fun (p0_1_1, t5_0_1, t5_1s_1) => [.box [.sl 1, iV p0_1_1], rY a0_0, .box [iV 0, .sl 3], oT [], .box [iV t5_0_1, .sl 5], oT t5_1s_1]) ?_ ?_ (h0 := by refine Red.trans (Red.nilCell (o := 2) (i := 1) (.trips []) rfl rfl rfl) ?_; refine Red.trans (Red.nilCell (o := 5) (i := 1) (.trips []) rfl rfl rfl) ?_; exact Red.selA [0, 1, 2, 6, 5, 7] Red.auto)
 ·rintro ⟨t6, p0_1, t5_0, t5_1s⟩ r h
  unfold spec_l20Graph_b0 at h
  try dsimp only
  refine awp_seq fun K32 hK32 => ?_
  refine rg [] [(24, bV (decide (0 < t6)))] ?_
  refine awp_if h ?_ ?_ <;> intro hc h
  ·refine sk hK32 ?_
   refine awp_seq fun K34 hK34 => ?_
   refine awp_block ?_
   replace ⟨y_8, y_9, y_10, y_11, hr0, h⟩ := bd4 h
   replace ⟨y_12, y_13, y_14, hr1, h⟩ := bd3 h
   have c0 := cm [0, 1] (k_spec_l20Edge hr0)
   have c1 := cm [5] (k_spec_AddEdge hr1)
   refine de (.free 1 (.free 2 (.two 0 3 (.one 3 (.one 4 (.one 5 (.one 6 (.free 7 (.free 8 (.one 9 .fin))))))) (.two 0 4 (.one 4 (.one 5 (.one 6 (.free 7 (.free 8 (.one 9 .fin)))))) (.one 0 (.one 5 (.one 6 (.free 7 (.free 8 (.one 9 .fin)))))))))) [24] [] [(0, .box [.sl 1, iV y_11]), (3, .box [iV y_12, .sl 6])] [oT y_13] ?_
   refine hK34 _ _ ?_
   replace ⟨p, h⟩ := k1 h
   refine eg [6] [(6, iV (t6 - 1))] ?_
   exact lns [0, 1, 2, 3, 4, 6]
  exact lo
 rintro ⟨p0_1_1, t5_0_1, t5_1s_1⟩ h
 try dsimp only
 refine hK18 _ _ ?_
 refine awp_join h (fun (p0_1_2, t5_0_2, t5_1s_2) => [(4, .pp 2 0), (5, .pp 4 0)]) (fun (p0_1_2, t5_0_2, t5_1s_2) => [.box [.sl 1, iV p0_1_2], rY a0_0, .box [iV 0, .sl 3], oT [], .box [iV t5_0_2, .sl 5], oT t5_1s_2]) ?_ ?_
 ·intro k h
  replace ⟨y_15, y_16, hr0, h⟩ := bd2 h
  refine rc [1] [(38, bV y_15)] [(0, .box [.sl 1, iV y_16])] [] [⟨2, [0, 1], k_spec_l20Rd_odd hr0⟩] ?_
  refine awp_if h ?_ ?_ <;> intro hc h
  ·replace ⟨y_17, y_18, hr0, h⟩ := bd2 h
   refine rc [38] [(40, iV y_17)] [(0, .box [.sl 1, iV y_18])] [] [⟨1, [0, 1], k_spec_l20Rd_pick hr0⟩] ?_
   refine awp_block ?_
   refine rg [] [(47, bV (y_17 == 0))] ?_
   refine awp_if h ?_ ?_ <;> intro hc h
   ·replace ⟨y_19, y_20, hr0, h⟩ := bd2 h
    replace ⟨p, h⟩ := k1 h
    refine ec [0, 40, 47] [] [(0, .box [.sl 1, iV y_20]), (3, .box [iV (([(-1), 17] : List Int).getD y_19.toNat 0), .sl 5])] [oI [(-1), 17]] [⟨2, [0, 1], k_spec_l20Rd_pick hr0⟩] ?_
    exact jos [0, 1, 2, 3, 4, 5]
   refine rg [0, 47] [(55, bV (y_17 == 1))] ?_
   refine awp_if h ?_ ?_ <;> intro hc h
   ·replace ⟨p, h⟩ := k1 h
    refine em [40, 55] [] [(5, oT (t5_1s_1 ++ [(0, 0, 0)]))] [oT [(0, 0, 0)]] ?_
    exact jos [0, 1, 2, 3, 4, 5]
   refine rg [40, 55] [(63, bV (y_17 == 2))] ?_
   refine awp_if h ?_ ?_ <;> intro hc h
   ·replace ⟨p, h⟩ := k1 h
    refine em [63] [] [(5, oT (t5_1s_1 ++ [(0, 1, 21)]))] [oT [(0, 1, 21)]] ?_
    exact jos [0, 1, 2, 3, 4, 5]
   replace ⟨p, h⟩ := k1 h
   refine em [63] [] [(4, .box [iV t5_0_1, .sl 6])] [oT ([(15, 0, 0)] ++ t5_1s_1)] ?_
   exact jos [0, 1, 2, 3, 4, 6]
  refine awp_skip ?_
  exact jo
 rintro ⟨p0_1_2, t5_0_2, t5_1s_2⟩ h
 try dsimp only
 refine rm [5] [] [(2, .box [iV t5_0_2, .sl 5])] [] ?_
 exact fr [0, 1, 5]
theorem k_spec_l20Open_v1 {a0 r} (h : spec_l20Open_v1 a0 = some r) : KA Tryz.prog 12 [.sl 0] [rY a0, .box [iV 0, nV]] (.pp 2 0) [rY a0, .box [iV 0, nV], .box [.sl 3, iV r.2], rY r.1] := by
 unfold spec_l20Open_v1 at h
 refine FnA.ofA 11 [0, 1] [.tmp 2] Tryz.func12 en12 ?_
 refine rg [] [] ?_
 refine awp_join h (fun t0s => [(0, .sl 2)]) (fun t0s => [rY a0, .box [iV 0, nV], rY t0s]) ?_ ?_
 ·intro k h
  refine rg [] [(5, bV (decide (2000 < (a0.length : Int))))] ?_
  refine awp_if h ?_ ?_ <;> intro hc h
  ·replace ⟨p, h⟩ := k1 h
   refine em [0, 5] [(0, .sl 2)] [] [rY ((a0.take 2000).drop 0)] ?_
   exact jo
  refine awp_skip ?_
  refine nm ?_
  refine ⟨_, h, ?_⟩
  refine Red.trans (Red.dup (t := 0) rfl rfl) ?_
  exact Red.auto
 rintro t0s h
 try dsimp only
 refine rm [0] [(2, .pp 3 0)] [] [.box [.sl 2, iV 0]] ?_
 exact fr [0, 1, 3, 2]
theorem k_spec_DrawGraphBytes {a0 r} (h : spec_DrawGraphBytes a0 = some r) : KA Tryz.prog 4 [.sl 0] [rY a0] (.agg [iV r.1, .sl 1]) [rY a0, oT r.2] := by
 unfold spec_DrawGraphBytes at h
 refine FnA.ofA 6 [0] [.cell 2 25] Tryz.func4 en4 ?_
 refine rm [] [(2, .pp 1 0)] [] [.box [iV 0, nV]] ?_
 replace ⟨y, y_1, hr0, h⟩ := bd2 h
 replace ⟨y_2, y_3, y_4, hr1, h⟩ := bd3 h
 have c0 := cm [2, 3] (k_spec_l20Graph hr1)
 have d0 := k_spec_l20Open_v1 hr0
 refine rm [0] [] [(1, .box [iV y_2, .sl 4])] [.box [.sl 3, iV y_4], rY y, oT y_3] ?_
 exact fr [0, 4]
theorem k_impl_Graph_has {a0_0 a0_1 a1 r} (h : impl_Graph_has a0_0 a0_1 a1 = some r) : KA Tryz.prog 30 [.agg [iV a0_0, .sl 0], iV a1] [rT a0_1] (bV r) [rT a0_1] := by
 unfold impl_Graph_has at h
 refine FnA.ofA 13 [0] [.tmp 4] Tryz.func30 en30 ?_
 refine rm [0] [(2, .pp 1 0)] [] [.box [iV a0_0, .sl 0]] ?_
 refine fz 2 ?_
 refine rg [1, 2] [(4, bV ((decide (0 ≤ a1)) && (decide (a1 < a0_0))))] ?_
 exact fr [0]
theorem k_impl_GraphValid {a0_0 a0_1 r} (h : impl_GraphValid a0_0 a0_1 = some r) : KA Tryz.prog 13 [.agg [iV a0_0, .sl 0]] [rT a0_1] (bV r) [rT a0_1] := by
 unfold impl_GraphValid at h
 refine FnA.ofA 68 [0] [.tmp 2] Tryz.func13 en13 ?_
 refine rm [0] [(1, .pp 1 0)] [] [.box [iV a0_0, .sl 0]] ?_
 refine fz 1 ?_
 refine awp_seq fun K2 hK2 => ?_
 refine rg [] [(18, bV (((decide (a0_0 < 0)) || (decide (16 < a0_0))) || (decide (40 < (a0_1.length : Int)))))] ?_
 refine awp_if h ?_ ?_ <;> intro hc h
 ·refine rg [1, 18] [(2, bV false)] ?_
  exact fr [0]
 refine sk hK2 ?_
 refine awp_seq fun K59 hK59 => ?_
 refine rg [18] [(20, .sl 0), (21, iV (a0_1.length : Int)), (22, iV 0)] ?_
 refine awp_block ?_
 refine lp2 h (fun t22 => [(1, .pp 1 0), (20, .sl 0), (21, iV (a0_1.length : Int)), (22, iV t22)]) (fun t22 => [rT a0_1, .rbox [iV a0_0, .sl 0]]) (fun _ => Exit.exit 0) (fun _ => []) (fun _ => [rT a0_1]) (fun _ => Exit.ret) (fun _ => [(2, bV false)]) (fun _ => [rT a0_1]) ?_ ?_ ?_
 ·rintro t22 r h
  unfold impl_GraphValid_b0 at h
  try dsimp only
  refine rg [] [(23, bV (decide (t22 < (a0_1.length : Int))))] ?_
  refine awp_seq fun K97 hK97 => ?_
  refine awp_if h ?_ ?_ <;> intro hc h
  ·refine sk hK97 ?_
   refine awp_seq fun K106 hK106 => ?_
   refine awp_block ?_
   replace ⟨p, h⟩ := k1 h
   refine rm [23] [(3, iV t22), (4, .pp 2 0)] [] [.box [iV ((a0_1.getD t22.toNat (0, 0, 0)).1), iV ((a0_1.getD t22.toNat (0, 0, 0)).2.1), iV ((a0_1.getD t22.toNat (0, 0, 0)).2.2)]] ?_
   refine awp_seq fun K108 hK108 => ?_
   replace ⟨y, hr0, h⟩ := bd h
   replace ⟨y_1, hr1, h⟩ := bd h
   refine awp_t [] [(45, bV (((!y) || (!y_1)) || ((a0_1.getD t22.toNat (0, 0, 0)).1 == (a0_1.getD t22.toNat (0, 0, 0)).2.1)))] [] [] ?_ ?_
   ·intro K hK
    refine awp_regionA ?_
    have c0 := cm [0] (k_impl_Graph_has hr0)
    have c1 := cm [0] (fun g0 => k_impl_Graph_has (bite_t hr1 g0))
    refine wc 12 [(1, .pp 1 0), (3, iV t22), (4, .pp 2 0), (20, .sl 0), (21, iV (a0_1.length : Int)), (22, iV t22), (38, bV ((!y) || (!y_1)))] [rT a0_1, .rbox [iV a0_0, .sl 0], .box [iV ((a0_1.getD t22.toNat (0, 0, 0)).1), iV ((a0_1.getD t22.toNat (0, 0, 0)).2.1), iV ((a0_1.getD t22.toNat (0, 0, 0)).2.2)]] ?_
    exact vs
   refine awp_if h ?_ ?_ <;> intro hc h
   ·refine rg [1, 3, 4, 20, 21, 22, 45] [(2, bV false)] ?_
    exact lors [0]
   refine sk hK108 ?_
   refine awp_seq fun K111 hK111 => ?_
   refine rg [45] [(53, bV ((decide ((a0_1.getD t22.toNat (0, 0, 0)).2.2 < 0)) || (decide (20 < (a0_1.getD t22.toNat (0, 0, 0)).2.2))))] ?_
   refine awp_if h ?_ ?_ <;> intro hc h
   ·refine rg [1, 3, 4, 20, 21, 22, 53] [(2, bV false)] ?_
    exact lors [0]
   refine sk hK111 ?_
   replace ⟨⟨_, hp1⟩, h⟩ := k2 h
   refine qm [3, 4, 53] [(66, bV ((decide (0 < t22)) && (decide (0 ≤ (orF [cmpI (a0_1.getD ((t22 - 1).toNat) (0, 0, 0)).1 (a0_1.getD t22.toNat (0, 0, 0)).1, cmpI (a0_1.getD ((t22 - 1).toNat) (0, 0, 0)).2.1 (a0_1.getD t22.toNat (0, 0, 0)).2.1])))))] [] [] ?_
   refine awp_if h ?_ ?_ <;> intro hc h
   ·refine rg [1, 20, 21, 22, 66] [(2, bV false)] ?_
    exact lors [0]
   refine sk hK106 ?_
   replace ⟨p, h⟩ := k1 h
   refine eg [22, 66] [(22, iV (t22 + 1))] ?_
   exact lns [0, 1]
  exact los [0]
 ·rintro ⟨⟩ h
  try dsimp only
  refine hK59 _ _ ?_
  refine rg [] [(2, bV true)] ?_
  exact fr [0]
 rintro ⟨⟩ h
 try dsimp only
 exact fr [0]
theorem k_impl_EncodeNumber {a0 r} (h : impl_EncodeNumber a0 = some r) : KA Tryz.prog 14 [iV a0] [] (.sl 0) [oI r] := by
 unfold impl_EncodeNumber at h
 refine FnA.ofA 24 [] [.tmp 2] Tryz.func14 en14 ?_
 refine rg [] [] ?_
 refine awp_seq fun K2 hK2 => ?_
 refine rg [] [(9, bV ((decide (a0 < 0)) || (decide (1000000 < a0))))] ?_
 refine awp_if h ?_ ?_ <;> intro hc h
 ·refine rg [0, 9] [(2, nV)] ?_
  refine awp_red (Red.nil (t := 2) (.ints .i64 []) rfl rfl) ?_
  exact fr [0]
 refine sk hK2 ?_
 refine rg [9] [(3, nV)] ?_
 refine awp_seq fun K17 hK17 => ?_
 refine awp_block ?_
 refine lp h (fun (t0, t3s) => [(0, iV t0), (3, .sl 0)]) (fun (t0, t3s) => [oI t3s]) (fun _ => Exit.exit 0) (fun (t0_1, t3s_1) => [(0, iV t0_1), (3, .sl 0)]) (fun (t0_1, t3s_1) => [oI t3s_1]) ?_ ?_ (h0 := by refine Red.trans (Red.nil (t := 3) (.ints .i64 []) rfl rfl) ?_; exact Red.auto)
 ·rintro ⟨t0, t3s⟩ r h
  unfold impl_EncodeNumber_b0 at h
  try dsimp only
  refine awp_seq fun K28 hK28 => ?_
  refine rg [] [(11, bV (decide (128 ≤ t0)))] ?_
  refine awp_if h ?_ ?_ <;> intro hc h
  ·refine sk hK28 ?_
   refine awp_block ?_
   replace ⟨p, h⟩ := k3 h
   refine rm [11] [] [(0, oI (t3s ++ [((t0 % 128) + 128)]))] [oI [((t0 % 128) + 128)]] ?_
   replace ⟨p, h⟩ := k1 h
   refine eg [0] [(0, iV (t0 / 128))] ?_
   refine nm ?_
   exact lns [0]
  exact lo
 rintro ⟨t0_1, t3s_1⟩ h
 try dsimp only
 refine hK17 _ _ ?_
 replace ⟨p, h⟩ := k1 h
 refine rm [0, 3] [(2, .sl 0)] [(0, oI (t3s_1 ++ [t0_1]))] [oI [t0_1]] ?_
 exact fr [0]
theorem k_impl_numberFits {a0 r} (h : impl_numberFits a0 = some r) : KA Tryz.prog 32 [iV a0] [] (bV r) [] := by
 unfold impl_numberFits at h
 refine FnA.ofA 9 [] [.tmp 2] Tryz.func32 en32 ?_
 refine rg [] [] ?_
 refine rg [0] [(2, bV ((decide (0 ≤ a0)) && (decide (a0 ≤ 1000000))))] ?_
 exact fr []
theorem k_impl_numberWriter_put {a0_0 a1 r} (h : impl_numberWriter_put a0_0 a1 = some r) : KA Tryz.prog 33 [.pp 0 0, iV a1] [.box [.sl 1], oI a0_0] (.tup []) [.box [.sl 2], .dead, oI r] := by
 unfold impl_numberWriter_put at h
 refine FnA.ofA 14 [0, 1] [] Tryz.func33 en33 ?_
 refine awp_move 1 [(0, .pp 0 0), (1, iV a1)] [.box [.sl 2], .dead, oI a0_0] (by rfl) (by rfl) (by exact rfl) ?_
 replace ⟨y, hr0, h⟩ := bd h
 replace ⟨p, h⟩ := k1 h
 have c0 := cm [] (k_impl_EncodeNumber hr0)
 refine pe [0, 1] (.free 0 (.free 1 (.free 2 (.free 3 (.free 5 (.two 4 6 (.one 6 (.one 7 (.one 8 (.one 9 (.one 10 .fin))))) (.one 4 (.one 7 (.one 8 (.one 9 (.one 10 .fin))))))))))) [0, 1] [] [(2, oI (a0_0 ++ y))] [oI y] ?_
 exact fr [0, 1, 2]
theorem k_impl_EdgeBody {a0_0 a0_1 a0_2 r} (h : impl_EdgeBody a0_0 a0_1 a0_2 = some r) : KA Tryz.prog 15 [.agg [iV a0_0, iV a0_1, iV a0_2]] [] (.sl 0) [oI r] := by
 unfold impl_EdgeBody at h
 refine FnA.ofA 31 [] [.tmp 2] Tryz.func15 en15 ?_
 refine rm [0] [(1, .pp 0 0)] [] [.box [iV a0_0, iV a0_1, iV a0_2]] ?_
 refine fz 1 ?_
 refine awp_seq fun K2 hK2 => ?_
 replace ⟨y, hr0, h⟩ := bd h
 replace ⟨y_1, hr1, h⟩ := bd h
 replace ⟨y_2, hr2, h⟩ := bd h
 refine awp_t [] [(19, bV (((!y) || (!y_1)) || (!y_2)))] [] [] ?_ ?_
 ·intro K hK
  refine awp_regionA ?_
  have c0 := cm [] (k_impl_numberFits hr0)
  have c1 := cm [] (fun g0 => k_impl_numberFits (bite_t hr1 g0))
  refine wc 10 [(1, .pp 0 0), (13, bV ((!y) || (!y_1)))] [.rbox [iV a0_0, iV a0_1, iV a0_2]] ?_
  have c0 := cm [] (fun g0 => k_impl_numberFits (bite_t hr2 g0))
  exact vs
 refine awp_if h ?_ ?_ <;> intro hc h
 ·refine rg [1, 19] [(2, nV)] ?_
  refine awp_red (Red.nil (t := 2) (.ints .i64 []) rfl rfl) ?_
  exact fr [1]
 refine sk hK2 ?_
 refine rm [19] [(3, .pp 1 0)] [] [.box [nV]] ?_
 refine nc 1 0 (.ints .i64 []) ?_
 replace ⟨y_3, hr0, h⟩ := bd h
 refine rc [] [] [(1, .box [.sl 3]), (0, .dead)] [oI y_3] [⟨2, [1, 2], k_impl_numberWriter_put hr0⟩] ?_
 replace ⟨y_4, hr0, h⟩ := bd h
 refine rc [] [] [(1, .box [.sl 4]), (1, .dead)] [oI y_4] [⟨2, [1, 3], k_impl_numberWriter_put hr0⟩] ?_
 replace ⟨y_5, hr0, h⟩ := bd h
 refine rc [1] [] [(1, .box [.sl 5]), (2, .dead)] [oI y_5] [⟨2, [1, 4], k_impl_numberWriter_put hr0⟩] ?_
 refine rg [3] [(2, .sl 5)] ?_
 exact fr [5]
theorem k_impl_BytesValid {a0 r} (h : impl_BytesValid a0 = some r) : KA Tryz.prog 36 [.sl 0] [rI a0] (bV r) [rI a0] := by
 unfold impl_BytesValid at h
 refine FnA.ofA 21 [0] [.tmp 2] Tryz.func36 en36 ?_
 refine rg [] [] ?_
 refine awp_seq fun K2 hK2 => ?_
 refine rg [] [(7, bV (decide (2000 < (a0.length : Int))))] ?_
 refine awp_if h ?_ ?_ <;> intro hc h
 ·refine rg [0, 7] [(2, bV false)] ?_
  exact fr [0]
 refine sk hK2 ?_
 refine awp_seq fun K23 hK23 => ?_
 refine rg [0, 7] [(8, .sl 0), (9, iV (a0.length : Int)), (10, iV 0)] ?_
 refine awp_block ?_
 refine lp2 h (fun t10 => [(8, .sl 0), (9, iV (a0.length : Int)), (10, iV t10)]) (fun t10 => [rI a0]) (fun _ => Exit.exit 0) (fun _ => []) (fun _ => [rI a0]) (fun _ => Exit.ret) (fun _ => [(2, bV false)]) (fun _ => [rI a0]) ?_ ?_ ?_
 ·rintro t10 r h
  unfold impl_BytesValid_b0 at h
  try dsimp only
  refine rg [] [(11, bV (decide (t10 < (a0.length : Int))))] ?_
  refine awp_seq fun K37 hK37 => ?_
  refine awp_if h ?_ ?_ <;> intro hc h
  ·refine sk hK37 ?_
   refine awp_seq fun K40 hK40 => ?_
   refine awp_block ?_
   replace ⟨p, h⟩ := k1 h
   refine rg [11] [(4, iV (a0.getD t10.toNat 0))] ?_
   refine rg [4] [(19, bV ((decide ((a0.getD t10.toNat 0) < 0)) || (decide (255 < (a0.getD t10.toNat 0)))))] ?_
   refine awp_if h ?_ ?_ <;> intro hc h
   ·refine rg [8, 9, 10, 19] [(2, bV false)] ?_
    exact lor
   refine sk hK40 ?_
   replace ⟨p, h⟩ := k1 h
   refine eg [10, 19] [(10, iV (t10 + 1))] ?_
   exact ln
  exact lo
 ·rintro ⟨⟩ h
  try dsimp only
  refine hK23 _ _ ?_
  refine rg [] [(2, bV true)] ?_
  exact fr [0]
 rintro ⟨⟩ h
 try dsimp only
 exact fr [0]
theorem k_impl_bodyValid {a0 r} (h : impl_bodyValid a0 = some r) : KA Tryz.prog 47 [.sl 0] [rI a0] (bV r) [rI a0] := by
 unfold impl_bodyValid at h
 refine FnA.ofA 15 [0] [.tmp 2] Tryz.func47 en47 ?_
 refine rg [] [] ?_
 replace ⟨y, hr0, h⟩ := bd h
 refine awp_t [0] [(2, bV (((decide (1 ≤ (a0.length : Int))) && (decide ((a0.length : Int) ≤ 100))) && y))] [] [] ?_ ?_
 ·intro K hK
  refine awp_regionA ?_
  refine wc 8 [(0, .sl 0), (10, bV ((decide (1 ≤ (a0.length : Int))) && (decide ((a0.length : Int) ≤ 100))))] [rI a0] ?_
  have c0 := cm [0] (fun g0 => k_impl_BytesValid (bite_t hr0 g0))
  exact vs
 exact fr [0]
theorem k_impl_CheckSum {a0 r} (h : impl_CheckSum a0 = some r) : KA Tryz.prog 22 [.sl 0] [rI a0] (iV r) [rI a0] := by
 unfold impl_CheckSum at h
 refine FnA.ofA 23 [0] [.tmp 2] Tryz.func22 en22 ?_
 refine rg [] [] ?_
 refine awp_seq fun K2 hK2 => ?_
 replace ⟨y, hr0, h⟩ := bd h
 refine rc [] [(8, bV (!y))] [] [] [⟨1, [0], k_impl_BytesValid hr0⟩] ?_
 refine awp_if h ?_ ?_ <;> intro hc h
 ·refine rg [0, 8] [(2, iV (-1))] ?_
  exact fr [0]
 refine sk hK2 ?_
 refine rg [8] [(3, iV 7)] ?_
 refine awp_seq fun K17 hK17 => ?_
 refine rg [0] [(9, .sl 0), (10, iV (a0.length : Int)), (11, iV 0)] ?_
 refine awp_block ?_
 refine lp h (fun (t3, t11) => [(3, iV t3), (9, .sl 0), (10, iV (a0.length : Int)), (11, iV t11)]) (fun (t3, t11) => [rI a0]) (fun _ => Exit.exit 0) (fun t3_1 => [(3, iV t3_1)]) (fun t3_1 => [rI a0]) ?_ ?_
 ·rintro ⟨t3, t11⟩ r h
  unfold impl_CheckSum_b0 at h
  try dsimp only
  refine rg [] [(12, bV (decide (t11 < (a0.length : Int))))] ?_
  refine awp_seq fun K27 hK27 => ?_
  refine awp_if h ?_ ?_ <;> intro hc h
  ·refine sk hK27 ?_
   refine awp_seq fun K29 hK29 => ?_
   refine awp_block ?_
   replace ⟨p, h⟩ := k1 h
   refine rg [12] [(5, iV (a0.getD t11.toNat 0))] ?_
   replace ⟨p, h⟩ := k4 h
   refine eg [3, 5] [(3, iV ((((31 * t3) + (a0.getD t11.toNat 0)) + 1) % 251))] ?_
   refine hK29 _ _ ?_
   replace ⟨p, h⟩ := k1 h
   refine eg [11] [(11, iV (t11 + 1))] ?_
   exact ln
  exact lo
 rintro t3_1 h
 try dsimp only
 refine hK17 _ _ ?_
 refine rg [3] [(2, iV t3_1)] ?_
 exact fr [0]
theorem k_impl_FrameOf {a0 r} (h : impl_FrameOf a0 = some r) : KA Tryz.prog 34 [.sl 0] [rI a0] (.sl 1) [rI a0, oI r] := by
 unfold impl_FrameOf at h
 refine FnA.ofA 24 [0] [.tmp 2] Tryz.func34 en34 ?_
 refine rg [] [] ?_
 refine awp_seq fun K2 hK2 => ?_
 replace ⟨y, hr0, h⟩ := bd h
 refine rc [] [(6, bV (!y))] [] [] [⟨1, [0], k_impl_bodyValid hr0⟩] ?_
 refine awp_if h ?_ ?_ <;> intro hc h
 ·refine rg [0, 6] [(2, nV)] ?_
  refine awp_red (Red.nil (t := 2) (.ints .i64 []) rfl rfl) ?_
  exact fr [0, 1]
 refine sk hK2 ?_
 replace ⟨p, h⟩ := k2 h
 refine rm [6] [(3, .sl 1)] [] [oI (List.replicate 0 0)] ?_
 replace ⟨p, h⟩ := k1 h
 refine rm [] [] [(1, oI ((List.replicate 0 0) ++ [(a0.length : Int)]))] [oI [(a0.length : Int)]] ?_
 replace ⟨p, h⟩ := k1 h
 refine rm [] [] [(1, oI (((List.replicate 0 0) ++ [(a0.length : Int)]) ++ a0))] [] ?_
 replace ⟨y_1, hr0, h⟩ := bd h
 replace ⟨p, h⟩ := k1 h
 refine rc [0, 3] [(2, .sl 1)] [(1, oI ((((List.replicate 0 0) ++ [(a0.length : Int)]) ++ a0) ++ [y_1]))] [oI [y_1]] [⟨2, [0], k_impl_CheckSum hr0⟩] ?_
 exact fr [0, 1]
theorem k_impl_JoinFrames {a0 r} (h : impl_JoinFrames a0 = some r) : KA Tryz.prog 16 [.sl 0] [.row false (.intss .i64 a0)] (.tup [.sl 1, bV r.2]) [.row false (.intss .i64 a0), oI r.1] := by
 unfold impl_JoinFrames at h
 refine FnA.ofA 31 [0] [.tmp 2, .tmp 3] Tryz.func16 en16 ?_
 refine rg [] [] ?_
 refine rg [] [(4, nV)] ?_
 refine awp_seq fun K50 hK50 => ?_
 refine rg [0] [(8, .sl 0), (9, iV (a0.length : Int)), (10, iV 0)] ?_
 refine awp_block ?_
 refine lp2 h (fun (t10, t4s) => [(4, .sl 1), (8, .sl 0), (9, iV (a0.length : Int)), (10, iV t10)]) (fun (t10, t4s) => [.row false (.intss .i64 a0), oI t4s]) (fun _ => Exit.exit 0) (fun t4s_1 => [(4, .sl 1)]) (fun t4s_1 => [.row false (.intss .i64 a0), oI t4s_1]) (fun _ => Exit.ret) (fun _ => [(2, .sl 1), (3, bV false)]) (fun _ => [.row false (.intss .i64 a0), oI []]) ?_ ?_ ?_ (h0 := by refine Red.trans (Red.nil (t := 4) (.ints .i64 []) rfl rfl) ?_; exact Red.auto)
 ·rintro ⟨t10, t4s⟩ r h
  unfold impl_JoinFrames_b0 at h
  try dsimp only
  refine rg [] [(11, bV (decide (t10 < (a0.length : Int))))] ?_
  refine awp_seq fun K88 hK88 => ?_
  refine awp_if h ?_ ?_ <;> intro hc h
  ·refine sk hK88 ?_
   refine awp_seq fun K94 hK94 => ?_
   refine awp_block ?_
   replace h := chk_some h
   obtain ⟨hpt98, h⟩ := h
   refine awp_take 0 t10.toNat 0 (by rfl) (by exact hpt98) (by rfl) (by exact rfl) ?_
   clear hpt98
   replace ⟨p, h⟩ := k1 h
   refine rg [11] [(6, .sl 2)] ?_
   refine awp_put 0 2 (by rfl) (by rfl) (Cont.setChild_self (by rfl)) (by exact rfl) ?_
   replace ⟨y, hr0, h⟩ := bd h
   refine rc [6] [(7, .sl 3)] [] [oI y] [⟨1, [2], k_impl_FrameOf hr0⟩] ?_
   refine awp_seq fun K96 hK96 => ?_
   have hboth := both_some h
   refine awp_isnilC (by rfl) (by rfl) Tryz.underlying28 rfl rfl (by rfl) fun b hb => ?_
   replace h := hboth b hb
   clear hboth
   replace ⟨hp0, h⟩ := k1 h
   refine ⟨[(4, .sl 1), (7, .sl 3), (8, .sl 0), (9, iV (a0.length : Int)), (10, iV t10), (25, bV (b || (decide (2000 < ((t4s.length : Int) + (y.length : Int))))))], [.row false (.intss .i64 a0), oI t4s, rI (a0.getD t10.toNat []), oI y], ?_, ?_⟩
   ·intro K hK
    exact vs
   refine awp_if h ?_ ?_ <;> intro hc h
   ·refine rg [4, 7, 8, 9, 10, 25] [(2, nV), (3, bV false)] ?_
    refine awp_ret ?_
    refine nm ?_
    obtain rfl := Option.some.inj h
    refine LoopQ.out rfl ?_
    refine Red.trans (Red.nil (t := 2) (.ints .i64 []) rfl rfl) ?_
    exact Red.selA [0, 4] Red.auto
   refine sk hK96 ?_
   replace ⟨p, h⟩ := k1 h
   refine em [7, 25] [] [(1, oI (t4s ++ y))] [] ?_
   refine hK94 _ _ ?_
   replace ⟨p, h⟩ := k1 h
   refine eg [10] [(10, iV (t10 + 1))] ?_
   exact lns [0, 1]
  exact lo
 ·rintro t4s_1 h
  try dsimp only
  refine hK50 _ _ ?_
  refine rg [4] [(2, .sl 1), (3, bV true)] ?_
  exact fr [0, 1]
 rintro ⟨⟩ h
 try dsimp only
 exact fr [0, 1]
theorem k_impl_GraphBytes {a0_0 a0_1 r} (h : impl_GraphBytes a0_0 a0_1 = some r) : KA Tryz.prog 6 [.agg [iV a0_0, .sl 0]] [rT a0_1] (.sl 1) [rT a0_1, oI r] := by
 unfold impl_GraphBytes at h
 refine FnA.ofA 34 [0] [.tmp 2] Tryz.func6 en6 ?_
 refine rm [0] [(1, .pp 1 0)] [] [.box [iV a0_0, .sl 0]] ?_
 refine fz 1 ?_
 refine awp_seq fun K2 hK2 => ?_
 replace ⟨y, hr0, h⟩ := bd h
 refine rc [] [(10, bV (!y))] [] [] [⟨1, [0], k_impl_GraphValid hr0⟩] ?_
 refine awp_if h ?_ ?_ <;> intro hc h
 ·refine rg [1, 10] [(2, nV)] ?_
  refine awp_red (Red.nil (t := 2) (.ints .i64 []) rfl rfl) ?_
  exact fr [0, 2]
 refine sk hK2 ?_
 replace ⟨y_1, hr0, h⟩ := bd h
 refine rc [10] [(3, .sl 3)] [] [oI y_1, .tak true (.intss .i64 [[]]) 0 0 (some 2)] [⟨2, [], k_impl_EncodeNumber hr0⟩] ?_
 refine awp_seq fun K17 hK17 => ?_
 refine awp_put 3 2 (by rfl) (by rfl) (by rfl) (by exact rfl) ?_
 refine rg [1] [(16, .sl 0), (17, iV (a0_1.length : Int)), (18, iV 0)] ?_
 refine awp_block ?_
 refine lp h (fun (t18, t3s) => [(3, .sl 1), (16, .sl 0), (17, iV (a0_1.length : Int)), (18, iV t18)]) (fun (t18, t3s) => [rT a0_1, .row true (.intss .i64 t3s)]) (fun _ => Exit.exit 0) (fun t3s_1 => [(3, .sl 1)]) (fun t3s_1 => [rT a0_1, .row true (.intss .i64 t3s_1)]) ?_ ?_ (h0 := Red.selA [0, 3] Red.auto)
 ·rintro ⟨t18, t3s⟩ r h
  unfold impl_GraphBytes_b0 at h
  try dsimp only
  refine rg [] [(19, bV (decide (t18 < (a0_1.length : Int))))] ?_
  refine awp_seq fun K27 hK27 => ?_
  refine awp_if h ?_ ?_ <;> intro hc h
  ·refine sk hK27 ?_
   refine awp_seq fun K29 hK29 => ?_
   refine awp_block ?_
   replace ⟨p, h⟩ := k1 h
   refine rm [19] [(5, .pp 2 0)] [] [.box [iV ((a0_1.getD t18.toNat (0, 0, 0)).1), iV ((a0_1.getD t18.toNat (0, 0, 0)).2.1), iV ((a0_1.getD t18.toNat (0, 0, 0)).2.2)]] ?_
   replace ⟨y_2, hr0, h⟩ := bd h
   replace ⟨p, h⟩ := k1 h
   refine ec [5] [] [(1, .tak true (.intss .i64 (t3s ++ [[]])) t3s.length 0 (some 3))] [oI y_2, .tak true (.intss .i64 [[]]) 0 0 (some 3)] [⟨2, [], k_impl_EdgeBody hr0⟩] ?_
   refine hK29 _ _ ?_
   refine awp_put 1 3 (by rfl) (by rfl) (by rfl) (by exact rfl) ?_
   replace ⟨p, h⟩ := k1 h
   refine eg [18] [(18, iV (t18 + 1))] ?_
   exact lns [0, 1]
  exact lo
 rintro t3s_1 h
 try dsimp only
 refine hK17 _ _ ?_
 replace ⟨y_3, y_4, hr0, h⟩ := bd2 h
 refine rc [3] [(6, .sl 2)] [] [oI y_3] [⟨1, [1], k_impl_JoinFrames hr0⟩] ?_
 refine rg [6] [(2, .sl 2)] ?_
 exact fr [0, 2]
theorem k_spec_EncodeNumber {a0 r} (h : spec_EncodeNumber a0 = some r) : KA Tryz.prog 17 [iV a0] [] (.sl 0) [oI r] := by
 unfold spec_EncodeNumber at h
 refine FnA.ofA 23 [] [.tmp 2] Tryz.func17 en17 ?_
 refine rg [] [] ?_
 refine rm [] [(3, .sl 0)] [] [oI []] ?_
 refine awp_seq fun K2 hK2 => ?_
 refine rg [] [(7, bV (!(decide (0 ≤ a0) && decide (a0 ≤ 1000000))))] ?_
 refine awp_if h ?_ ?_ <;> intro hc h
 ·refine rg [0, 3, 7] [(2, .sl 0)] ?_
  exact fr [0]
 refine sk hK2 ?_
 refine awp_seq fun K14 hK14 => ?_
 refine awp_block ?_
 refine lp h (fun (t0, t3s) => [(0, iV t0), (3, .sl 0)]) (fun (t0, t3s) => [oI t3s]) (fun _ => Exit.exit 0) (fun (t0_1, t3s_1) => [(0, iV t0_1), (3, .sl 0)]) (fun (t0_1, t3s_1) => [oI t3s_1]) ?_ ?_
 ·rintro ⟨t0, t3s⟩ r h
  unfold spec_EncodeNumber_b0 at h
  try dsimp only
  refine awp_seq fun K22 hK22 => ?_
  refine rg [] [(10, bV (decide (127 < t0)))] ?_
  refine awp_if h ?_ ?_ <;> intro hc h
  ·refine sk hK22 ?_
   refine awp_block ?_
   replace ⟨p, h⟩ := k3 h
   refine rm [10] [] [(0, oI (t3s ++ [((t0 % 128) + 128)]))] [oI [((t0 % 128) + 128)]] ?_
   replace ⟨p, h⟩ := k1 h
   refine eg [0] [(0, iV (t0 / 128))] ?_
   refine nm ?_
   exact lns [0]
  exact lo
 rintro ⟨t0_1, t3s_1⟩ h
 try dsimp only
 refine hK14 _ _ ?_
 replace ⟨p, h⟩ := k1 h
 refine rm [0, 3] [(2, .sl 0)] [(0, oI (t3s_1 ++ [t0_1]))] [oI [t0_1]] ?_
 exact fr [0]
theorem k_spec_EdgeBody {a0_0 a0_1 a0_2 r} (h : spec_EdgeBody a0_0 a0_1 a0_2 = some r) : KA Tryz.prog 18 [.agg [iV a0_0, iV a0_1, iV a0_2]] [] (.sl 0) [oI r] := by
 unfold spec_EdgeBody at h
 refine FnA.ofA 34 [] [.tmp 2] Tryz.func18 en18 ?_
 refine rm [0] [(1, .pp 0 0)] [] [.box [iV a0_0, iV a0_1, iV a0_2]] ?_
 refine fz 1 ?_
 replace ⟨y, hr0, h⟩ := bd h
 refine rc [] [(3, .sl 1)] [] [oI y] [⟨2, [], k_spec_EncodeNumber hr0⟩] ?_
 replace ⟨y_1, hr0, h⟩ := bd h
 refine rc [] [(4, .sl 2)] [] [oI y_1] [⟨2, [], k_spec_EncodeNumber hr0⟩] ?_
 replace ⟨y_2, hr0, h⟩ := bd h
 refine rc [1] [(5, .sl 3)] [] [oI y_2] [⟨2, [], k_spec_EncodeNumber hr0⟩] ?_
 refine awp_seq fun K2 hK2 => ?_
 refine rg [] [(27, bV ((((y.length : Int) == 0) || ((y_1.length : Int) == 0)) || ((y_2.length : Int) == 0)))] ?_
 refine awp_if h ?_ ?_ <;> intro hc h
 ·refine rm [3, 4, 5, 27] [(2, .sl 4)] [] [oI []] ?_
  exact fr [4]
 refine sk hK2 ?_
 replace ⟨p, h⟩ := k2 h
 refine rm [3, 4, 5, 27] [(2, .sl 1)] [(1, oI ((y ++ y_1) ++ y_2))] [] ?_
 exact fr [1]
theorem k_spec_BytesValid {a0 r} (h : spec_BytesValid a0 = some r) : KA Tryz.prog 48 [.sl 0] [rI a0] (bV r) [rI a0] := by
 unfold spec_BytesValid at h
 refine FnA.ofA 19 [0] [.tmp 2] Tryz.func48 en48 ?_
 refine rg [] [] ?_
 refine awp_seq fun K20 hK20 => ?_
 refine rg [] [(3, iV 0)] ?_
 refine awp_block ?_
 refine lp2 h (fun t3 => [(0, .sl 0), (3, iV t3)]) (fun t3 => [rI a0]) (fun _ => Exit.exit 0) (fun _ => [(0, .sl 0)]) (fun _ => [rI a0]) (fun _ => Exit.ret) (fun _ => [(2, bV false)]) (fun _ => [rI a0]) ?_ ?_ ?_
 ·rintro t3 r h
  unfold spec_BytesValid_b0 at h
  try dsimp only
  refine awp_seq fun K34 hK34 => ?_
  refine rg [] [(7, bV (decide (t3 < (a0.length : Int))))] ?_
  refine awp_if h ?_ ?_ <;> intro hc h
  ·refine sk hK34 ?_
   refine awp_seq fun K37 hK37 => ?_
   refine awp_block ?_
   replace ⟨p, h⟩ := k1 h
   refine rg [7] [(15, bV (!(decide (0 ≤ (a0.getD t3.toNat 0)) && decide ((a0.getD t3.toNat 0) ≤ 255))))] ?_
   refine awp_if h ?_ ?_ <;> intro hc h
   ·refine rg [0, 3, 15] [(2, bV false)] ?_
    exact lor
   refine sk hK37 ?_
   replace ⟨p, h⟩ := k1 h
   refine eg [3, 15] [(3, iV (t3 + 1))] ?_
   exact ln
  exact lo
 ·rintro ⟨⟩ h
  try dsimp only
  refine hK20 _ _ ?_
  refine rg [0] [(2, bV (decide ((a0.length : Int) ≤ 2000)))] ?_
  exact fr [0]
 rintro ⟨⟩ h
 try dsimp only
 exact fr [0]
theorem k_spec_CheckSum {a0 r} (h : spec_CheckSum a0 = some r) : KA Tryz.prog 49 [.sl 0] [rI a0] (iV r) [rI a0] := by
 unfold spec_CheckSum at h
 refine FnA.ofA 24 [0] [.tmp 2] Tryz.func49 en49 ?_
 refine rg [] [] ?_
 refine awp_seq fun K2 hK2 => ?_
 replace ⟨y, hr0, h⟩ := bd h
 refine rc [] [(7, bV (!y))] [] [] [⟨1, [0], k_spec_BytesValid hr0⟩] ?_
 refine awp_if h ?_ ?_ <;> intro hc h
 ·refine rg [0, 7] [(2, iV (-1))] ?_
  exact fr [0]
 refine sk hK2 ?_
 refine rg [7] [(3, iV 7)] ?_
 refine awp_seq fun K17 hK17 => ?_
 refine rg [] [(4, iV 0)] ?_
 refine awp_block ?_
 refine lp h (fun (t3, t4) => [(0, .sl 0), (3, iV t3), (4, iV t4)]) (fun (t3, t4) => [rI a0]) (fun _ => Exit.exit 0) (fun t3_1 => [(3, iV t3_1)]) (fun t3_1 => [rI a0]) ?_ ?_
 ·rintro ⟨t3, t4⟩ r h
  unfold spec_CheckSum_b0 at h
  try dsimp only
  refine awp_seq fun K27 hK27 => ?_
  refine rg [] [(11, bV (decide (t4 < (a0.length : Int))))] ?_
  refine awp_if h ?_ ?_ <;> intro hc h
  ·refine sk hK27 ?_
   refine awp_seq fun K29 hK29 => ?_
   refine awp_block ?_
   replace ⟨p, h⟩ := k5 h
   refine eg [3, 11] [(3, iV ((((31 * t3) + (a0.getD t4.toNat 0)) + 1) % 251))] ?_
   refine hK29 _ _ ?_
   replace ⟨p, h⟩ := k1 h
   refine eg [4] [(4, iV (t4 + 1))] ?_
   exact ln
  exact lo
 rintro t3_1 h
 try dsimp only
 refine hK17 _ _ ?_
 refine rg [3] [(2, iV t3_1)] ?_
 exact fr [0]
theorem k_spec_FrameOf {a0 r} (h : spec_FrameOf a0 = some r) : KA Tryz.prog 35 [.sl 0] [rI a0] (.sl 1) [rI a0, oI r] := by
 unfold spec_FrameOf at h
 refine FnA.ofA 24 [0] [.tmp 2] Tryz.func35 en35 ?_
 refine rg [] [] ?_
 refine awp_seq fun K2 hK2 => ?_
 replace ⟨y, hr0, h⟩ := bd h
 have c0 := cm [0] (k_spec_BytesValid hr0)
 refine rm [] [(12, bV ((!y) || (!(decide (1 ≤ (a0.length : Int)) && decide ((a0.length : Int) ≤ 100)))))] [] [] ?_
 refine awp_if h ?_ ?_ <;> intro hc h
 ·refine rm [0, 12] [(2, .sl 1)] [] [oI []] ?_
  exact fr [0, 1]
 refine sk hK2 ?_
 replace ⟨p, h⟩ := k1 h
 refine rm [12] [(3, .sl 1)] [] [oI ([(a0.length : Int)] ++ a0)] ?_
 replace ⟨y_1, hr0, h⟩ := bd h
 replace ⟨p, h⟩ := k1 h
 refine rc [0, 3] [(2, .sl 1)] [(1, oI (([(a0.length : Int)] ++ a0) ++ [y_1]))] [oI [y_1]] [⟨2, [0], k_spec_CheckSum hr0⟩] ?_
 exact fr [0, 1]
theorem k_spec_JoinFrames {a0 r} (h : spec_JoinFrames a0 = some r) : KA Tryz.prog 19 [.sl 0] [.row false (.intss .i64 a0)] (.tup [.sl 1, bV r.2]) [.row false (.intss .i64 a0), oI r.1] := by
 unfold spec_JoinFrames at h
 refine FnA.ofA 35 [0] [.tmp 2, .tmp 3] Tryz.func19 en19 ?_
 refine rg [] [] ?_
 refine rm [] [(4, .sl 1)] [] [oI []] ?_
 refine awp_seq fun K38 hK38 => ?_
 refine rg [] [(5, iV 0)] ?_
 refine awp_block ?_
 refine lp2 h (fun (t5, t4s) => [(0, .sl 0), (4, .sl 1), (5, iV t5)]) (fun (t5, t4s) => [.row false (.intss .i64 a0), oI t4s]) (fun _ => Exit.exit 0) (fun t4s_1 => [(4, .sl 1)]) (fun t4s_1 => [.row false (.intss .i64 a0), oI t4s_1]) (fun _ => Exit.ret) (fun _ => [(2, .sl 1), (3, bV false)]) (fun _ => [.row false (.intss .i64 a0), oI []]) ?_ ?_ ?_
 ·rintro ⟨t5, t4s⟩ r h
  unfold spec_JoinFrames_b0 at h
  try dsimp only
  refine awp_seq fun K64 hK64 => ?_
  refine rg [] [(11, bV (decide (t5 < (a0.length : Int))))] ?_
  refine awp_if h ?_ ?_ <;> intro hc h
  ·refine sk hK64 ?_
   refine awp_seq fun K70 hK70 => ?_
   refine awp_block ?_
   replace h := chk_some h
   obtain ⟨hpt74, h⟩ := h
   refine awp_take 0 t5.toNat 0 (by rfl) (by exact hpt74) (by rfl) (by exact rfl) ?_
   clear hpt74
   replace ⟨p, h⟩ := k1 h
   replace ⟨y, hr1, h⟩ := bd h
   refine rc [11] [(6, .sl 3)] [] [oI y] [⟨4, [2], k_spec_FrameOf hr1⟩] ?_
   refine awp_seq fun K72 hK72 => ?_
   refine awp_put 0 2 (by rfl) (by rfl) (Cont.setChild_self (by rfl)) (by exact rfl) ?_
   replace ⟨hp0, h⟩ := k1 h
   refine rm [] [(29, bV (((y.length : Int) == 0) || (decide (2000 < ((t4s.length : Int) + (y.length : Int))))))] [] [] ?_
   refine awp_if h ?_ ?_ <;> intro hc h
   ·refine rm [0, 4, 5, 6, 29] [(2, .sl 4), (3, bV false)] [] [oI []] ?_
    exact lors [0, 4]
   refine sk hK72 ?_
   replace ⟨p, h⟩ := k1 h
   refine em [6, 29] [] [(1, oI (t4s ++ y))] [] ?_
   refine hK70 _ _ ?_
   replace ⟨p, h⟩ := k1 h
   refine eg [5] [(5, iV (t5 + 1))] ?_
   exact lns [0, 1]
  exact lo
 ·rintro t4s_1 h
  try dsimp only
  refine hK38 _ _ ?_
  refine rg [4] [(2, .sl 1), (3, bV true)] ?_
  exact fr [0, 1]
 rintro ⟨⟩ h
 try dsimp only
 exact fr [0, 1]
theorem k_spec_GraphBytes {a0_0 a0_1 r} (h : spec_GraphBytes a0_0 a0_1 = some r) : KA Tryz.prog 7 [.agg [iV a0_0, .sl 0]] [rT a0_1] (.sl 1) [rT a0_1, oI r] := by
 unfold spec_GraphBytes at h
 refine FnA.ofA 37 [0] [.tmp 2] Tryz.func7 en7 ?_
 refine rm [0] [(1, .pp 1 0)] [] [.box [iV a0_0, .sl 0]] ?_
 refine fz 1 ?_
 refine awp_seq fun K2 hK2 => ?_
 replace ⟨y, hr0, h⟩ := bd h
 refine rc [] [(9, bV (!y))] [] [] [⟨1, [0], k_spec_GraphValid hr0⟩] ?_
 refine awp_if h ?_ ?_ <;> intro hc h
 ·refine rm [1, 9] [(2, .sl 2)] [] [oI []] ?_
  exact fr [0, 2]
 refine sk hK2 ?_
 replace ⟨y_1, hr0, h⟩ := bd h
 refine rc [9] [(3, .sl 3)] [] [oI y_1, .tak true (.intss .i64 [[]]) 0 0 (some 2)] [⟨2, [], k_spec_EncodeNumber hr0⟩] ?_
 refine awp_seq fun K17 hK17 => ?_
 refine awp_put 3 2 (by rfl) (by rfl) (by rfl) (by exact rfl) ?_
 refine rg [] [(4, iV 0)] ?_
 refine awp_block ?_
 refine lp h (fun (t4, t3s) => [(1, .pp 1 0), (3, .sl 2), (4, iV t4)]) (fun (t4, t3s) => [rT a0_1, .rbox [iV a0_0, .sl 0], .row true (.intss .i64 t3s)]) (fun _ => Exit.exit 0) (fun t3s_1 => [(3, .sl 1)]) (fun t3s_1 => [rT a0_1, .row true (.intss .i64 t3s_1)]) ?_ ?_ (h0 := Red.selA [0, 1, 3] Red.auto)
 ·rintro ⟨t4, t3s⟩ r h
  unfold spec_GraphBytes_b0 at h
  try dsimp only
  refine awp_seq fun K27 hK27 => ?_
  refine rg [] [(19, bV (decide (t4 < (a0_1.length : Int))))] ?_
  refine awp_if h ?_ ?_ <;> intro hc h
  ·refine sk hK27 ?_
   refine awp_seq fun K29 hK29 => ?_
   refine awp_block ?_
   replace ⟨p, h⟩ := k1 h
   replace ⟨y_2, hr1, h⟩ := bd h
   replace ⟨pa, h⟩ := k1 h
   refine ec [19] [] [(2, .tak true (.intss .i64 (t3s ++ [[]])) t3s.length 0 (some 3))] [oI y_2, .tak true (.intss .i64 [[]]) 0 0 (some 3)] [⟨6, [], k_spec_EdgeBody hr1⟩] ?_
   refine hK29 _ _ ?_
   refine awp_put 2 3 (by rfl) (by rfl) (by rfl) (by exact rfl) ?_
   replace ⟨p, h⟩ := k1 h
   refine eg [4] [(4, iV (t4 + 1))] ?_
   exact lns [0, 1, 2]
  exact los [0, 2]
 rintro t3s_1 h
 try dsimp only
 refine hK17 _ _ ?_
 replace ⟨y_3, y_4, hr0, h⟩ := bd2 h
 refine rc [3] [(5, .sl 2)] [] [oI y_3] [⟨1, [1], k_spec_JoinFrames hr0⟩] ?_
 refine rg [5] [(2, .sl 2)] ?_
 exact fr [0, 2]
theorem k_laws_sameInts {a0 a1 r} (h : laws_sameInts a0 a1 = some r) : KA Tryz.prog 5 [.sl 0, .sl 1] [rI a0, rI a1] (bV r) [rI a0, rI a1] := by
 unfold laws_sameInts at h
 refine FnA.ofA 26 [0, 1] [.tmp 4] Tryz.func5 en5 ?_
 refine rg [] [] ?_
 refine awp_seq fun K2 hK2 => ?_
 refine rg [] [(10, bV ((a0.length : Int) != (a1.length : Int)))] ?_
 refine awp_if h ?_ ?_ <;> intro hc h
 ·refine rg [0, 1, 10] [(4, bV false)] ?_
  exact fr [0, 1]
 refine sk hK2 ?_
 refine awp_seq fun K23 hK23 => ?_
 refine rg [10] [(5, iV 0)] ?_
 refine awp_block ?_
 refine lp2 h (fun t5 => [(0, .sl 0), (1, .sl 1), (5, iV t5)]) (fun t5 => [rI a0, rI a1]) (fun _ => Exit.exit 0) (fun _ => []) (fun _ => [rI a0, rI a1]) (fun _ => Exit.ret) (fun _ => [(4, bV false)]) (fun _ => [rI a0, rI a1]) ?_ ?_ ?_
 ·rintro t5 r h
  unfold laws_sameInts_b0 at h
  try dsimp only
  refine awp_seq fun K37 hK37 => ?_
  refine rg [] [(14, bV (decide (t5 < (a0.length : Int))))] ?_
  refine awp_if h ?_ ?_ <;> intro hc h
  ·refine sk hK37 ?_
   refine awp_seq fun K40 hK40 => ?_
   refine awp_block ?_
   replace ⟨p, h⟩ := k2 h
   refine qg [14] [(25, bV ((a0.getD t5.toNat 0) != (a1.getD t5.toNat 0)))] ?_
   refine awp_if h ?_ ?_ <;> intro hc h
   ·refine rg [0, 1, 5, 25] [(4, bV false)] ?_
    exact lor
   refine sk hK40 ?_
   replace ⟨p, h⟩ := k1 h
   refine eg [5, 25] [(5, iV (t5 + 1))] ?_
   exact ln
  exact lo
 ·rintro ⟨⟩ h
  try dsimp only
  refine hK23 _ _ ?_
  refine rg [] [(4, bV true)] ?_
  exact fr [0, 1]
 rintro ⟨⟩ h
 try dsimp only
 exact fr [0, 1]
theorem k_laws_alive {r} (h : laws_alive = some r) : KA Tryz.prog 9 [] [] (bV r) [] := by
 unfold laws_alive at h
 refine FnA.ofA 4 [] [.tmp 0] Tryz.func9 en9 ?_
 refine rg [] [] ?_
 replace ⟨y, hr0, h⟩ := bd h
 refine rc [] [(0, bV (y == 7))] [] [oI []] [⟨1, [0], k_impl_CheckSum hr0⟩] ?_
 exact fr []
theorem k_impl_DiskValid {a0_0 a0_1 r} (h : impl_DiskValid a0_0 a0_1 = some r) : KA Tryz.prog 37 [.agg [.sl 0, .sl 1]] [rI a0_0, rI a0_1] (bV r) [rI a0_0, rI a0_1] := by
 unfold impl_DiskValid at h
 refine FnA.ofA 21 [0, 1] [.tmp 2] Tryz.func37 en37 ?_
 refine rm [0] [(1, .pp 2 0)] [] [.box [.sl 0, .sl 1]] ?_
 refine fz 1 ?_
 replace ⟨y, hr0, h⟩ := bd h
 replace ⟨y_1, hr1, h⟩ := bd h
 replace ⟨hp2, h⟩ := k1 h
 refine awp_t [1] [(2, bV ((y && y_1) && (decide (((a0_0.length : Int) + (a0_1.length : Int)) ≤ 2000))))] [] [] ?_ ?_
 ·intro K hK
  refine awp_regionA ?_
  have c0 := cm [0] (k_impl_BytesValid hr0)
  have c1 := cm [1] (fun g0 => k_impl_BytesValid (bite_t hr1 g0))
  refine wc 8 [(1, .pp 2 0), (10, bV (y && y_1))] [rI a0_0, rI a0_1, .rbox [.sl 0, .sl 1]] ?_
  exact vs
 exact fr [0, 1]
theorem k_impl_ServiceValid {a0_0 a0_1 a0_2 a0_3 r} (h : impl_ServiceValid a0_0 a0_1 a0_2 a0_3 = some r) : KA Tryz.prog 23 [.agg [iV a0_0, .sl 0, .sl 1, .sl 2]] [rT a0_1, rI a0_2, rI a0_3] (bV r) [rT a0_1, rI a0_2, rI a0_3] := by
 unfold impl_ServiceValid at h
 refine FnA.ofA 11 [0, 1, 2] [.tmp 2] Tryz.func23 en23 ?_
 refine rm [0] [(1, .pp 3 0)] [] [.box [iV a0_0, .sl 0, .sl 1, .sl 2]] ?_
 refine fz 1 ?_
 replace ⟨y, hr0, h⟩ := bd h
 replace ⟨y_1, hr1, h⟩ := bd h
 have c0 := cm [0] (k_impl_GraphValid hr0)
 have c1 := cm [1, 2] (fun g0 => k_impl_DiskValid (bite_t hr1 g0))
 refine rm [1] [(2, bV (y && y_1))] [] [] ?_
 exact fr [0, 1, 2]
theorem k_slices_Clone_impl_Edge_impl_Edge {a0 r} (h : slices_Clone_impl_Edge_impl_Edge a0 = some r) : KA Tryz.prog 50 [.sl 0] [rT a0] (.sl 1) [rT a0, oT r] := by
 unfold slices_Clone_impl_Edge_impl_Edge at h
 refine FnA.ofA 8 [0] [.tmp 2] Tryz.func50 en50 ?_
 refine rg [] [] ?_
 refine awp_seq fun K2 hK2 => ?_
 have hboth := both_some h
 refine awp_isnil (by rfl) (by rfl) Tryz.underlying23 rfl rfl fun b hb => ?_
 replace h := hboth b hb
 clear hboth
 refine awp_if h ?_ ?_ <;> intro hc h
 ·refine rg [0, 3, 4] [(2, nV)] ?_
  refine awp_red (Red.nil (t := 2) (.trips []) rfl rfl) ?_
  exact fr [0, 1]
 refine sk hK2 ?_
 replace ⟨p, h⟩ := k1 h
 refine rm [0, 3, 4] [(2, .sl 1)] [] [oT ([] ++ a0)] ?_
 exact fr [0, 1]
theorem k_impl_Graph_copied {a0_0 a0_1 r} (h : impl_Graph_copied a0_0 a0_1 = some r) : KA Tryz.prog 38 [.agg [iV a0_0, .sl 0]] [rT a0_1] (.agg [iV r.1, .sl 1]) [rT a0_1, oT r.2] := by
 unfold impl_Graph_copied at h
 refine FnA.ofA 9 [0] [.cell 2 25] Tryz.func38 en38 ?_
 refine rm [0] [(1, .pp 1 0), (2, .pp 2 0)] [] [.box [iV a0_0, .sl 0], .box [iV 0, nV]] ?_
 refine fz 1 ?_
 replace ⟨y, hr0, h⟩ := bd h
 have c0 := cm [0] (k_slices_Clone_impl_Edge_impl_Edge hr0)
 refine dm (.free 0 (.free 2 (.free 1 (.one 3 (.one 4 (.one 5 (.one 6 .fin))))))) [1] [] [(2, .box [iV a0_0, .sl 3])] [oT y] ?_
 exact fr [0, 3]
theorem k_slices_Clone_int_int {a0 r} (h : slices_Clone_int_int a0 = some r) : KA Tryz.prog 51 [.sl 0] [rI a0] (.sl 1) [rI a0, oI r] := by
 unfold slices_Clone_int_int at h
 refine FnA.ofA 8 [0] [.tmp 2] Tryz.func51 en51 ?_
 refine rg [] [] ?_
 refine awp_seq fun K2 hK2 => ?_
 have hboth := both_some h
 refine awp_isnil (by rfl) (by rfl) Tryz.underlying28 rfl rfl fun b hb => ?_
 replace h := hboth b hb
 clear hboth
 refine awp_if h ?_ ?_ <;> intro hc h
 ·refine rg [0, 3, 4] [(2, nV)] ?_
  refine awp_red (Red.nil (t := 2) (.ints .i64 []) rfl rfl) ?_
  exact fr [0, 1]
 refine sk hK2 ?_
 replace ⟨p, h⟩ := k1 h
 refine rm [0, 3, 4] [(2, .sl 1)] [] [oI ([] ++ a0)] ?_
 exact fr [0, 1]
theorem k_impl_Disk_copied {a0_0 a0_1 r} (h : impl_Disk_copied a0_0 a0_1 = some r) : KA Tryz.prog 39 [.agg [.sl 0, .sl 1]] [rI a0_0, rI a0_1] (.agg [.sl 2, .sl 3]) [rI a0_0, rI a0_1, oI r.1, oI r.2] := by
 unfold impl_Disk_copied at h
 refine FnA.ofA 10 [0, 1] [.cell 2 33] Tryz.func39 en39 ?_
 refine rm [0] [(1, .pp 2 0), (2, .pp 3 0)] [] [.box [.sl 0, .sl 1], .box [nV, nV]] ?_
 refine fz 1 ?_
 replace ⟨y, hr0, h⟩ := bd h
 replace ⟨y_1, hr1, h⟩ := bd h
 have c0 := cm [0] (k_slices_Clone_int_int hr0)
 have c1 := cm [1] (k_slices_Clone_int_int hr1)
 refine dm (.free 0 (.free 3 (.free 1 (.free 4 (.one 2 (.one 5 (.one 6 (.one 7 .fin)))))))) [1] [] [(3, .box [.sl 4, .sl 5])] [oI y, oI y_1] ?_
 exact fr [0, 1, 4, 5]
theorem k_impl_Service_copied {a0_0 a0_1 a0_2 a0_3 r} (h : impl_Service_copied a0_0 a0_1 a0_2 a0_3 = some r) : KA Tryz.prog 24 [.agg [iV a0_0, .sl 0, .sl 1, .sl 2]] [rT a0_1, rI a0_2, rI a0_3] (.agg [iV r.1, .sl 3, .sl 4, .sl 5]) [rT a0_1, rI a0_2, rI a0_3, oT r.2.1, oI r.2.2.1, oI r.2.2.2] := by
 unfold impl_Service_copied at h
 refine FnA.ofA 10 [0, 1, 2] [.cell 2 35] Tryz.func24 en24 ?_
 refine rm [0] [(1, .pp 3 0), (2, .pp 4 0)] [] [.box [iV a0_0, .sl 0, .sl 1, .sl 2], .box [iV 0, nV, nV, nV]] ?_
 refine fz 1 ?_
 replace ⟨y, y_1, hr0, h⟩ := bd2 h
 replace ⟨y_2, y_3, hr1, h⟩ := bd2 h
 have c0 := cm [0] (k_impl_Graph_copied hr0)
 have c1 := cm [1, 2] (k_impl_Disk_copied hr1)
 refine dm (.free 0 (.free 3 (.free 1 (.free 4 (.one 2 (.one 5 (.one 6 (.one 7 .fin)))))))) [1] [] [(4, .box [iV y, .sl 5, .sl 6, .sl 7])] [oT y_1, oI y_2, oI y_3] ?_
 exact fr [0, 1, 2, 5, 6, 7]
theorem k_impl_plainNumber {a0 r} (h : impl_plainNumber a0 = some r) : KA Tryz.prog 74 [.v (.string a0)] [] (.tup [iV r.1, bV r.2]) [] := by
 unfold impl_plainNumber at h
 refine FnA.ofA 49 [] [.tmp 2, .tmp 3] Tryz.func74 en74 ?_
 refine rg [] [] ?_
 refine awp_seq fun K2 hK2 => ?_
 replace ⟨hp0, h⟩ := k1 h
 refine awp_t [] [(23, bV (((decide ((a0.size : Int) < 1)) || (decide (6 < (a0.size : Int)))) || ((decide (1 < (a0.size : Int))) && (((a0.data.toList.getD 0 0).toNat : Int) == 48))))] [] [] ?_ ?_
 ·intro K hK
  refine awp_regionA ?_
  refine wc 8 [(0, .v (.string a0)), (13, bV ((decide ((a0.size : Int) < 1)) || (decide (6 < (a0.size : Int)))))] [] ?_
  exact vs
 refine awp_if h ?_ ?_ <;> intro hc h
 ·refine rg [0, 23] [(2, iV 0), (3, bV false)] ?_
  exact fr []
 refine sk hK2 ?_
 refine rg [23] [(4, iV 0)] ?_
 refine awp_seq fun K35 hK35 => ?_
 refine rg [] [(25, iV (a0.size : Int)), (26, iV 0)] ?_
 refine awp_block ?_
 refine lp2 h (fun (t4, t26) => [(0, .v (.string a0)), (4, iV t4), (25, iV (a0.size : Int)), (26, iV t26)]) (fun (t4, t26) => []) (fun _ => Exit.exit 0) (fun t4_1 => [(4, iV t4_1)]) (fun t4_1 => []) (fun _ => Exit.ret) (fun _ => [(2, iV 0), (3, bV false)]) (fun _ => []) ?_ ?_ ?_
 ·rintro ⟨t4, t26⟩ r h
  unfold impl_plainNumber_b0 at h
  try dsimp only
  refine rg [] [(27, bV (decide (t26 < (a0.size : Int))))] ?_
  refine awp_seq fun K57 hK57 => ?_
  refine awp_if h ?_ ?_ <;> intro hc h
  ·refine sk hK57 ?_
   refine awp_seq fun K62 hK62 => ?_
   refine awp_block ?_
   refine rg [27] [(5, iV t26)] ?_
   refine awp_seq fun K64 hK64 => ?_
   replace ⟨⟨_, hp1⟩, h⟩ := k2 h
   refine rm [] [(38, bV ((decide (((a0.data.toList.getD t26.toNat 0).toNat : Int) < 48)) || (decide (57 < ((a0.data.toList.getD t26.toNat 0).toNat : Int)))))] [] [] ?_
   refine awp_if h ?_ ?_ <;> intro hc h
   ·refine rg [0, 4, 5, 25, 26, 38] [(2, iV 0), (3, bV false)] ?_
    exact lor
   refine sk hK64 ?_
   replace ⟨p, h⟩ := k4 h
   refine eg [4, 5, 38] [(4, iV ((10 * t4) + (IntKind.u8.wrap (((a0.data.toList.getD t26.toNat 0).toNat : Int) - 48))))] ?_
   refine hK62 _ _ ?_
   replace ⟨p, h⟩ := k1 h
   refine eg [26] [(26, iV (t26 + 1))] ?_
   exact ln
  exact lo
 ·rintro t4_1 h
  try dsimp only
  refine hK35 _ _ ?_
  refine rg [4] [(2, iV t4_1), (3, bV true)] ?_
  exact fr []
 rintro ⟨⟩ h
 try dsimp only
 exact fr []
end Go.Proofs.YtbhbaijbdciafaaGreatDoor
