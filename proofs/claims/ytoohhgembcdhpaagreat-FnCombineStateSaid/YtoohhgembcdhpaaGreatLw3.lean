/- The code computes the functions that were taken out of it. -/
import Derived.Test.YtoohhgembcdhpaaGreatLw2
set_option maxRecDepth 100000
set_option maxHeartbeats 4000000
set_option linter.unusedSimpArgs false
set_option linter.unusedVariables false
namespace Go.Proofs.YtoohhgembcdhpaaGreat
open Go Go.Av
attribute [local irreducible] wpA OpK awp OpKI
theorem k_impl_BytesValid {a0 r} (h : impl_BytesValid a0 = some r) : KA Tryz.prog 62 [.sl 0] [rI a0] (bV r) [rI a0] := by
 unfold impl_BytesValid at h
 refine FnA.ofA 21 [0] [.tmp 2] Tryz.func62 en62 ?_
 refine rg [] [] ?_
 refine awp_seq fun K2 hK2 => ?_
 refine rg [] [(7, bV (decide (2000 < (a0.length : Int))))] ?_
 refine awp_if h ?_ ?_ <;> intro hc h
 ·refine rg [0, 7] [(2, bV false)] ?_
  exact fr [0]
 refine sk hK2 ?_
 refine awp_seq fun K23 hK23 => ?_
 refine rg [0, 7] [(8, .sl 0), (9, iV (a0.length : Int)), (10, iV 0)] ?_
 refine awp_block ?_
 refine lp2 h (fun t10 => [(8, .sl 0), (9, iV (a0.length : Int)), (10, iV t10)]) (fun t10 => [rI a0]) (fun _ => Exit.exit 0) (fun _ => []) (fun _ => [rI a0]) (fun _ => Exit.ret) (fun _ => [(2, bV false)]) (fun _ => [rI a0]) ?_ ?_ ?_
 ·rintro t10 r h
  unfold impl_BytesValid_b0 at h
  try dsimp only
  refine rg [] [(11, bV (decide (t10 < (a0.length : Int))))] ?_
  refine awp_seq fun K37 hK37 => ?_
  refine awp_if h ?_ ?_ <;> intro hc h
  ·refine sk hK37 ?_
   refine awp_seq fun K40 hK40 => ?_
   refine awp_block ?_
   replace ⟨p, h⟩ := k1 h
   refine rg [11] [(4, iV (a0.getD t10.toNat 0))] ?_
   refine rg [4] [(19, bV ((decide ((a0.getD t10.toNat 0) < 0)) || (decide (255 < (a0.getD t10.toNat 0)))))] ?_
   refine awp_if h ?_ ?_ <;> intro hc h
   ·refine rg [8, 9, 10, 19] [(2, bV false)] ?_
    exact lor
   refine sk hK40 ?_
   replace ⟨p, h⟩ := k1 h
   refine eg [10, 19] [(10, iV (t10 + 1))] ?_
   exact ln
  exact lo
 ·rintro ⟨⟩ h
  try dsimp only
  refine hK23 _ _ ?_
  refine rg [] [(2, bV true)] ?_
  exact fr [0]
 rintro ⟨⟩ h
 try dsimp only
 exact fr [0]
theorem k_impl_CheckSum {a0 r} (h : impl_CheckSum a0 = some r) : KA Tryz.prog 29 [.sl 0] [rI a0] (iV r) [rI a0] := by
 unfold impl_CheckSum at h
 refine FnA.ofA 23 [0] [.tmp 2] Tryz.func29 en29 ?_
 refine rg [] [] ?_
 refine awp_seq fun K2 hK2 => ?_
 replace ⟨y, hr0, h⟩ := bd h
 refine rc [] [(8, bV (!y))] [] [] [⟨1, [0], k_impl_BytesValid hr0⟩] ?_
 refine awp_if h ?_ ?_ <;> intro hc h
 ·refine rg [0, 8] [(2, iV (-1))] ?_
  exact fr [0]
 refine sk hK2 ?_
 refine rg [8] [(3, iV 7)] ?_
 refine awp_seq fun K17 hK17 => ?_
 refine rg [0] [(9, .sl 0), (10, iV (a0.length : Int)), (11, iV 0)] ?_
 refine awp_block ?_
 refine lp h (fun (t3, t11) => [(3, iV t3), (9, .sl 0), (10, iV (a0.length : Int)), (11, iV t11)]) (fun (t3, t11) => [rI a0]) (fun _ => Exit.exit 0) (fun t3_1 => [(3, iV t3_1)]) (fun t3_1 => [rI a0]) ?_ ?_
 ·rintro ⟨t3, t11⟩ r h
  unfold impl_CheckSum_b0 at h
  try dsimp only
  refine rg [] [(12, bV (decide (t11 < (a0.length : Int))))] ?_
  refine awp_seq fun K27 hK27 => ?_
  refine awp_if h ?_ ?_ <;> intro hc h
  ·refine sk hK27 ?_
   refine awp_seq fun K29 hK29 => ?_
   refine awp_block ?_
   replace ⟨p, h⟩ := k1 h
   refine rg [12] [(5, iV (a0.getD t11.toNat 0))] ?_
   replace ⟨p, h⟩ := k4 h
   refine eg [3, 5] [(3, iV ((((31 * t3) + (a0.getD t11.toNat 0)) + 1) % 251))] ?_
   refine hK29 _ _ ?_
   replace ⟨p, h⟩ := k1 h
   refine eg [11] [(11, iV (t11 + 1))] ?_
   exact ln
  exact lo
 rintro t3_1 h
 try dsimp only
 refine hK17 _ _ ?_
 refine rg [3] [(2, iV t3_1)] ?_
 exact fr [0]
theorem k_laws_alive {r} (h : laws_alive = some r) : KA Tryz.prog 9 [] [] (bV r) [] := by
 unfold laws_alive at h
 refine FnA.ofA 4 [] [.tmp 0] Tryz.func9 en9 ?_
 refine rg [] [] ?_
 replace ⟨y, hr0, h⟩ := bd h
 refine rc [] [(0, bV (y == 7))] [] [oI []] [⟨1, [0], k_impl_CheckSum hr0⟩] ?_
 exact fr []
theorem k_impl_Graph_has {a0_0 a0_1 a1 r} (h : impl_Graph_has a0_0 a0_1 a1 = some r) : KA Tryz.prog 56 [.agg [iV a0_0, .sl 0], iV a1] [rT a0_1] (bV r) [rT a0_1] := by
 unfold impl_Graph_has at h
 refine FnA.ofA 13 [0] [.tmp 4] Tryz.func56 en56 ?_
 refine rm [0] [(2, .pp 1 0)] [] [.box [iV a0_0, .sl 0]] ?_
 refine fz 2 ?_
 refine rg [1, 2] [(4, bV ((decide (0 ≤ a1)) && (decide (a1 < a0_0))))] ?_
 exact fr [0]
theorem k_impl_GraphValid {a0_0 a0_1 r} (h : impl_GraphValid a0_0 a0_1 = some r) : KA Tryz.prog 23 [.agg [iV a0_0, .sl 0]] [rT a0_1] (bV r) [rT a0_1] := by
 unfold impl_GraphValid at h
 refine FnA.ofA 68 [0] [.tmp 2] Tryz.func23 en23 ?_
 refine rm [0] [(1, .pp 1 0)] [] [.box [iV a0_0, .sl 0]] ?_
 refine fz 1 ?_
 refine awp_seq fun K2 hK2 => ?_
 refine rg [] [(18, bV (((decide (a0_0 < 0)) || (decide (16 < a0_0))) || (decide (40 < (a0_1.length : Int)))))] ?_
 refine awp_if h ?_ ?_ <;> intro hc h
 ·refine rg [1, 18] [(2, bV false)] ?_
  exact fr [0]
 refine sk hK2 ?_
 refine awp_seq fun K59 hK59 => ?_
 refine rg [18] [(20, .sl 0), (21, iV (a0_1.length : Int)), (22, iV 0)] ?_
 refine awp_block ?_
 refine lp2 h (fun t22 => [(1, .pp 1 0), (20, .sl 0), (21, iV (a0_1.length : Int)), (22, iV t22)]) (fun t22 => [rT a0_1, .rbox [iV a0_0, .sl 0]]) (fun _ => Exit.exit 0) (fun _ => []) (fun _ => [rT a0_1]) (fun _ => Exit.ret) (fun _ => [(2, bV false)]) (fun _ => [rT a0_1]) ?_ ?_ ?_
 ·rintro t22 r h
  unfold impl_GraphValid_b0 at h
  try dsimp only
  refine rg [] [(23, bV (decide (t22 < (a0_1.length : Int))))] ?_
  refine awp_seq fun K97 hK97 => ?_
  refine awp_if h ?_ ?_ <;> intro hc h
  ·refine sk hK97 ?_
   refine awp_seq fun K106 hK106 => ?_
   refine awp_block ?_
   replace ⟨p, h⟩ := k1 h
   refine rm [23] [(3, iV t22), (4, .pp 2 0)] [] [.box [iV ((a0_1.getD t22.toNat (0, 0, 0)).1), iV ((a0_1.getD t22.toNat (0, 0, 0)).2.1), iV ((a0_1.getD t22.toNat (0, 0, 0)).2.2)]] ?_
   refine awp_seq fun K108 hK108 => ?_
   replace ⟨y, hr0, h⟩ := bd h
   replace ⟨y_1, hr1, h⟩ := bd h
   refine awp_t [] [(45, bV (((!y) || (!y_1)) || ((a0_1.getD t22.toNat (0, 0, 0)).1 == (a0_1.getD t22.toNat (0, 0, 0)).2.1)))] [] [] ?_ ?_
   ·intro K hK
    refine awp_regionA ?_
    have c0 := cm [0] (k_impl_Graph_has hr0)
    have c1 := cm [0] (fun g0 => k_impl_Graph_has (bite_t hr1 g0))
    refine wc 12 [(1, .pp 1 0), (3, iV t22), (4, .pp 2 0), (20, .sl 0), (21, iV (a0_1.length : Int)), (22, iV t22), (38, bV ((!y) || (!y_1)))] [rT a0_1, .rbox [iV a0_0, .sl 0], .box [iV ((a0_1.getD t22.toNat (0, 0, 0)).1), iV ((a0_1.getD t22.toNat (0, 0, 0)).2.1), iV ((a0_1.getD t22.toNat (0, 0, 0)).2.2)]] ?_
    exact vs
   refine awp_if h ?_ ?_ <;> intro hc h
   ·refine rg [1, 3, 4, 20, 21, 22, 45] [(2, bV false)] ?_
    exact lors [0]
   refine sk hK108 ?_
   refine awp_seq fun K111 hK111 => ?_
   refine rg [45] [(53, bV ((decide ((a0_1.getD t22.toNat (0, 0, 0)).2.2 < 0)) || (decide (20 < (a0_1.getD t22.toNat (0, 0, 0)).2.2))))] ?_
   refine awp_if h ?_ ?_ <;> intro hc h
   ·refine rg [1, 3, 4, 20, 21, 22, 53] [(2, bV false)] ?_
    exact lors [0]
   refine sk hK111 ?_
   replace ⟨⟨_, hp1⟩, h⟩ := k2 h
   refine qm [3, 4, 53] [(66, bV ((decide (0 < t22)) && (decide (0 ≤ (orF [cmpI (a0_1.getD ((t22 - 1).toNat) (0, 0, 0)).1 (a0_1.getD t22.toNat (0, 0, 0)).1, cmpI (a0_1.getD ((t22 - 1).toNat) (0, 0, 0)).2.1 (a0_1.getD t22.toNat (0, 0, 0)).2.1])))))] [] [] ?_
   refine awp_if h ?_ ?_ <;> intro hc h
   ·refine rg [1, 20, 21, 22, 66] [(2, bV false)] ?_
    exact lors [0]
   refine sk hK106 ?_
   replace ⟨p, h⟩ := k1 h
   refine eg [22, 66] [(22, iV (t22 + 1))] ?_
   exact lns [0, 1]
  exact los [0]
 ·rintro ⟨⟩ h
  try dsimp only
  refine hK59 _ _ ?_
  refine rg [] [(2, bV true)] ?_
  exact fr [0]
 rintro ⟨⟩ h
 try dsimp only
 exact fr [0]
theorem k_slices_Clone_impl_Edge_impl_Edge {a0 r} (h : slices_Clone_impl_Edge_impl_Edge a0 = some r) : KA Tryz.prog 81 [.sl 0] [rT a0] (.sl 1) [rT a0, oT r] := by
 unfold slices_Clone_impl_Edge_impl_Edge at h
 refine FnA.ofA 8 [0] [.tmp 2] Tryz.func81 en81 ?_
 refine rg [] [] ?_
 refine awp_seq fun K2 hK2 => ?_
 have hboth := both_some h
 refine awp_isnil (by rfl) (by rfl) Tryz.underlying23 rfl rfl fun b hb => ?_
 replace h := hboth b hb
 clear hboth
 refine awp_if h ?_ ?_ <;> intro hc h
 ·refine rg [0, 3, 4] [(2, nV)] ?_
  refine awp_red (Red.nil (t := 2) (.trips []) rfl rfl) ?_
  exact fr [0, 1]
 refine sk hK2 ?_
 replace ⟨p, h⟩ := k1 h
 refine rm [0, 3, 4] [(2, .sl 1)] [] [oT ([] ++ a0)] ?_
 exact fr [0, 1]
theorem k_impl_Graph_copied {a0_0 a0_1 r} (h : impl_Graph_copied a0_0 a0_1 = some r) : KA Tryz.prog 48 [.agg [iV a0_0, .sl 0]] [rT a0_1] (.agg [iV r.1, .sl 1]) [rT a0_1, oT r.2] := by
 unfold impl_Graph_copied at h
 refine FnA.ofA 9 [0] [.cell 2 25] Tryz.func48 en48 ?_
 refine rm [0] [(1, .pp 1 0), (2, .pp 2 0)] [] [.box [iV a0_0, .sl 0], .box [iV 0, nV]] ?_
 refine fz 1 ?_
 replace ⟨y, hr0, h⟩ := bd h
 have c0 := cm [0] (k_slices_Clone_impl_Edge_impl_Edge hr0)
 refine dm (.free 0 (.free 2 (.free 1 (.one 3 (.one 4 (.one 5 (.one 6 .fin))))))) [1] [] [(2, .box [iV a0_0, .sl 3])] [oT y] ?_
 exact fr [0, 3]
theorem k_slices_BinarySearchFunc_impl_Edge_impl_Edge_impl_Edge__impl_compareEnds {a0 a1_0 a1_1 a1_2 r} (h : slices_BinarySearchFunc_impl_Edge_impl_Edge_impl_Edge__impl_compareEnds a0 a1_0 a1_1 a1_2 = some r) : KA Tryz.prog 46 [.sl 0, .agg [iV a1_0, iV a1_1, iV a1_2], .v (.func (.func 47) #[] #[])] [rT a0] (.tup [iV r.1, bV r.2]) [rT a0] := by
 unfold slices_BinarySearchFunc_impl_Edge_impl_Edge_impl_Edge__impl_compareEnds at h
 refine FnA.ofA 49 [0] [.tmp 6, .tmp 7] Tryz.func46 en46 ?_
 refine rm [1] [(4, .pp 1 0)] [] [.box [iV a1_0, iV a1_1, iV a1_2]] ?_
 refine fz 4 ?_
 refine rg [] [(8, iV (a0.length : Int))] ?_
 refine rg [] [(9, iV 0), (10, iV (a0.length : Int))] ?_
 refine awp_seq fun K14 hK14 => ?_
 refine awp_block ?_
 refine lp h (fun (t9, t10) => [(0, .sl 0), (2, .v (.func (.func 47) #[] #[])), (4, .pp 1 0), (8, iV (a0.length : Int)), (9, iV t9), (10, iV t10)]) (fun (t9, t10) => [rT a0, .rbox [iV a1_0, iV a1_1, iV a1_2]]) (fun _ => Exit.exit 0) (fun t9_1 => [(0, .sl 0), (2, .v (.func (.func 47) #[] #[])), (4, .pp 1 0), (8, iV (a0.length : Int)), (9, iV t9_1)]) (fun t9_1 => [rT a0, .rbox [iV a1_0, iV a1_1, iV a1_2]]) ?_ ?_
 ·rintro ⟨t9, t10⟩ r h
  unfold slices_BinarySearchFunc_impl_Edge_impl_Edge_impl_Edge__impl_compareEnds_b0 at h
  try dsimp only
  refine awp_seq fun K24 hK24 => ?_
  refine rg [] [(17, bV (decide (t9 < t10)))] ?_
  refine awp_if h ?_ ?_ <;> intro hc h
  ·refine sk hK24 ?_
   refine awp_block ?_
   replace ⟨p, h⟩ := k2 h
   refine rg [17] [(11, iV ((IntKind.u64.wrap (t9 + t10)).fdiv 2))] ?_
   replace ⟨p, h⟩ := k1 h
   refine qg [] [(31, bV (decide ((orF [cmpI (a0.getD (((IntKind.u64.wrap (t9 + t10)).fdiv 2).toNat) (0, 0, 0)).1 a1_0, cmpI (a0.getD (((IntKind.u64.wrap (t9 + t10)).fdiv 2).toNat) (0, 0, 0)).2.1 a1_1]) < 0)))] ?_
   refine awp_if h ?_ ?_ <;> intro hc h
   ·replace ⟨p, h⟩ := k1 h
    refine eg [9, 11, 31] [(9, iV (((IntKind.u64.wrap (t9 + t10)).fdiv 2) + 1))] ?_
    refine nm ?_
    exact ln
   refine eg [10, 11, 31] [(10, iV ((IntKind.u64.wrap (t9 + t10)).fdiv 2))] ?_
   refine nm ?_
   exact ln
  exact lo
 rintro t9_1 h
 try dsimp only
 refine hK14 _ _ ?_
 replace ⟨hp0, h⟩ := k1 h
 refine qm [0, 2, 4, 8, 9] [(6, iV t9_1), (7, bV ((decide (t9_1 < (a0.length : Int))) && ((orF [cmpI (a0.getD t9_1.toNat (0, 0, 0)).1 a1_0, cmpI (a0.getD t9_1.toNat (0, 0, 0)).2.1 a1_1]) == 0)))] [] [] ?_
 exact fr [0]
theorem k_impl_AddEdge {a0_0 a0_1 a1_0 a1_1 a1_2 r} (h : impl_AddEdge a0_0 a0_1 a1_0 a1_1 a1_2 = some r) : KA Tryz.prog 19 [.agg [iV a0_0, .sl 0], .agg [iV a1_0, iV a1_1, iV a1_2]] [rT a0_1] (.tup [.agg [iV r.1, .sl 1], bV r.2.2]) [rT a0_1, oT r.2.1] := by
 unfold impl_AddEdge at h
 refine FnA.ofA 41 [0] [.cell 4 25, .tmp 5] Tryz.func19 en19 ?_
 refine rm [0, 1] [(2, .pp 1 0), (3, .pp 2 0), (4, .pp 3 0)] [] [.box [iV a0_0, .sl 0], .box [iV a1_0, iV a1_1, iV a1_2], .box [iV 0, nV]] ?_
 refine fz 2 ?_
 refine fz 3 ?_
 refine awp_seq fun K2 hK2 => ?_
 replace ⟨y, hr0, h⟩ := bd h
 refine rc [] [(11, bV (!y))] [] [] [⟨1, [0], k_impl_GraphValid hr0⟩] ?_
 refine awp_if h ?_ ?_ <;> intro hc h
 ·refine rg [2, 3, 11] [(5, bV false)] ?_
  refine nc 3 1 (.trips []) ?_
  exact fr [0, 4]
 refine sk hK2 ?_
 replace ⟨y_1, y_2, hr0, h⟩ := bd2 h
 refine rc [11] [(6, iV y_1), (7, bV y_2)] [] [] [⟨3, [0], k_slices_BinarySearchFunc_impl_Edge_impl_Edge_impl_Edge__impl_compareEnds hr0⟩] ?_
 replace ⟨y_3, y_4, hr0, h⟩ := bd2 h
 refine rc [] [(8, .pp 5 0)] [] [oT y_4, .box [iV y_3, .sl 4]] [⟨1, [0], k_impl_Graph_copied hr0⟩] ?_
 refine awp_join h (fun t8_1s => [(2, .pp 1 0), (4, .pp 2 0), (8, .pp 3 0)]) (fun t8_1s => [rT a0_1, .rbox [iV a0_0, .sl 0], .box [iV 0, nV], .box [iV y_3, .sl 4], oT t8_1s]) ?_ ?_
 ·intro k h
  refine rg [7] [(22, bV y_2)] ?_
  refine awp_if h ?_ ?_ <;> intro hc h
  ·replace ⟨p, h⟩ := k1 h
   refine em [3, 6, 22] [] [(4, oT (y_4.set y_1.toNat (a1_0, a1_1, a1_2)))] [] ?_
   exact jos [0, 1, 3, 5, 4]
  replace ⟨y_5, hr0, h⟩ := bd h
  refine ec [3, 6, 22] [] [(4, .dead), (0, .box [iV y_3, .sl 7])] [oT [(a1_0, a1_1, a1_2)], oT y_5] [⟨5, [4, 6], k_insF y_4 y_1 [(a1_0, a1_1, a1_2)] (h := hr0)⟩] ?_
  exact jos [0, 1, 3, 5, 7]
 rintro t8_1s h
 try dsimp only
 refine awp_seq fun K7 hK7 => ?_
 replace ⟨y_6, hr0, h⟩ := bd h
 refine rc [] [(37, bV (!y_6))] [] [] [⟨1, [4], k_impl_GraphValid hr0⟩] ?_
 refine awp_if h ?_ ?_ <;> intro hc h
 ·replace ⟨y_7, y_8, hr0, h⟩ := bd2 h
  refine rc [2, 8, 37] [(5, bV false)] [(2, .box [iV y_7, .sl 5])] [oT y_8] [⟨1, [0], k_impl_Graph_copied hr0⟩] ?_
  exact fr [0, 5]
 refine sk hK7 ?_
 refine rm [2, 8, 37] [(5, bV true)] [(2, .box [iV y_3, .sl 4])] [] ?_
 exact fr [0, 4]
theorem k_impl_actorOf {a0_0 a0_1 a0_2 r} (h : impl_actorOf a0_0 a0_1 a0_2 = some r) : KA Tryz.prog 64 [.agg [iV a0_0, iV a0_1, iV a0_2]] [] (.v (dynV r.1 r.2)) [] := by
 unfold impl_actorOf at h
 refine FnA.ofA 35 [] [.tmp 2] Tryz.func64 en64 ?_
 refine rm [0] [(1, .pp 0 0)] [] [.box [iV a0_0, iV a0_1, iV a0_2]] ?_
 refine fz 1 ?_
 refine awp_seq fun K6 hK6 => ?_
 refine rg [] [(4, iV a0_0)] ?_
 refine awp_block ?_
 refine rg [] [(5, bV (a0_0 == 1))] ?_
 refine awp_if h ?_ ?_ <;> intro hc h
 ·refine rg [1, 4, 5] [(2, .v (.iface 130 (.agg #[(.int .i64 a0_1)])))] ?_
  exact fr []
 refine rg [5] [(11, bV (a0_0 == 2))] ?_
 refine awp_if h ?_ ?_ <;> intro hc h
 ·refine rg [1, 4, 11] [(2, .v (.iface 131 (.agg #[(.int .i64 a0_1)])))] ?_
  exact fr []
 refine rg [11] [(17, bV (a0_0 == 3))] ?_
 refine awp_if h ?_ ?_ <;> intro hc h
 ·refine rg [1, 4, 17] [(2, .v (.iface 133 (.agg #[])))] ?_
  exact fr []
 refine rg [17] [(21, bV (a0_0 == 4))] ?_
 refine awp_if h ?_ ?_ <;> intro hc h
 ·refine rg [1, 4, 21] [(2, .v (.iface 135 (.agg #[(.int .i64 a0_2)])))] ?_
  exact fr []
 refine rg [4, 21] [(27, bV (a0_0 == 5))] ?_
 refine awp_if h ?_ ?_ <;> intro hc h
 ·refine rg [1, 27] [(2, .v (.iface 136 (.agg #[])))] ?_
  exact fr []
 refine sk hK6 ?_
 refine rg [1, 27] [(2, .v (.iface 137 (.agg #[(.int .i64 a0_2)])))] ?_
 exact fr []
theorem k_impl_Graph_lists {a0_0 a0_1 r} (h : impl_Graph_lists a0_0 a0_1 = some r) : KA Tryz.prog 65 [.agg [iV a0_0, .sl 0]] [rT a0_1] (.sl 1) [rT a0_1, .row true (.tripss r)] := by
 unfold impl_Graph_lists at h
 refine FnA.ofA 30 [0] [.tmp 2] Tryz.func65 en65 ?_
 refine rm [0] [(1, .pp 1 0)] [] [.box [iV a0_0, .sl 0]] ?_
 refine fz 1 ?_
 replace ⟨p, h⟩ := k1 h
 refine rm [] [(3, .sl 2)] [] [.row true (.tripss (List.replicate a0_0.toNat []))] ?_
 refine awp_seq fun K20 hK20 => ?_
 refine rg [1] [(10, .sl 0), (11, iV (a0_1.length : Int)), (12, iV 0)] ?_
 refine awp_block ?_
 refine lp h (fun (t12, t3s) => [(3, .sl 1), (10, .sl 0), (11, iV (a0_1.length : Int)), (12, iV t12)]) (fun (t12, t3s) => [rT a0_1, .row true (.tripss t3s)]) (fun _ => Exit.exit 0) (fun (t3s_1 : List (List (Int × Int × Int))) => [(3, .sl 1)]) (fun (t3s_1 : List (List (Int × Int × Int))) => [rT a0_1, .row true (.tripss t3s_1)]) ?_ ?_ (h0 := Red.selA [0, 2] Red.auto)
 ·rintro ⟨t12, t3s⟩ r h
  unfold impl_Graph_lists_b0 at h
  try dsimp only
  refine rg [] [(13, bV (decide (t12 < (a0_1.length : Int))))] ?_
  refine awp_seq fun K34 hK34 => ?_
  refine awp_if h ?_ ?_ <;> intro hc h
  ·refine sk hK34 ?_
   refine awp_seq fun K37 hK37 => ?_
   refine awp_block ?_
   replace ⟨p, h⟩ := k1 h
   refine rm [13] [(5, .pp 2 0)] [] [.box [iV ((a0_1.getD t12.toNat (0, 0, 0)).1), iV ((a0_1.getD t12.toNat (0, 0, 0)).2.1), iV ((a0_1.getD t12.toNat (0, 0, 0)).2.2)]] ?_
   refine awp_freeze 5 (by rfl) (by rfl) (by first | exact rfl | (simp only [List.map_cons, List.map_nil, List.set_cons_succ, List.set_cons_zero, AObj.unview, reduceCtorEq, ↓reduceIte, Nat.reduceEqDiff]; exact rfl)) ?_
   replace h := chk_some h
   obtain ⟨hpt38, h⟩ := h
   refine awp_take 1 (((a0_1.getD t12.toNat (0, 0, 0)).1).toNat) 0 (by rfl) (by exact hpt38) (by rfl) (by exact rfl) ?_
   clear hpt38
   replace ⟨p, h⟩ := k2 h
   refine pe [0, 1, 2] (.free 0 (.free 1 (.free 3 (.free 4 (.free 2 (.free 5 (.free 8 (.two 6 9 (.two 7 9 (.one 9 (.one 10 (.one 11 (.one 12 .fin)))) (.one 7 (.one 10 (.one 11 (.one 12 .fin))))) (.one 6 (.one 7 (.one 10 (.one 11 (.one 12 .fin))))))))))))) [5] [] [(1, .row true (.tripss (t3s.set (((a0_1.getD t12.toNat (0, 0, 0)).1).toNat) ((t3s.getD (((a0_1.getD t12.toNat (0, 0, 0)).1).toNat) []) ++ [((a0_1.getD t12.toNat (0, 0, 0)).1, (a0_1.getD t12.toNat (0, 0, 0)).2.1, (a0_1.getD t12.toNat (0, 0, 0)).2.2)])))), (1, .view 1 (.trips ((t3s.getD (((a0_1.getD t12.toNat (0, 0, 0)).1).toNat) []) ++ [((a0_1.getD t12.toNat (0, 0, 0)).1, (a0_1.getD t12.toNat (0, 0, 0)).2.1, (a0_1.getD t12.toNat (0, 0, 0)).2.2)])))] [oT [((a0_1.getD t12.toNat (0, 0, 0)).1, (a0_1.getD t12.toNat (0, 0, 0)).2.1, (a0_1.getD t12.toNat (0, 0, 0)).2.2)]] ?_
   refine hK37 _ _ ?_
   replace ⟨p, h⟩ := k1 h
   refine eg [12] [(12, iV (t12 + 1))] ?_
   exact lns [0, 1]
  exact lo
 rintro t3s_1 h
 try dsimp only
 refine hK20 _ _ ?_
 refine rg [3] [(2, .sl 1)] ?_
 exact fr [0, 1]
theorem k_impl_maskOf {a0 r} (h : impl_maskOf a0 = some r) : KA Tryz.prog 92 [iV a0] [] (.v (.int .u32 r)) [] := by
 unfold impl_maskOf at h
 refine FnA.ofA 6 [] [.tmp 2] Tryz.func92 en92 ?_
 refine rg [] [] ?_
 replace ⟨p, h⟩ := k1 h
 refine rg [0] [(2, .v (.int .u32 (IntKind.u32.wrap (1 * 2 ^ min (IntKind.u64.wrap a0).toNat IntKind.u32.bits))))] ?_
 exact fr []
theorem k_impl_nextMasks {a0_0 a0_1 r} (h : impl_nextMasks a0_0 a0_1 = some r) : KA Tryz.prog 91 [.agg [iV a0_0, .sl 0]] [rT a0_1] (.sl 1) [rT a0_1, .row true (.ints .u32 r)] := by
 unfold impl_nextMasks at h
 refine FnA.ofA 28 [0] [.tmp 2] Tryz.func91 en91 ?_
 refine rm [0] [(1, .pp 1 0)] [] [.box [iV a0_0, .sl 0]] ?_
 refine fz 1 ?_
 replace ⟨p, h⟩ := k1 h
 refine rm [] [(3, .sl 2)] [] [.row true (.ints .u32 (List.replicate a0_0.toNat 0))] ?_
 refine awp_seq fun K14 hK14 => ?_
 refine rg [1] [(10, .sl 0), (11, iV (a0_1.length : Int)), (12, iV 0)] ?_
 refine awp_block ?_
 refine lp h (fun (t12, t3s) => [(3, .sl 1), (10, .sl 0), (11, iV (a0_1.length : Int)), (12, iV t12)]) (fun (t12, t3s) => [rT a0_1, .row true (.ints .u32 t3s)]) (fun _ => Exit.exit 0) (fun t3s_1 => [(3, .sl 1)]) (fun t3s_1 => [rT a0_1, .row true (.ints .u32 t3s_1)]) ?_ ?_ (h0 := Red.selA [0, 2] Red.auto)
 ·rintro ⟨t12, t3s⟩ r h
  unfold impl_nextMasks_b0 at h
  try dsimp only
  refine rg [] [(13, bV (decide (t12 < (a0_1.length : Int))))] ?_
  refine awp_seq fun K24 hK24 => ?_
  refine awp_if h ?_ ?_ <;> intro hc h
  ·refine sk hK24 ?_
   refine awp_seq fun K26 hK26 => ?_
   refine awp_block ?_
   replace ⟨p, h⟩ := k1 h
   refine rm [13] [(5, .pp 2 0)] [] [.box [iV ((a0_1.getD t12.toNat (0, 0, 0)).1), iV ((a0_1.getD t12.toNat (0, 0, 0)).2.1), iV ((a0_1.getD t12.toNat (0, 0, 0)).2.2)]] ?_
   replace ⟨p, h⟩ := k1 h
   replace ⟨y, hr1, h⟩ := bd h
   have c0 := cm [] (k_impl_maskOf hr1)
   refine de (.free 0 (.free 1 (.free 5 (.two 2 6 (.two 3 6 (.two 4 6 (.one 6 (.one 7 (.one 8 (.one 9 (.one 10 .fin))))) (.two 4 7 (.one 7 (.one 8 (.one 9 (.one 10 .fin)))) (.one 4 (.one 8 (.one 9 (.one 10 .fin)))))) (.two 3 7 (.two 4 7 (.one 7 (.one 8 (.one 9 (.one 10 .fin)))) (.one 4 (.one 8 (.one 9 (.one 10 .fin))))) (.one 3 (.one 4 (.one 8 (.one 9 (.one 10 .fin))))))) (.two 2 7 (.two 3 7 (.two 4 7 (.one 7 (.one 8 (.one 9 (.one 10 .fin)))) (.one 4 (.one 8 (.one 9 (.one 10 .fin))))) (.one 3 (.one 4 (.one 8 (.one 9 (.one 10 .fin)))))) (.one 2 (.one 3 (.one 4 (.one 8 (.one 9 (.one 10 .fin))))))))))) [5] [] [(1, .row true (.ints .u32 (t3s.set (((a0_1.getD t12.toNat (0, 0, 0)).1).toNat) (bitsV .or .u32 (t3s.getD (((a0_1.getD t12.toNat (0, 0, 0)).1).toNat) 0) y))))] [] ?_
   refine hK26 _ _ ?_
   replace ⟨p, h⟩ := k1 h
   refine eg [12] [(12, iV (t12 + 1))] ?_
   exact lns [0, 1]
  exact lo
 rintro t3s_1 h
 try dsimp only
 refine hK14 _ _ ?_
 refine rg [3] [(2, .sl 1)] ?_
 exact fr [0, 1]
theorem k_impl_nearMasks {a0_0 a0_1 r} (h : impl_nearMasks a0_0 a0_1 = some r) : KA Tryz.prog 66 [.agg [iV a0_0, .sl 0]] [rT a0_1] (.sl 1) [rT a0_1, .row true (.ints .u32 r)] := by
 unfold impl_nearMasks at h
 refine FnA.ofA 27 [0] [.tmp 2] Tryz.func66 en66 ?_
 refine rm [0] [(1, .pp 1 0)] [] [.box [iV a0_0, .sl 0]] ?_
 refine fz 1 ?_
 replace ⟨y, hr0, h⟩ := bd h
 refine rc [] [(3, .sl 2)] [] [.row true (.ints .u32 y)] [⟨1, [0], k_impl_nextMasks hr0⟩] ?_
 refine awp_seq fun K14 hK14 => ?_
 refine rg [1] [(9, .sl 0), (10, iV (a0_1.length : Int)), (11, iV 0)] ?_
 refine awp_block ?_
 refine lp h (fun (t11, t3s) => [(3, .sl 1), (9, .sl 0), (10, iV (a0_1.length : Int)), (11, iV t11)]) (fun (t11, t3s) => [rT a0_1, .row true (.ints .u32 t3s)]) (fun _ => Exit.exit 0) (fun t3s_1 => [(3, .sl 1)]) (fun t3s_1 => [rT a0_1, .row true (.ints .u32 t3s_1)]) ?_ ?_ (h0 := Red.selA [0, 2] Red.auto)
 ·rintro ⟨t11, t3s⟩ r h
  unfold impl_nearMasks_b0 at h
  try dsimp only
  refine rg [] [(12, bV (decide (t11 < (a0_1.length : Int))))] ?_
  refine awp_seq fun K24 hK24 => ?_
  refine awp_if h ?_ ?_ <;> intro hc h
  ·refine sk hK24 ?_
   refine awp_seq fun K26 hK26 => ?_
   refine awp_block ?_
   replace ⟨p, h⟩ := k1 h
   refine rm [12] [(5, .pp 2 0)] [] [.box [iV ((a0_1.getD t11.toNat (0, 0, 0)).1), iV ((a0_1.getD t11.toNat (0, 0, 0)).2.1), iV ((a0_1.getD t11.toNat (0, 0, 0)).2.2)]] ?_
   replace ⟨p, h⟩ := k1 h
   replace ⟨y_1, hr1, h⟩ := bd h
   have c0 := cm [] (k_impl_maskOf hr1)
   refine de (.free 0 (.free 1 (.free 5 (.two 2 6 (.two 3 6 (.two 4 6 (.one 6 (.one 7 (.one 8 (.one 9 (.one 10 .fin))))) (.two 4 7 (.one 7 (.one 8 (.one 9 (.one 10 .fin)))) (.one 4 (.one 8 (.one 9 (.one 10 .fin)))))) (.two 3 7 (.two 4 7 (.one 7 (.one 8 (.one 9 (.one 10 .fin)))) (.one 4 (.one 8 (.one 9 (.one 10 .fin))))) (.one 3 (.one 4 (.one 8 (.one 9 (.one 10 .fin))))))) (.two 2 7 (.two 3 7 (.two 4 7 (.one 7 (.one 8 (.one 9 (.one 10 .fin)))) (.one 4 (.one 8 (.one 9 (.one 10 .fin))))) (.one 3 (.one 4 (.one 8 (.one 9 (.one 10 .fin)))))) (.one 2 (.one 3 (.one 4 (.one 8 (.one 9 (.one 10 .fin))))))))))) [5] [] [(1, .row true (.ints .u32 (t3s.set (((a0_1.getD t11.toNat (0, 0, 0)).2.1).toNat) (bitsV .or .u32 (t3s.getD (((a0_1.getD t11.toNat (0, 0, 0)).2.1).toNat) 0) y_1))))] [] ?_
   refine hK26 _ _ ?_
   replace ⟨p, h⟩ := k1 h
   refine eg [11] [(11, iV (t11 + 1))] ?_
   exact lns [0, 1]
  exact lo
 rintro t3s_1 h
 try dsimp only
 refine hK14 _ _ ?_
 refine rg [3] [(2, .sl 1)] ?_
 exact fr [0, 1]
theorem vcd {p : Prop} (h : p := by
  simp (maxSteps := 4000000) only [go_sem, ↓dynV_one, Nat.reduceBEq, Nat.reduceLT, Nat.reduceAdd, Nat.reduceLeDiff, Nat.reduceSub, Nat.reduceEqDiff, Int.reduceToNat, reduceCtorEq, ↓reduceIte]
  repeat' (first | refine And.intro ?_ ?_ | intro hg | (simp (disch := omega) only [wrap_fits]) | (refine iw ?_; (first | (refine wcM c0 ?_) | (refine wpA_guard rfl rfl ?_; refine wcM (cg c0) ?_) | (refine wpA_guard rfl rfl ?_; refine wcM (cg (cg c0)) ?_) | (refine wpA_guard rfl rfl ?_; refine wcM c0 ?_) | (refine wcM c1 ?_) | (refine wpA_guard rfl rfl ?_; refine wcM (cg c1) ?_) | (refine wpA_guard rfl rfl ?_; refine wcM (cg (cg c1)) ?_) | (refine wpA_guard rfl rfl ?_; refine wcM c1 ?_) | (refine wcM c2 ?_) | (refine wpA_guard rfl rfl ?_; refine wcM (cg c2) ?_) | (refine wpA_guard rfl rfl ?_; refine wcM (cg (cg c2)) ?_) | (refine wpA_guard rfl rfl ?_; refine wcM c2 ?_) | (refine wcM c3 ?_) | (refine wpA_guard rfl rfl ?_; refine wcM (cg c3) ?_) | (refine wpA_guard rfl rfl ?_; refine wcM (cg (cg c3)) ?_) | (refine wpA_guard rfl rfl ?_; refine wcM c3 ?_) | (refine wcM c4 ?_) | (refine wpA_guard rfl rfl ?_; refine wcM (cg c4) ?_) | (refine wpA_guard rfl rfl ?_; refine wcM (cg (cg c4)) ?_) | (refine wpA_guard rfl rfl ?_; refine wcM c4 ?_) | (refine wcM c5 ?_) | (refine wpA_guard rfl rfl ?_; refine wcM (cg c5) ?_) | (refine wpA_guard rfl rfl ?_; refine wcM (cg (cg c5)) ?_) | (refine wpA_guard rfl rfl ?_; refine wcM c5 ?_) | (refine wpA_guard rfl rfl ?_; refine wcM (cg (cg (cg c0))) ?_) | (refine wpA_here d0 ?_)); rintro x Hc' ⟨rfl, rfl⟩ hlen; refine vcOps_sound ftCOk ?_; simp (maxSteps := 4000000) only [go_sem, ↓dynV_one, Nat.reduceBEq, Nat.reduceLT, Nat.reduceAdd, Nat.reduceLeDiff, Nat.reduceSub, Nat.reduceEqDiff, Int.reduceToNat, reduceCtorEq, ↓reduceIte]) | (refine io ?_; (first | (refine ocM c0 ?_) | (refine ocM (cg c0) ?_) | (refine ocM (cg (cg c0)) ?_) | (refine ocM c1 ?_) | (refine ocM (cg c1) ?_) | (refine ocM (cg (cg c1)) ?_) | (refine ocM c2 ?_) | (refine ocM (cg c2) ?_) | (refine ocM (cg (cg c2)) ?_) | (refine ocM c3 ?_) | (refine ocM (cg c3) ?_) | (refine ocM (cg (cg c3)) ?_) | (refine ocM c4 ?_) | (refine ocM (cg c4) ?_) | (refine ocM (cg (cg c4)) ?_) | (refine ocM c5 ?_) | (refine ocM (cg c5) ?_) | (refine ocM (cg (cg c5)) ?_) | (refine ocM (cg (cg (cg c0))) ?_) | (refine OpK_here d0 ?_)); rintro x Hc' ⟨rfl, rfl⟩ hlen; simp (maxSteps := 4000000) only [go_sem, ↓dynV_one, Nat.reduceBEq, Nat.reduceLT, Nat.reduceAdd, Nat.reduceLeDiff, Nat.reduceSub, Nat.reduceEqDiff, Int.reduceToNat, reduceCtorEq, ↓reduceIte]) | exact al0 | (have hq := hp0 byg; omega) | (have hq := hp0 byg byg; omega) | (have hq := hp1 byg; omega) | (have hq := hp1 byg byg; omega) | (have hq := hp2 byg; omega) | (have hq := hp2 byg byg; omega) | (have hq := hp3 byg; omega) | (have hq := hp3 byg byg; omega) | (have hq := hp4 byg; omega) | (have hq := hp4 byg byg; omega) | (have hq := hp5 byg; omega) | (have hq := hp5 byg byg; omega) | (have hq := hp6 byg; omega) | (have hq := hp6 byg byg; omega) | (have hq := hp7 byg; omega) | (have hq := hp7 byg byg; omega) | (have hq := hp8 byg; omega) | (have hq := hp8 byg byg; omega) | (have hq := hp9 byg; omega) | (have hq := hp9 byg byg; omega) | (simp (maxSteps := 4000000) only [go_sem, ↓dynV_one, Nat.reduceBEq, Nat.reduceLT, Nat.reduceAdd, Nat.reduceLeDiff, Nat.reduceSub, Nat.reduceEqDiff, Int.reduceToNat, reduceCtorEq, ↓reduceIte]) | exact al1)) : p := h
theorem k_impl_rulesOf {a0_0 a0_1 a1_0 a1_1 a1_2 a2 r} (h : impl_rulesOf a0_0 a0_1 a1_0 a1_1 a1_2 a2 = some r) : KA Tryz.prog 32 [.agg [iV a0_0, .sl 0], .agg [iV a1_0, iV a1_1, iV a1_2], iV a2] [rT a0_1] (.agg [.v (dynV r.1 r.2.1), .sl 1, .sl 2, iV r.2.2.2.2]) [rT a0_1, .row true (.tripss r.2.2.1), .row true (.ints .u32 r.2.2.2.1)] := by
 unfold impl_rulesOf at h
 refine FnA.ofA 15 [0] [.cell 6 65] Tryz.func32 en32 ?_
 refine rm [0, 1] [(3, .pp 1 0), (4, .pp 2 0), (6, .pp 3 0)] [] [.box [iV a0_0, .sl 0], .box [iV a1_0, iV a1_1, iV a1_2], .box [.v Value.nilIface, nV, nV, iV 0]] ?_
 refine fz 3 ?_
 refine fz 4 ?_
 replace ⟨y, y_1, hr0, h⟩ := bd2 h
 replace ⟨y_2, hr1, h⟩ := bd h
 replace ⟨y_3, hr2, h⟩ := bd h
 have c0 := cm [] (k_impl_actorOf hr0)
 have c1 := cm [0] (k_impl_Graph_lists hr1)
 have c2 := cm [0] (k_impl_nearMasks hr2)
 refine dm (.free 6 (.free 0 (.free 2 (.free 4 (.one 1 (.one 3 (.one 5 (.one 7 (.one 8 .fin))))))))) [2, 3, 4] [] [(3, .box [.v (dynV y y_1), .sl 4, .sl 5, iV a2])] [.row true (.tripss y_2), .row true (.ints .u32 y_3)] ?_ (hx := by intro K hK; exact vcd)
 exact fr [0, 4, 5]
theorem k_impl_valuesTo {a0 a1 r} (h : impl_valuesTo a0 a1 = some r) : KA Tryz.prog 67 [.sl 0, iV a1] [rT a0] (.sl 1) [rT a0, oI r] := by
 unfold impl_valuesTo at h
 refine FnA.ofA 25 [0] [.tmp 4] Tryz.func67 en67 ?_
 refine rg [] [] ?_
 refine rg [] [(5, nV)] ?_
 refine awp_seq fun K22 hK22 => ?_
 refine rg [0] [(8, .sl 0), (9, iV (a0.length : Int)), (10, iV 0)] ?_
 refine awp_block ?_
 refine lp h (fun (t10, t5s) => [(1, iV a1), (5, .sl 1), (8, .sl 0), (9, iV (a0.length : Int)), (10, iV t10)]) (fun (t10, t5s) => [rT a0, oI t5s]) (fun _ => Exit.exit 0) (fun t5s_1 => [(5, .sl 1)]) (fun t5s_1 => [rT a0, oI t5s_1]) ?_ ?_ (h0 := by refine Red.trans (Red.nil (t := 5) (.ints .i64 []) rfl rfl) ?_; exact Red.auto)
 ·rintro ⟨t10, t5s⟩ r h
  unfold impl_valuesTo_b0 at h
  try dsimp only
  refine rg [] [(11, bV (decide (t10 < (a0.length : Int))))] ?_
  refine awp_seq fun K39 hK39 => ?_
  refine awp_if h ?_ ?_ <;> intro hc h
  ·refine sk hK39 ?_
   refine awp_join h (fun t5s_2 => [(1, iV a1), (5, .sl 1), (8, .sl 0), (9, iV (a0.length : Int)), (10, iV t10)]) (fun t5s_2 => [rT a0, oI t5s_2]) ?_ ?_
   ·intro k h
    refine awp_block ?_
    replace ⟨p, h⟩ := k1 h
    refine rm [11] [(7, .pp 2 0)] [] [.box [iV ((a0.getD t10.toNat (0, 0, 0)).1), iV ((a0.getD t10.toNat (0, 0, 0)).2.1), iV ((a0.getD t10.toNat (0, 0, 0)).2.2)]] ?_
    refine rg [] [(17, bV ((a0.getD t10.toNat (0, 0, 0)).1 == a1))] ?_
    refine awp_if h ?_ ?_ <;> intro hc h
    ·replace ⟨p, h⟩ := k1 h
     refine em [7, 17] [] [(1, oI (t5s ++ [(a0.getD t10.toNat (0, 0, 0)).2.1]))] [oI [(a0.getD t10.toNat (0, 0, 0)).2.1]] ?_
     exact jos [0, 1]
    refine awp_skip ?_
    exact jos [0, 1]
   rintro t5s_2 h
   try dsimp only
   replace ⟨p, h⟩ := k1 h
   refine eg [10] [(10, iV (t10 + 1))] ?_
   exact ln
  exact lo
 rintro t5s_1 h
 try dsimp only
 refine hK22 _ _ ?_
 refine rg [5] [(4, .sl 1)] ?_
 exact fr [0, 1]
theorem k_slices_Min_int_int {a0 r} (h : slices_Min_int_int a0 = some r) : KA Tryz.prog 157 [.sl 0] [rI a0] (iV r) [rI a0] := by
 unfold slices_Min_int_int at h
 refine FnA.ofA 25 [0] [.tmp 2] Tryz.func157 en157 ?_
 refine rg [] [] ?_
 refine awp_seq fun K2 hK2 => ?_
 refine rg [] [(7, bV (decide ((a0.length : Int) < 1)))] ?_
 refine awp_if h ?_ ?_ <;> intro hc h
 ·cases h
 refine sk hK2 ?_
 replace ⟨p, h⟩ := k1 h
 refine rg [7] [(3, iV (a0.getD 0 0))] ?_
 refine awp_seq fun K17 hK17 => ?_
 refine rg [] [(4, iV 1)] ?_
 refine awp_block ?_
 refine lp h (fun (t3, t4) => [(0, .sl 0), (3, iV t3), (4, iV t4)]) (fun (t3, t4) => [rI a0]) (fun _ => Exit.exit 0) (fun t3_1 => [(3, iV t3_1)]) (fun t3_1 => [rI a0]) ?_ ?_
 ·rintro ⟨t3, t4⟩ r h
  unfold slices_Min_int_int_b0 at h
  try dsimp only
  refine awp_seq fun K27 hK27 => ?_
  refine rg [] [(15, bV (decide (t4 < (a0.length : Int))))] ?_
  refine awp_if h ?_ ?_ <;> intro hc h
  ·refine sk hK27 ?_
   refine awp_seq fun K29 hK29 => ?_
   refine awp_block ?_
   replace ⟨p, h⟩ := k1 h
   refine eg [3, 15] [(3, iV (min t3 (a0.getD t4.toNat 0)))] ?_
   refine hK29 _ _ ?_
   replace ⟨p, h⟩ := k1 h
   refine eg [4] [(4, iV (t4 + 1))] ?_
   exact ln
  exact lo
 rintro t3_1 h
 try dsimp only
 refine hK17 _ _ ?_
 refine rg [3] [(2, iV t3_1)] ?_
 exact fr [0]
theorem k_impl_vertexTurn_alongWays__impl_hopsProgram_act_1 {a0_0 a0_1 a0_2 a0_3 a0_4 a0_5 a1 r} (h : impl_vertexTurn_alongWays__impl_hopsProgram_act_1 a0_0 a0_1 a0_2 a0_3 a0_4 a0_5 a1 = some r) : KA Tryz.prog 155 [.agg [iV a0_0, .sl 0, .v (.int .u32 a0_2), iV a0_3, iV a0_4, .sl 1], iV a1, .v (.func (.func 156) #[] #[])] [rT a0_1, rI a0_5] (.agg [iV r.1, .sl 2, bV r.2.2]) [rT a0_1, rI a0_5, oT r.2.1] := by
 unfold impl_vertexTurn_alongWays__impl_hopsProgram_act_1 at h
 refine FnA.ofA 68 [0, 1] [.cell 6 68] Tryz.func155 en155 ?_
 refine rm [0] [(3, .pp 2 0), (6, .pp 3 0)] [] [.box [iV a0_0, .sl 0, .v (.int .u32 a0_2), iV a0_3, iV a0_4, .sl 1], .box [iV 0, nV, bV false]] ?_
 refine fz 3 ?_
 refine rg [] [(7, iV a0_4), (8, bV false)] ?_
 refine awp_join h (fun (t7, t8) => [(2, .v (.func (.func 156) #[] #[])), (3, .pp 2 0), (6, .pp 3 0), (7, iV t7), (8, bV t8)]) (fun (t7, t8) => [rT a0_1, rI a0_5, .rbox [iV a0_0, .sl 0, .v (.int .u32 a0_2), iV a0_3, iV a0_4, .sl 1], .box [iV 0, nV, bV false]]) ?_ ?_
 ·intro k h
  refine rg [] [(17, bV (a0_3 == 0))] ?_
  refine awp_if h ?_ ?_ <;> intro hc h
  ·refine rg [7, 17] [(7, iV (-1))] ?_
   refine rg [1] [(21, bV (a0_0 == a1))] ?_
   refine awp_if h ?_ ?_ <;> intro hc h
   ·refine eg [7, 8, 21] [(7, iV 0), (8, bV true)] ?_
    exact jo
   refine awp_skip ?_
   exact jo
  refine rg [1, 17] [(25, bV (decide (0 < (a0_5.length : Int))))] ?_
  refine awp_if h ?_ ?_ <;> intro hc h
  ·replace ⟨y, hr0, h⟩ := bd h
   refine rc [8, 25] [(9, iV y)] [] [] [⟨2, [1], k_slices_Min_int_int hr0⟩] ?_
   refine awp_join h (fun t7_1 => [(2, .v (.func (.func 156) #[] #[])), (3, .pp 2 0), (6, .pp 3 0), (7, iV t7_1)]) (fun t7_1 => [rT a0_1, rI a0_5, .rbox [iV a0_0, .sl 0, .v (.int .u32 a0_2), iV a0_3, iV a0_4, .sl 1], .box [iV 0, nV, bV false]]) ?_ ?_
   ·intro k_1 h
    refine rg [] [(35, bV ((a0_4 == (-1)) || (decide (y < a0_4))))] ?_
    refine awp_if h ?_ ?_ <;> intro hc h
    ·refine eg [7, 9, 35] [(7, iV y)] ?_
     exact jo
    refine awp_skip ?_
    exact jo
   rintro t7_1 h
   try dsimp only
   refine eg [] [(8, bV (t7_1 != a0_4))] ?_
   exact jo
  refine awp_skip ?_
  exact jo
 rintro ⟨t7, t8⟩ h
 try dsimp only
 refine rm [] [(10, .pp 4 0)] [] [.box [iV t7, nV, bV false]] ?_
 refine awp_join h (fun t10_1s => [(6, .pp 2 0), (10, .pp 3 0)]) (fun t10_1s => [rT a0_1, rI a0_5, .box [iV 0, nV, bV false], .box [iV t7, .sl 4, bV false], oT t10_1s]) ?_ ?_
 ·intro k_2 h
  refine rg [8] [(43, bV t8)] ?_
  refine awp_if h ?_ ?_ <;> intro hc h
  ·refine rg [43] [(45, .sl 0), (46, iV (a0_1.length : Int)), (47, iV 0)] ?_
   refine awp_block ?_
   refine lp h (fun (t47, t10_1s_1) => [(2, .v (.func (.func 156) #[] #[])), (3, .pp 2 0), (6, .pp 3 0), (7, iV t7), (10, .pp 4 0), (45, .sl 0), (46, iV (a0_1.length : Int)), (47, iV t47)]) (fun (t47, t10_1s_1) => [rT a0_1, rI a0_5, .rbox [iV a0_0, .sl 0, .v (.int .u32 a0_2), iV a0_3, iV a0_4, .sl 1], .box [iV 0, nV, bV false], .box [iV t7, .sl 5, bV false], oT t10_1s_1]) (fun _ => Exit.exit 0) (fun t10_1s_2 => [(6, .pp 2 0), (10, .pp 3 0)]) (fun t10_1s_2 => [rT a0_1, rI a0_5, .box [iV 0, nV, bV false], .box [iV t7, .sl 4, bV false], oT t10_1s_2]) ?_ ?_ (h0 := by refine Red.trans (Red.nilCell (o := 4) (i := 1) (.trips []) rfl rfl rfl) ?_; exact Red.auto)
   ·rintro ⟨t47, t10_1s_1⟩ r h
    unfold impl_vertexTurn_alongWays__impl_hopsProgram_act_1_b0 at h
    try dsimp only
    refine rg [] [(48, bV (decide (t47 < (a0_1.length : Int))))] ?_
    refine awp_seq fun K43 hK43 => ?_
    refine awp_if h ?_ ?_ <;> intro hc h
    ·refine sk hK43 ?_
     refine awp_seq fun K45 hK45 => ?_
     refine awp_block ?_
     replace ⟨p, h⟩ := k1 h
     refine rm [48] [(12, .pp 6 0)] [] [.box [iV ((a0_1.getD t47.toNat (0, 0, 0)).1), iV ((a0_1.getD t47.toNat (0, 0, 0)).2.1), iV ((a0_1.getD t47.toNat (0, 0, 0)).2.2)]] ?_
     refine awp_freeze 12 (by rfl) (by rfl) (by first | exact rfl | (simp only [List.map_cons, List.map_nil, List.set_cons_succ, List.set_cons_zero, AObj.unview, reduceCtorEq, ↓reduceIte, Nat.reduceEqDiff]; exact rfl)) ?_
     replace ⟨p, h⟩ := k2 h
     refine pe [0, 1, 2, 3, 4, 6] (.free 0 (.free 2 (.free 4 (.free 5 (.free 9 (.free 3 (.free 6 (.free 10 (.two 1 7 (.one 7 (.one 8 (.one 11 (.one 12 (.one 13 (.one 14 (.one 15 .fin))))))) (.free 8 (.free 11 (.two 1 12 (.one 12 (.one 13 (.one 14 (.one 15 .fin)))) (.one 1 (.one 13 (.one 14 (.one 15 .fin)))))))))))))))) [12] [] [(5, oT (t10_1s_1 ++ [((a0_1.getD t47.toNat (0, 0, 0)).2.1, (t7 + 1), a0_0)]))] [oT [((a0_1.getD t47.toNat (0, 0, 0)).2.1, (t7 + 1), a0_0)]] ?_
     refine hK45 _ _ ?_
     replace ⟨p, h⟩ := k1 h
     refine eg [47] [(47, iV (t47 + 1))] ?_
     exact lns [0, 1, 2, 3, 4, 5]
    exact los [0, 1, 3, 4, 5]
   rintro t10_1s_2 h
   try dsimp only
   exact jo
  refine awp_skip ?_
  refine nm ?_
  refine ⟨_, h, ?_⟩
  refine Red.trans (Red.nilCell (o := 4) (i := 1) (.trips []) rfl rfl rfl) ?_
  exact Red.selA [0, 1, 3, 4, 5] Red.auto
 rintro t10_1s h
 try dsimp only
 refine rm [10] [] [(2, .box [iV t7, .sl 4, bV false])] [] ?_
 exact fr [0, 1, 4]
theorem k_impl_hopsProgram_act {a0_0 a1_0 a1_1 a1_2 a1_3 a1_4 a1_5 r} (h : impl_hopsProgram_act a0_0 a1_0 a1_1 a1_2 a1_3 a1_4 a1_5 = some r) : KA Tryz.prog 154 [.agg [iV a0_0], .agg [iV a1_0, .sl 0, .v (.int .u32 a1_2), iV a1_3, iV a1_4, .sl 1]] [rT a1_1, rI a1_5] (.agg [iV r.1, .sl 2, bV r.2.2]) [rT a1_1, rI a1_5, oT r.2.1] := by
 unfold impl_hopsProgram_act at h
 refine FnA.ofA 9 [0, 1] [.cell 4 68] Tryz.func154 en154 ?_
 refine rm [0, 1] [(2, .pp 2 0), (3, .pp 3 0), (4, .pp 4 0)] [] [.box [iV a0_0], .box [iV a1_0, .sl 0, .v (.int .u32 a1_2), iV a1_3, iV a1_4, .sl 1], .box [iV 0, nV, bV false]] ?_
 refine fz 2 ?_
 refine fz 3 ?_
 replace ⟨y, y_1, y_2, hr0, h⟩ := bd3 h
 refine rc [2, 3] [] [(4, .box [iV y, .sl 5, bV y_2])] [oT y_1] [⟨3, [0, 1], k_impl_vertexTurn_alongWays__impl_hopsProgram_act_1 hr0⟩] ?_
 exact fr [0, 1, 5]
theorem k_impl_vertexTurn_alongWays__impl_costsProgram_act_1 {a0_0 a0_1 a0_2 a0_3 a0_4 a0_5 a1 r} (h : impl_vertexTurn_alongWays__impl_costsProgram_act_1 a0_0 a0_1 a0_2 a0_3 a0_4 a0_5 a1 = some r) : KA Tryz.prog 155 [.agg [iV a0_0, .sl 0, .v (.int .u32 a0_2), iV a0_3, iV a0_4, .sl 1], iV a1, .v (.func (.func 159) #[] #[])] [rT a0_1, rI a0_5] (.agg [iV r.1, .sl 2, bV r.2.2]) [rT a0_1, rI a0_5, oT r.2.1] := by
 unfold impl_vertexTurn_alongWays__impl_costsProgram_act_1 at h
 refine FnA.ofA 68 [0, 1] [.cell 6 68] Tryz.func155 en155 ?_
 refine rm [0] [(3, .pp 2 0), (6, .pp 3 0)] [] [.box [iV a0_0, .sl 0, .v (.int .u32 a0_2), iV a0_3, iV a0_4, .sl 1], .box [iV 0, nV, bV false]] ?_
 refine fz 3 ?_
 refine rg [] [(7, iV a0_4), (8, bV false)] ?_
 refine awp_join h (fun (t7, t8) => [(2, .v (.func (.func 159) #[] #[])), (3, .pp 2 0), (6, .pp 3 0), (7, iV t7), (8, bV t8)]) (fun (t7, t8) => [rT a0_1, rI a0_5, .rbox [iV a0_0, .sl 0, .v (.int .u32 a0_2), iV a0_3, iV a0_4, .sl 1], .box [iV 0, nV, bV false]]) ?_ ?_
 ·intro k h
  refine rg [] [(17, bV (a0_3 == 0))] ?_
  refine awp_if h ?_ ?_ <;> intro hc h
  ·refine rg [7, 17] [(7, iV (-1))] ?_
   refine rg [1] [(21, bV (a0_0 == a1))] ?_
   refine awp_if h ?_ ?_ <;> intro hc h
   ·refine eg [7, 8, 21] [(7, iV 0), (8, bV true)] ?_
    exact jo
   refine awp_skip ?_
   exact jo
  refine rg [1, 17] [(25, bV (decide (0 < (a0_5.length : Int))))] ?_
  refine awp_if h ?_ ?_ <;> intro hc h
  ·replace ⟨y, hr0, h⟩ := bd h
   refine rc [8, 25] [(9, iV y)] [] [] [⟨2, [1], k_slices_Min_int_int hr0⟩] ?_
   refine awp_join h (fun t7_1 => [(2, .v (.func (.func 159) #[] #[])), (3, .pp 2 0), (6, .pp 3 0), (7, iV t7_1)]) (fun t7_1 => [rT a0_1, rI a0_5, .rbox [iV a0_0, .sl 0, .v (.int .u32 a0_2), iV a0_3, iV a0_4, .sl 1], .box [iV 0, nV, bV false]]) ?_ ?_
   ·intro k_1 h
    refine rg [] [(35, bV ((a0_4 == (-1)) || (decide (y < a0_4))))] ?_
    refine awp_if h ?_ ?_ <;> intro hc h
    ·refine eg [7, 9, 35] [(7, iV y)] ?_
     exact jo
    refine awp_skip ?_
    exact jo
   rintro t7_1 h
   try dsimp only
   refine eg [] [(8, bV (t7_1 != a0_4))] ?_
   exact jo
  refine awp_skip ?_
  exact jo
 rintro ⟨t7, t8⟩ h
 try dsimp only
 refine rm [] [(10, .pp 4 0)] [] [.box [iV t7, nV, bV false]] ?_
 refine awp_join h (fun t10_1s => [(6, .pp 2 0), (10, .pp 3 0)]) (fun t10_1s => [rT a0_1, rI a0_5, .box [iV 0, nV, bV false], .box [iV t7, .sl 4, bV false], oT t10_1s]) ?_ ?_
 ·intro k_2 h
  refine rg [8] [(43, bV t8)] ?_
  refine awp_if h ?_ ?_ <;> intro hc h
  ·refine rg [43] [(45, .sl 0), (46, iV (a0_1.length : Int)), (47, iV 0)] ?_
   refine awp_block ?_
   refine lp h (fun (t47, t10_1s_1) => [(2, .v (.func (.func 159) #[] #[])), (3, .pp 2 0), (6, .pp 3 0), (7, iV t7), (10, .pp 4 0), (45, .sl 0), (46, iV (a0_1.length : Int)), (47, iV t47)]) (fun (t47, t10_1s_1) => [rT a0_1, rI a0_5, .rbox [iV a0_0, .sl 0, .v (.int .u32 a0_2), iV a0_3, iV a0_4, .sl 1], .box [iV 0, nV, bV false], .box [iV t7, .sl 5, bV false], oT t10_1s_1]) (fun _ => Exit.exit 0) (fun t10_1s_2 => [(6, .pp 2 0), (10, .pp 3 0)]) (fun t10_1s_2 => [rT a0_1, rI a0_5, .box [iV 0, nV, bV false], .box [iV t7, .sl 4, bV false], oT t10_1s_2]) ?_ ?_ (h0 := by refine Red.trans (Red.nilCell (o := 4) (i := 1) (.trips []) rfl rfl rfl) ?_; exact Red.auto)
   ·rintro ⟨t47, t10_1s_1⟩ r h
    unfold impl_vertexTurn_alongWays__impl_costsProgram_act_1_b0 at h
    try dsimp only
    refine rg [] [(48, bV (decide (t47 < (a0_1.length : Int))))] ?_
    refine awp_seq fun K43 hK43 => ?_
    refine awp_if h ?_ ?_ <;> intro hc h
    ·refine sk hK43 ?_
     refine awp_seq fun K45 hK45 => ?_
     refine awp_block ?_
     replace ⟨p, h⟩ := k1 h
     refine rm [48] [(12, .pp 6 0)] [] [.box [iV ((a0_1.getD t47.toNat (0, 0, 0)).1), iV ((a0_1.getD t47.toNat (0, 0, 0)).2.1), iV ((a0_1.getD t47.toNat (0, 0, 0)).2.2)]] ?_
     refine awp_freeze 12 (by rfl) (by rfl) (by first | exact rfl | (simp only [List.map_cons, List.map_nil, List.set_cons_succ, List.set_cons_zero, AObj.unview, reduceCtorEq, ↓reduceIte, Nat.reduceEqDiff]; exact rfl)) ?_
     replace ⟨p, h⟩ := k2 h
     refine pe [0, 1, 2, 3, 4, 6] (.free 0 (.free 2 (.free 4 (.free 5 (.free 9 (.free 3 (.free 6 (.free 10 (.two 1 7 (.one 7 (.one 8 (.one 11 (.one 12 (.one 13 (.one 14 (.one 15 .fin))))))) (.free 8 (.free 11 (.two 1 12 (.one 12 (.one 13 (.one 14 (.one 15 .fin)))) (.one 1 (.one 13 (.one 14 (.one 15 .fin)))))))))))))))) [12] [] [(5, oT (t10_1s_1 ++ [((a0_1.getD t47.toNat (0, 0, 0)).2.1, (t7 + (a0_1.getD t47.toNat (0, 0, 0)).2.2), a0_0)]))] [oT [((a0_1.getD t47.toNat (0, 0, 0)).2.1, (t7 + (a0_1.getD t47.toNat (0, 0, 0)).2.2), a0_0)]] ?_
     refine hK45 _ _ ?_
     replace ⟨p, h⟩ := k1 h
     refine eg [47] [(47, iV (t47 + 1))] ?_
     exact lns [0, 1, 2, 3, 4, 5]
    exact los [0, 1, 3, 4, 5]
   rintro t10_1s_2 h
   try dsimp only
   exact jo
  refine awp_skip ?_
  refine nm ?_
  refine ⟨_, h, ?_⟩
  refine Red.trans (Red.nilCell (o := 4) (i := 1) (.trips []) rfl rfl rfl) ?_
  exact Red.selA [0, 1, 3, 4, 5] Red.auto
 rintro t10_1s h
 try dsimp only
 refine rm [10] [] [(2, .box [iV t7, .sl 4, bV false])] [] ?_
 exact fr [0, 1, 4]
theorem k_impl_costsProgram_act {a0_0 a1_0 a1_1 a1_2 a1_3 a1_4 a1_5 r} (h : impl_costsProgram_act a0_0 a1_0 a1_1 a1_2 a1_3 a1_4 a1_5 = some r) : KA Tryz.prog 158 [.agg [iV a0_0], .agg [iV a1_0, .sl 0, .v (.int .u32 a1_2), iV a1_3, iV a1_4, .sl 1]] [rT a1_1, rI a1_5] (.agg [iV r.1, .sl 2, bV r.2.2]) [rT a1_1, rI a1_5, oT r.2.1] := by
 unfold impl_costsProgram_act at h
 refine FnA.ofA 9 [0, 1] [.cell 4 68] Tryz.func158 en158 ?_
 refine rm [0, 1] [(2, .pp 2 0), (3, .pp 3 0), (4, .pp 4 0)] [] [.box [iV a0_0], .box [iV a1_0, .sl 0, .v (.int .u32 a1_2), iV a1_3, iV a1_4, .sl 1], .box [iV 0, nV, bV false]] ?_
 refine fz 2 ?_
 refine fz 3 ?_
 replace ⟨y, y_1, y_2, hr0, h⟩ := bd3 h
 refine rc [2, 3] [] [(4, .box [iV y, .sl 5, bV y_2])] [oT y_1] [⟨3, [0, 1], k_impl_vertexTurn_alongWays__impl_costsProgram_act_1 hr0⟩] ?_
 exact fr [0, 1, 5]
theorem k_math_bits_TrailingZeros32 [T0] (a0 : Int) {r : Int} (h : math_bits_TrailingZeros32 a0 = some r) :
 FnA Tryz.prog 163 [.v (.int .u32 a0)] [.glob 0 (.ints .u8 tab0)] [] (fun x H => x = iV r ∧ H = [.glob 0 (.ints .u8 tab0)]) := by
 unfold math_bits_TrailingZeros32 at h
 refine FnA.ofA 14 [0] [.tmp 2] Tryz.func163 en163 ?_
 refine rg [] [] ?_
 refine awp_seq fun K2 hK2 => ?_
 refine rg [] [(4, bV (a0 == 0))] ?_
 refine awp_if h ?_ ?_ <;> intro hc h
 ·refine rg [0, 4] [(2, iV 32)] ?_
  exact fr [0]
 refine sk hK2 ?_
 replace ⟨p, h⟩ := k3 h
 refine rg [0, 4] [(2, iV (tab0.getD (((IntKind.u32.wrap ((bitsV .and .u32 a0 (IntKind.u32.wrap (-a0))) * 125613361)).fdiv 134217728).toNat) 0))] ?_
 exact fr [0]
theorem k_impl_vertexMask_least [T0] (a0 : Int) {r : Int} (h : impl_vertexMask_least a0 = some r) :
 FnA Tryz.prog 152 [.v (.int .u32 a0)] [.glob 0 (.ints .u8 tab0)] [] (fun x H => x = iV r ∧ H = [.glob 0 (.ints .u8 tab0)]) := by
 unfold impl_vertexMask_least at h
 refine FnA.ofA 5 [0] [.tmp 2] Tryz.func152 en152 ?_
 refine rg [] [] ?_
 replace ⟨y, hr0, h⟩ := bd h
 refine rc [0] [(2, iV y)] [] [] [⟨1, [0], k_math_bits_TrailingZeros32 a0 (h := hr0)⟩] ?_
 exact fr [0]
theorem k_impl_vertexMask_list [T0] (a0 : Int) {r : List Int} (h : impl_vertexMask_list a0 = some r) :
 FnA Tryz.prog 162 [.v (.int .u32 a0)] [.glob 0 (.ints .u8 tab0)] [] (fun x H => x = .sl 1 ∧ H = [.glob 0 (.ints .u8 tab0), oI r]) := by
 unfold impl_vertexMask_list at h
 refine FnA.ofA 16 [0] [.tmp 2] Tryz.func162 en162 ?_
 refine rg [] [] ?_
 refine rg [] [(3, nV)] ?_
 refine awp_seq fun K18 hK18 => ?_
 refine awp_block ?_
 refine lp h (fun (t0, t3s) => [(0, .v (.int .u32 t0)), (3, .sl 1)]) (fun (t0, t3s) => [.glob 0 (.ints .u8 tab0), oI t3s]) (fun _ => Exit.exit 0) (fun t3s_1 => [(3, .sl 1)]) (fun t3s_1 => [.glob 0 (.ints .u8 tab0), oI t3s_1]) ?_ ?_ (h0 := by refine Red.trans (Red.nil (t := 3) (.ints .i64 []) rfl rfl) ?_; exact Red.auto)
 ·rintro ⟨t0, t3s⟩ r h
  unfold impl_vertexMask_list_b0 at h
  try dsimp only
  refine awp_seq fun K32 hK32 => ?_
  refine rg [] [(5, bV (t0 != 0))] ?_
  refine awp_if h ?_ ?_ <;> intro hc h
  ·refine sk hK32 ?_
   refine awp_seq fun K34 hK34 => ?_
   refine awp_block ?_
   replace ⟨y, hr0, h⟩ := bd h
   replace ⟨p, h⟩ := k1 h
   refine ec [5] [] [(1, oI (t3s ++ [y]))] [oI [y]] [⟨2, [0], k_impl_vertexMask_least t0 (h := hr0)⟩] ?_
   refine hK34 _ _ ?_
   refine eg [0] [(0, .v (.int .u32 (bitsV .and .u32 t0 (IntKind.u32.wrap (t0 - 1)))))] ?_
   exact lns [0, 1]
  exact lo
 rintro t3s_1 h
 try dsimp only
 refine hK18 _ _ ?_
 refine rg [3] [(2, .sl 1)] ?_
 exact fr [0, 1]
theorem k_impl_vertexTurn_sendTo [T0] (a0_0 : Int) (a0_1 : List (Int × Int × Int)) (a0_2 : Int) (a0_3 : Int) (a0_4 : Int) (a0_5 : List Int) (a1 : Int) (a2 : Int) {r : (List (Int × Int × Int))} (h : impl_vertexTurn_sendTo a0_0 a0_1 a0_2 a0_3 a0_4 a0_5 a1 a2 = some r) :
 FnA Tryz.prog 161 [.agg [iV a0_0, .sl 0, .v (.int .u32 a0_2), iV a0_3, iV a0_4, .sl 1], .v (.int .u32 a1), iV a2] [rT a0_1, rI a0_5, .glob 0 (.ints .u8 tab0)] [] (fun x H => x = .sl 3 ∧ H = [rT a0_1, rI a0_5, .glob 0 (.ints .u8 tab0), oT r]) := by
 unfold impl_vertexTurn_sendTo at h
 refine FnA.ofA 27 [0, 1, 2] [.tmp 6] Tryz.func161 en161 ?_
 refine rm [0] [(3, .pp 3 0)] [] [.box [iV a0_0, .sl 0, .v (.int .u32 a0_2), iV a0_3, iV a0_4, .sl 1]] ?_
 refine fz 3 ?_
 refine rg [] [(7, nV)] ?_
 refine awp_seq fun K18 hK18 => ?_
 replace ⟨y, hr0, h⟩ := bd h
 refine rc [1] [(11, .sl 4), (12, iV (y.length : Int)), (13, iV 0)] [] [oI y] [⟨1, [2], k_impl_vertexMask_list a1 (h := hr0)⟩] ?_
 refine awp_block ?_
 refine lp h (fun (t13, t7s) => [(2, iV a2), (3, .pp 3 0), (7, .sl 4), (11, .sl 5), (12, iV (y.length : Int)), (13, iV t13)]) (fun (t13, t7s) => [rT a0_1, rI a0_5, .glob 0 (.ints .u8 tab0), .rbox [iV a0_0, .sl 0, .v (.int .u32 a0_2), iV a0_3, iV a0_4, .sl 1], oT t7s, oI y]) (fun _ => Exit.exit 0) (fun t7s_1 => [(7, .sl 3)]) (fun t7s_1 => [rT a0_1, rI a0_5, .glob 0 (.ints .u8 tab0), oT t7s_1]) ?_ ?_ (h0 := by refine Red.trans (Red.nil (t := 7) (.trips []) rfl rfl) ?_; exact Red.selA [0, 1, 2, 3, 5, 4] Red.auto)
 ·rintro ⟨t13, t7s⟩ r h
  unfold impl_vertexTurn_sendTo_b0 at h
  try dsimp only
  refine rg [] [(14, bV (decide (t13 < (y.length : Int))))] ?_
  refine awp_seq fun K32 hK32 => ?_
  refine awp_if h ?_ ?_ <;> intro hc h
  ·refine sk hK32 ?_
   refine awp_seq fun K34 hK34 => ?_
   refine awp_block ?_
   replace ⟨p, h⟩ := k1 h
   refine rg [14] [(9, iV (y.getD t13.toNat 0))] ?_
   replace ⟨p, h⟩ := k1 h
   refine em [9] [] [(4, oT (t7s ++ [((y.getD t13.toNat 0), a2, a0_0)]))] [oT [((y.getD t13.toNat 0), a2, a0_0)]] ?_
   refine hK34 _ _ ?_
   replace ⟨p, h⟩ := k1 h
   refine eg [13] [(13, iV (t13 + 1))] ?_
   exact lns [0, 1, 2, 3, 4, 5]
  exact los [0, 1, 2, 4]
 rintro t7s_1 h
 try dsimp only
 refine hK18 _ _ ?_
 refine rg [7] [(6, .sl 3)] ?_
 exact fr [0, 1, 2, 3]
theorem k_impl_partsProgram_act [T0] (a1_0 : Int) (a1_1 : List (Int × Int × Int)) (a1_2 : Int) (a1_3 : Int) (a1_4 : Int) (a1_5 : List Int) {r : Int × (List (Int × Int × Int)) × Bool} (h : impl_partsProgram_act a1_0 a1_1 a1_2 a1_3 a1_4 a1_5 = some r) :
 FnA Tryz.prog 160 [.agg [], .agg [iV a1_0, .sl 0, .v (.int .u32 a1_2), iV a1_3, iV a1_4, .sl 1]] [rT a1_1, rI a1_5, .glob 0 (.ints .u8 tab0)] [] (fun x H => x = .agg [iV r.1, .sl 3, bV r.2.2] ∧ H = [rT a1_1, rI a1_5, .glob 0 (.ints .u8 tab0), oT r.2.1]) := by
 unfold impl_partsProgram_act at h
 refine FnA.ofA 42 [0, 1, 2] [.cell 4 68] Tryz.func160 en160 ?_
 refine rm [0, 1] [(3, .pp 4 0), (4, .pp 5 0)] [] [.box [], .box [iV a1_0, .sl 0, .v (.int .u32 a1_2), iV a1_3, iV a1_4, .sl 1], .box [iV 0, nV, bV false]] ?_
 refine fz 3 ?_
 refine awp_seq fun K2 hK2 => ?_
 refine rg [] [(8, bV (a1_3 == 0))] ?_
 refine awp_if h ?_ ?_ <;> intro hc h
 ·replace ⟨y, hr0, h⟩ := bd h
  have c0 := cm [0, 1, 2] (k_impl_vertexTurn_sendTo a1_0 a1_1 a1_2 a1_3 a1_4 a1_5 a1_2 a1_0 (h := hr0))
  refine dm (.free 0 (.free 3 (.free 5 (.free 1 (.free 2 (.free 4 (.one 6 (.one 7 (.one 8 (.one 9 .fin)))))))))) [3, 8] [] [(5, .box [iV a1_0, .sl 6, bV false])] [oT y] ?_
  exact fr [0, 1, 2, 6]
 refine sk hK2 ?_
 refine awp_seq fun K5 hK5 => ?_
 refine rg [8] [(21, bV ((a1_5.length : Int) == 0))] ?_
 refine awp_if h ?_ ?_ <;> intro hc h
 ·refine rm [3, 21] [] [(5, .box [iV a1_4, nV, bV false])] [] ?_
  refine nc 5 1 (.trips []) ?_
  exact fr [0, 1, 2, 6]
 refine sk hK5 ?_
 replace ⟨y_1, hr0, h⟩ := bd h
 refine rc [21] [(5, iV y_1)] [] [] [⟨2, [1], k_slices_Min_int_int hr0⟩] ?_
 refine awp_seq fun K8 hK8 => ?_
 refine rg [] [(31, bV (decide (a1_4 ≤ y_1)))] ?_
 refine awp_if h ?_ ?_ <;> intro hc h
 ·refine rm [3, 5, 31] [] [(5, .box [iV a1_4, nV, bV false])] [] ?_
  refine nc 5 1 (.trips []) ?_
  exact fr [0, 1, 2, 6]
 refine sk hK8 ?_
 replace ⟨y_2, hr0, h⟩ := bd h
 refine rc [3, 5, 31] [] [(5, .box [iV y_1, .sl 6, bV false])] [oT y_2] [⟨5, [0, 1, 2], k_impl_vertexTurn_sendTo a1_0 a1_1 a1_2 a1_3 a1_4 a1_5 a1_2 y_1 (h := hr0)⟩] ?_
 exact fr [0, 1, 2, 6]
theorem k_impl_MostFrequent {a0 r} (h : impl_MostFrequent a0 = some r) : KA Tryz.prog 165 [.sl 0] [rI a0] (iV r) [rI a0] := by
 unfold impl_MostFrequent at h
 refine FnA.ofA 49 [0] [.tmp 2] Tryz.func165 en165 ?_
 refine rg [] [] ?_
 refine rm [] [(3, .sl 1)] [] [.mi []] ?_
 refine awp_seq fun K14 hK14 => ?_
 refine rg [] [(12, .sl 0), (13, iV (a0.length : Int)), (14, iV 0)] ?_
 refine awp_block ?_
 refine lp h (fun (t14, t3s) => [(0, .sl 0), (3, .sl 1), (12, .sl 0), (13, iV (a0.length : Int)), (14, iV t14)]) (fun (t14, t3s) => [rI a0, .mi t3s]) (fun _ => Exit.exit 0) (fun t3s_1 => [(0, .sl 0), (3, .sl 1)]) (fun t3s_1 => [rI a0, .mi t3s_1]) ?_ ?_
 ·rintro ⟨t14, t3s⟩ r h
  unfold impl_MostFrequent_b0 at h
  try dsimp only
  refine rg [] [(15, bV (decide (t14 < (a0.length : Int))))] ?_
  refine awp_seq fun K24 hK24 => ?_
  refine awp_if h ?_ ?_ <;> intro hc h
  ·refine sk hK24 ?_
   refine awp_seq fun K26 hK26 => ?_
   refine awp_block ?_
   replace ⟨p, h⟩ := k1 h
   refine rg [15] [(5, iV (a0.getD t14.toNat 0))] ?_
   replace ⟨p, h⟩ := k1 h
   refine em [5] [] [(1, .mi (setI t3s (a0.getD t14.toNat 0) ((getI t3s (a0.getD t14.toNat 0)) + 1)))] [] ?_
   refine hK26 _ _ ?_
   replace ⟨p, h⟩ := k1 h
   refine eg [14] [(14, iV (t14 + 1))] ?_
   exact ln
  exact lo
 rintro t3s_1 h
 try dsimp only
 refine hK14 _ _ ?_
 refine rg [] [(6, iV 0), (7, iV 0)] ?_
 refine awp_seq fun K44 hK44 => ?_
 refine rg [0] [(23, .sl 0), (24, iV (a0.length : Int)), (25, iV 0)] ?_
 refine awp_block ?_
 refine lp h (fun (t6, t7, t25) => [(3, .sl 1), (6, iV t6), (7, iV t7), (23, .sl 0), (24, iV (a0.length : Int)), (25, iV t25)]) (fun (t6, t7, t25) => [rI a0, .mi t3s_1]) (fun _ => Exit.exit 2) (fun t6_1 => [(6, iV t6_1)]) (fun t6_1 => [rI a0]) ?_ ?_
 ·rintro ⟨t6, t7, t25⟩ r h
  unfold impl_MostFrequent_b1 at h
  try dsimp only
  refine rg [] [(26, bV (decide (t25 < (a0.length : Int))))] ?_
  refine awp_seq fun K56 hK56 => ?_
  refine awp_if h ?_ ?_ <;> intro hc h
  ·refine sk hK56 ?_
   refine awp_join h (fun (t6_2, t7_1) => [(3, .sl 1), (6, iV t6_2), (7, iV t7_1), (23, .sl 0), (24, iV (a0.length : Int)), (25, iV t25)]) (fun (t6_2, t7_1) => [rI a0, .mi t3s_1]) ?_ ?_
   ·intro k h
    refine awp_block ?_
    replace ⟨p, h⟩ := k1 h
    refine rg [26] [(9, iV (a0.getD t25.toNat 0))] ?_
    refine rg [] [(10, iV (getI t3s_1 (a0.getD t25.toNat 0)))] ?_
    refine rg [] [(44, bV ((decide (t7 < (getI t3s_1 (a0.getD t25.toNat 0)))) || (((getI t3s_1 (a0.getD t25.toNat 0)) == t7) && (decide ((a0.getD t25.toNat 0) < t6)))))] ?_
    refine awp_if h ?_ ?_ <;> intro hc h
    ·refine eg [6, 7, 9, 10, 44] [(6, iV (a0.getD t25.toNat 0)), (7, iV (getI t3s_1 (a0.getD t25.toNat 0)))] ?_
     exact jo
    refine awp_skip ?_
    exact jo
   rintro ⟨t6_2, t7_1⟩ h
   try dsimp only
   replace ⟨p, h⟩ := k1 h
   refine eg [25] [(25, iV (t25 + 1))] ?_
   exact ln
  exact los [0]
 rintro t6_1 h
 try dsimp only
 refine hK44 _ _ ?_
 refine rg [6] [(2, iV t6_1)] ?_
 exact fr [0]
theorem k_impl_vertexTurn_forRounds [T0] (a0_0 : Int) (a0_1 : List (Int × Int × Int)) (a0_2 : Int) (a0_3 : Int) (a0_4 : Int) (a0_5 : List Int) (a1 : Int) (a2 : Int) {r : Int × (List (Int × Int × Int)) × Bool} (h : impl_vertexTurn_forRounds a0_0 a0_1 a0_2 a0_3 a0_4 a0_5 a1 a2 = some r) :
 FnA Tryz.prog 153 [.agg [iV a0_0, .sl 0, .v (.int .u32 a0_2), iV a0_3, iV a0_4, .sl 1], iV a1, iV a2] [rT a0_1, rI a0_5, .glob 0 (.ints .u8 tab0)] [] (fun x H => x = .agg [iV r.1, .sl 3, bV r.2.2] ∧ H = [rT a0_1, rI a0_5, .glob 0 (.ints .u8 tab0), oT r.2.1]) := by
 unfold impl_vertexTurn_forRounds at h
 refine FnA.ofA 20 [0, 1, 2] [.cell 6 68] Tryz.func153 en153 ?_
 refine rm [0] [(3, .pp 3 0), (6, .pp 4 0)] [] [.box [iV a0_0, .sl 0, .v (.int .u32 a0_2), iV a0_3, iV a0_4, .sl 1], .box [iV 0, nV, bV false]] ?_
 refine fz 3 ?_
 refine awp_seq fun K2 hK2 => ?_
 refine rg [2] [(10, bV (decide (a2 ≤ a0_3)))] ?_
 refine awp_if h ?_ ?_ <;> intro hc h
 ·refine rm [1, 3, 10] [] [(4, .box [iV a1, nV, bV false])] [] ?_
  refine nc 4 1 (.trips []) ?_
  exact fr [0, 1, 2, 5]
 refine sk hK2 ?_
 replace ⟨y, hr0, h⟩ := bd h
 refine rc [1, 3, 10] [] [(4, .box [iV a1, .sl 5, bV true])] [oT y] [⟨5, [0, 1, 2], k_impl_vertexTurn_sendTo a0_0 a0_1 a0_2 a0_3 a0_4 a0_5 a0_2 a1 (h := hr0)⟩] ?_
 exact fr [0, 1, 2, 5]
theorem k_impl_labelsProgram_act [T0] (a0_0 : Int) (a1_0 : Int) (a1_1 : List (Int × Int × Int)) (a1_2 : Int) (a1_3 : Int) (a1_4 : Int) (a1_5 : List Int) {r : Int × (List (Int × Int × Int)) × Bool} (h : impl_labelsProgram_act a0_0 a1_0 a1_1 a1_2 a1_3 a1_4 a1_5 = some r) :
 FnA Tryz.prog 164 [.agg [iV a0_0], .agg [iV a1_0, .sl 0, .v (.int .u32 a1_2), iV a1_3, iV a1_4, .sl 1]] [rT a1_1, rI a1_5, .glob 0 (.ints .u8 tab0)] [] (fun x H => x = .agg [iV r.1, .sl 3, bV r.2.2] ∧ H = [rT a1_1, rI a1_5, .glob 0 (.ints .u8 tab0), oT r.2.1]) := by
 unfold impl_labelsProgram_act at h
 refine FnA.ofA 25 [0, 1, 2] [.cell 4 68] Tryz.func164 en164 ?_
 refine rm [0, 1] [(2, .pp 3 0), (3, .pp 4 0), (4, .pp 5 0)] [] [.box [iV a0_0], .box [iV a1_0, .sl 0, .v (.int .u32 a1_2), iV a1_3, iV a1_4, .sl 1], .box [iV 0, nV, bV false]] ?_
 refine fz 2 ?_
 refine fz 3 ?_
 refine rg [] [(5, iV a1_4)] ?_
 refine awp_join h (fun t5 => [(2, .pp 3 0), (3, .pp 4 0), (4, .pp 5 0), (5, iV t5)]) (fun t5 => [rT a1_1, rI a1_5, .glob 0 (.ints .u8 tab0), .rbox [iV a0_0], .rbox [iV a1_0, .sl 0, .v (.int .u32 a1_2), iV a1_3, iV a1_4, .sl 1], .box [iV 0, nV, bV false]]) ?_ ?_
 ·intro k h
  refine rg [] [(10, bV (a1_3 == 0))] ?_
  refine awp_if h ?_ ?_ <;> intro hc h
  ·refine eg [5, 10] [(5, iV a1_0)] ?_
   exact jo
  refine rg [10] [(16, bV (decide (0 < (a1_5.length : Int))))] ?_
  refine awp_if h ?_ ?_ <;> intro hc h
  ·replace ⟨y, hr0, h⟩ := bd h
   refine ec [5, 16] [(5, iV y)] [] [] [⟨2, [1], k_impl_MostFrequent hr0⟩] ?_
   exact jo
  refine awp_skip ?_
  exact jo
 rintro t5 h
 try dsimp only
 replace ⟨y_1, y_2, y_3, hr0, h⟩ := bd3 h
 refine rc [2, 3, 5] [] [(5, .box [iV y_1, .sl 6, bV y_3])] [oT y_2] [⟨4, [0, 1, 2], k_impl_vertexTurn_forRounds a1_0 a1_1 a1_2 a1_3 a1_4 a1_5 t5 a0_0 (h := hr0)⟩] ?_
 exact fr [0, 1, 2, 6]
theorem k_impl_vertexMask_above {a0 a1 r} (h : impl_vertexMask_above a0 a1 = some r) : KA Tryz.prog 167 [.v (.int .u32 a0), iV a1] [] (.v (.int .u32 r)) [] := by
 unfold impl_vertexMask_above at h
 refine FnA.ofA 13 [] [.tmp 4] Tryz.func167 en167 ?_
 refine rg [] [] ?_
 replace ⟨y, hr0, h⟩ := bd h
 replace ⟨y_1, hr1, h⟩ := bd h
 refine rc [0, 1] [(4, .v (.int .u32 (bitsV .andNot .u32 a0 (bitsV .or .u32 y (IntKind.u32.wrap (y_1 - 1))))))] [] [] [⟨2, [], k_impl_maskOf hr0⟩, ⟨1, [], k_impl_maskOf hr1⟩] ?_
 exact fr []
theorem k_impl_vertexMask_has {a0 a1 r} (h : impl_vertexMask_has a0 a1 = some r) : KA Tryz.prog 168 [.v (.int .u32 a0), iV a1] [] (bV r) [] := by
 unfold impl_vertexMask_has at h
 refine FnA.ofA 10 [] [.tmp 4] Tryz.func168 en168 ?_
 refine rg [] [] ?_
 replace ⟨y, hr0, h⟩ := bd h
 refine rc [0, 1] [(4, bV ((bitsV .and .u32 a0 y) != 0))] [] [] [⟨2, [], k_impl_maskOf hr0⟩] ?_
 exact fr []
theorem k_impl_trianglesProgram_act [T0] (a1_0 : Int) (a1_1 : List (Int × Int × Int)) (a1_2 : Int) (a1_3 : Int) (a1_4 : Int) (a1_5 : List Int) {r : Int × (List (Int × Int × Int)) × Bool} (h : impl_trianglesProgram_act a1_0 a1_1 a1_2 a1_3 a1_4 a1_5 = some r) :
 FnA Tryz.prog 166 [.agg [], .agg [iV a1_0, .sl 0, .v (.int .u32 a1_2), iV a1_3, iV a1_4, .sl 1]] [rT a1_1, rI a1_5, .glob 0 (.ints .u8 tab0)] [] (fun x H => x = .agg [iV r.1, .sl 3, bV r.2.2] ∧ H = [rT a1_1, rI a1_5, .glob 0 (.ints .u8 tab0), oT r.2.1]) := by
 unfold impl_trianglesProgram_act at h
 refine FnA.ofA 69 [0, 1, 2] [.cell 4 68] Tryz.func166 en166 ?_
 refine rm [0, 1] [(3, .pp 4 0), (4, .pp 5 0)] [] [.box [], .box [iV a1_0, .sl 0, .v (.int .u32 a1_2), iV a1_3, iV a1_4, .sl 1], .box [iV 0, nV, bV false]] ?_
 refine fz 3 ?_
 replace ⟨y, hr0, h⟩ := bd h
 refine rc [] [(5, .v (.int .u32 y))] [] [] [⟨4, [], k_impl_vertexMask_above hr0⟩] ?_
 refine rm [] [(6, .pp 6 0)] [] [.box [iV 0, nV, bV false]] ?_
 refine awp_join h (fun (t6_0, t6_1s) => [(4, .pp 3 0), (6, .pp 4 0)]) (fun (t6_0, t6_1s) => [rT a1_1, rI a1_5, .glob 0 (.ints .u8 tab0), .box [iV 0, nV, bV false], .box [iV t6_0, .sl 5, bV false], oT t6_1s]) ?_ ?_
 ·intro k h
  refine rg [] [(17, iV a1_3)] ?_
  refine awp_block ?_
  refine rg [] [(42, bV (a1_3 == 0))] ?_
  refine awp_if h ?_ ?_ <;> intro hc h
  ·replace ⟨y_1, hr0, h⟩ := bd h
   refine ec [3, 5, 17, 42] [] [(6, .box [iV 0, .sl 7, bV false])] [oT y_1] [⟨4, [0, 1, 2], k_impl_vertexTurn_sendTo a1_0 a1_1 a1_2 a1_3 a1_4 a1_5 y a1_0 (h := hr0)⟩] ?_
   exact jos [0, 1, 2, 5, 6, 7]
  refine rg [17, 42] [(50, bV (a1_3 == 1))] ?_
  refine awp_if h ?_ ?_ <;> intro hc h
  ·refine rg [50] [(53, .sl 1), (54, iV (a1_5.length : Int)), (55, iV 0)] ?_
   refine awp_block ?_
   refine lp h (fun (t55, t6_1s_1) => [(3, .pp 3 0), (4, .pp 4 0), (5, .v (.int .u32 y)), (6, .pp 5 0), (53, .sl 1), (54, iV (a1_5.length : Int)), (55, iV t55)]) (fun (t55, t6_1s_1) => [rT a1_1, rI a1_5, .glob 0 (.ints .u8 tab0), .rbox [iV a1_0, .sl 0, .v (.int .u32 a1_2), iV a1_3, iV a1_4, .sl 1], .box [iV 0, nV, bV false], .box [iV 0, .sl 6, bV false], oT t6_1s_1]) (fun _ => Exit.exit 3) (fun t6_1s_2 => [(4, .pp 3 0), (6, .pp 4 0)]) (fun t6_1s_2 => [rT a1_1, rI a1_5, .glob 0 (.ints .u8 tab0), .box [iV 0, nV, bV false], .box [iV 0, .sl 5, bV false], oT t6_1s_2]) ?_ ?_ (h0 := by refine Red.trans (Red.nilCell (o := 6) (i := 1) (.trips []) rfl rfl rfl) ?_; exact Red.selA [0, 1, 2, 4, 5, 6, 7] Red.auto)
   ·rintro ⟨t55, t6_1s_1⟩ r h
    unfold impl_trianglesProgram_act_b0 at h
    try dsimp only
    refine rg [] [(56, bV (decide (t55 < (a1_5.length : Int))))] ?_
    refine awp_seq fun K51 hK51 => ?_
    refine awp_if h ?_ ?_ <;> intro hc h
    ·refine sk hK51 ?_
     refine awp_seq fun K53 hK53 => ?_
     refine awp_block ?_
     replace ⟨p, h⟩ := k1 h
     refine rg [56] [(8, iV (a1_5.getD t55.toNat 0))] ?_
     replace ⟨y_2, hr0, h⟩ := bd h
     replace ⟨p, h⟩ := k1 h
     have c0 := cm [0, 1, 2] (k_impl_vertexTurn_sendTo a1_0 a1_1 a1_2 a1_3 a1_4 a1_5 y (a1_5.getD t55.toNat 0) (h := hr0))
     refine pe [0, 1, 2, 3, 4, 5] (.free 0 (.free 3 (.free 4 (.free 2 (.two 1 5 (.one 5 (.one 6 (.one 7 (.one 8 .fin)))) (.one 1 (.one 6 (.one 7 (.one 8 .fin))))))))) [8] [] [(6, oT (t6_1s_1 ++ y_2))] [oT y_2] ?_
     refine hK53 _ _ ?_
     replace ⟨p, h⟩ := k1 h
     refine eg [55] [(55, iV (t55 + 1))] ?_
     exact lns [0, 1, 2, 3, 4, 5, 6]
    exact los [0, 1, 2, 4, 5, 6]
   rintro t6_1s_2 h
   try dsimp only
   exact jo
  refine rg [5, 50] [(19, .sl 1), (20, iV (a1_5.length : Int)), (21, iV 0)] ?_
  refine awp_block ?_
  refine lp h (fun (t21, t6_0_1) => [(3, .pp 3 0), (4, .pp 4 0), (6, .pp 5 0), (19, .sl 1), (20, iV (a1_5.length : Int)), (21, iV t21)]) (fun (t21, t6_0_1) => [rT a1_1, rI a1_5, .glob 0 (.ints .u8 tab0), .rbox [iV a1_0, .sl 0, .v (.int .u32 a1_2), iV a1_3, iV a1_4, .sl 1], .box [iV 0, nV, bV false], .box [iV t6_0_1, nV, bV false]]) (fun _ => Exit.exit 1) (fun t6_0_2 => [(4, .pp 3 0), (6, .pp 4 0)]) (fun t6_0_2 => [rT a1_1, rI a1_5, .glob 0 (.ints .u8 tab0), .box [iV 0, nV, bV false], .box [iV t6_0_2, nV, bV false]]) ?_ ?_ (h0 := Red.selA [0, 1, 2, 4, 5, 6] Red.auto)
  ·rintro ⟨t21, t6_0_1⟩ r h
   unfold impl_trianglesProgram_act_b1 at h
   try dsimp only
   refine rg [] [(22, bV (decide (t21 < (a1_5.length : Int))))] ?_
   refine awp_seq fun K66 hK66 => ?_
   refine awp_if h ?_ ?_ <;> intro hc h
   ·refine sk hK66 ?_
    refine awp_join h (fun t6_0_3 => [(3, .pp 3 0), (4, .pp 4 0), (6, .pp 5 0), (19, .sl 1), (20, iV (a1_5.length : Int)), (21, iV t21)]) (fun t6_0_3 => [rT a1_1, rI a1_5, .glob 0 (.ints .u8 tab0), .rbox [iV a1_0, .sl 0, .v (.int .u32 a1_2), iV a1_3, iV a1_4, .sl 1], .box [iV 0, nV, bV false], .box [iV t6_0_3, nV, bV false]]) ?_ ?_
    ·intro k_1 h
     refine awp_block ?_
     replace ⟨p, h⟩ := k1 h
     refine rg [22] [(10, iV (a1_5.getD t21.toNat 0))] ?_
     replace ⟨y_3, hr0, h⟩ := bd h
     refine awp_t [10] [(36, bV (((decide (0 ≤ (a1_5.getD t21.toNat 0))) && (decide ((a1_5.getD t21.toNat 0) < 16))) && y_3))] [] [] ?_ ?_
     ·intro K hK
      refine awp_regionA ?_
      refine wc 6 [(3, .pp 3 0), (4, .pp 4 0), (6, .pp 5 0), (10, iV (a1_5.getD t21.toNat 0)), (19, .sl 1), (20, iV (a1_5.length : Int)), (21, iV t21), (30, bV ((decide (0 ≤ (a1_5.getD t21.toNat 0))) && (decide ((a1_5.getD t21.toNat 0) < 16))))] [rT a1_1, rI a1_5, .glob 0 (.ints .u8 tab0), .rbox [iV a1_0, .sl 0, .v (.int .u32 a1_2), iV a1_3, iV a1_4, .sl 1], .box [iV 0, nV, bV false], .box [iV t6_0_1, nV, bV false]] ?_
      have c0 := cm [] (fun g0 => k_impl_vertexMask_has (bite_t hr0 g0))
      exact vs
     refine awp_if h ?_ ?_ <;> intro hc h
     ·replace ⟨p, h⟩ := k1 h
      refine em [36] [] [(5, .box [iV (t6_0_1 + 1), nV, bV false])] [] ?_
      exact jo
     refine awp_skip ?_
     exact jo
    rintro t6_0_3 h
    try dsimp only
    replace ⟨p, h⟩ := k1 h
    refine eg [21] [(21, iV (t21 + 1))] ?_
    exact ln
   exact los [0, 1, 2, 4, 5]
  rintro t6_0_2 h
  try dsimp only
  refine nm ?_
  refine ⟨_, h, ?_⟩
  refine Red.trans (Red.nilCell (o := 4) (i := 1) (.trips []) rfl rfl rfl) ?_
  exact Red.auto
 rintro ⟨t6_0, t6_1s⟩ h
 try dsimp only
 refine rm [6] [] [(3, .box [iV t6_0, .sl 5, bV false])] [] ?_
 exact fr [0, 1, 2, 5]
theorem k_math_bits_OnesCount32 {a0 r} (h : math_bits_OnesCount32 a0 = some r) : KA Tryz.prog 172 [.v (.int .u32 a0)] [] (iV r) [] := by
 unfold math_bits_OnesCount32 at h
 refine FnA.ofA 21 [] [.tmp 2] Tryz.func172 en172 ?_
 simp only [pop8_fold]
 refine rg [] [] ?_
 replace ⟨p, h⟩ := k5 h
 refine qg [0] [(2, iV (IntKind.u8.wrap ((IntKind.u8.wrap ((IntKind.u8.wrap (((Lib.pop8tab.data.toList.getD ((a0.fdiv 16777216).toNat) 0).toNat : Int) + ((Lib.pop8tab.data.toList.getD ((bitsV .and .u32 (a0.fdiv 65536) 255).toNat) 0).toNat : Int))) + ((Lib.pop8tab.data.toList.getD ((bitsV .and .u32 (a0.fdiv 256) 255).toNat) 0).toNat : Int))) + ((Lib.pop8tab.data.toList.getD ((bitsV .and .u32 a0 255).toNat) 0).toNat : Int))))] ?_
 exact fr []
theorem k_impl_vertexMask_size {a0 r} (h : impl_vertexMask_size a0 = some r) : KA Tryz.prog 170 [.v (.int .u32 a0)] [] (iV r) [] := by
 unfold impl_vertexMask_size at h
 refine FnA.ofA 5 [] [.tmp 2] Tryz.func170 en170 ?_
 refine rg [] [] ?_
 replace ⟨y, hr0, h⟩ := bd h
 refine rc [0] [(2, iV y)] [] [] [⟨1, [], k_math_bits_OnesCount32 hr0⟩] ?_
 exact fr []
theorem k_slices_Values_int_int_1 {υ : Type} (Φ : υ → ExtP) (l : Nat) (a1_0 : List Int) (yld : Int → υ → Option (Bool × υ)) (u : υ) (hY : ∀ (x : Int) (u : υ) (b : Bool) (u' : υ), yld x u = some (b, u') → RoundA Tryz.prog l (Φ u) [iV x] [] (fun b2 Φ2 => b2 = b ∧ Φ2 = Φ u')) {r : υ} (h : slices_Values_int_int_1 a1_0 yld u = some r) :
 FnA Tryz.prog 176 [.v (yv l), .pp 1 0] [.ext (Φ u), .rbox [.sl 2], rI a1_0] [] (fun x H => x = .tup [] ∧ H = [.ext (Φ r), .rbox [.sl 2], rI a1_0]) := by
 unfold slices_Values_int_int_1 at h
 refine FnA.ofA 16 [0, 1, 2] [] Tryz.func176 en176 ?_
 refine rg [1] [(5, .sl 2), (6, iV (a1_0.length : Int)), (7, iV 0)] ?_
 refine awp_block ?_
 refine lp2 h (fun (t7, p0s) => [(0, .v (yv l)), (5, .sl 2), (6, iV (a1_0.length : Int)), (7, iV t7)]) (fun (t7, p0s) => [.ext (Φ p0s), .rbox [.sl 2], rI a1_0]) (fun _ => Exit.exit 0) (fun p0s_1 => []) (fun p0s_1 => [.ext (Φ p0s_1), .rbox [.sl 2], rI a1_0]) (fun _ => Exit.ret) (fun p0s_2 => []) (fun p0s_2 => [.ext (Φ p0s_2), .rbox [.sl 2], rI a1_0]) ?_ ?_ ?_
 ·rintro ⟨t7, p0s⟩ r h
  unfold slices_Values_int_int_1_b0 at h
  try dsimp only
  refine rg [] [(8, bV (decide (t7 < (a1_0.length : Int))))] ?_
  refine awp_seq fun K14 hK14 => ?_
  refine awp_if h ?_ ?_ <;> intro hc h
  ·refine sk hK14 ?_
   refine awp_seq fun K17 hK17 => ?_
   refine awp_block ?_
   replace ⟨p, h⟩ := k1 h
   refine rg [8] [(4, iV (a1_0.getD t7.toNat 0))] ?_
   replace ⟨y, u_1, hr0, h⟩ := bd2 h
   refine awp_t [4] [(14, bV (!y))] [(0, .ext (Φ u_1))] [] ?_ ?_
   ·intro K hK
    refine awp_regionYi 2 ?_
    refine vcOps_sound ftCOk ?_
    simp (maxSteps := 4000000) only [go_sem, Nat.reduceBEq, Nat.reduceLT, Nat.reduceAdd, Nat.reduceLeDiff, Nat.reduceSub, Nat.reduceEqDiff, Int.reduceToNat, reduceCtorEq, ↓reduceIte]
    repeat' (first | refine And.intro ?_ ?_ | intro hg)
    all_goals (try simp (disch := omega) only [wrap_fits])
    all_goals first
     | exact al0
     | (refine OpYA (hY _ _ _ _ hr0) 0 [] [] ?_
        rintro b Φ' ⟨rfl, rfl⟩
        refine vcOps_sound ftCOk ?_
        exact auV)
     | exact al1
   refine awp_if h ?_ ?_ <;> intro hc h
   ·exact lor
   refine sk hK17 ?_
   replace ⟨p, h⟩ := k1 h
   refine eg [7, 14] [(7, iV (t7 + 1))] ?_
   exact ln
  exact lo
 ·rintro p0s_1 h
  try dsimp only
  exact fr [0, 1, 2]
 rintro p0s_2 h
 try dsimp only
 exact fr [0, 1, 2]
theorem k_slices_Values_int_int_v2 {a0 r} (h : slices_Values_int_int_v2 a0 = some r) : KA Tryz.prog 174 [.sl 0] [rI a0] (.ip 1 (.clo 176)) [rI a0, .rbox [.sl 0]] := by
 unfold slices_Values_int_int_v2 at h
 refine FnA.ofA 4 [0] [.tmp 2] Tryz.func174 en174 ?_
 refine rm [0] [(1, .pp 1 0)] [] [.box [.sl 0]] ?_
 refine fz 1 ?_
 refine rg [1] [(2, .ip 1 (.clo 176))] ?_
 exact fr [0, 1]
theorem k_slices_AppendSeq_int_int_v3 {a0 r} (h : slices_AppendSeq_int_int_v3 a0 = some r) : KA Tryz.prog 177 [nV, .ip 1 (.clo 176)] [rI a0, .rbox [.sl 0]] (.sl 2) [rI a0, .rbox [.sl 0], oI r] := by
 unfold slices_AppendSeq_int_int_v3 at h
 refine FnA.ofA 13 [0, 1] [.tmp 4] Tryz.func177 en177 ?_
 refine rm [0] [(2, .pp 2 0)] [] [.box [nV]] ?_
 refine awp_seq fun K2 hK2 => ?_
 refine rg [1] [(6, .ip 1 (.clo 176))] ?_
 refine awp_block ?_
 replace h := bind_some h
 obtain ⟨u3, hx, h⟩ := h
 refine awp_rangeL (f := slices_AppendSeq_int_int_v3_r0) (s0 := []) (u' := u3) [0, 1, 2] [(2, .pp 2 0), (6, .ip 1 (.clo 176))] (fun (t2_0s : List Int) => [rI a0, .rbox [.sl 0], .box [.sl 3], oI t2_0s]) (fun x => x.elim) (fun x => x.elim) (fun x => [(2, .pp 2 0), (5, iV x), (6, .ip 1 (.clo 176))]) [1, 0] [.rbox [.sl 2], rI a0] (fun x => [iV x]) (fun x => []) 4 (fun l Φ hY => k_slices_Values_int_int_1 (Φ := Φ) (l := l) a0 _ _ (hY := hY) (h := hx)) ?_ ?_ ?_ ?_ ?_ (hnf := by rintro t2_0s; rfl) (hlx := fun x => x.elim) (hnx := fun x => x.elim) (hJ := fun x => x.elim)
 ·refine Red.trans (Red.nilCell (o := 2) (i := 0) (.ints .i64 []) rfl rfl rfl) ?_
  exact Red.auto
 ·rintro l x t2_0s Ψ
  have h := trivial
  refine awp_at [(7, iV x), (2, .pp 2 0), (6, .ip 1 (.clo 176))] [rI a0, .rbox [.sl 0], .box [.sl 3], oI t2_0s, .ext Ψ] ?_
  refine eg [7] [(5, iV x)] ?_
  exact RQ.asg [(2, .pp 2 0), (5, iV x), (6, .ip 1 (.clo 176))] [rI a0, .rbox [.sl 0], .box [.sl 3], oI t2_0s, .ext Ψ] Red.auto
 ·rintro l x t2_0s u' Ψ h
  unfold slices_AppendSeq_int_int_v3_r0 at h
  refine awp_at [(2, .pp 2 0), (5, iV x), (6, .ip 1 (.clo 176))] [rI a0, .rbox [.sl 0], .box [.sl 3], oI t2_0s, .ext Ψ] ?_
  refine awp_block ?_
  replace ⟨p, h⟩ := k1 h
  refine em [5] [] [(3, oI (t2_0s ++ [x]))] [oI [x]] ?_
  refine nm ?_
  obtain rfl := Option.some.inj h
  refine RQ.next [rI a0, .rbox [.sl 0], .box [.sl 3], oI (t2_0s ++ [x]), .ext Ψ] ?_
  exact Red.selA [0, 1, 2, 3, 4] Red.auto
 ·rintro t2_0s rfl
  try dsimp only [Sum.elim_inl, Sum.elim_inr] at h
  try simp only [Thn, InBlk, exitOf, ↓reduceIte, Nat.reduceEqDiff, Sum.elim_inl, Sum.elim_inr, List.cons_append, List.nil_append]
  refine hK2 _ _ ?_
  refine rg [2, 6] [(4, .sl 3)] ?_
  exact fr [0, 1, 3]
 exact fun x => x.elim
theorem k_slices_Collect_int_v3 {a0 r} (h : slices_Collect_int_v3 a0 = some r) : KA Tryz.prog 175 [.ip 1 (.clo 176)] [rI a0, .rbox [.sl 0]] (.sl 2) [rI a0, .rbox [.sl 0], oI r] := by
 unfold slices_Collect_int_v3 at h
 refine FnA.ofA 5 [0, 1] [.tmp 2] Tryz.func175 en175 ?_
 refine rg [] [] ?_
 replace ⟨y, hr0, h⟩ := bd h
 have d0 := k_slices_AppendSeq_int_int_v3 hr0
 refine rm [0] [(2, .sl 2)] [] [oI y] ?_
 exact fr [0, 1, 2]
theorem k_slices_Sorted_int_v3 {a0 r} (h : slices_Sorted_int_v3 a0 = some r) : KA Tryz.prog 173 [.ip 1 (.clo 176)] [rI a0, .rbox [.sl 0]] (.sl 2) [rI a0, .rbox [.sl 0], oI r] := by
 unfold slices_Sorted_int_v3 at h
 refine FnA.ofA 9 [0, 1] [.tmp 2] Tryz.func173 en173 ?_
 refine rg [] [] ?_
 replace ⟨y, hr0, h⟩ := bd h
 have d0 := k_slices_Collect_int_v3 hr0
 refine rm [0] [(3, .sl 2)] [] [oI y] ?_
 replace ⟨y_1, hr0, h⟩ := bd h
 refine rc [] [] [(2, oI y_1)] [] [⟨1, [2], k_slices_Sort_int_int hr0⟩] ?_
 refine rg [3] [(2, .sl 2)] ?_
 exact fr [0, 1, 2]
theorem k_impl_ManyAtLeast {a0 r} (h : impl_ManyAtLeast a0 = some r) : KA Tryz.prog 171 [.sl 0] [rI a0] (iV r) [rI a0] := by
 unfold impl_ManyAtLeast at h
 refine FnA.ofA 27 [0] [.tmp 2] Tryz.func171 en171 ?_
 refine rg [] [] ?_
 replace ⟨⟨⟩, hr0, h⟩ := bd h
 replace ⟨y, hr1, h⟩ := bd h
 refine awp_t [0] [(3, .sl 2)] [] [.rbox [.sl 0], oI y] ?_ ?_
 ·intro K hK
  refine awp_region ftCOk ?_
  simp (maxSteps := 4000000) only [go_sem, Nat.reduceBEq, Nat.reduceLT, Nat.reduceAdd, Nat.reduceLeDiff, Nat.reduceSub, Nat.reduceEqDiff, Int.reduceToNat, reduceCtorEq, ↓reduceIte]
  repeat' (first | refine And.intro ?_ ?_ | intro hg)
  all_goals (try simp (disch := omega) only [wrap_fits])
  all_goals first
   | exact al0
   | (refine wpA_here (k_slices_Values_int_int_v2 hr0) ?_
      rintro x Hc' ⟨rfl, rfl⟩ hlen
      refine vcOps_sound ftCOk ?_
      simp (maxSteps := 4000000) only [go_sem, Nat.reduceBEq, Nat.reduceLT, Nat.reduceAdd, Nat.reduceLeDiff, Nat.reduceSub, Nat.reduceEqDiff, Int.reduceToNat, reduceCtorEq, ↓reduceIte]
      repeat' (first | refine And.intro ?_ ?_ | intro hg)
      all_goals (try simp (disch := omega) only [wrap_fits])
      all_goals first
       | exact al0
       | (refine wpA_here (k_slices_Sorted_int_v3 hr1) ?_
          rintro x Hc' ⟨rfl, rfl⟩ hlen
          refine vcOps_sound ftCOk ?_
          exact auV)
       | exact al1)
   | exact al1
 refine rg [] [(4, iV 0)] ?_
 refine awp_seq fun K11 hK11 => ?_
 refine awp_block ?_
 refine lp h (fun t4 => [(3, .sl 1), (4, iV t4)]) (fun t4 => [rI a0, oI y]) (fun _ => Exit.exit 0) (fun t4_1 => [(4, iV t4_1)]) (fun t4_1 => [rI a0]) ?_ ?_ (h0 := Red.selA [0, 2] Red.auto)
 ·rintro t4 r h
  unfold impl_ManyAtLeast_b0 at h
  try dsimp only
  refine awp_seq fun K19 hK19 => ?_
  replace ⟨⟨_, _, hp2⟩, h⟩ := k3 h
  refine rm [] [(23, bV ((decide (t4 < (y.length : Int))) && (decide (t4 < (y.getD ((((y.length : Int) - 1) - t4).toNat) 0)))))] [] [] ?_
  refine awp_if h ?_ ?_ <;> intro hc h
  ·refine sk hK19 ?_
   refine awp_block ?_
   replace ⟨p, h⟩ := k1 h
   refine eg [4, 23] [(4, iV (t4 + 1))] ?_
   refine nm ?_
   exact ln
  exact los [0]
 rintro t4_1 h
 try dsimp only
 refine hK11 _ _ ?_
 refine rg [4] [(2, iV t4_1)] ?_
 exact fr [0]
theorem k_impl_coresProgram_act [T0] (a0_0 : Int) (a1_0 : Int) (a1_1 : List (Int × Int × Int)) (a1_2 : Int) (a1_3 : Int) (a1_4 : Int) (a1_5 : List Int) {r : Int × (List (Int × Int × Int)) × Bool} (h : impl_coresProgram_act a0_0 a1_0 a1_1 a1_2 a1_3 a1_4 a1_5 = some r) :
 FnA Tryz.prog 169 [.agg [iV a0_0], .agg [iV a1_0, .sl 0, .v (.int .u32 a1_2), iV a1_3, iV a1_4, .sl 1]] [rT a1_1, rI a1_5, .glob 0 (.ints .u8 tab0)] [] (fun x H => x = .agg [iV r.1, .sl 3, bV r.2.2] ∧ H = [rT a1_1, rI a1_5, .glob 0 (.ints .u8 tab0), oT r.2.1]) := by
 unfold impl_coresProgram_act at h
 refine FnA.ofA 23 [0, 1, 2] [.cell 4 68] Tryz.func169 en169 ?_
 refine rm [0, 1] [(2, .pp 3 0), (3, .pp 4 0), (4, .pp 5 0)] [] [.box [iV a0_0], .box [iV a1_0, .sl 0, .v (.int .u32 a1_2), iV a1_3, iV a1_4, .sl 1], .box [iV 0, nV, bV false]] ?_
 refine fz 2 ?_
 refine fz 3 ?_
 replace ⟨y, hr0, h⟩ := bd h
 refine rc [] [(5, iV y)] [] [] [⟨2, [], k_impl_vertexMask_size hr0⟩] ?_
 refine awp_join h (fun t5 => [(2, .pp 3 0), (3, .pp 4 0), (4, .pp 5 0), (5, iV t5)]) (fun t5 => [rT a1_1, rI a1_5, .glob 0 (.ints .u8 tab0), .rbox [iV a0_0], .rbox [iV a1_0, .sl 0, .v (.int .u32 a1_2), iV a1_3, iV a1_4, .sl 1], .box [iV 0, nV, bV false]]) ?_ ?_
 ·intro k h
  refine rg [] [(11, bV (decide (0 < a1_3)))] ?_
  refine awp_if h ?_ ?_ <;> intro hc h
  ·replace ⟨y_1, hr0, h⟩ := bd h
   have c0 := cm [1] (k_impl_ManyAtLeast hr0)
   refine de (.free 0 (.free 2 (.free 1 (.one 3 (.one 4 (.one 5 (.one 6 .fin))))))) [5, 11] [(5, iV (min a1_4 y_1))] [] [] ?_
   exact jo
  refine awp_skip ?_
  exact jo
 rintro t5 h
 try dsimp only
 replace ⟨y_2, y_3, y_4, hr0, h⟩ := bd3 h
 refine rc [2, 3, 5] [] [(5, .box [iV y_2, .sl 6, bV y_4])] [oT y_3] [⟨4, [0, 1, 2], k_impl_vertexTurn_forRounds a1_0 a1_1 a1_2 a1_3 a1_4 a1_5 t5 a0_0 (h := hr0)⟩] ?_
 exact fr [0, 1, 2, 6]
theorem k_impl_roundRules_act [T0] (a0_0k : Int) (a0_0x : Int) (a0_1 : List (List (Int × Int × Int))) (a0_2 : List Int) (a0_3 : Int) (a1 : Int) (a2 : Int) (a3 : Bool) (a4 : List (Int × Int × Int)) {r : Int × (List (Int × Int × Int)) × Bool × Bool} (h : impl_roundRules_act a0_0k a0_0x a0_1 a0_2 a0_3 a1 a2 a3 a4 = some r) :
 FnA Tryz.prog 33 [.agg [.v (dynV a0_0k a0_0x), .sl 0, .sl 1, iV a0_3], iV a1, iV a2, bV a3, .sl 2] [.row false (.tripss a0_1), .row false (.ints .u32 a0_2), rT a4, .glob 0 (.ints .u8 tab0)] [] (fun x H => x = .tup [.agg [iV r.1, .sl 4, bV r.2.2.1], bV r.2.2.2] ∧ H = [.row false (.tripss a0_1), .row false (.ints .u32 a0_2), rT a4, .glob 0 (.ints .u8 tab0), oT r.2.1]) := by
 unfold impl_roundRules_act at h
 refine FnA.ofA 46 [0, 1, 2, 3] [.cell 10 68, .tmp 11] Tryz.func33 en33 ?_
 refine rm [0] [(5, .pp 4 0), (10, .pp 5 0)] [] [.box [.v (dynV a0_0k a0_0x), .sl 0, .sl 1, iV a0_3], .box [iV 0, nV, bV false]] ?_
 refine fz 5 ?_
 replace ⟨y, hr0, h⟩ := bd h
 refine rc [4] [(12, .sl 6)] [] [oI y] [⟨2, [2], k_impl_valuesTo hr0⟩] ?_
 refine awp_seq fun K2 hK2 => ?_
 refine rg [3] [(22, bV ((!a3) && ((y.length : Int) == 0)))] ?_
 refine awp_if h ?_ ?_ <;> clear h <;> intro hc h
 ·refine rm [1, 2, 5, 12, 22] [(11, bV false)] [(5, .box [iV a2, nV, bV false])] [] ?_
  refine nc 5 1 (.trips []) ?_
  exact fr [0, 1, 2, 3, 7]
 refine sk hK2 ?_
 replace h := chk_some h
 obtain ⟨hpt4, h⟩ := h
 refine awp_take 0 a1.toNat 0 (by rfl) (by exact hpt4) (by rfl) (by exact rfl) ?_
 clear hpt4
 by_cases hd : (a0_0k == 130) = true
 ·replace h := bite_t h hd
  obtain rfl : a0_0k = 130 := by simpa using hd
  rw [dynV_130]
  replace ⟨p, h⟩ := k2 h
  replace ⟨y_1, y_2, y_3, hr2, h⟩ := bd3 h
  refine awp_t [1, 2, 5, 12, 22] [(11, bV true)] [(5, .box [iV y_1, .sl 8, bV y_3])] [oT y_2] ?_ ?_
  ·clear h
   intro K hK
   refine awp_drawT mixed ftCOk (.free 0 (.free 2 (.free 3 (.free 5 (.free 8 (.free 10 (.free 13 (.free 15 (.free 16 (.free 1 (.free 18 (.free 19 (.free 4 (.free 9 (.free 11 (.free 12 (.free 14 (.one 6 (.one 7 (.one 17 (.one 20 (.one 21 (.one 22 .fin))))))))))))))))))))))) (by kernel_rfl) (by simp) ?_
   simp (maxSteps := 4000000) only [go_sem, Nat.reduceBEq, Nat.reduceLT, Nat.reduceAdd, Nat.reduceLeDiff, Nat.reduceSub, Nat.reduceEqDiff, Int.reduceToNat, reduceCtorEq, ↓reduceIte]
   repeat' (first | refine And.intro ?_ ?_ | intro hg)
   all_goals (try simp (disch := omega) only [wrap_fits])
   all_goals first
    | exact al0
    | (refine OpK_invA (recv := .tmp 44) (name := "loop.example/graphcluster/impl.act") (k_impl_hopsProgram_act hr2) [7, 6] [] (.inr ⟨130, [(.int .i64 a0_0x)], _, by rfl, mf130_loop_example_graphcluster_impl_act, Tryz.underlying130, rfl, rfl, rfl⟩) ?_
       rintro x Hc' ⟨rfl, rfl⟩ hlen
       exact auV)
    | exact al1
  refine awp_red (Red.put 0 7 (by rfl) (by rfl) (Cont.setChild_self (by rfl))) ?_
  exact fr [0, 1, 2, 3, 8]
 rw [Bool.not_eq_true] at hd
 replace h := bite_f h hd
 clear hd
 by_cases hd : (a0_0k == 131) = true
 ·replace h := bite_t h hd
  obtain rfl : a0_0k = 131 := by simpa using hd
  rw [dynV_131]
  replace ⟨p, h⟩ := k2 h
  replace ⟨y_1, y_2, y_3, hr2, h⟩ := bd3 h
  refine awp_t [1, 2, 5, 12, 22] [(11, bV true)] [(5, .box [iV y_1, .sl 8, bV y_3])] [oT y_2] ?_ ?_
  ·clear h
   intro K hK
   refine awp_drawT mixed ftCOk (.free 0 (.free 2 (.free 3 (.free 5 (.free 8 (.free 10 (.free 13 (.free 15 (.free 16 (.free 1 (.free 18 (.free 19 (.free 4 (.free 9 (.free 11 (.free 12 (.free 14 (.one 6 (.one 7 (.one 17 (.one 20 (.one 21 (.one 22 .fin))))))))))))))))))))))) (by kernel_rfl) (by simp) ?_
   simp (maxSteps := 4000000) only [go_sem, Nat.reduceBEq, Nat.reduceLT, Nat.reduceAdd, Nat.reduceLeDiff, Nat.reduceSub, Nat.reduceEqDiff, Int.reduceToNat, reduceCtorEq, ↓reduceIte]
   repeat' (first | refine And.intro ?_ ?_ | intro hg)
   all_goals (try simp (disch := omega) only [wrap_fits])
   all_goals first
    | exact al0
    | (refine OpK_invA (recv := .tmp 44) (name := "loop.example/graphcluster/impl.act") (k_impl_costsProgram_act hr2) [7, 6] [] (.inr ⟨131, [(.int .i64 a0_0x)], _, by rfl, mf131_loop_example_graphcluster_impl_act, Tryz.underlying131, rfl, rfl, rfl⟩) ?_
       rintro x Hc' ⟨rfl, rfl⟩ hlen
       exact auV)
    | exact al1
  refine awp_red (Red.put 0 7 (by rfl) (by rfl) (Cont.setChild_self (by rfl))) ?_
  exact fr [0, 1, 2, 3, 8]
 rw [Bool.not_eq_true] at hd
 replace h := bite_f h hd
 clear hd
 by_cases hd : (a0_0k == 133) = true
 ·replace h := bite_t h hd
  obtain rfl : a0_0k = 133 := by simpa using hd
  rw [dynV_133]
  replace ⟨p, h⟩ := k2 h
  replace ⟨y_1, y_2, y_3, hr2, h⟩ := bd3 h
  refine awp_t [1, 2, 5, 12, 22] [(11, bV true)] [(5, .box [iV y_1, .sl 8, bV y_3])] [oT y_2] ?_ ?_
  ·clear h
   intro K hK
   refine awp_drawT mixed ftCOk (.free 0 (.free 2 (.free 3 (.free 5 (.free 8 (.free 10 (.free 13 (.free 15 (.free 16 (.free 1 (.free 18 (.free 19 (.free 4 (.free 9 (.free 11 (.free 12 (.free 14 (.one 6 (.one 7 (.one 17 (.one 20 (.one 21 (.one 22 .fin))))))))))))))))))))))) (by kernel_rfl) (by simp) ?_
   simp (maxSteps := 4000000) only [go_sem, Nat.reduceBEq, Nat.reduceLT, Nat.reduceAdd, Nat.reduceLeDiff, Nat.reduceSub, Nat.reduceEqDiff, Int.reduceToNat, reduceCtorEq, ↓reduceIte]
   repeat' (first | refine And.intro ?_ ?_ | intro hg)
   all_goals (try simp (disch := omega) only [wrap_fits])
   all_goals first
    | exact al0
    | (refine OpK_invA (recv := .tmp 44) (name := "loop.example/graphcluster/impl.act") (k_impl_partsProgram_act a1 (a0_1.getD a1.toNat []) (a0_2.getD a1.toNat 0) a0_3 a2 y (h := hr2)) [7, 6, 3] [] (.inr ⟨133, [], _, by rfl, mf133_loop_example_graphcluster_impl_act, Tryz.underlying133, rfl, rfl, rfl⟩) ?_
       rintro x Hc' ⟨rfl, rfl⟩ hlen
       exact auV)
    | exact al1
  refine awp_red (Red.put 0 7 (by rfl) (by rfl) (Cont.setChild_self (by rfl))) ?_
  exact fr [0, 1, 2, 3, 8]
 rw [Bool.not_eq_true] at hd
 replace h := bite_f h hd
 clear hd
 by_cases hd : (a0_0k == 135) = true
 ·replace h := bite_t h hd
  obtain rfl : a0_0k = 135 := by simpa using hd
  rw [dynV_135]
  replace ⟨p, h⟩ := k2 h
  replace ⟨y_1, y_2, y_3, hr2, h⟩ := bd3 h
  refine awp_t [1, 2, 5, 12, 22] [(11, bV true)] [(5, .box [iV y_1, .sl 8, bV y_3])] [oT y_2] ?_ ?_
  ·clear h
   intro K hK
   refine awp_drawT mixed ftCOk (.free 0 (.free 2 (.free 3 (.free 5 (.free 8 (.free 10 (.free 13 (.free 15 (.free 16 (.free 1 (.free 18 (.free 19 (.free 4 (.free 9 (.free 11 (.free 12 (.free 14 (.one 6 (.one 7 (.one 17 (.one 20 (.one 21 (.one 22 .fin))))))))))))))))))))))) (by kernel_rfl) (by simp) ?_
   simp (maxSteps := 4000000) only [go_sem, Nat.reduceBEq, Nat.reduceLT, Nat.reduceAdd, Nat.reduceLeDiff, Nat.reduceSub, Nat.reduceEqDiff, Int.reduceToNat, reduceCtorEq, ↓reduceIte]
   repeat' (first | refine And.intro ?_ ?_ | intro hg)
   all_goals (try simp (disch := omega) only [wrap_fits])
   all_goals first
    | exact al0
    | (refine OpK_invA (recv := .tmp 44) (name := "loop.example/graphcluster/impl.act") (k_impl_labelsProgram_act a0_0x a1 (a0_1.getD a1.toNat []) (a0_2.getD a1.toNat 0) a0_3 a2 y (h := hr2)) [7, 6, 3] [] (.inr ⟨135, [(.int .i64 a0_0x)], _, by rfl, mf135_loop_example_graphcluster_impl_act, Tryz.underlying135, rfl, rfl, rfl⟩) ?_
       rintro x Hc' ⟨rfl, rfl⟩ hlen
       exact auV)
    | exact al1
  refine awp_red (Red.put 0 7 (by rfl) (by rfl) (Cont.setChild_self (by rfl))) ?_
  exact fr [0, 1, 2, 3, 8]
 rw [Bool.not_eq_true] at hd
 replace h := bite_f h hd
 clear hd
 by_cases hd : (a0_0k == 136) = true
 ·replace h := bite_t h hd
  obtain rfl : a0_0k = 136 := by simpa using hd
  rw [dynV_136]
  replace ⟨p, h⟩ := k2 h
  replace ⟨y_1, y_2, y_3, hr2, h⟩ := bd3 h
  refine awp_t [1, 2, 5, 12, 22] [(11, bV true)] [(5, .box [iV y_1, .sl 8, bV y_3])] [oT y_2] ?_ ?_
  ·clear h
   intro K hK
   refine awp_drawT mixed ftCOk (.free 0 (.free 2 (.free 3 (.free 5 (.free 8 (.free 10 (.free 13 (.free 15 (.free 16 (.free 1 (.free 18 (.free 19 (.free 4 (.free 9 (.free 11 (.free 12 (.free 14 (.one 6 (.one 7 (.one 17 (.one 20 (.one 21 (.one 22 .fin))))))))))))))))))))))) (by kernel_rfl) (by simp) ?_
   simp (maxSteps := 4000000) only [go_sem, Nat.reduceBEq, Nat.reduceLT, Nat.reduceAdd, Nat.reduceLeDiff, Nat.reduceSub, Nat.reduceEqDiff, Int.reduceToNat, reduceCtorEq, ↓reduceIte]
   repeat' (first | refine And.intro ?_ ?_ | intro hg)
   all_goals (try simp (disch := omega) only [wrap_fits])
   all_goals first
    | exact al0
    | (refine OpK_invA (recv := .tmp 44) (name := "loop.example/graphcluster/impl.act") (k_impl_trianglesProgram_act a1 (a0_1.getD a1.toNat []) (a0_2.getD a1.toNat 0) a0_3 a2 y (h := hr2)) [7, 6, 3] [] (.inr ⟨136, [], _, by rfl, mf136_loop_example_graphcluster_impl_act, Tryz.underlying136, rfl, rfl, rfl⟩) ?_
       rintro x Hc' ⟨rfl, rfl⟩ hlen
       exact auV)
    | exact al1
  refine awp_red (Red.put 0 7 (by rfl) (by rfl) (Cont.setChild_self (by rfl))) ?_
  exact fr [0, 1, 2, 3, 8]
 rw [Bool.not_eq_true] at hd
 replace h := bite_f h hd
 clear hd
 replace ⟨hd, h⟩ := chk_some h
 subst hd
 rw [dynV_137]
 replace ⟨p, h⟩ := k2 h
 replace ⟨y_1, y_2, y_3, hr2, h⟩ := bd3 h
 refine awp_t [1, 2, 5, 12, 22] [(11, bV true)] [(5, .box [iV y_1, .sl 8, bV y_3])] [oT y_2] ?_ ?_
 ·clear h
  intro K hK
  refine awp_drawT mixed ftCOk (.free 0 (.free 2 (.free 3 (.free 5 (.free 8 (.free 10 (.free 13 (.free 15 (.free 16 (.free 1 (.free 18 (.free 19 (.free 4 (.free 9 (.free 11 (.free 12 (.free 14 (.one 6 (.one 7 (.one 17 (.one 20 (.one 21 (.one 22 .fin))))))))))))))))))))))) (by kernel_rfl) (by simp) ?_
  simp (maxSteps := 4000000) only [go_sem, Nat.reduceBEq, Nat.reduceLT, Nat.reduceAdd, Nat.reduceLeDiff, Nat.reduceSub, Nat.reduceEqDiff, Int.reduceToNat, reduceCtorEq, ↓reduceIte]
  repeat' (first | refine And.intro ?_ ?_ | intro hg)
  all_goals (try simp (disch := omega) only [wrap_fits])
  all_goals first
   | exact al0
   | (refine OpK_invA (recv := .tmp 44) (name := "loop.example/graphcluster/impl.act") (k_impl_coresProgram_act a0_0x a1 (a0_1.getD a1.toNat []) (a0_2.getD a1.toNat 0) a0_3 a2 y (h := hr2)) [7, 6, 3] [] (.inr ⟨137, [(.int .i64 a0_0x)], _, by rfl, mf137_loop_example_graphcluster_impl_act, Tryz.underlying137, rfl, rfl, rfl⟩) ?_
      rintro x Hc' ⟨rfl, rfl⟩ hlen
      exact auV)
   | exact al1
 refine awp_red (Red.put 0 7 (by rfl) (by rfl) (Cont.setChild_self (by rfl))) ?_
 exact fr [0, 1, 2, 3, 8]
theorem k_impl_StepState [T0] (a0_0 : Int) (a0_1 : List (Int × Int × Int)) (a1_0 : Int) (a1_1 : Int) (a1_2 : Int) (a2_0 : Int) (a2_1 : List Int) (a2_2 : List Bool) (a2_3 : List (Int × Int × Int)) {r : Int × List Int × List Bool × (List (Int × Int × Int)) × Bool} (h : impl_StepState a0_0 a0_1 a1_0 a1_1 a1_2 a2_0 a2_1 a2_2 a2_3 = some r) :
 FnA Tryz.prog 12 [.agg [iV a0_0, .sl 0], .agg [iV a1_0, iV a1_1, iV a1_2], .agg [iV a2_0, .sl 1, .sl 2, .sl 3]] [rT a0_1, rI a2_1, rB a2_2, rT a2_3, .glob 0 (.ints .u8 tab0)] [] (fun x H => x = .tup [.agg [iV r.1, .sl 5, .sl 6, .sl 7], bV r.2.2.2.2] ∧ H = [rT a0_1, rI a2_1, rB a2_2, rT a2_3, .glob 0 (.ints .u8 tab0), oI r.2.1, oB r.2.2.1, oT r.2.2.2.1]) := by
 unfold impl_StepState at h
 refine FnA.ofA 95 [0, 1, 2, 3, 4] [.cell 6 38, .tmp 7] Tryz.func12 en12 ?_
 refine rm [0, 1, 2] [(3, .pp 5 0), (4, .pp 6 0), (5, .pp 7 0), (6, .pp 8 0)] [] [.box [iV a0_0, .sl 0], .box [iV a1_0, iV a1_1, iV a1_2], .box [iV a2_0, .sl 1, .sl 2, .sl 3], .box [iV 0, nV, nV, nV]] ?_
 refine fz 3 ?_
 refine fz 4 ?_
 refine fz 5 ?_
 refine awp_seq fun K2 hK2 => ?_
 replace ⟨y, hr0, h⟩ := bd h
 replace ⟨y_1, hr1, h⟩ := bd h
 replace ⟨y_2, hr2, h⟩ := bd h
 refine awp_t [] [(28, bV (((!y) || (!y_1)) || (!y_2)))] [] [] ?_ ?_
 ·intro K hK
  refine awp_regionA ?_
  have c0 := cm [0] (k_impl_GraphValid hr0)
  have c1 := cm [] (fun g0 => k_impl_ProgramValid (bite_t hr1 g0))
  refine wc 8 [(3, .pp 5 0), (4, .pp 6 0), (5, .pp 7 0), (6, .pp 8 0), (21, bV ((!y) || (!y_1)))] [rT a0_1, rI a2_1, rB a2_2, rT a2_3, .glob 0 (.ints .u8 tab0), .rbox [iV a0_0, .sl 0], .rbox [iV a1_0, iV a1_1, iV a1_2], .rbox [iV a2_0, .sl 1, .sl 2, .sl 3], .box [iV 0, nV, nV, nV]] ?_
  have c0 := cm [1, 2, 3] (fun g0 => k_impl_StateValid (bite_t hr2 g0))
  exact vs
 refine awp_if h ?_ ?_ <;> intro hc h
 ·refine rg [3, 4, 5, 28] [(7, bV false)] ?_
  refine nc 8 1 (.ints .i64 []) ?_
  refine nc 8 2 (.bools []) ?_
  refine nc 8 3 (.trips []) ?_
  exact fr [0, 1, 2, 3, 4, 9, 10, 11]
 refine sk hK2 ?_
 replace ⟨y_3, y_4, y_5, y_6, y_7, hr0, h⟩ := bd5 h
 refine rc [4, 28] [(8, .pp 11 0)] [] [.row true (.tripss y_5), .row true (.ints .u32 y_6), .box [.v (dynV y_3 y_4), .sl 9, .sl 10, iV y_7]] [⟨4, [0], k_impl_rulesOf hr0⟩] ?_
 replace ⟨p, h⟩ := k3 h
 refine awp_t [] [(9, .pp 14 0)] [] [oI (List.replicate a0_0.toNat 0), oB (List.replicate a0_0.toNat false), .box [iV (a2_0 + 1), .sl 12, .sl 13, nV]] ?_ ?_
 ·intro K hK
  refine dM [0, 1, 2, 3, 4, 5, 6, 7, 8, 9, 10, 11] [0, 3, 6, 1, 2, 4, 7] 5 (bt 12 223) fun L hL hN => ?_
  refine hN.node L 0 (bt 12 4095) 12 [] [(9, .pp 14 0), (35, .pp 7 0), (36, iV a2_0), (37, iV (a2_0 + 1)), (38, .pp 5 0), (39, iV a0_0), (40, .sl 12), (41, .pp 5 0), (42, iV a0_0), (43, .sl 13), (44, .agg [iV (a2_0 + 1), .sl 12, .sl 13, nV])] [] [oI (List.replicate a0_0.toNat 0), oB (List.replicate a0_0.toNat false), .box [iV (a2_0 + 1), .sl 12, .sl 13, nV]] ?_ fun n4 hN => ?_
  ·exact hL.fin (by kernel_rfl) (hK _ _ Red.auto)
  refine hN.node L 1 (bt 12 2047) 15 [] [] [(14, .box [iV 0, nV, nV, nV])] [] ?_ fun n3 hN => ?_
  ·refine st hL [(11, [], 0, (bt 12 4095))] ⟨?_, trivial⟩
   exact hL.edge n4
  refine hN.node L 2 (bt 12 1023) 14 [9] [] [] [] ?_ fun n2 hN => ?_
  ·refine st hL [(10, [], 1, (bt 12 2047))] ⟨?_, trivial⟩
   exact hL.edge n3
  refine hN.node L 3 (bt 12 1279) 14 [43, 44] [(9, .pp 13 0)] [(13, .box [iV 0, nV, nV, nV])] [] ?_ fun n5 hN => ?_
  ·refine st hL [(8, [9], 1, (bt 12 2047))] ⟨?_, trivial⟩
   exact hL.edgeS [0, 1, 2, 3, 4, 5, 6, 7, 8, 9, 10, 11, 12, 14, 13] n3
  refine hN.node L 4 (bt 12 255) 13 [9] [] [] [] ?_ fun n1 hN => ?_
  ·refine st hL [(8, [9], 2, (bt 12 1023)), (10, [], 3, (bt 12 1279))] ⟨?_, ?_, trivial⟩
   ·exact hL.edge n2
   exact hL.edge n5
  refine hN.node L 3 (bt 12 1503) 13 [40] [(9, .pp 13 0), (43, .sl 12)] [(12, oB (List.replicate a0_0.toNat false))] [.box [iV 0, nV, nV, nV]] ?_ fun n7 hN => ?_
  ·refine st hL [(5, [9], 1, (bt 12 2047))] ⟨?_, trivial⟩
   exact hL.edgeS [0, 1, 2, 3, 4, 5, 6, 7, 8, 9, 10, 11, 14, 12, 13] n3
  refine hN.node L 4 (bt 12 479) 13 [9] [] [] [] ?_ fun n6 hN => ?_
  ·refine st hL [(5, [9], 2, (bt 12 1023)), (10, [], 3, (bt 12 1503))] ⟨?_, ?_, trivial⟩
   ·exact hL.edgeS [0, 1, 2, 3, 4, 5, 6, 7, 8, 9, 10, 11, 13, 12] n2
   exact hL.edge n7
  refine hN.node L 4 (bt 12 1247) 13 [43] [(9, .pp 12 0)] [(12, .box [iV 0, nV, nV, nV])] [] ?_ fun n8 hN => ?_
  ·refine st hL [(5, [], 3, (bt 12 1279)), (8, [], 3, (bt 12 1503))] ⟨?_, ?_, trivial⟩
   ·exact hL.edgeS [0, 1, 2, 3, 4, 5, 6, 7, 8, 9, 10, 11, 13, 12] n5
   exact hL.edgeS [0, 1, 2, 3, 4, 5, 6, 7, 8, 9, 10, 11, 13, 12] n7
  refine hN.node L 5 (bt 12 223) 12 [9] [] [] [] ?_ fun n0 hN => ?_
  ·refine st hL [(5, [], 4, (bt 12 255)), (8, [], 4, (bt 12 479)), (10, [], 4, (bt 12 1247))] ⟨?_, ?_, ?_, trivial⟩
   ·exact hL.edge n1
   ·exact hL.edge n6
   exact hL.edge n8
  have nn := n0
  exact au5
 refine rg [] [(10, nV)] ?_
 refine awp_seq fun K21 hK21 => ?_
 refine rg [] [(46, iV a0_0), (47, iV 0)] ?_
 refine awp_block ?_
 refine lp h (fun (t47, t9_1s, t9_2s, t10s) => [(3, .pp 5 0), (5, .pp 6 0), (6, .pp 7 0), (8, .pp 8 0), (9, .pp 11 0), (10, .sl 14), (46, iV a0_0), (47, iV t47)]) (fun (t47, t9_1s, t9_2s, t10s) => [rT a0_1, rI a2_1, rB a2_2, rT a2_3, .glob 0 (.ints .u8 tab0), .rbox [iV a0_0, .sl 0], .rbox [iV a2_0, .sl 1, .sl 2, .sl 3], .box [iV 0, nV, nV, nV], .box [.v (dynV y_3 y_4), .sl 9, .sl 10, iV y_7], .row true (.tripss y_5), .row true (.ints .u32 y_6), .box [iV (a2_0 + 1), .sl 12, .sl 13, nV], oI t9_1s, oB t9_2s, oT t10s]) (fun _ => Exit.exit 0) (fun (t9_1s_1, t9_2s_1, t10s_1) => [(3, .pp 5 0), (6, .pp 6 0), (9, .pp 7 0), (10, .sl 10)]) (fun (t9_1s_1, t9_2s_1, t10s_1) => [rT a0_1, rI a2_1, rB a2_2, rT a2_3, .glob 0 (.ints .u8 tab0), .rbox [iV a0_0, .sl 0], .box [iV 0, nV, nV, nV], .box [iV (a2_0 + 1), .sl 8, .sl 9, nV], oI t9_1s_1, oB t9_2s_1, oT t10s_1]) ?_ ?_ (h0 := by refine Red.trans (Red.nil (t := 10) (.trips []) rfl rfl) ?_; exact Red.selA [0, 1, 2, 3, 4, 5, 7, 8, 11, 9, 10, 14, 12, 13, 15] Red.auto)
 ·rintro ⟨t47, t9_1s, t9_2s, t10s⟩ r h
  unfold impl_StepState_b0 at h
  try dsimp only
  refine rg [] [(48, bV (decide (t47 < a0_0)))] ?_
  refine awp_seq fun K35 hK35 => ?_
  refine awp_if h ?_ ?_ <;> intro hc h
  ·refine sk hK35 ?_
   refine awp_seq fun K37 hK37 => ?_
   refine awp_block ?_
   refine rg [48] [(11, iV t47)] ?_
   replace ⟨p, h⟩ := k2 h
   replace ⟨y_8, y_9, y_10, y_11, hr2, h⟩ := bd4 h
   refine awp_t [] [(12, .pp 16 0)] [] [oT y_9, .box [iV y_8, .sl 15, bV y_10]] ?_ ?_
   ·intro K hK
    refine dM [0, 1, 2, 3, 4, 5, 6, 7, 8, 9, 10, 11, 12, 13, 14] [1, 2, 4, 7, 9, 12, 3, 5, 6, 8, 10, 11, 13] 8 (bt 21 16382) fun L hL hN => ?_
    refine hN.node L 0 (bt 21 2097151) 15 [] [(12, .pp 16 0), (13, bV y_11), (50, .tup [.agg [iV y_8, .sl 15, bV y_10], bV y_11]), (51, .agg [.v (dynV y_3 y_4), .sl 9, .sl 10, iV y_7]), (52, iV t47), (53, .pp 6 1), (54, .sl 1), (55, iV t47), (56, .ep 1 t47.toNat 1 0), (57, iV (a2_1.getD t47.toNat 0)), (58, .pp 6 2), (59, .sl 2), (60, iV t47), (61, .ep 2 t47.toNat 1 0), (62, bV (a2_2.getD t47.toNat false)), (63, .pp 6 3), (64, .sl 3), (65, .tup [.agg [iV y_8, .sl 15, bV y_10], bV y_11]), (66, .agg [iV y_8, .sl 15, bV y_10]), (67, bV y_11)] [] [oT y_9, .box [iV y_8, .sl 15, bV y_10]] ?_ fun n5 hN => ?_
    ·exact hL.fin (by kernel_rfl) (hK _ _ Red.auto)
    refine hN.node L 2 (bt 21 524287) 17 [13] [] [(16, .box [iV 0, nV, bV false])] [] ?_ fun n4 hN => ?_
    ·refine st hL [(19, [20], 0, (bt 21 2097151))] ⟨?_, trivial⟩
     exact hL.edge n5
    refine hN.node L 3 (bt 21 262143) 16 [12] [] [] [] ?_ fun n3 hN => ?_
    ·refine st hL [(18, [], 2, (bt 21 524287))] ⟨?_, trivial⟩
     exact hL.edge n4
    refine hN.node L 5 (bt 21 294911) 16 [50, 66, 67] [(12, .pp 16 0)] [] [.box [iV 0, nV, bV false]] ?_ fun n6 hN => ?_
    ·refine st hL [(15, [16, 17], 2, (bt 21 524287))] ⟨?_, trivial⟩
     exact hL.edge n4
    refine hN.node L 6 (bt 21 32767) 16 [12] [] [] [] ?_ fun n2 hN => ?_
    ·refine st hL [(15, [16, 17], 3, (bt 21 262143)), (18, [], 5, (bt 21 294911))] ⟨?_, ?_, trivial⟩
     ·exact hL.edge n3
     exact hL.edge n6
    refine hN.node L 6 (bt 21 278527) 16 [65] [(12, .pp 15 0)] [(15, .box [iV 0, nV, bV false])] [] ?_ fun n7 hN => ?_
    ·refine st hL [(14, [], 5, (bt 21 294911))] ⟨?_, trivial⟩
     have nn := n6
     have ns := cm [0, 1, 2, 3, 4, 5, 6, 7, 8, 9, 10, 11, 12, 13, 14, 16, 15] trivial
     have c0 := cm [9, 10, 3, 4] (k_impl_roundRules_act y_3 y_4 y_5 y_6 y_7 t47 (a2_1.getD t47.toNat 0) (a2_2.getD t47.toNat false) a2_3 (h := hr2))
     exact vn
    refine hN.node L 7 (bt 21 16383) 15 [12] [] [] [] ?_ fun n1 hN => ?_
    ·refine st hL [(14, [], 6, (bt 21 32767)), (18, [], 6, (bt 21 278527))] ⟨?_, ?_, trivial⟩
     ·have nn := n2
      have c0 := cm [9, 10, 3, 4] (k_impl_roundRules_act y_3 y_4 y_5 y_6 y_7 t47 (a2_1.getD t47.toNat 0) (a2_2.getD t47.toNat false) a2_3 (h := hr2))
      exact vn
     exact hL.edge n7
    refine hN.node L 7 (bt 21 278526) 15 [51] [(12, .pp 15 0)] [] [.box [iV 0, nV, bV false]] ?_ fun n8 hN => ?_
    ·refine st hL [(0, [], 6, (bt 21 278527))] ⟨?_, trivial⟩
     exact hL.edge n7
    refine hN.node L 8 (bt 21 16382) 15 [12] [] [] [] ?_ fun n0 hN => ?_
    ·refine st hL [(0, [], 7, (bt 21 16383)), (18, [], 7, (bt 21 278526))] ⟨?_, ?_, trivial⟩
     ·exact hL.edge n1
     exact hL.edge n8
    have nn := n0
    exact au5
   replace ⟨p, h⟩ := k1 h
   refine rm [] [] [(12, oI (t9_1s.set t47.toNat y_8))] [] ?_
   replace ⟨p, h⟩ := k1 h
   refine rm [11] [] [(13, oB (t9_2s.set t47.toNat y_10))] [] ?_
   replace ⟨p, h⟩ := k1 h
   refine em [12] [] [(14, oT (t10s ++ y_9))] [] ?_
   refine hK37 _ _ ?_
   replace ⟨p, h⟩ := k1 h
   refine eg [47] [(47, iV (t47 + 1))] ?_
   exact lns [0, 1, 2, 3, 4, 5, 6, 7, 8, 9, 10, 11, 12, 13, 14]
  exact los [0, 1, 2, 3, 4, 5, 7, 11, 12, 13, 14]
 rintro ⟨t9_1s_1, t9_2s_1, t10s_1⟩ h
 try dsimp only
 refine hK21 _ _ ?_
 replace ⟨y_12, hr0, h⟩ := bd h
 refine rc [10] [] [(7, .box [iV (a2_0 + 1), .sl 8, .sl 9, .sl 11])] [oT y_12] [⟨1, [10], k_impl_inOrder hr0⟩] ?_
 refine awp_seq fun K40 hK40 => ?_
 replace ⟨y_13, hr0, h⟩ := bd h
 refine rc [3] [(92, bV (!y_13))] [] [] [⟨3, [8, 9, 11], k_impl_StateValid hr0⟩] ?_
 refine awp_if h ?_ ?_ <;> intro hc h
 ·refine rg [9, 92] [(7, bV false)] ?_
  refine nc 6 1 (.ints .i64 []) ?_
  refine nc 6 2 (.bools []) ?_
  refine nc 6 3 (.trips []) ?_
  exact fr [0, 1, 2, 3, 4, 12, 13, 14]
 refine sk hK40 ?_
 refine rm [9, 92] [(7, bV true)] [(6, .box [iV (a2_0 + 1), .sl 8, .sl 9, .sl 11])] [] ?_
 exact fr [0, 1, 2, 3, 4, 8, 9, 11]
theorem k_laws_FnCombineState [T0] (a0 : List Int) {r : Bool} (h : laws_FnCombineState a0 = some r) :
 FnA Tryz.prog 4 [.sl 0] [rY a0, .glob 0 (.ints .u8 tab0)] [] (fun x H => x = bV r ∧ H = [rY a0, .glob 0 (.ints .u8 tab0)]) := by
 unfold laws_FnCombineState at h
 refine FnA.ofA 101 [0, 1] [.tmp 2] Tryz.func4 en4 ?_
 refine rg [] [] ?_
 refine awp_seq fun K2 hK2 => ?_
 refine rg [] [(16, bV (decide (1048576 < (a0.length : Int))))] ?_
 refine awp_if h ?_ ?_ <;> intro hc h
 ·refine rg [0, 16] [(2, bV true)] ?_
  exact fr [0, 1]
 refine sk hK2 ?_
 replace ⟨y, y_1, y_2, y_3, y_4, y_5, y_6, hr0, h⟩ := bd7 h
 refine rc [0, 16] [(3, .pp 5 0), (4, .pp 6 0)] [] [oI y_4, oB y_5, oT y_6, .box [iV y, iV y_1, iV y_2], .box [iV y_3, .sl 2, .sl 3, .sl 4]] [⟨1, [0], k_spec_DrawCombineState hr0⟩] ?_
 replace ⟨y_7, y_8, y_9, y_10, hr0, h⟩ := bd4 h
 refine rc [] [(5, .pp 10 0)] [] [oI y_8, oB y_9, oT y_10, .box [iV y_7, .sl 7, .sl 8, .sl 9]] [⟨2, [2, 3, 4], k_impl_CombineState hr0⟩] ?_
 refine awp_seq fun K5 hK5 => ?_
 refine awp_freeze 3 (by rfl) (by rfl) (by first | exact rfl | (simp only [List.map_cons, List.map_nil, List.set_cons_succ, List.set_cons_zero, AObj.unview, reduceCtorEq, ↓reduceIte, Nat.reduceEqDiff]; exact rfl)) ?_
 refine awp_freeze 5 (by rfl) (by rfl) (by first | exact rfl | (simp only [List.map_cons, List.map_nil, List.set_cons_succ, List.set_cons_zero, AObj.unview, reduceCtorEq, ↓reduceIte, Nat.reduceEqDiff]; exact rfl)) ?_
 replace ⟨y_11, y_12, y_13, y_14, hr0, h⟩ := bd4 h
 replace ⟨y_15, hr1, h⟩ := bd h
 have c0 := cm [2, 3, 4] (k_spec_CombineState hr0)
 have c1 := cm [7, 8, 9, 11, 12, 13] (k_laws_sameState hr1)
 refine dm (.free 0 (.free 1 (.one 2 (.one 3 (.one 4 (.one 5 .fin)))))) [] [(30, bV (!y_15))] [] [oI y_12, oB y_13, oT y_14] ?_
 refine awp_if h ?_ ?_ <;> intro hc h
 ·refine rg [3, 4, 5, 30] [(2, bV false)] ?_
  exact fr [0, 1]
 refine sk hK5 ?_
 refine awp_seq fun K8 hK8 => ?_
 replace ⟨y_16, hr0, h⟩ := bd h
 replace ⟨y_17, hr1, h⟩ := bd h
 have c0 := cm [] (k_spec_ProgramValid hr0)
 have c1 := cm [2, 3, 4] (fun g0 => k_spec_StateValid (bite_t hr1 g0))
 refine rm [30] [(41, bV ((!y_16) || (!y_17)))] [] [] ?_
 refine awp_if h ?_ ?_ <;> intro hc h
 ·replace ⟨y_18, hr0, h⟩ := bd h
  have c0 := cm [] (fun g0 => k_laws_alive  (h := (bite_t hr0 g0)))
  refine rm [3, 4, 5, 41] [(2, bV (((y_8.length : Int) == 0) && y_18))] [] [] ?_
  exact fr [0, 1]
 refine sk hK8 ?_
 refine rm [41] [(6, .pp 14 0)] [] [.box [iV (y_4.length : Int), nV]] ?_
 refine awp_seq fun K31 hK31 => ?_
 refine rg [] [(7, iV 0)] ?_
 refine awp_block ?_
 refine lp h (fun (t7, t6_0, t6_1s) => [(3, .pp 2 0), (4, .pp 3 0), (5, .pp 7 0), (6, .pp 11 0), (7, iV t7)]) (fun (t7, t6_0, t6_1s) => [rY a0, .glob 0 (.ints .u8 tab0), .rbox [iV y, iV y_1, iV y_2], .box [iV y_3, .sl 4, .sl 5, .sl 6], oI y_4, oB y_5, oT y_6, .rbox [iV y_7, .sl 8, .sl 9, .sl 10], oI y_8, oB y_9, oT y_10, .box [iV t6_0, .sl 12], oT t6_1s]) (fun _ => Exit.exit 0) (fun (t6_0_1, t6_1s_1) => [(3, .pp 2 0), (4, .pp 3 0), (5, .pp 7 0), (6, .pp 11 0)]) (fun (t6_0_1, t6_1s_1) => [rY a0, .glob 0 (.ints .u8 tab0), .rbox [iV y, iV y_1, iV y_2], .box [iV y_3, .sl 4, .sl 5, .sl 6], oI y_4, oB y_5, oT y_6, .rbox [iV y_7, .sl 8, .sl 9, .sl 10], oI y_8, oB y_9, oT y_10, .box [iV t6_0_1, .sl 12], oT t6_1s_1]) ?_ ?_ (h0 := by refine Red.trans (Red.nilCell (o := 14) (i := 1) (.trips []) rfl rfl rfl) ?_; exact Red.selA [0, 1, 5, 6, 2, 3, 4, 10, 7, 8, 9, 14, 15] Red.auto)
 ·rintro ⟨t7, t6_0, t6_1s⟩ r h
  unfold laws_FnCombineState_b0 at h
  try dsimp only
  refine awp_seq fun K48 hK48 => ?_
  replace ⟨p, h⟩ := k1 h
  refine rg [] [(58, bV (decide ((t7 + 1) < (y_4.length : Int))))] ?_
  refine awp_if h ?_ ?_ <;> intro hc h
  ·refine sk hK48 ?_
   refine awp_join h (fun (t6_0_2, t6_1s_2) => [(3, .pp 2 0), (4, .pp 3 0), (5, .pp 7 0), (6, .pp 11 0), (7, iV t7)]) (fun (t6_0_2, t6_1s_2) => [rY a0, .glob 0 (.ints .u8 tab0), .rbox [iV y, iV y_1, iV y_2], .box [iV y_3, .sl 4, .sl 5, .sl 6], oI y_4, oB y_5, oT y_6, .rbox [iV y_7, .sl 8, .sl 9, .sl 10], oI y_8, oB y_9, oT y_10, .box [iV t6_0_2, .sl 12], oT t6_1s_2]) ?_ ?_
   ·intro k h
    refine awp_block ?_
    replace ⟨p, h⟩ := k1 h
    replace ⟨y_19, y_20, y_21, hr1, h⟩ := bd3 h
    refine rc [58] [(8, .pp 14 0), (9, bV y_21)] [] [oT y_20, .box [iV y_19, .sl 13]] [⟨5, [12], k_impl_AddEdge hr1⟩] ?_
    refine rg [9] [(70, bV y_21)] ?_
    refine awp_if h ?_ ?_ <;> intro hc h
    ·refine em [8, 70] [] [(11, .box [iV y_19, .sl 13])] [] ?_
     exact jos [0, 1, 2, 3, 4, 5, 6, 7, 8, 9, 10, 11, 13]
    refine awp_skip ?_
    exact jos [0, 1, 2, 3, 4, 5, 6, 7, 8, 9, 10, 11, 12]
   rintro ⟨t6_0_2, t6_1s_2⟩ h
   try dsimp only
   replace ⟨p, h⟩ := k1 h
   refine eg [7] [(7, iV (t7 + 1))] ?_
   exact ln
  exact lo
 rintro ⟨t6_0_1, t6_1s_1⟩ h
 try dsimp only
 refine hK31 _ _ ?_
 replace ⟨y_22, y_23, y_24, y_25, y_26, hr0, h⟩ := bd5 h
 refine rc [] [(10, .pp 16 0), (11, bV y_26)] [] [oI y_23, oB y_24, oT y_25, .box [iV y_22, .sl 13, .sl 14, .sl 15]] [⟨3, [12, 4, 5, 6, 1], k_impl_StepState t6_0_1 t6_1s_1 y y_1 y_2 y_3 y_4 y_5 y_6 (h := hr0)⟩] ?_
 replace ⟨y_27, y_28, y_29, y_30, y_31, hr0, h⟩ := bd5 h
 refine rc [3, 6] [(12, .pp 20 0), (13, bV y_31)] [] [oI y_28, oB y_29, oT y_30, .box [iV y_27, .sl 17, .sl 18, .sl 19]] [⟨3, [12, 8, 9, 10, 1], k_impl_StepState t6_0_1 t6_1s_1 y y_1 y_2 y_7 y_8 y_9 y_10 (h := hr0)⟩] ?_
 replace ⟨y_32, hr0, h⟩ := bd h
 replace ⟨y_33, hr1, h⟩ := bd h
 refine awp_t [4, 5, 10, 11, 12, 13] [(2, bV ((y_32 && (y_26 == y_31)) && y_33))] [] [] ?_ ?_
 ·intro K hK
  refine awp_regionA ?_
  have c0 := cm [8, 9, 10] (k_impl_StateValid hr0)
  refine wc 10 [(10, .pp 16 0), (12, .pp 20 0), (95, bV (y_32 && (y_26 == y_31)))] [rY a0, .glob 0 (.ints .u8 tab0), .rbox [iV y, iV y_1, iV y_2], .box [iV y_3, .sl 4, .sl 5, .sl 6], oI y_4, oB y_5, oT y_6, .rbox [iV y_7, .sl 8, .sl 9, .sl 10], oI y_8, oB y_9, oT y_10, .box [iV t6_0_1, .sl 12], oT t6_1s_1, oI y_23, oB y_24, oT y_25, .box [iV y_22, .sl 13, .sl 14, .sl 15], oI y_28, oB y_29, oT y_30, .box [iV y_27, .sl 17, .sl 18, .sl 19]] ?_
  have c0 := cm [13, 14, 15, 17, 18, 19] (fun g0 => k_laws_sameState (bite_t hr1 g0))
  exact vs
 exact fr [0, 1]
end Go.Proofs.YtoohhgembcdhpaaGreat
