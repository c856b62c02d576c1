/- The code computes the functions that were taken out of it. -/
import Derived.Test.YtbhbaijbdciafaaGreatDoorLw2
set_option maxRecDepth 100000
set_option maxHeartbeats 4000000
set_option linter.unusedSimpArgs false
set_option linter.unusedVariables false
namespace Go.Proofs.YtbhbaijbdciafaaGreatDoor
open Go Go.Av
attribute [local irreducible] wpA OpK awp OpKI
theorem k_impl_lineNumbers [T0] (a0 : ByteArray) (a1 : Int) {r : List Int × Bool} (h : impl_lineNumbers a0 a1 = some r) :
 FnA Tryz.prog 58 [.v (.string a0), iV a1] [.glob 0 (.ints .i64 tab0)] [] (fun x H => x = .tup [.sl 1, bV r.2] ∧ H = [.glob 0 (.ints .i64 tab0), oI r.1]) := by
 unfold impl_lineNumbers at h
 refine FnA.ofA 40 [0] [.tmp 4, .tmp 5] Tryz.func58 en58 ?_
 refine rg [] [] ?_
 replace ⟨y, hr0, h⟩ := bd h
 refine rc [0] [(6, .sl 1)] [] [.row true (.strs y)] [⟨1, [0], k_strings_Split a0 (ByteArray.mk #[32]) (h := hr0)⟩] ?_
 refine awp_seq fun K2 hK2 => ?_
 refine rg [] [(17, bV ((y.length : Int) != a1))] ?_
 refine awp_if h ?_ ?_ <;> intro hc h
 ·refine rg [1, 6, 17] [(4, nV), (5, bV false)] ?_
  refine awp_red (Red.nil (t := 4) (.ints .i64 []) rfl rfl) ?_
  exact fr [0, 2]
 refine sk hK2 ?_
 replace ⟨p, h⟩ := k1 h
 refine rm [1, 17] [(7, .sl 2)] [] [oI (List.replicate a1.toNat 0)] ?_
 refine awp_seq fun K35 hK35 => ?_
 refine rg [6] [(20, .sl 1), (21, iV (y.length : Int)), (22, iV 0)] ?_
 refine awp_block ?_
 refine lp2 h (fun (t22, t7s) => [(7, .sl 1), (20, .sl 2), (21, iV (y.length : Int)), (22, iV t22)]) (fun (t22, t7s) => [.glob 0 (.ints .i64 tab0), oI t7s, .row true (.strs y)]) (fun _ => Exit.exit 0) (fun t7s_1 => [(7, .sl 1)]) (fun t7s_1 => [.glob 0 (.ints .i64 tab0), oI t7s_1]) (fun _ => Exit.ret) (fun _ => [(4, .sl 1), (5, bV false)]) (fun _ => [.glob 0 (.ints .i64 tab0), oI []]) ?_ ?_ ?_ (h0 := Red.selA [0, 2, 1] Red.auto)
 ·rintro ⟨t22, t7s⟩ r h
  unfold impl_lineNumbers_b0 at h
  try dsimp only
  refine rg [] [(23, bV (decide (t22 < (y.length : Int))))] ?_
  refine awp_seq fun K57 hK57 => ?_
  refine awp_if h ?_ ?_ <;> intro hc h
  ·refine sk hK57 ?_
   refine awp_seq fun K62 hK62 => ?_
   refine awp_block ?_
   replace ⟨p, h⟩ := k1 h
   refine rg [23] [(8, iV t22), (9, .v (.string (y.getD t22.toNat default)))] ?_
   replace ⟨y_1, y_2, hr0, h⟩ := bd2 h
   refine rc [9] [(10, iV y_1), (11, bV y_2)] [] [] [⟨1, [], k_impl_plainNumber hr0⟩] ?_
   refine awp_seq fun K64 hK64 => ?_
   refine rg [11] [(33, bV (!y_2))] ?_
   refine awp_if h ?_ ?_ <;> intro hc h
   ·refine rg [7, 8, 10, 20, 21, 22, 33] [(4, nV), (5, bV false)] ?_
    refine awp_ret ?_
    refine nm ?_
    obtain rfl := Option.some.inj h
    refine LoopQ.out rfl ?_
    refine Red.trans (Red.nil (t := 4) (.ints .i64 []) rfl rfl) ?_
    exact Red.selA [0, 3] Red.auto
   refine sk hK64 ?_
   replace ⟨p, h⟩ := k1 h
   refine em [8, 10, 33] [] [(1, oI (t7s.set t22.toNat y_1))] [] ?_
   refine hK62 _ _ ?_
   replace ⟨p, h⟩ := k1 h
   refine eg [22] [(22, iV (t22 + 1))] ?_
   exact ln
  exact los [0, 1]
 ·rintro t7s_1 h
  try dsimp only
  refine hK35 _ _ ?_
  refine rg [7] [(4, .sl 1), (5, bV true)] ?_
  exact fr [0, 1]
 rintro ⟨⟩ h
 try dsimp only
 exact fr [0, 1]
theorem k_slices_BinarySearchFunc_impl_Edge_impl_Edge_impl_Edge__impl_compareEnds {a0 a1_0 a1_1 a1_2 r} (h : slices_BinarySearchFunc_impl_Edge_impl_Edge_impl_Edge__impl_compareEnds a0 a1_0 a1_1 a1_2 = some r) : KA Tryz.prog 75 [.sl 0, .agg [iV a1_0, iV a1_1, iV a1_2], .v (.func (.func 31) #[] #[])] [rT a0] (.tup [iV r.1, bV r.2]) [rT a0] := by
 unfold slices_BinarySearchFunc_impl_Edge_impl_Edge_impl_Edge__impl_compareEnds at h
 refine FnA.ofA 49 [0] [.tmp 6, .tmp 7] Tryz.func75 en75 ?_
 refine rm [1] [(4, .pp 1 0)] [] [.box [iV a1_0, iV a1_1, iV a1_2]] ?_
 refine fz 4 ?_
 refine rg [] [(8, iV (a0.length : Int))] ?_
 refine rg [] [(9, iV 0), (10, iV (a0.length : Int))] ?_
 refine awp_seq fun K14 hK14 => ?_
 refine awp_block ?_
 refine lp h (fun (t9, t10) => [(0, .sl 0), (2, .v (.func (.func 31) #[] #[])), (4, .pp 1 0), (8, iV (a0.length : Int)), (9, iV t9), (10, iV t10)]) (fun (t9, t10) => [rT a0, .rbox [iV a1_0, iV a1_1, iV a1_2]]) (fun _ => Exit.exit 0) (fun t9_1 => [(0, .sl 0), (2, .v (.func (.func 31) #[] #[])), (4, .pp 1 0), (8, iV (a0.length : Int)), (9, iV t9_1)]) (fun t9_1 => [rT a0, .rbox [iV a1_0, iV a1_1, iV a1_2]]) ?_ ?_
 ·rintro ⟨t9, t10⟩ r h
  unfold slices_BinarySearchFunc_impl_Edge_impl_Edge_impl_Edge__impl_compareEnds_b0 at h
  try dsimp only
  refine awp_seq fun K24 hK24 => ?_
  refine rg [] [(17, bV (decide (t9 < t10)))] ?_
  refine awp_if h ?_ ?_ <;> intro hc h
  ·refine sk hK24 ?_
   refine awp_block ?_
   replace ⟨p, h⟩ := k2 h
   refine rg [17] [(11, iV ((IntKind.u64.wrap (t9 + t10)).fdiv 2))] ?_
   replace ⟨p, h⟩ := k1 h
   refine qg [] [(31, bV (decide ((orF [cmpI (a0.getD (((IntKind.u64.wrap (t9 + t10)).fdiv 2).toNat) (0, 0, 0)).1 a1_0, cmpI (a0.getD (((IntKind.u64.wrap (t9 + t10)).fdiv 2).toNat) (0, 0, 0)).2.1 a1_1]) < 0)))] ?_
   refine awp_if h ?_ ?_ <;> intro hc h
   ·replace ⟨p, h⟩ := k1 h
    refine eg [9, 11, 31] [(9, iV (((IntKind.u64.wrap (t9 + t10)).fdiv 2) + 1))] ?_
    refine nm ?_
    exact ln
   refine eg [10, 11, 31] [(10, iV ((IntKind.u64.wrap (t9 + t10)).fdiv 2))] ?_
   refine nm ?_
   exact ln
  exact lo
 rintro t9_1 h
 try dsimp only
 refine hK14 _ _ ?_
 replace ⟨hp0, h⟩ := k1 h
 refine qm [0, 2, 4, 8, 9] [(6, iV t9_1), (7, bV ((decide (t9_1 < (a0.length : Int))) && ((orF [cmpI (a0.getD t9_1.toNat (0, 0, 0)).1 a1_0, cmpI (a0.getD t9_1.toNat (0, 0, 0)).2.1 a1_1]) == 0)))] [] [] ?_
 exact fr [0]
theorem k_impl_AddEdge {a0_0 a0_1 a1_0 a1_1 a1_2 r} (h : impl_AddEdge a0_0 a0_1 a1_0 a1_1 a1_2 = some r) : KA Tryz.prog 59 [.agg [iV a0_0, .sl 0], .agg [iV a1_0, iV a1_1, iV a1_2]] [rT a0_1] (.tup [.agg [iV r.1, .sl 1], bV r.2.2]) [rT a0_1, oT r.2.1] := by
 unfold impl_AddEdge at h
 refine FnA.ofA 41 [0] [.cell 4 25, .tmp 5] Tryz.func59 en59 ?_
 refine rm [0, 1] [(2, .pp 1 0), (3, .pp 2 0), (4, .pp 3 0)] [] [.box [iV a0_0, .sl 0], .box [iV a1_0, iV a1_1, iV a1_2], .box [iV 0, nV]] ?_
 refine fz 2 ?_
 refine fz 3 ?_
 refine awp_seq fun K2 hK2 => ?_
 replace ⟨y, hr0, h⟩ := bd h
 refine rc [] [(11, bV (!y))] [] [] [⟨1, [0], k_impl_GraphValid hr0⟩] ?_
 refine awp_if h ?_ ?_ <;> intro hc h
 ·refine rg [2, 3, 11] [(5, bV false)] ?_
  refine nc 3 1 (.trips []) ?_
  exact fr [0, 4]
 refine sk hK2 ?_
 replace ⟨y_1, y_2, hr0, h⟩ := bd2 h
 refine rc [11] [(6, iV y_1), (7, bV y_2)] [] [] [⟨3, [0], k_slices_BinarySearchFunc_impl_Edge_impl_Edge_impl_Edge__impl_compareEnds hr0⟩] ?_
 replace ⟨y_3, y_4, hr0, h⟩ := bd2 h
 refine rc [] [(8, .pp 5 0)] [] [oT y_4, .box [iV y_3, .sl 4]] [⟨1, [0], k_impl_Graph_copied hr0⟩] ?_
 refine awp_join h (fun t8_1s => [(2, .pp 1 0), (4, .pp 2 0), (8, .pp 3 0)]) (fun t8_1s => [rT a0_1, .rbox [iV a0_0, .sl 0], .box [iV 0, nV], .box [iV y_3, .sl 4], oT t8_1s]) ?_ ?_
 ·intro k h
  refine rg [7] [(22, bV y_2)] ?_
  refine awp_if h ?_ ?_ <;> intro hc h
  ·replace ⟨p, h⟩ := k1 h
   refine em [3, 6, 22] [] [(4, oT (y_4.set y_1.toNat (a1_0, a1_1, a1_2)))] [] ?_
   exact jos [0, 1, 3, 5, 4]
  replace ⟨y_5, hr0, h⟩ := bd h
  refine ec [3, 6, 22] [] [(4, .dead), (0, .box [iV y_3, .sl 7])] [oT [(a1_0, a1_1, a1_2)], oT y_5] [⟨5, [4, 6], k_insF y_4 y_1 [(a1_0, a1_1, a1_2)] (h := hr0)⟩] ?_
  exact jos [0, 1, 3, 5, 7]
 rintro t8_1s h
 try dsimp only
 refine awp_seq fun K7 hK7 => ?_
 replace ⟨y_6, hr0, h⟩ := bd h
 refine rc [] [(37, bV (!y_6))] [] [] [⟨1, [4], k_impl_GraphValid hr0⟩] ?_
 refine awp_if h ?_ ?_ <;> intro hc h
 ·replace ⟨y_7, y_8, hr0, h⟩ := bd2 h
  refine rc [2, 8, 37] [(5, bV false)] [(2, .box [iV y_7, .sl 5])] [oT y_8] [⟨1, [0], k_impl_Graph_copied hr0⟩] ?_
  exact fr [0, 5]
 refine sk hK7 ?_
 refine rm [2, 8, 37] [(5, bV true)] [(2, .box [iV y_3, .sl 4])] [] ?_
 exact fr [0, 4]
theorem k_impl_Service_withGraph_v9 [T0] (a0_0 : Int) (a0_1 : List (Int × Int × Int)) (a0_2 : List Int) (a0_3 : List Int) (y_1 : Int) (y_2 : List (Int × Int × Int)) (y_3 : List Int) (y_4 : List Int) (y_6 : List Int) {r : Int × (List (Int × Int × Int)) × ByteArray} (h : impl_Service_withGraph_v9 a0_0 a0_1 a0_2 a0_3 y_1 y_2 y_3 y_4 y_6 = some r) :
 FnA Tryz.prog 53 [.agg [iV y_1, .sl 6, .sl 7, .sl 8], .agg [iV (y_6.getD 0 0), nV], bV true] [rT a0_1, rI a0_2, rI a0_3, .glob 0 (.ints .i64 tab0), .rbox [iV a0_0, .sl 0, .sl 1, .sl 2], .box [iV 0, nV, nV, nV], oT y_2, oI y_3, oI y_4, .rbox [iV y_1, .sl 6, .sl 7, .sl 8], .box [iV 0, nV, nV, nV], .rbox [iV y_1, .sl 6, .sl 7, .sl 8], .box [iV 0, nV, nV, nV], oI y_6] [] (fun x H => x = .tup [.agg [iV r.1, .sl 14, .sl 7, .sl 8], .v (.string r.2.2)] ∧ H = [rT a0_1, rI a0_2, rI a0_3, .glob 0 (.ints .i64 tab0), .rbox [iV a0_0, .sl 0, .sl 1, .sl 2], .box [iV 0, nV, nV, nV], oT y_2, oI y_3, oI y_4, .rbox [iV y_1, .sl 6, .sl 7, .sl 8], .box [iV 0, nV, nV, nV], .rbox [iV y_1, .sl 6, .sl 7, .sl 8], .box [iV 0, nV, nV, nV], oI y_6, oT r.2.1]) := by
 unfold impl_Service_withGraph_v9 at h
 refine FnA.ofA 20 [0, 1, 2, 3, 4, 5, 6, 7, 8, 9, 10, 11, 12, 13] [.cell 6 35, .tmp 7] Tryz.func53 en53 ?_
 refine rm [0, 1] [(3, .pp 14 0), (4, .pp 15 0), (6, .pp 16 0)] [] [.box [iV y_1, .sl 6, .sl 7, .sl 8], .box [iV (y_6.getD 0 0), nV], .box [iV 0, nV, nV, nV]] ?_
 refine fz 3 ?_
 refine fz 4 ?_
 refine awp_seq fun K2 hK2 => ?_
 replace ⟨y, hr0, h⟩ := bd h
 refine awp_t [2] [(14, bV (!y))] [] [oT []] ?_ ?_
 ·intro K hK
  refine awp_regionA ?_
  refine wpA_cutAt 4 [(2, bV true), (3, .pp 14 0), (4, .pp 15 0), (6, .pp 16 0), (8, bV true), (9, bV false), (10, bV false), (11, .agg [iV (y_6.getD 0 0), .sl 17])] [rT a0_1, rI a0_2, rI a0_3, .glob 0 (.ints .i64 tab0), .rbox [iV a0_0, .sl 0, .sl 1, .sl 2], .box [iV 0, nV, nV, nV], oT y_2, oI y_3, oI y_4, .rbox [iV y_1, .sl 6, .sl 7, .sl 8], .box [iV 0, nV, nV, nV], .rbox [iV y_1, .sl 6, .sl 7, .sl 8], .box [iV 0, nV, nV, nV], oI y_6, .rbox [iV y_1, .sl 6, .sl 7, .sl 8], .rbox [iV (y_6.getD 0 0), nV], .box [iV 0, nV, nV, nV], oT []] ?_ ?_
  ·clear hK K
   intro K hK
   refine vcOps_sound ftCOk ?_
   simp (maxSteps := 4000000) only [go_sem, Nat.reduceBEq, Nat.reduceLT, Nat.reduceAdd, Nat.reduceLeDiff, Nat.reduceSub, Nat.reduceEqDiff, Int.reduceToNat, reduceCtorEq, ↓reduceIte]
   repeat' (first | refine And.intro ?_ ?_ | intro hg)
   all_goals (try simp (disch := omega) only [wrap_fits])
   all_goals first | (refine hK _ _ ?_; refine Red.trans (Red.nilAgg (t := 11) (j := 1) (.trips []) rfl rfl rfl) ?_; exact Red.auto) | exact al0 | exact al1
  have c0 := cm [17] (k_impl_GraphValid hr0)
  exact vs
 refine awp_if h ?_ ?_ <;> intro hc h
 ·cases h
 refine sk hK2 ?_
 refine rm [3, 4, 14] [(7, .v (.string (ByteArray.mk #[111, 107])))] [(16, .box [iV (y_6.getD 0 0), nV, .sl 7, .sl 8])] [] ?_
 refine nc 16 1 (.trips []) ?_
 exact fr [0, 1, 2, 3, 4, 5, 6, 7, 8, 9, 10, 11, 12, 13, 18]
theorem k_impl_Service_withGraph_v10 [T0] (a0_0 : Int) (a0_1 : List (Int × Int × Int)) (a0_2 : List Int) (a0_3 : List Int) (y_1 : Int) (y_2 : List (Int × Int × Int)) (y_3 : List Int) (y_4 : List Int) (y_6 : List Int) (y_11 : Int) (y_12 : List (Int × Int × Int)) (y_13 : Bool) {r : Int × ByteArray} (h : impl_Service_withGraph_v10 a0_0 a0_1 a0_2 a0_3 y_1 y_2 y_3 y_4 y_6 y_11 y_12 y_13 = some r) :
 FnA Tryz.prog 53 [.agg [iV y_1, .sl 6, .sl 7, .sl 8], .agg [iV y_11, .sl 14], bV y_13] [rT a0_1, rI a0_2, rI a0_3, .glob 0 (.ints .i64 tab0), .rbox [iV a0_0, .sl 0, .sl 1, .sl 2], .box [iV 0, nV, nV, nV], oT y_2, oI y_3, oI y_4, .rbox [iV y_1, .sl 6, .sl 7, .sl 8], .box [iV 0, nV, nV, nV], .rbox [iV y_1, .sl 6, .sl 7, .sl 8], .box [iV 0, nV, nV, nV], rI y_6, oT y_12] [] (fun x H => x = .tup [.agg [iV r.1, .sl 14, .sl 7, .sl 8], .v (.string r.2)] ∧ H = [rT a0_1, rI a0_2, rI a0_3, .glob 0 (.ints .i64 tab0), .rbox [iV a0_0, .sl 0, .sl 1, .sl 2], .box [iV 0, nV, nV, nV], oT y_2, oI y_3, oI y_4, .rbox [iV y_1, .sl 6, .sl 7, .sl 8], .box [iV 0, nV, nV, nV], .rbox [iV y_1, .sl 6, .sl 7, .sl 8], .box [iV 0, nV, nV, nV], rI y_6, oT y_12]) := by
 unfold impl_Service_withGraph_v10 at h
 refine FnA.ofA 20 [0, 1, 2, 3, 4, 5, 6, 7, 8, 9, 10, 11, 12, 13, 14] [.cell 6 35, .tmp 7] Tryz.func53 en53 ?_
 refine rm [0, 1] [(3, .pp 15 0), (4, .pp 16 0), (6, .pp 17 0)] [] [.box [iV y_1, .sl 6, .sl 7, .sl 8], .box [iV y_11, .sl 14], .box [iV 0, nV, nV, nV]] ?_
 refine fz 3 ?_
 refine fz 4 ?_
 refine awp_seq fun K2 hK2 => ?_
 replace ⟨y, hr0, h⟩ := bd h
 have c0 := cm [14] (fun g0 => k_impl_GraphValid (bite_t hr0 g0))
 refine rm [2] [(14, bV ((!y_13) || (!y)))] [] [] ?_
 refine awp_if h ?_ ?_ <;> intro hc h
 ·cases h
 refine sk hK2 ?_
 refine rm [3, 4, 14] [(7, .v (.string (ByteArray.mk #[111, 107])))] [(17, .box [iV y_11, .sl 14, .sl 7, .sl 8])] [] ?_
 exact fr [0, 1, 2, 3, 4, 5, 6, 7, 8, 9, 10, 11, 12, 13, 14]
theorem k_impl_Service_numbersLine_v9 [T0] (a0_0 : Int) (a0_1 : List (Int × Int × Int)) (a0_2 : List Int) (a0_3 : List Int) (y_1 : Int) (y_2 : List (Int × Int × Int)) (y_3 : List Int) (y_4 : List Int) (y : ByteArray) (y_5 : ByteArray) {r : Int × (List (Int × Int × Int)) × ByteArray} (h : impl_Service_numbersLine_v9 a0_0 a0_1 a0_2 a0_3 y_1 y_2 y_3 y_4 y y_5 = some r) :
 FnA Tryz.prog 43 [.agg [iV y_1, .sl 6, .sl 7, .sl 8], .v (.string y), .v (.string y_5)] [rT a0_1, rI a0_2, rI a0_3, .glob 0 (.ints .i64 tab0), .rbox [iV a0_0, .sl 0, .sl 1, .sl 2], .box [iV 0, nV, nV, nV], oT y_2, oI y_3, oI y_4, .rbox [iV y_1, .sl 6, .sl 7, .sl 8], .box [iV 0, nV, nV, nV]] [] (fun x H => x = .tup [.agg [iV r.1, .sl 11, .sl 7, .sl 8], .v (.string r.2.2)] ∧ H = [rT a0_1, rI a0_2, rI a0_3, .glob 0 (.ints .i64 tab0), .rbox [iV a0_0, .sl 0, .sl 1, .sl 2], .box [iV 0, nV, nV, nV], oT y_2, oI y_3, oI y_4, .rbox [iV y_1, .sl 6, .sl 7, .sl 8], .box [iV 0, nV, nV, nV], oT r.2.1]) := by
 unfold impl_Service_numbersLine_v9 at h
 refine FnA.ofA 66 [0, 1, 2, 3, 4, 5, 6, 7, 8, 9, 10] [.cell 6 35, .tmp 7] Tryz.func43 en43 ?_
 refine rm [0] [(3, .pp 11 0), (6, .pp 12 0)] [] [.box [iV y_1, .sl 6, .sl 7, .sl 8], .box [iV 0, nV, nV, nV]] ?_
 refine fz 3 ?_
 refine rg [] [(8, iV 1)] ?_
 refine awp_join h (fun t8 => [(1, .v (.string y)), (2, .v (.string y_5)), (3, .pp 11 0), (6, .pp 12 0), (8, iV t8)]) (fun t8 => [rT a0_1, rI a0_2, rI a0_3, .glob 0 (.ints .i64 tab0), .rbox [iV a0_0, .sl 0, .sl 1, .sl 2], .box [iV 0, nV, nV, nV], oT y_2, oI y_3, oI y_4, .rbox [iV y_1, .sl 6, .sl 7, .sl 8], .box [iV 0, nV, nV, nV], .rbox [iV y_1, .sl 6, .sl 7, .sl 8], .box [iV 0, nV, nV, nV]]) ?_ ?_
 ·intro k h
  refine rg [] [(12, bV (y.data.toList == (ByteArray.mk #[101, 100, 103, 101]).data.toList))] ?_
  refine awp_if h ?_ ?_ <;> intro hc h
  ·refine eg [8, 12] [(8, iV 3)] ?_
   exact jo
  refine awp_skip ?_
  exact jo
 rintro t8 h
 try dsimp only
 replace ⟨y_6, y_7, hr0, h⟩ := bd2 h
 refine rc [2, 8] [(9, .sl 13), (10, bV y_7)] [] [oI y_6] [⟨2, [3], k_impl_lineNumbers y_5 t8 (h := hr0)⟩] ?_
 refine awp_seq fun K4 hK4 => ?_
 refine rg [10] [(20, bV (!y_7))] ?_
 refine awp_if h ?_ ?_ <;> intro hc h
 ·cases h
 refine sk hK4 ?_
 refine awp_seq fun K8 hK8 => ?_
 refine rg [1, 20] [(22, .v (.string y))] ?_
 refine awp_block ?_
 refine rg [] [(23, bV (y.data.toList == (ByteArray.mk #[118, 101, 114, 116, 105, 99, 101, 115]).data.toList))] ?_
 refine awp_if h ?_ ?_ <;> intro hc h
 ·replace ⟨p, h⟩ := k1 h
  replace ⟨y_8, y_9, y_10, hr1, h⟩ := bd3 h
  have d0 := k_impl_Service_withGraph_v9 a0_0 a0_1 a0_2 a0_3 y_1 y_2 y_3 y_4 y_6 (h := hr1)
  refine dm (.free 1 (.free 0 (.one 2 (.one 3 (.one 4 (.one 5 (.free 6 (.one 7 (.one 8 (.one 9 .fin)))))))))) [3, 9, 22, 23] [(7, .v (.string y_10))] [(12, .box [iV y_8, .sl 14, .sl 7, .sl 8])] [oT y_9] ?_
  exact fr [0, 1, 2, 3, 4, 5, 6, 7, 8, 9, 10, 14]
 refine rg [22, 23] [(33, bV (y.data.toList == (ByteArray.mk #[101, 100, 103, 101]).data.toList))] ?_
 refine awp_if h ?_ ?_ <;> intro hc h
 ·refine awp_freezeRow 9 (by rfl) (by rfl) (by first | exact rfl | (simp only [List.map_cons, List.map_nil, List.set_cons_succ, List.set_cons_zero, AObj.unview, reduceCtorEq, ↓reduceIte, Nat.reduceEqDiff]; exact rfl)) ?_
  replace ⟨p, h⟩ := k3 h
  replace ⟨y_11, y_12, y_13, hr3, h⟩ := bd3 h
  replace ⟨y_14, y_15, hr4, h⟩ := bd2 h
  have c0 := cm [6] (k_impl_AddEdge hr3)
  have d0 := k_impl_Service_withGraph_v10 a0_0 a0_1 a0_2 a0_3 y_1 y_2 y_3 y_4 y_6 y_11 y_12 y_13 (h := hr4)
  refine dm (.free 1 (.free 3 (.free 4 (.free 6 (.free 7 (.free 9 (.free 10 (.free 0 (.free 2 (.free 5 (.free 8 (.one 11 (.one 12 (.one 13 (.free 14 (.one 15 (.one 16 (.free 17 (.one 18 (.one 19 (.one 20 .fin))))))))))))))))))))) [3, 9, 33] [(7, .v (.string y_15))] [(12, .box [iV y_14, .sl 14, .sl 7, .sl 8])] [oT y_12] ?_
  exact fr [0, 1, 2, 3, 4, 5, 6, 7, 8, 9, 10, 14]
 refine sk hK8 ?_
 cases h
theorem k_impl_Service_line_v9 [T0] (a0_0 : Int) (a0_1 : List (Int × Int × Int)) (a0_2 : List Int) (a0_3 : List Int) (a1 : ByteArray) (y_1 : Int) (y_2 : List (Int × Int × Int)) (y_3 : List Int) (y_4 : List Int) {r : Int × (List (Int × Int × Int)) × ByteArray} (h : impl_Service_line_v9 a0_0 a0_1 a0_2 a0_3 a1 y_1 y_2 y_3 y_4 = some r) :
 FnA Tryz.prog 25 [.agg [iV y_1, .sl 6, .sl 7, .sl 8], .v (.string a1)] [rT a0_1, rI a0_2, rI a0_3, .glob 0 (.ints .i64 tab0), .rbox [iV a0_0, .sl 0, .sl 1, .sl 2], .box [iV 0, nV, nV, nV], oT y_2, oI y_3, oI y_4] [] (fun x H => x = .tup [.agg [iV r.1, .sl 9, .sl 7, .sl 8], .v (.string r.2.2)] ∧ H = [rT a0_1, rI a0_2, rI a0_3, .glob 0 (.ints .i64 tab0), .rbox [iV a0_0, .sl 0, .sl 1, .sl 2], .box [iV 0, nV, nV, nV], oT y_2, oI y_3, oI y_4, oT r.2.1]) := by
 unfold impl_Service_line_v9 at h
 refine FnA.ofA 40 [0, 1, 2, 3, 4, 5, 6, 7, 8] [.cell 4 35, .tmp 5] Tryz.func25 en25 ?_
 refine rm [0] [(2, .pp 9 0), (4, .pp 10 0)] [] [.box [iV y_1, .sl 6, .sl 7, .sl 8], .box [iV 0, nV, nV, nV]] ?_
 refine fz 2 ?_
 replace ⟨y, y_5, y_6, hr0, h⟩ := bd3 h
 refine rc [1] [(6, .v (.string y)), (7, .v (.string y_5)), (8, bV y_6)] [] [] [⟨1, [3], k_strings_Cut a1 (ByteArray.mk #[32]) (h := hr0)⟩] ?_
 refine awp_seq fun K2 hK2 => ?_
 refine rg [8] [(16, bV (!y_6))] ?_
 refine awp_if h ?_ ?_ <;> intro hc h
 ·cases h
 refine sk hK2 ?_
 refine awp_seq fun K10 hK10 => ?_
 refine rg [16] [(22, .v (.string y))] ?_
 refine awp_block ?_
 refine rg [] [(23, bV (y.data.toList == (ByteArray.mk #[114, 117, 110]).data.toList))] ?_
 refine awp_if h ?_ ?_ <;> intro hc h
 ·cases h
 refine awp_join h (fun t29 => [(2, .pp 9 0), (4, .pp 10 0), (6, .v (.string y)), (7, .v (.string y_5)), (29, bV t29)]) (fun t29 => [rT a0_1, rI a0_2, rI a0_3, .glob 0 (.ints .i64 tab0), .rbox [iV a0_0, .sl 0, .sl 1, .sl 2], .box [iV 0, nV, nV, nV], oT y_2, oI y_3, oI y_4, .rbox [iV y_1, .sl 6, .sl 7, .sl 8], .box [iV 0, nV, nV, nV]]) ?_ ?_
 ·intro k h
  refine rg [23] [(29, bV (y.data.toList == (ByteArray.mk #[118, 101, 114, 116, 105, 99, 101, 115]).data.toList))] ?_
  refine awp_if h ?_ ?_ <;> intro hc h
  ·refine awp_skip ?_
   exact jo
  refine rg [29] [(29, bV (y.data.toList == (ByteArray.mk #[101, 100, 103, 101]).data.toList))] ?_
  refine awp_if h ?_ ?_ <;> intro hc h
  ·refine awp_skip ?_
   exact jo
  refine eg [22, 29] [(29, bV (y.data.toList == (ByteArray.mk #[100, 114, 111, 112]).data.toList))] ?_
  exact jo
 rintro t29 h
 try dsimp only
 refine awp_if h ?_ ?_ <;> intro hc h
 ·replace ⟨y_7, y_8, y_9, hr0, h⟩ := bd3 h
  have d0 := k_impl_Service_numbersLine_v9 a0_0 a0_1 a0_2 a0_3 y_1 y_2 y_3 y_4 y y_5 (h := hr0)
  refine rm [2, 6, 7, 29] [(5, .v (.string y_9))] [(10, .box [iV y_7, .sl 11, .sl 7, .sl 8])] [oT y_8] ?_
  exact fr [0, 1, 2, 3, 4, 5, 6, 7, 8, 11]
 refine sk hK10 ?_
 cases h
theorem k_impl_ServiceLine [T0] (a0_0 : Int) (a0_1 : List (Int × Int × Int)) (a0_2 : List Int) (a0_3 : List Int) (a1 : ByteArray) {r : Int × (List (Int × Int × Int)) × List Int × List Int × ByteArray} (h : impl_ServiceLine a0_0 a0_1 a0_2 a0_3 a1 = some r) :
 FnA Tryz.prog 10 [.agg [iV a0_0, .sl 0, .sl 1, .sl 2], .v (.string a1)] [rT a0_1, rI a0_2, rI a0_3, .glob 0 (.ints .i64 tab0)] [] (fun x H => x = .tup [.agg [iV r.1, .sl 4, .sl 5, .sl 6], .v (.string r.2.2.2.2)] ∧ H = [rT a0_1, rI a0_2, rI a0_3, .glob 0 (.ints .i64 tab0), oT r.2.1, oI r.2.2.1, oI r.2.2.2.1]) := by
 unfold impl_ServiceLine at h
 refine FnA.ofA 16 [0, 1, 2, 3] [.cell 4 35, .tmp 5] Tryz.func10 en10 ?_
 refine rm [0] [(2, .pp 4 0), (4, .pp 5 0)] [] [.box [iV a0_0, .sl 0, .sl 1, .sl 2], .box [iV 0, nV, nV, nV]] ?_
 refine fz 2 ?_
 refine awp_seq fun K2 hK2 => ?_
 replace ⟨y, hr0, h⟩ := bd h
 refine rc [] [(8, bV (!y))] [] [] [⟨1, [0, 1, 2], k_impl_ServiceValid hr0⟩] ?_
 refine awp_if h ?_ ?_ <;> intro hc h
 ·cases h
 refine sk hK2 ?_
 replace ⟨y_1, y_2, y_3, y_4, hr0, h⟩ := bd4 h
 replace ⟨y_5, y_6, y_7, hr1, h⟩ := bd3 h
 have c0 := cm [0, 1, 2] (k_impl_Service_copied hr0)
 have d0 := k_impl_Service_line_v9 a0_0 a0_1 a0_2 a0_3 a1 y_1 y_2 y_3 y_4 (h := hr1)
 refine rm [1, 2, 8] [(5, .v (.string y_7))] [(5, .box [iV y_5, .sl 9, .sl 7, .sl 8])] [oT y_2, oI y_3, oI y_4, oT y_6] ?_
 exact fr [0, 1, 2, 3, 9, 7, 8]
theorem k_laws_FnServiceGraph [T0] (a0 : List Int) {r : Bool} (h : laws_FnServiceGraph a0 = some r) :
 FnA Tryz.prog 3 [.sl 0] [rY a0, .glob 0 (.ints .i64 tab0)] [] (fun x H => x = bV r ∧ H = [rY a0, .glob 0 (.ints .i64 tab0)]) := by
 unfold laws_FnServiceGraph at h
 refine FnA.ofA 153 [0, 1] [.tmp 2] Tryz.func3 en3 ?_
 refine rg [] [] ?_
 refine awp_seq fun K2 hK2 => ?_
 refine rg [] [(14, bV (decide (1048576 < (a0.length : Int))))] ?_
 refine awp_if h ?_ ?_ <;> intro hc h
 ·refine rg [0, 14] [(2, bV true)] ?_
  exact fr [0, 1]
 refine sk hK2 ?_
 replace ⟨y, y_1, hr0, h⟩ := bd2 h
 refine rc [0, 14] [(3, .pp 3 0)] [] [oT y_1, .box [iV y, .sl 2]] [⟨1, [0], k_spec_DrawGraphBytes hr0⟩] ?_
 refine awp_seq fun K5 hK5 => ?_
 replace ⟨y_2, hr0, h⟩ := bd h
 replace ⟨y_3, hr1, h⟩ := bd h
 replace ⟨y_4, hr2, h⟩ := bd h
 have c0 := cm [2] (k_impl_GraphBytes hr0)
 have c1 := cm [2] (k_spec_GraphBytes hr1)
 have c2 := cm [4, 5] (k_laws_sameInts hr2)
 refine dm (.two 0 2 (.two 1 2 (.one 2 (.one 3 (.one 4 (.one 5 .fin)))) (.one 1 (.one 3 (.one 4 (.one 5 .fin))))) (.one 0 (.one 1 (.one 3 (.one 4 (.one 5 .fin)))))) [] [(22, bV (!y_4))] [] [oI y_2, oI y_3] ?_
 refine awp_if h ?_ ?_ <;> intro hc h
 ·refine rg [3, 22] [(2, bV false)] ?_
  exact fr [0, 1]
 refine sk hK5 ?_
 refine awp_seq fun K8 hK8 => ?_
 replace ⟨y_5, hr0, h⟩ := bd h
 have c0 := cm [2] (k_spec_GraphValid hr0)
 refine rm [22] [(30, bV ((!y_5) || (decide (9 < y))))] [] [] ?_
 refine awp_if h ?_ ?_ <;> intro hc h
 ·replace ⟨y_6, hr0, h⟩ := bd h
  refine rc [3, 30] [(2, bV y_6)] [] [] [⟨0, [], k_laws_alive  (h := hr0)⟩] ?_
  exact fr [0, 1]
 refine sk hK8 ?_
 replace ⟨p, h⟩ := k2 h
 replace ⟨y_7, y_8, y_9, y_10, y_11, hr2, h⟩ := bd5 h
 refine awp_t [30] [(4, .pp 13 0), (5, .v (.string y_11))] [] [.row true (.ints .u8 [(IntKind.u8.wrap (48 + y))]), oT [], oI [], oI [], oT y_8, oI y_9, oI y_10, .box [iV y_7, .sl 10, .sl 11, .sl 12]] ?_ ?_
 ·intro K hK
  refine awp_regionA ?_
  refine wpA_cutAt 8 [(3, .pp 3 0), (30, bV ((!y_5) || (decide (9 < y)))), (33, .agg [iV 0, .sl 7, .sl 8, .sl 9]), (34, .pp 3 0), (35, iV y), (36, iV (48 + y)), (37, .v (.int .u8 (IntKind.u8.wrap (48 + y)))), (38, .sl 6), (39, .v (.string (strOfNums [(IntKind.u8.wrap (48 + y))]))), (40, .v (.string ((ByteArray.mk #[118, 101, 114, 116, 105, 99, 101, 115, 32]) ++ (strOfNums [(IntKind.u8.wrap (48 + y))]))))] [rY a0, .glob 0 (.ints .i64 tab0), oT y_1, .box [iV y, .sl 2], oI y_2, oI y_3, .row true (.ints .u8 [(IntKind.u8.wrap (48 + y))]), oT [], oI [], oI []] ?_ ?_
  ·clear hK K
   intro K hK
   refine vcOps_sound ftCOk ?_
   simp (maxSteps := 4000000) only [go_sem, Nat.reduceBEq, Nat.reduceLT, Nat.reduceAdd, Nat.reduceLeDiff, Nat.reduceSub, Nat.reduceEqDiff, Int.reduceToNat, reduceCtorEq, ↓reduceIte]
   repeat' (first | refine And.intro ?_ ?_ | intro hg)
   all_goals (try simp (disch := omega) only [wrap_fits])
   all_goals first | (refine hK _ _ ?_; refine Red.trans (Red.nilAgg (t := 33) (j := 1) (.trips []) rfl rfl rfl) ?_; refine Red.trans (Red.nilAgg (t := 33) (j := 2) (.ints .i64 []) rfl rfl rfl) ?_; refine Red.trans (Red.nilAgg (t := 33) (j := 3) (.ints .i64 []) rfl rfl rfl) ?_; exact Red.auto) | exact al0 | exact al1
  have c0 := cm [7, 8, 9, 1] (k_impl_ServiceLine 0 [] [] [] ((ByteArray.mk #[118, 101, 114, 116, 105, 99, 101, 115, 32]) ++ (strOfNums [(IntKind.u8.wrap (48 + y))])) (h := hr2))
  exact vs
 refine awp_seq fun K11 hK11 => ?_
 refine rg [5] [(45, bV (!(y_11.data.toList == (ByteArray.mk #[111, 107]).data.toList)))] ?_
 refine awp_if h ?_ ?_ <;> intro hc h
 ·refine rg [3, 4, 45] [(2, bV false)] ?_
  exact fr [0, 1]
 refine sk hK11 ?_
 refine awp_seq fun K44 hK44 => ?_
 refine rg [45] [(6, iV 0)] ?_
 refine awp_block ?_
 refine lp2 h (fun (t6, t4_0, t4_1s, t4_2s, t4_3s) => [(3, .pp 2 0), (4, .pp 4 0), (6, iV t6)]) (fun (t6, t4_0, t4_1s, t4_2s, t4_3s) => [rY a0, .glob 0 (.ints .i64 tab0), .box [iV y, .sl 3], oT y_1, .box [iV t4_0, .sl 5, .sl 6, .sl 7], oT t4_1s, oI t4_2s, oI t4_3s]) (fun _ => Exit.exit 0) (fun (t4_0_1, t4_1s_1, t4_2s_1, t4_3s_1) => [(3, .pp 2 0), (4, .pp 4 0)]) (fun (t4_0_1, t4_1s_1, t4_2s_1, t4_3s_1) => [rY a0, .glob 0 (.ints .i64 tab0), .box [iV y, .sl 3], oT y_1, .box [iV t4_0_1, .sl 5, .sl 6, .sl 7], oT t4_1s_1, oI t4_2s_1, oI t4_3s_1]) (fun _ => Exit.ret) (fun _ => [(2, bV false)]) (fun _ => [rY a0, .glob 0 (.ints .i64 tab0)]) ?_ ?_ ?_ (h0 := Red.selA [0, 1, 3, 2, 13, 10, 11, 12] Red.auto)
 ·rintro ⟨t6, t4_0, t4_1s, t4_2s, t4_3s⟩ r h
  unfold laws_FnServiceGraph_b0 at h
  try dsimp only
  refine awp_seq fun K66 hK66 => ?_
  refine rg [] [(50, bV (decide (t6 < (y_1.length : Int))))] ?_
  refine awp_if h ?_ ?_ <;> intro hc h
  ·refine sk hK66 ?_
   refine awp_seq fun K71 hK71 => ?_
   refine awp_block ?_
   replace ⟨p, h⟩ := k1 h
   refine rm [50] [(7, .pp 8 0)] [] [.box [iV ((y_1.getD t6.toNat (0, 0, 0)).1), iV ((y_1.getD t6.toNat (0, 0, 0)).2.1), iV ((y_1.getD t6.toNat (0, 0, 0)).2.2)]] ?_
   replace ⟨p, h⟩ := k5 h
   refine rm [7] [(8, .v (.string ((ByteArray.mk #[101, 100, 103, 101, 32]) ++ (strOfNums [(IntKind.u8.wrap (48 + (y_1.getD t6.toNat (0, 0, 0)).1)), 32, (IntKind.u8.wrap (48 + (y_1.getD t6.toNat (0, 0, 0)).2.1)), 32, (IntKind.u8.wrap (48 + ((y_1.getD t6.toNat (0, 0, 0)).2.2 % 10)))]))))] [] [.row true (.ints .u8 [(IntKind.u8.wrap (48 + (y_1.getD t6.toNat (0, 0, 0)).1)), 32, (IntKind.u8.wrap (48 + (y_1.getD t6.toNat (0, 0, 0)).2.1)), 32, (IntKind.u8.wrap (48 + ((y_1.getD t6.toNat (0, 0, 0)).2.2 % 10)))])] ?_
   replace ⟨y_12, y_13, y_14, y_15, y_16, hr0, h⟩ := bd5 h
   refine rc [8] [(9, .pp 13 0), (10, .v (.string y_16))] [] [oT y_13, oI y_14, oI y_15, .box [iV y_12, .sl 10, .sl 11, .sl 12]] [⟨2, [5, 6, 7, 1], k_impl_ServiceLine t4_0 t4_1s t4_2s t4_3s ((ByteArray.mk #[101, 100, 103, 101, 32]) ++ (strOfNums [(IntKind.u8.wrap (48 + (y_1.getD t6.toNat (0, 0, 0)).1)), 32, (IntKind.u8.wrap (48 + (y_1.getD t6.toNat (0, 0, 0)).2.1)), 32, (IntKind.u8.wrap (48 + ((y_1.getD t6.toNat (0, 0, 0)).2.2 % 10)))])) (h := hr0)⟩] ?_
   refine awp_seq fun K73 hK73 => ?_
   refine rg [10] [(81, bV (!(y_16.data.toList == (ByteArray.mk #[111, 107]).data.toList)))] ?_
   refine awp_if h ?_ ?_ <;> intro hc h
   ·refine rg [3, 4, 6, 9, 81] [(2, bV false)] ?_
    exact lors [0, 1]
   refine sk hK73 ?_
   refine em [9, 81] [] [(4, .box [iV y_12, .sl 10, .sl 11, .sl 12])] [] ?_
   refine hK71 _ _ ?_
   replace ⟨p, h⟩ := k1 h
   refine eg [6] [(6, iV (t6 + 1))] ?_
   exact lns [0, 1, 2, 3, 4, 10, 11, 12]
  exact lo
 ·rintro ⟨t4_0_1, t4_1s_1, t4_2s_1, t4_3s_1⟩ h
  try dsimp only
  refine hK44 _ _ ?_
  refine awp_seq fun K77 hK77 => ?_
  refine rg [] [(98, bV (((t4_1s_1.length : Int) != (y_1.length : Int)) || (t4_0_1 != y)))] ?_
  refine awp_if h ?_ ?_ <;> intro hc h
  ·refine rg [3, 4, 98] [(2, bV false)] ?_
   exact fr [0, 1]
  refine sk hK77 ?_
  refine awp_seq fun K98 hK98 => ?_
  refine rg [98] [(11, iV 0)] ?_
  refine awp_block ?_
  refine lp2 h (fun t11 => [(3, .pp 2 0), (4, .pp 4 0), (11, iV t11)]) (fun t11 => [rY a0, .glob 0 (.ints .i64 tab0), .box [iV y, .sl 3], oT y_1, .box [iV t4_0_1, .sl 5, .sl 6, .sl 7], oT t4_1s_1, oI t4_2s_1, oI t4_3s_1]) (fun _ => Exit.exit 2) (fun _ => []) (fun _ => [rY a0, .glob 0 (.ints .i64 tab0)]) (fun _ => Exit.ret) (fun _ => [(2, bV false)]) (fun _ => [rY a0, .glob 0 (.ints .i64 tab0)]) ?_ ?_ ?_
  ·rintro t11 r h
   unfold laws_FnServiceGraph_b1 at h
   try dsimp only
   refine awp_seq fun K112 hK112 => ?_
   refine rg [] [(103, bV (decide (t11 < (y_1.length : Int))))] ?_
   refine awp_if h ?_ ?_ <;> intro hc h
   ·refine sk hK112 ?_
    refine awp_seq fun K115 hK115 => ?_
    refine awp_block ?_
    replace ⟨⟨_, _, hp2, hp3, hp4, hp5, hp6⟩, h⟩ := k7 h
    refine qm [103] [(152, bV ((((t4_1s_1.getD t11.toNat (0, 0, 0)).1 != (y_1.getD t11.toNat (0, 0, 0)).1) || ((t4_1s_1.getD t11.toNat (0, 0, 0)).2.1 != (y_1.getD t11.toNat (0, 0, 0)).2.1)) || ((t4_1s_1.getD t11.toNat (0, 0, 0)).2.2 != ((y_1.getD t11.toNat (0, 0, 0)).2.2 % 10))))] [] [] ?_
    refine awp_if h ?_ ?_ <;> intro hc h
    ·refine rg [3, 4, 11, 152] [(2, bV false)] ?_
     exact lors [0, 1]
    refine sk hK115 ?_
    replace ⟨p, h⟩ := k1 h
    refine eg [11, 152] [(11, iV (t11 + 1))] ?_
    exact ln
   exact los [0, 1]
  ·rintro ⟨⟩ h
   try dsimp only
   refine hK98 _ _ ?_
   refine rg [] [(2, bV true)] ?_
   exact fr [0, 1]
  rintro ⟨⟩ h
  try dsimp only
  exact fr [0, 1]
 rintro ⟨⟩ h
 try dsimp only
 exact fr [0, 1]
end Go.Proofs.YtbhbaijbdciafaaGreatDoor
