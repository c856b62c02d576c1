/- The code computes the functions that were taken out of it. -/
import Derived.Test.YtoohhgembcdhpaaGreatLw1
set_option maxRecDepth 100000
set_option maxHeartbeats 4000000
set_option linter.unusedSimpArgs false
set_option linter.unusedVariables false
namespace Go.Proofs.YtoohhgembcdhpaaGreat
open Go Go.Av
attribute [local irreducible] wpA OpK awp OpKI
theorem k_spec_StepState {a0_0 a0_1 a1_0 a1_1 a1_2 a2_0 a2_1 a2_2 a2_3 r} (h : spec_StepState a0_0 a0_1 a1_0 a1_1 a1_2 a2_0 a2_1 a2_2 a2_3 = some r) : KA Tryz.prog 28 [.agg [iV a0_0, .sl 0], .agg [iV a1_0, iV a1_1, iV a1_2], .agg [iV a2_0, .sl 1, .sl 2, .sl 3]] [rT a0_1, rI a2_1, rB a2_2, rT a2_3] (.tup [.agg [iV r.1, .sl 4, .sl 5, .sl 6], bV r.2.2.2.2]) [rT a0_1, rI a2_1, rB a2_2, rT a2_3, oI r.2.1, oB r.2.2.1, oT r.2.2.2.1] := by
 unfold spec_StepState at h
 refine FnA.ofA 63 [0, 1, 2, 3] [.cell 6 38, .tmp 7] Tryz.func28 en28 ?_
 refine rm [0, 1, 2] [(3, .pp 4 0), (4, .pp 5 0), (5, .pp 6 0), (6, .pp 7 0)] [] [.box [iV a0_0, .sl 0], .box [iV a1_0, iV a1_1, iV a1_2], .box [iV a2_0, .sl 1, .sl 2, .sl 3], .box [iV 0, nV, nV, nV]] ?_
 refine fz 4 ?_
 replace ⟨y, y_1, hr0, h⟩ := bd2 h
 refine rc [] [] [(4, .box [iV y, .sl 8])] [oT y_1] [⟨1, [0], k_spec_l1OwnGraph hr0⟩] ?_
 replace ⟨y_2, y_3, y_4, y_5, hr0, h⟩ := bd4 h
 refine rc [] [] [(6, .box [iV y_2, .sl 9, .sl 10, .sl 11])] [oI y_3, oB y_4, oT y_5] [⟨1, [1, 2, 3], k_spec_l1OwnState hr0⟩] ?_
 refine awp_seq fun K2 hK2 => ?_
 replace ⟨y_6, hr0, h⟩ := bd h
 replace ⟨y_7, hr1, h⟩ := bd h
 replace ⟨y_8, hr2, h⟩ := bd h
 refine awp_t [] [(30, bV (((!y_6) || (!y_7)) || (!y_8)))] [] [] ?_ ?_
 ·intro K hK
  refine awp_regionA ?_
  have c0 := cm [8] (k_spec_GraphValid hr0)
  have c1 := cm [] (fun g0 => k_spec_ProgramValid (bite_t hr1 g0))
  refine wc 8 [(3, .pp 4 0), (4, .pp 5 0), (5, .pp 6 0), (6, .pp 7 0), (23, bV ((!y_6) || (!y_7)))] [rT a0_1, rI a2_1, rB a2_2, rT a2_3, .box [iV y, .sl 8], .rbox [iV a1_0, iV a1_1, iV a1_2], .box [iV y_2, .sl 9, .sl 10, .sl 11], .box [iV 0, nV, nV, nV], oT y_1, oI y_3, oB y_4, oT y_5] ?_
  have c0 := cm [9, 10, 11] (fun g0 => k_spec_StateValid (bite_t hr2 g0))
  exact vs
 refine awp_if h ?_ ?_ <;> intro hc h
 ·refine rg [3, 4, 5, 30] [(7, bV false)] ?_
  refine nc 7 1 (.ints .i64 []) ?_
  refine nc 7 2 (.bools []) ?_
  refine nc 7 3 (.trips []) ?_
  exact fr [0, 1, 2, 3, 12, 13, 14]
 refine sk hK2 ?_
 refine awp_freeze 3 (by rfl) (by rfl) (by first | exact rfl | (simp only [List.map_cons, List.map_nil, List.set_cons_succ, List.set_cons_zero, AObj.unview, reduceCtorEq, ↓reduceIte, Nat.reduceEqDiff]; exact rfl)) ?_
 refine awp_freeze 5 (by rfl) (by rfl) (by first | exact rfl | (simp only [List.map_cons, List.map_nil, List.set_cons_succ, List.set_cons_zero, AObj.unview, reduceCtorEq, ↓reduceIte, Nat.reduceEqDiff]; exact rfl)) ?_
 replace ⟨y_9, hr0, h⟩ := bd h
 replace ⟨y_10, y_11, y_12, hr1, h⟩ := bd3 h
 have c0 := cm [] (k_spec_l11All hr0)
 have c1 := cm [8, 9, 10, 11, 12] (k_spec_l11Some hr1)
 refine dm (.free 3 (.free 0 (.free 1 (.free 2 (.one 4 (.one 5 (.one 6 (.one 7 (.free 8 (.free 9 (.free 10 (.one 11 (.one 12 (.one 13 .fin)))))))))))))) [4, 30] [(8, .sl 13), (9, .sl 14), (10, .sl 15)] [] [oI y_9, oI y_10, oB y_11, oT y_12] ?_
 replace ⟨p, h⟩ := k1 h
 replace ⟨y_13, hr1, h⟩ := bd h
 refine awp_t [5, 8, 9] [(11, .pp 17 0)] [] [oT y_13, .box [iV (y_2 + 1), .sl 13, .sl 14, .sl 16]] ?_ ?_
 ·intro K hK
  refine dM [0, 1, 2, 3, 4, 5, 6, 7, 8, 9, 10, 11, 12, 13, 14, 15] [0, 3, 4, 5, 1, 2] 4 (bt 10 63) fun L hL hN => ?_
  refine hN.node L 0 (bt 10 1023) 16 [] [(11, .pp 17 0), (43, .pp 6 0), (44, iV y_2), (45, iV (y_2 + 1)), (46, .sl 13), (47, .sl 14), (48, .sl 15), (49, .sl 16), (50, .agg [iV (y_2 + 1), .sl 13, .sl 14, .sl 16])] [] [oT y_13, .box [iV (y_2 + 1), .sl 13, .sl 14, .sl 16]] ?_ fun n3 hN => ?_
  ·exact hL.fin (by kernel_rfl) (hK _ _ Red.auto)
  refine hN.node L 1 (bt 10 511) 18 [] [] [(17, .box [iV 0, nV, nV, nV])] [] ?_ fun n2 hN => ?_
  ·refine st hL [(9, [], 0, (bt 10 1023))] ⟨?_, trivial⟩
   exact hL.edge n3
  refine hN.node L 2 (bt 10 255) 17 [11] [] [] [] ?_ fun n1 hN => ?_
  ·refine st hL [(8, [], 1, (bt 10 511))] ⟨?_, trivial⟩
   exact hL.edge n2
  refine hN.node L 3 (bt 10 319) 17 [49, 50] [(11, .pp 16 0)] [(16, .box [iV 0, nV, nV, nV])] [] ?_ fun n4 hN => ?_
  ·refine st hL [(6, [7], 1, (bt 10 511))] ⟨?_, trivial⟩
   have nn := n2
   have ns := cm [0, 1, 2, 3, 4, 5, 6, 7, 8, 9, 10, 11, 12, 13, 14, 15, 17, 16] trivial
   have c0 := cm [15] (k_spec_SortMessages hr1)
   exact vn
  refine hN.node L 4 (bt 10 63) 16 [11] [] [] [] ?_ fun n0 hN => ?_
  ·refine st hL [(6, [7], 2, (bt 10 255)), (8, [], 3, (bt 10 319))] ⟨?_, ?_, trivial⟩
   ·have nn := n1
    have c0 := cm [15] (k_spec_SortMessages hr1)
    exact vn
   exact hL.edge n4
  have nn := n0
  exact au5
 refine awp_seq fun K5 hK5 => ?_
 replace ⟨y_14, hr0, h⟩ := bd h
 have c0 := cm [13, 14, 16] (fun g0 => k_spec_StateValid (bite_t hr0 g0))
 refine rm [3, 10] [(60, bV ((decide (2000 < (y_12.length : Int))) || (!y_14)))] [] [] ?_
 refine awp_if h ?_ ?_ <;> intro hc h
 ·refine rg [11, 60] [(7, bV false)] ?_
  refine nc 7 1 (.ints .i64 []) ?_
  refine nc 7 2 (.bools []) ?_
  refine nc 7 3 (.trips []) ?_
  exact fr [0, 1, 2, 3, 18, 19, 20]
 refine sk hK5 ?_
 refine rm [11, 60] [(7, bV true)] [(7, .box [iV (y_2 + 1), .sl 13, .sl 14, .sl 16])] [] ?_
 exact fr [0, 1, 2, 3, 13, 14, 16]
theorem k_spec_l20Messages {a0_0 a0_1 a1 r} (h : spec_l20Messages a0_0 a0_1 a1 = some r) : KA Tryz.prog 76 [.pp 0 0, iV a1] [.box [.sl 1, iV a0_1], rY a0_0] (.sl 2) [.box [.sl 1, iV r.2], rY a0_0, oT r.1] := by
 unfold spec_l20Messages at h
 refine FnA.ofA 31 [0, 1] [.tmp 4] Tryz.func76 en76 ?_
 refine rg [] [] ?_
 refine rm [] [(5, .sl 2)] [] [oT []] ?_
 refine awp_seq fun K14 hK14 => ?_
 replace ⟨y, y_1, hr0, h⟩ := bd2 h
 refine rc [] [(6, iV y)] [(0, .box [.sl 1, iV y_1])] [] [⟨1, [0, 1], k_spec_l20Rd_pick hr0⟩] ?_
 refine awp_block ?_
 refine lp h (fun (t6, p0_1, t5s) => [(0, .pp 0 0), (1, iV a1), (5, .sl 2), (6, iV t6)]) (fun (t6, p0_1, t5s) => [.box [.sl 1, iV p0_1], rY a0_0, oT t5s]) (fun _ => Exit.exit 0) (fun (p0_1_1, t5s_1) => [(5, .sl 2)]) (fun (p0_1_1, t5s_1) => [.box [.sl 1, iV p0_1_1], rY a0_0, oT t5s_1]) ?_ ?_
 ·rintro ⟨t6, p0_1, t5s⟩ r h
  unfold spec_l20Messages_b0 at h
  try dsimp only
  refine awp_seq fun K24 hK24 => ?_
  refine rg [] [(15, bV ((decide (0 < t6)) && (decide (0 < a1))))] ?_
  refine awp_if h ?_ ?_ <;> intro hc h
  ·refine sk hK24 ?_
   refine awp_seq fun K26 hK26 => ?_
   refine awp_block ?_
   replace ⟨y_2, y_3, hr0, h⟩ := bd2 h
   replace ⟨y_4, y_5, hr1, h⟩ := bd2 h
   replace ⟨y_6, y_7, hr2, h⟩ := bd2 h
   replace ⟨p, h⟩ := k1 h
   refine ec [15] [] [(0, .box [.sl 1, iV y_7]), (1, oT (t5s ++ [(y_2, y_4, y_6)]))] [oT [(y_2, y_4, y_6)]] [⟨3, [0, 1], k_spec_l20Rd_pick hr0⟩, ⟨1, [0, 1], k_spec_l20Rd_pick hr1⟩, ⟨2, [0, 1], k_spec_l20Rd_pick hr2⟩] ?_
   refine hK26 _ _ ?_
   replace ⟨p, h⟩ := k1 h
   refine eg [6] [(6, iV (t6 - 1))] ?_
   exact lns [0, 1, 2]
  exact lo
 rintro ⟨p0_1_1, t5s_1⟩ h
 try dsimp only
 refine hK14 _ _ ?_
 refine rg [5] [(4, .sl 2)] ?_
 exact fr [0, 1, 2]
theorem k_spec_l20State {a0_0 a0_1 a1_0 a1_1 a2_0 a2_1 a2_2 a3 r} (h : spec_l20State a0_0 a0_1 a1_0 a1_1 a2_0 a2_1 a2_2 a3 = some r) : KA Tryz.prog 37 [.pp 0 0, .agg [iV a1_0, .sl 2], .agg [iV a2_0, iV a2_1, iV a2_2], iV a3] [.box [.sl 1, iV a0_1], rY a0_0, rT a1_1] (.agg [iV r.1, .sl 3, .sl 4, .sl 5]) [.box [.sl 1, iV r.2.2.2.2], rY a0_0, rT a1_1, oI r.2.1, oB r.2.2.1, oT r.2.2.2.1] := by
 unfold spec_l20State at h
 refine FnA.ofA 82 [0, 1, 2] [.cell 8 38] Tryz.func37 en37 ?_
 refine rm [1, 2] [(5, .pp 3 0), (6, .pp 4 0), (8, .pp 5 0)] [] [.box [iV a1_0, .sl 2], .box [iV a2_0, iV a2_1, iV a2_2], .box [iV 0, nV, nV, nV]] ?_
 refine fz 5 ?_
 refine fz 6 ?_
 replace ⟨y, y_1, y_2, y_3, hr0, h⟩ := bd4 h
 refine rc [] [(9, .pp 9 0)] [] [oI y_1, oB y_2, oT y_3, .box [iV y, .sl 6, .sl 7, .sl 8]] [⟨4, [], k_spec_StartState hr0⟩] ?_
 refine awp_seq fun K17 hK17 => ?_
 replace ⟨y_4, y_5, hr0, h⟩ := bd2 h
 refine rc [] [(10, iV y_4)] [(0, .box [.sl 1, iV y_5])] [] [⟨1, [0, 1], k_spec_l20Rd_pick hr0⟩] ?_
 refine awp_block ?_
 refine lp h (fun (t10, t9_0, t9_1s, t9_2s, t9_3s) => [(0, .pp 0 0), (3, iV a3), (5, .pp 3 0), (6, .pp 4 0), (8, .pp 5 0), (9, .pp 6 0), (10, iV t10)]) (fun (t10, t9_0, t9_1s, t9_2s, t9_3s) => [.box [.sl 1, iV y_5], rY a0_0, rT a1_1, .rbox [iV a1_0, .sl 2], .rbox [iV a2_0, iV a2_1, iV a2_2], .box [iV 0, nV, nV, nV], .box [iV t9_0, .sl 7, .sl 8, .sl 9], oI t9_1s, oB t9_2s, oT t9_3s]) (fun _ => Exit.exit 0) (fun (t9_0_1, t9_1s_1, t9_2s_1, t9_3s_1) => [(0, .pp 0 0), (3, iV a3), (8, .pp 3 0), (9, .pp 4 0)]) (fun (t9_0_1, t9_1s_1, t9_2s_1, t9_3s_1) => [.box [.sl 1, iV y_5], rY a0_0, rT a1_1, .box [iV 0, nV, nV, nV], .box [iV t9_0_1, .sl 5, .sl 6, .sl 7], oI t9_1s_1, oB t9_2s_1, oT t9_3s_1]) ?_ ?_ (h0 := Red.selA [0, 1, 2, 3, 4, 5, 9, 6, 7, 8] Red.auto)
 ·rintro ⟨t10, t9_0, t9_1s, t9_2s, t9_3s⟩ r h
  unfold spec_l20State_b0 at h
  try dsimp only
  refine awp_seq fun K29 hK29 => ?_
  refine rg [] [(21, bV (decide (0 < t10)))] ?_
  refine awp_if h ?_ ?_ <;> intro hc h
  ·refine sk hK29 ?_
   refine awp_join h (fun (t9_0_2, t9_1s_2, t9_2s_2, t9_3s_2) => [(0, .pp 0 0), (3, iV a3), (5, .pp 3 0), (6, .pp 4 0), (8, .pp 5 0), (9, .pp 6 0), (10, iV t10)]) (fun (t9_0_2, t9_1s_2, t9_2s_2, t9_3s_2) => [.box [.sl 1, iV y_5], rY a0_0, rT a1_1, .rbox [iV a1_0, .sl 2], .rbox [iV a2_0, iV a2_1, iV a2_2], .box [iV 0, nV, nV, nV], .box [iV t9_0_2, .sl 7, .sl 8, .sl 9], oI t9_1s_2, oB t9_2s_2, oT t9_3s_2]) ?_ ?_
   ·intro k h
    refine awp_block ?_
    replace ⟨y_6, y_7, y_8, y_9, y_10, hr0, h⟩ := bd5 h
    refine rc [21] [(11, .pp 13 0), (12, bV y_10)] [] [oI y_7, oB y_8, oT y_9, .box [iV y_6, .sl 10, .sl 11, .sl 12]] [⟨3, [2, 7, 8, 9], k_spec_StepState hr0⟩] ?_
    refine rg [12] [(31, bV y_10)] ?_
    refine awp_if h ?_ ?_ <;> intro hc h
    ·refine em [11, 31] [] [(6, .box [iV y_6, .sl 10, .sl 11, .sl 12])] [] ?_
     exact jos [0, 1, 2, 3, 4, 5, 6, 10, 11, 12]
    refine awp_skip ?_
    exact jos [0, 1, 2, 3, 4, 5, 6, 7, 8, 9]
   rintro ⟨t9_0_2, t9_1s_2, t9_2s_2, t9_3s_2⟩ h
   try dsimp only
   replace ⟨p, h⟩ := k1 h
   refine eg [10] [(10, iV (t10 - 1))] ?_
   exact ln
  exact los [0, 1, 2, 5, 6, 7, 8, 9]
 rintro ⟨t9_0_1, t9_1s_1, t9_2s_1, t9_3s_1⟩ h
 try dsimp only
 refine hK17 _ _ ?_
 refine awp_join h (fun (p0_1, t9_3s_3) => [(0, .pp 0 0), (3, iV a3), (8, .pp 3 0), (9, .pp 4 0)]) (fun (p0_1, t9_3s_3) => [.box [.sl 1, iV p0_1], rY a0_0, rT a1_1, .box [iV 0, nV, nV, nV], .box [iV t9_0_1, .sl 5, .sl 6, .sl 7], oI t9_1s_1, oB t9_2s_1, oT t9_3s_3]) ?_ ?_
 ·intro k_1 h
  replace ⟨y_11, y_12, hr0, h⟩ := bd2 h
  refine rc [] [(35, bV (y_11 == 0))] [(0, .box [.sl 1, iV y_12])] [] [⟨1, [0, 1], k_spec_l20Rd_pick hr0⟩] ?_
  refine awp_if h ?_ ?_ <;> intro hc h
  ·replace ⟨p, h⟩ := k1 h
   replace ⟨y_13, y_14, hr1, h⟩ := bd2 h
   replace ⟨pa, h⟩ := k1 h
   replace ⟨y_15, hr3, h⟩ := bd h
   refine awp_tE [35] [] [(0, .box [.sl 1, iV y_14]), (3, .box [iV t9_0_1, .sl 5, .sl 6, .sl 10])] [oT (([] ++ t9_3s_1) ++ y_13), oT y_13, oT y_15] ?_ ?_
   ·intro K hK
    refine dM [0, 1, 2, 3, 4, 5, 6, 7] [1, 4, 5] 10 (bt 13 50) fun L hL hN => ?_
    refine hN.node L 0 (bt 13 8191) 8 [] [(37, .pp 4 3), (38, .sl 7), (40, .pp 0 0), (41, .pp 4 1), (42, .sl 5), (43, iV (t9_1s_1.length : Int)), (44, .sl 9), (45, .sl 8), (46, .sl 10), (47, .pp 4 3)] [(0, .box [.sl 1, iV y_14]), (3, .box [iV t9_0_1, .sl 5, .sl 6, .sl 10])] [oT (([] ++ t9_3s_1) ++ y_13), oT y_13, oT y_15] ?_ fun n9 hN => ?_
    ·exact hL.fin (by kernel_rfl) (hK _ _ Red.auto)
    refine hN.node L 1 (bt 13 4095) 11 [] [] [(4, .box [iV t9_0_1, .sl 5, .sl 6, .sl 7])] [] ?_ fun n8 hN => ?_
    ·refine st hL [(12, [], 0, (bt 13 8191))] ⟨?_, trivial⟩
     exact hL.edge n9
    refine hN.node L 3 (bt 13 1023) 10 [46, 47] [] [] [] ?_ fun n7 hN => ?_
    ·refine st hL [(10, [11], 1, (bt 13 4095))] ⟨?_, trivial⟩
     have nn := n8
     have c0 := cm [8] (k_spec_SortMessages hr3)
     exact vn
    refine hN.node L 4 (bt 13 511) 10 [45] [(39, .sl 8)] [(8, oT ([] ++ t9_3s_1))] [] ?_ fun n6 hN => ?_
    ·refine st hL [(9, [], 3, (bt 13 1023))] ⟨?_, trivial⟩
     exact hL.edge n7
    refine hN.node L 5 (bt 13 255) 9 [44] [] [(0, .box [.sl 1, iV y_12])] [] ?_ fun n5 hN => ?_
    ·refine st hL [(8, [], 4, (bt 13 511))] ⟨?_, trivial⟩
     have nn := n6
     have c0 := cm [0, 1] (k_spec_l20Messages hr1)
     exact vn
    refine hN.node L 6 (bt 13 127) 9 [43] [] [] [] ?_ fun n4 hN => ?_
    ·refine st hL [(7, [], 5, (bt 13 255))] ⟨?_, trivial⟩
     exact hL.edge n5
    refine hN.node L 7 (bt 13 63) 9 [42] [] [] [] ?_ fun n3 hN => ?_
    ·refine st hL [(6, [], 6, (bt 13 127))] ⟨?_, trivial⟩
     exact hL.edge n4
    refine hN.node L 6 (bt 13 247) 9 [39] [(36, .sl 8), (42, .sl 5), (43, iV (t9_1s_1.length : Int))] [(8, oT [])] [] ?_ fun n11 hN => ?_
    ·refine st hL [(3, [], 5, (bt 13 255))] ⟨?_, trivial⟩
     exact hL.edge n5
    refine hN.node L 7 (bt 13 119) 9 [43] [] [] [] ?_ fun n10 hN => ?_
    ·refine st hL [(3, [], 6, (bt 13 127)), (7, [], 6, (bt 13 247))] ⟨?_, ?_, trivial⟩
     ·exact hL.edge n4
     exact hL.edge n11
    refine hN.node L 8 (bt 13 55) 9 [42] [] [] [] ?_ fun n2 hN => ?_
    ·refine st hL [(3, [], 7, (bt 13 63)), (6, [], 7, (bt 13 119))] ⟨?_, ?_, trivial⟩
     ·exact hL.edge n3
     exact hL.edge n10
    refine hN.node L 7 (bt 13 243) 9 [38] [(42, .sl 5), (43, iV (t9_1s_1.length : Int))] [] [] ?_ fun n13 hN => ?_
    ·refine st hL [(2, [], 6, (bt 13 247))] ⟨?_, trivial⟩
     exact hL.edge n11
    refine hN.node L 8 (bt 13 115) 9 [43] [] [] [] ?_ fun n12 hN => ?_
    ·refine st hL [(2, [], 7, (bt 13 119)), (7, [], 7, (bt 13 243))] ⟨?_, ?_, trivial⟩
     ·exact hL.edge n10
     exact hL.edge n13
    refine hN.node L 9 (bt 13 51) 9 [42] [] [] [] ?_ fun n1 hN => ?_
    ·refine st hL [(2, [], 8, (bt 13 55)), (6, [], 8, (bt 13 115))] ⟨?_, ?_, trivial⟩
     ·exact hL.edge n2
     exact hL.edge n12
    refine hN.node L 7 (bt 13 246) 8 [36] [(38, .sl 7), (42, .sl 5), (43, iV (t9_1s_1.length : Int))] [] [] ?_ fun n16 hN => ?_
    ·refine st hL [(0, [], 6, (bt 13 247))] ⟨?_, trivial⟩
     exact hL.edge n11
    refine hN.node L 8 (bt 13 118) 8 [43] [] [] [] ?_ fun n15 hN => ?_
    ·refine st hL [(0, [], 7, (bt 13 119)), (7, [], 7, (bt 13 246))] ⟨?_, ?_, trivial⟩
     ·exact hL.edge n10
     exact hL.edge n16
    refine hN.node L 9 (bt 13 54) 8 [42] [] [] [] ?_ fun n14 hN => ?_
    ·refine st hL [(0, [], 8, (bt 13 55)), (6, [], 8, (bt 13 118))] ⟨?_, ?_, trivial⟩
     ·exact hL.edge n2
     exact hL.edge n15
    refine hN.node L 8 (bt 13 242) 8 [38] [(42, .sl 5), (43, iV (t9_1s_1.length : Int))] [] [] ?_ fun n18 hN => ?_
    ·refine st hL [(0, [], 7, (bt 13 243)), (2, [], 7, (bt 13 246))] ⟨?_, ?_, trivial⟩
     ·exact hL.edge n13
     exact hL.edge n16
    refine hN.node L 9 (bt 13 114) 8 [43] [] [] [] ?_ fun n17 hN => ?_
    ·refine st hL [(0, [], 8, (bt 13 115)), (2, [], 8, (bt 13 118)), (7, [], 8, (bt 13 242))] ⟨?_, ?_, ?_, trivial⟩
     ·exact hL.edge n12
     ·exact hL.edge n15
     exact hL.edge n18
    refine hN.node L 10 (bt 13 50) 8 [42] [] [] [] ?_ fun n0 hN => ?_
    ·refine st hL [(0, [], 9, (bt 13 51)), (2, [], 9, (bt 13 54)), (6, [], 9, (bt 13 114))] ⟨?_, ?_, ?_, trivial⟩
     ·exact hL.edge n1
     ·exact hL.edge n14
     exact hL.edge n17
    have nn := n0
    exact au5
   exact jos [0, 1, 2, 3, 4, 5, 6, 10]
  refine awp_skip ?_
  exact jo
 rintro ⟨p0_1, t9_3s_3⟩ h
 try dsimp only
 refine awp_join h (fun (p0_1_1, t9_0_3, t9_1s_3, t9_2s_3, t9_3s_4) => [(8, .pp 3 0), (9, .pp 4 0)]) (fun (p0_1_1, t9_0_3, t9_1s_3, t9_2s_3, t9_3s_4) => [.box [.sl 1, iV p0_1_1], rY a0_0, rT a1_1, .box [iV 0, nV, nV, nV], .box [iV t9_0_3, .sl 5, .sl 6, .sl 7], oI t9_1s_3, oB t9_2s_3, oT t9_3s_4]) ?_ ?_
 ·intro k_2 h
  replace ⟨y_16, y_17, hr0, h⟩ := bd2 h
  refine rc [3] [(50, bV y_16)] [(0, .box [.sl 1, iV y_17])] [] [⟨2, [0, 1], k_spec_l20Rd_odd hr0⟩] ?_
  refine awp_if h ?_ ?_ <;> intro hc h
  ·replace ⟨y_18, y_19, hr0, h⟩ := bd2 h
   refine rc [50] [(52, iV y_18)] [(0, .box [.sl 1, iV y_19])] [] [⟨1, [0, 1], k_spec_l20Rd_pick hr0⟩] ?_
   refine awp_block ?_
   refine rg [] [(58, bV (y_18 == 0))] ?_
   refine awp_if h ?_ ?_ <;> intro hc h
   ·replace ⟨y_20, y_21, hr0, h⟩ := bd2 h
    replace ⟨p, h⟩ := k1 h
    refine ec [0, 52, 58] [] [(0, .box [.sl 1, iV y_21]), (3, .box [iV (([(-1), 101] : List Int).getD y_20.toNat 0), .sl 5, .sl 6, .sl 7])] [oI [(-1), 101]] [⟨2, [0, 1], k_spec_l20Rd_pick hr0⟩] ?_
    exact jos [0, 1, 2, 3, 4, 5, 6, 7]
   refine rg [0, 58] [(66, bV (y_18 == 1))] ?_
   refine awp_if h ?_ ?_ <;> intro hc h
   ·replace ⟨p, h⟩ := k1 h
    refine em [52, 66] [] [(6, oB (t9_2s_1 ++ [true]))] [oB [true]] ?_
    exact jos [0, 1, 2, 3, 4, 5, 6, 7]
   refine rg [52, 66] [(73, bV (y_18 == 2))] ?_
   refine awp_if h ?_ ?_ <;> intro hc h
   ·replace ⟨p, h⟩ := k1 h
    refine em [73] [] [(4, .box [iV t9_0_1, .sl 5, .sl 6, .sl 8])] [oT ([(16, 1, 0)] ++ t9_3s_3)] ?_
    exact jos [0, 1, 2, 3, 4, 5, 6, 8]
   replace ⟨p, h⟩ := k1 h
   refine em [73] [] [(4, .box [iV t9_0_1, .sl 8, .sl 6, .sl 7])] [oI ([(-2)] ++ t9_1s_1)] ?_
   exact jos [0, 1, 2, 3, 4, 8, 6, 7]
  refine awp_skip ?_
  exact jo
 rintro ⟨p0_1_1, t9_0_3, t9_1s_3, t9_2s_3, t9_3s_4⟩ h
 try dsimp only
 refine rm [9] [] [(3, .box [iV t9_0_3, .sl 5, .sl 6, .sl 7])] [] ?_
 exact fr [0, 1, 2, 5, 6, 7]
theorem k_spec_l20Open_v1 {a0 r} (h : spec_l20Open_v1 a0 = some r) : KA Tryz.prog 22 [.sl 0] [rY a0, .box [iV 0, iV 0, iV 0], .box [iV 0, nV, nV, nV]] (.pp 3 0) [rY a0, .box [iV 0, iV 0, iV 0], .box [iV 0, nV, nV, nV], .box [.sl 4, iV r.2], rY r.1] := by
 unfold spec_l20Open_v1 at h
 refine FnA.ofA 11 [0, 1, 2] [.tmp 2] Tryz.func22 en22 ?_
 refine rg [] [] ?_
 refine awp_join h (fun t0s => [(0, .sl 3)]) (fun t0s => [rY a0, .box [iV 0, iV 0, iV 0], .box [iV 0, nV, nV, nV], rY t0s]) ?_ ?_
 ·intro k h
  refine rg [] [(5, bV (decide (2000 < (a0.length : Int))))] ?_
  refine awp_if h ?_ ?_ <;> intro hc h
  ·replace ⟨p, h⟩ := k1 h
   refine em [0, 5] [(0, .sl 3)] [] [rY ((a0.take 2000).drop 0)] ?_
   exact jo
  refine awp_skip ?_
  refine nm ?_
  refine ⟨_, h, ?_⟩
  refine Red.trans (Red.dup (t := 0) rfl rfl) ?_
  exact Red.auto
 rintro t0s h
 try dsimp only
 refine rm [0] [(2, .pp 4 0)] [] [.box [.sl 3, iV 0]] ?_
 exact fr [0, 1, 2, 4, 3]
theorem k_spec_DrawCombineState {a0 r} (h : spec_DrawCombineState a0 = some r) : KA Tryz.prog 14 [.sl 0] [rY a0] (.tup [.agg [iV r.1, iV r.2.1, iV r.2.2.1], .agg [iV r.2.2.2.1, .sl 1, .sl 2, .sl 3]]) [rY a0, oI r.2.2.2.2.1, oB r.2.2.2.2.2.1, oT r.2.2.2.2.2.2] := by
 unfold spec_DrawCombineState at h
 refine FnA.ofA 24 [0] [.cell 2 27, .cell 3 38] Tryz.func14 en14 ?_
 refine rm [] [(2, .pp 1 0), (3, .pp 2 0)] [] [.box [iV 0, iV 0, iV 0], .box [iV 0, nV, nV, nV]] ?_
 replace ⟨y, y_1, hr0, h⟩ := bd2 h
 have d0 := k_spec_l20Open_v1 hr0
 refine rm [0] [(4, .pp 3 0)] [] [.box [.sl 4, iV y_1], rY y] ?_
 replace ⟨y_2, y_3, y_4, y_5, y_6, y_7, hr0, h⟩ := bd6 h
 refine rc [] [(5, .pp 6 0), (6, .pp 7 0)] [(3, .box [.sl 4, iV y_7])] [oT y_3, .box [iV y_2, .sl 5], .box [iV y_4, iV y_5, iV y_6]] [⟨1, [3, 4], k_spec_l20Task hr0⟩] ?_
 replace ⟨y_8, y_9, y_10, y_11, y_12, hr0, h⟩ := bd5 h
 refine rc [6] [(7, .pp 11 0)] [(3, .box [.sl 4, iV y_12])] [oI y_9, oB y_10, oT y_11, .box [iV y_8, .sl 8, .sl 9, .sl 10]] [⟨3, [3, 4, 5], k_spec_l20State hr0⟩] ?_
 replace ⟨y_13, y_14, y_15, y_16, hr0, h⟩ := bd4 h
 have c0 := cm [3, 4] (k_spec_l20Program hr0)
 refine dm (.free 0 (.free 1 (.two 2 4 (.two 3 4 (.two 4 5 (.one 5 (.one 6 .fin)) (.one 4 (.one 6 .fin))) (.one 3 (.one 5 (.one 6 .fin)))) (.one 2 (.one 3 (.one 5 (.one 6 .fin))))))) [4, 5, 7] [] [(1, .box [iV y_13, iV y_14, iV y_15]), (0, .box [iV y_8, .sl 8, .sl 9, .sl 10]), (0, .box [.sl 4, iV y_16])] [] ?_
 exact fr [0, 8, 9, 10]
theorem k_impl_ProgramValid {a0_0 a0_1 a0_2 r} (h : impl_ProgramValid a0_0 a0_1 a0_2 = some r) : KA Tryz.prog 24 [.agg [iV a0_0, iV a0_1, iV a0_2]] [] (bV r) [] := by
 unfold impl_ProgramValid at h
 refine FnA.ofA 48 [] [.tmp 2] Tryz.func24 en24 ?_
 refine rm [0] [(1, .pp 0 0)] [] [.box [iV a0_0, iV a0_1, iV a0_2]] ?_
 refine fz 1 ?_
 refine awp_seq fun K10 hK10 => ?_
 refine rg [] [(4, iV a0_0)] ?_
 refine awp_block ?_
 refine awp_join h (fun t5 => [(1, .pp 0 0), (4, iV a0_0), (5, bV t5)]) (fun t5 => [.rbox [iV a0_0, iV a0_1, iV a0_2]]) ?_ ?_
 ·intro k h
  refine rg [] [(5, bV (a0_0 == 1))] ?_
  refine awp_if h ?_ ?_ <;> intro hc h
  ·refine awp_skip ?_
   exact jo
  refine eg [5] [(5, bV (a0_0 == 2))] ?_
  exact jo
 rintro t5 h
 try dsimp only
 refine awp_if h ?_ ?_ <;> intro hc h
 ·refine rg [1, 4, 5] [(2, bV (((decide (0 ≤ a0_1)) && (decide (a0_1 < 16))) && (a0_2 == 0)))] ?_
  exact fr []
 refine awp_join h (fun t21 => [(1, .pp 0 0), (4, iV a0_0), (21, bV t21)]) (fun t21 => [.rbox [iV a0_0, iV a0_1, iV a0_2]]) ?_ ?_
 ·intro k_1 h
  refine rg [5] [(21, bV (a0_0 == 3))] ?_
  refine awp_if h ?_ ?_ <;> intro hc h
  ·refine awp_skip ?_
   exact jo
  refine eg [21] [(21, bV (a0_0 == 5))] ?_
  exact jo
 rintro t21 h
 try dsimp only
 refine awp_if h ?_ ?_ <;> intro hc h
 ·refine rg [1, 4, 21] [(2, bV ((a0_1 == 0) && (a0_2 == 0)))] ?_
  exact fr []
 refine awp_join h (fun t32 => [(1, .pp 0 0), (32, bV t32)]) (fun t32 => [.rbox [iV a0_0, iV a0_1, iV a0_2]]) ?_ ?_
 ·intro k_2 h
  refine rg [21] [(32, bV (a0_0 == 4))] ?_
  refine awp_if h ?_ ?_ <;> intro hc h
  ·refine awp_skip ?_
   exact jo
  refine eg [4, 32] [(32, bV (a0_0 == 6))] ?_
  exact jo
 rintro t32 h
 try dsimp only
 refine awp_if h ?_ ?_ <;> intro hc h
 ·refine rg [1, 32] [(2, bV (((a0_1 == 0) && (decide (1 ≤ a0_2))) && (decide (a0_2 ≤ 20))))] ?_
  exact fr []
 refine sk hK10 ?_
 refine rg [1, 32] [(2, bV false)] ?_
 exact fr []
theorem k_impl_roundFits {a0 r} (h : impl_roundFits a0 = some r) : KA Tryz.prog 50 [iV a0] [] (bV r) [] := by
 unfold impl_roundFits at h
 refine FnA.ofA 9 [] [.tmp 2] Tryz.func50 en50 ?_
 refine rg [] [] ?_
 refine rg [0] [(2, bV ((decide (0 ≤ a0)) && (decide (a0 ≤ 100))))] ?_
 exact fr []
theorem k_impl_valueFits {a0 r} (h : impl_valueFits a0 = some r) : KA Tryz.prog 84 [iV a0] [] (bV r) [] := by
 unfold impl_valueFits at h
 refine FnA.ofA 9 [] [.tmp 2] Tryz.func84 en84 ?_
 refine rg [] [] ?_
 refine rg [0] [(2, bV ((decide ((-1) ≤ a0)) && (decide (a0 < 1000000))))] ?_
 exact fr []
theorem k_impl_valuesFit {a0 r} (h : impl_valuesFit a0 = some r) : KA Tryz.prog 51 [.sl 0] [rI a0] (bV r) [rI a0] := by
 unfold impl_valuesFit at h
 refine FnA.ofA 15 [0] [.tmp 2] Tryz.func51 en51 ?_
 refine rg [] [] ?_
 refine awp_seq fun K20 hK20 => ?_
 refine rg [0] [(5, .sl 0), (6, iV (a0.length : Int)), (7, iV 0)] ?_
 refine awp_block ?_
 refine lp2 h (fun t7 => [(5, .sl 0), (6, iV (a0.length : Int)), (7, iV t7)]) (fun t7 => [rI a0]) (fun _ => Exit.exit 0) (fun _ => []) (fun _ => [rI a0]) (fun _ => Exit.ret) (fun _ => [(2, bV false)]) (fun _ => [rI a0]) ?_ ?_ ?_
 ·rintro t7 r h
  unfold impl_valuesFit_b0 at h
  try dsimp only
  refine rg [] [(8, bV (decide (t7 < (a0.length : Int))))] ?_
  refine awp_seq fun K34 hK34 => ?_
  refine awp_if h ?_ ?_ <;> intro hc h
  ·refine sk hK34 ?_
   refine awp_seq fun K37 hK37 => ?_
   refine awp_block ?_
   replace ⟨p, h⟩ := k1 h
   refine rg [8] [(4, iV (a0.getD t7.toNat 0))] ?_
   replace ⟨y, hr0, h⟩ := bd h
   refine rc [4] [(13, bV (!y))] [] [] [⟨1, [], k_impl_valueFits hr0⟩] ?_
   refine awp_if h ?_ ?_ <;> intro hc h
   ·refine rg [5, 6, 7, 13] [(2, bV false)] ?_
    exact lor
   refine sk hK37 ?_
   replace ⟨p, h⟩ := k1 h
   refine eg [7, 13] [(7, iV (t7 + 1))] ?_
   exact ln
  exact lo
 ·rintro ⟨⟩ h
  try dsimp only
  refine hK20 _ _ ?_
  refine rg [] [(2, bV true)] ?_
  exact fr [0]
 rintro ⟨⟩ h
 try dsimp only
 exact fr [0]
theorem k_impl_messageFits {a0_0 a0_1 a0_2 a1 r} (h : impl_messageFits a0_0 a0_1 a0_2 a1 = some r) : KA Tryz.prog 86 [.agg [iV a0_0, iV a0_1, iV a0_2], iV a1] [] (bV r) [] := by
 unfold impl_messageFits at h
 refine FnA.ofA 35 [] [.tmp 4] Tryz.func86 en86 ?_
 refine rm [0] [(2, .pp 0 0)] [] [.box [iV a0_0, iV a0_1, iV a0_2]] ?_
 refine fz 2 ?_
 refine awp_t [1, 2] [(4, bV ((((((decide (0 ≤ a0_0)) && (decide (a0_0 < a1))) && (decide (0 ≤ a0_2))) && (decide (a0_2 < a1))) && (decide (0 ≤ a0_1))) && (decide (a0_1 < 1000000))))] [] [] ?_ ?_
 ·intro K hK
  refine awp_regionA ?_
  refine wc 9 [(1, iV a1), (2, .pp 0 0), (13, bV ((decide (0 ≤ a0_0)) && (decide (a0_0 < a1))))] [.rbox [iV a0_0, iV a0_1, iV a0_2]] ?_
  refine wc 5 [(1, iV a1), (2, .pp 0 0), (18, bV (((decide (0 ≤ a0_0)) && (decide (a0_0 < a1))) && (decide (0 ≤ a0_2))))] [.rbox [iV a0_0, iV a0_1, iV a0_2]] ?_
  refine wc 6 [(2, .pp 0 0), (24, bV ((((decide (0 ≤ a0_0)) && (decide (a0_0 < a1))) && (decide (0 ≤ a0_2))) && (decide (a0_2 < a1))))] [.rbox [iV a0_0, iV a0_1, iV a0_2]] ?_
  refine wc 5 [(2, .pp 0 0), (29, bV (((((decide (0 ≤ a0_0)) && (decide (a0_0 < a1))) && (decide (0 ≤ a0_2))) && (decide (a0_2 < a1))) && (decide (0 ≤ a0_1))))] [.rbox [iV a0_0, iV a0_1, iV a0_2]] ?_
  exact vs
 exact fr []
theorem k_slices_IsSortedFunc_impl_Message_impl_Message__impl_compareMessages {a0 r} (h : slices_IsSortedFunc_impl_Message_impl_Message__impl_compareMessages a0 = some r) : KA Tryz.prog 85 [.sl 0, .v (.func (.func 70) #[] #[])] [rT a0] (bV r) [rT a0] := by
 unfold slices_IsSortedFunc_impl_Message_impl_Message__impl_compareMessages at h
 refine FnA.ofA 25 [0] [.tmp 4] Tryz.func85 en85 ?_
 refine rg [] [] ?_
 refine awp_seq fun K20 hK20 => ?_
 replace ⟨p, h⟩ := k1 h
 refine rg [] [(5, iV ((a0.length : Int) - 1))] ?_
 refine awp_block ?_
 refine lp2 h (fun t5 => [(0, .sl 0), (1, .v (.func (.func 70) #[] #[])), (5, iV t5)]) (fun t5 => [rT a0]) (fun _ => Exit.exit 0) (fun _ => []) (fun _ => [rT a0]) (fun _ => Exit.ret) (fun _ => [(4, bV false)]) (fun _ => [rT a0]) ?_ ?_ ?_
 ·rintro t5 r h
  unfold slices_IsSortedFunc_impl_Message_impl_Message__impl_compareMessages_b0 at h
  try dsimp only
  refine awp_seq fun K34 hK34 => ?_
  refine rg [] [(10, bV (decide (0 < t5)))] ?_
  refine awp_if h ?_ ?_ <;> intro hc h
  ·refine sk hK34 ?_
   refine awp_seq fun K37 hK37 => ?_
   refine awp_block ?_
   replace ⟨p, h⟩ := k3 h
   refine qg [10] [(24, bV (decide ((orF [cmpI (a0.getD t5.toNat (0, 0, 0)).1 (a0.getD ((t5 - 1).toNat) (0, 0, 0)).1, cmpI (a0.getD t5.toNat (0, 0, 0)).2.1 (a0.getD ((t5 - 1).toNat) (0, 0, 0)).2.1, cmpI (a0.getD t5.toNat (0, 0, 0)).2.2 (a0.getD ((t5 - 1).toNat) (0, 0, 0)).2.2]) < 0)))] ?_
   refine awp_if h ?_ ?_ <;> intro hc h
   ·refine rg [0, 1, 5, 24] [(4, bV false)] ?_
    exact lor
   refine sk hK37 ?_
   replace ⟨p, h⟩ := k1 h
   refine eg [5, 24] [(5, iV (t5 - 1))] ?_
   exact ln
  exact lo
 ·rintro ⟨⟩ h
  try dsimp only
  refine hK20 _ _ ?_
  refine rg [] [(4, bV true)] ?_
  exact fr [0]
 rintro ⟨⟩ h
 try dsimp only
 exact fr [0]
theorem k_impl_inboxFits {a0 a1 r} (h : impl_inboxFits a0 a1 = some r) : KA Tryz.prog 52 [.sl 0, iV a1] [rT a0] (bV r) [rT a0] := by
 unfold impl_inboxFits at h
 refine FnA.ofA 26 [0] [.tmp 4] Tryz.func52 en52 ?_
 refine rg [] [] ?_
 refine awp_seq fun K2 hK2 => ?_
 replace ⟨y, hr0, h⟩ := bd h
 have c0 := cm [0] (fun g0 => k_slices_IsSortedFunc_impl_Message_impl_Message__impl_compareMessages (bite_t hr0 g0))
 refine rm [] [(14, bV ((decide (2000 < (a0.length : Int))) || (!y)))] [] [] ?_
 refine awp_if h ?_ ?_ <;> intro hc h
 ·refine rg [0, 1, 14] [(4, bV false)] ?_
  exact fr [0]
 refine sk hK2 ?_
 refine awp_seq fun K23 hK23 => ?_
 refine rg [0, 14] [(15, .sl 0), (16, iV (a0.length : Int)), (17, iV 0)] ?_
 refine awp_block ?_
 refine lp2 h (fun t17 => [(1, iV a1), (15, .sl 0), (16, iV (a0.length : Int)), (17, iV t17)]) (fun t17 => [rT a0]) (fun _ => Exit.exit 0) (fun _ => []) (fun _ => [rT a0]) (fun _ => Exit.ret) (fun _ => [(4, bV false)]) (fun _ => [rT a0]) ?_ ?_ ?_
 ·rintro t17 r h
  unfold impl_inboxFits_b0 at h
  try dsimp only
  refine rg [] [(18, bV (decide (t17 < (a0.length : Int))))] ?_
  refine awp_seq fun K37 hK37 => ?_
  refine awp_if h ?_ ?_ <;> intro hc h
  ·refine sk hK37 ?_
   refine awp_seq fun K40 hK40 => ?_
   refine awp_block ?_
   replace ⟨p, h⟩ := k1 h
   refine rm [18] [(6, .pp 1 0)] [] [.box [iV ((a0.getD t17.toNat (0, 0, 0)).1), iV ((a0.getD t17.toNat (0, 0, 0)).2.1), iV ((a0.getD t17.toNat (0, 0, 0)).2.2)]] ?_
   replace ⟨y_1, hr0, h⟩ := bd h
   refine rc [6] [(24, bV (!y_1))] [] [] [⟨2, [], k_impl_messageFits hr0⟩] ?_
   refine awp_if h ?_ ?_ <;> intro hc h
   ·refine rg [1, 15, 16, 17, 24] [(4, bV false)] ?_
    exact lors [0]
   refine sk hK40 ?_
   replace ⟨p, h⟩ := k1 h
   refine eg [17, 24] [(17, iV (t17 + 1))] ?_
   exact lns [0]
  exact lo
 ·rintro ⟨⟩ h
  try dsimp only
  refine hK23 _ _ ?_
  refine rg [] [(4, bV true)] ?_
  exact fr [0]
 rintro ⟨⟩ h
 try dsimp only
 exact fr [0]
theorem k_impl_StateValid {a0_0 a0_1 a0_2 a0_3 a1 r} (h : impl_StateValid a0_0 a0_1 a0_2 a0_3 a1 = some r) : KA Tryz.prog 20 [.agg [iV a0_0, .sl 0, .sl 1, .sl 2], iV a1] [rI a0_1, rB a0_2, rT a0_3] (bV r) [rI a0_1, rB a0_2, rT a0_3] := by
 unfold impl_StateValid at h
 refine FnA.ofA 38 [0, 1, 2] [.tmp 4] Tryz.func20 en20 ?_
 refine rm [0] [(2, .pp 3 0)] [] [.box [iV a0_0, .sl 0, .sl 1, .sl 2]] ?_
 refine fz 2 ?_
 refine awp_seq fun K2 hK2 => ?_
 replace ⟨y, hr0, h⟩ := bd h
 refine awp_t [] [(16, bV (((decide (a1 < 0)) || (decide (16 < a1))) || (!y)))] [] [] ?_ ?_
 ·intro K hK
  refine awp_regionA ?_
  refine wc 6 [(1, iV a1), (2, .pp 3 0), (10, bV ((decide (a1 < 0)) || (decide (16 < a1))))] [rI a0_1, rB a0_2, rT a0_3, .rbox [iV a0_0, .sl 0, .sl 1, .sl 2]] ?_
  have c0 := cm [] (fun g0 => k_impl_roundFits (bite_t hr0 g0))
  exact vs
 refine awp_if h ?_ ?_ <;> intro hc h
 ·refine rg [1, 2, 16] [(4, bV false)] ?_
  exact fr [0, 1, 2]
 refine sk hK2 ?_
 refine awp_seq fun K5 hK5 => ?_
 refine rg [16] [(28, bV (((a0_1.length : Int) != a1) || ((a0_2.length : Int) != a1)))] ?_
 refine awp_if h ?_ ?_ <;> intro hc h
 ·refine rg [1, 2, 28] [(4, bV false)] ?_
  exact fr [0, 1, 2]
 refine sk hK5 ?_
 replace ⟨y_1, hr0, h⟩ := bd h
 replace ⟨y_2, hr1, h⟩ := bd h
 have c0 := cm [0] (k_impl_valuesFit hr0)
 have c1 := cm [2] (fun g0 => k_impl_inboxFits (bite_t hr1 g0))
 refine rm [1, 2, 28] [(4, bV (y_1 && y_2))] [] [] ?_
 exact fr [0, 1, 2]
theorem k_impl_State_ownValid {a0_0 a0_1 a0_2 a0_3 r} (h : impl_State_ownValid a0_0 a0_1 a0_2 a0_3 = some r) : KA Tryz.prog 30 [.agg [iV a0_0, .sl 0, .sl 1, .sl 2]] [rI a0_1, rB a0_2, rT a0_3] (bV r) [rI a0_1, rB a0_2, rT a0_3] := by
 unfold impl_State_ownValid at h
 refine FnA.ofA 8 [0, 1, 2] [.tmp 2] Tryz.func30 en30 ?_
 refine rm [0] [(1, .pp 3 0)] [] [.box [iV a0_0, .sl 0, .sl 1, .sl 2]] ?_
 refine fz 1 ?_
 replace ⟨y, hr0, h⟩ := bd h
 refine rc [1] [(2, bV y)] [] [] [⟨4, [0, 1, 2], k_impl_StateValid hr0⟩] ?_
 exact fr [0, 1, 2]
theorem k_slices_Clone_int_int {a0 r} (h : slices_Clone_int_int a0 = some r) : KA Tryz.prog 71 [.sl 0] [rI a0] (.sl 1) [rI a0, oI r] := by
 unfold slices_Clone_int_int at h
 refine FnA.ofA 8 [0] [.tmp 2] Tryz.func71 en71 ?_
 refine rg [] [] ?_
 refine awp_seq fun K2 hK2 => ?_
 have hboth := both_some h
 refine awp_isnil (by rfl) (by rfl) Tryz.underlying30 rfl rfl fun b hb => ?_
 replace h := hboth b hb
 clear hboth
 refine awp_if h ?_ ?_ <;> intro hc h
 ·refine rg [0, 3, 4] [(2, nV)] ?_
  refine awp_red (Red.nil (t := 2) (.ints .i64 []) rfl rfl) ?_
  exact fr [0, 1]
 refine sk hK2 ?_
 replace ⟨p, h⟩ := k1 h
 refine rm [0, 3, 4] [(2, .sl 1)] [] [oI ([] ++ a0)] ?_
 exact fr [0, 1]
theorem k_slices_Clone_bool_bool {a0 r} (h : slices_Clone_bool_bool a0 = some r) : KA Tryz.prog 72 [.sl 0] [rB a0] (.sl 1) [rB a0, oB r] := by
 unfold slices_Clone_bool_bool at h
 refine FnA.ofA 8 [0] [.tmp 2] Tryz.func72 en72 ?_
 refine rg [] [] ?_
 refine awp_seq fun K2 hK2 => ?_
 have hboth := both_some h
 refine awp_isnil (by rfl) (by rfl) Tryz.underlying35 rfl rfl fun b hb => ?_
 replace h := hboth b hb
 clear hboth
 refine awp_if h ?_ ?_ <;> intro hc h
 ·refine rg [0, 3, 4] [(2, nV)] ?_
  refine awp_red (Red.nil (t := 2) (.bools []) rfl rfl) ?_
  exact fr [0, 1]
 refine sk hK2 ?_
 replace ⟨p, h⟩ := k1 h
 refine rm [0, 3, 4] [(2, .sl 1)] [] [oB ([] ++ a0)] ?_
 exact fr [0, 1]
theorem k_slices_Clone_impl_Message_impl_Message {a0 r} (h : slices_Clone_impl_Message_impl_Message a0 = some r) : KA Tryz.prog 73 [.sl 0] [rT a0] (.sl 1) [rT a0, oT r] := by
 unfold slices_Clone_impl_Message_impl_Message at h
 refine FnA.ofA 8 [0] [.tmp 2] Tryz.func73 en73 ?_
 refine rg [] [] ?_
 refine awp_seq fun K2 hK2 => ?_
 have hboth := both_some h
 refine awp_isnil (by rfl) (by rfl) Tryz.underlying36 rfl rfl fun b hb => ?_
 replace h := hboth b hb
 clear hboth
 refine awp_if h ?_ ?_ <;> intro hc h
 ·refine rg [0, 3, 4] [(2, nV)] ?_
  refine awp_red (Red.nil (t := 2) (.trips []) rfl rfl) ?_
  exact fr [0, 1]
 refine sk hK2 ?_
 replace ⟨p, h⟩ := k1 h
 refine rm [0, 3, 4] [(2, .sl 1)] [] [oT ([] ++ a0)] ?_
 exact fr [0, 1]
theorem k_impl_State_copied {a0_0 a0_1 a0_2 a0_3 r} (h : impl_State_copied a0_0 a0_1 a0_2 a0_3 = some r) : KA Tryz.prog 35 [.agg [iV a0_0, .sl 0, .sl 1, .sl 2]] [rI a0_1, rB a0_2, rT a0_3] (.agg [iV r.1, .sl 3, .sl 4, .sl 5]) [rI a0_1, rB a0_2, rT a0_3, oI r.2.1, oB r.2.2.1, oT r.2.2.2] := by
 unfold impl_State_copied at h
 refine FnA.ofA 15 [0, 1, 2] [.cell 2 38] Tryz.func35 en35 ?_
 refine rm [0] [(1, .pp 3 0), (2, .pp 4 0)] [] [.box [iV a0_0, .sl 0, .sl 1, .sl 2], .box [iV 0, nV, nV, nV]] ?_
 refine fz 1 ?_
 replace ⟨y, hr0, h⟩ := bd h
 replace ⟨y_1, hr1, h⟩ := bd h
 replace ⟨y_2, hr2, h⟩ := bd h
 have c0 := cm [0] (k_slices_Clone_int_int hr0)
 have c1 := cm [1] (k_slices_Clone_bool_bool hr1)
 have c2 := cm [2] (k_slices_Clone_impl_Message_impl_Message hr2)
 refine dm (.free 0 (.free 2 (.free 5 (.free 8 (.free 1 (.free 3 (.free 6 (.free 9 (.one 4 (.one 7 (.one 10 (.one 11 (.one 12 .fin))))))))))))) [1] [] [(4, .box [iV a0_0, .sl 5, .sl 6, .sl 7])] [oI y, oB y_1, oT y_2] ?_
 exact fr [0, 1, 2, 5, 6, 7]
theorem k_slices_SortFunc__impl_compareMessages {a0 r} (h : slices_SortFunc__impl_compareMessages a0 = some r) : KA Tryz.prog 69 [.sl 0, .v (.func (.func 70) #[] #[])] [oT a0] (.tup []) [oT r] := by
 unfold slices_SortFunc__impl_compareMessages at h
 obtain ⟨h1, h⟩ := chk_some h
 simp only [Option.some.injEq] at h
 subst h
 exact sortFunc_trips Go.Proofs.sortL Tryz.isAgg82 Tryz.sizeOf82 msgC msgSWO rfl en69 en70 (fun x y W => cmpMsgP.calls [.agg (encT x).toArray, .agg (encT y).toArray] True _ rfl trivial W) a0 h1
theorem k_impl_inOrder {a0 r} (h : impl_inOrder a0 = some r) : KA Tryz.prog 34 [.sl 0] [rT a0] (.sl 1) [rT a0, oT r] := by
 unfold impl_inOrder at h
 refine FnA.ofA 61 [0] [.tmp 2] Tryz.func34 en34 ?_
 refine rg [] [] ?_
 refine rm [] [(3, .sl 1)] [] [.mp [] none none] ?_
 refine rg [] [(4, nV)] ?_
 refine awp_seq fun K34 hK34 => ?_
 refine rg [] [(12, .sl 0), (13, iV (a0.length : Int)), (14, iV 0)] ?_
 refine awp_block ?_
 refine lp h (fun (t14, t3s, t4s) => [(0, .sl 0), (3, .sl 1), (4, .sl 2), (12, .sl 0), (13, iV (a0.length : Int)), (14, iV t14)]) (fun (t14, t3s, t4s) => [rT a0, .mp t3s none none, oI t4s]) (fun _ => Exit.exit 0) (fun (t3s_1, t4s_1) => [(0, .sl 0), (3, .sl 1), (4, .sl 2)]) (fun (t3s_1, t4s_1) => [rT a0, .mp t3s_1 none none, oI t4s_1]) ?_ ?_ (h0 := by refine Red.trans (Red.nil (t := 4) (.ints .i64 []) rfl rfl) ?_; exact Red.auto)
 ·rintro ⟨t14, t3s, t4s⟩ r h
  unfold impl_inOrder_b0 at h
  try dsimp only
  refine rg [] [(15, bV (decide (t14 < (a0.length : Int))))] ?_
  refine awp_seq fun K60 hK60 => ?_
  refine awp_if h ?_ ?_ <;> intro hc h
  ·refine sk hK60 ?_
   refine awp_seq fun K64 hK64 => ?_
   refine awp_block ?_
   replace ⟨p, h⟩ := k1 h
   refine rm [15] [(6, .pp 3 0)] [] [.box [iV ((a0.getD t14.toNat (0, 0, 0)).1), iV ((a0.getD t14.toNat (0, 0, 0)).2.1), iV ((a0.getD t14.toNat (0, 0, 0)).2.2)]] ?_
   refine awp_join h (fun t4s_2 => [(0, .sl 0), (3, .sl 1), (4, .sl 2), (6, .pp 3 0), (12, .sl 0), (13, iV (a0.length : Int)), (14, iV t14)]) (fun t4s_2 => [rT a0, .mp (setM t3s ((a0.getD t14.toNat (0, 0, 0)).1) (getM t3s ((a0.getD t14.toNat (0, 0, 0)).1))) none none, oI t4s_2, .box [iV ((a0.getD t14.toNat (0, 0, 0)).1), iV ((a0.getD t14.toNat (0, 0, 0)).2.1), iV ((a0.getD t14.toNat (0, 0, 0)).2.2)]]) ?_ ?_
   ·intro k h
    refine awp_mtake 1 ((a0.getD t14.toNat (0, 0, 0)).1) (by rfl) (by exact rfl) ?_
    refine rg [] [(23, bV (((getM t3s ((a0.getD t14.toNat (0, 0, 0)).1)).length : Int) == 0))] ?_
    refine awp_if h ?_ ?_ <;> intro hc h
    ·refine awp_mput 1 4 (by rfl) (by rfl) (by exact rfl) ?_
     replace ⟨p, h⟩ := k1 h
     refine em [23] [] [(2, oI (t4s ++ [(a0.getD t14.toNat (0, 0, 0)).1]))] [oI [(a0.getD t14.toNat (0, 0, 0)).1]] ?_
     exact jos [0, 1, 2, 3]
    refine awp_skip ?_
    refine nm ?_
    refine ⟨_, h, ?_⟩
    refine Red.trans (Red.mput 1 4 (by rfl) (by rfl)) ?_
    exact Red.selA [0, 1, 2, 3] Red.auto
   rintro t4s_2 h
   try dsimp only
   refine awp_mtake 1 ((a0.getD t14.toNat (0, 0, 0)).1) (by rfl) (by exact rfl) ?_
   replace ⟨p, h⟩ := k1 h
   refine awp_tE [6] [] [(1, .mp (upsM (setM t3s ((a0.getD t14.toNat (0, 0, 0)).1) (getM t3s ((a0.getD t14.toNat (0, 0, 0)).1))) ((a0.getD t14.toNat (0, 0, 0)).1) ((getM (setM t3s ((a0.getD t14.toNat (0, 0, 0)).1) (getM t3s ((a0.getD t14.toNat (0, 0, 0)).1))) ((a0.getD t14.toNat (0, 0, 0)).1)) ++ [((a0.getD t14.toNat (0, 0, 0)).1, (a0.getD t14.toNat (0, 0, 0)).2.1, (a0.getD t14.toNat (0, 0, 0)).2.2)])) none none), (2, .view 1 (.trips ((getM (setM t3s ((a0.getD t14.toNat (0, 0, 0)).1) (getM t3s ((a0.getD t14.toNat (0, 0, 0)).1))) ((a0.getD t14.toNat (0, 0, 0)).1)) ++ [((a0.getD t14.toNat (0, 0, 0)).1, (a0.getD t14.toNat (0, 0, 0)).2.1, (a0.getD t14.toNat (0, 0, 0)).2.2)])))] [oT [((a0.getD t14.toNat (0, 0, 0)).1, (a0.getD t14.toNat (0, 0, 0)).2.1, (a0.getD t14.toNat (0, 0, 0)).2.2)]] ?_ ?_
   ·intro K hK
    refine dM [0, 1, 2, 3] [0, 1, 3, 4] 7 (bt 11 27) fun L hL hN => ?_
    refine hN.node L 0 (bt 11 2047) 5 [] [(29, .sl 1), (30, .pp 3 0), (31, iV ((a0.getD t14.toNat (0, 0, 0)).1)), (32, .sl 1), (33, .pp 3 0), (34, iV ((a0.getD t14.toNat (0, 0, 0)).1)), (36, .agg [iV ((a0.getD t14.toNat (0, 0, 0)).1), iV ((a0.getD t14.toNat (0, 0, 0)).2.1), iV ((a0.getD t14.toNat (0, 0, 0)).2.2)]), (37, .sl 5), (38, .sl 4)] [(1, .mp (upsM (setM t3s ((a0.getD t14.toNat (0, 0, 0)).1) (getM t3s ((a0.getD t14.toNat (0, 0, 0)).1))) ((a0.getD t14.toNat (0, 0, 0)).1) ((getM (setM t3s ((a0.getD t14.toNat (0, 0, 0)).1) (getM t3s ((a0.getD t14.toNat (0, 0, 0)).1))) ((a0.getD t14.toNat (0, 0, 0)).1)) ++ [((a0.getD t14.toNat (0, 0, 0)).1, (a0.getD t14.toNat (0, 0, 0)).2.1, (a0.getD t14.toNat (0, 0, 0)).2.2)])) none none), (2, .view 1 (.trips ((getM (setM t3s ((a0.getD t14.toNat (0, 0, 0)).1) (getM t3s ((a0.getD t14.toNat (0, 0, 0)).1))) ((a0.getD t14.toNat (0, 0, 0)).1)) ++ [((a0.getD t14.toNat (0, 0, 0)).1, (a0.getD t14.toNat (0, 0, 0)).2.1, (a0.getD t14.toNat (0, 0, 0)).2.2)])))] [oT [((a0.getD t14.toNat (0, 0, 0)).1, (a0.getD t14.toNat (0, 0, 0)).2.1, (a0.getD t14.toNat (0, 0, 0)).2.2)]] ?_ fun n7 hN => ?_
    ·exact hL.fin (by kernel_rfl) (hK _ _ Red.auto)
    refine hN.node L 1 (bt 11 1023) 6 [] [] [(1, .mp (setM t3s ((a0.getD t14.toNat (0, 0, 0)).1) (getM t3s ((a0.getD t14.toNat (0, 0, 0)).1))) (some ((a0.getD t14.toNat (0, 0, 0)).1)) none), (2, oT ((getM (setM t3s ((a0.getD t14.toNat (0, 0, 0)).1) (getM t3s ((a0.getD t14.toNat (0, 0, 0)).1))) ((a0.getD t14.toNat (0, 0, 0)).1)) ++ [((a0.getD t14.toNat (0, 0, 0)).1, (a0.getD t14.toNat (0, 0, 0)).2.1, (a0.getD t14.toNat (0, 0, 0)).2.2)]))] [] ?_ fun n6 hN => ?_
    ·refine st hL [(10, [], 0, (bt 11 2047))] ⟨?_, trivial⟩
     exact hL.edge n7
    refine hN.node L 2 (bt 11 511) 6 [38] [(35, .sl 4)] [(1, .mp (setM t3s ((a0.getD t14.toNat (0, 0, 0)).1) (getM t3s ((a0.getD t14.toNat (0, 0, 0)).1))) (some ((a0.getD t14.toNat (0, 0, 0)).1)) (some 4)), (2, oT (getM (setM t3s ((a0.getD t14.toNat (0, 0, 0)).1) (getM t3s ((a0.getD t14.toNat (0, 0, 0)).1))) ((a0.getD t14.toNat (0, 0, 0)).1)))] [] ?_ fun n5 hN => ?_
    ·refine st hL [(9, [], 1, (bt 11 1023))] ⟨?_, trivial⟩
     exact hL.edge n6
    refine hN.node L 3 (bt 11 255) 5 [37] [] [] [] ?_ fun n4 hN => ?_
    ·refine st hL [(8, [], 2, (bt 11 511))] ⟨?_, trivial⟩
     exact hL.edge n5
    refine hN.node L 4 (bt 11 127) 5 [36] [] [] [] ?_ fun n3 hN => ?_
    ·refine st hL [(7, [], 3, (bt 11 255))] ⟨?_, trivial⟩
     exact hL.edge n4
    refine hN.node L 3 (bt 11 447) 5 [35] [(36, .agg [iV ((a0.getD t14.toNat (0, 0, 0)).1), iV ((a0.getD t14.toNat (0, 0, 0)).2.1), iV ((a0.getD t14.toNat (0, 0, 0)).2.2)]), (37, .sl 5)] [] [oT [((a0.getD t14.toNat (0, 0, 0)).1, (a0.getD t14.toNat (0, 0, 0)).2.1, (a0.getD t14.toNat (0, 0, 0)).2.2)]] ?_ fun n9 hN => ?_
    ·refine st hL [(6, [], 2, (bt 11 511))] ⟨?_, trivial⟩
     exact hL.edge n5
    refine hN.node L 4 (bt 11 191) 5 [37] [] [] [] ?_ fun n8 hN => ?_
    ·refine st hL [(6, [], 3, (bt 11 255)), (8, [], 3, (bt 11 447))] ⟨?_, ?_, trivial⟩
     ·exact hL.edge n4
     exact hL.edge n9
    refine hN.node L 5 (bt 11 63) 5 [36] [] [] [] ?_ fun n2 hN => ?_
    ·refine st hL [(6, [], 4, (bt 11 127)), (7, [], 4, (bt 11 191))] ⟨?_, ?_, trivial⟩
     ·exact hL.edge n3
     exact hL.edge n8
    refine hN.node L 4 (bt 11 415) 5 [34] [(36, .agg [iV ((a0.getD t14.toNat (0, 0, 0)).1), iV ((a0.getD t14.toNat (0, 0, 0)).2.1), iV ((a0.getD t14.toNat (0, 0, 0)).2.2)]), (37, .sl 5)] [] [oT [((a0.getD t14.toNat (0, 0, 0)).1, (a0.getD t14.toNat (0, 0, 0)).2.1, (a0.getD t14.toNat (0, 0, 0)).2.2)]] ?_ fun n11 hN => ?_
    ·refine st hL [(5, [], 3, (bt 11 447))] ⟨?_, trivial⟩
     exact hL.edge n9
    refine hN.node L 5 (bt 11 159) 5 [37] [] [] [] ?_ fun n10 hN => ?_
    ·refine st hL [(5, [], 4, (bt 11 191)), (8, [], 4, (bt 11 415))] ⟨?_, ?_, trivial⟩
     ·exact hL.edge n8
     exact hL.edge n11
    refine hN.node L 6 (bt 11 31) 5 [36] [] [] [] ?_ fun n1 hN => ?_
    ·refine st hL [(5, [], 5, (bt 11 63)), (7, [], 5, (bt 11 159))] ⟨?_, ?_, trivial⟩
     ·exact hL.edge n2
     exact hL.edge n10
    refine hN.node L 2 (bt 11 1019) 5 [31] [(34, iV ((a0.getD t14.toNat (0, 0, 0)).1)), (36, .agg [iV ((a0.getD t14.toNat (0, 0, 0)).1), iV ((a0.getD t14.toNat (0, 0, 0)).2.1), iV ((a0.getD t14.toNat (0, 0, 0)).2.2)]), (37, .sl 5), (38, .sl 4)] [(1, .mp (setM t3s ((a0.getD t14.toNat (0, 0, 0)).1) (getM t3s ((a0.getD t14.toNat (0, 0, 0)).1))) (some ((a0.getD t14.toNat (0, 0, 0)).1)) none), (2, oT ((getM (setM t3s ((a0.getD t14.toNat (0, 0, 0)).1) (getM t3s ((a0.getD t14.toNat (0, 0, 0)).1))) ((a0.getD t14.toNat (0, 0, 0)).1)) ++ [((a0.getD t14.toNat (0, 0, 0)).1, (a0.getD t14.toNat (0, 0, 0)).2.1, (a0.getD t14.toNat (0, 0, 0)).2.2)]))] [oT [((a0.getD t14.toNat (0, 0, 0)).1, (a0.getD t14.toNat (0, 0, 0)).2.1, (a0.getD t14.toNat (0, 0, 0)).2.2)]] ?_ fun n16 hN => ?_
    ·refine st hL [(2, [], 1, (bt 11 1023))] ⟨?_, trivial⟩
     exact hL.edge n6
    refine hN.node L 3 (bt 11 507) 6 [38] [(35, .sl 4)] [(1, .mp (setM t3s ((a0.getD t14.toNat (0, 0, 0)).1) (getM t3s ((a0.getD t14.toNat (0, 0, 0)).1))) (some ((a0.getD t14.toNat (0, 0, 0)).1)) (some 4)), (2, oT (getM (setM t3s ((a0.getD t14.toNat (0, 0, 0)).1) (getM t3s ((a0.getD t14.toNat (0, 0, 0)).1))) ((a0.getD t14.toNat (0, 0, 0)).1)))] [] ?_ fun n15 hN => ?_
    ·refine st hL [(2, [], 2, (bt 11 511)), (9, [], 2, (bt 11 1019))] ⟨?_, ?_, trivial⟩
     ·exact hL.edge n5
     exact hL.edge n16
    refine hN.node L 4 (bt 11 251) 5 [37] [] [] [] ?_ fun n14 hN => ?_
    ·refine st hL [(2, [], 3, (bt 11 255)), (8, [], 3, (bt 11 507))] ⟨?_, ?_, trivial⟩
     ·exact hL.edge n4
     exact hL.edge n15
    refine hN.node L 5 (bt 11 123) 5 [36] [] [] [] ?_ fun n13 hN => ?_
    ·refine st hL [(2, [], 4, (bt 11 127)), (7, [], 4, (bt 11 251))] ⟨?_, ?_, trivial⟩
     ·exact hL.edge n3
     exact hL.edge n14
    refine hN.node L 4 (bt 11 443) 5 [35] [(36, .agg [iV ((a0.getD t14.toNat (0, 0, 0)).1), iV ((a0.getD t14.toNat (0, 0, 0)).2.1), iV ((a0.getD t14.toNat (0, 0, 0)).2.2)]), (37, .sl 5)] [] [oT [((a0.getD t14.toNat (0, 0, 0)).1, (a0.getD t14.toNat (0, 0, 0)).2.1, (a0.getD t14.toNat (0, 0, 0)).2.2)]] ?_ fun n18 hN => ?_
    ·refine st hL [(2, [], 3, (bt 11 447)), (6, [], 3, (bt 11 507))] ⟨?_, ?_, trivial⟩
     ·exact hL.edge n9
     exact hL.edge n15
    refine hN.node L 5 (bt 11 187) 5 [37] [] [] [] ?_ fun n17 hN => ?_
    ·refine st hL [(2, [], 4, (bt 11 191)), (6, [], 4, (bt 11 251)), (8, [], 4, (bt 11 443))] ⟨?_, ?_, ?_, trivial⟩
     ·exact hL.edge n8
     ·exact hL.edge n14
     exact hL.edge n18
    refine hN.node L 6 (bt 11 59) 5 [36] [] [] [] ?_ fun n12 hN => ?_
    ·refine st hL [(2, [], 5, (bt 11 63)), (6, [], 5, (bt 11 123)), (7, [], 5, (bt 11 187))] ⟨?_, ?_, ?_, trivial⟩
     ·exact hL.edge n2
     ·exact hL.edge n13
     exact hL.edge n17
    refine hN.node L 5 (bt 11 411) 5 [34] [(36, .agg [iV ((a0.getD t14.toNat (0, 0, 0)).1), iV ((a0.getD t14.toNat (0, 0, 0)).2.1), iV ((a0.getD t14.toNat (0, 0, 0)).2.2)]), (37, .sl 5)] [] [oT [((a0.getD t14.toNat (0, 0, 0)).1, (a0.getD t14.toNat (0, 0, 0)).2.1, (a0.getD t14.toNat (0, 0, 0)).2.2)]] ?_ fun n20 hN => ?_
    ·refine st hL [(2, [], 4, (bt 11 415)), (5, [], 4, (bt 11 443))] ⟨?_, ?_, trivial⟩
     ·exact hL.edge n11
     exact hL.edge n18
    refine hN.node L 6 (bt 11 155) 5 [37] [] [] [] ?_ fun n19 hN => ?_
    ·refine st hL [(2, [], 5, (bt 11 159)), (5, [], 5, (bt 11 187)), (8, [], 5, (bt 11 411))] ⟨?_, ?_, ?_, trivial⟩
     ·exact hL.edge n10
     ·exact hL.edge n17
     exact hL.edge n20
    refine hN.node L 7 (bt 11 27) 5 [36] [] [] [] ?_ fun n0 hN => ?_
    ·refine st hL [(2, [], 6, (bt 11 31)), (5, [], 6, (bt 11 59)), (7, [], 6, (bt 11 155))] ⟨?_, ?_, ?_, trivial⟩
     ·exact hL.edge n1
     ·exact hL.edge n12
     exact hL.edge n19
    have nn := n0
    exact au5
   refine hK64 _ _ ?_
   replace ⟨p, h⟩ := k1 h
   refine eg [14] [(14, iV (t14 + 1))] ?_
   exact lns [0, 1, 2]
  exact lo
 rintro ⟨t3s_1, t4s_1⟩ h
 try dsimp only
 refine hK34 _ _ ?_
 replace ⟨y, hr0, h⟩ := bd h
 refine rc [] [] [(2, oI y)] [] [⟨1, [2], k_slices_Sort_int_int hr0⟩] ?_
 replace ⟨p, h⟩ := k1 h
 refine rm [0] [(7, .sl 3)] [] [oT (List.replicate 0 (0, 0, 0))] ?_
 refine awp_seq fun K81 hK81 => ?_
 refine rg [4] [(45, .sl 2), (46, iV (y.length : Int)), (47, iV 0)] ?_
 refine awp_block ?_
 refine lp h (fun (t47, t3s_2, t7s) => [(3, .sl 1), (7, .sl 2), (45, .sl 3), (46, iV (y.length : Int)), (47, iV t47)]) (fun (t47, t3s_2, t7s) => [rT a0, .mp t3s_2 none none, oT t7s, oI y]) (fun _ => Exit.exit 2) (fun t7s_1 => [(7, .sl 1)]) (fun t7s_1 => [rT a0, oT t7s_1]) ?_ ?_ (h0 := Red.selA [0, 1, 3, 2] Red.auto)
 ·rintro ⟨t47, t3s_2, t7s⟩ r h
  unfold impl_inOrder_b1 at h
  try dsimp only
  refine rg [] [(48, bV (decide (t47 < (y.length : Int))))] ?_
  refine awp_seq fun K91 hK91 => ?_
  refine awp_if h ?_ ?_ <;> intro hc h
  ·refine sk hK91 ?_
   refine awp_seq fun K93 hK93 => ?_
   refine awp_block ?_
   replace ⟨p, h⟩ := k1 h
   refine rg [48] [(9, iV (y.getD t47.toNat 0))] ?_
   refine awp_mtake 1 (y.getD t47.toNat 0) (by rfl) (by exact rfl) ?_
   refine rg [9] [(10, .sl 4)] ?_
   replace ⟨y_1, hr0, h⟩ := bd h
   refine rc [] [] [(4, oT y_1)] [] [⟨1, [4], k_slices_SortFunc__impl_compareMessages hr0⟩] ?_
   refine awp_mput 1 4 (by rfl) (by rfl) (by exact rfl) ?_
   replace ⟨p, h⟩ := k1 h
   refine em [10] [] [(2, oT (t7s ++ y_1))] [] ?_
   refine hK93 _ _ ?_
   replace ⟨p, h⟩ := k1 h
   refine eg [47] [(47, iV (t47 + 1))] ?_
   exact lns [0, 1, 2, 3]
  exact los [0, 2]
 rintro t7s_1 h
 try dsimp only
 refine hK81 _ _ ?_
 refine rg [7] [(2, .sl 1)] ?_
 exact fr [0, 1]
theorem k_impl_CanCombine {a0_0 a0_1 a0_2 r} (h : impl_CanCombine a0_0 a0_1 a0_2 = some r) : KA Tryz.prog 74 [.agg [iV a0_0, iV a0_1, iV a0_2]] [] (bV r) [] := by
 unfold impl_CanCombine at h
 refine FnA.ofA 19 [] [.tmp 2] Tryz.func74 en74 ?_
 refine rm [0] [(1, .pp 0 0)] [] [.box [iV a0_0, iV a0_1, iV a0_2]] ?_
 refine fz 1 ?_
 refine awp_seq fun K2 hK2 => ?_
 replace ⟨y, hr0, h⟩ := bd h
 refine rc [] [(5, bV (!y))] [] [] [⟨1, [], k_impl_ProgramValid hr0⟩] ?_
 refine awp_if h ?_ ?_ <;> intro hc h
 ·refine rg [1, 5] [(2, bV false)] ?_
  exact fr []
 refine sk hK2 ?_
 refine rg [1, 5] [(2, bV (((a0_0 == 1) || (a0_0 == 2)) || (a0_0 == 3)))] ?_
 exact fr []
theorem k_impl_leastOnly {a0 r} (h : impl_leastOnly a0 = some r) : KA Tryz.prog 75 [.sl 0] [rT a0] (.sl 1) [rT a0, oT r] := by
 unfold impl_leastOnly at h
 refine FnA.ofA 32 [0] [.tmp 2] Tryz.func75 en75 ?_
 refine rg [] [] ?_
 refine rg [] [(3, nV)] ?_
 refine awp_seq fun K22 hK22 => ?_
 refine rg [] [(6, .sl 0), (7, iV (a0.length : Int)), (8, iV 0)] ?_
 refine awp_block ?_
 refine lp h (fun (t8, t3s) => [(0, .sl 0), (3, .sl 1), (6, .sl 0), (7, iV (a0.length : Int)), (8, iV t8)]) (fun (t8, t3s) => [rT a0, oT t3s]) (fun _ => Exit.exit 0) (fun t3s_1 => [(3, .sl 1)]) (fun t3s_1 => [rT a0, oT t3s_1]) ?_ ?_ (h0 := by refine Red.trans (Red.nil (t := 3) (.trips []) rfl rfl) ?_; exact Red.auto)
 ·rintro ⟨t8, t3s⟩ r h
  unfold impl_leastOnly_b0 at h
  try dsimp only
  refine rg [] [(9, bV (decide (t8 < (a0.length : Int))))] ?_
  refine awp_seq fun K39 hK39 => ?_
  refine awp_if h ?_ ?_ <;> intro hc h
  ·refine sk hK39 ?_
   refine awp_join h (fun t3s_2 => [(0, .sl 0), (3, .sl 1), (6, .sl 0), (7, iV (a0.length : Int)), (8, iV t8)]) (fun t3s_2 => [rT a0, oT t3s_2]) ?_ ?_
   ·intro k h
    refine awp_block ?_
    replace ⟨p, h⟩ := k1 h
    refine rm [9] [(4, iV t8), (5, .pp 2 0)] [] [.box [iV ((a0.getD t8.toNat (0, 0, 0)).1), iV ((a0.getD t8.toNat (0, 0, 0)).2.1), iV ((a0.getD t8.toNat (0, 0, 0)).2.2)]] ?_
    replace ⟨⟨_, hp1⟩, h⟩ := k2 h
    refine qm [4] [(25, bV ((t8 == 0) || ((a0.getD ((t8 - 1).toNat) (0, 0, 0)).1 != (a0.getD t8.toNat (0, 0, 0)).1)))] [] [] ?_
    refine awp_if h ?_ ?_ <;> intro hc h
    ·replace ⟨p, h⟩ := k1 h
     refine em [5, 25] [] [(1, oT (t3s ++ [((a0.getD t8.toNat (0, 0, 0)).1, (a0.getD t8.toNat (0, 0, 0)).2.1, (a0.getD t8.toNat (0, 0, 0)).2.2)]))] [oT [((a0.getD t8.toNat (0, 0, 0)).1, (a0.getD t8.toNat (0, 0, 0)).2.1, (a0.getD t8.toNat (0, 0, 0)).2.2)]] ?_
     exact jos [0, 1]
    refine awp_skip ?_
    exact jos [0, 1]
   rintro t3s_2 h
   try dsimp only
   replace ⟨p, h⟩ := k1 h
   refine eg [8] [(8, iV (t8 + 1))] ?_
   exact ln
  exact lo
 rintro t3s_1 h
 try dsimp only
 refine hK22 _ _ ?_
 refine rg [3] [(2, .sl 1)] ?_
 exact fr [0, 1]
theorem k_impl_CombineMessages {a0_0 a0_1 a0_2 a1 r} (h : impl_CombineMessages a0_0 a0_1 a0_2 a1 = some r) : KA Tryz.prog 36 [.agg [iV a0_0, iV a0_1, iV a0_2], .sl 0] [rT a1] (.sl 1) [rT a1, oT r] := by
 unfold impl_CombineMessages at h
 refine FnA.ofA 21 [0] [.tmp 4] Tryz.func36 en36 ?_
 refine rm [0] [(2, .pp 1 0)] [] [.box [iV a0_0, iV a0_1, iV a0_2]] ?_
 refine fz 2 ?_
 refine awp_seq fun K2 hK2 => ?_
 replace ⟨y, hr0, h⟩ := bd h
 have c0 := cm [] (k_impl_ProgramValid hr0)
 refine rm [] [(13, bV ((!y) || (decide (2000 < (a1.length : Int)))))] [] [] ?_
 refine awp_if h ?_ ?_ <;> intro hc h
 ·refine rg [1, 2, 13] [(4, nV)] ?_
  refine awp_red (Red.nil (t := 4) (.trips []) rfl rfl) ?_
  exact fr [0, 2]
 refine sk hK2 ?_
 replace ⟨y_1, hr0, h⟩ := bd h
 refine rc [1, 13] [(5, .sl 2)] [] [oT y_1] [⟨1, [0], k_impl_inOrder hr0⟩] ?_
 refine awp_seq fun K5 hK5 => ?_
 replace ⟨y_2, hr0, h⟩ := bd h
 refine rc [2] [(17, bV y_2)] [] [] [⟨1, [], k_impl_CanCombine hr0⟩] ?_
 refine awp_if h ?_ ?_ <;> intro hc h
 ·replace ⟨y_3, hr0, h⟩ := bd h
  refine rc [5, 17] [(4, .sl 3)] [] [oT y_3] [⟨1, [2], k_impl_leastOnly hr0⟩] ?_
  exact fr [0, 3]
 refine sk hK5 ?_
 refine rg [5, 17] [(4, .sl 2)] ?_
 exact fr [0, 2]
theorem k_impl_CombineState {a0_0 a0_1 a0_2 a1_0 a1_1 a1_2 a1_3 r} (h : impl_CombineState a0_0 a0_1 a0_2 a1_0 a1_1 a1_2 a1_3 = some r) : KA Tryz.prog 13 [.agg [iV a0_0, iV a0_1, iV a0_2], .agg [iV a1_0, .sl 0, .sl 1, .sl 2]] [rI a1_1, rB a1_2, rT a1_3] (.agg [iV r.1, .sl 3, .sl 4, .sl 5]) [rI a1_1, rB a1_2, rT a1_3, oI r.2.1, oB r.2.2.1, oT r.2.2.2] := by
 unfold impl_CombineState at h
 refine FnA.ofA 23 [0, 1, 2] [.cell 4 38] Tryz.func13 en13 ?_
 refine rm [0, 1] [(2, .pp 3 0), (3, .pp 4 0), (4, .pp 5 0)] [] [.box [iV a0_0, iV a0_1, iV a0_2], .box [iV a1_0, .sl 0, .sl 1, .sl 2], .box [iV 0, nV, nV, nV]] ?_
 refine fz 2 ?_
 refine fz 3 ?_
 refine awp_seq fun K2 hK2 => ?_
 replace ⟨y, hr0, h⟩ := bd h
 replace ⟨y_1, hr1, h⟩ := bd h
 have c0 := cm [] (k_impl_ProgramValid hr0)
 have c1 := cm [0, 1, 2] (fun g0 => k_impl_State_ownValid (bite_t hr1 g0))
 refine rm [] [(13, bV ((!y) || (!y_1)))] [] [] ?_
 refine awp_if h ?_ ?_ <;> intro hc h
 ·refine rg [2, 3, 13] [] ?_
  refine nc 5 1 (.ints .i64 []) ?_
  refine nc 5 2 (.bools []) ?_
  refine nc 5 3 (.trips []) ?_
  exact fr [0, 1, 2, 6, 7, 8]
 refine sk hK2 ?_
 replace ⟨y_2, y_3, y_4, y_5, hr0, h⟩ := bd4 h
 refine rc [13] [(5, .pp 9 0)] [] [oI y_3, oB y_4, oT y_5, .box [iV y_2, .sl 6, .sl 7, .sl 8]] [⟨1, [0, 1, 2], k_impl_State_copied hr0⟩] ?_
 replace ⟨y_6, hr0, h⟩ := bd h
 refine rc [2, 3] [] [(9, .box [iV y_2, .sl 6, .sl 7, .sl 10])] [oT y_6] [⟨3, [2], k_impl_CombineMessages hr0⟩] ?_
 refine rm [5] [] [(5, .box [iV y_2, .sl 6, .sl 7, .sl 10])] [] ?_
 exact fr [0, 1, 2, 6, 7, 10]
theorem k_spec_CanCombine {a0_0 a0_1 a0_2 r} (h : spec_CanCombine a0_0 a0_1 a0_2 = some r) : KA Tryz.prog 78 [.agg [iV a0_0, iV a0_1, iV a0_2]] [] (bV r) [] := by
 unfold spec_CanCombine at h
 refine FnA.ofA 10 [] [.tmp 2] Tryz.func78 en78 ?_
 refine rm [0] [(1, .pp 0 0)] [] [.box [iV a0_0, iV a0_1, iV a0_2]] ?_
 refine fz 1 ?_
 replace ⟨y, hr0, h⟩ := bd h
 have c0 := cm [] (k_spec_ProgramValid hr0)
 refine rm [1] [(2, bV (y && (decide (1 ≤ a0_0) && decide (a0_0 ≤ 3))))] [] [] ?_
 exact fr []
theorem k_spec_CombineMessages {a0_0 a0_1 a0_2 a1 r} (h : spec_CombineMessages a0_0 a0_1 a0_2 a1 = some r) : KA Tryz.prog 42 [.agg [iV a0_0, iV a0_1, iV a0_2], .sl 0] [rT a1] (.sl 1) [rT a1, oT r] := by
 unfold spec_CombineMessages at h
 refine FnA.ofA 53 [0] [.tmp 4] Tryz.func42 en42 ?_
 refine rm [0] [(2, .pp 1 0)] [] [.box [iV a0_0, iV a0_1, iV a0_2]] ?_
 refine fz 2 ?_
 refine rm [] [(5, .sl 2)] [] [oT []] ?_
 replace ⟨y, hr0, h⟩ := bd h
 refine rc [1] [(6, .sl 3)] [] [oT y] [⟨1, [0], k_spec_SortMessages hr0⟩] ?_
 refine awp_seq fun K17 hK17 => ?_
 refine rg [] [(7, iV 0)] ?_
 refine awp_block ?_
 refine lp h (fun (t7, t5s) => [(2, .pp 1 0), (5, .sl 2), (6, .sl 3), (7, iV t7)]) (fun (t7, t5s) => [rT a1, .rbox [iV a0_0, iV a0_1, iV a0_2], oT t5s, oT y]) (fun _ => Exit.exit 0) (fun t5s_1 => [(5, .sl 1)]) (fun t5s_1 => [rT a1, oT t5s_1]) ?_ ?_
 ·rintro ⟨t7, t5s⟩ r h
  unfold spec_CombineMessages_b0 at h
  try dsimp only
  refine awp_seq fun K29 hK29 => ?_
  replace ⟨y_1, hr0, h⟩ := bd h
  have c0 := cm [] (fun g0 => k_spec_ProgramValid (bite_t hr0 g0))
  refine rm [] [(19, bV ((decide (t7 < (y.length : Int))) && y_1))] [] [] ?_
  refine awp_if h ?_ ?_ <;> intro hc h
  ·refine sk hK29 ?_
   refine awp_join h (fun t5s_2 => [(2, .pp 1 0), (5, .sl 2), (6, .sl 3), (7, iV t7)]) (fun t5s_2 => [rT a1, .rbox [iV a0_0, iV a0_1, iV a0_2], oT t5s_2, oT y]) ?_ ?_
   ·intro k h
    refine awp_block ?_
    replace ⟨p, h⟩ := k1 h
    refine rg [19] [(8, iV ((t5s.length : Int) - 1))] ?_
    replace ⟨⟨hp0, hp1⟩, h⟩ := k2 h
    replace ⟨y_2, hr2, h⟩ := bd h
    have c0 := cm [] (fun g0 => k_spec_CanCombine (bite_t hr2 g0))
    refine dm (.one 0 (.one 1 (.one 2 (.free 3 (.free 4 (.free 8 (.free 9 (.two 5 10 (.free 6 (.two 7 10 (.one 10 (.one 11 (.one 12 (.one 13 (.one 14 (.one 15 (.one 16 (.one 17 (.one 18 (.one 19 .fin)))))))))) (.free 11 (.two 7 12 (.one 12 (.one 13 (.one 14 (.one 15 (.one 16 (.one 17 (.one 18 (.one 19 .fin)))))))) (.one 7 (.one 13 (.one 14 (.one 15 (.one 16 (.one 17 (.one 18 (.one 19 .fin)))))))))))) (.free 11 (.two 5 12 (.free 6 (.two 7 12 (.one 12 (.one 13 (.one 14 (.one 15 (.one 16 (.one 17 (.one 18 (.one 19 .fin)))))))) (.one 7 (.one 13 (.one 14 (.one 15 (.one 16 (.one 17 (.one 18 (.one 19 .fin)))))))))) (.one 5 (.one 6 (.one 7 (.one 13 (.one 14 (.one 15 (.one 16 (.one 17 (.one 18 (.one 19 .fin)))))))))))))))))))) [8] [(44, bV (((decide (((t5s.length : Int) - 1) < 0)) || ((t5s.getD (((t5s.length : Int) - 1).toNat) (0, 0, 0)).1 != (y.getD t7.toNat (0, 0, 0)).1)) || (!y_2)))] [] [] ?_
    refine awp_if h ?_ ?_ <;> intro hc h
    ·replace ⟨p, h⟩ := k2 h
     refine em [44] [] [(2, oT (t5s ++ [((y.getD t7.toNat (0, 0, 0)).1, (y.getD t7.toNat (0, 0, 0)).2.1, (y.getD t7.toNat (0, 0, 0)).2.2)]))] [oT [((y.getD t7.toNat (0, 0, 0)).1, (y.getD t7.toNat (0, 0, 0)).2.1, (y.getD t7.toNat (0, 0, 0)).2.2)]] ?_
     exact jos [0, 1, 2, 3]
    refine awp_skip ?_
    exact jo
   rintro t5s_2 h
   try dsimp only
   replace ⟨p, h⟩ := k1 h
   refine eg [7] [(7, iV (t7 + 1))] ?_
   exact ln
  exact los [0, 2]
 rintro t5s_1 h
 try dsimp only
 refine hK17 _ _ ?_
 refine rg [5] [(4, .sl 1)] ?_
 exact fr [0, 1]
theorem k_spec_CombineState {a0_0 a0_1 a0_2 a1_0 a1_1 a1_2 a1_3 r} (h : spec_CombineState a0_0 a0_1 a0_2 a1_0 a1_1 a1_2 a1_3 = some r) : KA Tryz.prog 16 [.agg [iV a0_0, iV a0_1, iV a0_2], .agg [iV a1_0, .sl 0, .sl 1, .sl 2]] [rI a1_1, rB a1_2, rT a1_3] (.agg [iV r.1, .sl 3, .sl 4, .sl 5]) [rI a1_1, rB a1_2, rT a1_3, oI r.2.1, oB r.2.2.1, oT r.2.2.2] := by
 unfold spec_CombineState at h
 refine FnA.ofA 34 [0, 1, 2] [.cell 4 38] Tryz.func16 en16 ?_
 refine rm [0, 1] [(2, .pp 3 0), (3, .pp 4 0), (4, .pp 5 0)] [] [.box [iV a0_0, iV a0_1, iV a0_2], .box [iV a1_0, .sl 0, .sl 1, .sl 2], .box [iV 0, nV, nV, nV]] ?_
 refine fz 2 ?_
 replace ⟨y, y_1, y_2, y_3, hr0, h⟩ := bd4 h
 refine rc [] [] [(4, .box [iV y, .sl 6, .sl 7, .sl 8])] [oI y_1, oB y_2, oT y_3] [⟨1, [0, 1, 2], k_spec_l1OwnState hr0⟩] ?_
 refine awp_seq fun K2 hK2 => ?_
 replace ⟨y_4, hr0, h⟩ := bd h
 replace ⟨y_5, hr1, h⟩ := bd h
 have c0 := cm [] (k_spec_ProgramValid hr0)
 have c1 := cm [6, 7, 8] (fun g0 => k_spec_StateValid (bite_t hr1 g0))
 refine rm [] [(17, bV ((!y_4) || (!y_5)))] [] [] ?_
 refine awp_if h ?_ ?_ <;> intro hc h
 ·refine rg [2, 3, 17] [] ?_
  refine nc 5 1 (.ints .i64 []) ?_
  refine nc 5 2 (.bools []) ?_
  refine nc 5 3 (.trips []) ?_
  exact fr [0, 1, 2, 9, 10, 11]
 refine sk hK2 ?_
 replace ⟨p, h⟩ := k2 h
 replace ⟨y_6, hr2, h⟩ := bd h
 refine awp_t [2, 3, 17] [] [(5, .box [iV y, .sl 9, .sl 10, .sl 11])] [oI ([] ++ y_1), oB ([] ++ y_2), oT y_6] ?_ ?_
 ·intro K hK
  refine dM [0, 1, 2, 3, 4, 5, 6, 7, 8] [0, 3, 7, 11, 10] 11 (bt 16 3209) fun L hL hN => ?_
  refine hN.node L 0 (bt 16 65535) 9 [2, 3, 17] [] [(5, .box [iV y, .sl 9, .sl 10, .sl 11])] [oI ([] ++ y_1), oB ([] ++ y_2), oT y_6] ?_ fun n10 hN => ?_
  ·exact hL.fin (by kernel_rfl) (hK _ _ Red.auto)
  refine hN.node L 1 (bt 16 32767) 12 [] [(33, .agg [iV y, .sl 9, .sl 10, .sl 11])] [(5, .box [iV 0, nV, nV, nV])] [] ?_ fun n9 hN => ?_
  ·refine st hL [(15, [], 0, (bt 16 65535))] ⟨?_, trivial⟩
   exact hL.edge n10
  refine hN.node L 3 (bt 16 8191) 11 [33] [(20, iV y), (24, .sl 9), (28, .sl 10), (29, .agg [iV a0_0, iV a0_1, iV a0_2]), (31, .sl 8)] [] [] ?_ fun n8 hN => ?_
  ·refine st hL [(13, [14], 1, (bt 16 32767))] ⟨?_, trivial⟩
   have nn := n9
   exact au6
  refine hN.node L 4 (bt 16 4095) 11 [31] [(30, .pp 4 3)] [] [] ?_ fun n7 hN => ?_
  ·refine st hL [(12, [], 3, (bt 16 8191))] ⟨?_, trivial⟩
   exact hL.edge n8
  refine hN.node L 4 (bt 16 7679) 11 [28, 30] [(25, .sl 10), (27, .sl 7), (31, .sl 8)] [(10, oB [])] [] ?_ fun n11 hN => ?_
  ·refine st hL [(9, [], 3, (bt 16 8191))] ⟨?_, trivial⟩
   exact hL.edge n8
  refine hN.node L 5 (bt 16 3583) 11 [31] [(30, .pp 4 3)] [] [] ?_ fun n6 hN => ?_
  ·refine st hL [(9, [], 4, (bt 16 4095)), (12, [], 4, (bt 16 7679))] ⟨?_, ?_, trivial⟩
   ·exact hL.edge n7
   exact hL.edge n11
  refine hN.node L 5 (bt 16 7423) 11 [27, 30] [(26, .pp 4 2), (31, .sl 8)] [] [] ?_ fun n12 hN => ?_
  ·refine st hL [(8, [], 4, (bt 16 7679))] ⟨?_, trivial⟩
   exact hL.edge n11
  refine hN.node L 6 (bt 16 3327) 11 [31] [(30, .pp 4 3)] [] [] ?_ fun n5 hN => ?_
  ·refine st hL [(8, [], 5, (bt 16 3583)), (12, [], 5, (bt 16 7423))] ⟨?_, ?_, trivial⟩
   ·exact hL.edge n6
   exact hL.edge n12
  refine hN.node L 5 (bt 16 7615) 10 [25, 26, 30] [(27, .sl 7), (31, .sl 8)] [] [] ?_ fun n14 hN => ?_
  ·refine st hL [(6, [], 4, (bt 16 7679))] ⟨?_, trivial⟩
   exact hL.edge n11
  refine hN.node L 6 (bt 16 3519) 10 [31] [(30, .pp 4 3)] [] [] ?_ fun n13 hN => ?_
  ·refine st hL [(6, [], 5, (bt 16 3583)), (12, [], 5, (bt 16 7615))] ⟨?_, ?_, trivial⟩
   ·exact hL.edge n6
   exact hL.edge n14
  refine hN.node L 6 (bt 16 7359) 10 [27, 30] [(26, .pp 4 2), (31, .sl 8)] [] [] ?_ fun n15 hN => ?_
  ·refine st hL [(6, [], 5, (bt 16 7423)), (8, [], 5, (bt 16 7615))] ⟨?_, ?_, trivial⟩
   ·exact hL.edge n12
   exact hL.edge n14
  refine hN.node L 7 (bt 16 3263) 10 [31] [(30, .pp 4 3)] [] [] ?_ fun n4 hN => ?_
  ·refine st hL [(6, [], 6, (bt 16 3327)), (8, [], 6, (bt 16 3519)), (12, [], 6, (bt 16 7359))] ⟨?_, ?_, ?_, trivial⟩
   ·exact hL.edge n5
   ·exact hL.edge n13
   exact hL.edge n15
  refine hN.node L 5 (bt 16 7647) 10 [24, 26, 30] [(21, .sl 9), (23, .sl 6), (25, .sl 10), (27, .sl 7), (31, .sl 8)] [(9, oI [])] [oB []] ?_ fun n18 hN => ?_
  ·refine st hL [(5, [], 4, (bt 16 7679))] ⟨?_, trivial⟩
   exact hL.edge n11
  refine hN.node L 6 (bt 16 3551) 11 [31] [(30, .pp 4 3)] [] [] ?_ fun n17 hN => ?_
  ·refine st hL [(5, [], 5, (bt 16 3583)), (12, [], 5, (bt 16 7647))] ⟨?_, ?_, trivial⟩
   ·exact hL.edge n6
   exact hL.edge n18
  refine hN.node L 6 (bt 16 7391) 11 [27, 30] [(26, .pp 4 2), (31, .sl 8)] [] [] ?_ fun n19 hN => ?_
  ·refine st hL [(5, [], 5, (bt 16 7423)), (8, [], 5, (bt 16 7647))] ⟨?_, ?_, trivial⟩
   ·exact hL.edge n12
   exact hL.edge n18
  refine hN.node L 7 (bt 16 3295) 11 [31] [(30, .pp 4 3)] [] [] ?_ fun n16 hN => ?_
  ·refine st hL [(5, [], 6, (bt 16 3327)), (8, [], 6, (bt 16 3551)), (12, [], 6, (bt 16 7391))] ⟨?_, ?_, ?_, trivial⟩
   ·exact hL.edge n5
   ·exact hL.edge n17
   exact hL.edge n19
  refine hN.node L 6 (bt 16 7583) 10 [25, 26, 30] [(27, .sl 7), (31, .sl 8)] [] [] ?_ fun n21 hN => ?_
  ·refine st hL [(5, [], 5, (bt 16 7615)), (6, [], 5, (bt 16 7647))] ⟨?_, ?_, trivial⟩
   ·exact hL.edge n14
   exact hL.edge n18
  refine hN.node L 7 (bt 16 3487) 10 [31] [(30, .pp 4 3)] [] [] ?_ fun n20 hN => ?_
  ·refine st hL [(5, [], 6, (bt 16 3519)), (6, [], 6, (bt 16 3551)), (12, [], 6, (bt 16 7583))] ⟨?_, ?_, ?_, trivial⟩
   ·exact hL.edge n13
   ·exact hL.edge n17
   exact hL.edge n21
  refine hN.node L 7 (bt 16 7327) 10 [27, 30] [(26, .pp 4 2), (31, .sl 8)] [] [] ?_ fun n22 hN => ?_
  ·refine st hL [(5, [], 6, (bt 16 7359)), (6, [], 6, (bt 16 7391)), (8, [], 6, (bt 16 7583))] ⟨?_, ?_, ?_, trivial⟩
   ·exact hL.edge n15
   ·exact hL.edge n19
   exact hL.edge n21
  refine hN.node L 8 (bt 16 3231) 10 [31] [(30, .pp 4 3)] [] [] ?_ fun n3 hN => ?_
  ·refine st hL [(5, [], 7, (bt 16 3263)), (6, [], 7, (bt 16 3295)), (8, [], 7, (bt 16 3487)), (12, [], 7, (bt 16 7327))] ⟨?_, ?_, ?_, ?_, trivial⟩
   ·exact hL.edge n4
   ·exact hL.edge n16
   ·exact hL.edge n20
   exact hL.edge n22
  refine hN.node L 6 (bt 16 7631) 10 [23, 26, 30] [(22, .pp 4 1), (25, .sl 10), (27, .sl 7), (31, .sl 8)] [] [oB []] ?_ fun n25 hN => ?_
  ·refine st hL [(4, [], 5, (bt 16 7647))] ⟨?_, trivial⟩
   exact hL.edge n18
  refine hN.node L 7 (bt 16 3535) 11 [31] [(30, .pp 4 3)] [] [] ?_ fun n24 hN => ?_
  ·refine st hL [(4, [], 6, (bt 16 3551)), (12, [], 6, (bt 16 7631))] ⟨?_, ?_, trivial⟩
   ·exact hL.edge n17
   exact hL.edge n25
  refine hN.node L 7 (bt 16 7375) 11 [27, 30] [(26, .pp 4 2), (31, .sl 8)] [] [] ?_ fun n26 hN => ?_
  ·refine st hL [(4, [], 6, (bt 16 7391)), (8, [], 6, (bt 16 7631))] ⟨?_, ?_, trivial⟩
   ·exact hL.edge n19
   exact hL.edge n25
  refine hN.node L 8 (bt 16 3279) 11 [31] [(30, .pp 4 3)] [] [] ?_ fun n23 hN => ?_
  ·refine st hL [(4, [], 7, (bt 16 3295)), (8, [], 7, (bt 16 3535)), (12, [], 7, (bt 16 7375))] ⟨?_, ?_, ?_, trivial⟩
   ·exact hL.edge n16
   ·exact hL.edge n24
   exact hL.edge n26
  refine hN.node L 7 (bt 16 7567) 10 [25, 26, 30] [(27, .sl 7), (31, .sl 8)] [] [] ?_ fun n28 hN => ?_
  ·refine st hL [(4, [], 6, (bt 16 7583)), (6, [], 6, (bt 16 7631))] ⟨?_, ?_, trivial⟩
   ·exact hL.edge n21
   exact hL.edge n25
  refine hN.node L 8 (bt 16 3471) 10 [31] [(30, .pp 4 3)] [] [] ?_ fun n27 hN => ?_
  ·refine st hL [(4, [], 7, (bt 16 3487)), (6, [], 7, (bt 16 3535)), (12, [], 7, (bt 16 7567))] ⟨?_, ?_, ?_, trivial⟩
   ·exact hL.edge n20
   ·exact hL.edge n24
   exact hL.edge n28
  refine hN.node L 8 (bt 16 7311) 10 [27, 30] [(26, .pp 4 2), (31, .sl 8)] [] [] ?_ fun n29 hN => ?_
  ·refine st hL [(4, [], 7, (bt 16 7327)), (6, [], 7, (bt 16 7375)), (8, [], 7, (bt 16 7567))] ⟨?_, ?_, ?_, trivial⟩
   ·exact hL.edge n22
   ·exact hL.edge n26
   exact hL.edge n28
  refine hN.node L 9 (bt 16 3215) 10 [31] [(30, .pp 4 3)] [] [] ?_ fun n2 hN => ?_
  ·refine st hL [(4, [], 8, (bt 16 3231)), (6, [], 8, (bt 16 3279)), (8, [], 8, (bt 16 3471)), (12, [], 8, (bt 16 7311))] ⟨?_, ?_, ?_, ?_, trivial⟩
   ·exact hL.edge n3
   ·exact hL.edge n23
   ·exact hL.edge n27
   exact hL.edge n29
  refine hN.node L 6 (bt 16 7643) 10 [21, 22, 26, 30] [(23, .sl 6), (25, .sl 9), (27, .sl 7), (31, .sl 8)] [(9, oB [])] [] ?_ fun n33 hN => ?_
  ·refine st hL [(2, [], 5, (bt 16 7647))] ⟨?_, trivial⟩
   exact hL.edgeS [0, 1, 2, 3, 4, 5, 6, 7, 8, 10, 9] n18
  refine hN.node L 7 (bt 16 3547) 10 [31] [(30, .pp 4 3)] [] [] ?_ fun n32 hN => ?_
  ·refine st hL [(2, [], 6, (bt 16 3551)), (12, [], 6, (bt 16 7643))] ⟨?_, ?_, trivial⟩
   ·exact hL.edgeS [0, 1, 2, 3, 4, 5, 6, 7, 8, 10, 9] n17
   exact hL.edge n33
  refine hN.node L 7 (bt 16 7387) 10 [27, 30] [(26, .pp 4 2), (31, .sl 8)] [] [] ?_ fun n34 hN => ?_
  ·refine st hL [(2, [], 6, (bt 16 7391)), (8, [], 6, (bt 16 7643))] ⟨?_, ?_, trivial⟩
   ·exact hL.edgeS [0, 1, 2, 3, 4, 5, 6, 7, 8, 10, 9] n19
   exact hL.edge n33
  refine hN.node L 8 (bt 16 3291) 10 [31] [(30, .pp 4 3)] [] [] ?_ fun n31 hN => ?_
  ·refine st hL [(2, [], 7, (bt 16 3295)), (8, [], 7, (bt 16 3547)), (12, [], 7, (bt 16 7387))] ⟨?_, ?_, ?_, trivial⟩
   ·exact hL.edgeS [0, 1, 2, 3, 4, 5, 6, 7, 8, 10, 9] n16
   ·exact hL.edge n32
   exact hL.edge n34
  refine hN.node L 7 (bt 16 7579) 9 [25, 26, 30] [(27, .sl 7), (31, .sl 8)] [] [] ?_ fun n36 hN => ?_
  ·refine st hL [(2, [], 6, (bt 16 7583)), (6, [], 6, (bt 16 7643))] ⟨?_, ?_, trivial⟩
   ·exact hL.edge n21
   exact hL.edge n33
  refine hN.node L 8 (bt 16 3483) 9 [31] [(30, .pp 4 3)] [] [] ?_ fun n35 hN => ?_
  ·refine st hL [(2, [], 7, (bt 16 3487)), (6, [], 7, (bt 16 3547)), (12, [], 7, (bt 16 7579))] ⟨?_, ?_, ?_, trivial⟩
   ·exact hL.edge n20
   ·exact hL.edge n32
   exact hL.edge n36
  refine hN.node L 8 (bt 16 7323) 9 [27, 30] [(26, .pp 4 2), (31, .sl 8)] [] [] ?_ fun n37 hN => ?_
  ·refine st hL [(2, [], 7, (bt 16 7327)), (6, [], 7, (bt 16 7387)), (8, [], 7, (bt 16 7579))] ⟨?_, ?_, ?_, trivial⟩
   ·exact hL.edge n22
   ·exact hL.edge n34
   exact hL.edge n36
  refine hN.node L 9 (bt 16 3227) 9 [31] [(30, .pp 4 3)] [] [] ?_ fun n30 hN => ?_
  ·refine st hL [(2, [], 8, (bt 16 3231)), (6, [], 8, (bt 16 3291)), (8, [], 8, (bt 16 3483)), (12, [], 8, (bt 16 7323))] ⟨?_, ?_, ?_, ?_, trivial⟩
   ·exact hL.edge n3
   ·exact hL.edge n31
   ·exact hL.edge n35
   exact hL.edge n37
  refine hN.node L 7 (bt 16 7627) 9 [23, 26, 30] [(22, .pp 4 1), (25, .sl 9), (27, .sl 7), (31, .sl 8)] [] [oB []] ?_ fun n40 hN => ?_
  ·refine st hL [(2, [], 6, (bt 16 7631)), (4, [], 6, (bt 16 7643))] ⟨?_, ?_, trivial⟩
   ·exact hL.edgeS [0, 1, 2, 3, 4, 5, 6, 7, 8, 10, 9] n25
   exact hL.edge n33
  refine hN.node L 8 (bt 16 3531) 10 [31] [(30, .pp 4 3)] [] [] ?_ fun n39 hN => ?_
  ·refine st hL [(2, [], 7, (bt 16 3535)), (4, [], 7, (bt 16 3547)), (12, [], 7, (bt 16 7627))] ⟨?_, ?_, ?_, trivial⟩
   ·exact hL.edgeS [0, 1, 2, 3, 4, 5, 6, 7, 8, 10, 9] n24
   ·exact hL.edge n32
   exact hL.edge n40
  refine hN.node L 8 (bt 16 7371) 10 [27, 30] [(26, .pp 4 2), (31, .sl 8)] [] [] ?_ fun n41 hN => ?_
  ·refine st hL [(2, [], 7, (bt 16 7375)), (4, [], 7, (bt 16 7387)), (8, [], 7, (bt 16 7627))] ⟨?_, ?_, ?_, trivial⟩
   ·exact hL.edgeS [0, 1, 2, 3, 4, 5, 6, 7, 8, 10, 9] n26
   ·exact hL.edge n34
   exact hL.edge n40
  refine hN.node L 9 (bt 16 3275) 10 [31] [(30, .pp 4 3)] [] [] ?_ fun n38 hN => ?_
  ·refine st hL [(2, [], 8, (bt 16 3279)), (4, [], 8, (bt 16 3291)), (8, [], 8, (bt 16 3531)), (12, [], 8, (bt 16 7371))] ⟨?_, ?_, ?_, ?_, trivial⟩
   ·exact hL.edgeS [0, 1, 2, 3, 4, 5, 6, 7, 8, 10, 9] n23
   ·exact hL.edge n31
   ·exact hL.edge n39
   exact hL.edge n41
  refine hN.node L 8 (bt 16 7563) 9 [25, 26, 30] [(27, .sl 7), (31, .sl 8)] [] [] ?_ fun n43 hN => ?_
  ·refine st hL [(2, [], 7, (bt 16 7567)), (4, [], 7, (bt 16 7579)), (6, [], 7, (bt 16 7627))] ⟨?_, ?_, ?_, trivial⟩
   ·exact hL.edge n28
   ·exact hL.edge n36
   exact hL.edge n40
  refine hN.node L 9 (bt 16 3467) 9 [31] [(30, .pp 4 3)] [] [] ?_ fun n42 hN => ?_
  ·refine st hL [(2, [], 8, (bt 16 3471)), (4, [], 8, (bt 16 3483)), (6, [], 8, (bt 16 3531)), (12, [], 8, (bt 16 7563))] ⟨?_, ?_, ?_, ?_, trivial⟩
   ·exact hL.edge n27
   ·exact hL.edge n35
   ·exact hL.edge n39
   exact hL.edge n43
  refine hN.node L 9 (bt 16 7307) 9 [27, 30] [(26, .pp 4 2), (31, .sl 8)] [] [] ?_ fun n44 hN => ?_
  ·refine st hL [(2, [], 8, (bt 16 7311)), (4, [], 8, (bt 16 7323)), (6, [], 8, (bt 16 7371)), (8, [], 8, (bt 16 7563))] ⟨?_, ?_, ?_, ?_, trivial⟩
   ·exact hL.edge n29
   ·exact hL.edge n37
   ·exact hL.edge n41
   exact hL.edge n43
  refine hN.node L 10 (bt 16 3211) 9 [31] [(30, .pp 4 3)] [] [] ?_ fun n1 hN => ?_
  ·refine st hL [(2, [], 9, (bt 16 3215)), (4, [], 9, (bt 16 3227)), (6, [], 9, (bt 16 3275)), (8, [], 9, (bt 16 3467)), (12, [], 9, (bt 16 7307))] ⟨?_, ?_, ?_, ?_, ?_, trivial⟩
   ·exact hL.edge n2
   ·exact hL.edge n30
   ·exact hL.edge n38
   ·exact hL.edge n42
   exact hL.edge n44
  refine hN.node L 3 (bt 16 16381) 9 [20, 22, 26, 29, 30] [(19, .pp 4 0), (24, .sl 9), (28, .sl 10), (32, .sl 11)] [] [oI ([] ++ y_1), oB ([] ++ y_2), oT y_6] ?_ fun n52 hN => ?_
  ·refine st hL [(1, [14], 1, (bt 16 32767))] ⟨?_, trivial⟩
   exact hL.edge n9
  refine hN.node L 4 (bt 16 8189) 11 [32] [(29, .agg [iV a0_0, iV a0_1, iV a0_2]), (31, .sl 8)] [] [] ?_ fun n51 hN => ?_
  ·refine st hL [(1, [], 3, (bt 16 8191)), (13, [], 3, (bt 16 16381))] ⟨?_, ?_, trivial⟩
   ·exact hL.edge n8
   have nn := n52
   exact au6
  refine hN.node L 5 (bt 16 4093) 11 [31] [(30, .pp 4 3)] [] [] ?_ fun n50 hN => ?_
  ·refine st hL [(1, [], 4, (bt 16 4095)), (12, [], 4, (bt 16 8189))] ⟨?_, ?_, trivial⟩
   ·exact hL.edge n7
   exact hL.edge n51
  refine hN.node L 5 (bt 16 7677) 11 [28, 30] [(25, .sl 10), (27, .sl 7), (31, .sl 8)] [(10, oB [])] [] ?_ fun n53 hN => ?_
  ·refine st hL [(1, [], 4, (bt 16 7679)), (9, [], 4, (bt 16 8189))] ⟨?_, ?_, trivial⟩
   ·exact hL.edge n11
   exact hL.edge n51
  refine hN.node L 6 (bt 16 3581) 11 [31] [(30, .pp 4 3)] [] [] ?_ fun n49 hN => ?_
  ·refine st hL [(1, [], 5, (bt 16 3583)), (9, [], 5, (bt 16 4093)), (12, [], 5, (bt 16 7677))] ⟨?_, ?_, ?_, trivial⟩
   ·exact hL.edge n6
   ·exact hL.edge n50
   exact hL.edge n53
  refine hN.node L 6 (bt 16 7421) 11 [27, 30] [(26, .pp 4 2), (31, .sl 8)] [] [] ?_ fun n54 hN => ?_
  ·refine st hL [(1, [], 5, (bt 16 7423)), (8, [], 5, (bt 16 7677))] ⟨?_, ?_, trivial⟩
   ·exact hL.edge n12
   exact hL.edge n53
  refine hN.node L 7 (bt 16 3325) 11 [31] [(30, .pp 4 3)] [] [] ?_ fun n48 hN => ?_
  ·refine st hL [(1, [], 6, (bt 16 3327)), (8, [], 6, (bt 16 3581)), (12, [], 6, (bt 16 7421))] ⟨?_, ?_, ?_, trivial⟩
   ·exact hL.edge n5
   ·exact hL.edge n49
   exact hL.edge n54
  refine hN.node L 6 (bt 16 7613) 10 [25, 26, 30] [(27, .sl 7), (31, .sl 8)] [] [] ?_ fun n56 hN => ?_
  ·refine st hL [(1, [], 5, (bt 16 7615)), (6, [], 5, (bt 16 7677))] ⟨?_, ?_, trivial⟩
   ·exact hL.edge n14
   exact hL.edge n53
  refine hN.node L 7 (bt 16 3517) 10 [31] [(30, .pp 4 3)] [] [] ?_ fun n55 hN => ?_
  ·refine st hL [(1, [], 6, (bt 16 3519)), (6, [], 6, (bt 16 3581)), (12, [], 6, (bt 16 7613))] ⟨?_, ?_, ?_, trivial⟩
   ·exact hL.edge n13
   ·exact hL.edge n49
   exact hL.edge n56
  refine hN.node L 7 (bt 16 7357) 10 [27, 30] [(26, .pp 4 2), (31, .sl 8)] [] [] ?_ fun n57 hN => ?_
  ·refine st hL [(1, [], 6, (bt 16 7359)), (6, [], 6, (bt 16 7421)), (8, [], 6, (bt 16 7613))] ⟨?_, ?_, ?_, trivial⟩
   ·exact hL.edge n15
   ·exact hL.edge n54
   exact hL.edge n56
  refine hN.node L 8 (bt 16 3261) 10 [31] [(30, .pp 4 3)] [] [] ?_ fun n47 hN => ?_
  ·refine st hL [(1, [], 7, (bt 16 3263)), (6, [], 7, (bt 16 3325)), (8, [], 7, (bt 16 3517)), (12, [], 7, (bt 16 7357))] ⟨?_, ?_, ?_, ?_, trivial⟩
   ·exact hL.edge n4
   ·exact hL.edge n48
   ·exact hL.edge n55
   exact hL.edge n57
  refine hN.node L 6 (bt 16 7645) 10 [24, 26, 30] [(21, .sl 9), (23, .sl 6), (25, .sl 10), (27, .sl 7), (31, .sl 8)] [(9, oI [])] [oB []] ?_ fun n60 hN => ?_
  ·refine st hL [(1, [], 5, (bt 16 7647)), (5, [], 5, (bt 16 7677))] ⟨?_, ?_, trivial⟩
   ·exact hL.edge n18
   exact hL.edge n53
  refine hN.node L 7 (bt 16 3549) 11 [31] [(30, .pp 4 3)] [] [] ?_ fun n59 hN => ?_
  ·refine st hL [(1, [], 6, (bt 16 3551)), (5, [], 6, (bt 16 3581)), (12, [], 6, (bt 16 7645))] ⟨?_, ?_, ?_, trivial⟩
   ·exact hL.edge n17
   ·exact hL.edge n49
   exact hL.edge n60
  refine hN.node L 7 (bt 16 7389) 11 [27, 30] [(26, .pp 4 2), (31, .sl 8)] [] [] ?_ fun n61 hN => ?_
  ·refine st hL [(1, [], 6, (bt 16 7391)), (5, [], 6, (bt 16 7421)), (8, [], 6, (bt 16 7645))] ⟨?_, ?_, ?_, trivial⟩
   ·exact hL.edge n19
   ·exact hL.edge n54
   exact hL.edge n60
  refine hN.node L 8 (bt 16 3293) 11 [31] [(30, .pp 4 3)] [] [] ?_ fun n58 hN => ?_
  ·refine st hL [(1, [], 7, (bt 16 3295)), (5, [], 7, (bt 16 3325)), (8, [], 7, (bt 16 3549)), (12, [], 7, (bt 16 7389))] ⟨?_, ?_, ?_, ?_, trivial⟩
   ·exact hL.edge n16
   ·exact hL.edge n48
   ·exact hL.edge n59
   exact hL.edge n61
  refine hN.node L 7 (bt 16 7581) 10 [25, 26, 30] [(27, .sl 7), (31, .sl 8)] [] [] ?_ fun n63 hN => ?_
  ·refine st hL [(1, [], 6, (bt 16 7583)), (5, [], 6, (bt 16 7613)), (6, [], 6, (bt 16 7645))] ⟨?_, ?_, ?_, trivial⟩
   ·exact hL.edge n21
   ·exact hL.edge n56
   exact hL.edge n60
  refine hN.node L 8 (bt 16 3485) 10 [31] [(30, .pp 4 3)] [] [] ?_ fun n62 hN => ?_
  ·refine st hL [(1, [], 7, (bt 16 3487)), (5, [], 7, (bt 16 3517)), (6, [], 7, (bt 16 3549)), (12, [], 7, (bt 16 7581))] ⟨?_, ?_, ?_, ?_, trivial⟩
   ·exact hL.edge n20
   ·exact hL.edge n55
   ·exact hL.edge n59
   exact hL.edge n63
  refine hN.node L 8 (bt 16 7325) 10 [27, 30] [(26, .pp 4 2), (31, .sl 8)] [] [] ?_ fun n64 hN => ?_
  ·refine st hL [(1, [], 7, (bt 16 7327)), (5, [], 7, (bt 16 7357)), (6, [], 7, (bt 16 7389)), (8, [], 7, (bt 16 7581))] ⟨?_, ?_, ?_, ?_, trivial⟩
   ·exact hL.edge n22
   ·exact hL.edge n57
   ·exact hL.edge n61
   exact hL.edge n63
  refine hN.node L 9 (bt 16 3229) 10 [31] [(30, .pp 4 3)] [] [] ?_ fun n46 hN => ?_
  ·refine st hL [(1, [], 8, (bt 16 3231)), (5, [], 8, (bt 16 3261)), (6, [], 8, (bt 16 3293)), (8, [], 8, (bt 16 3485)), (12, [], 8, (bt 16 7325))] ⟨?_, ?_, ?_, ?_, ?_, trivial⟩
   ·exact hL.edge n3
   ·exact hL.edge n47
   ·exact hL.edge n58
   ·exact hL.edge n62
   exact hL.edge n64
  refine hN.node L 7 (bt 16 7629) 10 [23, 26, 30] [(22, .pp 4 1), (25, .sl 10), (27, .sl 7), (31, .sl 8)] [] [oB []] ?_ fun n67 hN => ?_
  ·refine st hL [(1, [], 6, (bt 16 7631)), (4, [], 6, (bt 16 7645))] ⟨?_, ?_, trivial⟩
   ·exact hL.edge n25
   exact hL.edge n60
  refine hN.node L 8 (bt 16 3533) 11 [31] [(30, .pp 4 3)] [] [] ?_ fun n66 hN => ?_
  ·refine st hL [(1, [], 7, (bt 16 3535)), (4, [], 7, (bt 16 3549)), (12, [], 7, (bt 16 7629))] ⟨?_, ?_, ?_, trivial⟩
   ·exact hL.edge n24
   ·exact hL.edge n59
   exact hL.edge n67
  refine hN.node L 8 (bt 16 7373) 11 [27, 30] [(26, .pp 4 2), (31, .sl 8)] [] [] ?_ fun n68 hN => ?_
  ·refine st hL [(1, [], 7, (bt 16 7375)), (4, [], 7, (bt 16 7389)), (8, [], 7, (bt 16 7629))] ⟨?_, ?_, ?_, trivial⟩
   ·exact hL.edge n26
   ·exact hL.edge n61
   exact hL.edge n67
  refine hN.node L 9 (bt 16 3277) 11 [31] [(30, .pp 4 3)] [] [] ?_ fun n65 hN => ?_
  ·refine st hL [(1, [], 8, (bt 16 3279)), (4, [], 8, (bt 16 3293)), (8, [], 8, (bt 16 3533)), (12, [], 8, (bt 16 7373))] ⟨?_, ?_, ?_, ?_, trivial⟩
   ·exact hL.edge n23
   ·exact hL.edge n58
   ·exact hL.edge n66
   exact hL.edge n68
  refine hN.node L 8 (bt 16 7565) 10 [25, 26, 30] [(27, .sl 7), (31, .sl 8)] [] [] ?_ fun n70 hN => ?_
  ·refine st hL [(1, [], 7, (bt 16 7567)), (4, [], 7, (bt 16 7581)), (6, [], 7, (bt 16 7629))] ⟨?_, ?_, ?_, trivial⟩
   ·exact hL.edge n28
   ·exact hL.edge n63
   exact hL.edge n67
  refine hN.node L 9 (bt 16 3469) 10 [31] [(30, .pp 4 3)] [] [] ?_ fun n69 hN => ?_
  ·refine st hL [(1, [], 8, (bt 16 3471)), (4, [], 8, (bt 16 3485)), (6, [], 8, (bt 16 3533)), (12, [], 8, (bt 16 7565))] ⟨?_, ?_, ?_, ?_, trivial⟩
   ·exact hL.edge n27
   ·exact hL.edge n62
   ·exact hL.edge n66
   exact hL.edge n70
  refine hN.node L 9 (bt 16 7309) 10 [27, 30] [(26, .pp 4 2), (31, .sl 8)] [] [] ?_ fun n71 hN => ?_
  ·refine st hL [(1, [], 8, (bt 16 7311)), (4, [], 8, (bt 16 7325)), (6, [], 8, (bt 16 7373)), (8, [], 8, (bt 16 7565))] ⟨?_, ?_, ?_, ?_, trivial⟩
   ·exact hL.edge n29
   ·exact hL.edge n64
   ·exact hL.edge n68
   exact hL.edge n70
  refine hN.node L 10 (bt 16 3213) 10 [31] [(30, .pp 4 3)] [] [] ?_ fun n45 hN => ?_
  ·refine st hL [(1, [], 9, (bt 16 3215)), (4, [], 9, (bt 16 3229)), (6, [], 9, (bt 16 3277)), (8, [], 9, (bt 16 3469)), (12, [], 9, (bt 16 7309))] ⟨?_, ?_, ?_, ?_, ?_, trivial⟩
   ·exact hL.edge n2
   ·exact hL.edge n46
   ·exact hL.edge n65
   ·exact hL.edge n69
   exact hL.edge n71
  refine hN.node L 7 (bt 16 7641) 10 [21, 22, 26, 30] [(23, .sl 6), (25, .sl 9), (27, .sl 7), (31, .sl 8)] [(9, oB [])] [] ?_ fun n75 hN => ?_
  ·refine st hL [(1, [], 6, (bt 16 7643)), (2, [], 6, (bt 16 7645))] ⟨?_, ?_, trivial⟩
   ·exact hL.edge n33
   exact hL.edgeS [0, 1, 2, 3, 4, 5, 6, 7, 8, 10, 9] n60
  refine hN.node L 8 (bt 16 3545) 10 [31] [(30, .pp 4 3)] [] [] ?_ fun n74 hN => ?_
  ·refine st hL [(1, [], 7, (bt 16 3547)), (2, [], 7, (bt 16 3549)), (12, [], 7, (bt 16 7641))] ⟨?_, ?_, ?_, trivial⟩
   ·exact hL.edge n32
   ·exact hL.edgeS [0, 1, 2, 3, 4, 5, 6, 7, 8, 10, 9] n59
   exact hL.edge n75
  refine hN.node L 8 (bt 16 7385) 10 [27, 30] [(26, .pp 4 2), (31, .sl 8)] [] [] ?_ fun n76 hN => ?_
  ·refine st hL [(1, [], 7, (bt 16 7387)), (2, [], 7, (bt 16 7389)), (8, [], 7, (bt 16 7641))] ⟨?_, ?_, ?_, trivial⟩
   ·exact hL.edge n34
   ·exact hL.edgeS [0, 1, 2, 3, 4, 5, 6, 7, 8, 10, 9] n61
   exact hL.edge n75
  refine hN.node L 9 (bt 16 3289) 10 [31] [(30, .pp 4 3)] [] [] ?_ fun n73 hN => ?_
  ·refine st hL [(1, [], 8, (bt 16 3291)), (2, [], 8, (bt 16 3293)), (8, [], 8, (bt 16 3545)), (12, [], 8, (bt 16 7385))] ⟨?_, ?_, ?_, ?_, trivial⟩
   ·exact hL.edge n31
   ·exact hL.edgeS [0, 1, 2, 3, 4, 5, 6, 7, 8, 10, 9] n58
   ·exact hL.edge n74
   exact hL.edge n76
  refine hN.node L 8 (bt 16 7577) 9 [25, 26, 30] [(27, .sl 7), (31, .sl 8)] [] [] ?_ fun n78 hN => ?_
  ·refine st hL [(1, [], 7, (bt 16 7579)), (2, [], 7, (bt 16 7581)), (6, [], 7, (bt 16 7641))] ⟨?_, ?_, ?_, trivial⟩
   ·exact hL.edge n36
   ·exact hL.edge n63
   exact hL.edge n75
  refine hN.node L 9 (bt 16 3481) 9 [31] [(30, .pp 4 3)] [] [] ?_ fun n77 hN => ?_
  ·refine st hL [(1, [], 8, (bt 16 3483)), (2, [], 8, (bt 16 3485)), (6, [], 8, (bt 16 3545)), (12, [], 8, (bt 16 7577))] ⟨?_, ?_, ?_, ?_, trivial⟩
   ·exact hL.edge n35
   ·exact hL.edge n62
   ·exact hL.edge n74
   exact hL.edge n78
  refine hN.node L 9 (bt 16 7321) 9 [27, 30] [(26, .pp 4 2), (31, .sl 8)] [] [] ?_ fun n79 hN => ?_
  ·refine st hL [(1, [], 8, (bt 16 7323)), (2, [], 8, (bt 16 7325)), (6, [], 8, (bt 16 7385)), (8, [], 8, (bt 16 7577))] ⟨?_, ?_, ?_, ?_, trivial⟩
   ·exact hL.edge n37
   ·exact hL.edge n64
   ·exact hL.edge n76
   exact hL.edge n78
  refine hN.node L 10 (bt 16 3225) 9 [31] [(30, .pp 4 3)] [] [] ?_ fun n72 hN => ?_
  ·refine st hL [(1, [], 9, (bt 16 3227)), (2, [], 9, (bt 16 3229)), (6, [], 9, (bt 16 3289)), (8, [], 9, (bt 16 3481)), (12, [], 9, (bt 16 7321))] ⟨?_, ?_, ?_, ?_, ?_, trivial⟩
   ·exact hL.edge n30
   ·exact hL.edge n46
   ·exact hL.edge n73
   ·exact hL.edge n77
   exact hL.edge n79
  refine hN.node L 8 (bt 16 7625) 9 [23, 26, 30] [(22, .pp 4 1), (25, .sl 9), (27, .sl 7), (31, .sl 8)] [] [oB []] ?_ fun n82 hN => ?_
  ·refine st hL [(1, [], 7, (bt 16 7627)), (2, [], 7, (bt 16 7629)), (4, [], 7, (bt 16 7641))] ⟨?_, ?_, ?_, trivial⟩
   ·exact hL.edge n40
   ·exact hL.edgeS [0, 1, 2, 3, 4, 5, 6, 7, 8, 10, 9] n67
   exact hL.edge n75
  refine hN.node L 9 (bt 16 3529) 10 [31] [(30, .pp 4 3)] [] [] ?_ fun n81 hN => ?_
  ·refine st hL [(1, [], 8, (bt 16 3531)), (2, [], 8, (bt 16 3533)), (4, [], 8, (bt 16 3545)), (12, [], 8, (bt 16 7625))] ⟨?_, ?_, ?_, ?_, trivial⟩
   ·exact hL.edge n39
   ·exact hL.edgeS [0, 1, 2, 3, 4, 5, 6, 7, 8, 10, 9] n66
   ·exact hL.edge n74
   exact hL.edge n82
  refine hN.node L 9 (bt 16 7369) 10 [27, 30] [(26, .pp 4 2), (31, .sl 8)] [] [] ?_ fun n83 hN => ?_
  ·refine st hL [(1, [], 8, (bt 16 7371)), (2, [], 8, (bt 16 7373)), (4, [], 8, (bt 16 7385)), (8, [], 8, (bt 16 7625))] ⟨?_, ?_, ?_, ?_, trivial⟩
   ·exact hL.edge n41
   ·exact hL.edgeS [0, 1, 2, 3, 4, 5, 6, 7, 8, 10, 9] n68
   ·exact hL.edge n76
   exact hL.edge n82
  refine hN.node L 10 (bt 16 3273) 10 [31] [(30, .pp 4 3)] [] [] ?_ fun n80 hN => ?_
  ·refine st hL [(1, [], 9, (bt 16 3275)), (2, [], 9, (bt 16 3277)), (4, [], 9, (bt 16 3289)), (8, [], 9, (bt 16 3529)), (12, [], 9, (bt 16 7369))] ⟨?_, ?_, ?_, ?_, ?_, trivial⟩
   ·exact hL.edge n38
   ·exact hL.edgeS [0, 1, 2, 3, 4, 5, 6, 7, 8, 10, 9] n65
   ·exact hL.edge n73
   ·exact hL.edge n81
   exact hL.edge n83
  refine hN.node L 9 (bt 16 7561) 9 [25, 26, 30] [(27, .sl 7), (31, .sl 8)] [] [] ?_ fun n85 hN => ?_
  ·refine st hL [(1, [], 8, (bt 16 7563)), (2, [], 8, (bt 16 7565)), (4, [], 8, (bt 16 7577)), (6, [], 8, (bt 16 7625))] ⟨?_, ?_, ?_, ?_, trivial⟩
   ·exact hL.edge n43
   ·exact hL.edge n70
   ·exact hL.edge n78
   exact hL.edge n82
  refine hN.node L 10 (bt 16 3465) 9 [31] [(30, .pp 4 3)] [] [] ?_ fun n84 hN => ?_
  ·refine st hL [(1, [], 9, (bt 16 3467)), (2, [], 9, (bt 16 3469)), (4, [], 9, (bt 16 3481)), (6, [], 9, (bt 16 3529)), (12, [], 9, (bt 16 7561))] ⟨?_, ?_, ?_, ?_, ?_, trivial⟩
   ·exact hL.edge n42
   ·exact hL.edge n69
   ·exact hL.edge n77
   ·exact hL.edge n81
   exact hL.edge n85
  refine hN.node L 10 (bt 16 7305) 9 [27, 30] [(26, .pp 4 2), (31, .sl 8)] [] [] ?_ fun n86 hN => ?_
  ·refine st hL [(1, [], 9, (bt 16 7307)), (2, [], 9, (bt 16 7309)), (4, [], 9, (bt 16 7321)), (6, [], 9, (bt 16 7369)), (8, [], 9, (bt 16 7561))] ⟨?_, ?_, ?_, ?_, ?_, trivial⟩
   ·exact hL.edge n44
   ·exact hL.edge n71
   ·exact hL.edge n79
   ·exact hL.edge n83
   exact hL.edge n85
  refine hN.node L 11 (bt 16 3209) 9 [31] [(30, .pp 4 3)] [] [] ?_ fun n0 hN => ?_
  ·refine st hL [(1, [], 10, (bt 16 3211)), (2, [], 10, (bt 16 3213)), (4, [], 10, (bt 16 3225)), (6, [], 10, (bt 16 3273)), (8, [], 10, (bt 16 3465)), (12, [], 10, (bt 16 7305))] ⟨?_, ?_, ?_, ?_, ?_, ?_, trivial⟩
   ·exact hL.edge n1
   ·exact hL.edge n45
   ·exact hL.edge n72
   ·exact hL.edge n80
   ·exact hL.edge n84
   exact hL.edge n86
  have nn := n0
  exact au5
 exact fr [0, 1, 2, 9, 10, 11]
theorem k_laws_sameInts {a0 a1 r} (h : laws_sameInts a0 a1 = some r) : KA Tryz.prog 8 [.sl 0, .sl 1] [rI a0, rI a1] (bV r) [rI a0, rI a1] := by
 unfold laws_sameInts at h
 refine FnA.ofA 26 [0, 1] [.tmp 4] Tryz.func8 en8 ?_
 refine rg [] [] ?_
 refine awp_seq fun K2 hK2 => ?_
 refine rg [] [(10, bV ((a0.length : Int) != (a1.length : Int)))] ?_
 refine awp_if h ?_ ?_ <;> intro hc h
 ·refine rg [0, 1, 10] [(4, bV false)] ?_
  exact fr [0, 1]
 refine sk hK2 ?_
 refine awp_seq fun K23 hK23 => ?_
 refine rg [10] [(5, iV 0)] ?_
 refine awp_block ?_
 refine lp2 h (fun t5 => [(0, .sl 0), (1, .sl 1), (5, iV t5)]) (fun t5 => [rI a0, rI a1]) (fun _ => Exit.exit 0) (fun _ => []) (fun _ => [rI a0, rI a1]) (fun _ => Exit.ret) (fun _ => [(4, bV false)]) (fun _ => [rI a0, rI a1]) ?_ ?_ ?_
 ·rintro t5 r h
  unfold laws_sameInts_b0 at h
  try dsimp only
  refine awp_seq fun K37 hK37 => ?_
  refine rg [] [(14, bV (decide (t5 < (a0.length : Int))))] ?_
  refine awp_if h ?_ ?_ <;> intro hc h
  ·refine sk hK37 ?_
   refine awp_seq fun K40 hK40 => ?_
   refine awp_block ?_
   replace ⟨p, h⟩ := k2 h
   refine qg [14] [(25, bV ((a0.getD t5.toNat 0) != (a1.getD t5.toNat 0)))] ?_
   refine awp_if h ?_ ?_ <;> intro hc h
   ·refine rg [0, 1, 5, 25] [(4, bV false)] ?_
    exact lor
   refine sk hK40 ?_
   replace ⟨p, h⟩ := k1 h
   refine eg [5, 25] [(5, iV (t5 + 1))] ?_
   exact ln
  exact lo
 ·rintro ⟨⟩ h
  try dsimp only
  refine hK23 _ _ ?_
  refine rg [] [(4, bV true)] ?_
  exact fr [0, 1]
 rintro ⟨⟩ h
 try dsimp only
 exact fr [0, 1]
theorem k_laws_sameFlags {a0 a1 r} (h : laws_sameFlags a0 a1 = some r) : KA Tryz.prog 39 [.sl 0, .sl 1] [rB a0, rB a1] (bV r) [rB a0, rB a1] := by
 unfold laws_sameFlags at h
 refine FnA.ofA 26 [0, 1] [.tmp 4] Tryz.func39 en39 ?_
 refine rg [] [] ?_
 refine awp_seq fun K2 hK2 => ?_
 refine rg [] [(10, bV ((a0.length : Int) != (a1.length : Int)))] ?_
 refine awp_if h ?_ ?_ <;> intro hc h
 ·refine rg [0, 1, 10] [(4, bV false)] ?_
  exact fr [0, 1]
 refine sk hK2 ?_
 refine awp_seq fun K23 hK23 => ?_
 refine rg [10] [(5, iV 0)] ?_
 refine awp_block ?_
 refine lp2 h (fun t5 => [(0, .sl 0), (1, .sl 1), (5, iV t5)]) (fun t5 => [rB a0, rB a1]) (fun _ => Exit.exit 0) (fun _ => []) (fun _ => [rB a0, rB a1]) (fun _ => Exit.ret) (fun _ => [(4, bV false)]) (fun _ => [rB a0, rB a1]) ?_ ?_ ?_
 ·rintro t5 r h
  unfold laws_sameFlags_b0 at h
  try dsimp only
  refine awp_seq fun K37 hK37 => ?_
  refine rg [] [(14, bV (decide (t5 < (a0.length : Int))))] ?_
  refine awp_if h ?_ ?_ <;> intro hc h
  ·refine sk hK37 ?_
   refine awp_seq fun K40 hK40 => ?_
   refine awp_block ?_
   replace ⟨p, h⟩ := k2 h
   refine qg [14] [(25, bV (!((a0.getD t5.toNat false) == (a1.getD t5.toNat false))))] ?_
   refine awp_if h ?_ ?_ <;> intro hc h
   ·refine rg [0, 1, 5, 25] [(4, bV false)] ?_
    exact lor
   refine sk hK40 ?_
   replace ⟨p, h⟩ := k1 h
   refine eg [5, 25] [(5, iV (t5 + 1))] ?_
   exact ln
  exact lo
 ·rintro ⟨⟩ h
  try dsimp only
  refine hK23 _ _ ?_
  refine rg [] [(4, bV true)] ?_
  exact fr [0, 1]
 rintro ⟨⟩ h
 try dsimp only
 exact fr [0, 1]
theorem k_laws_sameMessages {a0 a1 r} (h : laws_sameMessages a0 a1 = some r) : KA Tryz.prog 40 [.sl 0, .sl 1] [rT a0, rT a1] (bV r) [rT a0, rT a1] := by
 unfold laws_sameMessages at h
 refine FnA.ofA 26 [0, 1] [.tmp 4] Tryz.func40 en40 ?_
 refine rg [] [] ?_
 refine awp_seq fun K2 hK2 => ?_
 refine rg [] [(10, bV ((a0.length : Int) != (a1.length : Int)))] ?_
 refine awp_if h ?_ ?_ <;> intro hc h
 ·refine rg [0, 1, 10] [(4, bV false)] ?_
  exact fr [0, 1]
 refine sk hK2 ?_
 refine awp_seq fun K23 hK23 => ?_
 refine rg [10] [(5, iV 0)] ?_
 refine awp_block ?_
 refine lp2 h (fun t5 => [(0, .sl 0), (1, .sl 1), (5, iV t5)]) (fun t5 => [rT a0, rT a1]) (fun _ => Exit.exit 0) (fun _ => []) (fun _ => [rT a0, rT a1]) (fun _ => Exit.ret) (fun _ => [(4, bV false)]) (fun _ => [rT a0, rT a1]) ?_ ?_ ?_
 ·rintro t5 r h
  unfold laws_sameMessages_b0 at h
  try dsimp only
  refine awp_seq fun K37 hK37 => ?_
  refine rg [] [(14, bV (decide (t5 < (a0.length : Int))))] ?_
  refine awp_if h ?_ ?_ <;> intro hc h
  ·refine sk hK37 ?_
   refine awp_seq fun K40 hK40 => ?_
   refine awp_block ?_
   replace ⟨p, h⟩ := k2 h
   refine qg [14] [(25, bV (!(((a0.getD t5.toNat (0, 0, 0)).1 == (a1.getD t5.toNat (0, 0, 0)).1) && (((a0.getD t5.toNat (0, 0, 0)).2.1 == (a1.getD t5.toNat (0, 0, 0)).2.1) && ((a0.getD t5.toNat (0, 0, 0)).2.2 == (a1.getD t5.toNat (0, 0, 0)).2.2)))))] ?_
   refine awp_if h ?_ ?_ <;> intro hc h
   ·refine rg [0, 1, 5, 25] [(4, bV false)] ?_
    exact lor
   refine sk hK40 ?_
   replace ⟨p, h⟩ := k1 h
   refine eg [5, 25] [(5, iV (t5 + 1))] ?_
   exact ln
  exact lo
 ·rintro ⟨⟩ h
  try dsimp only
  refine hK23 _ _ ?_
  refine rg [] [(4, bV true)] ?_
  exact fr [0, 1]
 rintro ⟨⟩ h
 try dsimp only
 exact fr [0, 1]
theorem k_laws_sameState {a0_0 a0_1 a0_2 a0_3 a1_0 a1_1 a1_2 a1_3 r} (h : laws_sameState a0_0 a0_1 a0_2 a0_3 a1_0 a1_1 a1_2 a1_3 = some r) : KA Tryz.prog 15 [.agg [iV a0_0, .sl 0, .sl 1, .sl 2], .agg [iV a1_0, .sl 3, .sl 4, .sl 5]] [rI a0_1, rB a0_2, rT a0_3, rI a1_1, rB a1_2, rT a1_3] (bV r) [rI a0_1, rB a0_2, rT a0_3, rI a1_1, rB a1_2, rT a1_3] := by
 unfold laws_sameState at h
 refine FnA.ofA 31 [0, 1, 2, 3, 4, 5] [.tmp 4] Tryz.func15 en15 ?_
 refine rm [0, 1] [(2, .pp 6 0), (3, .pp 7 0)] [] [.box [iV a0_0, .sl 0, .sl 1, .sl 2], .box [iV a1_0, .sl 3, .sl 4, .sl 5]] ?_
 refine fz 2 ?_
 refine fz 3 ?_
 replace ⟨y, hr0, h⟩ := bd h
 replace ⟨y_1, hr1, h⟩ := bd h
 replace ⟨y_2, hr2, h⟩ := bd h
 refine awp_t [2, 3] [(4, bV ((((a0_0 == a1_0) && y) && y_1) && y_2))] [] [] ?_ ?_
 ·intro K hK
  refine awp_regionA ?_
  have c0 := cm [0, 3] (fun g0 => k_laws_sameInts (bite_t hr0 g0))
  refine wc 12 [(2, .pp 6 0), (3, .pp 7 0), (16, bV ((a0_0 == a1_0) && y))] [rI a0_1, rB a0_2, rT a0_3, rI a1_1, rB a1_2, rT a1_3, .rbox [iV a0_0, .sl 0, .sl 1, .sl 2], .rbox [iV a1_0, .sl 3, .sl 4, .sl 5]] ?_
  have c0 := cm [1, 4] (fun g0 => k_laws_sameFlags (bite_t hr1 g0))
  refine wc 7 [(2, .pp 6 0), (3, .pp 7 0), (23, bV (((a0_0 == a1_0) && y) && y_1))] [rI a0_1, rB a0_2, rT a0_3, rI a1_1, rB a1_2, rT a1_3, .rbox [iV a0_0, .sl 0, .sl 1, .sl 2], .rbox [iV a1_0, .sl 3, .sl 4, .sl 5]] ?_
  have c0 := cm [2, 5] (fun g0 => k_laws_sameMessages (bite_t hr2 g0))
  exact vs
 exact fr [0, 1, 2, 3, 4, 5]
end Go.Proofs.YtoohhgembcdhpaaGreat
