/- The code computes the functions that were taken out of it. -/
import Derived.Test.YteoedigfnfjopaaGreatLw1
set_option maxRecDepth 100000
set_option maxHeartbeats 4000000
set_option linter.unusedSimpArgs false
set_option linter.unusedVariables false
namespace Go.Proofs.YteoedigfnfjopaaGreat
open Go Go.Av
attribute [local irreducible] wpA OpK awp OpKI
theorem k_spec_StepState {a0_0 a0_1 a1_0 a1_1 a1_2 a2_0 a2_1 a2_2 a2_3 r} (h : spec_StepState a0_0 a0_1 a1_0 a1_1 a1_2 a2_0 a2_1 a2_2 a2_3 = some r) : KA Tryz.prog 50 [.agg [iV a0_0, .sl 0], .agg [iV a1_0, iV a1_1, iV a1_2], .agg [iV a2_0, .sl 1, .sl 2, .sl 3]] [rT a0_1, rI a2_1, rB a2_2, rT a2_3] (.tup [.agg [iV r.1, .sl 4, .sl 5, .sl 6], bV r.2.2.2.2]) [rT a0_1, rI a2_1, rB a2_2, rT a2_3, oI r.2.1, oB r.2.2.1, oT r.2.2.2.1] := by
 unfold spec_StepState at h
 refine FnA.ofA 63 [0, 1, 2, 3] [.cell 6 27, .tmp 7] Tryz.func50 en50 ?_
 refine rm [0, 1, 2] [(3, .pp 4 0), (4, .pp 5 0), (5, .pp 6 0), (6, .pp 7 0)] [] [.box [iV a0_0, .sl 0], .box [iV a1_0, iV a1_1, iV a1_2], .box [iV a2_0, .sl 1, .sl 2, .sl 3], .box [iV 0, nV, nV, nV]] ?_
 refine fz 4 ?_
 replace ⟨y, y_1, hr0, h⟩ := bd2 h
 refine rc [] [] [(4, .box [iV y, .sl 8])] [oT y_1] [⟨1, [0], k_spec_l1OwnGraph hr0⟩] ?_
 replace ⟨y_2, y_3, y_4, y_5, hr0, h⟩ := bd4 h
 refine rc [] [] [(6, .box [iV y_2, .sl 9, .sl 10, .sl 11])] [oI y_3, oB y_4, oT y_5] [⟨1, [1, 2, 3], k_spec_l1OwnState hr0⟩] ?_
 refine awp_seq fun K2 hK2 => ?_
 replace ⟨y_6, hr0, h⟩ := bd h
 replace ⟨y_7, hr1, h⟩ := bd h
 replace ⟨y_8, hr2, h⟩ := bd h
 refine awp_t [] [(30, bV (((!y_6) || (!y_7)) || (!y_8)))] [] [] ?_ ?_
 ·intro K hK
  refine awp_regionA ?_
  have c0 := cm [8] (k_spec_GraphValid hr0)
  have c1 := cm [] (fun g0 => k_spec_ProgramValid (bite_t hr1 g0))
  refine wc 8 [(3, .pp 4 0), (4, .pp 5 0), (5, .pp 6 0), (6, .pp 7 0), (23, bV ((!y_6) || (!y_7)))] [rT a0_1, rI a2_1, rB a2_2, rT a2_3, .box [iV y, .sl 8], .rbox [iV a1_0, iV a1_1, iV a1_2], .box [iV y_2, .sl 9, .sl 10, .sl 11], .box [iV 0, nV, nV, nV], oT y_1, oI y_3, oB y_4, oT y_5] ?_
  have c0 := cm [9, 10, 11] (fun g0 => k_spec_StateValid (bite_t hr2 g0))
  exact vs
 refine awp_if h ?_ ?_ <;> intro hc h
 ·refine rg [3, 4, 5, 30] [(7, bV false)] ?_
  refine nc 7 1 (.ints .i64 []) ?_
  refine nc 7 2 (.bools []) ?_
  refine nc 7 3 (.trips []) ?_
  exact fr [0, 1, 2, 3, 12, 13, 14]
 refine sk hK2 ?_
 refine awp_freeze 3 (by rfl) (by rfl) (by first | exact rfl | (simp only [List.map_cons, List.map_nil, List.set_cons_succ, List.set_cons_zero, AObj.unview, reduceCtorEq, ↓reduceIte, Nat.reduceEqDiff]; exact rfl)) ?_
 refine awp_freeze 5 (by rfl) (by rfl) (by first | exact rfl | (simp only [List.map_cons, List.map_nil, List.set_cons_succ, List.set_cons_zero, AObj.unview, reduceCtorEq, ↓reduceIte, Nat.reduceEqDiff]; exact rfl)) ?_
 replace ⟨y_9, hr0, h⟩ := bd h
 replace ⟨y_10, y_11, y_12, hr1, h⟩ := bd3 h
 have c0 := cm [] (k_spec_l11All hr0)
 have c1 := cm [8, 9, 10, 11, 12] (k_spec_l11Some hr1)
 refine dm (.free 3 (.free 0 (.free 1 (.free 2 (.one 4 (.one 5 (.one 6 (.one 7 (.free 8 (.free 9 (.free 10 (.one 11 (.one 12 (.one 13 .fin)))))))))))))) [4, 30] [(8, .sl 13), (9, .sl 14), (10, .sl 15)] [] [oI y_9, oI y_10, oB y_11, oT y_12] ?_
 replace ⟨p, h⟩ := k1 h
 replace ⟨y_13, hr1, h⟩ := bd h
 refine awp_t [5, 8, 9] [(11, .pp 17 0)] [] [oT y_13, .box [iV (y_2 + 1), .sl 13, .sl 14, .sl 16]] ?_ ?_
 ·intro K hK
  refine dM [0, 1, 2, 3, 4, 5, 6, 7, 8, 9, 10, 11, 12, 13, 14, 15] [0, 3, 4, 5, 1, 2] 4 (bt 10 63) fun L hL hN => ?_
  refine hN.node L 0 (bt 10 1023) 16 [] [(11, .pp 17 0), (43, .pp 6 0), (44, iV y_2), (45, iV (y_2 + 1)), (46, .sl 13), (47, .sl 14), (48, .sl 15), (49, .sl 16), (50, .agg [iV (y_2 + 1), .sl 13, .sl 14, .sl 16])] [] [oT y_13, .box [iV (y_2 + 1), .sl 13, .sl 14, .sl 16]] ?_ fun n3 hN => ?_
  ·exact hL.fin (by kernel_rfl) (hK _ _ Red.auto)
  refine hN.node L 1 (bt 10 511) 18 [] [] [(17, .box [iV 0, nV, nV, nV])] [] ?_ fun n2 hN => ?_
  ·refine st hL [(9, [], 0, (bt 10 1023))] ⟨?_, trivial⟩
   exact hL.edge n3
  refine hN.node L 2 (bt 10 255) 17 [11] [] [] [] ?_ fun n1 hN => ?_
  ·refine st hL [(8, [], 1, (bt 10 511))] ⟨?_, trivial⟩
   exact hL.edge n2
  refine hN.node L 3 (bt 10 319) 17 [49, 50] [(11, .pp 16 0)] [(16, .box [iV 0, nV, nV, nV])] [] ?_ fun n4 hN => ?_
  ·refine st hL [(6, [7], 1, (bt 10 511))] ⟨?_, trivial⟩
   have nn := n2
   have ns := cm [0, 1, 2, 3, 4, 5, 6, 7, 8, 9, 10, 11, 12, 13, 14, 15, 17, 16] trivial
   have c0 := cm [15] (k_spec_SortMessages hr1)
   exact vn
  refine hN.node L 4 (bt 10 63) 16 [11] [] [] [] ?_ fun n0 hN => ?_
  ·refine st hL [(6, [7], 2, (bt 10 255)), (8, [], 3, (bt 10 319))] ⟨?_, ?_, trivial⟩
   ·have nn := n1
    have c0 := cm [15] (k_spec_SortMessages hr1)
    exact vn
   exact hL.edge n4
  have nn := n0
  exact au16
 refine awp_seq fun K5 hK5 => ?_
 replace ⟨y_14, hr0, h⟩ := bd h
 have c0 := cm [13, 14, 16] (fun g0 => k_spec_StateValid (bite_t hr0 g0))
 refine rm [3, 10] [(60, bV ((decide (2000 < (y_12.length : Int))) || (!y_14)))] [] [] ?_
 refine awp_if h ?_ ?_ <;> intro hc h
 ·refine rg [11, 60] [(7, bV false)] ?_
  refine nc 7 1 (.ints .i64 []) ?_
  refine nc 7 2 (.bools []) ?_
  refine nc 7 3 (.trips []) ?_
  exact fr [0, 1, 2, 3, 18, 19, 20]
 refine sk hK5 ?_
 refine rm [11, 60] [(7, bV true)] [(7, .box [iV (y_2 + 1), .sl 13, .sl 14, .sl 16])] [] ?_
 exact fr [0, 1, 2, 3, 13, 14, 16]
theorem k_spec_l20Messages {a0_0 a0_1 a1 r} (h : spec_l20Messages a0_0 a0_1 a1 = some r) : KA Tryz.prog 52 [.pp 0 0, iV a1] [.box [.sl 1, iV a0_1], rY a0_0] (.sl 2) [.box [.sl 1, iV r.2], rY a0_0, oT r.1] := by
 unfold spec_l20Messages at h
 refine FnA.ofA 31 [0, 1] [.tmp 4] Tryz.func52 en52 ?_
 refine rg [] [] ?_
 refine rm [] [(5, .sl 2)] [] [oT []] ?_
 refine awp_seq fun K14 hK14 => ?_
 replace ⟨y, y_1, hr0, h⟩ := bd2 h
 refine rc [] [(6, iV y)] [(0, .box [.sl 1, iV y_1])] [] [⟨1, [0, 1], k_spec_l20Rd_pick hr0⟩] ?_
 refine awp_block ?_
 refine lp h (fun (t6, p0_1, t5s) => [(0, .pp 0 0), (1, iV a1), (5, .sl 2), (6, iV t6)]) (fun (t6, p0_1, t5s) => [.box [.sl 1, iV p0_1], rY a0_0, oT t5s]) (fun _ => Exit.exit 0) (fun (p0_1_1, t5s_1) => [(5, .sl 2)]) (fun (p0_1_1, t5s_1) => [.box [.sl 1, iV p0_1_1], rY a0_0, oT t5s_1]) ?_ ?_
 ·rintro ⟨t6, p0_1, t5s⟩ r h
  unfold spec_l20Messages_b0 at h
  try dsimp only
  refine awp_seq fun K24 hK24 => ?_
  refine rg [] [(15, bV ((decide (0 < t6)) && (decide (0 < a1))))] ?_
  refine awp_if h ?_ ?_ <;> intro hc h
  ·refine sk hK24 ?_
   refine awp_seq fun K26 hK26 => ?_
   refine awp_block ?_
   replace ⟨y_2, y_3, hr0, h⟩ := bd2 h
   replace ⟨y_4, y_5, hr1, h⟩ := bd2 h
   replace ⟨y_6, y_7, hr2, h⟩ := bd2 h
   replace ⟨p, h⟩ := k1 h
   refine ec [15] [] [(0, .box [.sl 1, iV y_7]), (1, oT (t5s ++ [(y_2, y_4, y_6)]))] [oT [(y_2, y_4, y_6)]] [⟨3, [0, 1], k_spec_l20Rd_pick hr0⟩, ⟨1, [0, 1], k_spec_l20Rd_pick hr1⟩, ⟨2, [0, 1], k_spec_l20Rd_pick hr2⟩] ?_
   refine hK26 _ _ ?_
   replace ⟨p, h⟩ := k1 h
   refine eg [6] [(6, iV (t6 - 1))] ?_
   exact lns [0, 1, 2]
  exact lo
 rintro ⟨p0_1_1, t5s_1⟩ h
 try dsimp only
 refine hK14 _ _ ?_
 refine rg [5] [(4, .sl 2)] ?_
 exact fr [0, 1, 2]
theorem k_spec_l20State {a0_0 a0_1 a1_0 a1_1 a2_0 a2_1 a2_2 a3 r} (h : spec_l20State a0_0 a0_1 a1_0 a1_1 a2_0 a2_1 a2_2 a3 = some r) : KA Tryz.prog 23 [.pp 0 0, .agg [iV a1_0, .sl 2], .agg [iV a2_0, iV a2_1, iV a2_2], iV a3] [.box [.sl 1, iV a0_1], rY a0_0, rT a1_1] (.agg [iV r.1, .sl 3, .sl 4, .sl 5]) [.box [.sl 1, iV r.2.2.2.2], rY a0_0, rT a1_1, oI r.2.1, oB r.2.2.1, oT r.2.2.2.1] := by
 unfold spec_l20State at h
 refine FnA.ofA 82 [0, 1, 2] [.cell 8 27] Tryz.func23 en23 ?_
 refine rm [1, 2] [(5, .pp 3 0), (6, .pp 4 0), (8, .pp 5 0)] [] [.box [iV a1_0, .sl 2], .box [iV a2_0, iV a2_1, iV a2_2], .box [iV 0, nV, nV, nV]] ?_
 refine fz 5 ?_
 refine fz 6 ?_
 replace ⟨y, y_1, y_2, y_3, hr0, h⟩ := bd4 h
 refine rc [] [(9, .pp 9 0)] [] [oI y_1, oB y_2, oT y_3, .box [iV y, .sl 6, .sl 7, .sl 8]] [⟨4, [], k_spec_StartState hr0⟩] ?_
 refine awp_seq fun K17 hK17 => ?_
 replace ⟨y_4, y_5, hr0, h⟩ := bd2 h
 refine rc [] [(10, iV y_4)] [(0, .box [.sl 1, iV y_5])] [] [⟨1, [0, 1], k_spec_l20Rd_pick hr0⟩] ?_
 refine awp_block ?_
 refine lp h (fun (t10, t9_0, t9_1s, t9_2s, t9_3s) => [(0, .pp 0 0), (3, iV a3), (5, .pp 3 0), (6, .pp 4 0), (8, .pp 5 0), (9, .pp 6 0), (10, iV t10)]) (fun (t10, t9_0, t9_1s, t9_2s, t9_3s) => [.box [.sl 1, iV y_5], rY a0_0, rT a1_1, .rbox [iV a1_0, .sl 2], .rbox [iV a2_0, iV a2_1, iV a2_2], .box [iV 0, nV, nV, nV], .box [iV t9_0, .sl 7, .sl 8, .sl 9], oI t9_1s, oB t9_2s, oT t9_3s]) (fun _ => Exit.exit 0) (fun (t9_0_1, t9_1s_1, t9_2s_1, t9_3s_1) => [(0, .pp 0 0), (3, iV a3), (8, .pp 3 0), (9, .pp 4 0)]) (fun (t9_0_1, t9_1s_1, t9_2s_1, t9_3s_1) => [.box [.sl 1, iV y_5], rY a0_0, rT a1_1, .box [iV 0, nV, nV, nV], .box [iV t9_0_1, .sl 5, .sl 6, .sl 7], oI t9_1s_1, oB t9_2s_1, oT t9_3s_1]) ?_ ?_ (h0 := Red.selA [0, 1, 2, 3, 4, 5, 9, 6, 7, 8] Red.auto)
 ·rintro ⟨t10, t9_0, t9_1s, t9_2s, t9_3s⟩ r h
  unfold spec_l20State_b0 at h
  try dsimp only
  refine awp_seq fun K29 hK29 => ?_
  refine rg [] [(21, bV (decide (0 < t10)))] ?_
  refine awp_if h ?_ ?_ <;> intro hc h
  ·refine sk hK29 ?_
   refine awp_join h (fun (t9_0_2, t9_1s_2, t9_2s_2, t9_3s_2) => [(0, .pp 0 0), (3, iV a3), (5, .pp 3 0), (6, .pp 4 0), (8, .pp 5 0), (9, .pp 6 0), (10, iV t10)]) (fun (t9_0_2, t9_1s_2, t9_2s_2, t9_3s_2) => [.box [.sl 1, iV y_5], rY a0_0, rT a1_1, .rbox [iV a1_0, .sl 2], .rbox [iV a2_0, iV a2_1, iV a2_2], .box [iV 0, nV, nV, nV], .box [iV t9_0_2, .sl 7, .sl 8, .sl 9], oI t9_1s_2, oB t9_2s_2, oT t9_3s_2]) ?_ ?_
   ·intro k h
    refine awp_block ?_
    replace ⟨y_6, y_7, y_8, y_9, y_10, hr0, h⟩ := bd5 h
    refine rc [21] [(11, .pp 13 0), (12, bV y_10)] [] [oI y_7, oB y_8, oT y_9, .box [iV y_6, .sl 10, .sl 11, .sl 12]] [⟨3, [2, 7, 8, 9], k_spec_StepState hr0⟩] ?_
    refine rg [12] [(31, bV y_10)] ?_
    refine awp_if h ?_ ?_ <;> intro hc h
    ·refine em [11, 31] [] [(6, .box [iV y_6, .sl 10, .sl 11, .sl 12])] [] ?_
     exact jos [0, 1, 2, 3, 4, 5, 6, 10, 11, 12]
    refine awp_skip ?_
    exact jos [0, 1, 2, 3, 4, 5, 6, 7, 8, 9]
   rintro ⟨t9_0_2, t9_1s_2, t9_2s_2, t9_3s_2⟩ h
   try dsimp only
   replace ⟨p, h⟩ := k1 h
   refine eg [10] [(10, iV (t10 - 1))] ?_
   exact ln
  exact los [0, 1, 2, 5, 6, 7, 8, 9]
 rintro ⟨t9_0_1, t9_1s_1, t9_2s_1, t9_3s_1⟩ h
 try dsimp only
 refine hK17 _ _ ?_
 refine awp_join h (fun (p0_1, t9_3s_3) => [(0, .pp 0 0), (3, iV a3), (8, .pp 3 0), (9, .pp 4 0)]) (fun (p0_1, t9_3s_3) => [.box [.sl 1, iV p0_1], rY a0_0, rT a1_1, .box [iV 0, nV, nV, nV], .box [iV t9_0_1, .sl 5, .sl 6, .sl 7], oI t9_1s_1, oB t9_2s_1, oT t9_3s_3]) ?_ ?_
 ·intro k_1 h
  replace ⟨y_11, y_12, hr0, h⟩ := bd2 h
  refine rc [] [(35, bV (y_11 == 0))] [(0, .box [.sl 1, iV y_12])] [] [⟨1, [0, 1], k_spec_l20Rd_pick hr0⟩] ?_
  refine awp_if h ?_ ?_ <;> intro hc h
  ·replace ⟨p, h⟩ := k1 h
   replace ⟨y_13, y_14, hr1, h⟩ := bd2 h
   replace ⟨pa, h⟩ := k1 h
   replace ⟨y_15, hr3, h⟩ := bd h
   refine awp_tE [35] [] [(0, .box [.sl 1, iV y_14]), (3, .box [iV t9_0_1, .sl 5, .sl 6, .sl 10])] [oT (([] ++ t9_3s_1) ++ y_13), oT y_13, oT y_15] ?_ ?_
   ·intro K hK
    refine dM [0, 1, 2, 3, 4, 5, 6, 7] [1, 4, 5] 10 (bt 13 50) fun L hL hN => ?_
    refine hN.node L 0 (bt 13 8191) 8 [] [(37, .pp 4 3), (38, .sl 7), (40, .pp 0 0), (41, .pp 4 1), (42, .sl 5), (43, iV (t9_1s_1.length : Int)), (44, .sl 9), (45, .sl 8), (46, .sl 10), (47, .pp 4 3)] [(0, .box [.sl 1, iV y_14]), (3, .box [iV t9_0_1, .sl 5, .sl 6, .sl 10])] [oT (([] ++ t9_3s_1) ++ y_13), oT y_13, oT y_15] ?_ fun n9 hN => ?_
    ·exact hL.fin (by kernel_rfl) (hK _ _ Red.auto)
    refine hN.node L 1 (bt 13 4095) 11 [] [] [(4, .box [iV t9_0_1, .sl 5, .sl 6, .sl 7])] [] ?_ fun n8 hN => ?_
    ·refine st hL [(12, [], 0, (bt 13 8191))] ⟨?_, trivial⟩
     exact hL.edge n9
    refine hN.node L 3 (bt 13 1023) 10 [46, 47] [] [] [] ?_ fun n7 hN => ?_
    ·refine st hL [(10, [11], 1, (bt 13 4095))] ⟨?_, trivial⟩
     have nn := n8
     have c0 := cm [8] (k_spec_SortMessages hr3)
     exact vn
    refine hN.node L 4 (bt 13 511) 10 [45] [(39, .sl 8)] [(8, oT ([] ++ t9_3s_1))] [] ?_ fun n6 hN => ?_
    ·refine st hL [(9, [], 3, (bt 13 1023))] ⟨?_, trivial⟩
     exact hL.edge n7
    refine hN.node L 5 (bt 13 255) 9 [44] [] [(0, .box [.sl 1, iV y_12])] [] ?_ fun n5 hN => ?_
    ·refine st hL [(8, [], 4, (bt 13 511))] ⟨?_, trivial⟩
     have nn := n6
     have c0 := cm [0, 1] (k_spec_l20Messages hr1)
     exact vn
    refine hN.node L 6 (bt 13 127) 9 [43] [] [] [] ?_ fun n4 hN => ?_
    ·refine st hL [(7, [], 5, (bt 13 255))] ⟨?_, trivial⟩
     exact hL.edge n5
    refine hN.node L 7 (bt 13 63) 9 [42] [] [] [] ?_ fun n3 hN => ?_
    ·refine st hL [(6, [], 6, (bt 13 127))] ⟨?_, trivial⟩
     exact hL.edge n4
    refine hN.node L 6 (bt 13 247) 9 [39] [(36, .sl 8), (42, .sl 5), (43, iV (t9_1s_1.length : Int))] [(8, oT [])] [] ?_ fun n11 hN => ?_
    ·refine st hL [(3, [], 5, (bt 13 255))] ⟨?_, trivial⟩
     exact hL.edge n5
    refine hN.node L 7 (bt 13 119) 9 [43] [] [] [] ?_ fun n10 hN => ?_
    ·refine st hL [(3, [], 6, (bt 13 127)), (7, [], 6, (bt 13 247))] ⟨?_, ?_, trivial⟩
     ·exact hL.edge n4
     exact hL.edge n11
    refine hN.node L 8 (bt 13 55) 9 [42] [] [] [] ?_ fun n2 hN => ?_
    ·refine st hL [(3, [], 7, (bt 13 63)), (6, [], 7, (bt 13 119))] ⟨?_, ?_, trivial⟩
     ·exact hL.edge n3
     exact hL.edge n10
    refine hN.node L 7 (bt 13 243) 9 [38] [(42, .sl 5), (43, iV (t9_1s_1.length : Int))] [] [] ?_ fun n13 hN => ?_
    ·refine st hL [(2, [], 6, (bt 13 247))] ⟨?_, trivial⟩
     exact hL.edge n11
    refine hN.node L 8 (bt 13 115) 9 [43] [] [] [] ?_ fun n12 hN => ?_
    ·refine st hL [(2, [], 7, (bt 13 119)), (7, [], 7, (bt 13 243))] ⟨?_, ?_, trivial⟩
     ·exact hL.edge n10
     exact hL.edge n13
    refine hN.node L 9 (bt 13 51) 9 [42] [] [] [] ?_ fun n1 hN => ?_
    ·refine st hL [(2, [], 8, (bt 13 55)), (6, [], 8, (bt 13 115))] ⟨?_, ?_, trivial⟩
     ·exact hL.edge n2
     exact hL.edge n12
    refine hN.node L 7 (bt 13 246) 8 [36] [(38, .sl 7), (42, .sl 5), (43, iV (t9_1s_1.length : Int))] [] [] ?_ fun n16 hN => ?_
    ·refine st hL [(0, [], 6, (bt 13 247))] ⟨?_, trivial⟩
     exact hL.edge n11
    refine hN.node L 8 (bt 13 118) 8 [43] [] [] [] ?_ fun n15 hN => ?_
    ·refine st hL [(0, [], 7, (bt 13 119)), (7, [], 7, (bt 13 246))] ⟨?_, ?_, trivial⟩
     ·exact hL.edge n10
     exact hL.edge n16
    refine hN.node L 9 (bt 13 54) 8 [42] [] [] [] ?_ fun n14 hN => ?_
    ·refine st hL [(0, [], 8, (bt 13 55)), (6, [], 8, (bt 13 118))] ⟨?_, ?_, trivial⟩
     ·exact hL.edge n2
     exact hL.edge n15
    refine hN.node L 8 (bt 13 242) 8 [38] [(42, .sl 5), (43, iV (t9_1s_1.length : Int))] [] [] ?_ fun n18 hN => ?_
    ·refine st hL [(0, [], 7, (bt 13 243)), (2, [], 7, (bt 13 246))] ⟨?_, ?_, trivial⟩
     ·exact hL.edge n13
     exact hL.edge n16
    refine hN.node L 9 (bt 13 114) 8 [43] [] [] [] ?_ fun n17 hN => ?_
    ·refine st hL [(0, [], 8, (bt 13 115)), (2, [], 8, (bt 13 118)), (7, [], 8, (bt 13 242))] ⟨?_, ?_, ?_, trivial⟩
     ·exact hL.edge n12
     ·exact hL.edge n15
     exact hL.edge n18
    refine hN.node L 10 (bt 13 50) 8 [42] [] [] [] ?_ fun n0 hN => ?_
    ·refine st hL [(0, [], 9, (bt 13 51)), (2, [], 9, (bt 13 54)), (6, [], 9, (bt 13 114))] ⟨?_, ?_, ?_, trivial⟩
     ·exact hL.edge n1
     ·exact hL.edge n14
     exact hL.edge n17
    have nn := n0
    exact au16
   exact jos [0, 1, 2, 3, 4, 5, 6, 10]
  refine awp_skip ?_
  exact jo
 rintro ⟨p0_1, t9_3s_3⟩ h
 try dsimp only
 refine awp_join h (fun (p0_1_1, t9_0_3, t9_1s_3, t9_2s_3, t9_3s_4) => [(8, .pp 3 0), (9, .pp 4 0)]) (fun (p0_1_1, t9_0_3, t9_1s_3, t9_2s_3, t9_3s_4) => [.box [.sl 1, iV p0_1_1], rY a0_0, rT a1_1, .box [iV 0, nV, nV, nV], .box [iV t9_0_3, .sl 5, .sl 6, .sl 7], oI t9_1s_3, oB t9_2s_3, oT t9_3s_4]) ?_ ?_
 ·intro k_2 h
  replace ⟨y_16, y_17, hr0, h⟩ := bd2 h
  refine rc [3] [(50, bV y_16)] [(0, .box [.sl 1, iV y_17])] [] [⟨2, [0, 1], k_spec_l20Rd_odd hr0⟩] ?_
  refine awp_if h ?_ ?_ <;> intro hc h
  ·replace ⟨y_18, y_19, hr0, h⟩ := bd2 h
   refine rc [50] [(52, iV y_18)] [(0, .box [.sl 1, iV y_19])] [] [⟨1, [0, 1], k_spec_l20Rd_pick hr0⟩] ?_
   refine awp_block ?_
   refine rg [] [(58, bV (y_18 == 0))] ?_
   refine awp_if h ?_ ?_ <;> intro hc h
   ·replace ⟨y_20, y_21, hr0, h⟩ := bd2 h
    replace ⟨p, h⟩ := k1 h
    refine ec [0, 52, 58] [] [(0, .box [.sl 1, iV y_21]), (3, .box [iV (([(-1), 101] : List Int).getD y_20.toNat 0), .sl 5, .sl 6, .sl 7])] [oI [(-1), 101]] [⟨2, [0, 1], k_spec_l20Rd_pick hr0⟩] ?_
    exact jos [0, 1, 2, 3, 4, 5, 6, 7]
   refine rg [0, 58] [(66, bV (y_18 == 1))] ?_
   refine awp_if h ?_ ?_ <;> intro hc h
   ·replace ⟨p, h⟩ := k1 h
    refine em [52, 66] [] [(6, oB (t9_2s_1 ++ [true]))] [oB [true]] ?_
    exact jos [0, 1, 2, 3, 4, 5, 6, 7]
   refine rg [52, 66] [(73, bV (y_18 == 2))] ?_
   refine awp_if h ?_ ?_ <;> intro hc h
   ·replace ⟨p, h⟩ := k1 h
    refine em [73] [] [(4, .box [iV t9_0_1, .sl 5, .sl 6, .sl 8])] [oT ([(16, 1, 0)] ++ t9_3s_3)] ?_
    exact jos [0, 1, 2, 3, 4, 5, 6, 8]
   replace ⟨p, h⟩ := k1 h
   refine em [73] [] [(4, .box [iV t9_0_1, .sl 8, .sl 6, .sl 7])] [oI ([(-2)] ++ t9_1s_1)] ?_
   exact jos [0, 1, 2, 3, 4, 8, 6, 7]
  refine awp_skip ?_
  exact jo
 rintro ⟨p0_1_1, t9_0_3, t9_1s_3, t9_2s_3, t9_3s_4⟩ h
 try dsimp only
 refine rm [9] [] [(3, .box [iV t9_0_3, .sl 5, .sl 6, .sl 7])] [] ?_
 exact fr [0, 1, 2, 5, 6, 7]
theorem k_spec_l20Open_v1 {a0 r} (h : spec_l20Open_v1 a0 = some r) : KA Tryz.prog 21 [.sl 0] [rY a0, .box [iV 0, nV, nV, nV]] (.pp 2 0) [rY a0, .box [iV 0, nV, nV, nV], .box [.sl 3, iV r.2], rY r.1] := by
 unfold spec_l20Open_v1 at h
 refine FnA.ofA 11 [0, 1] [.tmp 2] Tryz.func21 en21 ?_
 refine rg [] [] ?_
 refine awp_join h (fun t0s => [(0, .sl 2)]) (fun t0s => [rY a0, .box [iV 0, nV, nV, nV], rY t0s]) ?_ ?_
 ·intro k h
  refine rg [] [(5, bV (decide (2000 < (a0.length : Int))))] ?_
  refine awp_if h ?_ ?_ <;> intro hc h
  ·replace ⟨p, h⟩ := k1 h
   refine em [0, 5] [(0, .sl 2)] [] [rY ((a0.take 2000).drop 0)] ?_
   exact jo
  refine awp_skip ?_
  refine nm ?_
  refine ⟨_, h, ?_⟩
  refine Red.trans (Red.dup (t := 0) rfl rfl) ?_
  exact Red.auto
 rintro t0s h
 try dsimp only
 refine rm [0] [(2, .pp 3 0)] [] [.box [.sl 2, iV 0]] ?_
 exact fr [0, 1, 3, 2]
theorem k_spec_DrawFreshDisk {a0 r} (h : spec_DrawFreshDisk a0 = some r) : KA Tryz.prog 5 [.sl 0] [rY a0] (.agg [iV r.1, .sl 1, .sl 2, .sl 3]) [rY a0, oI r.2.1, oB r.2.2.1, oT r.2.2.2] := by
 unfold spec_DrawFreshDisk at h
 refine FnA.ofA 17 [0] [.cell 2 27] Tryz.func5 en5 ?_
 refine rm [] [(2, .pp 1 0)] [] [.box [iV 0, nV, nV, nV]] ?_
 replace ⟨y, y_1, hr0, h⟩ := bd2 h
 have d0 := k_spec_l20Open_v1 hr0
 refine rm [0] [(3, .pp 2 0)] [] [.box [.sl 3, iV y_1], rY y] ?_
 replace ⟨y_2, y_3, y_4, y_5, y_6, y_7, hr0, h⟩ := bd6 h
 refine rc [] [(4, .pp 5 0), (5, .pp 6 0)] [(2, .box [.sl 3, iV y_7])] [oT y_3, .box [iV y_2, .sl 4], .box [iV y_4, iV y_5, iV y_6]] [⟨1, [2, 3], k_spec_l20Task hr0⟩] ?_
 replace ⟨y_8, y_9, y_10, y_11, y_12, hr0, h⟩ := bd5 h
 refine rc [3, 4, 5] [] [(1, .box [iV y_8, .sl 7, .sl 8, .sl 9]), (0, .box [.sl 3, iV y_12])] [oI y_9, oB y_10, oT y_11] [⟨3, [2, 3, 4], k_spec_l20State hr0⟩] ?_
 exact fr [0, 7, 8, 9]
theorem k_impl_BytesValid {a0 r} (h : impl_BytesValid a0 = some r) : KA Tryz.prog 41 [.sl 0] [rI a0] (bV r) [rI a0] := by
 unfold impl_BytesValid at h
 refine FnA.ofA 21 [0] [.tmp 2] Tryz.func41 en41 ?_
 refine rg [] [] ?_
 refine awp_seq fun K2 hK2 => ?_
 refine rg [] [(7, bV (decide (2000 < (a0.length : Int))))] ?_
 refine awp_if h ?_ ?_ <;> intro hc h
 ·refine rg [0, 7] [(2, bV false)] ?_
  exact fr [0]
 refine sk hK2 ?_
 refine awp_seq fun K23 hK23 => ?_
 refine rg [0, 7] [(8, .sl 0), (9, iV (a0.length : Int)), (10, iV 0)] ?_
 refine awp_block ?_
 refine lp2 h (fun t10 => [(8, .sl 0), (9, iV (a0.length : Int)), (10, iV t10)]) (fun t10 => [rI a0]) (fun _ => Exit.exit 0) (fun _ => []) (fun _ => [rI a0]) (fun _ => Exit.ret) (fun _ => [(2, bV false)]) (fun _ => [rI a0]) ?_ ?_ ?_
 ·rintro t10 r h
  unfold impl_BytesValid_b0 at h
  try dsimp only
  refine rg [] [(11, bV (decide (t10 < (a0.length : Int))))] ?_
  refine awp_seq fun K37 hK37 => ?_
  refine awp_if h ?_ ?_ <;> intro hc h
  ·refine sk hK37 ?_
   refine awp_seq fun K40 hK40 => ?_
   refine awp_block ?_
   replace ⟨p, h⟩ := k1 h
   refine rg [11] [(4, iV (a0.getD t10.toNat 0))] ?_
   refine rg [4] [(19, bV ((decide ((a0.getD t10.toNat 0) < 0)) || (decide (255 < (a0.getD t10.toNat 0)))))] ?_
   refine awp_if h ?_ ?_ <;> intro hc h
   ·refine rg [8, 9, 10, 19] [(2, bV false)] ?_
    exact lor
   refine sk hK40 ?_
   replace ⟨p, h⟩ := k1 h
   refine eg [10, 19] [(10, iV (t10 + 1))] ?_
   exact ln
  exact lo
 ·rintro ⟨⟩ h
  try dsimp only
  refine hK23 _ _ ?_
  refine rg [] [(2, bV true)] ?_
  exact fr [0]
 rintro ⟨⟩ h
 try dsimp only
 exact fr [0]
theorem k_impl_DiskValid {a0_0 a0_1 r} (h : impl_DiskValid a0_0 a0_1 = some r) : KA Tryz.prog 20 [.agg [.sl 0, .sl 1]] [rI a0_0, rI a0_1] (bV r) [rI a0_0, rI a0_1] := by
 unfold impl_DiskValid at h
 refine FnA.ofA 21 [0, 1] [.tmp 2] Tryz.func20 en20 ?_
 refine rm [0] [(1, .pp 2 0)] [] [.box [.sl 0, .sl 1]] ?_
 refine fz 1 ?_
 replace ⟨y, hr0, h⟩ := bd h
 replace ⟨y_1, hr1, h⟩ := bd h
 replace ⟨hp2, h⟩ := k1 h
 refine awp_t [1] [(2, bV ((y && y_1) && (decide (((a0_0.length : Int) + (a0_1.length : Int)) ≤ 2000))))] [] [] ?_ ?_
 ·intro K hK
  refine awp_regionA ?_
  have c0 := cm [0] (k_impl_BytesValid hr0)
  have c1 := cm [1] (fun g0 => k_impl_BytesValid (bite_t hr1 g0))
  refine wc 8 [(1, .pp 2 0), (10, bV (y && y_1))] [rI a0_0, rI a0_1, .rbox [.sl 0, .sl 1]] ?_
  exact vs
 exact fr [0, 1]
theorem k_impl_roundFits {a0 r} (h : impl_roundFits a0 = some r) : KA Tryz.prog 83 [iV a0] [] (bV r) [] := by
 unfold impl_roundFits at h
 refine FnA.ofA 9 [] [.tmp 2] Tryz.func83 en83 ?_
 refine rg [] [] ?_
 refine rg [0] [(2, bV ((decide (0 ≤ a0)) && (decide (a0 ≤ 100))))] ?_
 exact fr []
theorem k_impl_valueFits {a0 r} (h : impl_valueFits a0 = some r) : KA Tryz.prog 98 [iV a0] [] (bV r) [] := by
 unfold impl_valueFits at h
 refine FnA.ofA 9 [] [.tmp 2] Tryz.func98 en98 ?_
 refine rg [] [] ?_
 refine rg [0] [(2, bV ((decide ((-1) ≤ a0)) && (decide (a0 < 1000000))))] ?_
 exact fr []
theorem k_impl_valuesFit {a0 r} (h : impl_valuesFit a0 = some r) : KA Tryz.prog 84 [.sl 0] [rI a0] (bV r) [rI a0] := by
 unfold impl_valuesFit at h
 refine FnA.ofA 15 [0] [.tmp 2] Tryz.func84 en84 ?_
 refine rg [] [] ?_
 refine awp_seq fun K20 hK20 => ?_
 refine rg [0] [(5, .sl 0), (6, iV (a0.length : Int)), (7, iV 0)] ?_
 refine awp_block ?_
 refine lp2 h (fun t7 => [(5, .sl 0), (6, iV (a0.length : Int)), (7, iV t7)]) (fun t7 => [rI a0]) (fun _ => Exit.exit 0) (fun _ => []) (fun _ => [rI a0]) (fun _ => Exit.ret) (fun _ => [(2, bV false)]) (fun _ => [rI a0]) ?_ ?_ ?_
 ·rintro t7 r h
  unfold impl_valuesFit_b0 at h
  try dsimp only
  refine rg [] [(8, bV (decide (t7 < (a0.length : Int))))] ?_
  refine awp_seq fun K34 hK34 => ?_
  refine awp_if h ?_ ?_ <;> intro hc h
  ·refine sk hK34 ?_
   refine awp_seq fun K37 hK37 => ?_
   refine awp_block ?_
   replace ⟨p, h⟩ := k1 h
   refine rg [8] [(4, iV (a0.getD t7.toNat 0))] ?_
   replace ⟨y, hr0, h⟩ := bd h
   refine rc [4] [(13, bV (!y))] [] [] [⟨1, [], k_impl_valueFits hr0⟩] ?_
   refine awp_if h ?_ ?_ <;> intro hc h
   ·refine rg [5, 6, 7, 13] [(2, bV false)] ?_
    exact lor
   refine sk hK37 ?_
   replace ⟨p, h⟩ := k1 h
   refine eg [7, 13] [(7, iV (t7 + 1))] ?_
   exact ln
  exact lo
 ·rintro ⟨⟩ h
  try dsimp only
  refine hK20 _ _ ?_
  refine rg [] [(2, bV true)] ?_
  exact fr [0]
 rintro ⟨⟩ h
 try dsimp only
 exact fr [0]
theorem k_impl_messageFits {a0_0 a0_1 a0_2 a1 r} (h : impl_messageFits a0_0 a0_1 a0_2 a1 = some r) : KA Tryz.prog 101 [.agg [iV a0_0, iV a0_1, iV a0_2], iV a1] [] (bV r) [] := by
 unfold impl_messageFits at h
 refine FnA.ofA 35 [] [.tmp 4] Tryz.func101 en101 ?_
 refine rm [0] [(2, .pp 0 0)] [] [.box [iV a0_0, iV a0_1, iV a0_2]] ?_
 refine fz 2 ?_
 refine awp_t [1, 2] [(4, bV ((((((decide (0 ≤ a0_0)) && (decide (a0_0 < a1))) && (decide (0 ≤ a0_2))) && (decide (a0_2 < a1))) && (decide (0 ≤ a0_1))) && (decide (a0_1 < 1000000))))] [] [] ?_ ?_
 ·intro K hK
  refine awp_regionA ?_
  refine wc 9 [(1, iV a1), (2, .pp 0 0), (13, bV ((decide (0 ≤ a0_0)) && (decide (a0_0 < a1))))] [.rbox [iV a0_0, iV a0_1, iV a0_2]] ?_
  refine wc 5 [(1, iV a1), (2, .pp 0 0), (18, bV (((decide (0 ≤ a0_0)) && (decide (a0_0 < a1))) && (decide (0 ≤ a0_2))))] [.rbox [iV a0_0, iV a0_1, iV a0_2]] ?_
  refine wc 6 [(2, .pp 0 0), (24, bV ((((decide (0 ≤ a0_0)) && (decide (a0_0 < a1))) && (decide (0 ≤ a0_2))) && (decide (a0_2 < a1))))] [.rbox [iV a0_0, iV a0_1, iV a0_2]] ?_
  refine wc 5 [(2, .pp 0 0), (29, bV (((((decide (0 ≤ a0_0)) && (decide (a0_0 < a1))) && (decide (0 ≤ a0_2))) && (decide (a0_2 < a1))) && (decide (0 ≤ a0_1))))] [.rbox [iV a0_0, iV a0_1, iV a0_2]] ?_
  exact vs
 exact fr []
theorem k_slices_IsSortedFunc_impl_Message_impl_Message__impl_compareMessages {a0 r} (h : slices_IsSortedFunc_impl_Message_impl_Message__impl_compareMessages a0 = some r) : KA Tryz.prog 99 [.sl 0, .v (.func (.func 100) #[] #[])] [rT a0] (bV r) [rT a0] := by
 unfold slices_IsSortedFunc_impl_Message_impl_Message__impl_compareMessages at h
 refine FnA.ofA 25 [0] [.tmp 4] Tryz.func99 en99 ?_
 refine rg [] [] ?_
 refine awp_seq fun K20 hK20 => ?_
 replace ⟨p, h⟩ := k1 h
 refine rg [] [(5, iV ((a0.length : Int) - 1))] ?_
 refine awp_block ?_
 refine lp2 h (fun t5 => [(0, .sl 0), (1, .v (.func (.func 100) #[] #[])), (5, iV t5)]) (fun t5 => [rT a0]) (fun _ => Exit.exit 0) (fun _ => []) (fun _ => [rT a0]) (fun _ => Exit.ret) (fun _ => [(4, bV false)]) (fun _ => [rT a0]) ?_ ?_ ?_
 ·rintro t5 r h
  unfold slices_IsSortedFunc_impl_Message_impl_Message__impl_compareMessages_b0 at h
  try dsimp only
  refine awp_seq fun K34 hK34 => ?_
  refine rg [] [(10, bV (decide (0 < t5)))] ?_
  refine awp_if h ?_ ?_ <;> intro hc h
  ·refine sk hK34 ?_
   refine awp_seq fun K37 hK37 => ?_
   refine awp_block ?_
   replace ⟨p, h⟩ := k3 h
   refine qg [10] [(24, bV (decide ((orF [cmpI (a0.getD t5.toNat (0, 0, 0)).1 (a0.getD ((t5 - 1).toNat) (0, 0, 0)).1, cmpI (a0.getD t5.toNat (0, 0, 0)).2.1 (a0.getD ((t5 - 1).toNat) (0, 0, 0)).2.1, cmpI (a0.getD t5.toNat (0, 0, 0)).2.2 (a0.getD ((t5 - 1).toNat) (0, 0, 0)).2.2]) < 0)))] ?_
   refine awp_if h ?_ ?_ <;> intro hc h
   ·refine rg [0, 1, 5, 24] [(4, bV false)] ?_
    exact lor
   refine sk hK37 ?_
   replace ⟨p, h⟩ := k1 h
   refine eg [5, 24] [(5, iV (t5 - 1))] ?_
   exact ln
  exact lo
 ·rintro ⟨⟩ h
  try dsimp only
  refine hK20 _ _ ?_
  refine rg [] [(4, bV true)] ?_
  exact fr [0]
 rintro ⟨⟩ h
 try dsimp only
 exact fr [0]
theorem k_impl_inboxFits {a0 a1 r} (h : impl_inboxFits a0 a1 = some r) : KA Tryz.prog 85 [.sl 0, iV a1] [rT a0] (bV r) [rT a0] := by
 unfold impl_inboxFits at h
 refine FnA.ofA 26 [0] [.tmp 4] Tryz.func85 en85 ?_
 refine rg [] [] ?_
 refine awp_seq fun K2 hK2 => ?_
 replace ⟨y, hr0, h⟩ := bd h
 have c0 := cm [0] (fun g0 => k_slices_IsSortedFunc_impl_Message_impl_Message__impl_compareMessages (bite_t hr0 g0))
 refine rm [] [(14, bV ((decide (2000 < (a0.length : Int))) || (!y)))] [] [] ?_
 refine awp_if h ?_ ?_ <;> intro hc h
 ·refine rg [0, 1, 14] [(4, bV false)] ?_
  exact fr [0]
 refine sk hK2 ?_
 refine awp_seq fun K23 hK23 => ?_
 refine rg [0, 14] [(15, .sl 0), (16, iV (a0.length : Int)), (17, iV 0)] ?_
 refine awp_block ?_
 refine lp2 h (fun t17 => [(1, iV a1), (15, .sl 0), (16, iV (a0.length : Int)), (17, iV t17)]) (fun t17 => [rT a0]) (fun _ => Exit.exit 0) (fun _ => []) (fun _ => [rT a0]) (fun _ => Exit.ret) (fun _ => [(4, bV false)]) (fun _ => [rT a0]) ?_ ?_ ?_
 ·rintro t17 r h
  unfold impl_inboxFits_b0 at h
  try dsimp only
  refine rg [] [(18, bV (decide (t17 < (a0.length : Int))))] ?_
  refine awp_seq fun K37 hK37 => ?_
  refine awp_if h ?_ ?_ <;> intro hc h
  ·refine sk hK37 ?_
   refine awp_seq fun K40 hK40 => ?_
   refine awp_block ?_
   replace ⟨p, h⟩ := k1 h
   refine rm [18] [(6, .pp 1 0)] [] [.box [iV ((a0.getD t17.toNat (0, 0, 0)).1), iV ((a0.getD t17.toNat (0, 0, 0)).2.1), iV ((a0.getD t17.toNat (0, 0, 0)).2.2)]] ?_
   replace ⟨y_1, hr0, h⟩ := bd h
   refine rc [6] [(24, bV (!y_1))] [] [] [⟨2, [], k_impl_messageFits hr0⟩] ?_
   refine awp_if h ?_ ?_ <;> intro hc h
   ·refine rg [1, 15, 16, 17, 24] [(4, bV false)] ?_
    exact lors [0]
   refine sk hK40 ?_
   replace ⟨p, h⟩ := k1 h
   refine eg [17, 24] [(17, iV (t17 + 1))] ?_
   exact lns [0]
  exact lo
 ·rintro ⟨⟩ h
  try dsimp only
  refine hK23 _ _ ?_
  refine rg [] [(4, bV true)] ?_
  exact fr [0]
 rintro ⟨⟩ h
 try dsimp only
 exact fr [0]
theorem k_impl_StateValid {a0_0 a0_1 a0_2 a0_3 a1 r} (h : impl_StateValid a0_0 a0_1 a0_2 a0_3 a1 = some r) : KA Tryz.prog 58 [.agg [iV a0_0, .sl 0, .sl 1, .sl 2], iV a1] [rI a0_1, rB a0_2, rT a0_3] (bV r) [rI a0_1, rB a0_2, rT a0_3] := by
 unfold impl_StateValid at h
 refine FnA.ofA 38 [0, 1, 2] [.tmp 4] Tryz.func58 en58 ?_
 refine rm [0] [(2, .pp 3 0)] [] [.box [iV a0_0, .sl 0, .sl 1, .sl 2]] ?_
 refine fz 2 ?_
 refine awp_seq fun K2 hK2 => ?_
 replace ⟨y, hr0, h⟩ := bd h
 refine awp_t [] [(16, bV (((decide (a1 < 0)) || (decide (16 < a1))) || (!y)))] [] [] ?_ ?_
 ·intro K hK
  refine awp_regionA ?_
  refine wc 6 [(1, iV a1), (2, .pp 3 0), (10, bV ((decide (a1 < 0)) || (decide (16 < a1))))] [rI a0_1, rB a0_2, rT a0_3, .rbox [iV a0_0, .sl 0, .sl 1, .sl 2]] ?_
  have c0 := cm [] (fun g0 => k_impl_roundFits (bite_t hr0 g0))
  exact vs
 refine awp_if h ?_ ?_ <;> intro hc h
 ·refine rg [1, 2, 16] [(4, bV false)] ?_
  exact fr [0, 1, 2]
 refine sk hK2 ?_
 refine awp_seq fun K5 hK5 => ?_
 refine rg [16] [(28, bV (((a0_1.length : Int) != a1) || ((a0_2.length : Int) != a1)))] ?_
 refine awp_if h ?_ ?_ <;> intro hc h
 ·refine rg [1, 2, 28] [(4, bV false)] ?_
  exact fr [0, 1, 2]
 refine sk hK5 ?_
 replace ⟨y_1, hr0, h⟩ := bd h
 replace ⟨y_2, hr1, h⟩ := bd h
 have c0 := cm [0] (k_impl_valuesFit hr0)
 have c1 := cm [2] (fun g0 => k_impl_inboxFits (bite_t hr1 g0))
 refine rm [1, 2, 28] [(4, bV (y_1 && y_2))] [] [] ?_
 exact fr [0, 1, 2]
theorem k_impl_State_ownValid {a0_0 a0_1 a0_2 a0_3 r} (h : impl_State_ownValid a0_0 a0_1 a0_2 a0_3 = some r) : KA Tryz.prog 31 [.agg [iV a0_0, .sl 0, .sl 1, .sl 2]] [rI a0_1, rB a0_2, rT a0_3] (bV r) [rI a0_1, rB a0_2, rT a0_3] := by
 unfold impl_State_ownValid at h
 refine FnA.ofA 8 [0, 1, 2] [.tmp 2] Tryz.func31 en31 ?_
 refine rm [0] [(1, .pp 3 0)] [] [.box [iV a0_0, .sl 0, .sl 1, .sl 2]] ?_
 refine fz 1 ?_
 replace ⟨y, hr0, h⟩ := bd h
 refine rc [1] [(2, bV y)] [] [] [⟨4, [0, 1, 2], k_impl_StateValid hr0⟩] ?_
 exact fr [0, 1, 2]
theorem k_slices_Clone_int_int {a0 r} (h : slices_Clone_int_int a0 = some r) : KA Tryz.prog 43 [.sl 0] [rI a0] (.sl 1) [rI a0, oI r] := by
 unfold slices_Clone_int_int at h
 refine FnA.ofA 8 [0] [.tmp 2] Tryz.func43 en43 ?_
 refine rg [] [] ?_
 refine awp_seq fun K2 hK2 => ?_
 have hboth := both_some h
 refine awp_isnil (by rfl) (by rfl) Tryz.underlying23 rfl rfl fun b hb => ?_
 replace h := hboth b hb
 clear hboth
 refine awp_if h ?_ ?_ <;> intro hc h
 ·refine rg [0, 3, 4] [(2, nV)] ?_
  refine awp_red (Red.nil (t := 2) (.ints .i64 []) rfl rfl) ?_
  exact fr [0, 1]
 refine sk hK2 ?_
 replace ⟨p, h⟩ := k1 h
 refine rm [0, 3, 4] [(2, .sl 1)] [] [oI ([] ++ a0)] ?_
 exact fr [0, 1]
theorem k_impl_Disk_copied {a0_0 a0_1 r} (h : impl_Disk_copied a0_0 a0_1 = some r) : KA Tryz.prog 34 [.agg [.sl 0, .sl 1]] [rI a0_0, rI a0_1] (.agg [.sl 2, .sl 3]) [rI a0_0, rI a0_1, oI r.1, oI r.2] := by
 unfold impl_Disk_copied at h
 refine FnA.ofA 10 [0, 1] [.cell 2 30] Tryz.func34 en34 ?_
 refine rm [0] [(1, .pp 2 0), (2, .pp 3 0)] [] [.box [.sl 0, .sl 1], .box [nV, nV]] ?_
 refine fz 1 ?_
 replace ⟨y, hr0, h⟩ := bd h
 replace ⟨y_1, hr1, h⟩ := bd h
 have c0 := cm [0] (k_slices_Clone_int_int hr0)
 have c1 := cm [1] (k_slices_Clone_int_int hr1)
 refine dm (.free 0 (.free 3 (.free 1 (.free 4 (.one 2 (.one 5 (.one 6 (.one 7 .fin)))))))) [1] [] [(3, .box [.sl 4, .sl 5])] [oI y, oI y_1] ?_
 exact fr [0, 1, 4, 5]
theorem k_impl_EncodeNumber {a0 r} (h : impl_EncodeNumber a0 = some r) : KA Tryz.prog 102 [iV a0] [] (.sl 0) [oI r] := by
 unfold impl_EncodeNumber at h
 refine FnA.ofA 24 [] [.tmp 2] Tryz.func102 en102 ?_
 refine rg [] [] ?_
 refine awp_seq fun K2 hK2 => ?_
 refine rg [] [(9, bV ((decide (a0 < 0)) || (decide (1000000 < a0))))] ?_
 refine awp_if h ?_ ?_ <;> intro hc h
 ·refine rg [0, 9] [(2, nV)] ?_
  refine awp_red (Red.nil (t := 2) (.ints .i64 []) rfl rfl) ?_
  exact fr [0]
 refine sk hK2 ?_
 refine rg [9] [(3, nV)] ?_
 refine awp_seq fun K17 hK17 => ?_
 refine awp_block ?_
 refine lp h (fun (t0, t3s) => [(0, iV t0), (3, .sl 0)]) (fun (t0, t3s) => [oI t3s]) (fun _ => Exit.exit 0) (fun (t0_1, t3s_1) => [(0, iV t0_1), (3, .sl 0)]) (fun (t0_1, t3s_1) => [oI t3s_1]) ?_ ?_ (h0 := by refine Red.trans (Red.nil (t := 3) (.ints .i64 []) rfl rfl) ?_; exact Red.auto)
 ·rintro ⟨t0, t3s⟩ r h
  unfold impl_EncodeNumber_b0 at h
  try dsimp only
  refine awp_seq fun K28 hK28 => ?_
  refine rg [] [(11, bV (decide (128 ≤ t0)))] ?_
  refine awp_if h ?_ ?_ <;> intro hc h
  ·refine sk hK28 ?_
   refine awp_block ?_
   replace ⟨p, h⟩ := k3 h
   refine rm [11] [] [(0, oI (t3s ++ [((t0 % 128) + 128)]))] [oI [((t0 % 128) + 128)]] ?_
   replace ⟨p, h⟩ := k1 h
   refine eg [0] [(0, iV (t0 / 128))] ?_
   refine nm ?_
   exact lns [0]
  exact lo
 rintro ⟨t0_1, t3s_1⟩ h
 try dsimp only
 refine hK17 _ _ ?_
 replace ⟨p, h⟩ := k1 h
 refine rm [0, 3] [(2, .sl 0)] [(0, oI (t3s_1 ++ [t0_1]))] [oI [t0_1]] ?_
 exact fr [0]
theorem k_impl_numberWriter_put {a0_0 a1 r} (h : impl_numberWriter_put a0_0 a1 = some r) : KA Tryz.prog 86 [.pp 0 0, iV a1] [.box [.sl 1], oI a0_0] (.tup []) [.box [.sl 2], .dead, oI r] := by
 unfold impl_numberWriter_put at h
 refine FnA.ofA 14 [0, 1] [] Tryz.func86 en86 ?_
 refine awp_move 1 [(0, .pp 0 0), (1, iV a1)] [.box [.sl 2], .dead, oI a0_0] (by rfl) (by rfl) (by exact rfl) ?_
 replace ⟨y, hr0, h⟩ := bd h
 replace ⟨p, h⟩ := k1 h
 have c0 := cm [] (k_impl_EncodeNumber hr0)
 refine pe [0, 1] (.free 0 (.free 1 (.free 2 (.free 3 (.free 5 (.two 4 6 (.one 6 (.one 7 (.one 8 (.one 9 (.one 10 .fin))))) (.one 4 (.one 7 (.one 8 (.one 9 (.one 10 .fin))))))))))) [0, 1] [] [(2, oI (a0_0 ++ y))] [oI y] ?_
 exact fr [0, 1, 2]
theorem k_impl_taggedBody {a0 a1 r} (h : impl_taggedBody a0 a1 = some r) : KA Tryz.prog 60 [iV a0, .sl 0] [rI a1] (.sl 1) [rI a1, oI r] := by
 unfold impl_taggedBody at h
 refine FnA.ofA 22 [0] [.tmp 4] Tryz.func60 en60 ?_
 refine rg [] [] ?_
 refine rm [0] [(5, .pp 2 0)] [] [oI [a0], .box [.sl 1]] ?_
 refine awp_seq fun K14 hK14 => ?_
 refine rg [1] [(11, .sl 0), (12, iV (a1.length : Int)), (13, iV 0)] ?_
 refine awp_block ?_
 refine lp h (fun (t13, t5_0s) => [(5, .pp 1 0), (11, .sl 0), (12, iV (a1.length : Int)), (13, iV t13)]) (fun (t13, t5_0s) => [rI a1, .box [.sl 2], oI t5_0s]) (fun _ => Exit.exit 0) (fun t5_0s_1 => [(5, .pp 1 0)]) (fun t5_0s_1 => [rI a1, .box [.sl 2], oI t5_0s_1]) ?_ ?_ (h0 := Red.selA [0, 2, 1] Red.auto)
 ·rintro ⟨t13, t5_0s⟩ r h
  unfold impl_taggedBody_b0 at h
  try dsimp only
  refine rg [] [(14, bV (decide (t13 < (a1.length : Int))))] ?_
  refine awp_seq fun K24 hK24 => ?_
  refine awp_if h ?_ ?_ <;> intro hc h
  ·refine sk hK24 ?_
   refine awp_seq fun K26 hK26 => ?_
   refine awp_block ?_
   replace ⟨p, h⟩ := k1 h
   refine rg [14] [(7, iV (a1.getD t13.toNat 0))] ?_
   replace ⟨y, hr0, h⟩ := bd h
   refine ec [7] [] [(1, .box [.sl 3]), (0, .dead)] [oI y] [⟨1, [1, 2], k_impl_numberWriter_put hr0⟩] ?_
   refine hK26 _ _ ?_
   replace ⟨p, h⟩ := k1 h
   refine eg [13] [(13, iV (t13 + 1))] ?_
   exact lns [0, 1, 3]
  exact lo
 rintro t5_0s_1 h
 try dsimp only
 refine hK14 _ _ ?_
 refine rg [5] [(4, .sl 2)] ?_
 exact fr [0, 2]
theorem k_impl_bodiesOf_1 {υ : Type} (Φ : υ → ExtP) (l : Nat) (a1_0 : Int) (a1_1 : List Int) (a1_2 : List Bool) (a1_3 : List (Int × Int × Int)) (yld : (List Int) → υ → Option (Bool × υ)) (u : υ) (hY : ∀ (x : List Int) (u : υ) (b : Bool) (u' : υ), yld x u = some (b, u') → RoundA Tryz.prog l (Φ u) [.sl 0] [oI x] (fun b2 Φ2 => b2 = b ∧ Φ2 = Φ u')) {r : υ} (h : impl_bodiesOf_1 a1_0 a1_1 a1_2 a1_3 yld u = some r) :
 FnA Tryz.prog 59 [.v (yv l), .pp 1 0] [.ext (Φ u), .rbox [iV a1_0, .sl 2, .sl 3, .sl 4], rI a1_1, rB a1_2, rT a1_3] [] (fun x H => x = .tup [] ∧ H = [.ext (Φ r), .rbox [iV a1_0, .sl 2, .sl 3, .sl 4], rI a1_1, rB a1_2, rT a1_3]) := by
 unfold impl_bodiesOf_1 at h
 refine FnA.ofA 67 [0, 1, 2, 3, 4] [] Tryz.func59 en59 ?_
 refine awp_seq fun K2 hK2 => ?_
 replace ⟨y, hr0, h⟩ := bd h
 replace ⟨y_1, u_1, hr1, h⟩ := bd2 h
 refine awp_t [] [(20, bV (!y_1))] [(0, .ext (Φ u_1))] [oI [a1_0, (a1_1.length : Int), (a1_3.length : Int)], .dead] ?_ ?_
 ·intro K hK
  refine awp_regionYi 11 ?_
  refine vcOps_sound ftCOk ?_
  simp (maxSteps := 4000000) only [go_sem, Nat.reduceBEq, Nat.reduceLT, Nat.reduceAdd, Nat.reduceLeDiff, Nat.reduceSub, Nat.reduceEqDiff, Int.reduceToNat, reduceCtorEq, ↓reduceIte]
  repeat' (first | refine And.intro ?_ ?_ | intro hg)
  all_goals (try simp (disch := omega) only [wrap_fits])
  all_goals first
   | exact al0
   | (refine wpA_callA (k_impl_taggedBody hr0) [5] [] ?_
      rintro x Hc' ⟨rfl, rfl⟩ hlen
      refine vcOps_sound ftCOk ?_
      exact au12)
   | exact al1
 refine awp_if h ?_ ?_ <;> intro hc h
 ·exact fr [0, 1, 2, 3, 4]
 refine sk hK2 ?_
 refine awp_seq fun K35 hK35 => ?_
 refine rg [20] [(22, .sl 2), (23, iV (a1_1.length : Int)), (24, iV 0)] ?_
 refine awp_block ?_
 refine lp2 h (fun (t24, p0s) => [(0, .v (yv l)), (1, .pp 1 0), (22, .sl 2), (23, iV (a1_1.length : Int)), (24, iV t24)]) (fun (t24, p0s) => [.ext (Φ p0s), .rbox [iV a1_0, .sl 2, .sl 3, .sl 4], rI a1_1, rB a1_2, rT a1_3]) (fun _ => Exit.exit 0) (fun p0s_1 => [(0, .v (yv l)), (1, .pp 1 0)]) (fun p0s_1 => [.ext (Φ p0s_1), .rbox [iV a1_0, .sl 2, .sl 3, .sl 4], rI a1_1, rB a1_2, rT a1_3]) (fun _ => Exit.ret) (fun p0s_2 => []) (fun p0s_2 => [.ext (Φ p0s_2), .rbox [iV a1_0, .sl 2, .sl 3, .sl 4], rI a1_1, rB a1_2, rT a1_3]) ?_ ?_ ?_ (h0 := Red.selA [0, 1, 2, 3, 4] Red.auto)
 ·rintro ⟨t24, p0s⟩ r h
  unfold impl_bodiesOf_1_b0 at h
  try dsimp only
  refine rg [] [(25, bV (decide (t24 < (a1_1.length : Int))))] ?_
  refine awp_seq fun K57 hK57 => ?_
  refine awp_if h ?_ ?_ <;> intro hc h
  ·refine sk hK57 ?_
   refine awp_seq fun K62 hK62 => ?_
   refine awp_block ?_
   replace ⟨p, h⟩ := k1 h
   refine rg [25] [(3, iV t24), (4, iV (a1_1.getD t24.toNat 0))] ?_
   refine rg [] [(5, iV 0)] ?_
   refine awp_join h (fun t5 => [(0, .v (yv l)), (1, .pp 1 0), (4, iV (a1_1.getD t24.toNat 0)), (5, iV t5), (22, .sl 2), (23, iV (a1_1.length : Int)), (24, iV t24)]) (fun t5 => [.ext (Φ p0s), .rbox [iV a1_0, .sl 2, .sl 3, .sl 4], rI a1_1, rB a1_2, rT a1_3]) ?_ ?_
   ·intro k h
    replace ⟨p, h⟩ := k1 h
    refine rg [3] [(33, bV (a1_2.getD t24.toNat false))] ?_
    refine awp_if h ?_ ?_ <;> intro hc h
    ·refine eg [5, 33] [(5, iV 1)] ?_
     exact jo
    refine awp_skip ?_
    exact jo
   rintro t5 h
   try dsimp only
   replace ⟨p, h⟩ := k1 h
   replace ⟨y_2, hr1, h⟩ := bd h
   replace ⟨pa, h⟩ := k1 h
   replace ⟨y_3, u_2, hr3, h⟩ := bd2 h
   refine awp_t [4, 5] [(43, bV (!y_3))] [(0, .ext (Φ u_2))] [oI [((a1_1.getD t24.toNat 0) + 1)], .dead, oI [t5]] ?_ ?_
   ·intro K hK
    refine awp_regionYi 8 ?_
    refine vcOps_sound ftCOk ?_
    simp (maxSteps := 4000000) only [go_sem, Nat.reduceBEq, Nat.reduceLT, Nat.reduceAdd, Nat.reduceLeDiff, Nat.reduceSub, Nat.reduceEqDiff, Int.reduceToNat, reduceCtorEq, ↓reduceIte]
    repeat' (first | refine And.intro ?_ ?_ | intro hg)
    all_goals (try simp (disch := omega) only [wrap_fits])
    all_goals first
     | exact al0
     | (refine wpA_callA (k_impl_taggedBody hr1) [5] [] ?_
        rintro x Hc' ⟨rfl, rfl⟩ hlen
        refine vcOps_sound ftCOk ?_
        simp (maxSteps := 4000000) only [go_sem, Nat.reduceBEq, Nat.reduceLT, Nat.reduceAdd, Nat.reduceLeDiff, Nat.reduceSub, Nat.reduceEqDiff, Int.reduceToNat, reduceCtorEq, ↓reduceIte]
        repeat' (first | refine And.intro ?_ ?_ | intro hg)
        all_goals (try simp (disch := omega) only [wrap_fits])
        all_goals first
         | exact al0
         | (refine OpYA (hY _ _ _ _ hr3) 0 [6] [6] ?_
            rintro b Φ' ⟨rfl, rfl⟩
            refine vcOps_sound ftCOk ?_
            exact auV)
         | exact al1)
     | exact al1
   refine awp_if h ?_ ?_ <;> intro hc h
   ·exact lors [0, 1, 2, 3, 4]
   refine sk hK62 ?_
   replace ⟨p, h⟩ := k1 h
   refine eg [24, 43] [(24, iV (t24 + 1))] ?_
   exact lns [0, 1, 2, 3, 4]
  exact lo
 ·rintro p0s_1 h
  try dsimp only
  refine hK35 _ _ ?_
  refine awp_seq fun K86 hK86 => ?_
  refine rg [1] [(46, .sl 4), (47, iV (a1_3.length : Int)), (48, iV 0)] ?_
  refine awp_block ?_
  refine lp2 h (fun (t48, p0s_3) => [(0, .v (yv l)), (46, .sl 4), (47, iV (a1_3.length : Int)), (48, iV t48)]) (fun (t48, p0s_3) => [.ext (Φ p0s_3), .rbox [iV a1_0, .sl 2, .sl 3, .sl 4], rI a1_1, rB a1_2, rT a1_3]) (fun _ => Exit.exit 2) (fun p0s_4 => [(0, .v (yv l))]) (fun p0s_4 => [.ext (Φ p0s_4), .rbox [iV a1_0, .sl 2, .sl 3, .sl 4], rI a1_1, rB a1_2, rT a1_3]) (fun _ => Exit.ret) (fun p0s_5 => []) (fun p0s_5 => [.ext (Φ p0s_5), .rbox [iV a1_0, .sl 2, .sl 3, .sl 4], rI a1_1, rB a1_2, rT a1_3]) ?_ ?_ ?_
  ·rintro ⟨t48, p0s_3⟩ r h
   unfold impl_bodiesOf_1_b1 at h
   try dsimp only
   refine rg [] [(49, bV (decide (t48 < (a1_3.length : Int))))] ?_
   refine awp_seq fun K100 hK100 => ?_
   refine awp_if h ?_ ?_ <;> intro hc h
   ·refine sk hK100 ?_
    refine awp_seq fun K103 hK103 => ?_
    refine awp_block ?_
    replace ⟨p, h⟩ := k1 h
    refine rm [49] [(7, .pp 5 0)] [] [.box [iV ((a1_3.getD t48.toNat (0, 0, 0)).1), iV ((a1_3.getD t48.toNat (0, 0, 0)).2.1), iV ((a1_3.getD t48.toNat (0, 0, 0)).2.2)]] ?_
    replace ⟨y_4, hr0, h⟩ := bd h
    replace ⟨y_5, u_3, hr1, h⟩ := bd2 h
    refine awp_t [7] [(62, bV (!y_5))] [(0, .ext (Φ u_3))] [oI [(a1_3.getD t48.toNat (0, 0, 0)).1, (a1_3.getD t48.toNat (0, 0, 0)).2.1, (a1_3.getD t48.toNat (0, 0, 0)).2.2], .dead] ?_ ?_
    ·intro K hK
     refine awp_regionYi 9 ?_
     refine vcOps_sound ftCOk ?_
     simp (maxSteps := 4000000) only [go_sem, Nat.reduceBEq, Nat.reduceLT, Nat.reduceAdd, Nat.reduceLeDiff, Nat.reduceSub, Nat.reduceEqDiff, Int.reduceToNat, reduceCtorEq, ↓reduceIte]
     repeat' (first | refine And.intro ?_ ?_ | intro hg)
     all_goals (try simp (disch := omega) only [wrap_fits])
     all_goals first
      | exact al0
      | (refine wpA_callA (k_impl_taggedBody hr0) [6] [] ?_
         rintro x Hc' ⟨rfl, rfl⟩ hlen
         refine vcOps_sound ftCOk ?_
         simp (maxSteps := 4000000) only [go_sem, Nat.reduceBEq, Nat.reduceLT, Nat.reduceAdd, Nat.reduceLeDiff, Nat.reduceSub, Nat.reduceEqDiff, Int.reduceToNat, reduceCtorEq, ↓reduceIte]
         repeat' (first | refine And.intro ?_ ?_ | intro hg)
         all_goals (try simp (disch := omega) only [wrap_fits])
         all_goals first
          | exact al0
          | (refine OpYA (hY _ _ _ _ hr1) 0 [7] [7] ?_
             rintro b Φ' ⟨rfl, rfl⟩
             refine vcOps_sound ftCOk ?_
             exact auV)
          | exact al1)
      | exact al1
    refine awp_if h ?_ ?_ <;> intro hc h
    ·exact lors [0, 1, 2, 3, 4]
    refine sk hK103 ?_
    replace ⟨p, h⟩ := k1 h
    refine eg [48, 62] [(48, iV (t48 + 1))] ?_
    exact lns [0, 1, 2, 3, 4]
   exact lo
  ·rintro p0s_4 h
   try dsimp only
   refine hK86 _ _ ?_
   replace ⟨y_6, hr0, h⟩ := bd h
   replace ⟨y_7, u_4, hr1, h⟩ := bd2 h
   refine awp_tE [0] [] [(0, .ext (Φ u_4))] [oI [], .dead] ?_ ?_
   ·intro K hK
    refine awp_regionYi 2 ?_
    refine vcOps_sound ftCOk ?_
    simp (maxSteps := 4000000) only [go_sem, Nat.reduceBEq, Nat.reduceLT, Nat.reduceAdd, Nat.reduceLeDiff, Nat.reduceSub, Nat.reduceEqDiff, Int.reduceToNat, reduceCtorEq, ↓reduceIte]
    repeat' (first | refine And.intro ?_ ?_ | intro hg)
    all_goals (try simp (disch := omega) only [wrap_fits])
    all_goals first
     | exact al0
     | (refine wpA_callN (k_impl_taggedBody hr0) (.ints .i64 []) [5] [] ?_
        rintro x Hc' ⟨rfl, rfl⟩ hlen
        refine vcOps_sound ftCOk ?_
        exact au12)
     | exact al1
   exact fr [0, 1, 2, 3, 4]
  rintro p0s_5 h
  try dsimp only
  exact fr [0, 1, 2, 3, 4]
 rintro p0s_2 h
 try dsimp only
 exact fr [0, 1, 2, 3, 4]
theorem k_impl_bodyValid {a0 r} (h : impl_bodyValid a0 = some r) : KA Tryz.prog 79 [.sl 0] [rI a0] (bV r) [rI a0] := by
 unfold impl_bodyValid at h
 refine FnA.ofA 15 [0] [.tmp 2] Tryz.func79 en79 ?_
 refine rg [] [] ?_
 replace ⟨y, hr0, h⟩ := bd h
 refine awp_t [0] [(2, bV (((decide (1 ≤ (a0.length : Int))) && (decide ((a0.length : Int) ≤ 100))) && y))] [] [] ?_ ?_
 ·intro K hK
  refine awp_regionA ?_
  refine wc 8 [(0, .sl 0), (10, bV ((decide (1 ≤ (a0.length : Int))) && (decide ((a0.length : Int) ≤ 100))))] [rI a0] ?_
  have c0 := cm [0] (fun g0 => k_impl_BytesValid (bite_t hr0 g0))
  exact vs
 exact fr [0]
theorem k_impl_CheckSum {a0 r} (h : impl_CheckSum a0 = some r) : KA Tryz.prog 26 [.sl 0] [rI a0] (iV r) [rI a0] := by
 unfold impl_CheckSum at h
 refine FnA.ofA 23 [0] [.tmp 2] Tryz.func26 en26 ?_
 refine rg [] [] ?_
 refine awp_seq fun K2 hK2 => ?_
 replace ⟨y, hr0, h⟩ := bd h
 refine rc [] [(8, bV (!y))] [] [] [⟨1, [0], k_impl_BytesValid hr0⟩] ?_
 refine awp_if h ?_ ?_ <;> intro hc h
 ·refine rg [0, 8] [(2, iV (-1))] ?_
  exact fr [0]
 refine sk hK2 ?_
 refine rg [8] [(3, iV 7)] ?_
 refine awp_seq fun K17 hK17 => ?_
 refine rg [0] [(9, .sl 0), (10, iV (a0.length : Int)), (11, iV 0)] ?_
 refine awp_block ?_
 refine lp h (fun (t3, t11) => [(3, iV t3), (9, .sl 0), (10, iV (a0.length : Int)), (11, iV t11)]) (fun (t3, t11) => [rI a0]) (fun _ => Exit.exit 0) (fun t3_1 => [(3, iV t3_1)]) (fun t3_1 => [rI a0]) ?_ ?_
 ·rintro ⟨t3, t11⟩ r h
  unfold impl_CheckSum_b0 at h
  try dsimp only
  refine rg [] [(12, bV (decide (t11 < (a0.length : Int))))] ?_
  refine awp_seq fun K27 hK27 => ?_
  refine awp_if h ?_ ?_ <;> intro hc h
  ·refine sk hK27 ?_
   refine awp_seq fun K29 hK29 => ?_
   refine awp_block ?_
   replace ⟨p, h⟩ := k1 h
   refine rg [12] [(5, iV (a0.getD t11.toNat 0))] ?_
   replace ⟨p, h⟩ := k4 h
   refine eg [3, 5] [(3, iV ((((31 * t3) + (a0.getD t11.toNat 0)) + 1) % 251))] ?_
   refine hK29 _ _ ?_
   replace ⟨p, h⟩ := k1 h
   refine eg [11] [(11, iV (t11 + 1))] ?_
   exact ln
  exact lo
 rintro t3_1 h
 try dsimp only
 refine hK17 _ _ ?_
 refine rg [3] [(2, iV t3_1)] ?_
 exact fr [0]
theorem k_impl_FrameOf {a0 r} (h : impl_FrameOf a0 = some r) : KA Tryz.prog 89 [.sl 0] [rI a0] (.sl 1) [rI a0, oI r] := by
 unfold impl_FrameOf at h
 refine FnA.ofA 24 [0] [.tmp 2] Tryz.func89 en89 ?_
 refine rg [] [] ?_
 refine awp_seq fun K2 hK2 => ?_
 replace ⟨y, hr0, h⟩ := bd h
 refine rc [] [(6, bV (!y))] [] [] [⟨1, [0], k_impl_bodyValid hr0⟩] ?_
 refine awp_if h ?_ ?_ <;> intro hc h
 ·refine rg [0, 6] [(2, nV)] ?_
  refine awp_red (Red.nil (t := 2) (.ints .i64 []) rfl rfl) ?_
  exact fr [0, 1]
 refine sk hK2 ?_
 replace ⟨p, h⟩ := k2 h
 refine rm [6] [(3, .sl 1)] [] [oI (List.replicate 0 0)] ?_
 replace ⟨p, h⟩ := k1 h
 refine rm [] [] [(1, oI ((List.replicate 0 0) ++ [(a0.length : Int)]))] [oI [(a0.length : Int)]] ?_
 replace ⟨p, h⟩ := k1 h
 refine rm [] [] [(1, oI (((List.replicate 0 0) ++ [(a0.length : Int)]) ++ a0))] [] ?_
 replace ⟨y_1, hr0, h⟩ := bd h
 replace ⟨p, h⟩ := k1 h
 refine rc [0, 3] [(2, .sl 1)] [(1, oI ((((List.replicate 0 0) ++ [(a0.length : Int)]) ++ a0) ++ [y_1]))] [oI [y_1]] [⟨2, [0], k_impl_CheckSum hr0⟩] ?_
 exact fr [0, 1]
theorem k_slices_Concat_int_int {a0 r} (h : slices_Concat_int_int a0 = some r) : KA Tryz.prog 57 [.sl 0] [.row false (.intss .i64 a0)] (.sl 1) [.row false (.intss .i64 a0), oI r] := by
 unfold slices_Concat_int_int at h
 refine FnA.ofA 36 [0] [.tmp 2] Tryz.func57 en57 ?_
 refine rg [] [] ?_
 refine rg [] [(3, iV 0)] ?_
 refine awp_seq fun K26 hK26 => ?_
 refine rg [] [(9, .sl 0), (10, iV (a0.length : Int)), (11, iV 0)] ?_
 refine awp_block ?_
 refine lp h (fun (t3, t11) => [(0, .sl 0), (3, iV t3), (9, .sl 0), (10, iV (a0.length : Int)), (11, iV t11)]) (fun (t3, t11) => [.row false (.intss .i64 a0)]) (fun _ => Exit.exit 0) (fun t3_1 => [(0, .sl 0), (3, iV t3_1)]) (fun t3_1 => [.row false (.intss .i64 a0)]) ?_ ?_
 ·rintro ⟨t3, t11⟩ r h
  unfold slices_Concat_int_int_b0 at h
  try dsimp only
  refine rg [] [(12, bV (decide (t11 < (a0.length : Int))))] ?_
  refine awp_seq fun K44 hK44 => ?_
  refine awp_if h ?_ ?_ <;> intro hc h
  ·refine sk hK44 ?_
   refine awp_seq fun K48 hK48 => ?_
   refine awp_block ?_
   replace h := chk_some h
   obtain ⟨hpt50, h⟩ := h
   refine awp_take 0 t11.toNat 0 (by rfl) (by exact hpt50) (by rfl) (by exact rfl) ?_
   clear hpt50
   replace ⟨p, h⟩ := k1 h
   refine rg [12] [(5, .sl 1)] ?_
   refine awp_put 0 1 (by rfl) (by rfl) (Cont.setChild_self (by rfl)) (by exact rfl) ?_
   replace ⟨p, h⟩ := k1 h
   refine rg [3, 5] [(3, iV (t3 + ((a0.getD t11.toNat []).length : Int)))] ?_
   refine rg [] [(20, bV (decide ((t3 + ((a0.getD t11.toNat []).length : Int)) < 0)))] ?_
   refine awp_if h ?_ ?_ <;> intro hc h
   ·cases h
   refine sk hK48 ?_
   replace ⟨p, h⟩ := k1 h
   refine eg [11, 20] [(11, iV (t11 + 1))] ?_
   exact lns [0]
  exact lo
 rintro t3_1 h
 try dsimp only
 refine hK26 _ _ ?_
 replace ⟨y, hr0, h⟩ := bd h
 refine rc [3] [(6, .sl 1)] [] [oI y] [⟨1, [], k_slices_Grow_int_int t3_1 (h := hr0)⟩] ?_
 refine awp_seq fun K71 hK71 => ?_
 refine rg [0] [(25, .sl 0), (26, iV (a0.length : Int)), (27, iV 0)] ?_
 refine awp_block ?_
 refine lp h (fun (t27, t6s) => [(6, .sl 1), (25, .sl 0), (26, iV (a0.length : Int)), (27, iV t27)]) (fun (t27, t6s) => [.row false (.intss .i64 a0), oI t6s]) (fun _ => Exit.exit 2) (fun t6s_1 => [(6, .sl 1)]) (fun t6s_1 => [.row false (.intss .i64 a0), oI t6s_1]) ?_ ?_
 ·rintro ⟨t27, t6s⟩ r h
  unfold slices_Concat_int_int_b1 at h
  try dsimp only
  refine rg [] [(28, bV (decide (t27 < (a0.length : Int))))] ?_
  refine awp_seq fun K85 hK85 => ?_
  refine awp_if h ?_ ?_ <;> intro hc h
  ·refine sk hK85 ?_
   refine awp_seq fun K88 hK88 => ?_
   refine awp_block ?_
   replace h := chk_some h
   obtain ⟨hpt89, h⟩ := h
   refine awp_take 0 t27.toNat 0 (by rfl) (by exact hpt89) (by rfl) (by exact rfl) ?_
   clear hpt89
   replace ⟨p, h⟩ := k1 h
   refine rg [28] [(8, .sl 2)] ?_
   refine awp_put 0 2 (by rfl) (by rfl) (Cont.setChild_self (by rfl)) (by exact rfl) ?_
   replace ⟨p, h⟩ := k1 h
   refine em [8] [] [(1, oI (t6s ++ (a0.getD t27.toNat [])))] [] ?_
   refine hK88 _ _ ?_
   replace ⟨p, h⟩ := k1 h
   refine eg [27] [(27, iV (t27 + 1))] ?_
   exact lns [0, 1]
  exact lo
 rintro t6s_1 h
 try dsimp only
 refine hK71 _ _ ?_
 refine rg [6] [(2, .sl 1)] ?_
 exact fr [0, 1]
theorem k_impl_DiskWrite {a0_0 a0_1 a1 r} (h : impl_DiskWrite a0_0 a0_1 a1 = some r) : KA Tryz.prog 62 [.agg [.sl 0, .sl 1], .sl 2] [rI a0_0, rI a0_1, rI a1] (.tup [.agg [.sl 3, .sl 4], bV r.2.2]) [rI a0_0, rI a0_1, rI a1, oI r.1, oI r.2.1] := by
 unfold impl_DiskWrite at h
 refine FnA.ofA 39 [0, 1, 2] [.cell 4 30, .tmp 5] Tryz.func62 en62 ?_
 refine rm [0] [(2, .pp 3 0), (4, .pp 4 0)] [] [.box [.sl 0, .sl 1], .box [nV, nV]] ?_
 refine fz 2 ?_
 refine awp_seq fun K2 hK2 => ?_
 replace ⟨y, hr0, h⟩ := bd h
 refine rc [] [(9, bV (!y))] [] [] [⟨1, [0, 1], k_impl_DiskValid hr0⟩] ?_
 refine awp_if h ?_ ?_ <;> intro hc h
 ·refine rg [1, 2, 9] [(5, bV false)] ?_
  refine nc 4 0 (.ints .i64 []) ?_
  refine nc 4 1 (.ints .i64 []) ?_
  exact fr [0, 1, 2, 5, 6]
 refine sk hK2 ?_
 replace ⟨y_1, hr0, h⟩ := bd h
 refine rc [1, 9] [(6, .sl 5)] [] [oI y_1] [⟨1, [2], k_impl_FrameOf hr0⟩] ?_
 refine awp_seq fun K5 hK5 => ?_
 have hboth := both_some h
 refine awp_isnilC (by rfl) (by rfl) Tryz.underlying23 rfl rfl (by rfl) fun b hb => ?_
 replace h := hboth b hb
 clear hboth
 replace ⟨⟨hp0, hp1⟩, h⟩ := k2 h
 refine ⟨[(2, .pp 3 0), (4, .pp 4 0), (6, .sl 5), (27, bV (b || (decide (2000 < (((a0_0.length : Int) + (a0_1.length : Int)) + (y_1.length : Int))))))], [rI a0_0, rI a0_1, rI a1, .rbox [.sl 0, .sl 1], .box [nV, nV], oI y_1], ?_, ?_⟩
 ·intro K hK
  exact vs
 refine awp_if h ?_ ?_ <;> intro hc h
 ·replace ⟨y_2, y_3, hr0, h⟩ := bd2 h
  refine rc [2, 6, 27] [(5, bV false)] [(4, .box [.sl 6, .sl 7])] [oI y_2, oI y_3] [⟨1, [0, 1], k_impl_Disk_copied hr0⟩] ?_
  exact fr [0, 1, 2, 6, 7]
 refine sk hK5 ?_
 refine awp_freezeRow 6 (by rfl) (by rfl) (by exact rfl) ?_
 replace ⟨y_4, hr0, h⟩ := bd h
 replace ⟨y_5, hr1, h⟩ := bd h
 refine awp_t [2, 6, 27] [(5, bV true)] [(4, .box [.sl 6, .sl 8])] [oI y_4, .row false (.intss .i64 [a0_1, y_1]), oI y_5] ?_ ?_
 ·intro K hK
  refine dM [0, 1, 2, 3, 4, 5] [0, 3, 5, 1, 4] 6 (bt 11 59) fun L hL hN => ?_
  refine hN.node L 0 (bt 11 2047) 6 [] [(5, bV true), (30, .pp 3 0), (31, .sl 0), (32, .sl 6), (33, .pp 3 1), (34, .sl 1), (35, .sl 5), (36, .sl 7), (37, .sl 8), (38, .agg [.sl 6, .sl 8])] [(4, .box [.sl 6, .sl 8])] [oI y_4, .row false (.intss .i64 [a0_1, y_1]), oI y_5] ?_ fun n4 hN => ?_
  ·exact hL.fin (by kernel_rfl) (hK _ _ Red.auto)
  refine hN.node L 2 (bt 11 511) 9 [5] [] [(4, .box [nV, nV])] [] ?_ fun n3 hN => ?_
  ·refine st hL [(9, [10], 0, (bt 11 2047))] ⟨?_, trivial⟩
   exact hL.edge n4
  refine hN.node L 4 (bt 11 127) 8 [37, 38] [] [] [] ?_ fun n2 hN => ?_
  ·refine st hL [(7, [8], 2, (bt 11 511))] ⟨?_, trivial⟩
   have nn := n3
   have c0 := cm [7] (k_slices_Concat_int_int hr1)
   exact vn
  refine hN.node L 5 (bt 11 63) 7 [36] [] [] [] ?_ fun n1 hN => ?_
  ·refine st hL [(6, [], 4, (bt 11 127))] ⟨?_, trivial⟩
   exact hL.edge n2
  refine hN.node L 5 (bt 11 123) 7 [32] [(36, .sl 6)] [(6, .row false (.intss .i64 [a0_1, y_1]))] [] ?_ fun n5 hN => ?_
  ·refine st hL [(2, [], 4, (bt 11 127))] ⟨?_, trivial⟩
   have nn := n2
   have ns := cm [0, 1, 2, 3, 4, 5, 7, 6] trivial
   have c0 := cm [0] (k_slices_Clone_int_int hr0)
   exact vn
  refine hN.node L 6 (bt 11 59) 6 [36] [] [] [] ?_ fun n0 hN => ?_
  ·refine st hL [(2, [], 5, (bt 11 63)), (6, [], 5, (bt 11 123))] ⟨?_, ?_, trivial⟩
   ·have nn := n1
    have c0 := cm [0] (k_slices_Clone_int_int hr0)
    exact vn
   exact hL.edge n5
  have nn := n0
  exact au16
 exact fr [0, 1, 2, 6, 8]
theorem k_impl_Disk_kept {a0_0 a0_1 a1 r} (h : impl_Disk_kept a0_0 a0_1 a1 = some r) : KA Tryz.prog 44 [.agg [.sl 0, .sl 1], iV a1] [rI a0_0, rI a0_1] (.agg [.sl 2, .sl 3]) [rI a0_0, rI a0_1, oI r.1, oI r.2] := by
 unfold impl_Disk_kept at h
 refine FnA.ofA 19 [0, 1] [.cell 4 30] Tryz.func44 en44 ?_
 refine rm [0] [(2, .pp 2 0), (4, .pp 3 0)] [] [.box [.sl 0, .sl 1], .box [nV, nV]] ?_
 refine fz 2 ?_
 refine rg [1] [(1, iV (min a1 (a0_1.length : Int)))] ?_
 replace ⟨p, h⟩ := k1 h
 replace ⟨y, hr1, h⟩ := bd h
 have c0 := cm [5] (k_slices_Concat_int_int hr1)
 refine dm (.free 0 (.free 2 (.free 4 (.free 1 (.one 3 (.one 5 (.one 6 (.one 7 (.one 8 (.one 9 .fin)))))))))) [1, 2] [] [(3, .box [.sl 6, nV])] [rI ((a0_1.take ((min a1 (a0_1.length : Int)).toNat)).drop 0), .row false (.intss .i64 [a0_0, ((a0_1.take ((min a1 (a0_1.length : Int)).toNat)).drop 0)]), oI y] ?_
 refine nc 3 1 (.ints .i64 []) ?_
 exact fr [0, 1, 6, 7]
theorem k_impl_DiskSync {a0_0 a0_1 r} (h : impl_DiskSync a0_0 a0_1 = some r) : KA Tryz.prog 36 [.agg [.sl 0, .sl 1]] [rI a0_0, rI a0_1] (.agg [.sl 2, .sl 3]) [rI a0_0, rI a0_1, oI r.1, oI r.2] := by
 unfold impl_DiskSync at h
 refine FnA.ofA 12 [0, 1] [.cell 2 30] Tryz.func36 en36 ?_
 refine rm [0] [(1, .pp 2 0), (2, .pp 3 0)] [] [.box [.sl 0, .sl 1], .box [nV, nV]] ?_
 refine fz 1 ?_
 refine awp_seq fun K2 hK2 => ?_
 replace ⟨y, hr0, h⟩ := bd h
 refine rc [] [(5, bV (!y))] [] [] [⟨1, [0, 1], k_impl_DiskValid hr0⟩] ?_
 refine awp_if h ?_ ?_ <;> intro hc h
 ·refine rg [1, 5] [] ?_
  refine nc 3 0 (.ints .i64 []) ?_
  refine nc 3 1 (.ints .i64 []) ?_
  exact fr [0, 1, 4, 5]
 refine sk hK2 ?_
 replace ⟨y_1, y_2, hr0, h⟩ := bd2 h
 refine rc [1, 5] [] [(3, .box [.sl 4, .sl 5])] [oI y_1, oI y_2] [⟨4, [0, 1], k_impl_Disk_kept hr0⟩] ?_
 exact fr [0, 1, 4, 5]
theorem k_impl_bodiesOf_v2 {a0_0 a0_1 a1_0 a1_1 a1_2 a1_3 r} (h : impl_bodiesOf_v2 a0_0 a0_1 a1_0 a1_1 a1_2 a1_3 = some r) : KA Tryz.prog 32 [.agg [iV a1_0, .sl 2, .sl 3, .sl 4]] [rI a0_0, rI a0_1, rI a1_1, rB a1_2, rT a1_3, .rbox [.sl 0, .sl 1], .rbox [iV a1_0, .sl 2, .sl 3, .sl 4], .box [nV, nV], .box [.sl 0, .sl 1], .rbox [iV a1_0, .sl 2, .sl 3, .sl 4], .box [nV, nV], .box [bV false]] (.ip 12 (.clo 59)) [rI a0_0, rI a0_1, rI a1_1, rB a1_2, rT a1_3, .rbox [.sl 0, .sl 1], .rbox [iV a1_0, .sl 2, .sl 3, .sl 4], .box [nV, nV], .box [.sl 0, .sl 1], .rbox [iV a1_0, .sl 2, .sl 3, .sl 4], .box [nV, nV], .box [bV false], .rbox [iV r, .sl 2, .sl 3, .sl 4]] := by
 unfold impl_bodiesOf_v2 at h
 refine FnA.ofA 4 [0, 1, 2, 3, 4, 5, 6, 7, 8, 9, 10, 11] [.tmp 2] Tryz.func32 en32 ?_
 refine rm [0] [(1, .pp 12 0)] [] [.box [iV a1_0, .sl 2, .sl 3, .sl 4]] ?_
 refine fz 1 ?_
 refine rg [1] [(2, .ip 12 (.clo 59))] ?_
 exact fr [0, 1, 2, 3, 4, 5, 6, 7, 8, 9, 10, 11, 12]
theorem k_impl_written_v2 {a0_0 a0_1 a1_0 a1_1 a1_2 a1_3 r} (h : impl_written_v2 a0_0 a0_1 a1_0 a1_1 a1_2 a1_3 = some r) : KA Tryz.prog 35 [.agg [.sl 0, .sl 1], .agg [iV a1_0, .sl 2, .sl 3, .sl 4]] [rI a0_0, rI a0_1, rI a1_1, rB a1_2, rT a1_3, .rbox [.sl 0, .sl 1], .rbox [iV a1_0, .sl 2, .sl 3, .sl 4], .box [nV, nV]] (.tup [.agg [.sl 8, .sl 9], bV r.2.2]) [rI a0_0, rI a0_1, rI a1_1, rB a1_2, rT a1_3, .rbox [.sl 0, .sl 1], .rbox [iV a1_0, .sl 2, .sl 3, .sl 4], .box [nV, nV], rI r.1, rI r.2.1] := by
 unfold impl_written_v2 at h
 refine FnA.ofA 23 [0, 1, 2, 3, 4, 5, 6, 7] [.cell 4 30, .cell 5 4] Tryz.func35 en35 ?_
 refine rm [0, 1] [(2, .pp 8 0), (3, .pp 9 0), (4, .pp 10 0), (5, .pp 11 0)] [] [.box [.sl 0, .sl 1], .box [iV a1_0, .sl 2, .sl 3, .sl 4], .box [nV, nV], .box [bV false]] ?_
 refine fz 3 ?_
 refine awp_seq fun K14 hK14 => ?_
 replace ⟨y, hr0, h⟩ := bd h
 have d0 := k_impl_bodiesOf_v2 hr0
 refine rm [3] [(10, .ip 12 (.clo 59))] [] [.rbox [iV y, .sl 2, .sl 3, .sl 4]] ?_
 refine awp_block ?_
 replace h := bind_some h
 obtain ⟨u27, hx, h⟩ := h
 refine awp_rangeL (f := impl_written_v2_r0) (s0 := (a0_0, a0_1)) (u' := u27) [0, 1, 2, 3, 4, 5, 6, 7, 8, 11, 14, 15] [(2, .pp 8 0), (4, .pp 11 0), (5, .pp 14 0), (10, .ip 15 (.clo 59))] (fun ((t2_0s, t2_1s) : List Int × List Int) => [rI a0_0, rI a0_1, rI a1_1, rB a1_2, rT a1_3, .rbox [.sl 0, .sl 1], .rbox [iV a1_0, .sl 2, .sl 3, .sl 4], .box [nV, nV], .box [.sl 9, .sl 10], rI t2_0s, rI t2_1s, .box [.sl 12, .sl 13], rI [], rI [], .box [bV false], .rbox [iV y, .sl 2, .sl 3, .sl 4]]) (fun ((t2_0s_1, t2_1s_1, t4_0s, t4_1s) : List Int × List Int × List Int × List Int) => [rI a0_0, rI a0_1, rI a1_1, rB a1_2, rT a1_3, .rbox [.sl 0, .sl 1], .rbox [iV a1_0, .sl 2, .sl 3, .sl 4], .box [nV, nV], .box [.sl 9, .sl 10], rI t2_0s_1, rI t2_1s_1, .box [.sl 12, .sl 13], rI t4_0s, rI t4_1s, .box [bV false], .rbox [iV y, .sl 2, .sl 3, .sl 4]]) (fun ((t2_0s_1, t2_1s_1, t4_0s, t4_1s) : List Int × List Int × List Int × List Int) => Code.ret) (fun x => [(2, .pp 8 0), (4, .pp 11 0), (5, .pp 14 0), (6, .sl 17), (10, .ip 15 (.clo 59))]) [15, 2, 3, 4] [.rbox [iV y, .sl 2, .sl 3, .sl 4], rI a1_1, rB a1_2, rT a1_3] (fun x => [.sl 0]) (fun x => [oI x]) 16 (fun l Φ hY => k_impl_bodiesOf_1 (Φ := Φ) (l := l) y a1_1 a1_2 a1_3 _ _ (hY := hY) (h := hx)) ?_ ?_ ?_ ?_ ?_ (hnf := by rintro ⟨t2_0s, t2_1s⟩; rfl) (hnx := by rintro ⟨t2_0s_1, t2_1s_1, t4_0s, t4_1s⟩ <;> rfl)
 ·refine Red.trans (Red.dupCell (o := 8) (i := 0) rfl rfl rfl) ?_
  refine Red.trans (Red.dupCell (o := 8) (i := 1) rfl rfl rfl) ?_
  refine Red.trans (Red.nilCell (o := 10) (i := 0) (.ints .i64 []) rfl rfl rfl) ?_
  refine Red.trans (Red.freeze (o := 15) rfl) ?_
  refine Red.trans (Red.nilCell (o := 10) (i := 1) (.ints .i64 []) rfl rfl rfl) ?_
  refine Red.trans (Red.freeze (o := 16) rfl) ?_
  exact Red.selA [0, 1, 2, 3, 4, 5, 6, 7, 8, 13, 14, 10, 15, 16, 11, 12] Red.auto
 ·rintro l x ⟨t2_0s, t2_1s⟩ Ψ
  have h := trivial
  refine awp_at [(11, .sl 17), (2, .pp 8 0), (4, .pp 11 0), (5, .pp 14 0), (10, .ip 15 (.clo 59))] [rI a0_0, rI a0_1, rI a1_1, rB a1_2, rT a1_3, .rbox [.sl 0, .sl 1], .rbox [iV a1_0, .sl 2, .sl 3, .sl 4], .box [nV, nV], .box [.sl 9, .sl 10], rI t2_0s, rI t2_1s, .box [.sl 12, .sl 13], rI [], rI [], .box [bV false], .rbox [iV y, .sl 2, .sl 3, .sl 4], .ext Ψ, oI x] ?_
  refine eg [11] [(6, .sl 17)] ?_
  exact RQ.asg [(2, .pp 8 0), (4, .pp 11 0), (5, .pp 14 0), (6, .sl 17), (10, .ip 15 (.clo 59))] [rI a0_0, rI a0_1, rI a1_1, rB a1_2, rT a1_3, .rbox [.sl 0, .sl 1], .rbox [iV a1_0, .sl 2, .sl 3, .sl 4], .box [nV, nV], .box [.sl 9, .sl 10], rI t2_0s, rI t2_1s, .box [.sl 12, .sl 13], rI [], rI [], .box [bV false], .rbox [iV y, .sl 2, .sl 3, .sl 4], .ext Ψ, oI x] Red.auto
 ·rintro l x ⟨t2_0s, t2_1s⟩ u' Ψ h
  unfold impl_written_v2_r0 at h
  refine awp_at [(2, .pp 8 0), (4, .pp 11 0), (5, .pp 14 0), (6, .sl 17), (10, .ip 15 (.clo 59))] [rI a0_0, rI a0_1, rI a1_1, rB a1_2, rT a1_3, .rbox [.sl 0, .sl 1], .rbox [iV a1_0, .sl 2, .sl 3, .sl 4], .box [nV, nV], .box [.sl 9, .sl 10], rI t2_0s, rI t2_1s, .box [.sl 12, .sl 13], rI [], rI [], .box [bV false], .rbox [iV y, .sl 2, .sl 3, .sl 4], .ext Ψ, oI x] ?_
  refine awp_block ?_
  replace ⟨y_1, y_2, y_3, hr0, h⟩ := bd3 h
  refine rc [6] [(7, .pp 20 0), (8, bV y_3)] [] [oI y_1, oI y_2, .box [.sl 18, .sl 19]] [⟨2, [9, 10, 17], k_impl_DiskWrite hr0⟩] ?_
  refine awp_seq fun K25 hK25 => ?_
  refine rg [8] [(19, bV (!y_3))] ?_
  refine awp_if h ?_ ?_ <;> intro hc h
  ·refine rm [7, 19] [] [(11, .box [.sl 9, .sl 10])] [] ?_
   refine awp_ret ?_
   refine nm ?_
   obtain rfl := Option.some.inj h
   refine RQ.out [rI a0_0, rI a0_1, rI a1_1, rB a1_2, rT a1_3, .rbox [.sl 0, .sl 1], .rbox [iV a1_0, .sl 2, .sl 3, .sl 4], .box [nV, nV], .box [.sl 9, .sl 10], rI t2_0s, rI t2_1s, .box [.sl 12, .sl 13], rI t2_0s, rI t2_1s, .box [bV false], .rbox [iV y, .sl 2, .sl 3, .sl 4], .ext Ψ] ?_
   refine Red.trans (Red.dupCell (o := 11) (i := 0) rfl rfl rfl) ?_
   refine Red.trans (Red.dupCell (o := 11) (i := 1) rfl rfl rfl) ?_
   exact Red.selA [0, 1, 2, 3, 4, 5, 6, 7, 8, 9, 10, 11, 21, 22, 14, 15, 16] Red.auto
  refine sk hK25 ?_
  refine em [7, 19] [] [(8, .box [.sl 18, .sl 19])] [] ?_
  refine nm ?_
  obtain rfl := Option.some.inj h
  refine RQ.next [rI a0_0, rI a0_1, rI a1_1, rB a1_2, rT a1_3, .rbox [.sl 0, .sl 1], .rbox [iV a1_0, .sl 2, .sl 3, .sl 4], .box [nV, nV], .box [.sl 9, .sl 10], rI y_1, rI y_2, .box [.sl 12, .sl 13], rI [], rI [], .box [bV false], .rbox [iV y, .sl 2, .sl 3, .sl 4], .ext Ψ] ?_
  refine Red.trans (Red.freeze (o := 18) rfl) ?_
  refine Red.trans (Red.freeze (o := 19) rfl) ?_
  exact Red.selA [0, 1, 2, 3, 4, 5, 6, 7, 8, 18, 19, 11, 12, 13, 14, 15, 16] Red.auto
 ·rintro ⟨t2_0s, t2_1s⟩ rfl
  try dsimp only [Sum.elim_inl, Sum.elim_inr] at h
  try simp only [Thn, InBlk, exitOf, ↓reduceIte, Nat.reduceEqDiff, Sum.elim_inl, Sum.elim_inr, List.cons_append, List.nil_append]
  refine hK14 _ _ ?_
  refine rm [2, 10] [] [(11, .box [.sl 9, .sl 10]), (2, .box [bV true])] [] ?_
  exact fr [0, 1, 2, 3, 4, 5, 6, 7, 9, 10]
 rintro ⟨t2_0s_1, t2_1s_1, t4_0s, t4_1s⟩ rfl
 try dsimp only [Sum.elim_inl, Sum.elim_inr] at h
 try simp only [Thn, InBlk, exitOf, ↓reduceIte, Nat.reduceEqDiff, Sum.elim_inl, Sum.elim_inr, List.cons_append, List.nil_append]
 exact fr [0, 1, 2, 3, 4, 5, 6, 7, 12, 13]
theorem k_impl_SaveState {a0_0 a0_1 a1_0 a1_1 a1_2 a1_3 r} (h : impl_SaveState a0_0 a0_1 a1_0 a1_1 a1_2 a1_3 = some r) : KA Tryz.prog 16 [.agg [.sl 0, .sl 1], .agg [iV a1_0, .sl 2, .sl 3, .sl 4]] [rI a0_0, rI a0_1, rI a1_1, rB a1_2, rT a1_3] (.tup [.agg [.sl 5, .sl 6], bV r.2.2]) [rI a0_0, rI a0_1, rI a1_1, rB a1_2, rT a1_3, oI r.1, oI r.2.1] := by
 unfold impl_SaveState at h
 refine FnA.ofA 29 [0, 1, 2, 3, 4] [.cell 4 30, .tmp 5] Tryz.func16 en16 ?_
 refine rm [0, 1] [(2, .pp 5 0), (3, .pp 6 0), (4, .pp 7 0)] [] [.box [.sl 0, .sl 1], .box [iV a1_0, .sl 2, .sl 3, .sl 4], .box [nV, nV]] ?_
 refine fz 2 ?_
 refine fz 3 ?_
 refine awp_seq fun K2 hK2 => ?_
 replace ⟨y, hr0, h⟩ := bd h
 refine rc [] [(10, bV (!y))] [] [] [⟨1, [0, 1], k_impl_DiskValid hr0⟩] ?_
 refine awp_if h ?_ ?_ <;> intro hc h
 ·refine rg [2, 3, 10] [(5, bV false)] ?_
  refine nc 7 0 (.ints .i64 []) ?_
  refine nc 7 1 (.ints .i64 []) ?_
  exact fr [0, 1, 2, 3, 4, 8, 9]
 refine sk hK2 ?_
 refine awp_seq fun K5 hK5 => ?_
 replace ⟨y_1, hr0, h⟩ := bd h
 refine rc [10] [(14, bV (!y_1))] [] [] [⟨1, [2, 3, 4], k_impl_State_ownValid hr0⟩] ?_
 refine awp_if h ?_ ?_ <;> intro hc h
 ·replace ⟨y_2, y_3, hr0, h⟩ := bd2 h
  refine rc [2, 3, 14] [(5, bV false)] [(7, .box [.sl 8, .sl 9])] [oI y_2, oI y_3] [⟨1, [0, 1], k_impl_Disk_copied hr0⟩] ?_
  exact fr [0, 1, 2, 3, 4, 8, 9]
 refine sk hK5 ?_
 replace ⟨y_4, y_5, y_6, hr0, h⟩ := bd3 h
 have d0 := k_impl_written_v2 hr0
 refine rm [3, 14] [(6, .pp 10 0), (7, bV y_6)] [] [rI y_4, rI y_5, .box [.sl 8, .sl 9]] ?_
 refine awp_seq fun K8 hK8 => ?_
 refine rg [7] [(24, bV (!y_6))] ?_
 refine awp_if h ?_ ?_ <;> intro hc h
 ·replace ⟨y_7, y_8, hr0, h⟩ := bd2 h
  refine rc [2, 6, 24] [(5, bV false)] [(7, .box [.sl 11, .sl 12])] [oI y_7, oI y_8] [⟨1, [0, 1], k_impl_Disk_copied hr0⟩] ?_
  exact fr [0, 1, 2, 3, 4, 11, 12]
 refine sk hK8 ?_
 replace ⟨y_9, y_10, hr0, h⟩ := bd2 h
 refine rc [2, 6, 24] [(5, bV true)] [(7, .box [.sl 11, .sl 12])] [oI y_9, oI y_10] [⟨1, [8, 9], k_impl_DiskSync hr0⟩] ?_
 exact fr [0, 1, 2, 3, 4, 11, 12]
theorem k_impl_FreshDisk {a0_0 a0_1 a0_2 a0_3 r} (h : impl_FreshDisk a0_0 a0_1 a0_2 a0_3 = some r) : KA Tryz.prog 6 [.agg [iV a0_0, .sl 0, .sl 1, .sl 2]] [rI a0_1, rB a0_2, rT a0_3] (.tup [.agg [.sl 3, .sl 4], bV r.2.2]) [rI a0_1, rB a0_2, rT a0_3, oI r.1, oI r.2.1] := by
 unfold impl_FreshDisk at h
 refine FnA.ofA 16 [0, 1, 2] [.cell 2 30, .tmp 3] Tryz.func6 en6 ?_
 refine rm [0] [(1, .pp 3 0), (2, .pp 4 0)] [] [.box [iV a0_0, .sl 0, .sl 1, .sl 2], .box [nV, nV]] ?_
 refine fz 1 ?_
 replace ⟨y, y_1, y_2, hr0, h⟩ := bd3 h
 refine awp_t [1] [(4, .pp 9 0), (5, bV y_2)] [] [oI [], oI [], oI y, oI y_1, .box [.sl 7, .sl 8]] ?_ ?_
 ·intro K hK
  refine awp_regionA ?_
  refine wpA_cutAt 2 [(1, .pp 3 0), (2, .pp 4 0), (7, .agg [.sl 5, .sl 6]), (8, .agg [iV a0_0, .sl 0, .sl 1, .sl 2])] [rI a0_1, rB a0_2, rT a0_3, .rbox [iV a0_0, .sl 0, .sl 1, .sl 2], .box [nV, nV], oI [], oI []] ?_ ?_
  ·clear hK K
   intro K hK
   refine vcOps_sound ftCOk ?_
   simp (maxSteps := 4000000) only [go_sem, Nat.reduceBEq, Nat.reduceLT, Nat.reduceAdd, Nat.reduceLeDiff, Nat.reduceSub, Nat.reduceEqDiff, Int.reduceToNat, reduceCtorEq, ↓reduceIte]
   repeat' (first | refine And.intro ?_ ?_ | intro hg)
   all_goals (try simp (disch := omega) only [wrap_fits])
   all_goals first | (refine hK _ _ ?_; refine Red.trans (Red.nilAgg (t := 7) (j := 0) (.ints .i64 []) rfl rfl rfl) ?_; refine Red.trans (Red.nilAgg (t := 7) (j := 1) (.ints .i64 []) rfl rfl rfl) ?_; exact Red.auto) | exact al0 | exact al1
  have c0 := cm [5, 6, 0, 1, 2] (k_impl_SaveState hr0)
  exact vs
 refine awp_seq fun K2 hK2 => ?_
 refine rg [5] [(13, bV (!y_2))] ?_
 refine awp_if h ?_ ?_ <;> intro hc h
 ·refine rg [4, 13] [(3, bV false)] ?_
  refine nc 4 0 (.ints .i64 []) ?_
  refine nc 4 1 (.ints .i64 []) ?_
  exact fr [0, 1, 2, 10, 11]
 refine sk hK2 ?_
 refine rm [4, 13] [(3, bV true)] [(4, .box [.sl 7, .sl 8])] [] ?_
 exact fr [0, 1, 2, 7, 8]
theorem k_spec_BytesValid {a0 r} (h : spec_BytesValid a0 = some r) : KA Tryz.prog 63 [.sl 0] [rI a0] (bV r) [rI a0] := by
 unfold spec_BytesValid at h
 refine FnA.ofA 19 [0] [.tmp 2] Tryz.func63 en63 ?_
 refine rg [] [] ?_
 refine awp_seq fun K20 hK20 => ?_
 refine rg [] [(3, iV 0)] ?_
 refine awp_block ?_
 refine lp2 h (fun t3 => [(0, .sl 0), (3, iV t3)]) (fun t3 => [rI a0]) (fun _ => Exit.exit 0) (fun _ => [(0, .sl 0)]) (fun _ => [rI a0]) (fun _ => Exit.ret) (fun _ => [(2, bV false)]) (fun _ => [rI a0]) ?_ ?_ ?_
 ·rintro t3 r h
  unfold spec_BytesValid_b0 at h
  try dsimp only
  refine awp_seq fun K34 hK34 => ?_
  refine rg [] [(7, bV (decide (t3 < (a0.length : Int))))] ?_
  refine awp_if h ?_ ?_ <;> intro hc h
  ·refine sk hK34 ?_
   refine awp_seq fun K37 hK37 => ?_
   refine awp_block ?_
   replace ⟨p, h⟩ := k1 h
   refine rg [7] [(15, bV (!(decide (0 ≤ (a0.getD t3.toNat 0)) && decide ((a0.getD t3.toNat 0) ≤ 255))))] ?_
   refine awp_if h ?_ ?_ <;> intro hc h
   ·refine rg [0, 3, 15] [(2, bV false)] ?_
    exact lor
   refine sk hK37 ?_
   replace ⟨p, h⟩ := k1 h
   refine eg [3, 15] [(3, iV (t3 + 1))] ?_
   exact ln
  exact lo
 ·rintro ⟨⟩ h
  try dsimp only
  refine hK20 _ _ ?_
  refine rg [0] [(2, bV (decide ((a0.length : Int) ≤ 2000)))] ?_
  exact fr [0]
 rintro ⟨⟩ h
 try dsimp only
 exact fr [0]
theorem k_spec_DiskValid {a0_0 a0_1 r} (h : spec_DiskValid a0_0 a0_1 = some r) : KA Tryz.prog 37 [.agg [.sl 0, .sl 1]] [rI a0_0, rI a0_1] (bV r) [rI a0_0, rI a0_1] := by
 unfold spec_DiskValid at h
 refine FnA.ofA 23 [0, 1] [.tmp 2] Tryz.func37 en37 ?_
 refine rm [0] [(1, .pp 2 0)] [] [.box [.sl 0, .sl 1]] ?_
 refine fz 1 ?_
 by_cases hb1 : (decide ((a0_0.length : Int) ≤ 2000)) = true
 ·replace h := bite_t h hb1
  have hb1d := hb1
  try simp only [decide_eq_true_eq, decide_eq_false_iff_not, beq_iff_eq, bne_iff_ne, ne_eq, beq_eq_false_iff_ne, bne_eq_false_iff_eq, Bool.not_eq_true', Bool.not_eq_false', Bool.and_eq_true, Bool.or_eq_true, Bool.and_eq_false_iff, Bool.or_eq_false_iff] at hb1d
  by_cases hb2 : (decide ((a0_1.length : Int) ≤ 2000)) = true
  ·replace h := bite_t h hb2
   have hb2d := hb2
   try simp only [decide_eq_true_eq, decide_eq_false_iff_not, beq_iff_eq, bne_iff_ne, ne_eq, beq_eq_false_iff_ne, bne_eq_false_iff_eq, Bool.not_eq_true', Bool.not_eq_false', Bool.and_eq_true, Bool.or_eq_true, Bool.and_eq_false_iff, Bool.or_eq_false_iff] at hb2d
   replace ⟨p, h⟩ := k2 h
   replace ⟨y, hr2, h⟩ := bd h
   have c0 := cm [3] (k_spec_BytesValid hr2)
   refine dm (.one 0 (.one 1 (.one 2 (.one 3 (.one 4 (.one 5 (.one 6 (.one 7 (.one 8 (.one 9 (.one 10 (.free 12 (.free 15 (.free 13 (.free 16 (.one 11 (.one 14 (.one 17 (.one 18 (.one 19 (.one 20 .fin))))))))))))))))))))) [1] [(2, bV y)] [] [oI (([] ++ a0_0) ++ a0_1)] ?_ (hx := by intro K hK; exact vc2)
   exact fr [0, 1]
  rw [Bool.not_eq_true] at hb2
  replace h := bite_f h hb2
  have hb2d := hb2
  try simp only [decide_eq_true_eq, decide_eq_false_iff_not, beq_iff_eq, bne_iff_ne, ne_eq, beq_eq_false_iff_ne, bne_eq_false_iff_eq, Bool.not_eq_true', Bool.not_eq_false', Bool.and_eq_true, Bool.or_eq_true, Bool.and_eq_false_iff, Bool.or_eq_false_iff] at hb2d
  refine awp_t [1] [(2, bV false)] [] [] ?_ ?_
  ·intro K hK
   refine dM [0, 1, 2] [0, 1, 2, 3, 4, 5, 6, 7, 8, 9, 10, 12, 15] 8 (bt 21 38911) fun L hL hN => ?_
   refine hN.node L 0 (bt 21 2097151) 3 [] [(2, bV false), (3, .pp 2 0), (4, .sl 0), (5, iV (a0_0.length : Int)), (6, bV true), (7, bV true), (8, .pp 2 1), (9, .sl 1), (10, iV (a0_1.length : Int)), (11, bV false), (12, bV false), (13, bV false), (14, .v (.tuple #[])), (15, .v (.tuple #[])), (16, .v (.tuple #[])), (17, .v (.tuple #[])), (18, .v (.tuple #[])), (19, .v (.tuple #[])), (20, .v (.tuple #[])), (21, .v (.tuple #[])), (22, bV false)] [] [] ?_ fun n6 hN => ?_
   ·exact hL.fin (by kernel_rfl) (hK _ _ Red.auto)
   refine hN.node L 3 (bt 21 262143) 3 [2, 21, 22] [] [] [] ?_ fun n5 hN => ?_
   ·refine st hL [(18, [19, 20], 0, (bt 21 2097151))] ⟨?_, trivial⟩
    have nn := n6
    exact au14
   refine hN.node L 4 (bt 21 131071) 3 [20] [] [] [] ?_ fun n4 hN => ?_
   ·refine st hL [(17, [], 3, (bt 21 262143))] ⟨?_, trivial⟩
    have nn := n5
    exact au14
   refine hN.node L 5 (bt 21 65535) 3 [19] [] [] [] ?_ fun n3 hN => ?_
   ·refine st hL [(16, [], 4, (bt 21 131071))] ⟨?_, trivial⟩
    have nn := n4
    exact au14
   refine hN.node L 5 (bt 21 114687) 3 [17] [(19, .v (.tuple #[]))] [] [] ?_ fun n7 hN => ?_
   ·refine st hL [(14, [], 4, (bt 21 131071))] ⟨?_, trivial⟩
    have nn := n4
    exact au14
   refine hN.node L 6 (bt 21 49151) 3 [19] [] [] [] ?_ fun n2 hN => ?_
   ·refine st hL [(14, [], 5, (bt 21 65535)), (16, [], 5, (bt 21 114687))] ⟨?_, ?_, trivial⟩
    ·have nn := n3
     exact au14
    have nn := n7
    exact au14
   refine hN.node L 6 (bt 21 106495) 3 [16] [(19, .v (.tuple #[]))] [] [] ?_ fun n8 hN => ?_
   ·refine st hL [(13, [], 5, (bt 21 114687))] ⟨?_, trivial⟩
    have nn := n7
    exact au14
   refine hN.node L 7 (bt 21 40959) 3 [19] [] [] [] ?_ fun n1 hN => ?_
   ·refine st hL [(13, [], 6, (bt 21 49151)), (16, [], 6, (bt 21 106495))] ⟨?_, ?_, trivial⟩
    ·have nn := n2
     exact au14
    have nn := n8
    exact au14
   refine hN.node L 6 (bt 21 112639) 3 [14] [(16, .v (.tuple #[])), (19, .v (.tuple #[]))] [] [] ?_ fun n10 hN => ?_
   ·refine st hL [(11, [], 5, (bt 21 114687))] ⟨?_, trivial⟩
    have nn := n7
    exact au14
   refine hN.node L 7 (bt 21 47103) 3 [19] [] [] [] ?_ fun n9 hN => ?_
   ·refine st hL [(11, [], 6, (bt 21 49151)), (16, [], 6, (bt 21 112639))] ⟨?_, ?_, trivial⟩
    ·have nn := n2
     exact au14
    have nn := n10
    exact au14
   refine hN.node L 7 (bt 21 104447) 3 [16] [(19, .v (.tuple #[]))] [] [] ?_ fun n11 hN => ?_
   ·refine st hL [(11, [], 6, (bt 21 106495)), (13, [], 6, (bt 21 112639))] ⟨?_, ?_, trivial⟩
    ·have nn := n8
     exact au14
    have nn := n10
    exact au14
   refine hN.node L 8 (bt 21 38911) 3 [19] [] [] [] ?_ fun n0 hN => ?_
   ·refine st hL [(11, [], 7, (bt 21 40959)), (13, [], 7, (bt 21 47103)), (16, [], 7, (bt 21 104447))] ⟨?_, ?_, ?_, trivial⟩
    ·have nn := n1
     exact au14
    ·have nn := n9
     exact au14
    have nn := n11
    exact au14
   have nn := n0
   exact au14
  exact fr [0, 1]
 rw [Bool.not_eq_true] at hb1
 replace h := bite_f h hb1
 have hb1d := hb1
 try simp only [decide_eq_true_eq, decide_eq_false_iff_not, beq_iff_eq, bne_iff_ne, ne_eq, beq_eq_false_iff_ne, bne_eq_false_iff_eq, Bool.not_eq_true', Bool.not_eq_false', Bool.and_eq_true, Bool.or_eq_true, Bool.and_eq_false_iff, Bool.or_eq_false_iff] at hb1d
 refine awp_t [1] [(2, bV false)] [] [] ?_ ?_
 ·intro K hK
  refine dM [0, 1, 2] [0, 1, 2, 3, 4, 5] 15 (bt 21 63) fun L hL hN => ?_
  refine hN.node L 0 (bt 21 2097151) 3 [] [(2, bV false), (3, .pp 2 0), (4, .sl 0), (5, iV (a0_0.length : Int)), (6, bV false), (7, bV false), (8, .v (.tuple #[])), (9, .v (.tuple #[])), (10, .v (.tuple #[])), (11, .v (.tuple #[])), (12, bV false), (13, bV false), (14, .v (.tuple #[])), (15, .v (.tuple #[])), (16, .v (.tuple #[])), (17, .v (.tuple #[])), (18, .v (.tuple #[])), (19, .v (.tuple #[])), (20, .v (.tuple #[])), (21, .v (.tuple #[])), (22, bV false)] [] [] ?_ fun n9 hN => ?_
  ·exact hL.fin (by kernel_rfl) (hK _ _ Red.auto)
  refine hN.node L 3 (bt 21 262143) 3 [2, 21, 22] [] [] [] ?_ fun n8 hN => ?_
  ·refine st hL [(18, [19, 20], 0, (bt 21 2097151))] ⟨?_, trivial⟩
   have nn := n9
   exact au13
  refine hN.node L 4 (bt 21 131071) 3 [20] [] [] [] ?_ fun n7 hN => ?_
  ·refine st hL [(17, [], 3, (bt 21 262143))] ⟨?_, trivial⟩
   have nn := n8
   exact au13
  refine hN.node L 5 (bt 21 65535) 3 [19] [] [] [] ?_ fun n6 hN => ?_
  ·refine st hL [(16, [], 4, (bt 21 131071))] ⟨?_, trivial⟩
   have nn := n7
   exact au13
  refine hN.node L 5 (bt 21 114687) 3 [17] [(19, .v (.tuple #[]))] [] [] ?_ fun n10 hN => ?_
  ·refine st hL [(14, [], 4, (bt 21 131071))] ⟨?_, trivial⟩
   have nn := n7
   exact au13
  refine hN.node L 6 (bt 21 49151) 3 [19] [] [] [] ?_ fun n5 hN => ?_
  ·refine st hL [(14, [], 5, (bt 21 65535)), (16, [], 5, (bt 21 114687))] ⟨?_, ?_, trivial⟩
   ·have nn := n6
    exact au13
   have nn := n10
   exact au13
  refine hN.node L 6 (bt 21 106495) 3 [16] [(19, .v (.tuple #[]))] [] [] ?_ fun n11 hN => ?_
  ·refine st hL [(13, [], 5, (bt 21 114687))] ⟨?_, trivial⟩
   have nn := n10
   exact au13
  refine hN.node L 7 (bt 21 40959) 3 [19] [] [] [] ?_ fun n4 hN => ?_
  ·refine st hL [(13, [], 6, (bt 21 49151)), (16, [], 6, (bt 21 106495))] ⟨?_, ?_, trivial⟩
   ·have nn := n5
    exact au13
   have nn := n11
   exact au13
  refine hN.node L 6 (bt 21 112639) 3 [14] [(16, .v (.tuple #[])), (19, .v (.tuple #[]))] [] [] ?_ fun n13 hN => ?_
  ·refine st hL [(11, [], 5, (bt 21 114687))] ⟨?_, trivial⟩
   have nn := n10
   exact au13
  refine hN.node L 7 (bt 21 47103) 3 [19] [] [] [] ?_ fun n12 hN => ?_
  ·refine st hL [(11, [], 6, (bt 21 49151)), (16, [], 6, (bt 21 112639))] ⟨?_, ?_, trivial⟩
   ·have nn := n5
    exact au13
   have nn := n13
   exact au13
  refine hN.node L 7 (bt 21 104447) 3 [16] [(19, .v (.tuple #[]))] [] [] ?_ fun n14 hN => ?_
  ·refine st hL [(11, [], 6, (bt 21 106495)), (13, [], 6, (bt 21 112639))] ⟨?_, ?_, trivial⟩
   ·have nn := n11
    exact au13
   have nn := n13
   exact au13
  refine hN.node L 8 (bt 21 38911) 3 [19] [] [] [] ?_ fun n3 hN => ?_
  ·refine st hL [(11, [], 7, (bt 21 40959)), (13, [], 7, (bt 21 47103)), (16, [], 7, (bt 21 104447))] ⟨?_, ?_, ?_, trivial⟩
   ·have nn := n4
    exact au13
   ·have nn := n12
    exact au13
   have nn := n14
   exact au13
  refine hN.node L 13 (bt 21 255) 3 [11, 12, 13, 15, 18] [] [] [] ?_ fun n2 hN => ?_
  ·refine st hL [(8, [9, 10, 12, 15], 8, (bt 21 38911))] ⟨?_, trivial⟩
   have nn := n3
   exact au13
  refine hN.node L 14 (bt 21 127) 3 [10] [] [] [] ?_ fun n1 hN => ?_
  ·refine st hL [(7, [], 13, (bt 21 255))] ⟨?_, trivial⟩
   have nn := n2
   exact au13
  refine hN.node L 15 (bt 21 63) 3 [9] [] [] [] ?_ fun n0 hN => ?_
  ·refine st hL [(6, [], 14, (bt 21 127))] ⟨?_, trivial⟩
   have nn := n1
   exact au13
  have nn := n0
  exact au13
 exact fr [0, 1]
theorem k_spec_EncodeNumber {a0 r} (h : spec_EncodeNumber a0 = some r) : KA Tryz.prog 91 [iV a0] [] (.sl 0) [oI r] := by
 unfold spec_EncodeNumber at h
 refine FnA.ofA 23 [] [.tmp 2] Tryz.func91 en91 ?_
 refine rg [] [] ?_
 refine rm [] [(3, .sl 0)] [] [oI []] ?_
 refine awp_seq fun K2 hK2 => ?_
 refine rg [] [(7, bV (!(decide (0 ≤ a0) && decide (a0 ≤ 1000000))))] ?_
 refine awp_if h ?_ ?_ <;> intro hc h
 ·refine rg [0, 3, 7] [(2, .sl 0)] ?_
  exact fr [0]
 refine sk hK2 ?_
 refine awp_seq fun K14 hK14 => ?_
 refine awp_block ?_
 refine lp h (fun (t0, t3s) => [(0, iV t0), (3, .sl 0)]) (fun (t0, t3s) => [oI t3s]) (fun _ => Exit.exit 0) (fun (t0_1, t3s_1) => [(0, iV t0_1), (3, .sl 0)]) (fun (t0_1, t3s_1) => [oI t3s_1]) ?_ ?_
 ·rintro ⟨t0, t3s⟩ r h
  unfold spec_EncodeNumber_b0 at h
  try dsimp only
  refine awp_seq fun K22 hK22 => ?_
  refine rg [] [(10, bV (decide (127 < t0)))] ?_
  refine awp_if h ?_ ?_ <;> intro hc h
  ·refine sk hK22 ?_
   refine awp_block ?_
   replace ⟨p, h⟩ := k3 h
   refine rm [10] [] [(0, oI (t3s ++ [((t0 % 128) + 128)]))] [oI [((t0 % 128) + 128)]] ?_
   replace ⟨p, h⟩ := k1 h
   refine eg [0] [(0, iV (t0 / 128))] ?_
   refine nm ?_
   exact lns [0]
  exact lo
 rintro ⟨t0_1, t3s_1⟩ h
 try dsimp only
 refine hK14 _ _ ?_
 replace ⟨p, h⟩ := k1 h
 refine rm [0, 3] [(2, .sl 0)] [(0, oI (t3s_1 ++ [t0_1]))] [oI [t0_1]] ?_
 exact fr [0]
theorem k_spec_l18Start {a0_0 a0_1 a0_2 a0_3 r} (h : spec_l18Start a0_0 a0_1 a0_2 a0_3 = some r) : KA Tryz.prog 90 [.agg [iV a0_0, .sl 0, .sl 1, .sl 2]] [rI a0_1, rB a0_2, rT a0_3] (.sl 3) [rI a0_1, rB a0_2, rT a0_3, oI r] := by
 unfold spec_l18Start at h
 refine FnA.ofA 21 [0, 1, 2] [.tmp 2] Tryz.func90 en90 ?_
 refine rm [0] [(1, .pp 3 0)] [] [.box [iV a0_0, .sl 0, .sl 1, .sl 2]] ?_
 refine fz 1 ?_
 replace ⟨y, hr0, h⟩ := bd h
 replace ⟨p, h⟩ := k1 h
 refine rc [] [(3, .sl 4)] [] [oI ([1] ++ y), oI y] [⟨3, [], k_spec_EncodeNumber hr0⟩] ?_
 replace ⟨y_1, hr0, h⟩ := bd h
 replace ⟨p, h⟩ := k1 h
 refine rc [] [] [(4, oI (([1] ++ y) ++ y_1))] [oI y_1] [⟨4, [], k_spec_EncodeNumber hr0⟩] ?_
 replace ⟨y_2, hr0, h⟩ := bd h
 replace ⟨p, h⟩ := k1 h
 refine rc [1, 3] [(2, .sl 4)] [(4, oI ((([1] ++ y) ++ y_1) ++ y_2))] [oI y_2] [⟨4, [], k_spec_EncodeNumber hr0⟩] ?_
 exact fr [0, 1, 2, 4]
end Go.Proofs.YteoedigfnfjopaaGreat
