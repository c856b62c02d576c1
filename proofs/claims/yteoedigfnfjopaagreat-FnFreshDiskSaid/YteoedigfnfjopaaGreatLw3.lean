/- The code computes the functions that were taken out of it. -/
import Derived.Test.YteoedigfnfjopaaGreatLw2
set_option maxRecDepth 100000
set_option maxHeartbeats 4000000
set_option linter.unusedSimpArgs false
set_option linter.unusedVariables false
namespace Go.Proofs.YteoedigfnfjopaaGreat
open Go Go.Av
attribute [local irreducible] wpA OpK awp OpKI
theorem k_spec_EdgeBody {a0_0 a0_1 a0_2 r} (h : spec_EdgeBody a0_0 a0_1 a0_2 = some r) : KA Tryz.prog 92 [.agg [iV a0_0, iV a0_1, iV a0_2]] [] (.sl 0) [oI r] := by
 unfold spec_EdgeBody at h
 refine FnA.ofA 34 [] [.tmp 2] Tryz.func92 en92 ?_
 refine rm [0] [(1, .pp 0 0)] [] [.box [iV a0_0, iV a0_1, iV a0_2]] ?_
 refine fz 1 ?_
 replace ⟨y, hr0, h⟩ := bd h
 refine rc [] [(3, .sl 1)] [] [oI y] [⟨2, [], k_spec_EncodeNumber hr0⟩] ?_
 replace ⟨y_1, hr0, h⟩ := bd h
 refine rc [] [(4, .sl 2)] [] [oI y_1] [⟨2, [], k_spec_EncodeNumber hr0⟩] ?_
 replace ⟨y_2, hr0, h⟩ := bd h
 refine rc [1] [(5, .sl 3)] [] [oI y_2] [⟨2, [], k_spec_EncodeNumber hr0⟩] ?_
 refine awp_seq fun K2 hK2 => ?_
 refine rg [] [(27, bV ((((y.length : Int) == 0) || ((y_1.length : Int) == 0)) || ((y_2.length : Int) == 0)))] ?_
 refine awp_if h ?_ ?_ <;> intro hc h
 ·refine rm [3, 4, 5, 27] [(2, .sl 4)] [] [oI []] ?_
  exact fr [4]
 refine sk hK2 ?_
 replace ⟨p, h⟩ := k2 h
 refine rm [3, 4, 5, 27] [(2, .sl 1)] [(1, oI ((y ++ y_1) ++ y_2))] [] ?_
 exact fr [1]
theorem vcm {p : Prop} (h : p := by
  simp (maxSteps := 4000000) only [go_sem, Nat.reduceBEq, Nat.reduceLT, Nat.reduceAdd, Nat.reduceLeDiff, Nat.reduceSub, Nat.reduceEqDiff, Int.reduceToNat, reduceCtorEq, ↓reduceIte]
  repeat' (first | refine And.intro ?_ ?_ | intro hg | (simp (disch := omega) only [wrap_fits]) | (refine iw ?_; (first | (refine wcM c0 ?_) | (refine wpA_guard rfl rfl ?_; refine wcM (cg c0) ?_) | (refine wpA_guard rfl rfl ?_; refine wcM (cg (cg c0)) ?_) | (refine wpA_guard rfl rfl ?_; refine wcM c0 ?_) | (refine wcM c1 ?_) | (refine wpA_guard rfl rfl ?_; refine wcM (cg c1) ?_) | (refine wpA_guard rfl rfl ?_; refine wcM (cg (cg c1)) ?_) | (refine wpA_guard rfl rfl ?_; refine wcM c1 ?_) | (refine wcM c2 ?_) | (refine wpA_guard rfl rfl ?_; refine wcM (cg c2) ?_) | (refine wpA_guard rfl rfl ?_; refine wcM (cg (cg c2)) ?_) | (refine wpA_guard rfl rfl ?_; refine wcM c2 ?_) | (refine wcM c3 ?_) | (refine wpA_guard rfl rfl ?_; refine wcM (cg c3) ?_) | (refine wpA_guard rfl rfl ?_; refine wcM (cg (cg c3)) ?_) | (refine wpA_guard rfl rfl ?_; refine wcM c3 ?_) | (refine wcM c4 ?_) | (refine wpA_guard rfl rfl ?_; refine wcM (cg c4) ?_) | (refine wpA_guard rfl rfl ?_; refine wcM (cg (cg c4)) ?_) | (refine wpA_guard rfl rfl ?_; refine wcM c4 ?_) | (refine wcM c5 ?_) | (refine wpA_guard rfl rfl ?_; refine wcM (cg c5) ?_) | (refine wpA_guard rfl rfl ?_; refine wcM (cg (cg c5)) ?_) | (refine wpA_guard rfl rfl ?_; refine wcM c5 ?_) | (refine wpA_guard rfl rfl ?_; refine wcM (cg (cg (cg c0))) ?_) | (refine wpA_here d0 ?_)); rintro x Hc' ⟨rfl, rfl⟩ hlen; refine vcOps_sound ftCOk ?_; simp (maxSteps := 4000000) only [go_sem, Nat.reduceBEq, Nat.reduceLT, Nat.reduceAdd, Nat.reduceLeDiff, Nat.reduceSub, Nat.reduceEqDiff, Int.reduceToNat, reduceCtorEq, ↓reduceIte]) | (refine io ?_; (first | (refine ocM c0 ?_) | (refine ocM (cg c0) ?_) | (refine ocM (cg (cg c0)) ?_) | (refine ocM c1 ?_) | (refine ocM (cg c1) ?_) | (refine ocM (cg (cg c1)) ?_) | (refine ocM c2 ?_) | (refine ocM (cg c2) ?_) | (refine ocM (cg (cg c2)) ?_) | (refine ocM c3 ?_) | (refine ocM (cg c3) ?_) | (refine ocM (cg (cg c3)) ?_) | (refine ocM c4 ?_) | (refine ocM (cg c4) ?_) | (refine ocM (cg (cg c4)) ?_) | (refine ocM c5 ?_) | (refine ocM (cg c5) ?_) | (refine ocM (cg (cg c5)) ?_) | (refine ocM (cg (cg (cg c0))) ?_) | (refine OpK_here d0 ?_)); rintro x Hc' ⟨rfl, rfl⟩ hlen; simp (maxSteps := 4000000) only [go_sem, Nat.reduceBEq, Nat.reduceLT, Nat.reduceAdd, Nat.reduceLeDiff, Nat.reduceSub, Nat.reduceEqDiff, Int.reduceToNat, reduceCtorEq, ↓reduceIte]) | exact al0 | exact p | exact p.1 | exact p.2 | exact pa | exact pa.1 | exact pa.2 | exact pa.2.1 | exact pa.2.2 | (have hq := hp0 byg; omega) | (have hq := hp0 byg byg; omega) | (have hq := hp1 byg; omega) | (have hq := hp1 byg byg; omega) | (have hq := hp2 byg; omega) | (have hq := hp2 byg byg; omega) | (have hq := hp3 byg; omega) | (have hq := hp3 byg byg; omega) | (have hq := hp4 byg; omega) | (have hq := hp4 byg byg; omega) | (have hq := hp5 byg; omega) | (have hq := hp5 byg byg; omega) | (have hq := hp6 byg; omega) | (have hq := hp6 byg byg; omega) | (have hq := hp7 byg; omega) | (have hq := hp7 byg byg; omega) | (have hq := hp8 byg; omega) | (have hq := hp8 byg byg; omega) | (have hq := hp9 byg; omega) | (have hq := hp9 byg byg; omega) | (simp (maxSteps := 4000000) only [go_sem, Nat.reduceBEq, Nat.reduceLT, Nat.reduceAdd, Nat.reduceLeDiff, Nat.reduceSub, Nat.reduceEqDiff, Int.reduceToNat, reduceCtorEq, ↓reduceIte]) | exact al1)) : p := h
theorem k_spec_StateBodies {a0_0 a0_1 a0_2 a0_3 r} (h : spec_StateBodies a0_0 a0_1 a0_2 a0_3 = some r) : KA Tryz.prog 64 [.agg [iV a0_0, .sl 0, .sl 1, .sl 2]] [rI a0_1, rB a0_2, rT a0_3] (.sl 3) [rI a0_1, rB a0_2, rT a0_3, .row true (.intss .i64 r)] := by
 unfold spec_StateBodies at h
 refine FnA.ofA 79 [0, 1, 2] [.tmp 2] Tryz.func64 en64 ?_
 refine rm [0] [(1, .pp 3 0)] [] [.box [iV a0_0, .sl 0, .sl 1, .sl 2]] ?_
 replace ⟨y, y_1, y_2, y_3, hr0, h⟩ := bd4 h
 refine rc [] [] [(3, .box [iV y, .sl 4, .sl 5, .sl 6])] [oI y_1, oB y_2, oT y_3] [⟨1, [0, 1, 2], k_spec_l1OwnState hr0⟩] ?_
 refine rm [] [(3, .sl 7)] [] [.row true (.intss .i64 [])] ?_
 refine awp_seq fun K2 hK2 => ?_
 replace ⟨y_4, hr0, h⟩ := bd h
 refine rc [] [(16, bV (!y_4))] [] [] [⟨4, [4, 5, 6], k_spec_StateValid hr0⟩] ?_
 refine awp_if h ?_ ?_ <;> intro hc h
 ·refine rg [1, 3, 16] [(2, .sl 7)] ?_
  exact fr [0, 1, 2, 7]
 refine sk hK2 ?_
 replace ⟨y_5, hr0, h⟩ := bd h
 replace ⟨p, h⟩ := k1 h
 refine rc [16] [] [(7, .tak true (.intss .i64 ([] ++ [[]])) 0 0 (some 8))] [oI y_5, .tak true (.intss .i64 [[]]) 0 0 (some 8)] [⟨2, [4, 5, 6], k_spec_l18Start hr0⟩] ?_ (hx := by intro K hK; exact vcm)
 refine awp_seq fun K29 hK29 => ?_
 refine awp_put 7 8 (by rfl) (by rfl) (by rfl) (by exact rfl) ?_
 refine rg [] [(4, iV 0)] ?_
 refine awp_block ?_
 refine lp h (fun (t4, t3s) => [(1, .pp 3 0), (3, .sl 7), (4, iV t4)]) (fun (t4, t3s) => [rI a0_1, rB a0_2, rT a0_3, .box [iV y, .sl 4, .sl 5, .sl 6], oI y_1, oB y_2, oT y_3, .row true (.intss .i64 t3s)]) (fun _ => Exit.exit 0) (fun t3s_1 => [(1, .pp 3 0), (3, .sl 7)]) (fun t3s_1 => [rI a0_1, rB a0_2, rT a0_3, .box [iV y, .sl 4, .sl 5, .sl 6], oI y_1, oB y_2, oT y_3, .row true (.intss .i64 t3s_1)]) ?_ ?_ (h0 := Red.selA [0, 1, 2, 3, 4, 5, 6, 7] Red.auto)
 ·rintro ⟨t4, t3s⟩ r h
  unfold spec_StateBodies_b0 at h
  try dsimp only
  refine awp_seq fun K47 hK47 => ?_
  refine rg [] [(27, bV (decide (t4 < (y_1.length : Int))))] ?_
  refine awp_if h ?_ ?_ <;> intro hc h
  ·refine sk hK47 ?_
   refine awp_seq fun K51 hK51 => ?_
   refine awp_block ?_
   refine rg [27] [(5, iV 0)] ?_
   refine awp_join h (fun t5 => [(1, .pp 3 0), (3, .sl 7), (4, iV t4), (5, iV t5)]) (fun t5 => [rI a0_1, rB a0_2, rT a0_3, .box [iV y, .sl 4, .sl 5, .sl 6], oI y_1, oB y_2, oT y_3, .row true (.intss .i64 t3s)]) ?_ ?_
   ·intro k h
    replace ⟨p, h⟩ := k1 h
    refine rg [] [(34, bV (y_2.getD t4.toNat false))] ?_
    refine awp_if h ?_ ?_ <;> intro hc h
    ·refine eg [5, 34] [(5, iV 1)] ?_
     exact jo
    refine awp_skip ?_
    exact jo
   rintro t5 h
   try dsimp only
   replace ⟨p, h⟩ := k2 h
   replace ⟨y_6, hr2, h⟩ := bd h
   replace ⟨pa, h⟩ := k3 h
   refine ec [5] [] [(7, .tak true (.intss .i64 (t3s ++ [[]])) t3s.length 0 (some 8))] [oI (([2] ++ y_6) ++ [t5]), oI y_6, oI [t5], .tak true (.intss .i64 [[]]) 0 0 (some 8)] [⟨8, [], k_spec_EncodeNumber hr2⟩] ?_ (hx := by intro K hK; exact vcm)
   refine hK51 _ _ ?_
   refine awp_put 7 8 (by rfl) (by rfl) (by rfl) (by exact rfl) ?_
   replace ⟨p, h⟩ := k1 h
   refine eg [4] [(4, iV (t4 + 1))] ?_
   exact lns [0, 1, 2, 3, 4, 5, 6, 7]
  exact lo
 rintro t3s_1 h
 try dsimp only
 refine hK29 _ _ ?_
 refine awp_seq fun K68 hK68 => ?_
 refine rg [] [(6, iV 0)] ?_
 refine awp_block ?_
 refine lp h (fun (t6, t3s_2) => [(1, .pp 3 0), (3, .sl 7), (6, iV t6)]) (fun (t6, t3s_2) => [rI a0_1, rB a0_2, rT a0_3, .box [iV y, .sl 4, .sl 5, .sl 6], oI y_1, oB y_2, oT y_3, .row true (.intss .i64 t3s_2)]) (fun _ => Exit.exit 2) (fun t3s_3 => [(3, .sl 3)]) (fun t3s_3 => [rI a0_1, rB a0_2, rT a0_3, .row true (.intss .i64 t3s_3)]) ?_ ?_
 ·rintro ⟨t6, t3s_2⟩ r h
  unfold spec_StateBodies_b1 at h
  try dsimp only
  refine awp_seq fun K78 hK78 => ?_
  refine rg [] [(54, bV (decide (t6 < (y_3.length : Int))))] ?_
  refine awp_if h ?_ ?_ <;> intro hc h
  ·refine sk hK78 ?_
   refine awp_seq fun K80 hK80 => ?_
   refine awp_block ?_
   replace ⟨p, h⟩ := k1 h
   refine rm [54] [(7, .pp 8 0)] [] [.box [iV ((y_3.getD t6.toNat (0, 0, 0)).1), iV ((y_3.getD t6.toNat (0, 0, 0)).2.1), iV ((y_3.getD t6.toNat (0, 0, 0)).2.2)]] ?_
   replace ⟨y_7, hr0, h⟩ := bd h
   replace ⟨p, h⟩ := k2 h
   refine ec [7] [] [(7, .tak true (.intss .i64 (t3s_2 ++ [[]])) t3s_2.length 0 (some 9))] [oI ([3] ++ y_7), oI y_7, .tak true (.intss .i64 [[]]) 0 0 (some 9)] [⟨9, [], k_spec_EdgeBody hr0⟩] ?_ (hx := by intro K hK; exact vcm)
   refine hK80 _ _ ?_
   refine awp_put 7 9 (by rfl) (by rfl) (by rfl) (by exact rfl) ?_
   replace ⟨p, h⟩ := k1 h
   refine eg [6] [(6, iV (t6 + 1))] ?_
   exact lns [0, 1, 2, 3, 4, 5, 6, 7]
  exact los [0, 1, 2, 7]
 rintro t3s_3 h
 try dsimp only
 refine hK68 _ _ ?_
 replace ⟨p, h⟩ := k1 h
 refine rm [3] [(2, .sl 3)] [(3, .tak true (.intss .i64 (t3s_3 ++ [[]])) t3s_3.length 0 (some 4))] [oI [4], .tak true (.intss .i64 [[]]) 0 0 (some 4)] ?_
 refine awp_red (Red.put 3 4 (by rfl) (by rfl) (by rfl)) ?_
 exact fr [0, 1, 2, 3]
theorem k_spec_l3Copy {a0_0 a0_1 r} (h : spec_l3Copy a0_0 a0_1 = some r) : KA Tryz.prog 39 [.agg [.sl 0, .sl 1]] [rI a0_0, rI a0_1] (.agg [.sl 2, .sl 3]) [rI a0_0, rI a0_1, oI r.1, oI r.2] := by
 unfold spec_l3Copy at h
 refine FnA.ofA 12 [0, 1] [.cell 2 30] Tryz.func39 en39 ?_
 refine rm [0] [(1, .pp 2 0), (2, .pp 3 0)] [] [.box [.sl 0, .sl 1], .box [nV, nV]] ?_
 refine fz 1 ?_
 replace ⟨p, h⟩ := k2 h
 refine awp_t [1] [] [(3, .box [.sl 4, .sl 5])] [oI ([] ++ a0_0), oI ([] ++ a0_1)] ?_ ?_
 ·intro K hK
  refine dM [0, 1, 2, 3] [1, 5, 2, 6] 6 (bt 10 102) fun L hL hN => ?_
  refine hN.node L 0 (bt 10 1023) 4 [] [(4, .pp 2 0), (5, .sl 0), (6, .sl 4), (8, .pp 2 1), (9, .sl 1), (10, .sl 5), (11, .agg [.sl 4, .sl 5])] [(3, .box [.sl 4, .sl 5])] [oI ([] ++ a0_0), oI ([] ++ a0_1)] ?_ fun n5 hN => ?_
  ·exact hL.fin (by kernel_rfl) (hK _ _ Red.auto)
  refine hN.node L 1 (bt 10 511) 6 [] [] [(3, .box [nV, nV])] [] ?_ fun n4 hN => ?_
  ·refine st hL [(9, [], 0, (bt 10 1023))] ⟨?_, trivial⟩
   exact hL.edge n5
  refine hN.node L 3 (bt 10 127) 6 [10, 11] [(7, .sl 5)] [(5, oI [])] [] ?_ fun n3 hN => ?_
  ·refine st hL [(7, [8], 1, (bt 10 511))] ⟨?_, trivial⟩
   exact hL.edge n4
  refine hN.node L 4 (bt 10 111) 5 [7] [] [] [] ?_ fun n2 hN => ?_
  ·refine st hL [(4, [], 3, (bt 10 127))] ⟨?_, trivial⟩
   exact hL.edge n3
  refine hN.node L 4 (bt 10 119) 5 [6] [(3, .sl 4), (7, .sl 5)] [(4, oI [])] [oI []] ?_ fun n6 hN => ?_
  ·refine st hL [(3, [], 3, (bt 10 127))] ⟨?_, trivial⟩
   exact hL.edge n3
  refine hN.node L 5 (bt 10 103) 5 [7] [] [] [] ?_ fun n1 hN => ?_
  ·refine st hL [(3, [], 4, (bt 10 111)), (4, [], 4, (bt 10 119))] ⟨?_, ?_, trivial⟩
   ·exact hL.edge n2
   exact hL.edge n6
  refine hN.node L 5 (bt 10 118) 5 [3] [(7, .sl 4)] [] [] ?_ fun n7 hN => ?_
  ·refine st hL [(0, [], 4, (bt 10 119))] ⟨?_, trivial⟩
   exact hL.edgeS [0, 1, 2, 3, 5, 4] n6
  refine hN.node L 6 (bt 10 102) 4 [7] [] [] [] ?_ fun n0 hN => ?_
  ·refine st hL [(0, [], 5, (bt 10 103)), (4, [], 5, (bt 10 118))] ⟨?_, ?_, trivial⟩
   ·exact hL.edge n1
   exact hL.edge n7
  have nn := n0
  exact au16
 exact fr [0, 1, 4, 5]
theorem k_spec_CheckSum {a0 r} (h : spec_CheckSum a0 = some r) : KA Tryz.prog 103 [.sl 0] [rI a0] (iV r) [rI a0] := by
 unfold spec_CheckSum at h
 refine FnA.ofA 24 [0] [.tmp 2] Tryz.func103 en103 ?_
 refine rg [] [] ?_
 refine awp_seq fun K2 hK2 => ?_
 replace ⟨y, hr0, h⟩ := bd h
 refine rc [] [(7, bV (!y))] [] [] [⟨1, [0], k_spec_BytesValid hr0⟩] ?_
 refine awp_if h ?_ ?_ <;> intro hc h
 ·refine rg [0, 7] [(2, iV (-1))] ?_
  exact fr [0]
 refine sk hK2 ?_
 refine rg [7] [(3, iV 7)] ?_
 refine awp_seq fun K17 hK17 => ?_
 refine rg [] [(4, iV 0)] ?_
 refine awp_block ?_
 refine lp h (fun (t3, t4) => [(0, .sl 0), (3, iV t3), (4, iV t4)]) (fun (t3, t4) => [rI a0]) (fun _ => Exit.exit 0) (fun t3_1 => [(3, iV t3_1)]) (fun t3_1 => [rI a0]) ?_ ?_
 ·rintro ⟨t3, t4⟩ r h
  unfold spec_CheckSum_b0 at h
  try dsimp only
  refine awp_seq fun K27 hK27 => ?_
  refine rg [] [(11, bV (decide (t4 < (a0.length : Int))))] ?_
  refine awp_if h ?_ ?_ <;> intro hc h
  ·refine sk hK27 ?_
   refine awp_seq fun K29 hK29 => ?_
   refine awp_block ?_
   replace ⟨p, h⟩ := k5 h
   refine eg [3, 11] [(3, iV ((((31 * t3) + (a0.getD t4.toNat 0)) + 1) % 251))] ?_
   refine hK29 _ _ ?_
   replace ⟨p, h⟩ := k1 h
   refine eg [4] [(4, iV (t4 + 1))] ?_
   exact ln
  exact lo
 rintro t3_1 h
 try dsimp only
 refine hK17 _ _ ?_
 refine rg [3] [(2, iV t3_1)] ?_
 exact fr [0]
theorem k_spec_FrameOf {a0 r} (h : spec_FrameOf a0 = some r) : KA Tryz.prog 87 [.sl 0] [rI a0] (.sl 1) [rI a0, oI r] := by
 unfold spec_FrameOf at h
 refine FnA.ofA 24 [0] [.tmp 2] Tryz.func87 en87 ?_
 refine rg [] [] ?_
 refine awp_seq fun K2 hK2 => ?_
 replace ⟨y, hr0, h⟩ := bd h
 have c0 := cm [0] (k_spec_BytesValid hr0)
 refine rm [] [(12, bV ((!y) || (!(decide (1 ≤ (a0.length : Int)) && decide ((a0.length : Int) ≤ 100)))))] [] [] ?_
 refine awp_if h ?_ ?_ <;> intro hc h
 ·refine rm [0, 12] [(2, .sl 1)] [] [oI []] ?_
  exact fr [0, 1]
 refine sk hK2 ?_
 replace ⟨p, h⟩ := k1 h
 refine rm [12] [(3, .sl 1)] [] [oI ([(a0.length : Int)] ++ a0)] ?_
 replace ⟨y_1, hr0, h⟩ := bd h
 replace ⟨p, h⟩ := k1 h
 refine rc [0, 3] [(2, .sl 1)] [(1, oI (([(a0.length : Int)] ++ a0) ++ [y_1]))] [oI [y_1]] [⟨2, [0], k_spec_CheckSum hr0⟩] ?_
 exact fr [0, 1]
theorem k_spec_DiskWrite {a0_0 a0_1 a1 r} (h : spec_DiskWrite a0_0 a0_1 a1 = some r) : KA Tryz.prog 65 [.agg [.sl 0, .sl 1], .sl 2] [rI a0_0, rI a0_1, rI a1] (.tup [.agg [.sl 3, .sl 4], bV r.2.2]) [rI a0_0, rI a0_1, rI a1, oI r.1, oI r.2.1] := by
 unfold spec_DiskWrite at h
 refine FnA.ofA 39 [0, 1, 2] [.cell 4 30, .tmp 5] Tryz.func65 en65 ?_
 refine rm [0] [(2, .pp 3 0), (4, .pp 4 0)] [] [.box [.sl 0, .sl 1], .box [nV, nV]] ?_
 refine fz 2 ?_
 refine awp_seq fun K2 hK2 => ?_
 replace ⟨y, hr0, h⟩ := bd h
 refine rc [] [(10, bV (!y))] [] [] [⟨1, [0, 1], k_spec_DiskValid hr0⟩] ?_
 refine awp_if h ?_ ?_ <;> intro hc h
 ·refine rg [1, 2, 10] [(5, bV false)] ?_
  refine nc 4 0 (.ints .i64 []) ?_
  refine nc 4 1 (.ints .i64 []) ?_
  exact fr [0, 1, 2, 5, 6]
 refine sk hK2 ?_
 replace ⟨y_1, y_2, hr0, h⟩ := bd2 h
 refine rc [10] [(6, .pp 7 0)] [] [oI y_1, oI y_2, .box [.sl 5, .sl 6]] [⟨1, [0, 1], k_spec_l3Copy hr0⟩] ?_
 replace ⟨y_3, hr0, h⟩ := bd h
 refine rc [1] [(7, .sl 8)] [] [oI y_3] [⟨1, [2], k_spec_FrameOf hr0⟩] ?_
 refine awp_seq fun K5 hK5 => ?_
 replace ⟨⟨hp0, hp1⟩, h⟩ := k2 h
 refine rm [2] [(31, bV (((y_3.length : Int) == 0) || (decide (2000 < (((a0_0.length : Int) + (a0_1.length : Int)) + (y_3.length : Int))))))] [] [] ?_
 refine awp_if h ?_ ?_ <;> intro hc h
 ·refine rm [6, 7, 31] [(5, bV false)] [(4, .box [.sl 5, .sl 6])] [] ?_
  exact fr [0, 1, 2, 5, 6]
 refine sk hK5 ?_
 replace ⟨p, h⟩ := k1 h
 refine rm [7, 31] [] [(6, oI (y_2 ++ y_3))] [] ?_
 refine rm [6] [(5, bV true)] [(4, .box [.sl 5, .sl 6])] [] ?_
 exact fr [0, 1, 2, 5, 6]
theorem k_spec_l18Write {a0_0 a0_1 a1_0 a1_1 a1_2 a1_3 r} (h : spec_l18Write a0_0 a0_1 a1_0 a1_1 a1_2 a1_3 = some r) : KA Tryz.prog 38 [.agg [.sl 0, .sl 1], .agg [iV a1_0, .sl 2, .sl 3, .sl 4]] [rI a0_0, rI a0_1, rI a1_1, rB a1_2, rT a1_3] (.tup [.agg [.sl 5, .sl 6], bV r.2.2]) [rI a0_0, rI a0_1, rI a1_1, rB a1_2, rT a1_3, oI r.1, oI r.2.1] := by
 unfold spec_l18Write at h
 refine FnA.ofA 38 [0, 1, 2, 3, 4] [.cell 4 30, .tmp 5] Tryz.func38 en38 ?_
 refine rm [0, 1] [(2, .pp 5 0), (3, .pp 6 0), (4, .pp 7 0)] [] [.box [.sl 0, .sl 1], .box [iV a1_0, .sl 2, .sl 3, .sl 4], .box [nV, nV]] ?_
 refine fz 2 ?_
 refine fz 3 ?_
 replace ⟨y, hr0, h⟩ := bd h
 refine rc [3] [(6, .sl 8)] [] [.row true (.intss .i64 y)] [⟨1, [2, 3, 4], k_spec_StateBodies hr0⟩] ?_
 replace ⟨y_1, y_2, hr0, h⟩ := bd2 h
 refine rc [2] [(7, .pp 11 0)] [] [oI y_1, oI y_2, .box [.sl 9, .sl 10]] [⟨1, [0, 1], k_spec_l3Copy hr0⟩] ?_
 refine awp_seq fun K38 hK38 => ?_
 refine rg [] [(8, iV 0)] ?_
 refine awp_block ?_
 refine lp2 h (fun (t8, t7_0s, t7_1s) => [(4, .pp 5 0), (6, .sl 6), (7, .pp 7 0), (8, iV t8)]) (fun (t8, t7_0s, t7_1s) => [rI a0_0, rI a0_1, rI a1_1, rB a1_2, rT a1_3, .box [nV, nV], .row true (.intss .i64 y), .box [.sl 8, .sl 9], oI t7_0s, oI t7_1s]) (fun _ => Exit.exit 0) (fun (t7_0s_1, t7_1s_1) => [(4, .pp 5 0), (6, .sl 6), (7, .pp 7 0)]) (fun (t7_0s_1, t7_1s_1) => [rI a0_0, rI a0_1, rI a1_1, rB a1_2, rT a1_3, .box [nV, nV], .row true (.intss .i64 y), .box [.sl 8, .sl 9], oI t7_0s_1, oI t7_1s_1]) (fun _ => Exit.ret) (fun (t4_0s, t4_1s) => [(4, .pp 5 0), (5, bV false)]) (fun (t4_0s, t4_1s) => [rI a0_0, rI a0_1, rI a1_1, rB a1_2, rT a1_3, .box [.sl 6, .sl 7], oI t4_0s, oI t4_1s]) ?_ ?_ ?_ (h0 := Red.selA [0, 1, 2, 3, 4, 7, 8, 11, 9, 10] Red.auto)
 ·rintro ⟨t8, t7_0s, t7_1s⟩ r h
  unfold spec_l18Write_b0 at h
  try dsimp only
  refine awp_seq fun K64 hK64 => ?_
  refine rg [] [(18, bV (decide (t8 < (y.length : Int))))] ?_
  refine awp_if h ?_ ?_ <;> intro hc h
  ·refine sk hK64 ?_
   refine awp_seq fun K70 hK70 => ?_
   refine awp_block ?_
   replace h := chk_some h
   obtain ⟨hpt74, h⟩ := h
   refine awp_take 6 t8.toNat 0 (by rfl) (by exact hpt74) (by rfl) (by exact rfl) ?_
   clear hpt74
   replace ⟨p, h⟩ := k1 h
   replace ⟨y_3, y_4, y_5, hr1, h⟩ := bd3 h
   refine awp_t [18] [(9, .pp 13 0), (10, bV y_5)] [] [oI y_3, oI y_4, .box [.sl 11, .sl 12]] ?_ ?_
   ·intro K hK
    refine dM [0, 1, 2, 3, 4, 5, 6, 7, 8, 9, 10] [1, 2] 10 (bt 12 6) fun L hL hN => ?_
    refine hN.node L 0 (bt 12 4095) 11 [] [(9, .pp 13 0), (10, bV y_5), (21, .tup [.agg [.sl 11, .sl 12], bV y_5]), (22, .agg [.sl 8, .sl 9]), (23, .sl 6), (24, iV t8), (25, .ep 6 t8.toNat 1 0), (26, .sl 10), (27, .tup [.agg [.sl 11, .sl 12], bV y_5]), (28, .agg [.sl 11, .sl 12]), (29, bV y_5)] [] [oI y_3, oI y_4, .box [.sl 11, .sl 12]] ?_ fun n7 hN => ?_
    ·exact hL.fin (by kernel_rfl) (hK _ _ Red.auto)
    refine hN.node L 2 (bt 12 1023) 14 [10] [] [(13, .box [nV, nV])] [] ?_ fun n6 hN => ?_
    ·refine st hL [(10, [11], 0, (bt 12 4095))] ⟨?_, trivial⟩
     exact hL.edge n7
    refine hN.node L 3 (bt 12 511) 13 [9] [] [] [] ?_ fun n5 hN => ?_
    ·refine st hL [(9, [], 2, (bt 12 1023))] ⟨?_, trivial⟩
     exact hL.edge n6
    refine hN.node L 5 (bt 12 575) 13 [21, 28, 29] [(9, .pp 13 0)] [] [.box [nV, nV]] ?_ fun n8 hN => ?_
    ·refine st hL [(6, [7, 8], 2, (bt 12 1023))] ⟨?_, trivial⟩
     exact hL.edge n6
    refine hN.node L 6 (bt 12 63) 13 [9] [] [] [] ?_ fun n4 hN => ?_
    ·refine st hL [(6, [7, 8], 3, (bt 12 511)), (9, [], 5, (bt 12 575))] ⟨?_, ?_, trivial⟩
     ·exact hL.edge n5
     exact hL.edge n8
    refine hN.node L 6 (bt 12 543) 12 [27] [(9, .pp 11 0)] [(11, .box [nV, nV])] [] ?_ fun n9 hN => ?_
    ·refine st hL [(5, [], 5, (bt 12 575))] ⟨?_, trivial⟩
     have nn := n8
     have ns := cm [0, 1, 2, 3, 4, 5, 6, 7, 8, 9, 10, 12, 13, 11] trivial
     have c0 := cm [8, 9, 10] (k_spec_DiskWrite hr1)
     exact vn
    refine hN.node L 7 (bt 12 31) 11 [9] [] [] [] ?_ fun n3 hN => ?_
    ·refine st hL [(5, [], 6, (bt 12 63)), (9, [], 6, (bt 12 543))] ⟨?_, ?_, trivial⟩
     ·have nn := n4
      have c0 := cm [8, 9, 10] (k_spec_DiskWrite hr1)
      exact vn
     exact hL.edge n9
    refine hN.node L 7 (bt 12 527) 11 [26] [(9, .pp 11 0)] [] [.box [nV, nV]] ?_ fun n10 hN => ?_
    ·refine st hL [(4, [], 6, (bt 12 543))] ⟨?_, trivial⟩
     exact hL.edge n9
    refine hN.node L 8 (bt 12 15) 11 [9] [] [] [] ?_ fun n2 hN => ?_
    ·refine st hL [(4, [], 7, (bt 12 31)), (9, [], 7, (bt 12 527))] ⟨?_, ?_, trivial⟩
     ·exact hL.edge n3
     exact hL.edge n10
    refine hN.node L 8 (bt 12 519) 11 [25] [(9, .pp 11 0)] [] [.box [nV, nV]] ?_ fun n11 hN => ?_
    ·refine st hL [(3, [], 7, (bt 12 527))] ⟨?_, trivial⟩
     exact hL.edge n10
    refine hN.node L 9 (bt 12 7) 11 [9] [] [] [] ?_ fun n1 hN => ?_
    ·refine st hL [(3, [], 8, (bt 12 15)), (9, [], 8, (bt 12 519))] ⟨?_, ?_, trivial⟩
     ·exact hL.edge n2
     exact hL.edge n11
    refine hN.node L 7 (bt 12 542) 11 [22] [(9, .pp 11 0), (25, .ep 6 t8.toNat 1 0), (26, .sl 10)] [] [.box [nV, nV]] ?_ fun n14 hN => ?_
    ·refine st hL [(0, [], 6, (bt 12 543))] ⟨?_, trivial⟩
     exact hL.edge n9
    refine hN.node L 8 (bt 12 30) 11 [9] [] [] [] ?_ fun n13 hN => ?_
    ·refine st hL [(0, [], 7, (bt 12 31)), (9, [], 7, (bt 12 542))] ⟨?_, ?_, trivial⟩
     ·exact hL.edge n3
     exact hL.edge n14
    refine hN.node L 8 (bt 12 526) 11 [26] [(9, .pp 11 0)] [] [.box [nV, nV]] ?_ fun n15 hN => ?_
    ·refine st hL [(0, [], 7, (bt 12 527)), (4, [], 7, (bt 12 542))] ⟨?_, ?_, trivial⟩
     ·exact hL.edge n10
     exact hL.edge n14
    refine hN.node L 9 (bt 12 14) 11 [9] [] [] [] ?_ fun n12 hN => ?_
    ·refine st hL [(0, [], 8, (bt 12 15)), (4, [], 8, (bt 12 30)), (9, [], 8, (bt 12 526))] ⟨?_, ?_, ?_, trivial⟩
     ·exact hL.edge n2
     ·exact hL.edge n13
     exact hL.edge n15
    refine hN.node L 9 (bt 12 518) 11 [25] [(9, .pp 11 0)] [] [.box [nV, nV]] ?_ fun n16 hN => ?_
    ·refine st hL [(0, [], 8, (bt 12 519)), (3, [], 8, (bt 12 526))] ⟨?_, ?_, trivial⟩
     ·exact hL.edge n11
     exact hL.edge n15
    refine hN.node L 10 (bt 12 6) 11 [9] [] [] [] ?_ fun n0 hN => ?_
    ·refine st hL [(0, [], 9, (bt 12 7)), (3, [], 9, (bt 12 14)), (9, [], 9, (bt 12 518))] ⟨?_, ?_, ?_, trivial⟩
     ·exact hL.edge n1
     ·exact hL.edge n12
     exact hL.edge n16
    have nn := n0
    exact au16
   refine awp_seq fun K72 hK72 => ?_
   refine awp_put 6 10 (by rfl) (by rfl) (Cont.setChild_self (by rfl)) (by exact rfl) ?_
   refine rg [10] [(31, bV (!y_5))] ?_
   refine awp_if h ?_ ?_ <;> intro hc h
   ·refine rm [6, 7, 8, 9, 31] [(5, bV false)] [(5, .box [.sl 8, .sl 9])] [] ?_
    exact lors [0, 1, 2, 3, 4, 5, 8, 9]
   refine sk hK72 ?_
   refine em [9, 31] [] [(7, .box [.sl 11, .sl 12])] [] ?_
   refine hK70 _ _ ?_
   replace ⟨p, h⟩ := k1 h
   refine eg [8] [(8, iV (t8 + 1))] ?_
   exact lns [0, 1, 2, 3, 4, 5, 6, 7, 11, 12]
  exact lo
 ·rintro ⟨t7_0s_1, t7_1s_1⟩ h
  try dsimp only
  refine hK38 _ _ ?_
  refine rm [6, 7] [(5, bV (decide (0 < (y.length : Int))))] [(5, .box [.sl 8, .sl 9])] [] ?_
  exact fr [0, 1, 2, 3, 4, 8, 9]
 rintro ⟨t4_0s, t4_1s⟩ h
 try dsimp only
 exact fr [0, 1, 2, 3, 4, 6, 7]
theorem k_spec_l1OwnDisk {a0_0 a0_1 r} (h : spec_l1OwnDisk a0_0 a0_1 = some r) : KA Tryz.prog 66 [.agg [.sl 0, .sl 1]] [rI a0_0, rI a0_1] (.agg [.sl 2, .sl 3]) [rI a0_0, rI a0_1, oI r.1, oI r.2] := by
 unfold spec_l1OwnDisk at h
 refine FnA.ofA 16 [0, 1] [.cell 2 30] Tryz.func66 en66 ?_
 refine rm [0] [(1, .pp 2 0), (2, .pp 3 0)] [] [.box [.sl 0, .sl 1], .box [nV, nV]] ?_
 refine fz 1 ?_
 refine rm [] [(3, .pp 4 0)] [] [.box [.sl 0, .sl 1]] ?_
 replace ⟨p, h⟩ := k1 h
 refine rm [] [] [(4, .box [.sl 5, .sl 1])] [oI ([] ++ a0_0)] ?_
 replace ⟨p, h⟩ := k1 h
 refine rm [1] [] [(4, .box [.sl 5, .sl 6])] [oI ([] ++ a0_1)] ?_
 refine rm [3] [] [(3, .box [.sl 5, .sl 6])] [] ?_
 exact fr [0, 1, 5, 6]
theorem k_spec_DiskSync {a0_0 a0_1 r} (h : spec_DiskSync a0_0 a0_1 = some r) : KA Tryz.prog 40 [.agg [.sl 0, .sl 1]] [rI a0_0, rI a0_1] (.agg [.sl 2, .sl 3]) [rI a0_0, rI a0_1, oI r.1, oI r.2] := by
 unfold spec_DiskSync at h
 refine FnA.ofA 17 [0, 1] [.cell 2 30] Tryz.func40 en40 ?_
 refine rm [0] [(1, .pp 2 0), (2, .pp 3 0)] [] [.box [.sl 0, .sl 1], .box [nV, nV]] ?_
 replace ⟨y, y_1, hr0, h⟩ := bd2 h
 refine rc [] [] [(2, .box [.sl 4, .sl 5])] [oI y, oI y_1] [⟨1, [0, 1], k_spec_l1OwnDisk hr0⟩] ?_
 refine awp_seq fun K2 hK2 => ?_
 replace ⟨y_2, hr0, h⟩ := bd h
 refine rc [] [(7, bV (!y_2))] [] [] [⟨1, [4, 5], k_spec_DiskValid hr0⟩] ?_
 refine awp_if h ?_ ?_ <;> intro hc h
 ·refine rg [1, 7] [] ?_
  refine nc 3 0 (.ints .i64 []) ?_
  refine nc 3 1 (.ints .i64 []) ?_
  exact fr [0, 1, 6, 7]
 refine sk hK2 ?_
 refine awp_freeze 1 (by rfl) (by rfl) (by first | exact rfl | (simp only [List.map_cons, List.map_nil, List.set_cons_succ, List.set_cons_zero, AObj.unview, reduceCtorEq, ↓reduceIte, Nat.reduceEqDiff]; exact rfl)) ?_
 replace ⟨p, h⟩ := k2 h
 refine dm (.free 1 (.free 4 (.free 2 (.free 5 (.one 0 (.one 3 (.one 6 (.one 7 (.one 8 .fin))))))))) [1, 7] [] [(3, .box [.sl 6, nV])] [oI (([] ++ y) ++ y_1)] ?_
 refine nc 3 1 (.ints .i64 []) ?_
 exact fr [0, 1, 6, 7]
theorem k_spec_SaveState {a0_0 a0_1 a1_0 a1_1 a1_2 a1_3 r} (h : spec_SaveState a0_0 a0_1 a1_0 a1_1 a1_2 a1_3 = some r) : KA Tryz.prog 17 [.agg [.sl 0, .sl 1], .agg [iV a1_0, .sl 2, .sl 3, .sl 4]] [rI a0_0, rI a0_1, rI a1_1, rB a1_2, rT a1_3] (.tup [.agg [.sl 5, .sl 6], bV r.2.2]) [rI a0_0, rI a0_1, rI a1_1, rB a1_2, rT a1_3, oI r.1, oI r.2.1] := by
 unfold spec_SaveState at h
 refine FnA.ofA 24 [0, 1, 2, 3, 4] [.cell 4 30, .tmp 5] Tryz.func17 en17 ?_
 refine rm [0, 1] [(2, .pp 5 0), (3, .pp 6 0), (4, .pp 7 0)] [] [.box [.sl 0, .sl 1], .box [iV a1_0, .sl 2, .sl 3, .sl 4], .box [nV, nV]] ?_
 refine fz 2 ?_
 refine fz 3 ?_
 refine awp_seq fun K2 hK2 => ?_
 replace ⟨y, hr0, h⟩ := bd h
 refine rc [] [(10, bV (!y))] [] [] [⟨1, [0, 1], k_spec_DiskValid hr0⟩] ?_
 refine awp_if h ?_ ?_ <;> intro hc h
 ·refine rg [2, 3, 10] [(5, bV false)] ?_
  refine nc 7 0 (.ints .i64 []) ?_
  refine nc 7 1 (.ints .i64 []) ?_
  exact fr [0, 1, 2, 3, 4, 8, 9]
 refine sk hK2 ?_
 replace ⟨y_1, y_2, y_3, hr0, h⟩ := bd3 h
 refine rc [3, 10] [(6, .pp 10 0), (7, bV y_3)] [] [oI y_1, oI y_2, .box [.sl 8, .sl 9]] [⟨2, [0, 1, 2, 3, 4], k_spec_l18Write hr0⟩] ?_
 refine awp_seq fun K5 hK5 => ?_
 refine rg [7] [(19, bV (!y_3))] ?_
 refine awp_if h ?_ ?_ <;> intro hc h
 ·replace ⟨y_4, y_5, hr0, h⟩ := bd2 h
  refine rc [2, 6, 19] [(5, bV false)] [(7, .box [.sl 11, .sl 12])] [oI y_4, oI y_5] [⟨1, [0, 1], k_spec_l3Copy hr0⟩] ?_
  exact fr [0, 1, 2, 3, 4, 11, 12]
 refine sk hK5 ?_
 replace ⟨y_6, y_7, hr0, h⟩ := bd2 h
 refine rc [2, 6, 19] [(5, bV true)] [(7, .box [.sl 11, .sl 12])] [oI y_6, oI y_7] [⟨1, [8, 9], k_spec_DiskSync hr0⟩] ?_
 exact fr [0, 1, 2, 3, 4, 11, 12]
theorem k_spec_FreshDisk {a0_0 a0_1 a0_2 a0_3 r} (h : spec_FreshDisk a0_0 a0_1 a0_2 a0_3 = some r) : KA Tryz.prog 7 [.agg [iV a0_0, .sl 0, .sl 1, .sl 2]] [rI a0_1, rB a0_2, rT a0_3] (.tup [.agg [.sl 3, .sl 4], bV r.2.2]) [rI a0_1, rB a0_2, rT a0_3, oI r.1, oI r.2.1] := by
 unfold spec_FreshDisk at h
 refine FnA.ofA 18 [0, 1, 2] [.cell 2 30, .tmp 3] Tryz.func7 en7 ?_
 refine rm [0] [(1, .pp 3 0), (2, .pp 4 0)] [] [.box [iV a0_0, .sl 0, .sl 1, .sl 2], .box [nV, nV]] ?_
 replace ⟨y, y_1, y_2, y_3, hr0, h⟩ := bd4 h
 refine rc [] [] [(3, .box [iV y, .sl 5, .sl 6, .sl 7])] [oI y_1, oB y_2, oT y_3] [⟨1, [0, 1, 2], k_spec_l1OwnState hr0⟩] ?_
 replace ⟨y_4, y_5, y_6, hr0, h⟩ := bd3 h
 refine awp_t [1] [(4, .pp 12 0), (5, bV y_6)] [] [oI [], oI [], oI y_4, oI y_5, .box [.sl 10, .sl 11]] ?_ ?_
 ·intro K hK
  refine awp_regionA ?_
  refine wpA_cutAt 2 [(1, .pp 3 0), (2, .pp 4 0), (9, .agg [.sl 8, .sl 9]), (10, .agg [iV y, .sl 5, .sl 6, .sl 7])] [rI a0_1, rB a0_2, rT a0_3, .box [iV y, .sl 5, .sl 6, .sl 7], .box [nV, nV], oI y_1, oB y_2, oT y_3, oI [], oI []] ?_ ?_
  ·clear hK K
   intro K hK
   refine vcOps_sound ftCOk ?_
   simp (maxSteps := 4000000) only [go_sem, Nat.reduceBEq, Nat.reduceLT, Nat.reduceAdd, Nat.reduceLeDiff, Nat.reduceSub, Nat.reduceEqDiff, Int.reduceToNat, reduceCtorEq, ↓reduceIte]
   repeat' (first | refine And.intro ?_ ?_ | intro hg)
   all_goals (try simp (disch := omega) only [wrap_fits])
   all_goals first | (refine hK _ _ ?_; refine Red.trans (Red.nilAgg (t := 9) (j := 0) (.ints .i64 []) rfl rfl rfl) ?_; refine Red.trans (Red.nilAgg (t := 9) (j := 1) (.ints .i64 []) rfl rfl rfl) ?_; exact Red.auto) | exact al0 | exact al1
  have c0 := cm [8, 9, 5, 6, 7] (k_spec_SaveState hr0)
  exact vs
 refine awp_seq fun K2 hK2 => ?_
 refine rg [5] [(15, bV (!y_6))] ?_
 refine awp_if h ?_ ?_ <;> intro hc h
 ·refine rg [4, 15] [(3, bV false)] ?_
  refine nc 4 0 (.ints .i64 []) ?_
  refine nc 4 1 (.ints .i64 []) ?_
  exact fr [0, 1, 2, 13, 14]
 refine sk hK2 ?_
 refine rm [4, 15] [(3, bV true)] [(4, .box [.sl 10, .sl 11])] [] ?_
 exact fr [0, 1, 2, 10, 11]
theorem k_laws_sameInts {a0 a1 r} (h : laws_sameInts a0 a1 = some r) : KA Tryz.prog 25 [.sl 0, .sl 1] [rI a0, rI a1] (bV r) [rI a0, rI a1] := by
 unfold laws_sameInts at h
 refine FnA.ofA 26 [0, 1] [.tmp 4] Tryz.func25 en25 ?_
 refine rg [] [] ?_
 refine awp_seq fun K2 hK2 => ?_
 refine rg [] [(10, bV ((a0.length : Int) != (a1.length : Int)))] ?_
 refine awp_if h ?_ ?_ <;> intro hc h
 ·refine rg [0, 1, 10] [(4, bV false)] ?_
  exact fr [0, 1]
 refine sk hK2 ?_
 refine awp_seq fun K23 hK23 => ?_
 refine rg [10] [(5, iV 0)] ?_
 refine awp_block ?_
 refine lp2 h (fun t5 => [(0, .sl 0), (1, .sl 1), (5, iV t5)]) (fun t5 => [rI a0, rI a1]) (fun _ => Exit.exit 0) (fun _ => []) (fun _ => [rI a0, rI a1]) (fun _ => Exit.ret) (fun _ => [(4, bV false)]) (fun _ => [rI a0, rI a1]) ?_ ?_ ?_
 ·rintro t5 r h
  unfold laws_sameInts_b0 at h
  try dsimp only
  refine awp_seq fun K37 hK37 => ?_
  refine rg [] [(14, bV (decide (t5 < (a0.length : Int))))] ?_
  refine awp_if h ?_ ?_ <;> intro hc h
  ·refine sk hK37 ?_
   refine awp_seq fun K40 hK40 => ?_
   refine awp_block ?_
   replace ⟨p, h⟩ := k2 h
   refine qg [14] [(25, bV ((a0.getD t5.toNat 0) != (a1.getD t5.toNat 0)))] ?_
   refine awp_if h ?_ ?_ <;> intro hc h
   ·refine rg [0, 1, 5, 25] [(4, bV false)] ?_
    exact lor
   refine sk hK40 ?_
   replace ⟨p, h⟩ := k1 h
   refine eg [5, 25] [(5, iV (t5 + 1))] ?_
   exact ln
  exact lo
 ·rintro ⟨⟩ h
  try dsimp only
  refine hK23 _ _ ?_
  refine rg [] [(4, bV true)] ?_
  exact fr [0, 1]
 rintro ⟨⟩ h
 try dsimp only
 exact fr [0, 1]
theorem k_laws_sameDisk {a0_0 a0_1 a1_0 a1_1 r} (h : laws_sameDisk a0_0 a0_1 a1_0 a1_1 = some r) : KA Tryz.prog 8 [.agg [.sl 0, .sl 1], .agg [.sl 2, .sl 3]] [rI a0_0, rI a0_1, rI a1_0, rI a1_1] (bV r) [rI a0_0, rI a0_1, rI a1_0, rI a1_1] := by
 unfold laws_sameDisk at h
 refine FnA.ofA 17 [0, 1, 2, 3] [.tmp 4] Tryz.func8 en8 ?_
 refine rm [0, 1] [(2, .pp 4 0), (3, .pp 5 0)] [] [.box [.sl 0, .sl 1], .box [.sl 2, .sl 3]] ?_
 refine fz 2 ?_
 refine fz 3 ?_
 replace ⟨y, hr0, h⟩ := bd h
 replace ⟨y_1, hr1, h⟩ := bd h
 have c0 := cm [0, 2] (k_laws_sameInts hr0)
 have c1 := cm [1, 3] (fun g0 => k_laws_sameInts (bite_t hr1 g0))
 refine rm [2, 3] [(4, bV (y && y_1))] [] [] ?_
 exact fr [0, 1, 2, 3]
theorem k_laws_alive {r} (h : laws_alive = some r) : KA Tryz.prog 9 [] [] (bV r) [] := by
 unfold laws_alive at h
 refine FnA.ofA 4 [] [.tmp 0] Tryz.func9 en9 ?_
 refine rg [] [] ?_
 replace ⟨y, hr0, h⟩ := bd h
 refine rc [] [(0, bV (y == 7))] [] [oI []] [⟨1, [0], k_impl_CheckSum hr0⟩] ?_
 exact fr []
theorem k_impl_Disk_bytes {a0_0 a0_1 r} (h : impl_Disk_bytes a0_0 a0_1 = some r) : KA Tryz.prog 28 [.agg [.sl 0, .sl 1]] [rI a0_0, rI a0_1] (.sl 2) [rI a0_0, rI a0_1, oI r] := by
 unfold impl_Disk_bytes at h
 refine FnA.ofA 9 [0, 1] [.tmp 2] Tryz.func28 en28 ?_
 refine rm [0] [(1, .pp 2 0)] [] [.box [.sl 0, .sl 1]] ?_
 refine fz 1 ?_
 replace ⟨y, hr0, h⟩ := bd h
 refine rc [1] [(2, .sl 4)] [] [.row false (.intss .i64 [a0_0, a0_1]), oI y] [⟨5, [3], k_slices_Concat_int_int hr0⟩] ?_
 exact fr [0, 1, 4]
theorem k_impl_frameAt_v4 {Ψ : ExtP} (a1_0 : List Int) {r : List Int × Int × Bool} (h : impl_frameAt_v4 a1_0 = some r) :
 FnA Tryz.prog 68 [.sl 2, iV 0] [.ext Ψ, .rbox [.sl 2], rI a1_0] [] (fun x H => x = .tup [.sl 3, iV r.2.1, bV r.2.2] ∧ H = [.ext Ψ, .rbox [.sl 2], rI a1_0, rI r.1]) := by
 unfold impl_frameAt_v4 at h
 refine FnA.ofA 59 [0, 1, 2] [.tmp 4, .tmp 5, .tmp 6] Tryz.func68 en68 ?_
 refine rg [] [] ?_
 refine awp_seq fun K2 hK2 => ?_
 refine rg [] [(16, bV ((decide (0 < 0)) || (decide ((a1_0.length : Int) ≤ 0))))] ?_
 refine awp_if h ?_ ?_ <;> intro hc h
 ·refine rg [0, 1, 16] [(4, nV), (5, iV 0), (6, bV false)] ?_
  refine awp_red (Red.nil (t := 4) (.ints .i64 []) rfl rfl) ?_
  refine awp_red (Red.freeze (o := 3) rfl) ?_
  exact fr [0, 1, 2, 3]
 refine sk hK2 ?_
 replace ⟨p, h⟩ := k1 h
 refine rg [16] [(7, iV (a1_0.getD 0 0))] ?_
 refine awp_seq fun K5 hK5 => ?_
 replace ⟨⟨hp0, _⟩, h⟩ := k2 h
 refine awp_t [] [(35, bV (((decide ((a1_0.getD 0 0) < 1)) || (decide (100 < (a1_0.getD 0 0)))) || (decide (((a1_0.length : Int) - 0) < ((a1_0.getD 0 0) + 2)))))] [] [] ?_ ?_
 ·intro K hK
  refine awp_regionA ?_
  refine wc 6 [(0, .sl 2), (1, iV 0), (7, iV (a1_0.getD 0 0)), (26, bV ((decide ((a1_0.getD 0 0) < 1)) || (decide (100 < (a1_0.getD 0 0)))))] [.ext Ψ, .rbox [.sl 2], rI a1_0] ?_
  exact vs
 refine awp_if h ?_ ?_ <;> intro hc h
 ·refine rg [0, 1, 7, 35] [(4, nV), (5, iV 0), (6, bV false)] ?_
  refine awp_red (Red.nil (t := 4) (.ints .i64 []) rfl rfl) ?_
  refine awp_red (Red.freeze (o := 3) rfl) ?_
  exact fr [0, 1, 2, 3]
 refine sk hK5 ?_
 replace ⟨p, h⟩ := k2 h
 refine rm [35] [(8, .sl 3)] [] [rI ((a1_0.take ((1 + (a1_0.getD 0 0)).toNat)).drop 1)] ?_
 refine awp_seq fun K8 hK8 => ?_
 replace ⟨p, h⟩ := k2 h
 replace ⟨y, hr2, h⟩ := bd h
 have c0 := cm [3] (k_impl_CheckSum hr2)
 refine dm (.free 0 (.free 1 (.free 2 (.free 3 (.free 4 (.free 5 (.free 7 (.free 6 (.one 8 (.one 9 .fin)))))))))) [0] [(53, bV ((a1_0.getD ((1 + (a1_0.getD 0 0)).toNat) 0) != y))] [] [] ?_
 refine awp_if h ?_ ?_ <;> intro hc h
 ·refine rg [1, 7, 8, 53] [(4, nV), (5, iV 0), (6, bV false)] ?_
  refine awp_red (Red.nil (t := 4) (.ints .i64 []) rfl rfl) ?_
  refine awp_red (Red.freeze (o := 4) rfl) ?_
  exact fr [0, 1, 2, 4]
 refine sk hK8 ?_
 replace ⟨p, h⟩ := k2 h
 refine rg [1, 7, 8, 53] [(4, .sl 3), (5, iV ((0 + (a1_0.getD 0 0)) + 2)), (6, bV true)] ?_
 exact fr [0, 1, 2, 3]
theorem k_impl_frameAt_v5 {Ψ : ExtP} (a1_0 : List Int) (t3 : Int) {r : List Int × Int × Bool} (h : impl_frameAt_v5 a1_0 t3 = some r) :
 FnA Tryz.prog 68 [.sl 2, iV t3] [.ext Ψ, .rbox [.sl 2], rI a1_0] [] (fun x H => x = .tup [.sl 3, iV r.2.1, bV r.2.2] ∧ H = [.ext Ψ, .rbox [.sl 2], rI a1_0, rI r.1]) := by
 unfold impl_frameAt_v5 at h
 refine FnA.ofA 59 [0, 1, 2] [.tmp 4, .tmp 5, .tmp 6] Tryz.func68 en68 ?_
 refine rg [] [] ?_
 refine awp_seq fun K2 hK2 => ?_
 refine rg [] [(16, bV ((decide (t3 < 0)) || (decide ((a1_0.length : Int) ≤ t3))))] ?_
 refine awp_if h ?_ ?_ <;> intro hc h
 ·refine rg [0, 1, 16] [(4, nV), (5, iV 0), (6, bV false)] ?_
  refine awp_red (Red.nil (t := 4) (.ints .i64 []) rfl rfl) ?_
  refine awp_red (Red.freeze (o := 3) rfl) ?_
  exact fr [0, 1, 2, 3]
 refine sk hK2 ?_
 replace ⟨p, h⟩ := k1 h
 refine rg [16] [(7, iV (a1_0.getD t3.toNat 0))] ?_
 refine awp_seq fun K5 hK5 => ?_
 replace ⟨⟨hp0, _⟩, h⟩ := k2 h
 refine awp_t [] [(35, bV (((decide ((a1_0.getD t3.toNat 0) < 1)) || (decide (100 < (a1_0.getD t3.toNat 0)))) || (decide (((a1_0.length : Int) - t3) < ((a1_0.getD t3.toNat 0) + 2)))))] [] [] ?_ ?_
 ·intro K hK
  refine awp_regionA ?_
  refine wc 6 [(0, .sl 2), (1, iV t3), (7, iV (a1_0.getD t3.toNat 0)), (26, bV ((decide ((a1_0.getD t3.toNat 0) < 1)) || (decide (100 < (a1_0.getD t3.toNat 0)))))] [.ext Ψ, .rbox [.sl 2], rI a1_0] ?_
  exact vs
 refine awp_if h ?_ ?_ <;> intro hc h
 ·refine rg [0, 1, 7, 35] [(4, nV), (5, iV 0), (6, bV false)] ?_
  refine awp_red (Red.nil (t := 4) (.ints .i64 []) rfl rfl) ?_
  refine awp_red (Red.freeze (o := 3) rfl) ?_
  exact fr [0, 1, 2, 3]
 refine sk hK5 ?_
 replace ⟨p, h⟩ := k3 h
 refine rm [35] [(8, .sl 3)] [] [rI ((a1_0.take (((t3 + 1) + (a1_0.getD t3.toNat 0)).toNat)).drop ((t3 + 1).toNat))] ?_
 refine awp_seq fun K8 hK8 => ?_
 replace ⟨p, h⟩ := k3 h
 replace ⟨y, hr3, h⟩ := bd h
 have c0 := cm [3] (k_impl_CheckSum hr3)
 refine dm (.free 0 (.free 1 (.free 2 (.free 3 (.free 4 (.free 5 (.free 7 (.free 6 (.one 8 (.one 9 .fin)))))))))) [0] [(53, bV ((a1_0.getD (((t3 + 1) + (a1_0.getD t3.toNat 0)).toNat) 0) != y))] [] [] ?_
 refine awp_if h ?_ ?_ <;> intro hc h
 ·refine rg [1, 7, 8, 53] [(4, nV), (5, iV 0), (6, bV false)] ?_
  refine awp_red (Red.nil (t := 4) (.ints .i64 []) rfl rfl) ?_
  refine awp_red (Red.freeze (o := 4) rfl) ?_
  exact fr [0, 1, 2, 4]
 refine sk hK8 ?_
 replace ⟨p, h⟩ := k2 h
 refine rg [1, 7, 8, 53] [(4, .sl 3), (5, iV ((t3 + (a1_0.getD t3.toNat 0)) + 2)), (6, bV true)] ?_
 exact fr [0, 1, 2, 3]
theorem k_impl_framesOf_1 {υ : Type} (Φ : υ → ExtP) (l : Nat) (a1_0 : List Int) (yld : (List Int × Int) → υ → Option (Bool × υ)) (u : υ) (hY : ∀ (x : List Int × Int) (u : υ) (b : Bool) (u' : υ), yld x u = some (b, u') → RoundA Tryz.prog l (Φ u) [.sl 0, iV x.2] [rI x.1] (fun b2 Φ2 => b2 = b ∧ Φ2 = Φ u')) {r : υ} (h : impl_framesOf_1 a1_0 yld u = some r) :
 FnA Tryz.prog 67 [.v (yv l), .pp 1 0] [.ext (Φ u), .rbox [.sl 2], rI a1_0] [] (fun x H => x = .tup [] ∧ H = [.ext (Φ r), .rbox [.sl 2], rI a1_0]) := by
 unfold impl_framesOf_1 at h
 refine FnA.ofA 24 [0, 1, 2] [] Tryz.func67 en67 ?_
 refine rg [] [(3, iV 0)] ?_
 refine awp_block ?_
 refine lp h (fun (t3, p0s) => [(0, .v (yv l)), (1, .pp 1 0), (3, iV t3)]) (fun (t3, p0s) => [.ext (Φ p0s), .rbox [.sl 2], rI a1_0]) (fun _ => Exit.ret) (fun p0s_1 => []) (fun p0s_1 => [.ext (Φ p0s_1), .rbox [.sl 2], rI a1_0]) ?_ ?_
 ·rintro ⟨t3, p0s⟩ r h
  unfold impl_framesOf_1_b0 at h
  try dsimp only
  refine awp_block ?_
  replace ⟨y, y_1, y_2, hr0, h⟩ := bd3 h
  have d0 := fun {Ψ : ExtP} => k_impl_frameAt_v5 (Ψ := Ψ) a1_0 t3 (h := hr0)
  refine rm [3] [(4, .sl 3), (5, iV y_1), (6, bV y_2)] [] [rI y] ?_
  refine awp_seq fun K8 hK8 => ?_
  cases y_2
  ·replace h := bite_f h rfl
   refine rg [4, 6] [(22, bV true)] ?_
   refine awp_cond (t := 22) rfl (fun _ => ?_) (fun hc => by cases hc)
   exact lors [0, 1, 2]
  replace h := bite_t h rfl
  replace ⟨y_3, u_1, hr0, h⟩ := bd2 h
  refine awp_t [4, 6] [(22, bV (!y_3))] [(0, .ext (Φ u_1))] [] ?_ ?_
  ·intro K hK
   refine awp_regionYg 6 ?_
   refine vcOps_sound ftCOk ?_
   simp (maxSteps := 4000000) only [go_sem, Nat.reduceBEq, Nat.reduceLT, Nat.reduceAdd, Nat.reduceLeDiff, Nat.reduceSub, Nat.reduceEqDiff, Int.reduceToNat, reduceCtorEq, ↓reduceIte]
   repeat' (first | refine And.intro ?_ ?_ | intro hg)
   all_goals (try simp (disch := omega) only [wrap_fits])
   all_goals first
    | exact al0
    | contradiction
    | (simp only [List.length_nil, List.length_append]; omega)
    | (refine OpYA (hY _ _ _ _ hr0) 0 [3] [] ?_
       rintro b Φ' ⟨rfl, rfl⟩
       refine vcOps_sound ftCOk ?_
       exact au5)
    | exact al1
  refine awp_if h ?_ ?_ <;> intro hc h
  ·exact lors [0, 1, 2]
  refine sk hK8 ?_
  refine eg [5, 22] [(3, iV y_1)] ?_
  refine nm ?_
  exact lns [0, 1, 2]
 rintro p0s_1 h
 try dsimp only
 exact fr [0, 1, 2]
theorem k_impl_framesOf_v6 {a0 r} (h : impl_framesOf_v6 a0 = some r) : KA Tryz.prog 42 [.sl 0] [rI a0, .box [nV], .box [iV 0]] (.ip 3 (.clo 67)) [rI a0, .box [nV], .box [iV 0], .rbox [.sl 0]] := by
 unfold impl_framesOf_v6 at h
 refine FnA.ofA 4 [0, 1, 2] [.tmp 2] Tryz.func42 en42 ?_
 refine rm [0] [(1, .pp 3 0)] [] [.box [.sl 0]] ?_
 refine fz 1 ?_
 refine rg [1] [(2, .ip 3 (.clo 67))] ?_
 exact fr [0, 1, 2, 3]
theorem k_impl_ScanFrames {a0 r} (h : impl_ScanFrames a0 = some r) : KA Tryz.prog 18 [.sl 0] [rI a0] (.tup [.sl 1, iV r.2]) [rI a0, .row true (.intss .i64 r.1)] := by
 unfold impl_ScanFrames at h
 refine FnA.ofA 23 [0] [.tmp 2, .tmp 3] Tryz.func18 en18 ?_
 refine rg [] [] ?_
 refine awp_seq fun K2 hK2 => ?_
 replace ⟨y, hr0, h⟩ := bd h
 refine rc [] [(10, bV (!y))] [] [] [⟨1, [0], k_impl_BytesValid hr0⟩] ?_
 refine awp_if h ?_ ?_ <;> intro hc h
 ·refine rg [0, 10] [(2, nV), (3, iV (-1))] ?_
  refine awp_red (Red.nil (t := 2) (.intss .i64 []) rfl rfl) ?_
  exact fr [0, 1]
 refine sk hK2 ?_
 refine rm [10] [(4, .pp 1 0)] [] [.box [nV]] ?_
 refine rm [] [(5, .pp 2 0)] [] [.box [iV 0]] ?_
 refine awp_seq fun K5 hK5 => ?_
 replace ⟨⟨⟩, hr0, h⟩ := bd h
 have d0 := k_impl_framesOf_v6 hr0
 refine rm [0] [(12, .ip 3 (.clo 67))] [] [.rbox [.sl 0]] ?_
 refine awp_block ?_
 replace h := bind_some h
 obtain ⟨u6, hx, h⟩ := h
 refine awp_rangeL (f := impl_ScanFrames_r0) (s0 := ([], 0)) (u' := u6) [0, 1, 3, 4] [(4, .pp 1 0), (5, .pp 3 0), (12, .ip 4 (.clo 67))] (fun ((t4_0s, t5_0) : List (List Int) × Int) => [rI a0, .box [.sl 2], .row true (.intss .i64 t4_0s), .box [iV t5_0], .rbox [.sl 0]]) (fun x => x.elim) (fun x => x.elim) (fun x => [(4, .pp 1 0), (5, .pp 3 0), (6, .sl 6), (7, iV x.2), (12, .ip 4 (.clo 67))]) [4, 0] [.rbox [.sl 2], rI a0] (fun x => [.sl 0, iV x.2]) (fun x => [rI x.1]) 5 (fun l Φ hY => k_impl_framesOf_1 (Φ := Φ) (l := l) a0 _ _ (hY := hY) (h := hx)) ?_ ?_ ?_ ?_ ?_ (hnf := by rintro ⟨t4_0s, t5_0⟩; rfl) (hlx := fun x => x.elim) (hnx := fun x => x.elim) (hJ := fun x => x.elim)
 ·refine Red.trans (Red.nilCell (o := 1) (i := 0) (.intss .i64 []) rfl rfl rfl) ?_
  exact Red.selA [0, 1, 4, 2, 3] Red.auto
 ·rintro l x ⟨t4_0s, t5_0⟩ Ψ
  have h := trivial
  refine awp_at [(14, iV x.2), (13, .sl 6), (4, .pp 1 0), (5, .pp 3 0), (12, .ip 4 (.clo 67))] [rI a0, .box [.sl 2], .row true (.intss .i64 t4_0s), .box [iV t5_0], .rbox [.sl 0], .ext Ψ, rI x.1] ?_
  refine rg [13] [(6, .sl 6)] ?_
  refine eg [14] [(7, iV x.2)] ?_
  exact RQ.asg [(4, .pp 1 0), (5, .pp 3 0), (6, .sl 6), (7, iV x.2), (12, .ip 4 (.clo 67))] [rI a0, .box [.sl 2], .row true (.intss .i64 t4_0s), .box [iV t5_0], .rbox [.sl 0], .ext Ψ, rI x.1] Red.auto
 ·rintro l x ⟨t4_0s, t5_0⟩ u' Ψ h
  unfold impl_ScanFrames_r0 at h
  refine awp_at [(4, .pp 1 0), (5, .pp 3 0), (6, .sl 6), (7, iV x.2), (12, .ip 4 (.clo 67))] [rI a0, .box [.sl 2], .row true (.intss .i64 t4_0s), .box [iV t5_0], .rbox [.sl 0], .ext Ψ, rI x.1] ?_
  refine awp_block ?_
  replace ⟨y_1, hr0, h⟩ := bd h
  replace ⟨p, h⟩ := k1 h
  have c0 := cm [6] (k_slices_Clone_int_int hr0)
  refine pm [0, 1, 3, 4, 5, 6] (.free 1 (.two 0 2 (.one 2 (.one 3 (.one 4 (.one 5 .fin)))) (.two 0 3 (.one 3 (.one 4 (.one 5 .fin))) (.one 0 (.one 4 (.one 5 .fin)))))) [6] [] [(2, .tak true (.intss .i64 (t4_0s ++ [[]])) t4_0s.length 0 (some 7))] [oI y_1, .tak true (.intss .i64 [[]]) 0 0 (some 7)] ?_
  refine awp_put 2 7 (by rfl) (by rfl) (by rfl) (by exact rfl) ?_
  refine em [7] [] [(3, .box [iV x.2])] [] ?_
  refine nm ?_
  obtain rfl := Option.some.inj h
  refine RQ.next [rI a0, .box [.sl 2], .row true (.intss .i64 ((t4_0s ++ [[]]).set t4_0s.length y_1)), .box [iV x.2], .rbox [.sl 0], .ext Ψ] ?_
  exact Red.selA [0, 1, 2, 3, 4, 5] Red.auto
 ·rintro ⟨t4_0s, t5_0⟩ rfl
  try dsimp only [Sum.elim_inl, Sum.elim_inr] at h
  try simp only [Thn, InBlk, exitOf, ↓reduceIte, Nat.reduceEqDiff, Sum.elim_inl, Sum.elim_inr, List.cons_append, List.nil_append]
  refine hK5 _ _ ?_
  refine qg [4, 5, 12] [(2, .sl 2), (3, iV t5_0)] ?_
  exact fr [0, 2]
 exact fun x => x.elim
theorem k_impl_DiskRecords {a0_0 a0_1 r} (h : impl_DiskRecords a0_0 a0_1 = some r) : KA Tryz.prog 11 [.agg [.sl 0, .sl 1]] [rI a0_0, rI a0_1] (.sl 2) [rI a0_0, rI a0_1, .row true (.intss .i64 r)] := by
 unfold impl_DiskRecords at h
 refine FnA.ofA 15 [0, 1] [.tmp 2] Tryz.func11 en11 ?_
 refine rm [0] [(1, .pp 2 0)] [] [.box [.sl 0, .sl 1]] ?_
 refine fz 1 ?_
 refine awp_seq fun K2 hK2 => ?_
 replace ⟨y, hr0, h⟩ := bd h
 refine rc [] [(7, bV (!y))] [] [] [⟨1, [0, 1], k_impl_DiskValid hr0⟩] ?_
 refine awp_if h ?_ ?_ <;> intro hc h
 ·refine rg [1, 7] [(2, nV)] ?_
  refine awp_red (Red.nil (t := 2) (.intss .i64 []) rfl rfl) ?_
  exact fr [0, 1, 3]
 refine sk hK2 ?_
 replace ⟨y_1, hr0, h⟩ := bd h
 replace ⟨y_2, y_3, hr1, h⟩ := bd2 h
 refine rc [1, 7] [(3, .sl 4)] [] [oI y_1, .row true (.intss .i64 y_2)] [⟨1, [0, 1], k_impl_Disk_bytes hr0⟩, ⟨0, [3], k_impl_ScanFrames hr1⟩] ?_
 refine rg [3] [(2, .sl 4)] ?_
 exact fr [0, 1, 4]
theorem k_impl_byteReader_next {a0_0 a0_1 r} (h : impl_byteReader_next a0_0 a0_1 = some r) : KA Tryz.prog 97 [.pp 0 0] [.box [.sl 1, iV a0_1], rI a0_0] (.tup [iV r.1, bV r.2.1]) [.box [.sl 1, iV r.2.2], rI a0_0] := by
 unfold impl_byteReader_next at h
 refine FnA.ofA 40 [0, 1] [.tmp 2, .tmp 3] Tryz.func97 en97 ?_
 refine rg [] [] ?_
 refine awp_seq fun K2 hK2 => ?_
 refine qg [] [(21, bV ((decide (a0_1 < 0)) || (decide ((a0_0.length : Int) ≤ a0_1))))] ?_
 refine awp_if h ?_ ?_ <;> intro hc h
 ·refine rg [0, 21] [(2, iV 0), (3, bV false)] ?_
  exact fr [0, 1]
 refine sk hK2 ?_
 replace ⟨p, h⟩ := k1 h
 refine qg [21] [(4, iV (a0_0.getD a0_1.toNat 0))] ?_
 replace ⟨p, h⟩ := k1 h
 refine rm [0] [] [(0, .box [.sl 1, iV (a0_1 + 1)])] [] ?_
 refine rg [4] [(2, iV (a0_0.getD a0_1.toNat 0)), (3, bV true)] ?_
 exact fr [0, 1]
theorem k_impl_byteReader_number {a0_0 a0_1 r} (h : impl_byteReader_number a0_0 a0_1 = some r) : KA Tryz.prog 80 [.pp 0 0] [.box [.sl 1, iV a0_1], rI a0_0] (.tup [iV r.1, bV r.2.1]) [.box [.sl 1, iV r.2.2], rI a0_0] := by
 unfold impl_byteReader_number at h
 refine FnA.ofA 44 [0, 1] [.tmp 2, .tmp 3] Tryz.func80 en80 ?_
 refine rg [] [] ?_
 refine rg [] [(4, iV 0), (5, iV 1)] ?_
 refine awp_seq fun K65 hK65 => ?_
 refine rg [] [(6, iV 0)] ?_
 refine awp_block ?_
 refine lp2 h (fun (t4, t5, t6, p0_1) => [(0, .pp 0 0), (4, iV t4), (5, iV t5), (6, iV t6)]) (fun (t4, t5, t6, p0_1) => [.box [.sl 1, iV p0_1], rI a0_0]) (fun _ => Exit.exit 0) (fun p0_1_1 => []) (fun p0_1_1 => [.box [.sl 1, iV p0_1_1], rI a0_0]) (fun _ => Exit.ret) (fun (t2, t3, p0_1_2) => [(2, iV t2), (3, bV t3)]) (fun (t2, t3, p0_1_2) => [.box [.sl 1, iV p0_1_2], rI a0_0]) ?_ ?_ ?_
 ·rintro ⟨t4, t5, t6, p0_1⟩ r h
  unfold impl_byteReader_number_b0 at h
  try dsimp only
  refine awp_seq fun K109 hK109 => ?_
  refine rg [] [(10, bV (decide (t6 < 3)))] ?_
  refine awp_if h ?_ ?_ <;> intro hc h
  ·refine sk hK109 ?_
   refine awp_join h (fun (t4_1, p0_1_3) => [(0, .pp 0 0), (4, iV t4_1), (5, iV (t5 * 128)), (6, iV t6)]) (fun (t4_1, p0_1_3) => [.box [.sl 1, iV p0_1_3], rI a0_0]) ?_ ?_
   ·intro k h
    refine awp_block ?_
    replace ⟨y, y_1, y_2, hr0, h⟩ := bd3 h
    refine rc [10] [(7, iV y), (8, bV y_1)] [(0, .box [.sl 1, iV y_2])] [] [⟨1, [0, 1], k_impl_byteReader_next hr0⟩] ?_
    refine awp_seq fun K121 hK121 => ?_
    refine rg [8] [(19, bV (!y_1))] ?_
    refine awp_if h ?_ ?_ <;> intro hc h
    ·refine rg [0, 4, 5, 6, 7, 19] [(2, iV 0), (3, bV false)] ?_
     exact lor
    refine sk hK121 ?_
    refine awp_seq fun K124 hK124 => ?_
    refine rg [19] [(21, bV (decide (128 ≤ y)))] ?_
    refine awp_if h ?_ ?_ <;> intro hc h
    ·replace ⟨p, h⟩ := k3 h
     refine rg [4, 7, 21] [(4, iV (t4 + ((y - 128) * t5)))] ?_
     replace ⟨p, h⟩ := k1 h
     refine rg [5] [(5, iV (t5 * 128))] ?_
     refine awp_exit ?_
     exact jo
    refine sk hK124 ?_
    refine awp_seq fun K127 hK127 => ?_
    refine rg [0, 6, 21] [(35, bV ((y == 0) && (decide (0 < t6))))] ?_
    refine awp_if h ?_ ?_ <;> intro hc h
    ·refine rg [4, 5, 7, 35] [(2, iV 0), (3, bV false)] ?_
     exact lor
    refine sk hK127 ?_
    replace ⟨p, h⟩ := k2 h
    refine rg [4, 5, 7, 35] [(4, iV (t4 + (y * t5)))] ?_
    refine rg [4] [(2, iV (t4 + (y * t5))), (3, bV (decide ((t4 + (y * t5)) ≤ 1000000)))] ?_
    exact lor
   rintro ⟨t4_1, p0_1_3⟩ h
   try dsimp only
   replace ⟨p, h⟩ := k1 h
   refine eg [6] [(6, iV (t6 + 1))] ?_
   exact ln
  exact lo
 ·rintro p0_1_1 h
  try dsimp only
  refine hK65 _ _ ?_
  refine rg [] [(2, iV 0), (3, bV false)] ?_
  exact fr [0, 1]
 rintro ⟨t2, t3, p0_1_2⟩ h
 try dsimp only
 exact fr [0, 1]
theorem k_impl_byteReader_done {a0_0 a0_1 r} (h : impl_byteReader_done a0_0 a0_1 = some r) : KA Tryz.prog 81 [.pp 0 0] [.box [.sl 1, iV a0_1], rI a0_0] (bV r) [.box [.sl 1, iV a0_1], rI a0_0] := by
 unfold impl_byteReader_done at h
 refine FnA.ofA 13 [0, 1] [.tmp 2] Tryz.func81 en81 ?_
 refine rg [] [] ?_
 refine qg [0] [(2, bV (a0_1 == (a0_0.length : Int)))] ?_
 exact fr [0, 1]
theorem k_impl_numbersBehind {a0 a1 a2 r} (h : impl_numbersBehind a0 a1 a2 = some r) : KA Tryz.prog 54 [.sl 0, iV a1, iV a2] [rI a0] (.tup [.sl 1, bV r.2]) [rI a0, oI r.1] := by
 unfold impl_numbersBehind at h
 refine FnA.ofA 45 [0] [.tmp 6, .tmp 7] Tryz.func54 en54 ?_
 refine rg [] [] ?_
 refine awp_seq fun K2 hK2 => ?_
 replace ⟨y, hr0, h⟩ := bd h
 replace ⟨hp1, h⟩ := k1 h
 have c0 := cm [0] (k_impl_bodyValid hr0)
 refine rm [1] [(22, bV ((!y) || ((a0.getD 0 0) != a1)))] [] [] ?_
 refine awp_if h ?_ ?_ <;> intro hc h
 ·refine rg [0, 2, 22] [(6, nV), (7, bV false)] ?_
  refine awp_red (Red.nil (t := 6) (.ints .i64 []) rfl rfl) ?_
  exact fr [0, 1]
 refine sk hK2 ?_
 refine rm [0, 22] [(8, .pp 1 0)] [] [.box [.sl 0, iV 1]] ?_
 replace ⟨p, h⟩ := k1 h
 refine rm [2] [(9, .sl 2)] [] [oI (List.replicate a2.toNat 0)] ?_
 refine awp_seq fun K35 hK35 => ?_
 refine rg [] [(28, iV ((List.replicate a2.toNat 0).length : Int)), (29, iV 0)] ?_
 refine awp_block ?_
 refine lp2 h (fun (t29, t8_1, t9s) => [(8, .pp 1 0), (9, .sl 2), (28, iV ((List.replicate a2.toNat 0).length : Int)), (29, iV t29)]) (fun (t29, t8_1, t9s) => [rI a0, .box [.sl 0, iV t8_1], oI t9s]) (fun _ => Exit.exit 0) (fun (t8_1_1, t9s_1) => [(8, .pp 1 0), (9, .sl 2)]) (fun (t8_1_1, t9s_1) => [rI a0, .box [.sl 0, iV t8_1_1], oI t9s_1]) (fun _ => Exit.ret) (fun _ => [(6, .sl 1), (7, bV false)]) (fun _ => [rI a0, oI []]) ?_ ?_ ?_
 ·rintro ⟨t29, t8_1, t9s⟩ r h
  unfold impl_numbersBehind_b0 at h
  try dsimp only
  refine rg [] [(30, bV (decide (t29 < ((List.replicate a2.toNat 0).length : Int))))] ?_
  refine awp_seq fun K57 hK57 => ?_
  refine awp_if h ?_ ?_ <;> intro hc h
  ·refine sk hK57 ?_
   refine awp_seq fun K62 hK62 => ?_
   refine awp_block ?_
   refine rg [30] [(10, iV t29)] ?_
   replace ⟨y_1, y_2, y_3, hr0, h⟩ := bd3 h
   refine rc [] [(11, iV y_1), (12, bV y_2)] [(1, .box [.sl 0, iV y_3])] [] [⟨0, [1, 0], k_impl_byteReader_number hr0⟩] ?_
   refine awp_seq fun K64 hK64 => ?_
   refine rg [12] [(37, bV (!y_2))] ?_
   refine awp_if h ?_ ?_ <;> intro hc h
   ·refine rg [8, 9, 10, 11, 28, 29, 37] [(6, nV), (7, bV false)] ?_
    refine awp_ret ?_
    refine nm ?_
    obtain rfl := Option.some.inj h
    refine LoopQ.out rfl ?_
    refine Red.trans (Red.nil (t := 6) (.ints .i64 []) rfl rfl) ?_
    exact Red.selA [0, 3] Red.auto
   refine sk hK64 ?_
   replace ⟨p, h⟩ := k1 h
   refine em [10, 11, 37] [] [(2, oI (t9s.set t29.toNat y_1))] [] ?_
   refine hK62 _ _ ?_
   replace ⟨p, h⟩ := k1 h
   refine eg [29] [(29, iV (t29 + 1))] ?_
   exact ln
  exact lo
 ·rintro ⟨t8_1_1, t9s_1⟩ h
  try dsimp only
  refine hK35 _ _ ?_
  replace ⟨y_4, hr0, h⟩ := bd h
  refine rc [8, 9] [(6, .sl 2), (7, bV y_4)] [] [] [⟨1, [1, 0], k_impl_byteReader_done hr0⟩] ?_
  exact fr [0, 2]
 rintro ⟨⟩ h
 try dsimp only
 exact fr [0, 1]
theorem k_impl_State_readValues {a0_0 a0_1 a0_2 a0_3 a1 r} (h : impl_State_readValues a0_0 a0_1 a0_2 a0_3 a1 = some r) : KA Tryz.prog 55 [.pp 0 0, .sl 4] [.box [iV a0_0, .sl 1, .sl 2, .sl 3], oI a0_1, oB a0_2, rT a0_3, .row false (.intss .i64 a1)] (bV r.1) [.box [iV a0_0, .sl 5, .sl 6, .sl 3], .dead, .dead, rT a0_3, .row false (.intss .i64 a1), oI r.2.1, oB r.2.2] := by
 unfold impl_State_readValues at h
 refine FnA.ofA 55 [0, 1, 2, 3, 4] [.tmp 4] Tryz.func55 en55 ?_
 refine awp_move 1 [(0, .pp 0 0), (1, .sl 4)] [.box [iV a0_0, .sl 5, .sl 2, .sl 3], .dead, oB a0_2, rT a0_3, .row false (.intss .i64 a1), oI a0_1] (by rfl) (by rfl) (by exact rfl) ?_
 refine awp_move 2 [(0, .pp 0 0), (1, .sl 4)] [.box [iV a0_0, .sl 5, .sl 6, .sl 3], .dead, .dead, rT a0_3, .row false (.intss .i64 a1), oI a0_1, oB a0_2] (by rfl) (by rfl) (by exact rfl) ?_
 refine rg [] [] ?_
 refine awp_seq fun K38 hK38 => ?_
 refine rg [1] [(9, .sl 4), (10, iV (a1.length : Int)), (11, iV 0)] ?_
 refine awp_block ?_
 refine lp2 h (fun (t11, p0_1s, p0_2s) => [(0, .pp 0 0), (9, .sl 4), (10, iV (a1.length : Int)), (11, iV t11)]) (fun (t11, p0_1s, p0_2s) => [.box [iV a0_0, .sl 5, .sl 6, .sl 3], .dead, .dead, rT a0_3, .row false (.intss .i64 a1), oI p0_1s, oB p0_2s]) (fun _ => Exit.exit 0) (fun (p0_1s_1, p0_2s_1) => []) (fun (p0_1s_1, p0_2s_1) => [.box [iV a0_0, .sl 5, .sl 6, .sl 3], .dead, .dead, rT a0_3, .row false (.intss .i64 a1), oI p0_1s_1, oB p0_2s_1]) (fun _ => Exit.ret) (fun (p0_1s_2, p0_2s_2) => [(4, bV false)]) (fun (p0_1s_2, p0_2s_2) => [.box [iV a0_0, .sl 5, .sl 6, .sl 3], .dead, .dead, rT a0_3, .row false (.intss .i64 a1), oI p0_1s_2, oB p0_2s_2]) ?_ ?_ ?_
 ·rintro ⟨t11, p0_1s, p0_2s⟩ r h
  unfold impl_State_readValues_b0 at h
  try dsimp only
  refine rg [] [(12, bV (decide (t11 < (a1.length : Int))))] ?_
  refine awp_seq fun K64 hK64 => ?_
  refine awp_if h ?_ ?_ <;> intro hc h
  ·refine sk hK64 ?_
   refine awp_seq fun K70 hK70 => ?_
   refine awp_block ?_
   replace h := chk_some h
   obtain ⟨hpt74, h⟩ := h
   refine awp_take 4 t11.toNat 0 (by rfl) (by exact hpt74) (by rfl) (by exact rfl) ?_
   clear hpt74
   replace ⟨p, h⟩ := k1 h
   refine rg [12] [(6, .sl 7)] ?_
   refine awp_put 4 7 (by rfl) (by rfl) (Cont.setChild_self (by rfl)) (by exact rfl) ?_
   replace ⟨y, y_1, hr0, h⟩ := bd2 h
   refine rc [6] [(7, .sl 8), (8, bV y_1)] [] [oI y] [⟨1, [7], k_impl_numbersBehind hr0⟩] ?_
   refine awp_seq fun K72 hK72 => ?_
   replace ⟨hp0, h⟩ := k1 h
   refine rm [8] [(27, bV ((!y_1) || (decide (1 < (y.getD 1 0)))))] [] [] ?_
   refine awp_if h ?_ ?_ <;> intro hc h
   ·refine rg [0, 7, 9, 10, 11, 27] [(4, bV false)] ?_
    exact lors [0, 1, 2, 3, 4, 5, 6]
   refine sk hK72 ?_
   replace ⟨p, h⟩ := k3 h
   refine pm [0, 1, 2, 3, 4, 6, 7, 8] (.free 0 (.free 1 (.free 2 (.free 3 (.free 5 (.two 4 6 (.one 6 (.one 7 (.one 8 (.one 9 (.one 10 (.one 11 (.one 12 (.one 13 .fin)))))))) (.two 4 7 (.one 7 (.one 8 (.one 9 (.one 10 (.one 11 (.one 12 (.one 13 .fin))))))) (.free 8 (.two 4 9 (.one 9 (.one 10 (.one 11 (.one 12 (.one 13 .fin))))) (.one 4 (.one 10 (.one 11 (.one 12 (.one 13 .fin)))))))))))))) [27] [] [(5, oI (p0_1s ++ [((y.getD 0 0) - 1)]))] [oI [((y.getD 0 0) - 1)]] ?_
   replace ⟨p, h⟩ := k2 h
   refine pe [0, 1, 2, 3, 4, 5, 7, 8, 9] (.free 0 (.free 1 (.free 2 (.free 3 (.free 5 (.two 4 6 (.one 6 (.one 7 (.one 8 (.one 9 (.one 10 (.one 11 (.one 12 (.one 13 .fin)))))))) (.two 4 7 (.one 7 (.one 8 (.one 9 (.one 10 (.one 11 (.one 12 (.one 13 .fin))))))) (.free 8 (.two 4 9 (.one 9 (.one 10 (.one 11 (.one 12 (.one 13 .fin))))) (.one 4 (.one 10 (.one 11 (.one 12 (.one 13 .fin)))))))))))))) [7] [] [(6, oB (p0_2s ++ [((y.getD 1 0) == 1)]))] [oB [((y.getD 1 0) == 1)]] ?_
   refine hK70 _ _ ?_
   replace ⟨p, h⟩ := k1 h
   refine eg [11] [(11, iV (t11 + 1))] ?_
   exact lns [0, 1, 2, 3, 4, 5, 6]
  exact lo
 ·rintro ⟨p0_1s_1, p0_2s_1⟩ h
  try dsimp only
  refine hK38 _ _ ?_
  refine rg [] [(4, bV true)] ?_
  exact fr [0, 1, 2, 3, 4, 5, 6]
 rintro ⟨p0_1s_2, p0_2s_2⟩ h
 try dsimp only
 exact fr [0, 1, 2, 3, 4, 5, 6]
theorem k_impl_State_readMessages {a0_0 a0_1 a0_2 a0_3 a1 r} (h : impl_State_readMessages a0_0 a0_1 a0_2 a0_3 a1 = some r) : KA Tryz.prog 56 [.pp 0 0, .sl 4] [.box [iV a0_0, .sl 1, .sl 2, .sl 3], rI a0_1, rB a0_2, oT a0_3, .row false (.intss .i64 a1)] (bV r.1) [.box [iV a0_0, .sl 1, .sl 2, .sl 5], rI a0_1, rB a0_2, .dead, .row false (.intss .i64 a1), oT r.2] := by
 unfold impl_State_readMessages at h
 refine FnA.ofA 42 [0, 1, 2, 3, 4] [.tmp 4] Tryz.func56 en56 ?_
 refine awp_move 3 [(0, .pp 0 0), (1, .sl 4)] [.box [iV a0_0, .sl 1, .sl 2, .sl 5], rI a0_1, rB a0_2, .dead, .row false (.intss .i64 a1), oT a0_3] (by rfl) (by rfl) (by exact rfl) ?_
 refine rg [] [] ?_
 refine awp_seq fun K38 hK38 => ?_
 refine rg [1] [(9, .sl 4), (10, iV (a1.length : Int)), (11, iV 0)] ?_
 refine awp_block ?_
 refine lp2 h (fun (t11, p0_3s) => [(0, .pp 0 0), (9, .sl 4), (10, iV (a1.length : Int)), (11, iV t11)]) (fun (t11, p0_3s) => [.box [iV a0_0, .sl 1, .sl 2, .sl 5], rI a0_1, rB a0_2, .dead, .row false (.intss .i64 a1), oT p0_3s]) (fun _ => Exit.exit 0) (fun p0_3s_1 => []) (fun p0_3s_1 => [.box [iV a0_0, .sl 1, .sl 2, .sl 5], rI a0_1, rB a0_2, .dead, .row false (.intss .i64 a1), oT p0_3s_1]) (fun _ => Exit.ret) (fun p0_3s_2 => [(4, bV false)]) (fun p0_3s_2 => [.box [iV a0_0, .sl 1, .sl 2, .sl 5], rI a0_1, rB a0_2, .dead, .row false (.intss .i64 a1), oT p0_3s_2]) ?_ ?_ ?_
 ·rintro ⟨t11, p0_3s⟩ r h
  unfold impl_State_readMessages_b0 at h
  try dsimp only
  refine rg [] [(12, bV (decide (t11 < (a1.length : Int))))] ?_
  refine awp_seq fun K64 hK64 => ?_
  refine awp_if h ?_ ?_ <;> intro hc h
  ·refine sk hK64 ?_
   refine awp_seq fun K70 hK70 => ?_
   refine awp_block ?_
   replace h := chk_some h
   obtain ⟨hpt74, h⟩ := h
   refine awp_take 4 t11.toNat 0 (by rfl) (by exact hpt74) (by rfl) (by exact rfl) ?_
   clear hpt74
   replace ⟨p, h⟩ := k1 h
   refine rg [12] [(6, .sl 6)] ?_
   refine awp_put 4 6 (by rfl) (by rfl) (Cont.setChild_self (by rfl)) (by exact rfl) ?_
   replace ⟨y, y_1, hr0, h⟩ := bd2 h
   refine rc [6] [(7, .sl 7), (8, bV y_1)] [] [oI y] [⟨1, [6], k_impl_numbersBehind hr0⟩] ?_
   refine awp_seq fun K72 hK72 => ?_
   refine rg [8] [(21, bV (!y_1))] ?_
   refine awp_if h ?_ ?_ <;> intro hc h
   ·refine rg [0, 7, 9, 10, 11, 21] [(4, bV false)] ?_
    exact lors [0, 1, 2, 3, 4, 5]
   refine sk hK72 ?_
   refine awp_freezeRow 7 (by rfl) (by rfl) (by first | exact rfl | (simp only [List.map_cons, List.map_nil, List.set_cons_succ, List.set_cons_zero, AObj.unview, reduceCtorEq, ↓reduceIte, Nat.reduceEqDiff]; exact rfl)) ?_
   replace ⟨p, h⟩ := k4 h
   refine pe [0, 1, 2, 3, 4, 6, 7] (.free 0 (.free 1 (.free 2 (.free 3 (.free 5 (.free 6 (.free 8 (.free 9 (.free 11 (.free 12 (.free 7 (.free 10 (.free 13 (.free 14 (.two 4 15 (.one 15 (.one 16 (.one 17 (.one 18 (.one 19 .fin))))) (.one 4 (.one 16 (.one 17 (.one 18 (.one 19 .fin)))))))))))))))))))) [7, 21] [] [(5, oT (p0_3s ++ [((y.getD 0 0), (y.getD 1 0), (y.getD 2 0))]))] [oT [((y.getD 0 0), (y.getD 1 0), (y.getD 2 0))]] ?_
   refine hK70 _ _ ?_
   replace ⟨p, h⟩ := k1 h
   refine eg [11] [(11, iV (t11 + 1))] ?_
   exact lns [0, 1, 2, 3, 4, 5]
  exact lo
 ·rintro p0_3s_1 h
  try dsimp only
  refine hK38 _ _ ?_
  refine rg [] [(4, bV true)] ?_
  exact fr [0, 1, 2, 3, 4, 5]
 rintro p0_3s_2 h
 try dsimp only
 exact fr [0, 1, 2, 3, 4, 5]
theorem k_impl_checkpointAt {a0 r} (h : impl_checkpointAt a0 = some r) : KA Tryz.prog 27 [.sl 0] [.row false (.intss .i64 a0)] (.tup [.agg [iV r.1, .sl 1, .sl 2, .sl 3], bV r.2.2.2.2]) [.row false (.intss .i64 a0), oI r.2.1, oB r.2.2.1, oT r.2.2.2.1] := by
 unfold impl_checkpointAt at h
 refine FnA.ofA 78 [0] [.cell 2 27, .tmp 3] Tryz.func27 en27 ?_
 refine rm [] [(2, .pp 1 0)] [] [.box [iV 0, nV, nV, nV]] ?_
 replace h := chk_some h
 obtain ⟨hpt15, h⟩ := h
 refine awp_take 0 0 0 (by rfl) (by exact hpt15) (by rfl) (by exact rfl) ?_
 clear hpt15
 replace ⟨p, h⟩ := k1 h
 replace ⟨y, y_1, hr1, h⟩ := bd2 h
 have c0 := cm [2] (k_impl_numbersBehind hr1)
 refine rm [] [(4, .sl 3), (5, bV y_1)] [] [oI y] ?_
 refine awp_seq fun K2 hK2 => ?_
 refine awp_put 0 2 (by rfl) (by rfl) (Cont.setChild_self (by rfl)) (by exact rfl) ?_
 refine rg [5] [(19, bV (!y_1))] ?_
 refine awp_if h ?_ ?_ <;> intro hc h
 ·refine rg [0, 4, 19] [(3, bV false)] ?_
  refine nc 1 1 (.ints .i64 []) ?_
  refine nc 1 2 (.bools []) ?_
  refine nc 1 3 (.trips []) ?_
  exact fr [0, 4, 5, 6]
 refine sk hK2 ?_
 replace ⟨p, h⟩ := k2 h
 refine qg [19] [(6, iV (y.getD 1 0)), (7, iV (y.getD 2 0))] ?_
 refine awp_seq fun K5 hK5 => ?_
 replace ⟨p, h⟩ := k2 h
 refine rg [] [(33, bV (decide ((a0.length : Int) < (((y.getD 1 0) + (y.getD 2 0)) + 2))))] ?_
 refine awp_if h ?_ ?_ <;> intro hc h
 ·refine rg [0, 4, 6, 7, 33] [(3, bV false)] ?_
  refine nc 1 1 (.ints .i64 []) ?_
  refine nc 1 2 (.bools []) ?_
  refine nc 1 3 (.trips []) ?_
  exact fr [0, 4, 5, 6]
 refine sk hK5 ?_
 replace ⟨p, h⟩ := k1 h
 refine rm [4, 33] [(8, .pp 4 0)] [] [.box [iV (y.getD 0 0), nV, nV, nV]] ?_
 refine awp_seq fun K8 hK8 => ?_
 refine nc 1 1 (.ints .i64 []) ?_
 refine nc 1 2 (.bools []) ?_
 refine nc 1 3 (.trips []) ?_
 refine nc 4 1 (.ints .i64 []) ?_
 refine nc 4 2 (.bools []) ?_
 refine nc 4 3 (.trips []) ?_
 replace ⟨p, h⟩ := k2 h
 replace ⟨y_2, y_3, y_4, hr2, h⟩ := bd3 h
 cases y_2
 ·replace h := bite_f h rfl
  have c0 := cm [4, 8, 9, 10, 11] (k_impl_State_readValues hr2)
  refine rm [] [(56, bV true)] [(4, .box [iV (y.getD 0 0), .sl 12, .sl 13, .sl 10]), (3, .dead), (0, .dead)] [.row false (.intss .i64 ((a0.take ((1 + (y.getD 1 0)).toNat)).drop 1)), oI y_3, oB y_4] ?_
  refine awp_cond (t := 56) rfl (fun _ => ?_) (fun hc => by cases hc)
  refine rm [0, 6, 7, 8, 56] [(3, bV false)] [(1, .box [iV 0, nV, nV, nV])] [] ?_
  refine nc 1 1 (.ints .i64 []) ?_
  refine nc 1 2 (.bools []) ?_
  refine nc 1 3 (.trips []) ?_
  exact fr [0, 14, 15, 16]
 replace h := bite_t h rfl
 replace ⟨pa, h⟩ := k2 h
 replace ⟨y_5, y_6, hr5, h⟩ := bd2 h
 have c0 := cm [4, 8, 9, 10, 11] (k_impl_State_readValues hr2)
 have c1 := cm [4, 12, 13, 10, 14] (k_impl_State_readMessages hr5)
 refine rm [] [(56, bV (!y_5))] [(4, .box [iV (y.getD 0 0), .sl 12, .sl 13, .sl 15]), (3, .dead), (0, .dead), (0, .dead)] [.row false (.intss .i64 ((a0.take ((1 + (y.getD 1 0)).toNat)).drop 1)), oI y_3, oB y_4, .row false (.intss .i64 ((a0.take (((1 + (y.getD 1 0)) + (y.getD 2 0)).toNat)).drop ((1 + (y.getD 1 0)).toNat))), oT y_6] ?_
 refine awp_if h ?_ ?_ <;> intro hc h
 ·refine rm [0, 6, 7, 8, 56] [(3, bV false)] [(1, .box [iV 0, nV, nV, nV])] [] ?_
  refine nc 1 1 (.ints .i64 []) ?_
  refine nc 1 2 (.bools []) ?_
  refine nc 1 3 (.trips []) ?_
  exact fr [0, 16, 17, 18]
 refine sk hK8 ?_
 refine awp_seq fun K12 hK12 => ?_
 replace h := chk_some h
 obtain ⟨hpt14, h⟩ := h
 refine awp_take 0 (((1 + (y.getD 1 0)) + (y.getD 2 0)).toNat) 0 (by rfl) (by exact hpt14) (by rfl) (by exact rfl) ?_
 clear hpt14
 replace ⟨p, h⟩ := k3 h
 replace ⟨y_7, y_8, hr3, h⟩ := bd2 h
 have c0 := cm [16] (k_impl_numbersBehind hr3)
 refine rm [0, 6, 7, 56] [(10, bV y_8)] [] [oI y_7] ?_
 refine awp_put 0 16 (by rfl) (by rfl) (Cont.setChild_self (by rfl)) (by exact rfl) ?_
 cases y_8
 ·replace h := bite_f h rfl
  refine rg [10] [(75, bV true)] ?_
  refine awp_cond (t := 75) rfl (fun _ => ?_) (fun hc => by cases hc)
  refine rm [8, 75] [(3, bV false)] [(1, .box [iV 0, nV, nV, nV])] [] ?_
  refine nc 1 1 (.ints .i64 []) ?_
  refine nc 1 2 (.bools []) ?_
  refine nc 1 3 (.trips []) ?_
  exact fr [0, 18, 19, 20]
 replace h := bite_t h rfl
 replace ⟨y_9, hr0, h⟩ := bd h
 have c0 := cm [12, 13, 15] (k_impl_State_ownValid hr0)
 refine rm [10] [(75, bV (!y_9))] [] [] ?_
 refine awp_if h ?_ ?_ <;> intro hc h
 ·refine rm [8, 75] [(3, bV false)] [(1, .box [iV 0, nV, nV, nV])] [] ?_
  refine nc 1 1 (.ints .i64 []) ?_
  refine nc 1 2 (.bools []) ?_
  refine nc 1 3 (.trips []) ?_
  exact fr [0, 18, 19, 20]
 refine sk hK12 ?_
 refine rm [8, 75] [(3, bV true)] [(1, .box [iV (y.getD 0 0), .sl 12, .sl 13, .sl 15])] [] ?_
 exact fr [0, 12, 13, 15]
theorem k_impl_LastCheckpoint {a0 r} (h : impl_LastCheckpoint a0 = some r) : KA Tryz.prog 10 [.sl 0] [.row false (.intss .i64 a0)] (.tup [.agg [iV r.1, .sl 1, .sl 2, .sl 3], bV r.2.2.2.2]) [.row false (.intss .i64 a0), oI r.2.1, oB r.2.2.1, oT r.2.2.2.1] := by
 unfold impl_LastCheckpoint at h
 refine FnA.ofA 28 [0] [.cell 2 27, .tmp 3] Tryz.func10 en10 ?_
 refine rm [] [(2, .pp 1 0)] [] [.box [iV 0, nV, nV, nV]] ?_
 refine awp_seq fun K2 hK2 => ?_
 refine rg [] [(9, bV (decide (2000 < (a0.length : Int))))] ?_
 refine awp_if h ?_ ?_ <;> intro hc h
 ·refine rg [0, 9] [(3, bV false)] ?_
  refine nc 1 1 (.ints .i64 []) ?_
  refine nc 1 2 (.bools []) ?_
  refine nc 1 3 (.trips []) ?_
  exact fr [0, 2, 3, 4]
 refine sk hK2 ?_
 refine awp_seq fun K23 hK23 => ?_
 replace ⟨p, h⟩ := k1 h
 refine rg [9] [(4, iV ((a0.length : Int) - 1))] ?_
 refine awp_block ?_
 refine lp2 h (fun t4 => [(0, .sl 0), (2, .pp 1 0), (4, iV t4)]) (fun t4 => [.row false (.intss .i64 a0), .box [iV 0, nV, nV, nV]]) (fun _ => Exit.exit 0) (fun _ => [(2, .pp 1 0)]) (fun _ => [.row false (.intss .i64 a0), .box [iV 0, nV, nV, nV]]) (fun _ => Exit.ret) (fun (t2_0, t2_1s, t2_2s, t2_3s) => [(2, .pp 1 0), (3, bV true)]) (fun (t2_0, t2_1s, t2_2s, t2_3s) => [.row false (.intss .i64 a0), .box [iV t2_0, .sl 2, .sl 3, .sl 4], oI t2_1s, oB t2_2s, oT t2_3s]) ?_ ?_ ?_
 ·rintro t4 r h
  unfold impl_LastCheckpoint_b0 at h
  try dsimp only
  refine awp_seq fun K37 hK37 => ?_
  refine rg [] [(15, bV (decide (0 ≤ t4)))] ?_
  refine awp_if h ?_ ?_ <;> intro hc h
  ·refine sk hK37 ?_
   refine awp_seq fun K40 hK40 => ?_
   refine awp_block ?_
   replace ⟨p, h⟩ := k1 h
   replace ⟨y, y_1, y_2, y_3, y_4, hr1, h⟩ := bd5 h
   refine rc [15] [(5, .pp 6 0), (6, bV y_4)] [] [.row false (.intss .i64 ((a0.take a0.length).drop t4.toNat)), oI y_1, oB y_2, oT y_3, .box [iV y, .sl 3, .sl 4, .sl 5]] [⟨3, [2], k_impl_checkpointAt hr1⟩] ?_
   refine rg [6] [(25, bV y_4)] ?_
   refine awp_if h ?_ ?_ <;> intro hc h
   ·refine rm [0, 4, 5, 25] [(3, bV true)] [(1, .box [iV y, .sl 3, .sl 4, .sl 5])] [] ?_
    exact lors [0, 1, 3, 4, 5]
   refine sk hK40 ?_
   replace ⟨p, h⟩ := k1 h
   refine eg [4, 5, 25] [(4, iV (t4 - 1))] ?_
   exact lns [0, 1]
  exact lo
 ·rintro ⟨⟩ h
  try dsimp only
  refine hK23 _ _ ?_
  refine rg [] [(3, bV false)] ?_
  refine nc 1 1 (.ints .i64 []) ?_
  refine nc 1 2 (.bools []) ?_
  refine nc 1 3 (.trips []) ?_
  exact fr [0, 2, 3, 4]
 rintro ⟨t2_0, t2_1s, t2_2s, t2_3s⟩ h
 try dsimp only
 exact fr [0, 2, 3, 4]
theorem k_laws_sameFlags {a0 a1 r} (h : laws_sameFlags a0 a1 = some r) : KA Tryz.prog 29 [.sl 0, .sl 1] [rB a0, rB a1] (bV r) [rB a0, rB a1] := by
 unfold laws_sameFlags at h
 refine FnA.ofA 26 [0, 1] [.tmp 4] Tryz.func29 en29 ?_
 refine rg [] [] ?_
 refine awp_seq fun K2 hK2 => ?_
 refine rg [] [(10, bV ((a0.length : Int) != (a1.length : Int)))] ?_
 refine awp_if h ?_ ?_ <;> intro hc h
 ·refine rg [0, 1, 10] [(4, bV false)] ?_
  exact fr [0, 1]
 refine sk hK2 ?_
 refine awp_seq fun K23 hK23 => ?_
 refine rg [10] [(5, iV 0)] ?_
 refine awp_block ?_
 refine lp2 h (fun t5 => [(0, .sl 0), (1, .sl 1), (5, iV t5)]) (fun t5 => [rB a0, rB a1]) (fun _ => Exit.exit 0) (fun _ => []) (fun _ => [rB a0, rB a1]) (fun _ => Exit.ret) (fun _ => [(4, bV false)]) (fun _ => [rB a0, rB a1]) ?_ ?_ ?_
 ·rintro t5 r h
  unfold laws_sameFlags_b0 at h
  try dsimp only
  refine awp_seq fun K37 hK37 => ?_
  refine rg [] [(14, bV (decide (t5 < (a0.length : Int))))] ?_
  refine awp_if h ?_ ?_ <;> intro hc h
  ·refine sk hK37 ?_
   refine awp_seq fun K40 hK40 => ?_
   refine awp_block ?_
   replace ⟨p, h⟩ := k2 h
   refine qg [14] [(25, bV (!((a0.getD t5.toNat false) == (a1.getD t5.toNat false))))] ?_
   refine awp_if h ?_ ?_ <;> intro hc h
   ·refine rg [0, 1, 5, 25] [(4, bV false)] ?_
    exact lor
   refine sk hK40 ?_
   replace ⟨p, h⟩ := k1 h
   refine eg [5, 25] [(5, iV (t5 + 1))] ?_
   exact ln
  exact lo
 ·rintro ⟨⟩ h
  try dsimp only
  refine hK23 _ _ ?_
  refine rg [] [(4, bV true)] ?_
  exact fr [0, 1]
 rintro ⟨⟩ h
 try dsimp only
 exact fr [0, 1]
theorem k_laws_sameMessages {a0 a1 r} (h : laws_sameMessages a0 a1 = some r) : KA Tryz.prog 30 [.sl 0, .sl 1] [rT a0, rT a1] (bV r) [rT a0, rT a1] := by
 unfold laws_sameMessages at h
 refine FnA.ofA 26 [0, 1] [.tmp 4] Tryz.func30 en30 ?_
 refine rg [] [] ?_
 refine awp_seq fun K2 hK2 => ?_
 refine rg [] [(10, bV ((a0.length : Int) != (a1.length : Int)))] ?_
 refine awp_if h ?_ ?_ <;> intro hc h
 ·refine rg [0, 1, 10] [(4, bV false)] ?_
  exact fr [0, 1]
 refine sk hK2 ?_
 refine awp_seq fun K23 hK23 => ?_
 refine rg [10] [(5, iV 0)] ?_
 refine awp_block ?_
 refine lp2 h (fun t5 => [(0, .sl 0), (1, .sl 1), (5, iV t5)]) (fun t5 => [rT a0, rT a1]) (fun _ => Exit.exit 0) (fun _ => []) (fun _ => [rT a0, rT a1]) (fun _ => Exit.ret) (fun _ => [(4, bV false)]) (fun _ => [rT a0, rT a1]) ?_ ?_ ?_
 ·rintro t5 r h
  unfold laws_sameMessages_b0 at h
  try dsimp only
  refine awp_seq fun K37 hK37 => ?_
  refine rg [] [(14, bV (decide (t5 < (a0.length : Int))))] ?_
  refine awp_if h ?_ ?_ <;> intro hc h
  ·refine sk hK37 ?_
   refine awp_seq fun K40 hK40 => ?_
   refine awp_block ?_
   replace ⟨p, h⟩ := k2 h
   refine qg [14] [(25, bV (!(((a0.getD t5.toNat (0, 0, 0)).1 == (a1.getD t5.toNat (0, 0, 0)).1) && (((a0.getD t5.toNat (0, 0, 0)).2.1 == (a1.getD t5.toNat (0, 0, 0)).2.1) && ((a0.getD t5.toNat (0, 0, 0)).2.2 == (a1.getD t5.toNat (0, 0, 0)).2.2)))))] ?_
   refine awp_if h ?_ ?_ <;> intro hc h
   ·refine rg [0, 1, 5, 25] [(4, bV false)] ?_
    exact lor
   refine sk hK40 ?_
   replace ⟨p, h⟩ := k1 h
   refine eg [5, 25] [(5, iV (t5 + 1))] ?_
   exact ln
  exact lo
 ·rintro ⟨⟩ h
  try dsimp only
  refine hK23 _ _ ?_
  refine rg [] [(4, bV true)] ?_
  exact fr [0, 1]
 rintro ⟨⟩ h
 try dsimp only
 exact fr [0, 1]
theorem k_laws_sameState {a0_0 a0_1 a0_2 a0_3 a1_0 a1_1 a1_2 a1_3 r} (h : laws_sameState a0_0 a0_1 a0_2 a0_3 a1_0 a1_1 a1_2 a1_3 = some r) : KA Tryz.prog 12 [.agg [iV a0_0, .sl 0, .sl 1, .sl 2], .agg [iV a1_0, .sl 3, .sl 4, .sl 5]] [rI a0_1, rB a0_2, rT a0_3, rI a1_1, rB a1_2, rT a1_3] (bV r) [rI a0_1, rB a0_2, rT a0_3, rI a1_1, rB a1_2, rT a1_3] := by
 unfold laws_sameState at h
 refine FnA.ofA 31 [0, 1, 2, 3, 4, 5] [.tmp 4] Tryz.func12 en12 ?_
 refine rm [0, 1] [(2, .pp 6 0), (3, .pp 7 0)] [] [.box [iV a0_0, .sl 0, .sl 1, .sl 2], .box [iV a1_0, .sl 3, .sl 4, .sl 5]] ?_
 refine fz 2 ?_
 refine fz 3 ?_
 replace ⟨y, hr0, h⟩ := bd h
 replace ⟨y_1, hr1, h⟩ := bd h
 replace ⟨y_2, hr2, h⟩ := bd h
 refine awp_t [2, 3] [(4, bV ((((a0_0 == a1_0) && y) && y_1) && y_2))] [] [] ?_ ?_
 ·intro K hK
  refine awp_regionA ?_
  have c0 := cm [0, 3] (fun g0 => k_laws_sameInts (bite_t hr0 g0))
  refine wc 12 [(2, .pp 6 0), (3, .pp 7 0), (16, bV ((a0_0 == a1_0) && y))] [rI a0_1, rB a0_2, rT a0_3, rI a1_1, rB a1_2, rT a1_3, .rbox [iV a0_0, .sl 0, .sl 1, .sl 2], .rbox [iV a1_0, .sl 3, .sl 4, .sl 5]] ?_
  have c0 := cm [1, 4] (fun g0 => k_laws_sameFlags (bite_t hr1 g0))
  refine wc 7 [(2, .pp 6 0), (3, .pp 7 0), (23, bV (((a0_0 == a1_0) && y) && y_1))] [rI a0_1, rB a0_2, rT a0_3, rI a1_1, rB a1_2, rT a1_3, .rbox [iV a0_0, .sl 0, .sl 1, .sl 2], .rbox [iV a1_0, .sl 3, .sl 4, .sl 5]] ?_
  have c0 := cm [2, 5] (fun g0 => k_laws_sameMessages (bite_t hr2 g0))
  exact vs
 exact fr [0, 1, 2, 3, 4, 5]
theorem k_impl_bodiesOf_v7 {a0_0 a0_1 a0_2 a0_3 r} (h : impl_bodiesOf_v7 a0_0 a0_1 a0_2 a0_3 = some r) : KA Tryz.prog 32 [.agg [iV a0_0, .sl 0, .sl 1, .sl 2]] [rI a0_1, rB a0_2, rT a0_3, .rbox [iV a0_0, .sl 0, .sl 1, .sl 2], .row true (.intss .i64 (List.replicate 0 [])), .box [.sl 4]] (.ip 6 (.clo 59)) [rI a0_1, rB a0_2, rT a0_3, .rbox [iV a0_0, .sl 0, .sl 1, .sl 2], .row true (.intss .i64 (List.replicate 0 [])), .box [.sl 4], .rbox [iV r, .sl 0, .sl 1, .sl 2]] := by
 unfold impl_bodiesOf_v7 at h
 refine FnA.ofA 4 [0, 1, 2, 3, 4, 5] [.tmp 2] Tryz.func32 en32 ?_
 refine rm [0] [(1, .pp 6 0)] [] [.box [iV a0_0, .sl 0, .sl 1, .sl 2]] ?_
 refine fz 1 ?_
 refine rg [1] [(2, .ip 6 (.clo 59))] ?_
 exact fr [0, 1, 2, 3, 4, 5, 6]
theorem k_impl_StateBodies {a0_0 a0_1 a0_2 a0_3 r} (h : impl_StateBodies a0_0 a0_1 a0_2 a0_3 = some r) : KA Tryz.prog 14 [.agg [iV a0_0, .sl 0, .sl 1, .sl 2]] [rI a0_1, rB a0_2, rT a0_3] (.sl 3) [rI a0_1, rB a0_2, rT a0_3, .row true (.intss .i64 r)] := by
 unfold impl_StateBodies at h
 refine FnA.ofA 25 [0, 1, 2] [.tmp 2] Tryz.func14 en14 ?_
 refine rm [0] [(1, .pp 3 0)] [] [.box [iV a0_0, .sl 0, .sl 1, .sl 2]] ?_
 refine fz 1 ?_
 refine awp_seq fun K2 hK2 => ?_
 replace ⟨y, hr0, h⟩ := bd h
 refine rc [] [(7, bV (!y))] [] [] [⟨1, [0, 1, 2], k_impl_State_ownValid hr0⟩] ?_
 refine awp_if h ?_ ?_ <;> intro hc h
 ·refine rg [1, 7] [(2, nV)] ?_
  refine awp_red (Red.nil (t := 2) (.intss .i64 []) rfl rfl) ?_
  exact fr [0, 1, 2, 4]
 refine sk hK2 ?_
 replace ⟨p, h⟩ := k3 h
 refine rm [7] [(3, .pp 5 0)] [] [.row true (.intss .i64 (List.replicate 0 [])), .box [.sl 4]] ?_
 refine awp_seq fun K5 hK5 => ?_
 replace ⟨y_1, hr0, h⟩ := bd h
 have d0 := k_impl_bodiesOf_v7 hr0
 refine rm [1] [(18, .ip 6 (.clo 59))] [] [.rbox [iV y_1, .sl 0, .sl 1, .sl 2]] ?_
 refine awp_block ?_
 replace h := bind_some h
 obtain ⟨u6, hx, h⟩ := h
 refine awp_rangeL (f := impl_StateBodies_r0) (s0 := (List.replicate 0 [])) (u' := u6) [0, 1, 2, 3, 5] [(3, .pp 3 0), (18, .ip 5 (.clo 59))] (fun (t3_0s : List (List Int)) => [rI a0_1, rB a0_2, rT a0_3, .box [.sl 4], .row true (.intss .i64 t3_0s), .rbox [iV y_1, .sl 0, .sl 1, .sl 2]]) (fun x => x.elim) (fun x => x.elim) (fun x => [(3, .pp 3 0), (4, .sl 7), (18, .ip 5 (.clo 59))]) [5, 0, 1, 2] [.rbox [iV y_1, .sl 2, .sl 3, .sl 4], rI a0_1, rB a0_2, rT a0_3] (fun x => [.sl 0]) (fun x => [oI x]) 6 (fun l Φ hY => k_impl_bodiesOf_1 (Φ := Φ) (l := l) y_1 a0_1 a0_2 a0_3 _ _ (hY := hY) (h := hx)) ?_ ?_ ?_ ?_ ?_ (hnf := by rintro t3_0s; rfl) (hlx := fun x => x.elim) (hnx := fun x => x.elim) (hJ := fun x => x.elim)
 ·exact Red.selA [0, 1, 2, 5, 4, 6] Red.auto
 ·rintro l x t3_0s Ψ
  have h := trivial
  refine awp_at [(19, .sl 7), (3, .pp 3 0), (18, .ip 5 (.clo 59))] [rI a0_1, rB a0_2, rT a0_3, .box [.sl 4], .row true (.intss .i64 t3_0s), .rbox [iV y_1, .sl 0, .sl 1, .sl 2], .ext Ψ, oI x] ?_
  refine eg [19] [(4, .sl 7)] ?_
  exact RQ.asg [(3, .pp 3 0), (4, .sl 7), (18, .ip 5 (.clo 59))] [rI a0_1, rB a0_2, rT a0_3, .box [.sl 4], .row true (.intss .i64 t3_0s), .rbox [iV y_1, .sl 0, .sl 1, .sl 2], .ext Ψ, oI x] Red.auto
 ·rintro l x t3_0s u' Ψ h
  unfold impl_StateBodies_r0 at h
  refine awp_at [(3, .pp 3 0), (4, .sl 7), (18, .ip 5 (.clo 59))] [rI a0_1, rB a0_2, rT a0_3, .box [.sl 4], .row true (.intss .i64 t3_0s), .rbox [iV y_1, .sl 0, .sl 1, .sl 2], .ext Ψ, oI x] ?_
  refine awp_block ?_
  replace ⟨p, h⟩ := k1 h
  refine em [4] [] [(4, .tak true (.intss .i64 (t3_0s ++ [[]])) t3_0s.length 0 (some 7))] [.tak true (.intss .i64 [[]]) 0 0 (some 7)] ?_
  refine nm ?_
  obtain rfl := Option.some.inj h
  refine RQ.next [rI a0_1, rB a0_2, rT a0_3, .box [.sl 4], .row true (.intss .i64 ((t3_0s ++ [[]]).set t3_0s.length x)), .rbox [iV y_1, .sl 0, .sl 1, .sl 2], .ext Ψ] ?_
  refine Red.trans (Red.put 4 7 (by rfl) (by rfl) (by rfl)) ?_
  exact Red.selA [0, 1, 2, 3, 4, 5, 6] Red.auto
 ·rintro t3_0s rfl
  try dsimp only [Sum.elim_inl, Sum.elim_inr] at h
  try simp only [Thn, InBlk, exitOf, ↓reduceIte, Nat.reduceEqDiff, Sum.elim_inl, Sum.elim_inr, List.cons_append, List.nil_append]
  refine hK5 _ _ ?_
  refine rg [3, 18] [(2, .sl 4)] ?_
  exact fr [0, 1, 2, 4]
 exact fun x => x.elim
theorem k_laws_sameRecords {a0 a1 r} (h : laws_sameRecords a0 a1 = some r) : KA Tryz.prog 13 [.sl 0, .sl 1] [.row false (.intss .i64 a0), .row false (.intss .i64 a1)] (bV r) [.row false (.intss .i64 a0), .row false (.intss .i64 a1)] := by
 unfold laws_sameRecords at h
 refine FnA.ofA 27 [0, 1] [.tmp 4] Tryz.func13 en13 ?_
 refine rg [] [] ?_
 refine awp_seq fun K2 hK2 => ?_
 refine rg [] [(10, bV ((a0.length : Int) != (a1.length : Int)))] ?_
 refine awp_if h ?_ ?_ <;> intro hc h
 ·refine rg [0, 1, 10] [(4, bV false)] ?_
  exact fr [0, 1]
 refine sk hK2 ?_
 refine awp_seq fun K35 hK35 => ?_
 refine rg [10] [(5, iV 0)] ?_
 refine awp_block ?_
 refine lp2 h (fun t5 => [(0, .sl 0), (1, .sl 1), (5, iV t5)]) (fun t5 => [.row false (.intss .i64 a0), .row false (.intss .i64 a1)]) (fun _ => Exit.exit 0) (fun _ => []) (fun _ => [.row false (.intss .i64 a0), .row false (.intss .i64 a1)]) (fun _ => Exit.ret) (fun _ => [(4, bV false)]) (fun _ => [.row false (.intss .i64 a0), .row false (.intss .i64 a1)]) ?_ ?_ ?_
 ·rintro t5 r h
  unfold laws_sameRecords_b0 at h
  try dsimp only
  refine awp_seq fun K57 hK57 => ?_
  refine rg [] [(14, bV (decide (t5 < (a0.length : Int))))] ?_
  refine awp_if h ?_ ?_ <;> intro hc h
  ·refine sk hK57 ?_
   refine awp_seq fun K62 hK62 => ?_
   refine awp_block ?_
   replace h := chk_some h
   obtain ⟨hpt65, h⟩ := h
   refine awp_take 0 t5.toNat 0 (by rfl) (by exact hpt65) (by rfl) (by exact rfl) ?_
   clear hpt65
   replace h := chk_some h
   obtain ⟨hpt64, h⟩ := h
   refine awp_take 1 t5.toNat 0 (by rfl) (by exact hpt64) (by rfl) (by exact rfl) ?_
   clear hpt64
   replace ⟨p, h⟩ := k2 h
   replace ⟨y, hr2, h⟩ := bd h
   have c0 := cm [2, 3] (k_laws_sameInts hr2)
   refine dm (.free 0 (.free 1 (.free 4 (.free 5 (.two 2 6 (.two 3 6 (.one 6 (.one 7 (.one 8 (.one 9 .fin)))) (.two 3 7 (.one 7 (.one 8 (.one 9 .fin))) (.one 3 (.one 8 (.one 9 .fin))))) (.two 2 7 (.two 3 7 (.one 7 (.one 8 (.one 9 .fin))) (.one 3 (.one 8 (.one 9 .fin)))) (.one 2 (.one 3 (.one 8 (.one 9 .fin)))))))))) [14] [(26, bV (!y))] [] [] ?_
   refine awp_if h ?_ ?_ <;> intro hc h
   ·refine awp_put 0 2 (by rfl) (by rfl) (Cont.setChild_self (by rfl)) (by exact rfl) ?_
    refine awp_put 1 3 (by rfl) (by rfl) (Cont.setChild_self (by rfl)) (by exact rfl) ?_
    refine rg [0, 1, 5, 26] [(4, bV false)] ?_
    exact lors [0, 1]
   refine sk hK62 ?_
   refine awp_put 0 2 (by rfl) (by rfl) (Cont.setChild_self (by rfl)) (by exact rfl) ?_
   refine awp_put 1 3 (by rfl) (by rfl) (Cont.setChild_self (by rfl)) (by exact rfl) ?_
   replace ⟨p, h⟩ := k1 h
   refine eg [5, 26] [(5, iV (t5 + 1))] ?_
   exact lns [0, 1]
  exact lo
 ·rintro ⟨⟩ h
  try dsimp only
  refine hK35 _ _ ?_
  refine rg [] [(4, bV true)] ?_
  exact fr [0, 1]
 rintro ⟨⟩ h
 try dsimp only
 exact fr [0, 1]
theorem k_laws_FnFreshDisk {a0 r} (h : laws_FnFreshDisk a0 = some r) : KA Tryz.prog 3 [.sl 0] [rY a0] (bV r) [rY a0] := by
 unfold laws_FnFreshDisk at h
 refine FnA.ofA 62 [0] [.tmp 2] Tryz.func3 en3 ?_
 refine rg [] [] ?_
 refine awp_seq fun K2 hK2 => ?_
 refine rg [] [(12, bV (decide (1048576 < (a0.length : Int))))] ?_
 refine awp_if h ?_ ?_ <;> intro hc h
 ·refine rg [0, 12] [(2, bV true)] ?_
  exact fr [0]
 refine sk hK2 ?_
 replace ⟨y, y_1, y_2, y_3, hr0, h⟩ := bd4 h
 refine rc [0, 12] [(3, .pp 4 0)] [] [oI y_1, oB y_2, oT y_3, .box [iV y, .sl 1, .sl 2, .sl 3]] [⟨1, [0], k_spec_DrawFreshDisk hr0⟩] ?_
 replace ⟨y_4, y_5, y_6, hr0, h⟩ := bd3 h
 refine rc [] [(4, .pp 7 0), (5, bV y_6)] [] [oI y_4, oI y_5, .box [.sl 5, .sl 6]] [⟨1, [1, 2, 3], k_impl_FreshDisk hr0⟩] ?_
 replace ⟨y_7, y_8, y_9, hr0, h⟩ := bd3 h
 refine rc [] [(6, .pp 10 0), (7, bV y_9)] [] [oI y_7, oI y_8, .box [.sl 8, .sl 9]] [⟨1, [1, 2, 3], k_spec_FreshDisk hr0⟩] ?_
 refine awp_seq fun K5 hK5 => ?_
 replace ⟨y_10, hr0, h⟩ := bd h
 have c0 := cm [5, 6, 8, 9] (k_laws_sameDisk hr0)
 refine rm [6, 7] [(33, bV ((!y_10) || (!(y_6 == y_9))))] [] [] ?_
 refine awp_if h ?_ ?_ <;> intro hc h
 ·refine rg [3, 4, 5, 33] [(2, bV false)] ?_
  exact fr [0]
 refine sk hK5 ?_
 refine awp_seq fun K8 hK8 => ?_
 refine rg [5, 33] [(35, bV (!y_6))] ?_
 refine awp_if h ?_ ?_ <;> intro hc h
 ·replace ⟨y_11, hr0, h⟩ := bd h
  have c0 := cm [] (fun g0 => k_laws_alive  (h := (bite_t hr0 g0)))
  refine rm [3, 4, 35] [(2, bV (((y_4.length : Int) == 0) && y_11))] [] [] ?_
  exact fr [0]
 refine sk hK8 ?_
 replace ⟨y_12, hr0, h⟩ := bd h
 replace ⟨y_13, y_14, y_15, y_16, y_17, hr1, h⟩ := bd5 h
 refine rc [35] [(8, .pp 15 0), (9, bV y_17)] [] [.row true (.intss .i64 y_12), oI y_14, oB y_15, oT y_16, .box [iV y_13, .sl 12, .sl 13, .sl 14]] [⟨1, [5, 6], k_impl_DiskRecords hr0⟩, ⟨0, [11], k_impl_LastCheckpoint hr1⟩] ?_
 replace ⟨y_18, hr0, h⟩ := bd h
 replace ⟨y_19, hr1, h⟩ := bd h
 replace ⟨y_20, hr2, h⟩ := bd h
 replace ⟨y_21, hr3, h⟩ := bd h
 refine awp_t [3, 4, 8, 9] [(2, bV ((y_17 && y_18) && y_21))] [] [] ?_ ?_
 ·intro K hK
  refine awp_drawT mixed ftCOk (.one 0 (.one 1 (.two 2 3 (.one 3 (.one 4 (.one 5 (.one 6 (.two 7 9 (.two 8 9 (.one 9 (.one 10 (.one 11 (.one 12 (.one 13 .fin))))) (.one 8 (.one 10 (.one 11 (.one 12 (.one 13 .fin)))))) (.one 7 (.one 8 (.one 10 (.one 11 (.one 12 (.one 13 .fin))))))))))) (.one 2 (.one 4 (.one 5 (.one 6 (.two 7 9 (.two 8 9 (.one 9 (.one 10 (.one 11 (.one 12 (.one 13 .fin))))) (.one 8 (.one 10 (.one 11 (.one 12 (.one 13 .fin)))))) (.one 7 (.one 8 (.one 10 (.one 11 (.one 12 (.one 13 .fin)))))))))))))) (by kernel_rfl) (by simp) ?_
  simp (maxSteps := 4000000) only [go_sem, Nat.reduceBEq, Nat.reduceLT, Nat.reduceAdd, Nat.reduceLeDiff, Nat.reduceSub, Nat.reduceEqDiff, Int.reduceToNat, reduceCtorEq, ↓reduceIte]
  repeat' (first | refine And.intro ?_ ?_ | intro hg)
  all_goals (try simp (disch := omega) only [wrap_fits])
  all_goals first
   | (refine hK _ _ ?_; exact Red.selA [0, 1, 2, 3, 4, 5, 6, 7, 8, 9, 10, 11, 12, 13, 14, 15] Red.auto)
   | exact al0
   | (refine OpK_callA (k_laws_sameState (bite_t hr0 byg)) [12, 13, 14, 1, 2, 3] [] ?_
      rintro x Hc' ⟨rfl, rfl⟩ hlen
      simp (maxSteps := 4000000) only [go_sem, Nat.reduceBEq, Nat.reduceLT, Nat.reduceAdd, Nat.reduceLeDiff, Nat.reduceSub, Nat.reduceEqDiff, Int.reduceToNat, reduceCtorEq, ↓reduceIte]
      repeat' (first | refine And.intro ?_ ?_ | intro hg)
      all_goals (try simp (disch := omega) only [wrap_fits])
      all_goals first
       | (refine hK _ _ ?_; exact Red.selA [0, 1, 2, 3, 4, 5, 6, 7, 8, 9, 10, 11, 12, 13, 14, 15] Red.auto)
       | exact al0
       | (refine OpK_callA (k_impl_DiskRecords (bite_t hr1 byg)) [5, 6] [] ?_
          rintro x Hc' ⟨rfl, rfl⟩ hlen
          exact au18)
       | (refine OpK_callA (k_impl_StateBodies (bite_t hr2 byg)) [1, 2, 3] [] ?_
          rintro x Hc' ⟨rfl, rfl⟩ hlen
          exact au17)
       | (refine OpK_callA (k_laws_sameRecords (bite_t hr3 byg)) [16, 17] [] ?_
          rintro x Hc' ⟨rfl, rfl⟩ hlen
          exact au15)
       | exact al1)
   | (refine OpK_callA (k_impl_DiskRecords (bite_t hr1 byg)) [5, 6] [] ?_
      rintro x Hc' ⟨rfl, rfl⟩ hlen
      exact au18)
   | (refine OpK_callA (k_impl_StateBodies (bite_t hr2 byg)) [1, 2, 3] [] ?_
      rintro x Hc' ⟨rfl, rfl⟩ hlen
      exact au17)
   | (refine OpK_callA (k_laws_sameRecords (bite_t hr3 byg)) [16, 17] [] ?_
      rintro x Hc' ⟨rfl, rfl⟩ hlen
      exact au15)
   | exact al1
 exact fr [0]
end Go.Proofs.YteoedigfnfjopaaGreat
