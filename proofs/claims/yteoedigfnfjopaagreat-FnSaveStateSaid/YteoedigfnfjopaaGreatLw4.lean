/- The code computes the functions that were taken out of it. -/
import Derived.Test.YteoedigfnfjopaaGreatLw3
set_option maxRecDepth 100000
set_option maxHeartbeats 4000000
set_option linter.unusedSimpArgs false
set_option linter.unusedVariables false
namespace Go.Proofs.YteoedigfnfjopaaGreat
open Go Go.Av
attribute [local irreducible] wpA OpK awp OpKI
theorem k_laws_sameMessages {a0 a1 r} (h : laws_sameMessages a0 a1 = some r) : KA Tryz.prog 30 [.sl 0, .sl 1] [rT a0, rT a1] (bV r) [rT a0, rT a1] := by
 unfold laws_sameMessages at h
 refine FnA.ofA 26 [0, 1] [.tmp 4] Tryz.func30 en30 ?_
 refine rg [] [] ?_
 refine awp_seq fun K2 hK2 => ?_
 refine rg [] [(10, bV ((a0.length : Int) != (a1.length : Int)))] ?_
 refine awp_if h ?_ ?_ <;> intro hc h
 ·refine rg [0, 1, 10] [(4, bV false)] ?_
  exact fr [0, 1]
 refine sk hK2 ?_
 refine awp_seq fun K23 hK23 => ?_
 refine rg [10] [(5, iV 0)] ?_
 refine awp_block ?_
 refine lp2 h (fun t5 => [(0, .sl 0), (1, .sl 1), (5, iV t5)]) (fun t5 => [rT a0, rT a1]) (fun _ => Exit.exit 0) (fun _ => []) (fun _ => [rT a0, rT a1]) (fun _ => Exit.ret) (fun _ => [(4, bV false)]) (fun _ => [rT a0, rT a1]) ?_ ?_ ?_
 ·rintro t5 r h
  unfold laws_sameMessages_b0 at h
  try dsimp only
  refine awp_seq fun K37 hK37 => ?_
  refine rg [] [(14, bV (decide (t5 < (a0.length : Int))))] ?_
  refine awp_if h ?_ ?_ <;> intro hc h
  ·refine sk hK37 ?_
   refine awp_seq fun K40 hK40 => ?_
   refine awp_block ?_
   replace ⟨p, h⟩ := k2 h
   refine qg [14] [(25, bV (!(((a0.getD t5.toNat (0, 0, 0)).1 == (a1.getD t5.toNat (0, 0, 0)).1) && (((a0.getD t5.toNat (0, 0, 0)).2.1 == (a1.getD t5.toNat (0, 0, 0)).2.1) && ((a0.getD t5.toNat (0, 0, 0)).2.2 == (a1.getD t5.toNat (0, 0, 0)).2.2)))))] ?_
   refine awp_if h ?_ ?_ <;> intro hc h
   ·refine rg [0, 1, 5, 25] [(4, bV false)] ?_
    exact lor
   refine sk hK40 ?_
   replace ⟨p, h⟩ := k1 h
   refine eg [5, 25] [(5, iV (t5 + 1))] ?_
   exact ln
  exact lo
 ·rintro ⟨⟩ h
  try dsimp only
  refine hK23 _ _ ?_
  refine rg [] [(4, bV true)] ?_
  exact fr [0, 1]
 rintro ⟨⟩ h
 try dsimp only
 exact fr [0, 1]
theorem k_laws_sameState {a0_0 a0_1 a0_2 a0_3 a1_0 a1_1 a1_2 a1_3 r} (h : laws_sameState a0_0 a0_1 a0_2 a0_3 a1_0 a1_1 a1_2 a1_3 = some r) : KA Tryz.prog 12 [.agg [iV a0_0, .sl 0, .sl 1, .sl 2], .agg [iV a1_0, .sl 3, .sl 4, .sl 5]] [rI a0_1, rB a0_2, rT a0_3, rI a1_1, rB a1_2, rT a1_3] (bV r) [rI a0_1, rB a0_2, rT a0_3, rI a1_1, rB a1_2, rT a1_3] := by
 unfold laws_sameState at h
 refine FnA.ofA 31 [0, 1, 2, 3, 4, 5] [.tmp 4] Tryz.func12 en12 ?_
 refine rm [0, 1] [(2, .pp 6 0), (3, .pp 7 0)] [] [.box [iV a0_0, .sl 0, .sl 1, .sl 2], .box [iV a1_0, .sl 3, .sl 4, .sl 5]] ?_
 refine fz 2 ?_
 refine fz 3 ?_
 replace ⟨y, hr0, h⟩ := bd h
 replace ⟨y_1, hr1, h⟩ := bd h
 replace ⟨y_2, hr2, h⟩ := bd h
 refine awp_t [2, 3] [(4, bV ((((a0_0 == a1_0) && y) && y_1) && y_2))] [] [] ?_ ?_
 ·intro K hK
  refine awp_regionA ?_
  have c0 := cm [0, 3] (fun g0 => k_laws_sameInts (bite_t hr0 g0))
  refine wc 12 [(2, .pp 6 0), (3, .pp 7 0), (16, bV ((a0_0 == a1_0) && y))] [rI a0_1, rB a0_2, rT a0_3, rI a1_1, rB a1_2, rT a1_3, .rbox [iV a0_0, .sl 0, .sl 1, .sl 2], .rbox [iV a1_0, .sl 3, .sl 4, .sl 5]] ?_
  have c0 := cm [1, 4] (fun g0 => k_laws_sameFlags (bite_t hr1 g0))
  refine wc 7 [(2, .pp 6 0), (3, .pp 7 0), (23, bV (((a0_0 == a1_0) && y) && y_1))] [rI a0_1, rB a0_2, rT a0_3, rI a1_1, rB a1_2, rT a1_3, .rbox [iV a0_0, .sl 0, .sl 1, .sl 2], .rbox [iV a1_0, .sl 3, .sl 4, .sl 5]] ?_
  have c0 := cm [2, 5] (fun g0 => k_laws_sameMessages (bite_t hr2 g0))
  exact vs
 exact fr [0, 1, 2, 3, 4, 5]
theorem k_laws_FnSaveState {a0 r} (h : laws_FnSaveState a0 = some r) : KA Tryz.prog 4 [.sl 0] [rY a0] (bV r) [rY a0] := by
 unfold laws_FnSaveState at h
 refine FnA.ofA 105 [0] [.tmp 2] Tryz.func4 en4 ?_
 refine rg [] [] ?_
 refine awp_seq fun K2 hK2 => ?_
 refine rg [] [(15, bV (decide (1048576 < (a0.length : Int))))] ?_
 refine awp_if h ?_ ?_ <;> intro hc h
 ·refine rg [0, 15] [(2, bV true)] ?_
  exact fr [0]
 refine sk hK2 ?_
 replace ⟨y, y_1, y_2, y_3, y_4, y_5, hr0, h⟩ := bd6 h
 refine rc [0, 15] [(3, .pp 6 0), (4, .pp 7 0)] [] [oI y, oI y_1, oI y_3, oB y_4, oT y_5, .box [.sl 1, .sl 2], .box [iV y_2, .sl 3, .sl 4, .sl 5]] [⟨1, [0], k_spec_DrawSaveState hr0⟩] ?_
 replace ⟨y_6, y_7, y_8, hr0, h⟩ := bd3 h
 refine rc [] [(5, .pp 10 0), (6, bV y_8)] [] [oI y_6, oI y_7, .box [.sl 8, .sl 9]] [⟨2, [1, 2, 3, 4, 5], k_impl_SaveState hr0⟩] ?_
 replace ⟨y_9, y_10, y_11, hr0, h⟩ := bd3 h
 refine rc [] [(7, .pp 13 0), (8, bV y_11)] [] [oI y_9, oI y_10, .box [.sl 11, .sl 12]] [⟨2, [1, 2, 3, 4, 5], k_spec_SaveState hr0⟩] ?_
 refine awp_seq fun K5 hK5 => ?_
 replace ⟨y_12, hr0, h⟩ := bd h
 have c0 := cm [8, 9, 11, 12] (k_laws_sameDisk hr0)
 refine rm [7, 8] [(41, bV ((!y_12) || (!(y_8 == y_11))))] [] [] ?_
 refine awp_if h ?_ ?_ <;> intro hc h
 ·refine rg [3, 4, 5, 6, 41] [(2, bV false)] ?_
  exact fr [0]
 refine sk hK5 ?_
 refine awp_seq fun K8 hK8 => ?_
 refine rg [6, 41] [(43, bV (!y_8))] ?_
 refine awp_if h ?_ ?_ <;> intro hc h
 ·replace ⟨p, h⟩ := k1 h
  replace ⟨y_13, hr1, h⟩ := bd h
  replace ⟨y_14, hr2, h⟩ := bd h
  refine awp_t [3, 4, 5, 43] [(2, bV (((((y_6.length : Int) + (y_7.length : Int)) == 0) || y_13) && y_14))] [] [] ?_ ?_
  ·intro K hK
   refine awp_regionA ?_
   have c0 := cm [8, 9, 1, 2] (fun g0 => k_laws_sameDisk (bite_t hr1 g0))
   refine wc 13 [(56, bV ((((y_6.length : Int) + (y_7.length : Int)) == 0) || y_13))] [rY a0, oI y, oI y_1, oI y_3, oB y_4, oT y_5, .box [.sl 1, .sl 2], .box [iV y_2, .sl 3, .sl 4, .sl 5], oI y_6, oI y_7, .box [.sl 8, .sl 9], oI y_9, oI y_10, .box [.sl 11, .sl 12]] ?_
   have c0 := cm [] (fun g0 => k_laws_alive  (h := (bite_t hr2 g0)))
   exact vs
  exact fr [0]
 refine sk hK8 ?_
 refine awp_freeze 3 (by rfl) (by rfl) (by first | exact rfl | (simp only [List.map_cons, List.map_nil, List.set_cons_succ, List.set_cons_zero, AObj.unview, reduceCtorEq, ↓reduceIte, Nat.reduceEqDiff]; exact rfl)) ?_
 replace ⟨p, h⟩ := k2 h
 replace ⟨y_15, y_16, hr2, h⟩ := bd2 h
 have c0 := cm [14] (k_impl_ScanFrames hr2)
 refine dm (.free 1 (.free 4 (.free 2 (.free 5 (.one 0 (.one 3 (.one 6 (.one 7 (.one 8 (.free 9 (.free 10 (.one 11 (.one 12 .fin))))))))))))) [43] [(10, iV y_16)] [] [oI (([] ++ y) ++ y_1), .row true (.intss .i64 y_15)] ?_
 replace ⟨y_17, y_18, hr0, h⟩ := bd2 h
 replace ⟨y_19, hr1, h⟩ := bd h
 replace ⟨y_20, y_21, y_22, y_23, y_24, hr2, h⟩ := bd5 h
 refine rc [] [(11, .pp 22 0), (12, bV y_24)] [] [oI y_17, oI y_18, .row true (.intss .i64 y_19), oI y_21, oB y_22, oT y_23, .box [iV y_20, .sl 19, .sl 20, .sl 21]] [⟨1, [8, 9], k_impl_DiskCrash hr0⟩, ⟨0, [16, 17], k_impl_DiskRecords hr1⟩, ⟨0, [18], k_impl_LastCheckpoint hr2⟩] ?_
 replace ⟨y_25, hr0, h⟩ := bd h
 replace ⟨hp1, h⟩ := k1 h
 replace ⟨y_26, hr2, h⟩ := bd h
 refine awp_t [3, 4, 5, 10, 11, 12] [(2, bV ((y_25 && ((y_7.length : Int) == 0)) && ((decide (y_16 < ((y.length : Int) + (y_1.length : Int)))) || (y_24 && y_26))))] [] [] ?_ ?_
 ·intro K hK
  refine awp_regionA ?_
  have c0 := cm [8, 9] (k_impl_DiskValid hr0)
  refine wc 8 [(3, .pp 6 0), (4, .pp 7 0), (10, iV y_16), (11, .pp 22 0), (12, bV y_24), (85, bV (y_25 && ((y_7.length : Int) == 0)))] [rY a0, oI y, oI y_1, oI y_3, oB y_4, oT y_5, .rbox [.sl 1, .sl 2], .box [iV y_2, .sl 3, .sl 4, .sl 5], oI y_6, oI y_7, .box [.sl 8, .sl 9], oI y_9, oI y_10, .box [.sl 11, .sl 12], oI (([] ++ y) ++ y_1), .row true (.intss .i64 y_15), oI y_17, oI y_18, .row true (.intss .i64 y_19), oI y_21, oB y_22, oT y_23, .box [iV y_20, .sl 19, .sl 20, .sl 21]] ?_
  have c0 := cm [19, 20, 21, 3, 4, 5] (fun g2 g1 g0 => k_laws_sameState (bite_t (bite_t (bite_t hr2 g0) g1) g2))
  exact vs
 exact fr [0]
end Go.Proofs.YteoedigfnfjopaaGreat
