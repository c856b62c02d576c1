/- The code computes the functions that were taken out of it. -/
import Derived.Test.YteoedigfnfjopaaGreatLw2
set_option maxRecDepth 100000
set_option maxHeartbeats 4000000
set_option linter.unusedSimpArgs false
set_option linter.unusedVariables false
namespace Go.Proofs.YteoedigfnfjopaaGreat
open Go Go.Av
attribute [local irreducible] wpA OpK awp OpKI
theorem k_laws_FnSaveState (a0 : List Int) {r : Bool} (h : laws_FnSaveState a0 = some r) :
 FnA Tryz.prog 4 [.sl 0] [rY a0] [] (fun x H => x = bV r ∧ H = [rY a0]) := by
 unfold laws_FnSaveState at h
 refine FnA.ofA 105 [0] [.tmp 2] Tryz.func4 en4 ?_
 refine awp_rS ftCOk [] [] ?_
 refine awp_seq fun K2 hK2 => ?_
 refine awp_rS ftCOk [] [(15, bV (decide (1048576 < (a0.length : Int))))] ?_
 refine awp_if h ?_ ?_ <;> clear h <;> intro hc h
 ·refine awp_rS ftCOk [0, 15] [(2, bV true)] ?_
  refine awp_ret ?_
  obtain rfl := Option.some.inj h
  exact finQ [0]
 ·refine awp_skip ?_
  refine hK2 _ _ ?_
  clear hK2
  replace ⟨⟨y, y_1, y_2, y_3, y_4, y_5⟩, hr0, h⟩ := bind_some h
  try dsimp only at h
  refine awp_c ftCOk [0, 15] [(3, .pp 6 0), (4, .pp 7 0)] [] [oI y, oI y_1, oI y_3, oB y_4, oT y_5, .box [.sl 1, .sl 2], .box [iV y_2, .sl 3, .sl 4, .sl 5]] [⟨1, [0], k_spec_DrawSaveState a0 (h := hr0)⟩] ?_
  clear hr0
  replace ⟨⟨y_6, y_7, y_8⟩, hr0, h⟩ := bind_some h
  try dsimp only at h
  refine awp_c ftCOk [] [(5, .pp 10 0), (6, bV y_8)] [] [oI y_6, oI y_7, .box [.sl 8, .sl 9]] [⟨2, [1, 2, 3, 4, 5], k_impl_SaveState y y_1 y_2 y_3 y_4 y_5 (h := hr0)⟩] ?_
  clear hr0
  replace ⟨⟨y_9, y_10, y_11⟩, hr0, h⟩ := bind_some h
  try dsimp only at h
  refine awp_c ftCOk [] [(7, .pp 13 0), (8, bV y_11)] [] [oI y_9, oI y_10, .box [.sl 11, .sl 12]] [⟨2, [1, 2, 3, 4, 5], k_spec_SaveState y y_1 y_2 y_3 y_4 y_5 (h := hr0)⟩] ?_
  clear hr0
  refine awp_seq fun K5 hK5 => ?_
  replace ⟨y_12, hr0, h⟩ := bind_some h
  refine awp_t [7, 8] [(41, bV ((!y_12) || (!(y_8 == y_11))))] [] [] ?_ ?_
  ·clear h
   intro K hK
   refine awp_region ftCOk ?_
   simp (maxSteps := 4000000) only [go_sem]
   repeat' (first | refine And.intro ?_ ?_ | intro hg)
   all_goals (try simp (disch := omega) only [wrap_fits])
   all_goals first
    | exact al0
    | (refine wpA_callA (k_laws_sameDisk y_6 y_7 y_9 y_10 (h := hr0)) [8, 9, 11, 12] [] ?_
       rintro x Hc' ⟨rfl, rfl⟩ hlen
       refine vcOps_sound ftCOk ?_
       exact auV)
    | exact al1
  ·clear hr0
   refine awp_if h ?_ ?_ <;> clear h <;> intro hc h
   ·refine awp_rS ftCOk [3, 4, 5, 6, 41] [(2, bV false)] ?_
    refine awp_ret ?_
    obtain rfl := Option.some.inj h
    exact finQ [0]
   ·refine awp_skip ?_
    refine hK5 _ _ ?_
    clear hK5
    refine awp_seq fun K8 hK8 => ?_
    refine awp_rS ftCOk [6, 41] [(43, bV (!y_8))] ?_
    refine awp_if h ?_ ?_ <;> clear h <;> intro hc h
    ·replace ⟨hp0, h⟩ := chk_some h
     replace ⟨y_13, hr1, h⟩ := bind_some h
     replace ⟨y_14, hr2, h⟩ := bind_some h
     refine awp_t [3, 4, 5, 43] [(2, bV (((((y_6.length : Int) + (y_7.length : Int)) == 0) || y_13) && y_14))] [] [] ?_ ?_
     ·clear h
      intro K hK
      refine awp_regionA ?_
      refine wpA_cutAt 13 [(56, bV ((((y_6.length : Int) + (y_7.length : Int)) == 0) || y_13))] [rY a0, oI y, oI y_1, oI y_3, oB y_4, oT y_5, .box [.sl 1, .sl 2], .box [iV y_2, .sl 3, .sl 4, .sl 5], oI y_6, oI y_7, .box [.sl 8, .sl 9], oI y_9, oI y_10, .box [.sl 11, .sl 12]] ?_ ?_
      ·clear hK K
       intro K hK
       refine vcOps_sound ftCOk ?_
       simp (maxSteps := 4000000) only [go_sem]
       repeat' (first | refine And.intro ?_ ?_ | intro hg)
       all_goals (try simp (disch := omega) only [wrap_fits])
       all_goals first
        | exact al0
        | (refine wpA_guard rfl rfl ?_
           refine wpA_callA (k_laws_sameDisk y_6 y_7 y y_1 (h := (bite_t hr1 bygn))) [8, 9, 1, 2] [] ?_
           rintro x Hc' ⟨rfl, rfl⟩ hlen
           refine vcOps_sound ftCOk ?_
           exact auV)
        | exact al1
      refine vcOps_sound ftCOk ?_
      simp (maxSteps := 4000000) only [go_sem]
      repeat' (first | refine And.intro ?_ ?_ | intro hg)
      all_goals (try simp (disch := omega) only [wrap_fits])
      all_goals first
       | exact al0
       | (refine wpA_guard rfl rfl ?_
          refine wpA_callA (k_laws_alive  (h := (bite_t hr2 byg))) [] [] ?_
          rintro x Hc' ⟨rfl, rfl⟩ hlen
          refine vcOps_sound ftCOk ?_
          exact auV)
       | exact al1
     ·clear hp0 hr1 hr2
      refine awp_ret ?_
      obtain rfl := Option.some.inj h
      exact finQ [0]
    ·refine awp_skip ?_
     refine hK8 _ _ ?_
     clear hK8
     refine awp_freeze 3 (by rfl) (by rfl) (by first | exact rfl | (simp only [List.map_cons, List.map_nil, List.set_cons_succ, List.set_cons_zero, AObj.unview, reduceCtorEq, ↓reduceIte, Nat.reduceEqDiff]; exact rfl)) ?_
     replace ⟨hp0, h⟩ := chk_some h
     replace ⟨hp1, h⟩ := chk_some h
     replace ⟨⟨y_15, y_16⟩, hr2, h⟩ := bind_some h
     try dsimp only at h
     refine awp_t [43] [(10, iV y_16)] [] [oI (([] ++ y) ++ y_1), .row true (.intss .i64 y_15)] ?_ ?_
     ·clear h
      intro K hK
      refine awp_drawT mixed ftCOk (.free 1 (.free 4 (.free 2 (.free 5 (.one 0 (.one 3 (.one 6 (.one 7 (.one 8 (.free 9 (.free 10 (.one 11 (.one 12 .fin))))))))))))) (by kernel_rfl) (by simp) ?_
      simp (maxSteps := 4000000) only [go_sem]
      repeat' (first | refine And.intro ?_ ?_ | intro hg)
      all_goals (try simp (disch := omega) only [wrap_fits])
      all_goals first
       | exact al0
       | (refine OpK_callA (k_impl_ScanFrames (([] ++ y) ++ y_1) (h := hr2)) [14] [] ?_
          rintro x Hc' ⟨rfl, rfl⟩ hlen
          exact auV)
       | exact al1
     ·clear hp0 hp1 hr2
      replace ⟨⟨y_17, y_18⟩, hr0, h⟩ := bind_some h
      replace ⟨y_19, hr1, h⟩ := bind_some h
      replace ⟨⟨y_20, y_21, y_22, y_23, y_24⟩, hr2, h⟩ := bind_some h
      try dsimp only at h
      refine awp_c ftCOk [] [(11, .pp 22 0), (12, bV y_24)] [] [oI y_17, oI y_18, .row true (.intss .i64 y_19), oI y_21, oB y_22, oT y_23, .box [iV y_20, .sl 19, .sl 20, .sl 21]] [⟨1, [8, 9], k_impl_DiskCrash y_6 y_7 0 (h := hr0)⟩, ⟨0, [16, 17], k_impl_DiskRecords y_17 y_18 (h := hr1)⟩, ⟨0, [18], k_impl_LastCheckpoint y_19 (h := hr2)⟩] ?_
      clear hr0 hr1 hr2
      replace ⟨y_25, hr0, h⟩ := bind_some h
      replace ⟨hp1, h⟩ := chk_some h
      replace ⟨y_26, hr2, h⟩ := bind_some h
      refine awp_t [3, 4, 5, 10, 11, 12] [(2, bV ((y_25 && ((y_7.length : Int) == 0)) && ((decide (y_16 < ((y.length : Int) + (y_1.length : Int)))) || (y_24 && y_26))))] [] [] ?_ ?_
      ·clear h
       intro K hK
       refine awp_regionA ?_
       refine wpA_cutAt 8 [(3, .pp 6 0), (4, .pp 7 0), (10, iV y_16), (11, .pp 22 0), (12, bV y_24), (85, bV (y_25 && ((y_7.length : Int) == 0)))] [rY a0, oI y, oI y_1, oI y_3, oB y_4, oT y_5, .rbox [.sl 1, .sl 2], .box [iV y_2, .sl 3, .sl 4, .sl 5], oI y_6, oI y_7, .box [.sl 8, .sl 9], oI y_9, oI y_10, .box [.sl 11, .sl 12], oI (([] ++ y) ++ y_1), .row true (.intss .i64 y_15), oI y_17, oI y_18, .row true (.intss .i64 y_19), oI y_21, oB y_22, oT y_23, .box [iV y_20, .sl 19, .sl 20, .sl 21]] ?_ ?_
       ·clear hK K
        intro K hK
        refine vcOps_sound ftCOk ?_
        simp (maxSteps := 4000000) only [go_sem]
        repeat' (first | refine And.intro ?_ ?_ | intro hg)
        all_goals (try simp (disch := omega) only [wrap_fits])
        all_goals first
         | exact al0
         | (have hq := hp1 byg; omega)
         | (refine wpA_callA (k_impl_DiskValid y_6 y_7 (h := hr0)) [8, 9] [] ?_
            rintro x Hc' ⟨rfl, rfl⟩ hlen
            refine vcOps_sound ftCOk ?_
            exact au7)
         | exact al1
       refine vcOps_sound ftCOk ?_
       simp (maxSteps := 4000000) only [go_sem]
       repeat' (first | refine And.intro ?_ ?_ | intro hg)
       all_goals (try simp (disch := omega) only [wrap_fits])
       all_goals first
        | exact al0
        | (have hq := hp1 byg; omega)
        | (refine wpA_guard rfl rfl ?_
           refine wpA_callA (k_laws_sameState y_20 y_21 y_22 y_23 y_2 y_3 y_4 y_5 (h := (bite_t (bite_t (bite_t hr2 byg) bygn) byg))) [19, 20, 21, 3, 4, 5] [] ?_
           rintro x Hc' ⟨rfl, rfl⟩ hlen
           refine vcOps_sound ftCOk ?_
           exact au7)
        | exact al1
      ·clear hr0 hp1 hr2
       refine awp_ret ?_
       obtain rfl := Option.some.inj h
       exact finQ [0]
end Go.Proofs.YteoedigfnfjopaaGreat
