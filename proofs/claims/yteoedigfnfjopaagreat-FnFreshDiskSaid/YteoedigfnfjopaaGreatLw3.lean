/- The code computes the functions that were taken out of it. -/
import Derived.Test.YteoedigfnfjopaaGreatLw2
set_option maxRecDepth 100000
set_option maxHeartbeats 4000000
set_option linter.unusedSimpArgs false
set_option linter.unusedVariables false
namespace Go.Proofs.YteoedigfnfjopaaGreat
open Go Go.Av
attribute [local irreducible] wpA OpK awp OpKI
theorem k_laws_FnFreshDisk (a0 : List Int) {r : Bool} (h : laws_FnFreshDisk a0 = some r) :
 FnA Tryz.prog 3 [.sl 0] [rY a0] [] (fun x H => x = bV r ∧ H = [rY a0]) := by
 unfold laws_FnFreshDisk at h
 refine FnA.ofA 62 [0] [.tmp 2] Tryz.func3 en3 ?_
 refine awp_rS ftCOk [] [] ?_
 refine awp_seq fun K2 hK2 => ?_
 refine awp_rS ftCOk [] [(12, bV (decide (1048576 < (a0.length : Int))))] ?_
 refine awp_if h ?_ ?_ <;> clear h <;> intro hc h
 ·refine awp_rS ftCOk [0, 12] [(2, bV true)] ?_
  refine awp_ret ?_
  obtain rfl := Option.some.inj h
  exact finQ [0]
 ·refine awp_skip ?_
  refine hK2 _ _ ?_
  clear hK2
  replace ⟨⟨y, y_1, y_2, y_3⟩, hr0, h⟩ := bind_some h
  try dsimp only at h
  refine awp_c ftCOk [0, 12] [(3, .pp 4 0)] [] [oI y_1, oB y_2, oT y_3, .box [iV y, .sl 1, .sl 2, .sl 3]] [⟨1, [0], k_spec_DrawFreshDisk a0 (h := hr0)⟩] ?_
  clear hr0
  replace ⟨⟨y_4, y_5, y_6⟩, hr0, h⟩ := bind_some h
  try dsimp only at h
  refine awp_c ftCOk [] [(4, .pp 7 0), (5, bV y_6)] [] [oI y_4, oI y_5, .box [.sl 5, .sl 6]] [⟨1, [1, 2, 3], k_impl_FreshDisk y y_1 y_2 y_3 (h := hr0)⟩] ?_
  clear hr0
  replace ⟨⟨y_7, y_8, y_9⟩, hr0, h⟩ := bind_some h
  try dsimp only at h
  refine awp_c ftCOk [] [(6, .pp 10 0), (7, bV y_9)] [] [oI y_7, oI y_8, .box [.sl 8, .sl 9]] [⟨1, [1, 2, 3], k_spec_FreshDisk y y_1 y_2 y_3 (h := hr0)⟩] ?_
  clear hr0
  refine awp_seq fun K5 hK5 => ?_
  replace ⟨y_10, hr0, h⟩ := bind_some h
  refine awp_t [6, 7] [(33, bV ((!y_10) || (!(y_6 == y_9))))] [] [] ?_ ?_
  ·clear h
   intro K hK
   refine awp_region ftCOk ?_
   simp (maxSteps := 4000000) only [go_sem]
   repeat' (first | refine And.intro ?_ ?_ | intro hg)
   all_goals (try simp (disch := omega) only [wrap_fits])
   all_goals first
    | exact al0
    | (refine wpA_callA (k_laws_sameDisk y_4 y_5 y_7 y_8 (h := hr0)) [5, 6, 8, 9] [] ?_
       rintro x Hc' ⟨rfl, rfl⟩ hlen
       refine vcOps_sound ftCOk ?_
       exact auV)
    | exact al1
  ·clear hr0
   refine awp_if h ?_ ?_ <;> clear h <;> intro hc h
   ·refine awp_rS ftCOk [3, 4, 5, 33] [(2, bV false)] ?_
    refine awp_ret ?_
    obtain rfl := Option.some.inj h
    exact finQ [0]
   ·refine awp_skip ?_
    refine hK5 _ _ ?_
    clear hK5
    refine awp_seq fun K8 hK8 => ?_
    refine awp_rS ftCOk [5, 33] [(35, bV (!y_6))] ?_
    refine awp_if h ?_ ?_ <;> clear h <;> intro hc h
    ·replace ⟨y_11, hr0, h⟩ := bind_some h
     refine awp_t [3, 4, 35] [(2, bV (((y_4.length : Int) == 0) && y_11))] [] [] ?_ ?_
     ·clear h
      intro K hK
      refine awp_region ftCOk ?_
      simp (maxSteps := 4000000) only [go_sem]
      repeat' (first | refine And.intro ?_ ?_ | intro hg)
      all_goals (try simp (disch := omega) only [wrap_fits])
      all_goals first
       | exact al0
       | (refine wpA_guard rfl rfl ?_
          refine wpA_callA (k_laws_alive  (h := (bite_t hr0 byg))) [] [] ?_
          rintro x Hc' ⟨rfl, rfl⟩ hlen
          refine vcOps_sound ftCOk ?_
          exact auV)
       | exact al1
     ·clear hr0
      refine awp_ret ?_
      obtain rfl := Option.some.inj h
      exact finQ [0]
    ·refine awp_skip ?_
     refine hK8 _ _ ?_
     clear hK8
     replace ⟨y_12, hr0, h⟩ := bind_some h
     replace ⟨⟨y_13, y_14, y_15, y_16, y_17⟩, hr1, h⟩ := bind_some h
     try dsimp only at h
     refine awp_c ftCOk [35] [(8, .pp 15 0), (9, bV y_17)] [] [.row true (.intss .i64 y_12), oI y_14, oB y_15, oT y_16, .box [iV y_13, .sl 12, .sl 13, .sl 14]] [⟨1, [5, 6], k_impl_DiskRecords y_4 y_5 (h := hr0)⟩, ⟨0, [11], k_impl_LastCheckpoint y_12 (h := hr1)⟩] ?_
     clear hr0 hr1
     replace ⟨y_18, hr0, h⟩ := bind_some h
     replace ⟨y_19, hr1, h⟩ := bind_some h
     replace ⟨y_20, hr2, h⟩ := bind_some h
     replace ⟨y_21, hr3, h⟩ := bind_some h
     refine awp_t [3, 4, 8, 9] [(2, bV ((y_17 && y_18) && y_21))] [] [] ?_ ?_
     ·clear h
      intro K hK
      refine awp_drawT mixed ftCOk (.one 0 (.one 1 (.two 2 3 (.one 3 (.one 4 (.one 5 (.one 6 (.two 7 9 (.two 8 9 (.one 9 (.one 10 (.one 11 (.one 12 (.one 13 .fin))))) (.one 8 (.one 10 (.one 11 (.one 12 (.one 13 .fin)))))) (.one 7 (.one 8 (.one 10 (.one 11 (.one 12 (.one 13 .fin))))))))))) (.one 2 (.one 4 (.one 5 (.one 6 (.two 7 9 (.two 8 9 (.one 9 (.one 10 (.one 11 (.one 12 (.one 13 .fin))))) (.one 8 (.one 10 (.one 11 (.one 12 (.one 13 .fin)))))) (.one 7 (.one 8 (.one 10 (.one 11 (.one 12 (.one 13 .fin)))))))))))))) (by kernel_rfl) (by simp) ?_
      simp (maxSteps := 4000000) only [go_sem]
      repeat' (first | refine And.intro ?_ ?_ | intro hg)
      all_goals (try simp (disch := omega) only [wrap_fits])
      all_goals first
       | (refine hK _ _ ?_; exact Red.selA [0, 1, 2, 3, 4, 5, 6, 7, 8, 9, 10, 11, 12, 13, 14, 15] Red.auto)
       | exact al0
       | (refine OpK_callA (k_laws_sameState y_13 y_14 y_15 y_16 y y_1 y_2 y_3 (h := (bite_t hr0 byg))) [12, 13, 14, 1, 2, 3] [] ?_
          rintro x Hc' ⟨rfl, rfl⟩ hlen
          simp (maxSteps := 4000000) only [go_sem]
          repeat' (first | refine And.intro ?_ ?_ | intro hg)
          all_goals (try simp (disch := omega) only [wrap_fits])
          all_goals first
           | (refine hK _ _ ?_; exact Red.selA [0, 1, 2, 3, 4, 5, 6, 7, 8, 9, 10, 11, 12, 13, 14, 15] Red.auto)
           | exact al0
           | (refine OpK_callA (k_impl_DiskRecords y_4 y_5 (h := (bite_t hr1 byg))) [5, 6] [] ?_
              rintro x Hc' ⟨rfl, rfl⟩ hlen
              exact au18)
           | (refine OpK_callA (k_impl_StateBodies y y_1 y_2 y_3 (h := (bite_t hr2 byg))) [1, 2, 3] [] ?_
              rintro x Hc' ⟨rfl, rfl⟩ hlen
              exact au17)
           | (refine OpK_callA (k_laws_sameRecords y_19 y_20 (h := (bite_t hr3 byg))) [16, 17] [] ?_
              rintro x Hc' ⟨rfl, rfl⟩ hlen
              exact au15)
           | exact al1)
       | (refine OpK_callA (k_impl_DiskRecords y_4 y_5 (h := (bite_t hr1 byg))) [5, 6] [] ?_
          rintro x Hc' ⟨rfl, rfl⟩ hlen
          exact au18)
       | (refine OpK_callA (k_impl_StateBodies y y_1 y_2 y_3 (h := (bite_t hr2 byg))) [1, 2, 3] [] ?_
          rintro x Hc' ⟨rfl, rfl⟩ hlen
          exact au17)
       | (refine OpK_callA (k_laws_sameRecords y_19 y_20 (h := (bite_t hr3 byg))) [16, 17] [] ?_
          rintro x Hc' ⟨rfl, rfl⟩ hlen
          exact au15)
       | exact al1
     ·clear hr0 hr1 hr2 hr3
      refine awp_ret ?_
      obtain rfl := Option.some.inj h
      exact finQ [0]
end Go.Proofs.YteoedigfnfjopaaGreat
