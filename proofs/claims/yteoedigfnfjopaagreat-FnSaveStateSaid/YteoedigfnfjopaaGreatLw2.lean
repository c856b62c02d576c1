/- The code computes the functions that were taken out of it. -/
import Derived.Test.YteoedigfnfjopaaGreatLw1
set_option maxRecDepth 100000
set_option maxHeartbeats 4000000
set_option linter.unusedSimpArgs false
set_option linter.unusedVariables false
namespace Go.Proofs.YteoedigfnfjopaaGreat
open Go Go.Av
attribute [local irreducible] wpA OpK awp OpKI
theorem k_impl_messageFits (a0_0 : Int) (a0_1 : Int) (a0_2 : Int) (a1 : Int) {r : Bool} (h : impl_messageFits a0_0 a0_1 a0_2 a1 = some r) :
 FnA Tryz.prog 101 [.agg [iV a0_0, iV a0_1, iV a0_2], iV a1] [] [] (fun x H => x = bV r ∧ H = []) := by
 unfold impl_messageFits at h
 refine FnA.ofA 35 [] [.tmp 4] Tryz.func101 en101 ?_
 refine awp_rM ftCOk [0] [(2, .pp 0 0)] [] [.box [iV a0_0, iV a0_1, iV a0_2]] ?_
 refine awp_freeze 2 (by rfl) (by rfl) (by exact rfl) ?_
 refine awp_t [1, 2] [(4, bV ((((((decide (0 ≤ a0_0)) && (decide (a0_0 < a1))) && (decide (0 ≤ a0_2))) && (decide (a0_2 < a1))) && (decide (0 ≤ a0_1))) && (decide (a0_1 < 1000000))))] [] [] ?_ ?_
 ·clear h
  intro K hK
  refine awp_regionA ?_
  refine wpA_cutAt 9 [(1, iV a1), (2, .pp 0 0), (13, bV ((decide (0 ≤ a0_0)) && (decide (a0_0 < a1))))] [.rbox [iV a0_0, iV a0_1, iV a0_2]] ?_ ?_
  ·clear hK K
   intro K hK
   refine vcOps_sound ftCOk ?_
   exact auV
  refine wpA_cutAt 5 [(1, iV a1), (2, .pp 0 0), (18, bV (((decide (0 ≤ a0_0)) && (decide (a0_0 < a1))) && (decide (0 ≤ a0_2))))] [.rbox [iV a0_0, iV a0_1, iV a0_2]] ?_ ?_
  ·clear hK K
   intro K hK
   refine vcOps_sound ftCOk ?_
   exact auV
  refine wpA_cutAt 6 [(2, .pp 0 0), (24, bV ((((decide (0 ≤ a0_0)) && (decide (a0_0 < a1))) && (decide (0 ≤ a0_2))) && (decide (a0_2 < a1))))] [.rbox [iV a0_0, iV a0_1, iV a0_2]] ?_ ?_
  ·clear hK K
   intro K hK
   refine vcOps_sound ftCOk ?_
   exact auV
  refine wpA_cutAt 5 [(2, .pp 0 0), (29, bV (((((decide (0 ≤ a0_0)) && (decide (a0_0 < a1))) && (decide (0 ≤ a0_2))) && (decide (a0_2 < a1))) && (decide (0 ≤ a0_1))))] [.rbox [iV a0_0, iV a0_1, iV a0_2]] ?_ ?_
  ·clear hK K
   intro K hK
   refine vcOps_sound ftCOk ?_
   exact auV
  refine vcOps_sound ftCOk ?_
  exact auV
 ·refine awp_ret ?_
  obtain rfl := Option.some.inj h
  exact finQ []
theorem k_slices_IsSortedFunc_impl_Message_impl_Message__impl_compareMessages (a0 : List (Int × Int × Int)) {r : Bool} (h : slices_IsSortedFunc_impl_Message_impl_Message__impl_compareMessages a0 = some r) :
 FnA Tryz.prog 99 [.sl 0, .v (.func (.func 100) #[] #[])] [rT a0] [] (fun x H => x = bV r ∧ H = [rT a0]) := by
 unfold slices_IsSortedFunc_impl_Message_impl_Message__impl_compareMessages at h
 refine FnA.ofA 25 [0] [.tmp 4] Tryz.func99 en99 ?_
 refine awp_rS ftCOk [] [] ?_
 refine awp_seq fun K20 hK20 => ?_
 replace ⟨hp0, h⟩ := chk_some h
 have hwhp0 := wrap_fits hp0.1 hp0.2
 refine awp_rS ftCOk [] [(5, iV ((a0.length : Int) - 1))] ?_
 clear hp0
 refine awp_block ?_
 replace h := bind_some h
 obtain ⟨x39, hx, h⟩ := h
 refine awp_loopL hx (fun t5 => [(0, .sl 0), (1, .v (.func (.func 100) #[] #[])), (5, iV t5)]) (fun t5 => [rT a0]) (Sum.elim (fun _ => Exit.exit 0) (fun _ => Exit.ret)) (Sum.elim (fun _ => []) (fun _ => [(4, bV false)])) (Sum.elim (fun _ => [rT a0]) (fun _ => [rT a0])) ?_ ?_ ?_ ?_
 ·rintro (⟨⟩ | ⟨⟩) hy <;> cases hy
 ·clear h hx
  exact Red.auto
 ·clear h hx
  rintro t5 r h
  unfold slices_IsSortedFunc_impl_Message_impl_Message__impl_compareMessages_b0 at h
  try dsimp only at h
  try dsimp only
  refine awp_seq fun K34 hK34 => ?_
  refine awp_rS ftCOk [] [(10, bV (decide (0 < t5)))] ?_
  refine awp_if h ?_ ?_ <;> clear h <;> intro hc h
  ·refine awp_skip ?_
   refine hK34 _ _ ?_
   clear hK34
   refine awp_seq fun K37 hK37 => ?_
   refine awp_block ?_
   replace ⟨hp0, h⟩ := chk_some h
   replace ⟨hp1, h⟩ := chk_some h
   have hwhp1 := wrap_fits hp1.1 hp1.2
   replace ⟨hp2, h⟩ := chk_some h
   refine awp_qS mixed ftCOk [10] [(24, bV (decide ((orF [cmpI (a0.getD t5.toNat (0, 0, 0)).1 (a0.getD ((t5 - 1).toNat) (0, 0, 0)).1, cmpI (a0.getD t5.toNat (0, 0, 0)).2.1 (a0.getD ((t5 - 1).toNat) (0, 0, 0)).2.1, cmpI (a0.getD t5.toNat (0, 0, 0)).2.2 (a0.getD ((t5 - 1).toNat) (0, 0, 0)).2.2]) < 0)))] ?_
   clear hp0 hp1 hp2
   refine awp_if h ?_ ?_ <;> clear h <;> intro hc h
   ·refine awp_rS ftCOk [0, 1, 5, 24] [(4, bV false)] ?_
    refine awp_ret ?_
    refine nm ?_
    obtain rfl := Option.some.inj h
    refine LoopQ.out rfl ?_
    exact Red.auto
   ·refine awp_skip ?_
    refine hK37 _ _ ?_
    clear hK37
    replace ⟨hp0, h⟩ := chk_some h
    have hwhp0 := wrap_fits hp0.1 hp0.2
    refine awp_rES ftCOk [5, 24] [(5, iV (t5 - 1))] ?_
    clear hp0
    obtain rfl := Option.some.inj h
    refine LoopQ.next ?_
    exact Red.auto
  ·refine awp_exit ?_
   refine nm ?_
   obtain rfl := Option.some.inj h
   refine LoopQ.out rfl ?_
   exact Red.auto
 ·clear hx
  rcases x39 with (⟨⟩ | ⟨⟩)
  ·try dsimp only [Sum.elim_inl, Sum.elim_inr] at h
   try dsimp only [Sum.elim_inl, Sum.elim_inr]
   refine hK20 _ _ ?_
   clear hK20
   refine awp_rS ftCOk [] [(4, bV true)] ?_
   refine awp_ret ?_
   obtain rfl := Option.some.inj h
   exact finQ [0]
  ·try dsimp only [Sum.elim_inl, Sum.elim_inr] at h
   try dsimp only [Sum.elim_inl, Sum.elim_inr]
   obtain rfl := Option.some.inj h
   exact finQ [0]
theorem k_impl_inboxFits (a0 : List (Int × Int × Int)) (a1 : Int) {r : Bool} (h : impl_inboxFits a0 a1 = some r) :
 FnA Tryz.prog 85 [.sl 0, iV a1] [rT a0] [] (fun x H => x = bV r ∧ H = [rT a0]) := by
 unfold impl_inboxFits at h
 refine FnA.ofA 26 [0] [.tmp 4] Tryz.func85 en85 ?_
 refine awp_rS ftCOk [] [] ?_
 refine awp_seq fun K2 hK2 => ?_
 replace ⟨y, hr0, h⟩ := bind_some h
 refine awp_t [] [(14, bV ((decide (2000 < (a0.length : Int))) || (!y)))] [] [] ?_ ?_
 ·clear h
  intro K hK
  refine awp_region ftCOk ?_
  simp (maxSteps := 4000000) only [go_sem]
  repeat' (first | refine And.intro ?_ ?_ | intro hg)
  all_goals (try simp (disch := omega) only [wrap_fits])
  all_goals first
   | exact al0
   | (refine wpA_guard rfl rfl ?_
      refine wpA_callA (k_slices_IsSortedFunc_impl_Message_impl_Message__impl_compareMessages a0 (h := (bite_t hr0 bygn))) [0] [] ?_
      rintro x Hc' ⟨rfl, rfl⟩ hlen
      refine vcOps_sound ftCOk ?_
      exact auV)
   | exact al1
 ·clear hr0
  refine awp_if h ?_ ?_ <;> clear h <;> intro hc h
  ·refine awp_rS ftCOk [0, 1, 14] [(4, bV false)] ?_
   refine awp_ret ?_
   obtain rfl := Option.some.inj h
   exact finQ [0]
  ·refine awp_skip ?_
   refine hK2 _ _ ?_
   clear hK2
   refine awp_seq fun K23 hK23 => ?_
   refine awp_rS ftCOk [0, 14] [(15, .sl 0), (16, iV (a0.length : Int)), (17, iV 0)] ?_
   refine awp_block ?_
   replace h := bind_some h
   obtain ⟨x42, hx, h⟩ := h
   refine awp_loopL hx (fun t17 => [(1, iV a1), (15, .sl 0), (16, iV (a0.length : Int)), (17, iV t17)]) (fun t17 => [rT a0]) (Sum.elim (fun _ => Exit.exit 0) (fun _ => Exit.ret)) (Sum.elim (fun _ => []) (fun _ => [(4, bV false)])) (Sum.elim (fun _ => [rT a0]) (fun _ => [rT a0])) ?_ ?_ ?_ ?_
   ·rintro (⟨⟩ | ⟨⟩) hy <;> cases hy
   ·clear h hx
    exact Red.auto
   ·clear h hx
    rintro t17 r h
    unfold impl_inboxFits_b0 at h
    try dsimp only at h
    try dsimp only
    refine awp_rS ftCOk [] [(18, bV (decide (t17 < (a0.length : Int))))] ?_
    refine awp_seq fun K37 hK37 => ?_
    refine awp_if h ?_ ?_ <;> clear h <;> intro hc h
    ·refine awp_skip ?_
     refine hK37 _ _ ?_
     clear hK37
     refine awp_seq fun K40 hK40 => ?_
     refine awp_block ?_
     replace ⟨hp0, h⟩ := chk_some h
     refine awp_rM ftCOk [18] [(6, .pp 1 0)] [] [.box [iV ((a0.getD t17.toNat (0, 0, 0)).1), iV ((a0.getD t17.toNat (0, 0, 0)).2.1), iV ((a0.getD t17.toNat (0, 0, 0)).2.2)]] ?_
     clear hp0
     replace ⟨y_1, hr0, h⟩ := bind_some h
     refine awp_c ftCOk [6] [(24, bV (!y_1))] [] [] [⟨2, [], k_impl_messageFits ((a0.getD t17.toNat (0, 0, 0)).1) ((a0.getD t17.toNat (0, 0, 0)).2.1) ((a0.getD t17.toNat (0, 0, 0)).2.2) a1 (h := hr0)⟩] ?_
     clear hr0
     refine awp_if h ?_ ?_ <;> clear h <;> intro hc h
     ·refine awp_rS ftCOk [1, 15, 16, 17, 24] [(4, bV false)] ?_
      refine awp_ret ?_
      refine nm ?_
      obtain rfl := Option.some.inj h
      refine LoopQ.out rfl ?_
      exact Red.selA [0] Red.auto
     ·refine awp_skip ?_
      refine hK40 _ _ ?_
      clear hK40
      replace ⟨hp0, h⟩ := chk_some h
      refine awp_rES ftCOk [17, 24] [(17, iV (t17 + 1))] ?_
      clear hp0
      obtain rfl := Option.some.inj h
      refine LoopQ.next ?_
      exact Red.selA [0] Red.auto
    ·refine awp_exit ?_
     refine nm ?_
     obtain rfl := Option.some.inj h
     refine LoopQ.out rfl ?_
     exact Red.auto
   ·clear hx
    rcases x42 with (⟨⟩ | ⟨⟩)
    ·try dsimp only [Sum.elim_inl, Sum.elim_inr] at h
     try dsimp only [Sum.elim_inl, Sum.elim_inr]
     refine hK23 _ _ ?_
     clear hK23
     refine awp_rS ftCOk [] [(4, bV true)] ?_
     refine awp_ret ?_
     obtain rfl := Option.some.inj h
     exact finQ [0]
    ·try dsimp only [Sum.elim_inl, Sum.elim_inr] at h
     try dsimp only [Sum.elim_inl, Sum.elim_inr]
     obtain rfl := Option.some.inj h
     exact finQ [0]
theorem k_impl_StateValid (a0_0 : Int) (a0_1 : List Int) (a0_2 : List Bool) (a0_3 : List (Int × Int × Int)) (a1 : Int) {r : Bool} (h : impl_StateValid a0_0 a0_1 a0_2 a0_3 a1 = some r) :
 FnA Tryz.prog 58 [.agg [iV a0_0, .sl 0, .sl 1, .sl 2], iV a1] [rI a0_1, rB a0_2, rT a0_3] [] (fun x H => x = bV r ∧ H = [rI a0_1, rB a0_2, rT a0_3]) := by
 unfold impl_StateValid at h
 refine FnA.ofA 38 [0, 1, 2] [.tmp 4] Tryz.func58 en58 ?_
 refine awp_rM ftCOk [0] [(2, .pp 3 0)] [] [.box [iV a0_0, .sl 0, .sl 1, .sl 2]] ?_
 refine awp_freeze 2 (by rfl) (by rfl) (by exact rfl) ?_
 refine awp_seq fun K2 hK2 => ?_
 replace ⟨y, hr0, h⟩ := bind_some h
 refine awp_t [] [(16, bV (((decide (a1 < 0)) || (decide (16 < a1))) || (!y)))] [] [] ?_ ?_
 ·clear h
  intro K hK
  refine awp_regionA ?_
  refine wpA_cutAt 6 [(1, iV a1), (2, .pp 3 0), (10, bV ((decide (a1 < 0)) || (decide (16 < a1))))] [rI a0_1, rB a0_2, rT a0_3, .rbox [iV a0_0, .sl 0, .sl 1, .sl 2]] ?_ ?_
  ·clear hK K
   intro K hK
   refine vcOps_sound ftCOk ?_
   exact auV
  refine vcOps_sound ftCOk ?_
  simp (maxSteps := 4000000) only [go_sem]
  repeat' (first | refine And.intro ?_ ?_ | intro hg)
  all_goals (try simp (disch := omega) only [wrap_fits])
  all_goals first
   | exact al0
   | (refine wpA_guard rfl rfl ?_
      refine wpA_callA (k_impl_roundFits a0_0 (h := (bite_t hr0 bygn))) [] [] ?_
      rintro x Hc' ⟨rfl, rfl⟩ hlen
      refine vcOps_sound ftCOk ?_
      exact auV)
   | exact al1
 ·clear hr0
  refine awp_if h ?_ ?_ <;> clear h <;> intro hc h
  ·refine awp_rS ftCOk [1, 2, 16] [(4, bV false)] ?_
   refine awp_ret ?_
   obtain rfl := Option.some.inj h
   exact finQ [0, 1, 2]
  ·refine awp_skip ?_
   refine hK2 _ _ ?_
   clear hK2
   refine awp_seq fun K5 hK5 => ?_
   refine awp_rS ftCOk [16] [(28, bV (((a0_1.length : Int) != a1) || ((a0_2.length : Int) != a1)))] ?_
   refine awp_if h ?_ ?_ <;> clear h <;> intro hc h
   ·refine awp_rS ftCOk [1, 2, 28] [(4, bV false)] ?_
    refine awp_ret ?_
    obtain rfl := Option.some.inj h
    exact finQ [0, 1, 2]
   ·refine awp_skip ?_
    refine hK5 _ _ ?_
    clear hK5
    replace ⟨y_1, hr0, h⟩ := bind_some h
    replace ⟨y_2, hr1, h⟩ := bind_some h
    refine awp_t [1, 2, 28] [(4, bV (y_1 && y_2))] [] [] ?_ ?_
    ·clear h
     intro K hK
     refine awp_region ftCOk ?_
     simp (maxSteps := 4000000) only [go_sem]
     repeat' (first | refine And.intro ?_ ?_ | intro hg)
     all_goals (try simp (disch := omega) only [wrap_fits])
     all_goals first
      | exact al0
      | (refine wpA_callA (k_impl_valuesFit a0_1 (h := hr0)) [0] [] ?_
         rintro x Hc' ⟨rfl, rfl⟩ hlen
         refine vcOps_sound ftCOk ?_
         simp (maxSteps := 4000000) only [go_sem]
         repeat' (first | refine And.intro ?_ ?_ | intro hg)
         all_goals (try simp (disch := omega) only [wrap_fits])
         all_goals first
          | exact al0
          | (refine wpA_guard rfl rfl ?_
             refine wpA_callA (k_impl_inboxFits a0_3 a1 (h := (bite_t hr1 byg))) [2] [] ?_
             rintro x Hc' ⟨rfl, rfl⟩ hlen
             refine vcOps_sound ftCOk ?_
             exact auV)
          | exact al1)
      | exact al1
    ·clear hr0 hr1
     refine awp_ret ?_
     obtain rfl := Option.some.inj h
     exact finQ [0, 1, 2]
theorem k_impl_State_ownValid (a0_0 : Int) (a0_1 : List Int) (a0_2 : List Bool) (a0_3 : List (Int × Int × Int)) {r : Bool} (h : impl_State_ownValid a0_0 a0_1 a0_2 a0_3 = some r) :
 FnA Tryz.prog 31 [.agg [iV a0_0, .sl 0, .sl 1, .sl 2]] [rI a0_1, rB a0_2, rT a0_3] [] (fun x H => x = bV r ∧ H = [rI a0_1, rB a0_2, rT a0_3]) := by
 unfold impl_State_ownValid at h
 refine FnA.ofA 8 [0, 1, 2] [.tmp 2] Tryz.func31 en31 ?_
 refine awp_rM ftCOk [0] [(1, .pp 3 0)] [] [.box [iV a0_0, .sl 0, .sl 1, .sl 2]] ?_
 refine awp_freeze 1 (by rfl) (by rfl) (by exact rfl) ?_
 replace ⟨y, hr0, h⟩ := bind_some h
 refine awp_c ftCOk [1] [(2, bV y)] [] [] [⟨4, [0, 1, 2], k_impl_StateValid a0_0 a0_1 a0_2 a0_3 (a0_1.length : Int) (h := hr0)⟩] ?_
 clear hr0
 refine awp_ret ?_
 obtain rfl := Option.some.inj h
 exact finQ [0, 1, 2]
theorem k_slices_Clone_int_int (a0 : List Int) {r : List Int} (h : slices_Clone_int_int a0 = some r) :
 FnA Tryz.prog 43 [.sl 0] [rI a0] [] (fun x H => x = .sl 1 ∧ H = [rI a0, oI r]) := by
 unfold slices_Clone_int_int at h
 refine FnA.ofA 8 [0] [.tmp 2] Tryz.func43 en43 ?_
 refine awp_rS ftCOk [] [] ?_
 refine awp_seq fun K2 hK2 => ?_
 have hboth := both_some h
 refine awp_isnil (by rfl) (by rfl) Tryz.underlying23 rfl rfl fun b hb => ?_
 replace h := hboth b hb
 clear hboth
 refine awp_if h ?_ ?_ <;> clear h <;> intro hc h
 ·refine awp_rS ftCOk [0, 3, 4] [(2, nV)] ?_
  refine awp_red (Red.nil (t := 2) (.ints .i64 []) rfl rfl) ?_
  refine awp_ret ?_
  obtain rfl := Option.some.inj h
  exact finQ [0, 1]
 ·refine awp_skip ?_
  refine hK2 _ _ ?_
  clear hK2
  replace ⟨hp0, h⟩ := chk_some h
  refine awp_rM ftCOk [0, 3, 4] [(2, .sl 1)] [] [oI ([] ++ a0)] ?_
  clear hp0
  refine awp_ret ?_
  obtain rfl := Option.some.inj h
  exact finQ [0, 1]
theorem k_impl_Disk_copied (a0_0 : List Int) (a0_1 : List Int) {r : List Int × List Int} (h : impl_Disk_copied a0_0 a0_1 = some r) :
 FnA Tryz.prog 34 [.agg [.sl 0, .sl 1]] [rI a0_0, rI a0_1] [] (fun x H => x = .agg [.sl 2, .sl 3] ∧ H = [rI a0_0, rI a0_1, oI r.1, oI r.2]) := by
 unfold impl_Disk_copied at h
 refine FnA.ofA 10 [0, 1] [.cell 2 30] Tryz.func34 en34 ?_
 refine awp_rM ftCOk [0] [(1, .pp 2 0), (2, .pp 3 0)] [] [.box [.sl 0, .sl 1], .box [nV, nV]] ?_
 refine awp_freeze 1 (by rfl) (by rfl) (by exact rfl) ?_
 replace ⟨y, hr0, h⟩ := bind_some h
 replace ⟨y_1, hr1, h⟩ := bind_some h
 refine awp_t [1] [] [(3, .box [.sl 4, .sl 5])] [oI y, oI y_1] ?_ ?_
 ·clear h
  intro K hK
  refine awp_drawT mixed ftCOk (.free 0 (.free 3 (.free 1 (.free 4 (.one 2 (.one 5 (.one 6 (.one 7 .fin)))))))) (by kernel_rfl) (by simp) ?_
  simp (maxSteps := 4000000) only [go_sem]
  repeat' (first | refine And.intro ?_ ?_ | intro hg)
  all_goals (try simp (disch := omega) only [wrap_fits])
  all_goals first
   | exact al0
   | (refine OpK_callA (k_slices_Clone_int_int a0_0 (h := hr0)) [0] [] ?_
      rintro x Hc' ⟨rfl, rfl⟩ hlen
      simp (maxSteps := 4000000) only [go_sem]
      repeat' (first | refine And.intro ?_ ?_ | intro hg)
      all_goals (try simp (disch := omega) only [wrap_fits])
      all_goals first
       | exact al0
       | (refine OpK_callA (k_slices_Clone_int_int a0_1 (h := hr1)) [1] [] ?_
          rintro x Hc' ⟨rfl, rfl⟩ hlen
          exact auV)
       | exact al1)
   | exact al1
 ·clear hr0 hr1
  refine awp_ret ?_
  obtain rfl := Option.some.inj h
  exact finQ [0, 1, 4, 5]
theorem k_impl_EncodeNumber (a0 : Int) {r : List Int} (h : impl_EncodeNumber a0 = some r) :
 FnA Tryz.prog 102 [iV a0] [] [] (fun x H => x = .sl 0 ∧ H = [oI r]) := by
 unfold impl_EncodeNumber at h
 refine FnA.ofA 24 [] [.tmp 2] Tryz.func102 en102 ?_
 refine awp_rS ftCOk [] [] ?_
 refine awp_seq fun K2 hK2 => ?_
 refine awp_rS ftCOk [] [(9, bV ((decide (a0 < 0)) || (decide (1000000 < a0))))] ?_
 refine awp_if h ?_ ?_ <;> clear h <;> intro hc h
 ·refine awp_rS ftCOk [0, 9] [(2, nV)] ?_
  refine awp_red (Red.nil (t := 2) (.ints .i64 []) rfl rfl) ?_
  refine awp_ret ?_
  obtain rfl := Option.some.inj h
  exact finQ [0]
 ·refine awp_skip ?_
  refine hK2 _ _ ?_
  clear hK2
  refine awp_rS ftCOk [9] [(3, nV)] ?_
  refine awp_seq fun K17 hK17 => ?_
  refine awp_block ?_
  replace h := bind_some h
  obtain ⟨x30, hx, h⟩ := h
  refine awp_loopL hx (fun (t0, t3s) => [(0, iV t0), (3, .sl 0)]) (fun (t0, t3s) => [oI t3s]) (fun _ => Exit.exit 0) (fun (t0_1, t3s_1) => [(0, iV t0_1), (3, .sl 0)]) (fun (t0_1, t3s_1) => [oI t3s_1]) ?_ ?_ ?_ ?_
  ·rintro ⟨t0_1, t3s_1⟩ hy <;> cases hy
  ·clear h hx
   refine Red.trans (Red.nil (t := 3) (.ints .i64 []) rfl rfl) ?_
   exact Red.auto
  ·clear h hx
   rintro ⟨t0, t3s⟩ r h
   unfold impl_EncodeNumber_b0 at h
   try dsimp only at h
   try dsimp only
   refine awp_seq fun K28 hK28 => ?_
   refine awp_rS ftCOk [] [(11, bV (decide (128 ≤ t0)))] ?_
   refine awp_if h ?_ ?_ <;> clear h <;> intro hc h
   ·refine awp_skip ?_
    refine hK28 _ _ ?_
    clear hK28
    refine awp_block ?_
    replace ⟨hp0, h⟩ := chk_some h
    replace ⟨hp1, h⟩ := chk_some h
    replace ⟨hp2, h⟩ := chk_some h
    refine awp_rM ftCOk [11] [] [(0, oI (t3s ++ [((t0 % 128) + 128)]))] [oI [((t0 % 128) + 128)]] ?_
    clear hp0 hp1 hp2
    replace ⟨hp0, h⟩ := chk_some h
    refine awp_rES ftCOk [0] [(0, iV (t0 / 128))] ?_
    clear hp0
    refine nm ?_
    obtain rfl := Option.some.inj h
    refine LoopQ.next ?_
    exact Red.selA [0] Red.auto
   ·refine awp_exit ?_
    refine nm ?_
    obtain rfl := Option.some.inj h
    refine LoopQ.out rfl ?_
    exact Red.auto
  ·clear hx
   rcases x30 with ⟨t0_1, t3s_1⟩
   ·try dsimp only [Sum.elim_inl, Sum.elim_inr] at h
    try dsimp only [Sum.elim_inl, Sum.elim_inr]
    refine hK17 _ _ ?_
    clear hK17
    replace ⟨hp0, h⟩ := chk_some h
    refine awp_rM ftCOk [0, 3] [(2, .sl 0)] [(0, oI (t3s_1 ++ [t0_1]))] [oI [t0_1]] ?_
    clear hp0
    refine awp_ret ?_
    obtain rfl := Option.some.inj h
    exact finQ [0]
theorem k_impl_numberWriter_put (a0_0 : List Int) (a1 : Int) {r : List Int} (h : impl_numberWriter_put a0_0 a1 = some r) :
 FnA Tryz.prog 86 [.pp 0 0, iV a1] [.box [.sl 1], oI a0_0] [] (fun x H => x = .tup [] ∧ H = [.box [.sl 2], .dead, oI r]) := by
 unfold impl_numberWriter_put at h
 refine FnA.ofA 14 [0, 1] [] Tryz.func86 en86 ?_
 refine awp_move 1 [(0, .pp 0 0), (1, iV a1)] [.box [.sl 2], .dead, oI a0_0] (by rfl) (by rfl) (by exact rfl) ?_
 replace ⟨y, hr0, h⟩ := bind_some h
 replace ⟨hp1, h⟩ := chk_some h
 refine awp_tE [0, 1] [] [(2, oI (a0_0 ++ y))] [oI y] ?_ ?_
 ·clear h
  intro K hK
  refine awp_drawP [0, 1] (by first | rfl | kernel_rfl) (by rfl) mixed ftCOk (.free 0 (.free 1 (.free 2 (.free 3 (.free 5 (.two 4 6 (.one 6 (.one 7 (.one 8 (.one 9 (.one 10 .fin))))) (.one 4 (.one 7 (.one 8 (.one 9 (.one 10 .fin))))))))))) (by kernel_rfl) (by simp) ?_
  simp (maxSteps := 4000000) only [go_sem]
  repeat' (first | refine And.intro ?_ ?_ | intro hg)
  all_goals (try simp (disch := omega) only [wrap_fits])
  all_goals first
   | exact al0
   | (refine OpK_callA (k_impl_EncodeNumber a1 (h := hr0)) [] [] ?_
      rintro x Hc' ⟨rfl, rfl⟩ hlen
      exact auV)
   | exact al1
 ·clear hr0 hp1
  obtain rfl := Option.some.inj h
  exact finQ [0, 1, 2]
theorem k_impl_taggedBody (a0 : Int) (a1 : List Int) {r : List Int} (h : impl_taggedBody a0 a1 = some r) :
 FnA Tryz.prog 60 [iV a0, .sl 0] [rI a1] [] (fun x H => x = .sl 1 ∧ H = [rI a1, oI r]) := by
 unfold impl_taggedBody at h
 refine FnA.ofA 22 [0] [.tmp 4] Tryz.func60 en60 ?_
 refine awp_rS ftCOk [] [] ?_
 refine awp_rM ftCOk [0] [(5, .pp 2 0)] [] [oI [a0], .box [.sl 1]] ?_
 refine awp_seq fun K14 hK14 => ?_
 refine awp_rS ftCOk [1] [(11, .sl 0), (12, iV (a1.length : Int)), (13, iV 0)] ?_
 refine awp_block ?_
 replace h := bind_some h
 obtain ⟨t5_0s_1, hx, h⟩ := h
 refine awp_loopL hx (fun (t13, t5_0s) => [(5, .pp 1 0), (11, .sl 0), (12, iV (a1.length : Int)), (13, iV t13)]) (fun (t13, t5_0s) => [rI a1, .box [.sl 2], oI t5_0s]) (fun _ => Exit.exit 0) (fun t5_0s_1 => [(5, .pp 1 0)]) (fun t5_0s_1 => [rI a1, .box [.sl 2], oI t5_0s_1]) ?_ ?_ ?_ ?_
 ·rintro t5_0s_1 hy <;> cases hy
 ·clear h hx
  exact Red.selA [0, 2, 1] Red.auto
 ·clear h hx
  rintro ⟨t13, t5_0s⟩ r h
  unfold impl_taggedBody_b0 at h
  try dsimp only at h
  try dsimp only
  refine awp_rS ftCOk [] [(14, bV (decide (t13 < (a1.length : Int))))] ?_
  refine awp_seq fun K24 hK24 => ?_
  refine awp_if h ?_ ?_ <;> clear h <;> intro hc h
  ·refine awp_skip ?_
   refine hK24 _ _ ?_
   clear hK24
   refine awp_seq fun K26 hK26 => ?_
   refine awp_block ?_
   replace ⟨hp0, h⟩ := chk_some h
   refine awp_rS ftCOk [14] [(7, iV (a1.getD t13.toNat 0))] ?_
   clear hp0
   replace ⟨y, hr0, h⟩ := bind_some h
   refine awp_cE ftCOk [7] [] [(1, .box [.sl 3]), (0, .dead)] [oI y] [⟨1, [1, 2], k_impl_numberWriter_put t5_0s (a1.getD t13.toNat 0) (h := hr0)⟩] ?_
   clear hr0
   refine hK26 _ _ ?_
   clear hK26
   replace ⟨hp0, h⟩ := chk_some h
   refine awp_rES ftCOk [13] [(13, iV (t13 + 1))] ?_
   clear hp0
   obtain rfl := Option.some.inj h
   refine LoopQ.next ?_
   exact Red.selA [0, 1, 3] Red.auto
  ·refine awp_exit ?_
   refine nm ?_
   obtain rfl := Option.some.inj h
   refine LoopQ.out rfl ?_
   exact Red.auto
 ·clear hx
  skip
  ·try dsimp only [Sum.elim_inl, Sum.elim_inr] at h
   try dsimp only [Sum.elim_inl, Sum.elim_inr]
   refine hK14 _ _ ?_
   clear hK14
   refine awp_rS ftCOk [5] [(4, .sl 2)] ?_
   refine awp_ret ?_
   obtain rfl := Option.some.inj h
   exact finQ [0, 2]
theorem k_impl_bodiesOf_1 {υ : Type} (Φ : υ → ExtP) (l : Nat) (a1_0 : Int) (a1_1 : List Int) (a1_2 : List Bool) (a1_3 : List (Int × Int × Int)) (yld : (List Int) → υ → Option (Bool × υ)) (u : υ) (hY : ∀ (x : List Int) (u : υ) (b : Bool) (u' : υ), yld x u = some (b, u') → RoundA Tryz.prog l (Φ u) [.sl 0] [oI x] (fun b2 Φ2 => b2 = b ∧ Φ2 = Φ u')) {r : υ} (h : impl_bodiesOf_1 a1_0 a1_1 a1_2 a1_3 yld u = some r) :
 FnA Tryz.prog 59 [.v (yv l), .pp 1 0] [.ext (Φ u), .rbox [iV a1_0, .sl 2, .sl 3, .sl 4], rI a1_1, rB a1_2, rT a1_3] [] (fun x H => x = .tup [] ∧ H = [.ext (Φ r), .rbox [iV a1_0, .sl 2, .sl 3, .sl 4], rI a1_1, rB a1_2, rT a1_3]) := by
 unfold impl_bodiesOf_1 at h
 refine FnA.ofA 67 [0, 1, 2, 3, 4] [] Tryz.func59 en59 ?_
 refine awp_seq fun K2 hK2 => ?_
 replace ⟨y, hr0, h⟩ := bind_some h
 replace ⟨⟨y_1, u_1⟩, hr1, h⟩ := bind_some h
 try dsimp only at h
 refine awp_t [] [(20, bV (!y_1))] [(0, .ext (Φ u_1))] [oI [a1_0, (a1_1.length : Int), (a1_3.length : Int)], .dead] ?_ ?_
 ·clear h
  intro K hK
  refine awp_regionYi 11 ?_
  refine vcOps_sound ftCOk ?_
  simp (maxSteps := 4000000) only [go_sem]
  repeat' (first | refine And.intro ?_ ?_ | intro hg)
  all_goals (try simp (disch := omega) only [wrap_fits])
  all_goals first
   | exact al0
   | (refine wpA_callA (k_impl_taggedBody 1 [a1_0, (a1_1.length : Int), (a1_3.length : Int)] (h := hr0)) [5] [] ?_
      rintro x Hc' ⟨rfl, rfl⟩ hlen
      refine vcOps_sound ftCOk ?_
      exact au10)
   | exact al1
 ·clear hr0 hr1
  refine awp_if h ?_ ?_ <;> clear h <;> intro hc h
  ·refine awp_ret ?_
   obtain rfl := Option.some.inj h
   exact finQ [0, 1, 2, 3, 4]
  ·refine awp_skip ?_
   refine hK2 _ _ ?_
   clear hK2
   refine awp_seq fun K35 hK35 => ?_
   refine awp_rS ftCOk [20] [(22, .sl 2), (23, iV (a1_1.length : Int)), (24, iV 0)] ?_
   refine awp_block ?_
   replace h := bind_some h
   obtain ⟨x66, hx, h⟩ := h
   refine awp_loopL hx (fun (t24, p0s) => [(0, .v (yv l)), (1, .pp 1 0), (22, .sl 2), (23, iV (a1_1.length : Int)), (24, iV t24)]) (fun (t24, p0s) => [.ext (Φ p0s), .rbox [iV a1_0, .sl 2, .sl 3, .sl 4], rI a1_1, rB a1_2, rT a1_3]) (Sum.elim (fun _ => Exit.exit 0) (fun _ => Exit.ret)) (Sum.elim (fun p0s_1 => [(0, .v (yv l)), (1, .pp 1 0)]) (fun p0s_2 => [])) (Sum.elim (fun p0s_1 => [.ext (Φ p0s_1), .rbox [iV a1_0, .sl 2, .sl 3, .sl 4], rI a1_1, rB a1_2, rT a1_3]) (fun p0s_2 => [.ext (Φ p0s_2), .rbox [iV a1_0, .sl 2, .sl 3, .sl 4], rI a1_1, rB a1_2, rT a1_3])) ?_ ?_ ?_ ?_
   ·rintro (p0s_1 | p0s_2) hy <;> cases hy
   ·clear h hx
    exact Red.selA [0, 1, 2, 3, 4] Red.auto
   ·clear h hx
    rintro ⟨t24, p0s⟩ r h
    unfold impl_bodiesOf_1_b0 at h
    try dsimp only at h
    try dsimp only
    refine awp_rS ftCOk [] [(25, bV (decide (t24 < (a1_1.length : Int))))] ?_
    refine awp_seq fun K57 hK57 => ?_
    refine awp_if h ?_ ?_ <;> clear h <;> intro hc h
    ·refine awp_skip ?_
     refine hK57 _ _ ?_
     clear hK57
     refine awp_seq fun K62 hK62 => ?_
     refine awp_block ?_
     replace ⟨hp0, h⟩ := chk_some h
     refine awp_rS ftCOk [25] [(3, iV t24), (4, iV (a1_1.getD t24.toNat 0))] ?_
     clear hp0
     refine awp_rS ftCOk [] [(5, iV 0)] ?_
     refine awp_join h (fun t5 => [(0, .v (yv l)), (1, .pp 1 0), (4, iV (a1_1.getD t24.toNat 0)), (5, iV t5), (22, .sl 2), (23, iV (a1_1.length : Int)), (24, iV t24)]) (fun t5 => [.ext (Φ p0s), .rbox [iV a1_0, .sl 2, .sl 3, .sl 4], rI a1_1, rB a1_2, rT a1_3]) ?_ ?_
     ·clear h
      intro k h
      try dsimp only at h
      replace ⟨hp0, h⟩ := chk_some h
      refine awp_rS ftCOk [3] [(33, bV (a1_2.getD t24.toNat false))] ?_
      clear hp0
      refine awp_if h ?_ ?_ <;> clear h <;> intro hc h
      ·refine awp_rES ftCOk [5, 33] [(5, iV 1)] ?_
       refine nm ?_
       refine ⟨_, h, ?_⟩
       exact Red.auto
      ·refine awp_skip ?_
       refine nm ?_
       refine ⟨_, h, ?_⟩
       exact Red.auto
     ·clear h
      rintro t5 h
      try dsimp only at h
      try dsimp only
      replace ⟨hp0, h⟩ := chk_some h
      replace ⟨y_2, hr1, h⟩ := bind_some h
      replace ⟨hp2, h⟩ := chk_some h
      replace ⟨⟨y_3, u_2⟩, hr3, h⟩ := bind_some h
      try dsimp only at h
      refine awp_t [4, 5] [(43, bV (!y_3))] [(0, .ext (Φ u_2))] [oI [((a1_1.getD t24.toNat 0) + 1)], .dead, oI [t5]] ?_ ?_
      ·clear h
       intro K hK
       refine awp_regionYi 8 ?_
       refine vcOps_sound ftCOk ?_
       simp (maxSteps := 4000000) only [go_sem]
       repeat' (first | refine And.intro ?_ ?_ | intro hg)
       all_goals (try simp (disch := omega) only [wrap_fits])
       all_goals first
        | exact al0
        | (refine wpA_callA (k_impl_taggedBody 2 [((a1_1.getD t24.toNat 0) + 1)] (h := hr1)) [5] [] ?_
           rintro x Hc' ⟨rfl, rfl⟩ hlen
           refine vcOps_sound ftCOk ?_
           simp (maxSteps := 4000000) only [go_sem]
           repeat' (first | refine And.intro ?_ ?_ | intro hg)
           all_goals (try simp (disch := omega) only [wrap_fits])
           all_goals first
            | exact al0
            | (refine OpYA (hY _ _ _ _ hr3) 0 [6] [6] ?_
               rintro b Φ' ⟨rfl, rfl⟩
               refine vcOps_sound ftCOk ?_
               exact auV)
            | exact al1)
        | exact al1
      ·clear hp0 hr1 hp2 hr3
       refine awp_if h ?_ ?_ <;> clear h <;> intro hc h
       ·refine awp_ret ?_
        refine nm ?_
        obtain rfl := Option.some.inj h
        refine LoopQ.out rfl ?_
        exact Red.selA [0, 1, 2, 3, 4] Red.auto
       ·refine awp_skip ?_
        refine hK62 _ _ ?_
        clear hK62
        replace ⟨hp0, h⟩ := chk_some h
        refine awp_rES ftCOk [24, 43] [(24, iV (t24 + 1))] ?_
        clear hp0
        obtain rfl := Option.some.inj h
        refine LoopQ.next ?_
        exact Red.selA [0, 1, 2, 3, 4] Red.auto
    ·refine awp_exit ?_
     refine nm ?_
     obtain rfl := Option.some.inj h
     refine LoopQ.out rfl ?_
     exact Red.auto
   ·clear hx
    rcases x66 with (p0s_1 | p0s_2)
    ·try dsimp only [Sum.elim_inl, Sum.elim_inr] at h
     try dsimp only [Sum.elim_inl, Sum.elim_inr]
     refine hK35 _ _ ?_
     clear hK35
     refine awp_seq fun K86 hK86 => ?_
     refine awp_rS ftCOk [1] [(46, .sl 4), (47, iV (a1_3.length : Int)), (48, iV 0)] ?_
     refine awp_block ?_
     replace h := bind_some h
     obtain ⟨x105, hx, h⟩ := h
     refine awp_loopL hx (fun (t48, p0s_3) => [(0, .v (yv l)), (46, .sl 4), (47, iV (a1_3.length : Int)), (48, iV t48)]) (fun (t48, p0s_3) => [.ext (Φ p0s_3), .rbox [iV a1_0, .sl 2, .sl 3, .sl 4], rI a1_1, rB a1_2, rT a1_3]) (Sum.elim (fun _ => Exit.exit 2) (fun _ => Exit.ret)) (Sum.elim (fun p0s_4 => [(0, .v (yv l))]) (fun p0s_5 => [])) (Sum.elim (fun p0s_4 => [.ext (Φ p0s_4), .rbox [iV a1_0, .sl 2, .sl 3, .sl 4], rI a1_1, rB a1_2, rT a1_3]) (fun p0s_5 => [.ext (Φ p0s_5), .rbox [iV a1_0, .sl 2, .sl 3, .sl 4], rI a1_1, rB a1_2, rT a1_3])) ?_ ?_ ?_ ?_
     ·rintro (p0s_4 | p0s_5) hy <;> cases hy
     ·clear h hx
      exact Red.auto
     ·clear h hx
      rintro ⟨t48, p0s_3⟩ r h
      unfold impl_bodiesOf_1_b1 at h
      try dsimp only at h
      try dsimp only
      refine awp_rS ftCOk [] [(49, bV (decide (t48 < (a1_3.length : Int))))] ?_
      refine awp_seq fun K100 hK100 => ?_
      refine awp_if h ?_ ?_ <;> clear h <;> intro hc h
      ·refine awp_skip ?_
       refine hK100 _ _ ?_
       clear hK100
       refine awp_seq fun K103 hK103 => ?_
       refine awp_block ?_
       replace ⟨hp0, h⟩ := chk_some h
       refine awp_rM ftCOk [49] [(7, .pp 5 0)] [] [.box [iV ((a1_3.getD t48.toNat (0, 0, 0)).1), iV ((a1_3.getD t48.toNat (0, 0, 0)).2.1), iV ((a1_3.getD t48.toNat (0, 0, 0)).2.2)]] ?_
       clear hp0
       replace ⟨y_4, hr0, h⟩ := bind_some h
       replace ⟨⟨y_5, u_3⟩, hr1, h⟩ := bind_some h
       try dsimp only at h
       refine awp_t [7] [(62, bV (!y_5))] [(0, .ext (Φ u_3))] [oI [(a1_3.getD t48.toNat (0, 0, 0)).1, (a1_3.getD t48.toNat (0, 0, 0)).2.1, (a1_3.getD t48.toNat (0, 0, 0)).2.2], .dead] ?_ ?_
       ·clear h
        intro K hK
        refine awp_regionYi 9 ?_
        refine vcOps_sound ftCOk ?_
        simp (maxSteps := 4000000) only [go_sem]
        repeat' (first | refine And.intro ?_ ?_ | intro hg)
        all_goals (try simp (disch := omega) only [wrap_fits])
        all_goals first
         | exact al0
         | (refine wpA_callA (k_impl_taggedBody 3 [(a1_3.getD t48.toNat (0, 0, 0)).1, (a1_3.getD t48.toNat (0, 0, 0)).2.1, (a1_3.getD t48.toNat (0, 0, 0)).2.2] (h := hr0)) [6] [] ?_
            rintro x Hc' ⟨rfl, rfl⟩ hlen
            refine vcOps_sound ftCOk ?_
            simp (maxSteps := 4000000) only [go_sem]
            repeat' (first | refine And.intro ?_ ?_ | intro hg)
            all_goals (try simp (disch := omega) only [wrap_fits])
            all_goals first
             | exact al0
             | (refine OpYA (hY _ _ _ _ hr1) 0 [7] [7] ?_
                rintro b Φ' ⟨rfl, rfl⟩
                refine vcOps_sound ftCOk ?_
                exact auV)
             | exact al1)
         | exact al1
       ·clear hr0 hr1
        refine awp_if h ?_ ?_ <;> clear h <;> intro hc h
        ·refine awp_ret ?_
         refine nm ?_
         obtain rfl := Option.some.inj h
         refine LoopQ.out rfl ?_
         exact Red.selA [0, 1, 2, 3, 4] Red.auto
        ·refine awp_skip ?_
         refine hK103 _ _ ?_
         clear hK103
         replace ⟨hp0, h⟩ := chk_some h
         refine awp_rES ftCOk [48, 62] [(48, iV (t48 + 1))] ?_
         clear hp0
         obtain rfl := Option.some.inj h
         refine LoopQ.next ?_
         exact Red.selA [0, 1, 2, 3, 4] Red.auto
      ·refine awp_exit ?_
       refine nm ?_
       obtain rfl := Option.some.inj h
       refine LoopQ.out rfl ?_
       exact Red.auto
     ·clear hx
      rcases x105 with (p0s_4 | p0s_5)
      ·try dsimp only [Sum.elim_inl, Sum.elim_inr] at h
       try dsimp only [Sum.elim_inl, Sum.elim_inr]
       refine hK86 _ _ ?_
       clear hK86
       replace ⟨y_6, hr0, h⟩ := bind_some h
       replace ⟨⟨y_7, u_4⟩, hr1, h⟩ := bind_some h
       try dsimp only at h
       refine awp_tE [0] [] [(0, .ext (Φ u_4))] [oI [], .dead] ?_ ?_
       ·clear h
        intro K hK
        refine awp_regionYi 2 ?_
        refine vcOps_sound ftCOk ?_
        simp (maxSteps := 4000000) only [go_sem]
        repeat' (first | refine And.intro ?_ ?_ | intro hg)
        all_goals (try simp (disch := omega) only [wrap_fits])
        all_goals first
         | exact al0
         | (refine wpA_callN (k_impl_taggedBody 4 [] (h := hr0)) (.ints .i64 []) [5] [] ?_
            rintro x Hc' ⟨rfl, rfl⟩ hlen
            refine vcOps_sound ftCOk ?_
            exact au10)
         | exact al1
       ·clear hr0 hr1
        obtain rfl := Option.some.inj h
        exact finQ [0, 1, 2, 3, 4]
      ·try dsimp only [Sum.elim_inl, Sum.elim_inr] at h
       try dsimp only [Sum.elim_inl, Sum.elim_inr]
       obtain rfl := Option.some.inj h
       exact finQ [0, 1, 2, 3, 4]
    ·try dsimp only [Sum.elim_inl, Sum.elim_inr] at h
     try dsimp only [Sum.elim_inl, Sum.elim_inr]
     obtain rfl := Option.some.inj h
     exact finQ [0, 1, 2, 3, 4]
theorem k_impl_bodyValid (a0 : List Int) {r : Bool} (h : impl_bodyValid a0 = some r) :
 FnA Tryz.prog 79 [.sl 0] [rI a0] [] (fun x H => x = bV r ∧ H = [rI a0]) := by
 unfold impl_bodyValid at h
 refine FnA.ofA 15 [0] [.tmp 2] Tryz.func79 en79 ?_
 refine awp_rS ftCOk [] [] ?_
 replace ⟨y, hr0, h⟩ := bind_some h
 refine awp_t [0] [(2, bV (((decide (1 ≤ (a0.length : Int))) && (decide ((a0.length : Int) ≤ 100))) && y))] [] [] ?_ ?_
 ·clear h
  intro K hK
  refine awp_regionA ?_
  refine wpA_cutAt 8 [(0, .sl 0), (10, bV ((decide (1 ≤ (a0.length : Int))) && (decide ((a0.length : Int) ≤ 100))))] [rI a0] ?_ ?_
  ·clear hK K
   intro K hK
   refine vcOps_sound ftCOk ?_
   exact auV
  refine vcOps_sound ftCOk ?_
  simp (maxSteps := 4000000) only [go_sem]
  repeat' (first | refine And.intro ?_ ?_ | intro hg)
  all_goals (try simp (disch := omega) only [wrap_fits])
  all_goals first
   | exact al0
   | (refine wpA_guard rfl rfl ?_
      refine wpA_callA (k_impl_BytesValid a0 (h := (bite_t hr0 byg))) [0] [] ?_
      rintro x Hc' ⟨rfl, rfl⟩ hlen
      refine vcOps_sound ftCOk ?_
      exact auV)
   | exact al1
 ·clear hr0
  refine awp_ret ?_
  obtain rfl := Option.some.inj h
  exact finQ [0]
theorem k_impl_CheckSum (a0 : List Int) {r : Int} (h : impl_CheckSum a0 = some r) :
 FnA Tryz.prog 26 [.sl 0] [rI a0] [] (fun x H => x = iV r ∧ H = [rI a0]) := by
 unfold impl_CheckSum at h
 refine FnA.ofA 23 [0] [.tmp 2] Tryz.func26 en26 ?_
 refine awp_rS ftCOk [] [] ?_
 refine awp_seq fun K2 hK2 => ?_
 replace ⟨y, hr0, h⟩ := bind_some h
 refine awp_c ftCOk [] [(8, bV (!y))] [] [] [⟨1, [0], k_impl_BytesValid a0 (h := hr0)⟩] ?_
 clear hr0
 refine awp_if h ?_ ?_ <;> clear h <;> intro hc h
 ·refine awp_rS ftCOk [0, 8] [(2, iV (-1))] ?_
  refine awp_ret ?_
  obtain rfl := Option.some.inj h
  exact finQ [0]
 ·refine awp_skip ?_
  refine hK2 _ _ ?_
  clear hK2
  refine awp_rS ftCOk [8] [(3, iV 7)] ?_
  refine awp_seq fun K17 hK17 => ?_
  refine awp_rS ftCOk [0] [(9, .sl 0), (10, iV (a0.length : Int)), (11, iV 0)] ?_
  refine awp_block ?_
  replace h := bind_some h
  obtain ⟨t3_1, hx, h⟩ := h
  refine awp_loopL hx (fun (t3, t11) => [(3, iV t3), (9, .sl 0), (10, iV (a0.length : Int)), (11, iV t11)]) (fun (t3, t11) => [rI a0]) (fun _ => Exit.exit 0) (fun t3_1 => [(3, iV t3_1)]) (fun t3_1 => [rI a0]) ?_ ?_ ?_ ?_
  ·rintro t3_1 hy <;> cases hy
  ·clear h hx
   exact Red.auto
  ·clear h hx
   rintro ⟨t3, t11⟩ r h
   unfold impl_CheckSum_b0 at h
   try dsimp only at h
   try dsimp only
   refine awp_rS ftCOk [] [(12, bV (decide (t11 < (a0.length : Int))))] ?_
   refine awp_seq fun K27 hK27 => ?_
   refine awp_if h ?_ ?_ <;> clear h <;> intro hc h
   ·refine awp_skip ?_
    refine hK27 _ _ ?_
    clear hK27
    refine awp_seq fun K29 hK29 => ?_
    refine awp_block ?_
    replace ⟨hp0, h⟩ := chk_some h
    refine awp_rS ftCOk [12] [(5, iV (a0.getD t11.toNat 0))] ?_
    clear hp0
    replace ⟨hp0, h⟩ := chk_some h
    replace ⟨hp1, h⟩ := chk_some h
    replace ⟨hp2, h⟩ := chk_some h
    replace ⟨hp3, h⟩ := chk_some h
    refine awp_rES ftCOk [3, 5] [(3, iV ((((31 * t3) + (a0.getD t11.toNat 0)) + 1) % 251))] ?_
    clear hp0 hp1 hp2 hp3
    refine hK29 _ _ ?_
    clear hK29
    replace ⟨hp0, h⟩ := chk_some h
    refine awp_rES ftCOk [11] [(11, iV (t11 + 1))] ?_
    clear hp0
    obtain rfl := Option.some.inj h
    refine LoopQ.next ?_
    exact Red.auto
   ·refine awp_exit ?_
    refine nm ?_
    obtain rfl := Option.some.inj h
    refine LoopQ.out rfl ?_
    exact Red.auto
  ·clear hx
   skip
   ·try dsimp only [Sum.elim_inl, Sum.elim_inr] at h
    try dsimp only [Sum.elim_inl, Sum.elim_inr]
    refine hK17 _ _ ?_
    clear hK17
    refine awp_rS ftCOk [3] [(2, iV t3_1)] ?_
    refine awp_ret ?_
    obtain rfl := Option.some.inj h
    exact finQ [0]
theorem k_impl_FrameOf (a0 : List Int) {r : List Int} (h : impl_FrameOf a0 = some r) :
 FnA Tryz.prog 89 [.sl 0] [rI a0] [] (fun x H => x = .sl 1 ∧ H = [rI a0, oI r]) := by
 unfold impl_FrameOf at h
 refine FnA.ofA 24 [0] [.tmp 2] Tryz.func89 en89 ?_
 refine awp_rS ftCOk [] [] ?_
 refine awp_seq fun K2 hK2 => ?_
 replace ⟨y, hr0, h⟩ := bind_some h
 refine awp_c ftCOk [] [(6, bV (!y))] [] [] [⟨1, [0], k_impl_bodyValid a0 (h := hr0)⟩] ?_
 clear hr0
 refine awp_if h ?_ ?_ <;> clear h <;> intro hc h
 ·refine awp_rS ftCOk [0, 6] [(2, nV)] ?_
  refine awp_red (Red.nil (t := 2) (.ints .i64 []) rfl rfl) ?_
  refine awp_ret ?_
  obtain rfl := Option.some.inj h
  exact finQ [0, 1]
 ·refine awp_skip ?_
  refine hK2 _ _ ?_
  clear hK2
  replace ⟨hp0, h⟩ := chk_some h
  replace ⟨hp1, h⟩ := chk_some h
  refine awp_rM ftCOk [6] [(3, .sl 1)] [] [oI (List.replicate 0 0)] ?_
  clear hp0 hp1
  replace ⟨hp0, h⟩ := chk_some h
  refine awp_rM ftCOk [] [] [(1, oI ((List.replicate 0 0) ++ [(a0.length : Int)]))] [oI [(a0.length : Int)]] ?_
  clear hp0
  replace ⟨hp0, h⟩ := chk_some h
  refine awp_rM ftCOk [] [] [(1, oI (((List.replicate 0 0) ++ [(a0.length : Int)]) ++ a0))] [] ?_
  clear hp0
  replace ⟨y_1, hr0, h⟩ := bind_some h
  replace ⟨hp1, h⟩ := chk_some h
  refine awp_c ftCOk [0, 3] [(2, .sl 1)] [(1, oI ((((List.replicate 0 0) ++ [(a0.length : Int)]) ++ a0) ++ [y_1]))] [oI [y_1]] [⟨2, [0], k_impl_CheckSum a0 (h := hr0)⟩] ?_
  clear hr0 hp1
  refine awp_ret ?_
  obtain rfl := Option.some.inj h
  exact finQ [0, 1]
theorem k_slices_Concat_int_int (a0 : List (List Int)) {r : List Int} (h : slices_Concat_int_int a0 = some r) :
 FnA Tryz.prog 57 [.sl 0] [.row false (.intss .i64 a0)] [] (fun x H => x = .sl 1 ∧ H = [.row false (.intss .i64 a0), oI r]) := by
 unfold slices_Concat_int_int at h
 refine FnA.ofA 36 [0] [.tmp 2] Tryz.func57 en57 ?_
 refine awp_rS ftCOk [] [] ?_
 refine awp_rS ftCOk [] [(3, iV 0)] ?_
 refine awp_seq fun K26 hK26 => ?_
 refine awp_rS ftCOk [] [(9, .sl 0), (10, iV (a0.length : Int)), (11, iV 0)] ?_
 refine awp_block ?_
 replace h := bind_some h
 obtain ⟨t3_1, hx, h⟩ := h
 refine awp_loopL hx (fun (t3, t11) => [(0, .sl 0), (3, iV t3), (9, .sl 0), (10, iV (a0.length : Int)), (11, iV t11)]) (fun (t3, t11) => [.row false (.intss .i64 a0)]) (fun _ => Exit.exit 0) (fun t3_1 => [(0, .sl 0), (3, iV t3_1)]) (fun t3_1 => [.row false (.intss .i64 a0)]) ?_ ?_ ?_ ?_
 ·rintro t3_1 hy <;> cases hy
 ·clear h hx
  exact Red.auto
 ·clear h hx
  rintro ⟨t3, t11⟩ r h
  unfold slices_Concat_int_int_b0 at h
  try dsimp only at h
  try dsimp only
  refine awp_rS ftCOk [] [(12, bV (decide (t11 < (a0.length : Int))))] ?_
  refine awp_seq fun K44 hK44 => ?_
  refine awp_if h ?_ ?_ <;> clear h <;> intro hc h
  ·refine awp_skip ?_
   refine hK44 _ _ ?_
   clear hK44
   refine awp_seq fun K48 hK48 => ?_
   refine awp_block ?_
   replace h := chk_some h
   obtain ⟨hpt50, h⟩ := h
   refine awp_take 0 t11.toNat 0 (by rfl) (by exact hpt50) (by rfl) (by exact rfl) ?_
   clear hpt50
   replace ⟨hp0, h⟩ := chk_some h
   refine awp_rS ftCOk [12] [(5, .sl 1)] ?_
   clear hp0
   refine awp_put 0 1 (by rfl) (by rfl) (Cont.setChild_self (by rfl)) (by exact rfl) ?_
   replace ⟨hp0, h⟩ := chk_some h
   refine awp_rS ftCOk [3, 5] [(3, iV (t3 + ((a0.getD t11.toNat []).length : Int)))] ?_
   clear hp0
   refine awp_rS ftCOk [] [(20, bV (decide ((t3 + ((a0.getD t11.toNat []).length : Int)) < 0)))] ?_
   refine awp_if h ?_ ?_ <;> clear h <;> intro hc h
   ·cases h
   ·refine awp_skip ?_
    refine hK48 _ _ ?_
    clear hK48
    replace ⟨hp0, h⟩ := chk_some h
    refine awp_rES ftCOk [11, 20] [(11, iV (t11 + 1))] ?_
    clear hp0
    obtain rfl := Option.some.inj h
    refine LoopQ.next ?_
    exact Red.selA [0] Red.auto
  ·refine awp_exit ?_
   refine nm ?_
   obtain rfl := Option.some.inj h
   refine LoopQ.out rfl ?_
   exact Red.auto
 ·clear hx
  skip
  ·try dsimp only [Sum.elim_inl, Sum.elim_inr] at h
   try dsimp only [Sum.elim_inl, Sum.elim_inr]
   refine hK26 _ _ ?_
   clear hK26
   replace ⟨y, hr0, h⟩ := bind_some h
   refine awp_c ftCOk [3] [(6, .sl 1)] [] [oI y] [⟨1, [], k_slices_Grow_int_int t3_1 (h := hr0)⟩] ?_
   clear hr0
   refine awp_seq fun K71 hK71 => ?_
   refine awp_rS ftCOk [0] [(25, .sl 0), (26, iV (a0.length : Int)), (27, iV 0)] ?_
   refine awp_block ?_
   replace h := bind_some h
   obtain ⟨t6s_1, hx, h⟩ := h
   refine awp_loopL hx (fun (t27, t6s) => [(6, .sl 1), (25, .sl 0), (26, iV (a0.length : Int)), (27, iV t27)]) (fun (t27, t6s) => [.row false (.intss .i64 a0), oI t6s]) (fun _ => Exit.exit 2) (fun t6s_1 => [(6, .sl 1)]) (fun t6s_1 => [.row false (.intss .i64 a0), oI t6s_1]) ?_ ?_ ?_ ?_
   ·rintro t6s_1 hy <;> cases hy
   ·clear h hx
    exact Red.auto
   ·clear h hx
    rintro ⟨t27, t6s⟩ r h
    unfold slices_Concat_int_int_b1 at h
    try dsimp only at h
    try dsimp only
    refine awp_rS ftCOk [] [(28, bV (decide (t27 < (a0.length : Int))))] ?_
    refine awp_seq fun K85 hK85 => ?_
    refine awp_if h ?_ ?_ <;> clear h <;> intro hc h
    ·refine awp_skip ?_
     refine hK85 _ _ ?_
     clear hK85
     refine awp_seq fun K88 hK88 => ?_
     refine awp_block ?_
     replace h := chk_some h
     obtain ⟨hpt89, h⟩ := h
     refine awp_take 0 t27.toNat 0 (by rfl) (by exact hpt89) (by rfl) (by exact rfl) ?_
     clear hpt89
     replace ⟨hp0, h⟩ := chk_some h
     refine awp_rS ftCOk [28] [(8, .sl 2)] ?_
     clear hp0
     refine awp_put 0 2 (by rfl) (by rfl) (Cont.setChild_self (by rfl)) (by exact rfl) ?_
     replace ⟨hp0, h⟩ := chk_some h
     refine awp_rEM ftCOk [8] [] [(1, oI (t6s ++ (a0.getD t27.toNat [])))] [] ?_
     clear hp0
     refine hK88 _ _ ?_
     clear hK88
     replace ⟨hp0, h⟩ := chk_some h
     refine awp_rES ftCOk [27] [(27, iV (t27 + 1))] ?_
     clear hp0
     obtain rfl := Option.some.inj h
     refine LoopQ.next ?_
     exact Red.selA [0, 1] Red.auto
    ·refine awp_exit ?_
     refine nm ?_
     obtain rfl := Option.some.inj h
     refine LoopQ.out rfl ?_
     exact Red.auto
   ·clear hx
    skip
    ·try dsimp only [Sum.elim_inl, Sum.elim_inr] at h
     try dsimp only [Sum.elim_inl, Sum.elim_inr]
     refine hK71 _ _ ?_
     clear hK71
     refine awp_rS ftCOk [6] [(2, .sl 1)] ?_
     refine awp_ret ?_
     obtain rfl := Option.some.inj h
     exact finQ [0, 1]
theorem k_impl_DiskWrite (a0_0 : List Int) (a0_1 : List Int) (a1 : List Int) {r : List Int × List Int × Bool} (h : impl_DiskWrite a0_0 a0_1 a1 = some r) :
 FnA Tryz.prog 62 [.agg [.sl 0, .sl 1], .sl 2] [rI a0_0, rI a0_1, rI a1] [] (fun x H => x = .tup [.agg [.sl 3, .sl 4], bV r.2.2] ∧ H = [rI a0_0, rI a0_1, rI a1, oI r.1, oI r.2.1]) := by
 unfold impl_DiskWrite at h
 refine FnA.ofA 39 [0, 1, 2] [.cell 4 30, .tmp 5] Tryz.func62 en62 ?_
 refine awp_rM ftCOk [0] [(2, .pp 3 0), (4, .pp 4 0)] [] [.box [.sl 0, .sl 1], .box [nV, nV]] ?_
 refine awp_freeze 2 (by rfl) (by rfl) (by exact rfl) ?_
 refine awp_seq fun K2 hK2 => ?_
 replace ⟨y, hr0, h⟩ := bind_some h
 refine awp_c ftCOk [] [(9, bV (!y))] [] [] [⟨1, [0, 1], k_impl_DiskValid a0_0 a0_1 (h := hr0)⟩] ?_
 clear hr0
 refine awp_if h ?_ ?_ <;> clear h <;> intro hc h
 ·refine awp_rS ftCOk [1, 2, 9] [(5, bV false)] ?_
  refine awp_red (Red.nilCell (o := 4) (i := 0) (.ints .i64 []) rfl rfl rfl) ?_
  refine awp_red (Red.nilCell (o := 4) (i := 1) (.ints .i64 []) rfl rfl rfl) ?_
  refine awp_ret ?_
  obtain rfl := Option.some.inj h
  exact finQ [0, 1, 2, 5, 6]
 ·refine awp_skip ?_
  refine hK2 _ _ ?_
  clear hK2
  replace ⟨y_1, hr0, h⟩ := bind_some h
  refine awp_c ftCOk [1, 9] [(6, .sl 5)] [] [oI y_1] [⟨1, [2], k_impl_FrameOf a1 (h := hr0)⟩] ?_
  clear hr0
  refine awp_seq fun K5 hK5 => ?_
  have hboth := both_some h
  refine awp_isnilC (by rfl) (by rfl) Tryz.underlying23 rfl rfl (by rfl) fun b hb => ?_
  replace h := hboth b hb
  clear hboth
  replace ⟨hp0, h⟩ := chk_some h
  replace ⟨hp1, h⟩ := chk_some h
  refine ⟨[(2, .pp 3 0), (4, .pp 4 0), (6, .sl 5), (27, bV (b || (decide (2000 < (((a0_0.length : Int) + (a0_1.length : Int)) + (y_1.length : Int))))))], [rI a0_0, rI a0_1, rI a1, .rbox [.sl 0, .sl 1], .box [nV, nV], oI y_1], ?_, ?_⟩
  ·clear h
   intro K hK
   refine vcOps_sound ftCOk ?_
   exact au9
  ·clear hp0 hp1
   refine awp_if h ?_ ?_ <;> clear h <;> intro hc h
   ·replace ⟨⟨y_2, y_3⟩, hr0, h⟩ := bind_some h
    try dsimp only at h
    refine awp_c ftCOk [2, 6, 27] [(5, bV false)] [(4, .box [.sl 6, .sl 7])] [oI y_2, oI y_3] [⟨1, [0, 1], k_impl_Disk_copied a0_0 a0_1 (h := hr0)⟩] ?_
    clear hr0
    refine awp_ret ?_
    obtain rfl := Option.some.inj h
    exact finQ [0, 1, 2, 6, 7]
   ·refine awp_skip ?_
    refine hK5 _ _ ?_
    clear hK5
    refine awp_freezeRow 6 (by rfl) (by rfl) (by exact rfl) ?_
    replace ⟨y_4, hr0, h⟩ := bind_some h
    replace ⟨y_5, hr1, h⟩ := bind_some h
    refine awp_t [2, 6, 27] [(5, bV true)] [(4, .box [.sl 6, .sl 8])] [oI y_4, .row false (.intss .i64 [a0_1, y_1]), oI y_5] ?_ ?_
    ·clear h
     intro K hK
     refine awp_drawM [0, 1, 2, 3, 4, 5] [0, 3, 5, 1, 4] 6 #[true, true, false, true, true, true, false, false, false, false, false] mixed ftCOk (by kernel_rfl) (by first | rfl | kernel_rfl) (by rfl) (by simp) fun L hL hN => ?_
     refine hN.node L 0 #[true, true, true, true, true, true, true, true, true, true, true] 6 [] [(5, bV true), (30, .pp 3 0), (31, .sl 0), (32, .sl 6), (33, .pp 3 1), (34, .sl 1), (35, .sl 5), (36, .sl 7), (37, .sl 8), (38, .agg [.sl 6, .sl 8])] [(4, .box [.sl 6, .sl 8])] [oI y_4, .row false (.intss .i64 [a0_1, y_1]), oI y_5] ?_ fun n4 hN => ?_
     ·exact hL.fin (by kernel_rfl) (hK _ _ Red.auto)
     refine hN.node L 2 #[true, true, true, true, true, true, true, true, true, false, false] 9 [5] [] [(4, .box [nV, nV])] [] ?_ fun n3 hN => ?_
     ·refine hL.step [(9, [10], 0, #[true, true, true, true, true, true, true, true, true, true, true])] (by kernel_rfl) ⟨?_, trivial⟩
      ·exact hL.edge n4
     refine hN.node L 4 #[true, true, true, true, true, true, true, false, false, false, false] 8 [37, 38] [] [] [] ?_ fun n2 hN => ?_
     ·refine hL.step [(7, [8], 2, #[true, true, true, true, true, true, true, true, true, false, false])] (by kernel_rfl) ⟨?_, trivial⟩
      ·have nn := n3
       simp (maxSteps := 4000000) only [go_sem]
       repeat' (first | refine And.intro ?_ ?_ | intro hg)
       all_goals (try simp (disch := omega) only [wrap_fits])
       all_goals first
        | (refine hL.red ?_ nn; exact Red.auto)
        | exact al0
        | (refine OpK_callA (k_slices_Concat_int_int [a0_1, y_1] (h := hr1)) [7] [] ?_
           rintro x Hc' ⟨rfl, rfl⟩ hlen
           exact au4)
        | (exact au3)
        | exact al1
     refine hN.node L 5 #[true, true, true, true, true, true, false, false, false, false, false] 7 [36] [] [] [] ?_ fun n1 hN => ?_
     ·refine hL.step [(6, [], 4, #[true, true, true, true, true, true, true, false, false, false, false])] (by kernel_rfl) ⟨?_, trivial⟩
      ·exact hL.edge n2
     refine hN.node L 5 #[true, true, false, true, true, true, true, false, false, false, false] 7 [32] [(36, .sl 6)] [(6, .row false (.intss .i64 [a0_1, y_1]))] [] ?_ fun n5 hN => ?_
     ·refine hL.step [(2, [], 4, #[true, true, true, true, true, true, true, false, false, false, false])] (by kernel_rfl) ⟨?_, trivial⟩
      ·have nn := n2
       simp (maxSteps := 4000000) only [go_sem]
       repeat' (first | refine And.intro ?_ ?_ | intro hg)
       all_goals (try simp (disch := omega) only [wrap_fits])
       all_goals first
        | (refine hL.red ?_ nn; exact Red.selA [0, 1, 2, 3, 4, 5, 7, 6] Red.auto)
        | exact al0
        | (refine OpK_callA (k_slices_Clone_int_int a0_0 (h := hr0)) [0] [] ?_
           rintro x Hc' ⟨rfl, rfl⟩ hlen
           simp (maxSteps := 4000000) only [go_sem]
           repeat' (first | refine And.intro ?_ ?_ | intro hg)
           all_goals (try simp (disch := omega) only [wrap_fits])
           all_goals first | (refine hL.red ?_ nn; exact Red.selA [0, 1, 2, 3, 4, 5, 7, 6] Red.auto) | exact al0 | exact al1)
        | (simp (maxSteps := 4000000) only [go_sem]
           repeat' (first | refine And.intro ?_ ?_ | intro hg)
           all_goals (try simp (disch := omega) only [wrap_fits])
           all_goals first | (refine hL.red ?_ nn; exact Red.selA [0, 1, 2, 3, 4, 5, 7, 6] Red.auto) | exact al0)
        | exact al1
     refine hN.node L 6 #[true, true, false, true, true, true, false, false, false, false, false] 6 [36] [] [] [] ?_ fun n0 hN => ?_
     ·refine hL.step [(2, [], 5, #[true, true, true, true, true, true, false, false, false, false, false]), (6, [], 5, #[true, true, false, true, true, true, true, false, false, false, false])] (by kernel_rfl) ⟨?_, ?_, trivial⟩
      ·have nn := n1
       simp (maxSteps := 4000000) only [go_sem]
       repeat' (first | refine And.intro ?_ ?_ | intro hg)
       all_goals (try simp (disch := omega) only [wrap_fits])
       all_goals first
        | (refine hL.red ?_ nn; exact Red.auto)
        | exact al0
        | (refine OpK_callA (k_slices_Clone_int_int a0_0 (h := hr0)) [0] [] ?_
           rintro x Hc' ⟨rfl, rfl⟩ hlen
           exact au4)
        | (exact au3)
        | exact al1
      ·exact hL.edge n5
     have nn := n0
     exact au14
    ·clear hr0 hr1
     refine awp_ret ?_
     obtain rfl := Option.some.inj h
     exact finQ [0, 1, 2, 6, 8]
theorem k_impl_Disk_kept (a0_0 : List Int) (a0_1 : List Int) (a1 : Int) {r : List Int × List Int} (h : impl_Disk_kept a0_0 a0_1 a1 = some r) :
 FnA Tryz.prog 44 [.agg [.sl 0, .sl 1], iV a1] [rI a0_0, rI a0_1] [] (fun x H => x = .agg [.sl 2, .sl 3] ∧ H = [rI a0_0, rI a0_1, oI r.1, oI r.2]) := by
 unfold impl_Disk_kept at h
 refine FnA.ofA 19 [0, 1] [.cell 4 30] Tryz.func44 en44 ?_
 refine awp_rM ftCOk [0] [(2, .pp 2 0), (4, .pp 3 0)] [] [.box [.sl 0, .sl 1], .box [nV, nV]] ?_
 refine awp_freeze 2 (by rfl) (by rfl) (by exact rfl) ?_
 refine awp_rS ftCOk [1] [(1, iV (min a1 (a0_1.length : Int)))] ?_
 replace ⟨hp0, h⟩ := chk_some h
 replace ⟨y, hr1, h⟩ := bind_some h
 refine awp_t [1, 2] [] [(3, .box [.sl 6, nV])] [rI ((a0_1.take ((min a1 (a0_1.length : Int)).toNat)).drop 0), .row false (.intss .i64 [a0_0, ((a0_1.take ((min a1 (a0_1.length : Int)).toNat)).drop 0)]), oI y] ?_ ?_
 ·clear h
  intro K hK
  refine awp_drawT mixed ftCOk (.free 0 (.free 2 (.free 4 (.free 1 (.one 3 (.one 5 (.one 6 (.one 7 (.one 8 (.one 9 .fin)))))))))) (by kernel_rfl) (by simp) ?_
  simp (maxSteps := 4000000) only [go_sem]
  repeat' (first | refine And.intro ?_ ?_ | intro hg)
  all_goals (try simp (disch := omega) only [wrap_fits])
  all_goals first
   | exact al0
   | (refine OpK_callA (k_slices_Concat_int_int [a0_0, ((a0_1.take ((min a1 (a0_1.length : Int)).toNat)).drop 0)] (h := hr1)) [5] [] ?_
      rintro x Hc' ⟨rfl, rfl⟩ hlen
      exact auV)
   | exact al1
 ·clear hp0 hr1
  refine awp_red (Red.nilCell (o := 3) (i := 1) (.ints .i64 []) rfl rfl rfl) ?_
  refine awp_ret ?_
  obtain rfl := Option.some.inj h
  exact finQ [0, 1, 6, 7]
theorem k_impl_DiskSync (a0_0 : List Int) (a0_1 : List Int) {r : List Int × List Int} (h : impl_DiskSync a0_0 a0_1 = some r) :
 FnA Tryz.prog 36 [.agg [.sl 0, .sl 1]] [rI a0_0, rI a0_1] [] (fun x H => x = .agg [.sl 2, .sl 3] ∧ H = [rI a0_0, rI a0_1, oI r.1, oI r.2]) := by
 unfold impl_DiskSync at h
 refine FnA.ofA 12 [0, 1] [.cell 2 30] Tryz.func36 en36 ?_
 refine awp_rM ftCOk [0] [(1, .pp 2 0), (2, .pp 3 0)] [] [.box [.sl 0, .sl 1], .box [nV, nV]] ?_
 refine awp_freeze 1 (by rfl) (by rfl) (by exact rfl) ?_
 refine awp_seq fun K2 hK2 => ?_
 replace ⟨y, hr0, h⟩ := bind_some h
 refine awp_c ftCOk [] [(5, bV (!y))] [] [] [⟨1, [0, 1], k_impl_DiskValid a0_0 a0_1 (h := hr0)⟩] ?_
 clear hr0
 refine awp_if h ?_ ?_ <;> clear h <;> intro hc h
 ·refine awp_rS ftCOk [1, 5] [] ?_
  refine awp_red (Red.nilCell (o := 3) (i := 0) (.ints .i64 []) rfl rfl rfl) ?_
  refine awp_red (Red.nilCell (o := 3) (i := 1) (.ints .i64 []) rfl rfl rfl) ?_
  refine awp_ret ?_
  obtain rfl := Option.some.inj h
  exact finQ [0, 1, 4, 5]
 ·refine awp_skip ?_
  refine hK2 _ _ ?_
  clear hK2
  replace ⟨⟨y_1, y_2⟩, hr0, h⟩ := bind_some h
  try dsimp only at h
  refine awp_c ftCOk [1, 5] [] [(3, .box [.sl 4, .sl 5])] [oI y_1, oI y_2] [⟨4, [0, 1], k_impl_Disk_kept a0_0 a0_1 (a0_1.length : Int) (h := hr0)⟩] ?_
  clear hr0
  refine awp_ret ?_
  obtain rfl := Option.some.inj h
  exact finQ [0, 1, 4, 5]
theorem k_impl_bodiesOf_v2 (a0_0 : List Int) (a0_1 : List Int) (a1_0 : Int) (a1_1 : List Int) (a1_2 : List Bool) (a1_3 : List (Int × Int × Int)) {r : Int} (h : impl_bodiesOf_v2 a0_0 a0_1 a1_0 a1_1 a1_2 a1_3 = some r) :
 FnA Tryz.prog 32 [.agg [iV a1_0, .sl 2, .sl 3, .sl 4]] [rI a0_0, rI a0_1, rI a1_1, rB a1_2, rT a1_3, .rbox [.sl 0, .sl 1], .rbox [iV a1_0, .sl 2, .sl 3, .sl 4], .box [nV, nV], .box [.sl 0, .sl 1], .rbox [iV a1_0, .sl 2, .sl 3, .sl 4], .box [nV, nV], .box [bV false]] [] (fun x H => x = .ip 12 (.clo 59) ∧ H = [rI a0_0, rI a0_1, rI a1_1, rB a1_2, rT a1_3, .rbox [.sl 0, .sl 1], .rbox [iV a1_0, .sl 2, .sl 3, .sl 4], .box [nV, nV], .box [.sl 0, .sl 1], .rbox [iV a1_0, .sl 2, .sl 3, .sl 4], .box [nV, nV], .box [bV false], .rbox [iV r, .sl 2, .sl 3, .sl 4]]) := by
 unfold impl_bodiesOf_v2 at h
 refine FnA.ofA 4 [0, 1, 2, 3, 4, 5, 6, 7, 8, 9, 10, 11] [.tmp 2] Tryz.func32 en32 ?_
 refine awp_rM ftCOk [0] [(1, .pp 12 0)] [] [.box [iV a1_0, .sl 2, .sl 3, .sl 4]] ?_
 refine awp_freeze 1 (by rfl) (by rfl) (by exact rfl) ?_
 refine awp_rS ftCOk [1] [(2, .ip 12 (.clo 59))] ?_
 refine awp_ret ?_
 obtain rfl := Option.some.inj h
 exact finQ [0, 1, 2, 3, 4, 5, 6, 7, 8, 9, 10, 11, 12]
theorem k_impl_written_v2 (a0_0 : List Int) (a0_1 : List Int) (a1_0 : Int) (a1_1 : List Int) (a1_2 : List Bool) (a1_3 : List (Int × Int × Int)) {r : List Int × List Int × Bool} (h : impl_written_v2 a0_0 a0_1 a1_0 a1_1 a1_2 a1_3 = some r) :
 FnA Tryz.prog 35 [.agg [.sl 0, .sl 1], .agg [iV a1_0, .sl 2, .sl 3, .sl 4]] [rI a0_0, rI a0_1, rI a1_1, rB a1_2, rT a1_3, .rbox [.sl 0, .sl 1], .rbox [iV a1_0, .sl 2, .sl 3, .sl 4], .box [nV, nV]] [] (fun x H => x = .tup [.agg [.sl 8, .sl 9], bV r.2.2] ∧ H = [rI a0_0, rI a0_1, rI a1_1, rB a1_2, rT a1_3, .rbox [.sl 0, .sl 1], .rbox [iV a1_0, .sl 2, .sl 3, .sl 4], .box [nV, nV], rI r.1, rI r.2.1]) := by
 unfold impl_written_v2 at h
 refine FnA.ofA 23 [0, 1, 2, 3, 4, 5, 6, 7] [.cell 4 30, .cell 5 4] Tryz.func35 en35 ?_
 refine awp_rM ftCOk [0, 1] [(2, .pp 8 0), (3, .pp 9 0), (4, .pp 10 0), (5, .pp 11 0)] [] [.box [.sl 0, .sl 1], .box [iV a1_0, .sl 2, .sl 3, .sl 4], .box [nV, nV], .box [bV false]] ?_
 refine awp_freeze 3 (by rfl) (by rfl) (by exact rfl) ?_
 refine awp_seq fun K14 hK14 => ?_
 replace ⟨y, hr0, h⟩ := bind_some h
 refine awp_t [3] [(10, .ip 12 (.clo 59))] [] [.rbox [iV y, .sl 2, .sl 3, .sl 4]] ?_ ?_
 ·clear h
  intro K hK
  refine awp_region ftCOk ?_
  simp (maxSteps := 4000000) only [go_sem]
  repeat' (first | refine And.intro ?_ ?_ | intro hg)
  all_goals (try simp (disch := omega) only [wrap_fits])
  all_goals first
   | exact al0
   | (refine wpA_here (k_impl_bodiesOf_v2 a0_0 a0_1 a1_0 a1_1 a1_2 a1_3 (h := hr0)) ?_
      rintro x Hc' ⟨rfl, rfl⟩ hlen
      refine vcOps_sound ftCOk ?_
      exact auV)
   | exact al1
 ·clear hr0
  refine awp_block ?_
  replace h := bind_some h
  obtain ⟨u27, hx, h⟩ := h
  refine awp_rangeL (f := impl_written_v2_r0) (s0 := (a0_0, a0_1)) (u' := u27) [0, 1, 2, 3, 4, 5, 6, 7, 8, 11, 14, 15] [(2, .pp 8 0), (4, .pp 11 0), (5, .pp 14 0), (10, .ip 15 (.clo 59))] (fun ((t2_0s, t2_1s) : List Int × List Int) => [rI a0_0, rI a0_1, rI a1_1, rB a1_2, rT a1_3, .rbox [.sl 0, .sl 1], .rbox [iV a1_0, .sl 2, .sl 3, .sl 4], .box [nV, nV], .box [.sl 9, .sl 10], rI t2_0s, rI t2_1s, .box [.sl 12, .sl 13], rI [], rI [], .box [bV false], .rbox [iV y, .sl 2, .sl 3, .sl 4]]) (fun ((t2_0s_1, t2_1s_1, t4_0s, t4_1s) : List Int × List Int × List Int × List Int) => [rI a0_0, rI a0_1, rI a1_1, rB a1_2, rT a1_3, .rbox [.sl 0, .sl 1], .rbox [iV a1_0, .sl 2, .sl 3, .sl 4], .box [nV, nV], .box [.sl 9, .sl 10], rI t2_0s_1, rI t2_1s_1, .box [.sl 12, .sl 13], rI t4_0s, rI t4_1s, .box [bV false], .rbox [iV y, .sl 2, .sl 3, .sl 4]]) (fun ((t2_0s_1, t2_1s_1, t4_0s, t4_1s) : List Int × List Int × List Int × List Int) => Code.ret) (fun x => [(2, .pp 8 0), (4, .pp 11 0), (5, .pp 14 0), (6, .sl 17), (10, .ip 15 (.clo 59))]) [15, 2, 3, 4] [.rbox [iV y, .sl 2, .sl 3, .sl 4], rI a1_1, rB a1_2, rT a1_3] (fun x => [.sl 0]) (fun x => [oI x]) 16 (fun l Φ hY => k_impl_bodiesOf_1 (Φ := Φ) (l := l) y a1_1 a1_2 a1_3 _ _ (hY := hY) (h := hx)) ?_ ?_ ?_ ?_ ?_ (hnf := by rintro ⟨t2_0s, t2_1s⟩; rfl) (hnx := by rintro ⟨t2_0s_1, t2_1s_1, t4_0s, t4_1s⟩ <;> rfl)
  ·clear h hx
   refine Red.trans (Red.dupCell (o := 8) (i := 0) rfl rfl rfl) ?_
   refine Red.trans (Red.dupCell (o := 8) (i := 1) rfl rfl rfl) ?_
   refine Red.trans (Red.nilCell (o := 10) (i := 0) (.ints .i64 []) rfl rfl rfl) ?_
   refine Red.trans (Red.freeze (o := 15) rfl) ?_
   refine Red.trans (Red.nilCell (o := 10) (i := 1) (.ints .i64 []) rfl rfl rfl) ?_
   refine Red.trans (Red.freeze (o := 16) rfl) ?_
   exact Red.selA [0, 1, 2, 3, 4, 5, 6, 7, 8, 13, 14, 10, 15, 16, 11, 12] Red.auto
  ·clear h hx
   rintro l x ⟨t2_0s, t2_1s⟩ Ψ
   have h := trivial
   refine awp_at [(11, .sl 17), (2, .pp 8 0), (4, .pp 11 0), (5, .pp 14 0), (10, .ip 15 (.clo 59))] [rI a0_0, rI a0_1, rI a1_1, rB a1_2, rT a1_3, .rbox [.sl 0, .sl 1], .rbox [iV a1_0, .sl 2, .sl 3, .sl 4], .box [nV, nV], .box [.sl 9, .sl 10], rI t2_0s, rI t2_1s, .box [.sl 12, .sl 13], rI [], rI [], .box [bV false], .rbox [iV y, .sl 2, .sl 3, .sl 4], .ext Ψ, oI x] ?_
   refine awp_rES ftCOk [11] [(6, .sl 17)] ?_
   exact RQ.asg [(2, .pp 8 0), (4, .pp 11 0), (5, .pp 14 0), (6, .sl 17), (10, .ip 15 (.clo 59))] [rI a0_0, rI a0_1, rI a1_1, rB a1_2, rT a1_3, .rbox [.sl 0, .sl 1], .rbox [iV a1_0, .sl 2, .sl 3, .sl 4], .box [nV, nV], .box [.sl 9, .sl 10], rI t2_0s, rI t2_1s, .box [.sl 12, .sl 13], rI [], rI [], .box [bV false], .rbox [iV y, .sl 2, .sl 3, .sl 4], .ext Ψ, oI x] Red.auto
  ·clear h hx
   rintro l x ⟨t2_0s, t2_1s⟩ u' Ψ h
   unfold impl_written_v2_r0 at h
   try dsimp only at h
   refine awp_at [(2, .pp 8 0), (4, .pp 11 0), (5, .pp 14 0), (6, .sl 17), (10, .ip 15 (.clo 59))] [rI a0_0, rI a0_1, rI a1_1, rB a1_2, rT a1_3, .rbox [.sl 0, .sl 1], .rbox [iV a1_0, .sl 2, .sl 3, .sl 4], .box [nV, nV], .box [.sl 9, .sl 10], rI t2_0s, rI t2_1s, .box [.sl 12, .sl 13], rI [], rI [], .box [bV false], .rbox [iV y, .sl 2, .sl 3, .sl 4], .ext Ψ, oI x] ?_
   refine awp_block ?_
   replace ⟨⟨y_1, y_2, y_3⟩, hr0, h⟩ := bind_some h
   try dsimp only at h
   refine awp_c ftCOk [6] [(7, .pp 20 0), (8, bV y_3)] [] [oI y_1, oI y_2, .box [.sl 18, .sl 19]] [⟨2, [9, 10, 17], k_impl_DiskWrite t2_0s t2_1s x (h := hr0)⟩] ?_
   clear hr0
   refine awp_seq fun K25 hK25 => ?_
   refine awp_rS ftCOk [8] [(19, bV (!y_3))] ?_
   refine awp_if h ?_ ?_ <;> clear h <;> intro hc h
   ·refine awp_rM ftCOk [7, 19] [] [(11, .box [.sl 9, .sl 10])] [] ?_
    refine awp_ret ?_
    refine nm ?_
    obtain rfl := Option.some.inj h
    refine RQ.out [rI a0_0, rI a0_1, rI a1_1, rB a1_2, rT a1_3, .rbox [.sl 0, .sl 1], .rbox [iV a1_0, .sl 2, .sl 3, .sl 4], .box [nV, nV], .box [.sl 9, .sl 10], rI t2_0s, rI t2_1s, .box [.sl 12, .sl 13], rI t2_0s, rI t2_1s, .box [bV false], .rbox [iV y, .sl 2, .sl 3, .sl 4], .ext Ψ] ?_
    refine Red.trans (Red.dupCell (o := 11) (i := 0) rfl rfl rfl) ?_
    refine Red.trans (Red.dupCell (o := 11) (i := 1) rfl rfl rfl) ?_
    exact Red.selA [0, 1, 2, 3, 4, 5, 6, 7, 8, 9, 10, 11, 21, 22, 14, 15, 16] Red.auto
   ·refine awp_skip ?_
    refine hK25 _ _ ?_
    clear hK25
    refine awp_rEM ftCOk [7, 19] [] [(8, .box [.sl 18, .sl 19])] [] ?_
    refine nm ?_
    obtain rfl := Option.some.inj h
    refine RQ.next [rI a0_0, rI a0_1, rI a1_1, rB a1_2, rT a1_3, .rbox [.sl 0, .sl 1], .rbox [iV a1_0, .sl 2, .sl 3, .sl 4], .box [nV, nV], .box [.sl 9, .sl 10], rI y_1, rI y_2, .box [.sl 12, .sl 13], rI [], rI [], .box [bV false], .rbox [iV y, .sl 2, .sl 3, .sl 4], .ext Ψ] ?_
    refine Red.trans (Red.freeze (o := 18) rfl) ?_
    refine Red.trans (Red.freeze (o := 19) rfl) ?_
    exact Red.selA [0, 1, 2, 3, 4, 5, 6, 7, 8, 18, 19, 11, 12, 13, 14, 15, 16] Red.auto
  ·rintro ⟨t2_0s, t2_1s⟩ rfl
   clear hx
   try dsimp only [Sum.elim_inl, Sum.elim_inr] at h
   try simp only [Thn, InBlk, exitOf, ↓reduceIte, Nat.reduceEqDiff, Sum.elim_inl, Sum.elim_inr, List.cons_append, List.nil_append]
   refine hK14 _ _ ?_
   clear hK14
   refine awp_rM ftCOk [2, 10] [] [(11, .box [.sl 9, .sl 10]), (2, .box [bV true])] [] ?_
   refine awp_ret ?_
   obtain rfl := Option.some.inj h
   exact finQ [0, 1, 2, 3, 4, 5, 6, 7, 9, 10]
  ·rintro ⟨t2_0s_1, t2_1s_1, t4_0s, t4_1s⟩ rfl
   ·clear hx
    try dsimp only [Sum.elim_inl, Sum.elim_inr] at h
    try simp only [Thn, InBlk, exitOf, ↓reduceIte, Nat.reduceEqDiff, Sum.elim_inl, Sum.elim_inr, List.cons_append, List.nil_append]
    obtain rfl := Option.some.inj h
    exact finQ [0, 1, 2, 3, 4, 5, 6, 7, 12, 13]
theorem k_impl_SaveState (a0_0 : List Int) (a0_1 : List Int) (a1_0 : Int) (a1_1 : List Int) (a1_2 : List Bool) (a1_3 : List (Int × Int × Int)) {r : List Int × List Int × Bool} (h : impl_SaveState a0_0 a0_1 a1_0 a1_1 a1_2 a1_3 = some r) :
 FnA Tryz.prog 16 [.agg [.sl 0, .sl 1], .agg [iV a1_0, .sl 2, .sl 3, .sl 4]] [rI a0_0, rI a0_1, rI a1_1, rB a1_2, rT a1_3] [] (fun x H => x = .tup [.agg [.sl 5, .sl 6], bV r.2.2] ∧ H = [rI a0_0, rI a0_1, rI a1_1, rB a1_2, rT a1_3, oI r.1, oI r.2.1]) := by
 unfold impl_SaveState at h
 refine FnA.ofA 29 [0, 1, 2, 3, 4] [.cell 4 30, .tmp 5] Tryz.func16 en16 ?_
 refine awp_rM ftCOk [0, 1] [(2, .pp 5 0), (3, .pp 6 0), (4, .pp 7 0)] [] [.box [.sl 0, .sl 1], .box [iV a1_0, .sl 2, .sl 3, .sl 4], .box [nV, nV]] ?_
 refine awp_freeze 2 (by rfl) (by rfl) (by exact rfl) ?_
 refine awp_freeze 3 (by rfl) (by rfl) (by exact rfl) ?_
 refine awp_seq fun K2 hK2 => ?_
 replace ⟨y, hr0, h⟩ := bind_some h
 refine awp_c ftCOk [] [(10, bV (!y))] [] [] [⟨1, [0, 1], k_impl_DiskValid a0_0 a0_1 (h := hr0)⟩] ?_
 clear hr0
 refine awp_if h ?_ ?_ <;> clear h <;> intro hc h
 ·refine awp_rS ftCOk [2, 3, 10] [(5, bV false)] ?_
  refine awp_red (Red.nilCell (o := 7) (i := 0) (.ints .i64 []) rfl rfl rfl) ?_
  refine awp_red (Red.nilCell (o := 7) (i := 1) (.ints .i64 []) rfl rfl rfl) ?_
  refine awp_ret ?_
  obtain rfl := Option.some.inj h
  exact finQ [0, 1, 2, 3, 4, 8, 9]
 ·refine awp_skip ?_
  refine hK2 _ _ ?_
  clear hK2
  refine awp_seq fun K5 hK5 => ?_
  replace ⟨y_1, hr0, h⟩ := bind_some h
  refine awp_c ftCOk [10] [(14, bV (!y_1))] [] [] [⟨1, [2, 3, 4], k_impl_State_ownValid a1_0 a1_1 a1_2 a1_3 (h := hr0)⟩] ?_
  clear hr0
  refine awp_if h ?_ ?_ <;> clear h <;> intro hc h
  ·replace ⟨⟨y_2, y_3⟩, hr0, h⟩ := bind_some h
   try dsimp only at h
   refine awp_c ftCOk [2, 3, 14] [(5, bV false)] [(7, .box [.sl 8, .sl 9])] [oI y_2, oI y_3] [⟨1, [0, 1], k_impl_Disk_copied a0_0 a0_1 (h := hr0)⟩] ?_
   clear hr0
   refine awp_ret ?_
   obtain rfl := Option.some.inj h
   exact finQ [0, 1, 2, 3, 4, 8, 9]
  ·refine awp_skip ?_
   refine hK5 _ _ ?_
   clear hK5
   replace ⟨⟨y_4, y_5, y_6⟩, hr0, h⟩ := bind_some h
   try dsimp only at h
   refine awp_t [3, 14] [(6, .pp 10 0), (7, bV y_6)] [] [rI y_4, rI y_5, .box [.sl 8, .sl 9]] ?_ ?_
   ·clear h
    intro K hK
    refine awp_region ftCOk ?_
    simp (maxSteps := 4000000) only [go_sem]
    repeat' (first | refine And.intro ?_ ?_ | intro hg)
    all_goals (try simp (disch := omega) only [wrap_fits])
    all_goals first
     | exact al0
     | (refine wpA_here (k_impl_written_v2 a0_0 a0_1 a1_0 a1_1 a1_2 a1_3 (h := hr0)) ?_
        rintro x Hc' ⟨rfl, rfl⟩ hlen
        refine vcOps_sound ftCOk ?_
        exact auV)
     | exact al1
   ·clear hr0
    refine awp_seq fun K8 hK8 => ?_
    refine awp_rS ftCOk [7] [(24, bV (!y_6))] ?_
    refine awp_if h ?_ ?_ <;> clear h <;> intro hc h
    ·replace ⟨⟨y_7, y_8⟩, hr0, h⟩ := bind_some h
     try dsimp only at h
     refine awp_c ftCOk [2, 6, 24] [(5, bV false)] [(7, .box [.sl 11, .sl 12])] [oI y_7, oI y_8] [⟨1, [0, 1], k_impl_Disk_copied a0_0 a0_1 (h := hr0)⟩] ?_
     clear hr0
     refine awp_ret ?_
     obtain rfl := Option.some.inj h
     exact finQ [0, 1, 2, 3, 4, 11, 12]
    ·refine awp_skip ?_
     refine hK8 _ _ ?_
     clear hK8
     replace ⟨⟨y_9, y_10⟩, hr0, h⟩ := bind_some h
     try dsimp only at h
     refine awp_c ftCOk [2, 6, 24] [(5, bV true)] [(7, .box [.sl 11, .sl 12])] [oI y_9, oI y_10] [⟨1, [8, 9], k_impl_DiskSync y_4 y_5 (h := hr0)⟩] ?_
     clear hr0
     refine awp_ret ?_
     obtain rfl := Option.some.inj h
     exact finQ [0, 1, 2, 3, 4, 11, 12]
abbrev lz0_spec_DiskValid : Array Bool := #[true, true, true, true, true, true, false, false, false, false, false, false, false, false, false, false, false, false, false, false, false]
abbrev lz1_spec_DiskValid : Array Bool := #[true, true, true, true, true, true, true, true, true, true, true, true, true, true, true, true, true, true, true, true, true]
abbrev lz2_spec_DiskValid : Array Bool := #[true, true, true, true, true, true, true, true, true, true, true, true, true, true, true, true, true, true, false, false, false]
abbrev lz3_spec_DiskValid : Array Bool := #[true, true, true, true, true, true, true, true, true, true, true, true, true, true, true, true, true, false, false, false, false]
abbrev lz4_spec_DiskValid : Array Bool := #[true, true, true, true, true, true, true, true, true, true, true, true, true, true, true, true, false, false, false, false, false]
abbrev lz5_spec_DiskValid : Array Bool := #[true, true, true, true, true, true, true, true, true, true, true, true, true, true, false, true, true, false, false, false, false]
abbrev lz6_spec_DiskValid : Array Bool := #[true, true, true, true, true, true, true, true, true, true, true, true, true, true, false, true, false, false, false, false, false]
abbrev lz7_spec_DiskValid : Array Bool := #[true, true, true, true, true, true, true, true, true, true, true, true, true, false, false, true, true, false, false, false, false]
abbrev lz8_spec_DiskValid : Array Bool := #[true, true, true, true, true, true, true, true, true, true, true, true, true, false, false, true, false, false, false, false, false]
abbrev lz9_spec_DiskValid : Array Bool := #[true, true, true, true, true, true, true, true, true, true, true, false, true, true, false, true, true, false, false, false, false]
abbrev lz10_spec_DiskValid : Array Bool := #[true, true, true, true, true, true, true, true, true, true, true, false, true, true, false, true, false, false, false, false, false]
abbrev lz11_spec_DiskValid : Array Bool := #[true, true, true, true, true, true, true, true, true, true, true, false, true, false, false, true, true, false, false, false, false]
abbrev lz12_spec_DiskValid : Array Bool := #[true, true, true, true, true, true, true, true, true, true, true, false, true, false, false, true, false, false, false, false, false]
abbrev lz13_spec_DiskValid : Array Bool := #[true, true, true, true, true, true, true, true, false, false, false, false, false, false, false, false, false, false, false, false, false]
abbrev lz14_spec_DiskValid : Array Bool := #[true, true, true, true, true, true, true, false, false, false, false, false, false, false, false, false, false, false, false, false, false]
theorem k_spec_DiskValid (a0_0 : List Int) (a0_1 : List Int) {r : Bool} (h : spec_DiskValid a0_0 a0_1 = some r) :
 FnA Tryz.prog 37 [.agg [.sl 0, .sl 1]] [rI a0_0, rI a0_1] [] (fun x H => x = bV r ∧ H = [rI a0_0, rI a0_1]) := by
 unfold spec_DiskValid at h
 refine FnA.ofA 23 [0, 1] [.tmp 2] Tryz.func37 en37 ?_
 refine awp_rM ftCOk [0] [(1, .pp 2 0)] [] [.box [.sl 0, .sl 1]] ?_
 refine awp_freeze 1 (by rfl) (by rfl) (by exact rfl) ?_
 by_cases hb1 : (decide ((a0_0.length : Int) ≤ 2000)) = true
 ·replace h := bite_t h hb1
  have hb1d := hb1
  try simp only [decide_eq_true_eq, decide_eq_false_iff_not, beq_iff_eq, bne_iff_ne, ne_eq, beq_eq_false_iff_ne, bne_eq_false_iff_eq, Bool.not_eq_true', Bool.not_eq_false', Bool.and_eq_true, Bool.or_eq_true, Bool.and_eq_false_iff, Bool.or_eq_false_iff] at hb1d
  by_cases hb2 : (decide ((a0_1.length : Int) ≤ 2000)) = true
  ·replace h := bite_t h hb2
   have hb2d := hb2
   try simp only [decide_eq_true_eq, decide_eq_false_iff_not, beq_iff_eq, bne_iff_ne, ne_eq, beq_eq_false_iff_ne, bne_eq_false_iff_eq, Bool.not_eq_true', Bool.not_eq_false', Bool.and_eq_true, Bool.or_eq_true, Bool.and_eq_false_iff, Bool.or_eq_false_iff] at hb2d
   replace ⟨hp0, h⟩ := chk_some h
   replace ⟨hp1, h⟩ := chk_some h
   replace ⟨y, hr2, h⟩ := bind_some h
   refine awp_t [1] [(2, bV y)] [] [oI (([] ++ a0_0) ++ a0_1)] ?_ ?_
   ·clear h
    intro K hK
    refine awp_drawT mixed ftCOk (.one 0 (.one 1 (.one 2 (.one 3 (.one 4 (.one 5 (.one 6 (.one 7 (.one 8 (.one 9 (.one 10 (.free 12 (.free 15 (.free 13 (.free 16 (.one 11 (.one 14 (.one 17 (.one 18 (.one 19 (.one 20 .fin))))))))))))))))))))) (by kernel_rfl) (by simp) ?_
    simp (maxSteps := 4000000) only [go_sem, hb1, hb1d, hb2, hb2d]
    repeat' (first | refine And.intro ?_ ?_ | intro hg)
    all_goals (try simp (disch := omega) only [wrap_fits])
    all_goals first
     | exact al0
     | contradiction
     | (simp only [List.length_nil, List.length_append]; omega)
     | (refine OpK_callA (k_spec_BytesValid (([] ++ a0_0) ++ a0_1) (h := hr2)) [3] [] ?_
        rintro x Hc' ⟨rfl, rfl⟩ hlen
        simp (maxSteps := 4000000) only [go_sem, hb1, hb1d, hb2, hb2d]
        repeat' (first | refine And.intro ?_ ?_ | intro hg)
        all_goals (try simp (disch := omega) only [wrap_fits])
        all_goals first
         | exact al0
         | contradiction
         | (simp only [List.length_nil, List.length_append]; omega)
         | (simp (maxSteps := 4000000) only [go_sem, hb1, hb1d, hb2, hb2d]
            repeat' (first | refine And.intro ?_ ?_ | intro hg)
            all_goals (try simp (disch := omega) only [wrap_fits])
            all_goals first | exact al0 | contradiction | (simp only [List.length_nil, List.length_append]; omega))
         | exact al1)
     | exact al1
   ·clear hp0 hp1 hr2
    refine awp_ret ?_
    obtain rfl := Option.some.inj h
    exact finQ [0, 1]
  ·rw [Bool.not_eq_true] at hb2
   replace h := bite_f h hb2
   have hb2d := hb2
   try simp only [decide_eq_true_eq, decide_eq_false_iff_not, beq_iff_eq, bne_iff_ne, ne_eq, beq_eq_false_iff_ne, bne_eq_false_iff_eq, Bool.not_eq_true', Bool.not_eq_false', Bool.and_eq_true, Bool.or_eq_true, Bool.and_eq_false_iff, Bool.or_eq_false_iff] at hb2d
   refine awp_t [1] [(2, bV false)] [] [] ?_ ?_
   ·clear h
    intro K hK
    refine awp_drawM [0, 1, 2] [0, 1, 2, 3, 4, 5, 6, 7, 8, 9, 10, 12, 15] 8 lz12_spec_DiskValid mixed ftCOk (by kernel_rfl) (by first | rfl | kernel_rfl) (by rfl) (by simp) fun L hL hN => ?_
    refine hN.node L 0 lz1_spec_DiskValid 3 [] [(2, bV false), (3, .pp 2 0), (4, .sl 0), (5, iV (a0_0.length : Int)), (6, bV true), (7, bV true), (8, .pp 2 1), (9, .sl 1), (10, iV (a0_1.length : Int)), (11, bV false), (12, bV false), (13, bV false), (14, .v (.tuple #[])), (15, .v (.tuple #[])), (16, .v (.tuple #[])), (17, .v (.tuple #[])), (18, .v (.tuple #[])), (19, .v (.tuple #[])), (20, .v (.tuple #[])), (21, .v (.tuple #[])), (22, bV false)] [] [] ?_ fun n6 hN => ?_
    ·exact hL.fin (by kernel_rfl) (hK _ _ Red.auto)
    refine hN.node L 3 lz2_spec_DiskValid 3 [2, 21, 22] [] [] [] ?_ fun n5 hN => ?_
    ·refine hL.step [(18, [19, 20], 0, lz1_spec_DiskValid)] (by kernel_rfl) ⟨?_, trivial⟩
     ·have nn := n6
      exact au13
    refine hN.node L 4 lz3_spec_DiskValid 3 [20] [] [] [] ?_ fun n4 hN => ?_
    ·refine hL.step [(17, [], 3, lz2_spec_DiskValid)] (by kernel_rfl) ⟨?_, trivial⟩
     ·have nn := n5
      exact au13
    refine hN.node L 5 lz4_spec_DiskValid 3 [19] [] [] [] ?_ fun n3 hN => ?_
    ·refine hL.step [(16, [], 4, lz3_spec_DiskValid)] (by kernel_rfl) ⟨?_, trivial⟩
     ·have nn := n4
      exact au13
    refine hN.node L 5 lz5_spec_DiskValid 3 [17] [(19, .v (.tuple #[]))] [] [] ?_ fun n7 hN => ?_
    ·refine hL.step [(14, [], 4, lz3_spec_DiskValid)] (by kernel_rfl) ⟨?_, trivial⟩
     ·have nn := n4
      exact au13
    refine hN.node L 6 lz6_spec_DiskValid 3 [19] [] [] [] ?_ fun n2 hN => ?_
    ·refine hL.step [(14, [], 5, lz4_spec_DiskValid), (16, [], 5, lz5_spec_DiskValid)] (by kernel_rfl) ⟨?_, ?_, trivial⟩
     ·have nn := n3
      exact au13
     ·have nn := n7
      exact au13
    refine hN.node L 6 lz7_spec_DiskValid 3 [16] [(19, .v (.tuple #[]))] [] [] ?_ fun n8 hN => ?_
    ·refine hL.step [(13, [], 5, lz5_spec_DiskValid)] (by kernel_rfl) ⟨?_, trivial⟩
     ·have nn := n7
      exact au13
    refine hN.node L 7 lz8_spec_DiskValid 3 [19] [] [] [] ?_ fun n1 hN => ?_
    ·refine hL.step [(13, [], 6, lz6_spec_DiskValid), (16, [], 6, lz7_spec_DiskValid)] (by kernel_rfl) ⟨?_, ?_, trivial⟩
     ·have nn := n2
      exact au13
     ·have nn := n8
      exact au13
    refine hN.node L 6 lz9_spec_DiskValid 3 [14] [(16, .v (.tuple #[])), (19, .v (.tuple #[]))] [] [] ?_ fun n10 hN => ?_
    ·refine hL.step [(11, [], 5, lz5_spec_DiskValid)] (by kernel_rfl) ⟨?_, trivial⟩
     ·have nn := n7
      exact au13
    refine hN.node L 7 lz10_spec_DiskValid 3 [19] [] [] [] ?_ fun n9 hN => ?_
    ·refine hL.step [(11, [], 6, lz6_spec_DiskValid), (16, [], 6, lz9_spec_DiskValid)] (by kernel_rfl) ⟨?_, ?_, trivial⟩
     ·have nn := n2
      exact au13
     ·have nn := n10
      exact au13
    refine hN.node L 7 lz11_spec_DiskValid 3 [16] [(19, .v (.tuple #[]))] [] [] ?_ fun n11 hN => ?_
    ·refine hL.step [(11, [], 6, lz7_spec_DiskValid), (13, [], 6, lz9_spec_DiskValid)] (by kernel_rfl) ⟨?_, ?_, trivial⟩
     ·have nn := n8
      exact au13
     ·have nn := n10
      exact au13
    refine hN.node L 8 lz12_spec_DiskValid 3 [19] [] [] [] ?_ fun n0 hN => ?_
    ·refine hL.step [(11, [], 7, lz8_spec_DiskValid), (13, [], 7, lz10_spec_DiskValid), (16, [], 7, lz11_spec_DiskValid)] (by kernel_rfl) ⟨?_, ?_, ?_, trivial⟩
     ·have nn := n1
      exact au13
     ·have nn := n9
      exact au13
     ·have nn := n11
      exact au13
    have nn := n0
    exact au13
   ·refine awp_ret ?_
    obtain rfl := Option.some.inj h
    exact finQ [0, 1]
 ·rw [Bool.not_eq_true] at hb1
  replace h := bite_f h hb1
  have hb1d := hb1
  try simp only [decide_eq_true_eq, decide_eq_false_iff_not, beq_iff_eq, bne_iff_ne, ne_eq, beq_eq_false_iff_ne, bne_eq_false_iff_eq, Bool.not_eq_true', Bool.not_eq_false', Bool.and_eq_true, Bool.or_eq_true, Bool.and_eq_false_iff, Bool.or_eq_false_iff] at hb1d
  refine awp_t [1] [(2, bV false)] [] [] ?_ ?_
  ·clear h
   intro K hK
   refine awp_drawM [0, 1, 2] [0, 1, 2, 3, 4, 5] 15 lz0_spec_DiskValid mixed ftCOk (by kernel_rfl) (by first | rfl | kernel_rfl) (by rfl) (by simp) fun L hL hN => ?_
   refine hN.node L 0 lz1_spec_DiskValid 3 [] [(2, bV false), (3, .pp 2 0), (4, .sl 0), (5, iV (a0_0.length : Int)), (6, bV false), (7, bV false), (8, .v (.tuple #[])), (9, .v (.tuple #[])), (10, .v (.tuple #[])), (11, .v (.tuple #[])), (12, bV false), (13, bV false), (14, .v (.tuple #[])), (15, .v (.tuple #[])), (16, .v (.tuple #[])), (17, .v (.tuple #[])), (18, .v (.tuple #[])), (19, .v (.tuple #[])), (20, .v (.tuple #[])), (21, .v (.tuple #[])), (22, bV false)] [] [] ?_ fun n9 hN => ?_
   ·exact hL.fin (by kernel_rfl) (hK _ _ Red.auto)
   refine hN.node L 3 lz2_spec_DiskValid 3 [2, 21, 22] [] [] [] ?_ fun n8 hN => ?_
   ·refine hL.step [(18, [19, 20], 0, lz1_spec_DiskValid)] (by kernel_rfl) ⟨?_, trivial⟩
    ·have nn := n9
     exact au12
   refine hN.node L 4 lz3_spec_DiskValid 3 [20] [] [] [] ?_ fun n7 hN => ?_
   ·refine hL.step [(17, [], 3, lz2_spec_DiskValid)] (by kernel_rfl) ⟨?_, trivial⟩
    ·have nn := n8
     exact au12
   refine hN.node L 5 lz4_spec_DiskValid 3 [19] [] [] [] ?_ fun n6 hN => ?_
   ·refine hL.step [(16, [], 4, lz3_spec_DiskValid)] (by kernel_rfl) ⟨?_, trivial⟩
    ·have nn := n7
     exact au12
   refine hN.node L 5 lz5_spec_DiskValid 3 [17] [(19, .v (.tuple #[]))] [] [] ?_ fun n10 hN => ?_
   ·refine hL.step [(14, [], 4, lz3_spec_DiskValid)] (by kernel_rfl) ⟨?_, trivial⟩
    ·have nn := n7
     exact au12
   refine hN.node L 6 lz6_spec_DiskValid 3 [19] [] [] [] ?_ fun n5 hN => ?_
   ·refine hL.step [(14, [], 5, lz4_spec_DiskValid), (16, [], 5, lz5_spec_DiskValid)] (by kernel_rfl) ⟨?_, ?_, trivial⟩
    ·have nn := n6
     exact au12
    ·have nn := n10
     exact au12
   refine hN.node L 6 lz7_spec_DiskValid 3 [16] [(19, .v (.tuple #[]))] [] [] ?_ fun n11 hN => ?_
   ·refine hL.step [(13, [], 5, lz5_spec_DiskValid)] (by kernel_rfl) ⟨?_, trivial⟩
    ·have nn := n10
     exact au12
   refine hN.node L 7 lz8_spec_DiskValid 3 [19] [] [] [] ?_ fun n4 hN => ?_
   ·refine hL.step [(13, [], 6, lz6_spec_DiskValid), (16, [], 6, lz7_spec_DiskValid)] (by kernel_rfl) ⟨?_, ?_, trivial⟩
    ·have nn := n5
     exact au12
    ·have nn := n11
     exact au12
   refine hN.node L 6 lz9_spec_DiskValid 3 [14] [(16, .v (.tuple #[])), (19, .v (.tuple #[]))] [] [] ?_ fun n13 hN => ?_
   ·refine hL.step [(11, [], 5, lz5_spec_DiskValid)] (by kernel_rfl) ⟨?_, trivial⟩
    ·have nn := n10
     exact au12
   refine hN.node L 7 lz10_spec_DiskValid 3 [19] [] [] [] ?_ fun n12 hN => ?_
   ·refine hL.step [(11, [], 6, lz6_spec_DiskValid), (16, [], 6, lz9_spec_DiskValid)] (by kernel_rfl) ⟨?_, ?_, trivial⟩
    ·have nn := n5
     exact au12
    ·have nn := n13
     exact au12
   refine hN.node L 7 lz11_spec_DiskValid 3 [16] [(19, .v (.tuple #[]))] [] [] ?_ fun n14 hN => ?_
   ·refine hL.step [(11, [], 6, lz7_spec_DiskValid), (13, [], 6, lz9_spec_DiskValid)] (by kernel_rfl) ⟨?_, ?_, trivial⟩
    ·have nn := n11
     exact au12
    ·have nn := n13
     exact au12
   refine hN.node L 8 lz12_spec_DiskValid 3 [19] [] [] [] ?_ fun n3 hN => ?_
   ·refine hL.step [(11, [], 7, lz8_spec_DiskValid), (13, [], 7, lz10_spec_DiskValid), (16, [], 7, lz11_spec_DiskValid)] (by kernel_rfl) ⟨?_, ?_, ?_, trivial⟩
    ·have nn := n4
     exact au12
    ·have nn := n12
     exact au12
    ·have nn := n14
     exact au12
   refine hN.node L 13 lz13_spec_DiskValid 3 [11, 12, 13, 15, 18] [] [] [] ?_ fun n2 hN => ?_
   ·refine hL.step [(8, [9, 10, 12, 15], 8, lz12_spec_DiskValid)] (by kernel_rfl) ⟨?_, trivial⟩
    ·have nn := n3
     exact au12
   refine hN.node L 14 lz14_spec_DiskValid 3 [10] [] [] [] ?_ fun n1 hN => ?_
   ·refine hL.step [(7, [], 13, lz13_spec_DiskValid)] (by kernel_rfl) ⟨?_, trivial⟩
    ·have nn := n2
     exact au12
   refine hN.node L 15 lz0_spec_DiskValid 3 [9] [] [] [] ?_ fun n0 hN => ?_
   ·refine hL.step [(6, [], 14, lz14_spec_DiskValid)] (by kernel_rfl) ⟨?_, trivial⟩
    ·have nn := n1
     exact au12
   have nn := n0
   exact au12
  ·refine awp_ret ?_
   obtain rfl := Option.some.inj h
   exact finQ [0, 1]
theorem k_spec_EncodeNumber (a0 : Int) {r : List Int} (h : spec_EncodeNumber a0 = some r) :
 FnA Tryz.prog 91 [iV a0] [] [] (fun x H => x = .sl 0 ∧ H = [oI r]) := by
 unfold spec_EncodeNumber at h
 refine FnA.ofA 23 [] [.tmp 2] Tryz.func91 en91 ?_
 refine awp_rS ftCOk [] [] ?_
 refine awp_rM ftCOk [] [(3, .sl 0)] [] [oI []] ?_
 refine awp_seq fun K2 hK2 => ?_
 refine awp_rS ftCOk [] [(7, bV (!(decide (0 ≤ a0) && decide (a0 ≤ 1000000))))] ?_
 refine awp_if h ?_ ?_ <;> clear h <;> intro hc h
 ·refine awp_rS ftCOk [0, 3, 7] [(2, .sl 0)] ?_
  refine awp_ret ?_
  obtain rfl := Option.some.inj h
  exact finQ [0]
 ·refine awp_skip ?_
  refine hK2 _ _ ?_
  clear hK2
  refine awp_seq fun K14 hK14 => ?_
  refine awp_block ?_
  replace h := bind_some h
  obtain ⟨x24, hx, h⟩ := h
  refine awp_loopL hx (fun (t0, t3s) => [(0, iV t0), (3, .sl 0)]) (fun (t0, t3s) => [oI t3s]) (fun _ => Exit.exit 0) (fun (t0_1, t3s_1) => [(0, iV t0_1), (3, .sl 0)]) (fun (t0_1, t3s_1) => [oI t3s_1]) ?_ ?_ ?_ ?_
  ·rintro ⟨t0_1, t3s_1⟩ hy <;> cases hy
  ·clear h hx
   exact Red.auto
  ·clear h hx
   rintro ⟨t0, t3s⟩ r h
   unfold spec_EncodeNumber_b0 at h
   try dsimp only at h
   try dsimp only
   refine awp_seq fun K22 hK22 => ?_
   refine awp_rS ftCOk [] [(10, bV (decide (127 < t0)))] ?_
   refine awp_if h ?_ ?_ <;> clear h <;> intro hc h
   ·refine awp_skip ?_
    refine hK22 _ _ ?_
    clear hK22
    refine awp_block ?_
    replace ⟨hp0, h⟩ := chk_some h
    replace ⟨hp1, h⟩ := chk_some h
    replace ⟨hp2, h⟩ := chk_some h
    refine awp_rM ftCOk [10] [] [(0, oI (t3s ++ [((t0 % 128) + 128)]))] [oI [((t0 % 128) + 128)]] ?_
    clear hp0 hp1 hp2
    replace ⟨hp0, h⟩ := chk_some h
    refine awp_rES ftCOk [0] [(0, iV (t0 / 128))] ?_
    clear hp0
    refine nm ?_
    obtain rfl := Option.some.inj h
    refine LoopQ.next ?_
    exact Red.selA [0] Red.auto
   ·refine awp_exit ?_
    refine nm ?_
    obtain rfl := Option.some.inj h
    refine LoopQ.out rfl ?_
    exact Red.auto
  ·clear hx
   rcases x24 with ⟨t0_1, t3s_1⟩
   ·try dsimp only [Sum.elim_inl, Sum.elim_inr] at h
    try dsimp only [Sum.elim_inl, Sum.elim_inr]
    refine hK14 _ _ ?_
    clear hK14
    replace ⟨hp0, h⟩ := chk_some h
    refine awp_rM ftCOk [0, 3] [(2, .sl 0)] [(0, oI (t3s_1 ++ [t0_1]))] [oI [t0_1]] ?_
    clear hp0
    refine awp_ret ?_
    obtain rfl := Option.some.inj h
    exact finQ [0]
theorem k_spec_l18Start (a0_0 : Int) (a0_1 : List Int) (a0_2 : List Bool) (a0_3 : List (Int × Int × Int)) {r : List Int} (h : spec_l18Start a0_0 a0_1 a0_2 a0_3 = some r) :
 FnA Tryz.prog 90 [.agg [iV a0_0, .sl 0, .sl 1, .sl 2]] [rI a0_1, rB a0_2, rT a0_3] [] (fun x H => x = .sl 3 ∧ H = [rI a0_1, rB a0_2, rT a0_3, oI r]) := by
 unfold spec_l18Start at h
 refine FnA.ofA 21 [0, 1, 2] [.tmp 2] Tryz.func90 en90 ?_
 refine awp_rM ftCOk [0] [(1, .pp 3 0)] [] [.box [iV a0_0, .sl 0, .sl 1, .sl 2]] ?_
 refine awp_freeze 1 (by rfl) (by rfl) (by exact rfl) ?_
 replace ⟨y, hr0, h⟩ := bind_some h
 replace ⟨hp1, h⟩ := chk_some h
 refine awp_c ftCOk [] [(3, .sl 4)] [] [oI ([1] ++ y), oI y] [⟨3, [], k_spec_EncodeNumber a0_0 (h := hr0)⟩] ?_
 clear hr0 hp1
 replace ⟨y_1, hr0, h⟩ := bind_some h
 replace ⟨hp1, h⟩ := chk_some h
 refine awp_c ftCOk [] [] [(4, oI (([1] ++ y) ++ y_1))] [oI y_1] [⟨4, [], k_spec_EncodeNumber (a0_1.length : Int) (h := hr0)⟩] ?_
 clear hr0 hp1
 replace ⟨y_2, hr0, h⟩ := bind_some h
 replace ⟨hp1, h⟩ := chk_some h
 refine awp_c ftCOk [1, 3] [(2, .sl 4)] [(4, oI ((([1] ++ y) ++ y_1) ++ y_2))] [oI y_2] [⟨4, [], k_spec_EncodeNumber (a0_3.length : Int) (h := hr0)⟩] ?_
 clear hr0 hp1
 refine awp_ret ?_
 obtain rfl := Option.some.inj h
 exact finQ [0, 1, 2, 4]
theorem k_spec_EdgeBody (a0_0 : Int) (a0_1 : Int) (a0_2 : Int) {r : List Int} (h : spec_EdgeBody a0_0 a0_1 a0_2 = some r) :
 FnA Tryz.prog 92 [.agg [iV a0_0, iV a0_1, iV a0_2]] [] [] (fun x H => x = .sl 0 ∧ H = [oI r]) := by
 unfold spec_EdgeBody at h
 refine FnA.ofA 34 [] [.tmp 2] Tryz.func92 en92 ?_
 refine awp_rM ftCOk [0] [(1, .pp 0 0)] [] [.box [iV a0_0, iV a0_1, iV a0_2]] ?_
 refine awp_freeze 1 (by rfl) (by rfl) (by exact rfl) ?_
 replace ⟨y, hr0, h⟩ := bind_some h
 refine awp_c ftCOk [] [(3, .sl 1)] [] [oI y] [⟨2, [], k_spec_EncodeNumber a0_0 (h := hr0)⟩] ?_
 clear hr0
 replace ⟨y_1, hr0, h⟩ := bind_some h
 refine awp_c ftCOk [] [(4, .sl 2)] [] [oI y_1] [⟨2, [], k_spec_EncodeNumber a0_1 (h := hr0)⟩] ?_
 clear hr0
 replace ⟨y_2, hr0, h⟩ := bind_some h
 refine awp_c ftCOk [1] [(5, .sl 3)] [] [oI y_2] [⟨2, [], k_spec_EncodeNumber a0_2 (h := hr0)⟩] ?_
 clear hr0
 refine awp_seq fun K2 hK2 => ?_
 refine awp_rS ftCOk [] [(27, bV ((((y.length : Int) == 0) || ((y_1.length : Int) == 0)) || ((y_2.length : Int) == 0)))] ?_
 refine awp_if h ?_ ?_ <;> clear h <;> intro hc h
 ·refine awp_rM ftCOk [3, 4, 5, 27] [(2, .sl 4)] [] [oI []] ?_
  refine awp_ret ?_
  obtain rfl := Option.some.inj h
  exact finQ [4]
 ·refine awp_skip ?_
  refine hK2 _ _ ?_
  clear hK2
  replace ⟨hp0, h⟩ := chk_some h
  replace ⟨hp1, h⟩ := chk_some h
  refine awp_rM ftCOk [3, 4, 5, 27] [(2, .sl 1)] [(1, oI ((y ++ y_1) ++ y_2))] [] ?_
  clear hp0 hp1
  refine awp_ret ?_
  obtain rfl := Option.some.inj h
  exact finQ [1]
theorem k_spec_StateBodies (a0_0 : Int) (a0_1 : List Int) (a0_2 : List Bool) (a0_3 : List (Int × Int × Int)) {r : List (List Int)} (h : spec_StateBodies a0_0 a0_1 a0_2 a0_3 = some r) :
 FnA Tryz.prog 64 [.agg [iV a0_0, .sl 0, .sl 1, .sl 2]] [rI a0_1, rB a0_2, rT a0_3] [] (fun x H => x = .sl 3 ∧ H = [rI a0_1, rB a0_2, rT a0_3, .row true (.intss .i64 r)]) := by
 unfold spec_StateBodies at h
 refine FnA.ofA 79 [0, 1, 2] [.tmp 2] Tryz.func64 en64 ?_
 refine awp_rM ftCOk [0] [(1, .pp 3 0)] [] [.box [iV a0_0, .sl 0, .sl 1, .sl 2]] ?_
 replace ⟨⟨y, y_1, y_2, y_3⟩, hr0, h⟩ := bind_some h
 try dsimp only at h
 refine awp_c ftCOk [] [] [(3, .box [iV y, .sl 4, .sl 5, .sl 6])] [oI y_1, oB y_2, oT y_3] [⟨1, [0, 1, 2], k_spec_l1OwnState a0_0 a0_1 a0_2 a0_3 (h := hr0)⟩] ?_
 clear hr0
 refine awp_rM ftCOk [] [(3, .sl 7)] [] [.row true (.intss .i64 [])] ?_
 refine awp_seq fun K2 hK2 => ?_
 replace ⟨y_4, hr0, h⟩ := bind_some h
 refine awp_c ftCOk [] [(16, bV (!y_4))] [] [] [⟨4, [4, 5, 6], k_spec_StateValid y y_1 y_2 y_3 (y_1.length : Int) (h := hr0)⟩] ?_
 clear hr0
 refine awp_if h ?_ ?_ <;> clear h <;> intro hc h
 ·refine awp_rS ftCOk [1, 3, 16] [(2, .sl 7)] ?_
  refine awp_ret ?_
  obtain rfl := Option.some.inj h
  exact finQ [0, 1, 2, 7]
 ·refine awp_skip ?_
  refine hK2 _ _ ?_
  clear hK2
  replace ⟨y_5, hr0, h⟩ := bind_some h
  replace ⟨hp1, h⟩ := chk_some h
  refine awp_c ftCOk [16] [] [(7, .tak true (.intss .i64 ([] ++ [[]])) 0 0 (some 8))] [oI y_5, .tak true (.intss .i64 [[]]) 0 0 (some 8)] [⟨2, [4, 5, 6], k_spec_l18Start y y_1 y_2 y_3 (h := hr0)⟩] ?_
  clear hr0 hp1
  refine awp_seq fun K29 hK29 => ?_
  refine awp_put 7 8 (by rfl) (by rfl) (by rfl) (by exact rfl) ?_
  refine awp_rS ftCOk [] [(4, iV 0)] ?_
  refine awp_block ?_
  replace h := bind_some h
  obtain ⟨t3s_1, hx, h⟩ := h
  refine awp_loopL hx (fun (t4, t3s) => [(1, .pp 3 0), (3, .sl 7), (4, iV t4)]) (fun (t4, t3s) => [rI a0_1, rB a0_2, rT a0_3, .box [iV y, .sl 4, .sl 5, .sl 6], oI y_1, oB y_2, oT y_3, .row true (.intss .i64 t3s)]) (fun _ => Exit.exit 0) (fun t3s_1 => [(1, .pp 3 0), (3, .sl 7)]) (fun t3s_1 => [rI a0_1, rB a0_2, rT a0_3, .box [iV y, .sl 4, .sl 5, .sl 6], oI y_1, oB y_2, oT y_3, .row true (.intss .i64 t3s_1)]) ?_ ?_ ?_ ?_
  ·rintro t3s_1 hy <;> cases hy
  ·clear h hx
   exact Red.selA [0, 1, 2, 3, 4, 5, 6, 7] Red.auto
  ·clear h hx
   rintro ⟨t4, t3s⟩ r h
   unfold spec_StateBodies_b0 at h
   try dsimp only at h
   try dsimp only
   refine awp_seq fun K47 hK47 => ?_
   refine awp_rS ftCOk [] [(27, bV (decide (t4 < (y_1.length : Int))))] ?_
   refine awp_if h ?_ ?_ <;> clear h <;> intro hc h
   ·refine awp_skip ?_
    refine hK47 _ _ ?_
    clear hK47
    refine awp_seq fun K51 hK51 => ?_
    refine awp_block ?_
    refine awp_rS ftCOk [27] [(5, iV 0)] ?_
    refine awp_join h (fun t5 => [(1, .pp 3 0), (3, .sl 7), (4, iV t4), (5, iV t5)]) (fun t5 => [rI a0_1, rB a0_2, rT a0_3, .box [iV y, .sl 4, .sl 5, .sl 6], oI y_1, oB y_2, oT y_3, .row true (.intss .i64 t3s)]) ?_ ?_
    ·clear h
     intro k h
     try dsimp only at h
     replace ⟨hp0, h⟩ := chk_some h
     refine awp_rS ftCOk [] [(34, bV (y_2.getD t4.toNat false))] ?_
     clear hp0
     refine awp_if h ?_ ?_ <;> clear h <;> intro hc h
     ·refine awp_rES ftCOk [5, 34] [(5, iV 1)] ?_
      refine nm ?_
      refine ⟨_, h, ?_⟩
      exact Red.auto
     ·refine awp_skip ?_
      refine nm ?_
      refine ⟨_, h, ?_⟩
      exact Red.auto
    ·clear h
     rintro t5 h
     try dsimp only at h
     try dsimp only
     replace ⟨hp0, h⟩ := chk_some h
     replace ⟨hp1, h⟩ := chk_some h
     replace ⟨y_6, hr2, h⟩ := bind_some h
     replace ⟨hp3, h⟩ := chk_some h
     replace ⟨hp4, h⟩ := chk_some h
     replace ⟨hp5, h⟩ := chk_some h
     refine awp_cE ftCOk [5] [] [(7, .tak true (.intss .i64 (t3s ++ [[]])) t3s.length 0 (some 8))] [oI (([2] ++ y_6) ++ [t5]), oI y_6, oI [t5], .tak true (.intss .i64 [[]]) 0 0 (some 8)] [⟨8, [], k_spec_EncodeNumber ((y_1.getD t4.toNat 0) + 1) (h := hr2)⟩] ?_
     clear hp0 hp1 hr2 hp3 hp4 hp5
     refine hK51 _ _ ?_
     clear hK51
     refine awp_put 7 8 (by rfl) (by rfl) (by rfl) (by exact rfl) ?_
     replace ⟨hp0, h⟩ := chk_some h
     refine awp_rES ftCOk [4] [(4, iV (t4 + 1))] ?_
     clear hp0
     obtain rfl := Option.some.inj h
     refine LoopQ.next ?_
     exact Red.selA [0, 1, 2, 3, 4, 5, 6, 7] Red.auto
   ·refine awp_exit ?_
    refine nm ?_
    obtain rfl := Option.some.inj h
    refine LoopQ.out rfl ?_
    exact Red.auto
  ·clear hx
   skip
   ·try dsimp only [Sum.elim_inl, Sum.elim_inr] at h
    try dsimp only [Sum.elim_inl, Sum.elim_inr]
    refine hK29 _ _ ?_
    clear hK29
    refine awp_seq fun K68 hK68 => ?_
    refine awp_rS ftCOk [] [(6, iV 0)] ?_
    refine awp_block ?_
    replace h := bind_some h
    obtain ⟨t3s_3, hx, h⟩ := h
    refine awp_loopL hx (fun (t6, t3s_2) => [(1, .pp 3 0), (3, .sl 7), (6, iV t6)]) (fun (t6, t3s_2) => [rI a0_1, rB a0_2, rT a0_3, .box [iV y, .sl 4, .sl 5, .sl 6], oI y_1, oB y_2, oT y_3, .row true (.intss .i64 t3s_2)]) (fun _ => Exit.exit 2) (fun t3s_3 => [(3, .sl 3)]) (fun t3s_3 => [rI a0_1, rB a0_2, rT a0_3, .row true (.intss .i64 t3s_3)]) ?_ ?_ ?_ ?_
    ·rintro t3s_3 hy <;> cases hy
    ·clear h hx
     exact Red.auto
    ·clear h hx
     rintro ⟨t6, t3s_2⟩ r h
     unfold spec_StateBodies_b1 at h
     try dsimp only at h
     try dsimp only
     refine awp_seq fun K78 hK78 => ?_
     refine awp_rS ftCOk [] [(54, bV (decide (t6 < (y_3.length : Int))))] ?_
     refine awp_if h ?_ ?_ <;> clear h <;> intro hc h
     ·refine awp_skip ?_
      refine hK78 _ _ ?_
      clear hK78
      refine awp_seq fun K80 hK80 => ?_
      refine awp_block ?_
      replace ⟨hp0, h⟩ := chk_some h
      refine awp_rM ftCOk [54] [(7, .pp 8 0)] [] [.box [iV ((y_3.getD t6.toNat (0, 0, 0)).1), iV ((y_3.getD t6.toNat (0, 0, 0)).2.1), iV ((y_3.getD t6.toNat (0, 0, 0)).2.2)]] ?_
      clear hp0
      replace ⟨y_7, hr0, h⟩ := bind_some h
      replace ⟨hp1, h⟩ := chk_some h
      replace ⟨hp2, h⟩ := chk_some h
      refine awp_cE ftCOk [7] [] [(7, .tak true (.intss .i64 (t3s_2 ++ [[]])) t3s_2.length 0 (some 9))] [oI ([3] ++ y_7), oI y_7, .tak true (.intss .i64 [[]]) 0 0 (some 9)] [⟨9, [], k_spec_EdgeBody ((y_3.getD t6.toNat (0, 0, 0)).1) ((y_3.getD t6.toNat (0, 0, 0)).2.1) ((y_3.getD t6.toNat (0, 0, 0)).2.2) (h := hr0)⟩] ?_
      clear hr0 hp1 hp2
      refine hK80 _ _ ?_
      clear hK80
      refine awp_put 7 9 (by rfl) (by rfl) (by rfl) (by exact rfl) ?_
      replace ⟨hp0, h⟩ := chk_some h
      refine awp_rES ftCOk [6] [(6, iV (t6 + 1))] ?_
      clear hp0
      obtain rfl := Option.some.inj h
      refine LoopQ.next ?_
      exact Red.selA [0, 1, 2, 3, 4, 5, 6, 7] Red.auto
     ·refine awp_exit ?_
      refine nm ?_
      obtain rfl := Option.some.inj h
      refine LoopQ.out rfl ?_
      exact Red.selA [0, 1, 2, 7] Red.auto
    ·clear hx
     skip
     ·try dsimp only [Sum.elim_inl, Sum.elim_inr] at h
      try dsimp only [Sum.elim_inl, Sum.elim_inr]
      refine hK68 _ _ ?_
      clear hK68
      replace ⟨hp0, h⟩ := chk_some h
      refine awp_rM ftCOk [3] [(2, .sl 3)] [(3, .tak true (.intss .i64 (t3s_3 ++ [[]])) t3s_3.length 0 (some 4))] [oI [4], .tak true (.intss .i64 [[]]) 0 0 (some 4)] ?_
      clear hp0
      refine awp_red (Red.put 3 4 (by rfl) (by rfl) (by rfl)) ?_
      refine awp_ret ?_
      obtain rfl := Option.some.inj h
      exact finQ [0, 1, 2, 3]
theorem k_spec_l3Copy (a0_0 : List Int) (a0_1 : List Int) {r : List Int × List Int} (h : spec_l3Copy a0_0 a0_1 = some r) :
 FnA Tryz.prog 39 [.agg [.sl 0, .sl 1]] [rI a0_0, rI a0_1] [] (fun x H => x = .agg [.sl 2, .sl 3] ∧ H = [rI a0_0, rI a0_1, oI r.1, oI r.2]) := by
 unfold spec_l3Copy at h
 refine FnA.ofA 12 [0, 1] [.cell 2 30] Tryz.func39 en39 ?_
 refine awp_rM ftCOk [0] [(1, .pp 2 0), (2, .pp 3 0)] [] [.box [.sl 0, .sl 1], .box [nV, nV]] ?_
 refine awp_freeze 1 (by rfl) (by rfl) (by exact rfl) ?_
 replace ⟨hp0, h⟩ := chk_some h
 replace ⟨hp1, h⟩ := chk_some h
 refine awp_t [1] [] [(3, .box [.sl 4, .sl 5])] [oI ([] ++ a0_0), oI ([] ++ a0_1)] ?_ ?_
 ·clear h
  intro K hK
  refine awp_drawM [0, 1, 2, 3] [1, 5, 2, 6] 6 #[false, true, true, false, false, true, true, false, false, false] mixed ftCOk (by kernel_rfl) (by first | rfl | kernel_rfl) (by rfl) (by simp) fun L hL hN => ?_
  refine hN.node L 0 #[true, true, true, true, true, true, true, true, true, true] 4 [] [(4, .pp 2 0), (5, .sl 0), (6, .sl 4), (8, .pp 2 1), (9, .sl 1), (10, .sl 5), (11, .agg [.sl 4, .sl 5])] [(3, .box [.sl 4, .sl 5])] [oI ([] ++ a0_0), oI ([] ++ a0_1)] ?_ fun n5 hN => ?_
  ·exact hL.fin (by kernel_rfl) (hK _ _ Red.auto)
  refine hN.node L 1 #[true, true, true, true, true, true, true, true, true, false] 6 [] [] [(3, .box [nV, nV])] [] ?_ fun n4 hN => ?_
  ·refine hL.step [(9, [], 0, #[true, true, true, true, true, true, true, true, true, true])] (by kernel_rfl) ⟨?_, trivial⟩
   ·exact hL.edge n5
  refine hN.node L 3 #[true, true, true, true, true, true, true, false, false, false] 6 [10, 11] [(7, .sl 5)] [(5, oI [])] [] ?_ fun n3 hN => ?_
  ·refine hL.step [(7, [8], 1, #[true, true, true, true, true, true, true, true, true, false])] (by kernel_rfl) ⟨?_, trivial⟩
   ·exact hL.edge n4
  refine hN.node L 4 #[true, true, true, true, false, true, true, false, false, false] 5 [7] [] [] [] ?_ fun n2 hN => ?_
  ·refine hL.step [(4, [], 3, #[true, true, true, true, true, true, true, false, false, false])] (by kernel_rfl) ⟨?_, trivial⟩
   ·exact hL.edge n3
  refine hN.node L 4 #[true, true, true, false, true, true, true, false, false, false] 5 [6] [(3, .sl 4), (7, .sl 5)] [(4, oI [])] [oI []] ?_ fun n6 hN => ?_
  ·refine hL.step [(3, [], 3, #[true, true, true, true, true, true, true, false, false, false])] (by kernel_rfl) ⟨?_, trivial⟩
   ·exact hL.edge n3
  refine hN.node L 5 #[true, true, true, false, false, true, true, false, false, false] 5 [7] [] [] [] ?_ fun n1 hN => ?_
  ·refine hL.step [(3, [], 4, #[true, true, true, true, false, true, true, false, false, false]), (4, [], 4, #[true, true, true, false, true, true, true, false, false, false])] (by kernel_rfl) ⟨?_, ?_, trivial⟩
   ·exact hL.edge n2
   ·exact hL.edge n6
  refine hN.node L 5 #[false, true, true, false, true, true, true, false, false, false] 5 [3] [(7, .sl 4)] [] [] ?_ fun n7 hN => ?_
  ·refine hL.step [(0, [], 4, #[true, true, true, false, true, true, true, false, false, false])] (by kernel_rfl) ⟨?_, trivial⟩
   ·exact hL.edgeS [0, 1, 2, 3, 5, 4] n6
  refine hN.node L 6 #[false, true, true, false, false, true, true, false, false, false] 4 [7] [] [] [] ?_ fun n0 hN => ?_
  ·refine hL.step [(0, [], 5, #[true, true, true, false, false, true, true, false, false, false]), (4, [], 5, #[false, true, true, false, true, true, true, false, false, false])] (by kernel_rfl) ⟨?_, ?_, trivial⟩
   ·exact hL.edge n1
   ·exact hL.edge n7
  have nn := n0
  exact au14
 ·clear hp0 hp1
  refine awp_ret ?_
  obtain rfl := Option.some.inj h
  exact finQ [0, 1, 4, 5]
theorem k_spec_DiskWrite (a0_0 : List Int) (a0_1 : List Int) (a1 : List Int) {r : List Int × List Int × Bool} (h : spec_DiskWrite a0_0 a0_1 a1 = some r) :
 FnA Tryz.prog 65 [.agg [.sl 0, .sl 1], .sl 2] [rI a0_0, rI a0_1, rI a1] [] (fun x H => x = .tup [.agg [.sl 3, .sl 4], bV r.2.2] ∧ H = [rI a0_0, rI a0_1, rI a1, oI r.1, oI r.2.1]) := by
 unfold spec_DiskWrite at h
 refine FnA.ofA 39 [0, 1, 2] [.cell 4 30, .tmp 5] Tryz.func65 en65 ?_
 refine awp_rM ftCOk [0] [(2, .pp 3 0), (4, .pp 4 0)] [] [.box [.sl 0, .sl 1], .box [nV, nV]] ?_
 refine awp_freeze 2 (by rfl) (by rfl) (by exact rfl) ?_
 refine awp_seq fun K2 hK2 => ?_
 replace ⟨y, hr0, h⟩ := bind_some h
 refine awp_c ftCOk [] [(10, bV (!y))] [] [] [⟨1, [0, 1], k_spec_DiskValid a0_0 a0_1 (h := hr0)⟩] ?_
 clear hr0
 refine awp_if h ?_ ?_ <;> clear h <;> intro hc h
 ·refine awp_rS ftCOk [1, 2, 10] [(5, bV false)] ?_
  refine awp_red (Red.nilCell (o := 4) (i := 0) (.ints .i64 []) rfl rfl rfl) ?_
  refine awp_red (Red.nilCell (o := 4) (i := 1) (.ints .i64 []) rfl rfl rfl) ?_
  refine awp_ret ?_
  obtain rfl := Option.some.inj h
  exact finQ [0, 1, 2, 5, 6]
 ·refine awp_skip ?_
  refine hK2 _ _ ?_
  clear hK2
  replace ⟨⟨y_1, y_2⟩, hr0, h⟩ := bind_some h
  try dsimp only at h
  refine awp_c ftCOk [10] [(6, .pp 7 0)] [] [oI y_1, oI y_2, .box [.sl 5, .sl 6]] [⟨1, [0, 1], k_spec_l3Copy a0_0 a0_1 (h := hr0)⟩] ?_
  clear hr0
  replace ⟨y_3, hr0, h⟩ := bind_some h
  refine awp_c ftCOk [1] [(7, .sl 8)] [] [oI y_3] [⟨1, [2], k_spec_FrameOf a1 (h := hr0)⟩] ?_
  clear hr0
  refine awp_seq fun K5 hK5 => ?_
  replace ⟨hp0, h⟩ := chk_some h
  replace ⟨hp1, h⟩ := chk_some h
  refine awp_t [2] [(31, bV (((y_3.length : Int) == 0) || (decide (2000 < (((a0_0.length : Int) + (a0_1.length : Int)) + (y_3.length : Int))))))] [] [] ?_ ?_
  ·clear h
   intro K hK
   refine awp_region ftCOk ?_
   exact au9
  ·clear hp0 hp1
   refine awp_if h ?_ ?_ <;> clear h <;> intro hc h
   ·refine awp_rM ftCOk [6, 7, 31] [(5, bV false)] [(4, .box [.sl 5, .sl 6])] [] ?_
    refine awp_ret ?_
    obtain rfl := Option.some.inj h
    exact finQ [0, 1, 2, 5, 6]
   ·refine awp_skip ?_
    refine hK5 _ _ ?_
    clear hK5
    replace ⟨hp0, h⟩ := chk_some h
    refine awp_rM ftCOk [7, 31] [] [(6, oI (y_2 ++ y_3))] [] ?_
    clear hp0
    refine awp_rM ftCOk [6] [(5, bV true)] [(4, .box [.sl 5, .sl 6])] [] ?_
    refine awp_ret ?_
    obtain rfl := Option.some.inj h
    exact finQ [0, 1, 2, 5, 6]
theorem k_spec_l18Write (a0_0 : List Int) (a0_1 : List Int) (a1_0 : Int) (a1_1 : List Int) (a1_2 : List Bool) (a1_3 : List (Int × Int × Int)) {r : List Int × List Int × Bool} (h : spec_l18Write a0_0 a0_1 a1_0 a1_1 a1_2 a1_3 = some r) :
 FnA Tryz.prog 38 [.agg [.sl 0, .sl 1], .agg [iV a1_0, .sl 2, .sl 3, .sl 4]] [rI a0_0, rI a0_1, rI a1_1, rB a1_2, rT a1_3] [] (fun x H => x = .tup [.agg [.sl 5, .sl 6], bV r.2.2] ∧ H = [rI a0_0, rI a0_1, rI a1_1, rB a1_2, rT a1_3, oI r.1, oI r.2.1]) := by
 unfold spec_l18Write at h
 refine FnA.ofA 38 [0, 1, 2, 3, 4] [.cell 4 30, .tmp 5] Tryz.func38 en38 ?_
 refine awp_rM ftCOk [0, 1] [(2, .pp 5 0), (3, .pp 6 0), (4, .pp 7 0)] [] [.box [.sl 0, .sl 1], .box [iV a1_0, .sl 2, .sl 3, .sl 4], .box [nV, nV]] ?_
 refine awp_freeze 2 (by rfl) (by rfl) (by exact rfl) ?_
 refine awp_freeze 3 (by rfl) (by rfl) (by exact rfl) ?_
 replace ⟨y, hr0, h⟩ := bind_some h
 refine awp_c ftCOk [3] [(6, .sl 8)] [] [.row true (.intss .i64 y)] [⟨1, [2, 3, 4], k_spec_StateBodies a1_0 a1_1 a1_2 a1_3 (h := hr0)⟩] ?_
 clear hr0
 replace ⟨⟨y_1, y_2⟩, hr0, h⟩ := bind_some h
 try dsimp only at h
 refine awp_c ftCOk [2] [(7, .pp 11 0)] [] [oI y_1, oI y_2, .box [.sl 9, .sl 10]] [⟨1, [0, 1], k_spec_l3Copy a0_0 a0_1 (h := hr0)⟩] ?_
 clear hr0
 refine awp_seq fun K38 hK38 => ?_
 refine awp_rS ftCOk [] [(8, iV 0)] ?_
 refine awp_block ?_
 replace h := bind_some h
 obtain ⟨x75, hx, h⟩ := h
 refine awp_loopL hx (fun (t8, t7_0s, t7_1s) => [(4, .pp 5 0), (6, .sl 6), (7, .pp 7 0), (8, iV t8)]) (fun (t8, t7_0s, t7_1s) => [rI a0_0, rI a0_1, rI a1_1, rB a1_2, rT a1_3, .box [nV, nV], .row true (.intss .i64 y), .box [.sl 8, .sl 9], oI t7_0s, oI t7_1s]) (Sum.elim (fun _ => Exit.exit 0) (fun _ => Exit.ret)) (Sum.elim (fun (t7_0s_1, t7_1s_1) => [(4, .pp 5 0), (6, .sl 6), (7, .pp 7 0)]) (fun (t4_0s, t4_1s) => [(4, .pp 5 0), (5, bV false)])) (Sum.elim (fun (t7_0s_1, t7_1s_1) => [rI a0_0, rI a0_1, rI a1_1, rB a1_2, rT a1_3, .box [nV, nV], .row true (.intss .i64 y), .box [.sl 8, .sl 9], oI t7_0s_1, oI t7_1s_1]) (fun (t4_0s, t4_1s) => [rI a0_0, rI a0_1, rI a1_1, rB a1_2, rT a1_3, .box [.sl 6, .sl 7], oI t4_0s, oI t4_1s])) ?_ ?_ ?_ ?_
 ·rintro (⟨t7_0s_1, t7_1s_1⟩ | ⟨t4_0s, t4_1s⟩) hy <;> cases hy
 ·clear h hx
  exact Red.selA [0, 1, 2, 3, 4, 7, 8, 11, 9, 10] Red.auto
 ·clear h hx
  rintro ⟨t8, t7_0s, t7_1s⟩ r h
  unfold spec_l18Write_b0 at h
  try dsimp only at h
  try dsimp only
  refine awp_seq fun K64 hK64 => ?_
  refine awp_rS ftCOk [] [(18, bV (decide (t8 < (y.length : Int))))] ?_
  refine awp_if h ?_ ?_ <;> clear h <;> intro hc h
  ·refine awp_skip ?_
   refine hK64 _ _ ?_
   clear hK64
   refine awp_seq fun K70 hK70 => ?_
   refine awp_block ?_
   replace h := chk_some h
   obtain ⟨hpt74, h⟩ := h
   refine awp_take 6 t8.toNat 0 (by rfl) (by exact hpt74) (by rfl) (by exact rfl) ?_
   clear hpt74
   replace ⟨hp0, h⟩ := chk_some h
   replace ⟨⟨y_3, y_4, y_5⟩, hr1, h⟩ := bind_some h
   try dsimp only at h
   refine awp_t [18] [(9, .pp 13 0), (10, bV y_5)] [] [oI y_3, oI y_4, .box [.sl 11, .sl 12]] ?_ ?_
   ·clear h
    intro K hK
    refine awp_drawM [0, 1, 2, 3, 4, 5, 6, 7, 8, 9, 10] [1, 2] 10 #[false, true, true, false, false, false, false, false, false, false, false, false] mixed ftCOk (by kernel_rfl) (by first | rfl | kernel_rfl) (by rfl) (by simp) fun L hL hN => ?_
    refine hN.node L 0 #[true, true, true, true, true, true, true, true, true, true, true, true] 11 [] [(9, .pp 13 0), (10, bV y_5), (21, .tup [.agg [.sl 11, .sl 12], bV y_5]), (22, .agg [.sl 8, .sl 9]), (23, .sl 6), (24, iV t8), (25, .ep 6 t8.toNat 1 0), (26, .sl 10), (27, .tup [.agg [.sl 11, .sl 12], bV y_5]), (28, .agg [.sl 11, .sl 12]), (29, bV y_5)] [] [oI y_3, oI y_4, .box [.sl 11, .sl 12]] ?_ fun n7 hN => ?_
    ·exact hL.fin (by kernel_rfl) (hK _ _ Red.auto)
    refine hN.node L 2 #[true, true, true, true, true, true, true, true, true, true, false, false] 14 [10] [] [(13, .box [nV, nV])] [] ?_ fun n6 hN => ?_
    ·refine hL.step [(10, [11], 0, #[true, true, true, true, true, true, true, true, true, true, true, true])] (by kernel_rfl) ⟨?_, trivial⟩
     ·exact hL.edge n7
    refine hN.node L 3 #[true, true, true, true, true, true, true, true, true, false, false, false] 13 [9] [] [] [] ?_ fun n5 hN => ?_
    ·refine hL.step [(9, [], 2, #[true, true, true, true, true, true, true, true, true, true, false, false])] (by kernel_rfl) ⟨?_, trivial⟩
     ·exact hL.edge n6
    refine hN.node L 5 #[true, true, true, true, true, true, false, false, false, true, false, false] 13 [21, 28, 29] [(9, .pp 13 0)] [] [.box [nV, nV]] ?_ fun n8 hN => ?_
    ·refine hL.step [(6, [7, 8], 2, #[true, true, true, true, true, true, true, true, true, true, false, false])] (by kernel_rfl) ⟨?_, trivial⟩
     ·exact hL.edge n6
    refine hN.node L 6 #[true, true, true, true, true, true, false, false, false, false, false, false] 13 [9] [] [] [] ?_ fun n4 hN => ?_
    ·refine hL.step [(6, [7, 8], 3, #[true, true, true, true, true, true, true, true, true, false, false, false]), (9, [], 5, #[true, true, true, true, true, true, false, false, false, true, false, false])] (by kernel_rfl) ⟨?_, ?_, trivial⟩
     ·exact hL.edge n5
     ·exact hL.edge n8
    refine hN.node L 6 #[true, true, true, true, true, false, false, false, false, true, false, false] 12 [27] [(9, .pp 11 0)] [(11, .box [nV, nV])] [] ?_ fun n9 hN => ?_
    ·refine hL.step [(5, [], 5, #[true, true, true, true, true, true, false, false, false, true, false, false])] (by kernel_rfl) ⟨?_, trivial⟩
     ·have nn := n8
      simp (maxSteps := 4000000) only [go_sem]
      repeat' (first | refine And.intro ?_ ?_ | intro hg)
      all_goals (try simp (disch := omega) only [wrap_fits])
      all_goals first
       | (refine hL.red ?_ nn; exact Red.selA [0, 1, 2, 3, 4, 5, 6, 7, 8, 9, 10, 12, 13, 11] Red.auto)
       | exact al0
       | (refine OpK_callA (k_spec_DiskWrite t7_0s t7_1s (y.getD t8.toNat []) (h := hr1)) [8, 9, 10] [] ?_
          rintro x Hc' ⟨rfl, rfl⟩ hlen
          simp (maxSteps := 4000000) only [go_sem]
          repeat' (first | refine And.intro ?_ ?_ | intro hg)
          all_goals (try simp (disch := omega) only [wrap_fits])
          all_goals first | (refine hL.red ?_ nn; exact Red.selA [0, 1, 2, 3, 4, 5, 6, 7, 8, 9, 10, 12, 13, 11] Red.auto) | exact al0 | exact al1)
       | (simp (maxSteps := 4000000) only [go_sem]
          repeat' (first | refine And.intro ?_ ?_ | intro hg)
          all_goals (try simp (disch := omega) only [wrap_fits])
          all_goals first | (refine hL.red ?_ nn; exact Red.selA [0, 1, 2, 3, 4, 5, 6, 7, 8, 9, 10, 12, 13, 11] Red.auto) | exact al0)
       | exact al1
    refine hN.node L 7 #[true, true, true, true, true, false, false, false, false, false, false, false] 11 [9] [] [] [] ?_ fun n3 hN => ?_
    ·refine hL.step [(5, [], 6, #[true, true, true, true, true, true, false, false, false, false, false, false]), (9, [], 6, #[true, true, true, true, true, false, false, false, false, true, false, false])] (by kernel_rfl) ⟨?_, ?_, trivial⟩
     ·have nn := n4
      simp (maxSteps := 4000000) only [go_sem]
      repeat' (first | refine And.intro ?_ ?_ | intro hg)
      all_goals (try simp (disch := omega) only [wrap_fits])
      all_goals first
       | (refine hL.red ?_ nn; exact Red.auto)
       | exact al0
       | (refine OpK_callA (k_spec_DiskWrite t7_0s t7_1s (y.getD t8.toNat []) (h := hr1)) [8, 9, 10] [] ?_
          rintro x Hc' ⟨rfl, rfl⟩ hlen
          exact au4)
       | (exact au3)
       | exact al1
     ·exact hL.edge n9
    refine hN.node L 7 #[true, true, true, true, false, false, false, false, false, true, false, false] 11 [26] [(9, .pp 11 0)] [] [.box [nV, nV]] ?_ fun n10 hN => ?_
    ·refine hL.step [(4, [], 6, #[true, true, true, true, true, false, false, false, false, true, false, false])] (by kernel_rfl) ⟨?_, trivial⟩
     ·exact hL.edge n9
    refine hN.node L 8 #[true, true, true, true, false, false, false, false, false, false, false, false] 11 [9] [] [] [] ?_ fun n2 hN => ?_
    ·refine hL.step [(4, [], 7, #[true, true, true, true, true, false, false, false, false, false, false, false]), (9, [], 7, #[true, true, true, true, false, false, false, false, false, true, false, false])] (by kernel_rfl) ⟨?_, ?_, trivial⟩
     ·exact hL.edge n3
     ·exact hL.edge n10
    refine hN.node L 8 #[true, true, true, false, false, false, false, false, false, true, false, false] 11 [25] [(9, .pp 11 0)] [] [.box [nV, nV]] ?_ fun n11 hN => ?_
    ·refine hL.step [(3, [], 7, #[true, true, true, true, false, false, false, false, false, true, false, false])] (by kernel_rfl) ⟨?_, trivial⟩
     ·exact hL.edge n10
    refine hN.node L 9 #[true, true, true, false, false, false, false, false, false, false, false, false] 11 [9] [] [] [] ?_ fun n1 hN => ?_
    ·refine hL.step [(3, [], 8, #[true, true, true, true, false, false, false, false, false, false, false, false]), (9, [], 8, #[true, true, true, false, false, false, false, false, false, true, false, false])] (by kernel_rfl) ⟨?_, ?_, trivial⟩
     ·exact hL.edge n2
     ·exact hL.edge n11
    refine hN.node L 7 #[false, true, true, true, true, false, false, false, false, true, false, false] 11 [22] [(9, .pp 11 0), (25, .ep 6 t8.toNat 1 0), (26, .sl 10)] [] [.box [nV, nV]] ?_ fun n14 hN => ?_
    ·refine hL.step [(0, [], 6, #[true, true, true, true, true, false, false, false, false, true, false, false])] (by kernel_rfl) ⟨?_, trivial⟩
     ·exact hL.edge n9
    refine hN.node L 8 #[false, true, true, true, true, false, false, false, false, false, false, false] 11 [9] [] [] [] ?_ fun n13 hN => ?_
    ·refine hL.step [(0, [], 7, #[true, true, true, true, true, false, false, false, false, false, false, false]), (9, [], 7, #[false, true, true, true, true, false, false, false, false, true, false, false])] (by kernel_rfl) ⟨?_, ?_, trivial⟩
     ·exact hL.edge n3
     ·exact hL.edge n14
    refine hN.node L 8 #[false, true, true, true, false, false, false, false, false, true, false, false] 11 [26] [(9, .pp 11 0)] [] [.box [nV, nV]] ?_ fun n15 hN => ?_
    ·refine hL.step [(0, [], 7, #[true, true, true, true, false, false, false, false, false, true, false, false]), (4, [], 7, #[false, true, true, true, true, false, false, false, false, true, false, false])] (by kernel_rfl) ⟨?_, ?_, trivial⟩
     ·exact hL.edge n10
     ·exact hL.edge n14
    refine hN.node L 9 #[false, true, true, true, false, false, false, false, false, false, false, false] 11 [9] [] [] [] ?_ fun n12 hN => ?_
    ·refine hL.step [(0, [], 8, #[true, true, true, true, false, false, false, false, false, false, false, false]), (4, [], 8, #[false, true, true, true, true, false, false, false, false, false, false, false]), (9, [], 8, #[false, true, true, true, false, false, false, false, false, true, false, false])] (by kernel_rfl) ⟨?_, ?_, ?_, trivial⟩
     ·exact hL.edge n2
     ·exact hL.edge n13
     ·exact hL.edge n15
    refine hN.node L 9 #[false, true, true, false, false, false, false, false, false, true, false, false] 11 [25] [(9, .pp 11 0)] [] [.box [nV, nV]] ?_ fun n16 hN => ?_
    ·refine hL.step [(0, [], 8, #[true, true, true, false, false, false, false, false, false, true, false, false]), (3, [], 8, #[false, true, true, true, false, false, false, false, false, true, false, false])] (by kernel_rfl) ⟨?_, ?_, trivial⟩
     ·exact hL.edge n11
     ·exact hL.edge n15
    refine hN.node L 10 #[false, true, true, false, false, false, false, false, false, false, false, false] 11 [9] [] [] [] ?_ fun n0 hN => ?_
    ·refine hL.step [(0, [], 9, #[true, true, true, false, false, false, false, false, false, false, false, false]), (3, [], 9, #[false, true, true, true, false, false, false, false, false, false, false, false]), (9, [], 9, #[false, true, true, false, false, false, false, false, false, true, false, false])] (by kernel_rfl) ⟨?_, ?_, ?_, trivial⟩
     ·exact hL.edge n1
     ·exact hL.edge n12
     ·exact hL.edge n16
    have nn := n0
    exact au14
   ·clear hp0 hr1
    refine awp_seq fun K72 hK72 => ?_
    refine awp_put 6 10 (by rfl) (by rfl) (Cont.setChild_self (by rfl)) (by exact rfl) ?_
    refine awp_rS ftCOk [10] [(31, bV (!y_5))] ?_
    refine awp_if h ?_ ?_ <;> clear h <;> intro hc h
    ·refine awp_rM ftCOk [6, 7, 8, 9, 31] [(5, bV false)] [(5, .box [.sl 8, .sl 9])] [] ?_
     refine awp_ret ?_
     refine nm ?_
     obtain rfl := Option.some.inj h
     refine LoopQ.out rfl ?_
     exact Red.selA [0, 1, 2, 3, 4, 5, 8, 9] Red.auto
    ·refine awp_skip ?_
     refine hK72 _ _ ?_
     clear hK72
     refine awp_rEM ftCOk [9, 31] [] [(7, .box [.sl 11, .sl 12])] [] ?_
     refine hK70 _ _ ?_
     clear hK70
     replace ⟨hp0, h⟩ := chk_some h
     refine awp_rES ftCOk [8] [(8, iV (t8 + 1))] ?_
     clear hp0
     obtain rfl := Option.some.inj h
     refine LoopQ.next ?_
     exact Red.selA [0, 1, 2, 3, 4, 5, 6, 7, 11, 12] Red.auto
  ·refine awp_exit ?_
   refine nm ?_
   obtain rfl := Option.some.inj h
   refine LoopQ.out rfl ?_
   exact Red.auto
 ·clear hx
  rcases x75 with (⟨t7_0s_1, t7_1s_1⟩ | ⟨t4_0s, t4_1s⟩)
  ·try dsimp only [Sum.elim_inl, Sum.elim_inr] at h
   try dsimp only [Sum.elim_inl, Sum.elim_inr]
   refine hK38 _ _ ?_
   clear hK38
   refine awp_rM ftCOk [6, 7] [(5, bV (decide (0 < (y.length : Int))))] [(5, .box [.sl 8, .sl 9])] [] ?_
   refine awp_ret ?_
   obtain rfl := Option.some.inj h
   exact finQ [0, 1, 2, 3, 4, 8, 9]
  ·try dsimp only [Sum.elim_inl, Sum.elim_inr] at h
   try dsimp only [Sum.elim_inl, Sum.elim_inr]
   obtain rfl := Option.some.inj h
   exact finQ [0, 1, 2, 3, 4, 6, 7]
theorem k_spec_l1OwnDisk (a0_0 : List Int) (a0_1 : List Int) {r : List Int × List Int} (h : spec_l1OwnDisk a0_0 a0_1 = some r) :
 FnA Tryz.prog 66 [.agg [.sl 0, .sl 1]] [rI a0_0, rI a0_1] [] (fun x H => x = .agg [.sl 2, .sl 3] ∧ H = [rI a0_0, rI a0_1, oI r.1, oI r.2]) := by
 unfold spec_l1OwnDisk at h
 refine FnA.ofA 16 [0, 1] [.cell 2 30] Tryz.func66 en66 ?_
 refine awp_rM ftCOk [0] [(1, .pp 2 0), (2, .pp 3 0)] [] [.box [.sl 0, .sl 1], .box [nV, nV]] ?_
 refine awp_freeze 1 (by rfl) (by rfl) (by exact rfl) ?_
 refine awp_rM ftCOk [] [(3, .pp 4 0)] [] [.box [.sl 0, .sl 1]] ?_
 replace ⟨hp0, h⟩ := chk_some h
 refine awp_rM ftCOk [] [] [(4, .box [.sl 5, .sl 1])] [oI ([] ++ a0_0)] ?_
 clear hp0
 replace ⟨hp0, h⟩ := chk_some h
 refine awp_rM ftCOk [1] [] [(4, .box [.sl 5, .sl 6])] [oI ([] ++ a0_1)] ?_
 clear hp0
 refine awp_rM ftCOk [3] [] [(3, .box [.sl 5, .sl 6])] [] ?_
 refine awp_ret ?_
 obtain rfl := Option.some.inj h
 exact finQ [0, 1, 5, 6]
theorem k_spec_DiskSync (a0_0 : List Int) (a0_1 : List Int) {r : List Int × List Int} (h : spec_DiskSync a0_0 a0_1 = some r) :
 FnA Tryz.prog 40 [.agg [.sl 0, .sl 1]] [rI a0_0, rI a0_1] [] (fun x H => x = .agg [.sl 2, .sl 3] ∧ H = [rI a0_0, rI a0_1, oI r.1, oI r.2]) := by
 unfold spec_DiskSync at h
 refine FnA.ofA 17 [0, 1] [.cell 2 30] Tryz.func40 en40 ?_
 refine awp_rM ftCOk [0] [(1, .pp 2 0), (2, .pp 3 0)] [] [.box [.sl 0, .sl 1], .box [nV, nV]] ?_
 replace ⟨⟨y, y_1⟩, hr0, h⟩ := bind_some h
 try dsimp only at h
 refine awp_c ftCOk [] [] [(2, .box [.sl 4, .sl 5])] [oI y, oI y_1] [⟨1, [0, 1], k_spec_l1OwnDisk a0_0 a0_1 (h := hr0)⟩] ?_
 clear hr0
 refine awp_seq fun K2 hK2 => ?_
 replace ⟨y_2, hr0, h⟩ := bind_some h
 refine awp_c ftCOk [] [(7, bV (!y_2))] [] [] [⟨1, [4, 5], k_spec_DiskValid y y_1 (h := hr0)⟩] ?_
 clear hr0
 refine awp_if h ?_ ?_ <;> clear h <;> intro hc h
 ·refine awp_rS ftCOk [1, 7] [] ?_
  refine awp_red (Red.nilCell (o := 3) (i := 0) (.ints .i64 []) rfl rfl rfl) ?_
  refine awp_red (Red.nilCell (o := 3) (i := 1) (.ints .i64 []) rfl rfl rfl) ?_
  refine awp_ret ?_
  obtain rfl := Option.some.inj h
  exact finQ [0, 1, 6, 7]
 ·refine awp_skip ?_
  refine hK2 _ _ ?_
  clear hK2
  refine awp_freeze 1 (by rfl) (by rfl) (by first | exact rfl | (simp only [List.map_cons, List.map_nil, List.set_cons_succ, List.set_cons_zero, AObj.unview, reduceCtorEq, ↓reduceIte, Nat.reduceEqDiff]; exact rfl)) ?_
  replace ⟨hp0, h⟩ := chk_some h
  replace ⟨hp1, h⟩ := chk_some h
  refine awp_t [1, 7] [] [(3, .box [.sl 6, nV])] [oI (([] ++ y) ++ y_1)] ?_ ?_
  ·clear h
   intro K hK
   refine awp_drawT mixed ftCOk (.free 1 (.free 4 (.free 2 (.free 5 (.one 0 (.one 3 (.one 6 (.one 7 (.one 8 .fin))))))))) (by kernel_rfl) (by simp) ?_
   exact auV
  ·clear hp0 hp1
   refine awp_red (Red.nilCell (o := 3) (i := 1) (.ints .i64 []) rfl rfl rfl) ?_
   refine awp_ret ?_
   obtain rfl := Option.some.inj h
   exact finQ [0, 1, 6, 7]
theorem k_spec_SaveState (a0_0 : List Int) (a0_1 : List Int) (a1_0 : Int) (a1_1 : List Int) (a1_2 : List Bool) (a1_3 : List (Int × Int × Int)) {r : List Int × List Int × Bool} (h : spec_SaveState a0_0 a0_1 a1_0 a1_1 a1_2 a1_3 = some r) :
 FnA Tryz.prog 17 [.agg [.sl 0, .sl 1], .agg [iV a1_0, .sl 2, .sl 3, .sl 4]] [rI a0_0, rI a0_1, rI a1_1, rB a1_2, rT a1_3] [] (fun x H => x = .tup [.agg [.sl 5, .sl 6], bV r.2.2] ∧ H = [rI a0_0, rI a0_1, rI a1_1, rB a1_2, rT a1_3, oI r.1, oI r.2.1]) := by
 unfold spec_SaveState at h
 refine FnA.ofA 24 [0, 1, 2, 3, 4] [.cell 4 30, .tmp 5] Tryz.func17 en17 ?_
 refine awp_rM ftCOk [0, 1] [(2, .pp 5 0), (3, .pp 6 0), (4, .pp 7 0)] [] [.box [.sl 0, .sl 1], .box [iV a1_0, .sl 2, .sl 3, .sl 4], .box [nV, nV]] ?_
 refine awp_freeze 2 (by rfl) (by rfl) (by exact rfl) ?_
 refine awp_freeze 3 (by rfl) (by rfl) (by exact rfl) ?_
 refine awp_seq fun K2 hK2 => ?_
 replace ⟨y, hr0, h⟩ := bind_some h
 refine awp_c ftCOk [] [(10, bV (!y))] [] [] [⟨1, [0, 1], k_spec_DiskValid a0_0 a0_1 (h := hr0)⟩] ?_
 clear hr0
 refine awp_if h ?_ ?_ <;> clear h <;> intro hc h
 ·refine awp_rS ftCOk [2, 3, 10] [(5, bV false)] ?_
  refine awp_red (Red.nilCell (o := 7) (i := 0) (.ints .i64 []) rfl rfl rfl) ?_
  refine awp_red (Red.nilCell (o := 7) (i := 1) (.ints .i64 []) rfl rfl rfl) ?_
  refine awp_ret ?_
  obtain rfl := Option.some.inj h
  exact finQ [0, 1, 2, 3, 4, 8, 9]
 ·refine awp_skip ?_
  refine hK2 _ _ ?_
  clear hK2
  replace ⟨⟨y_1, y_2, y_3⟩, hr0, h⟩ := bind_some h
  try dsimp only at h
  refine awp_c ftCOk [3, 10] [(6, .pp 10 0), (7, bV y_3)] [] [oI y_1, oI y_2, .box [.sl 8, .sl 9]] [⟨2, [0, 1, 2, 3, 4], k_spec_l18Write a0_0 a0_1 a1_0 a1_1 a1_2 a1_3 (h := hr0)⟩] ?_
  clear hr0
  refine awp_seq fun K5 hK5 => ?_
  refine awp_rS ftCOk [7] [(19, bV (!y_3))] ?_
  refine awp_if h ?_ ?_ <;> clear h <;> intro hc h
  ·replace ⟨⟨y_4, y_5⟩, hr0, h⟩ := bind_some h
   try dsimp only at h
   refine awp_c ftCOk [2, 6, 19] [(5, bV false)] [(7, .box [.sl 11, .sl 12])] [oI y_4, oI y_5] [⟨1, [0, 1], k_spec_l3Copy a0_0 a0_1 (h := hr0)⟩] ?_
   clear hr0
   refine awp_ret ?_
   obtain rfl := Option.some.inj h
   exact finQ [0, 1, 2, 3, 4, 11, 12]
  ·refine awp_skip ?_
   refine hK5 _ _ ?_
   clear hK5
   replace ⟨⟨y_6, y_7⟩, hr0, h⟩ := bind_some h
   try dsimp only at h
   refine awp_c ftCOk [2, 6, 19] [(5, bV true)] [(7, .box [.sl 11, .sl 12])] [oI y_6, oI y_7] [⟨1, [8, 9], k_spec_DiskSync y_1 y_2 (h := hr0)⟩] ?_
   clear hr0
   refine awp_ret ?_
   obtain rfl := Option.some.inj h
   exact finQ [0, 1, 2, 3, 4, 11, 12]
theorem k_laws_sameInts (a0 : List Int) (a1 : List Int) {r : Bool} (h : laws_sameInts a0 a1 = some r) :
 FnA Tryz.prog 25 [.sl 0, .sl 1] [rI a0, rI a1] [] (fun x H => x = bV r ∧ H = [rI a0, rI a1]) := by
 unfold laws_sameInts at h
 refine FnA.ofA 26 [0, 1] [.tmp 4] Tryz.func25 en25 ?_
 refine awp_rS ftCOk [] [] ?_
 refine awp_seq fun K2 hK2 => ?_
 refine awp_rS ftCOk [] [(10, bV ((a0.length : Int) != (a1.length : Int)))] ?_
 refine awp_if h ?_ ?_ <;> clear h <;> intro hc h
 ·refine awp_rS ftCOk [0, 1, 10] [(4, bV false)] ?_
  refine awp_ret ?_
  obtain rfl := Option.some.inj h
  exact finQ [0, 1]
 ·refine awp_skip ?_
  refine hK2 _ _ ?_
  clear hK2
  refine awp_seq fun K23 hK23 => ?_
  refine awp_rS ftCOk [10] [(5, iV 0)] ?_
  refine awp_block ?_
  replace h := bind_some h
  obtain ⟨x42, hx, h⟩ := h
  refine awp_loopL hx (fun t5 => [(0, .sl 0), (1, .sl 1), (5, iV t5)]) (fun t5 => [rI a0, rI a1]) (Sum.elim (fun _ => Exit.exit 0) (fun _ => Exit.ret)) (Sum.elim (fun _ => []) (fun _ => [(4, bV false)])) (Sum.elim (fun _ => [rI a0, rI a1]) (fun _ => [rI a0, rI a1])) ?_ ?_ ?_ ?_
  ·rintro (⟨⟩ | ⟨⟩) hy <;> cases hy
  ·clear h hx
   exact Red.auto
  ·clear h hx
   rintro t5 r h
   unfold laws_sameInts_b0 at h
   try dsimp only at h
   try dsimp only
   refine awp_seq fun K37 hK37 => ?_
   refine awp_rS ftCOk [] [(14, bV (decide (t5 < (a0.length : Int))))] ?_
   refine awp_if h ?_ ?_ <;> clear h <;> intro hc h
   ·refine awp_skip ?_
    refine hK37 _ _ ?_
    clear hK37
    refine awp_seq fun K40 hK40 => ?_
    refine awp_block ?_
    replace ⟨hp0, h⟩ := chk_some h
    replace ⟨hp1, h⟩ := chk_some h
    refine awp_qS mixed ftCOk [14] [(25, bV ((a0.getD t5.toNat 0) != (a1.getD t5.toNat 0)))] ?_
    clear hp0 hp1
    refine awp_if h ?_ ?_ <;> clear h <;> intro hc h
    ·refine awp_rS ftCOk [0, 1, 5, 25] [(4, bV false)] ?_
     refine awp_ret ?_
     refine nm ?_
     obtain rfl := Option.some.inj h
     refine LoopQ.out rfl ?_
     exact Red.auto
    ·refine awp_skip ?_
     refine hK40 _ _ ?_
     clear hK40
     replace ⟨hp0, h⟩ := chk_some h
     refine awp_rES ftCOk [5, 25] [(5, iV (t5 + 1))] ?_
     clear hp0
     obtain rfl := Option.some.inj h
     refine LoopQ.next ?_
     exact Red.auto
   ·refine awp_exit ?_
    refine nm ?_
    obtain rfl := Option.some.inj h
    refine LoopQ.out rfl ?_
    exact Red.auto
  ·clear hx
   rcases x42 with (⟨⟩ | ⟨⟩)
   ·try dsimp only [Sum.elim_inl, Sum.elim_inr] at h
    try dsimp only [Sum.elim_inl, Sum.elim_inr]
    refine hK23 _ _ ?_
    clear hK23
    refine awp_rS ftCOk [] [(4, bV true)] ?_
    refine awp_ret ?_
    obtain rfl := Option.some.inj h
    exact finQ [0, 1]
   ·try dsimp only [Sum.elim_inl, Sum.elim_inr] at h
    try dsimp only [Sum.elim_inl, Sum.elim_inr]
    obtain rfl := Option.some.inj h
    exact finQ [0, 1]
theorem k_laws_sameDisk (a0_0 : List Int) (a0_1 : List Int) (a1_0 : List Int) (a1_1 : List Int) {r : Bool} (h : laws_sameDisk a0_0 a0_1 a1_0 a1_1 = some r) :
 FnA Tryz.prog 8 [.agg [.sl 0, .sl 1], .agg [.sl 2, .sl 3]] [rI a0_0, rI a0_1, rI a1_0, rI a1_1] [] (fun x H => x = bV r ∧ H = [rI a0_0, rI a0_1, rI a1_0, rI a1_1]) := by
 unfold laws_sameDisk at h
 refine FnA.ofA 17 [0, 1, 2, 3] [.tmp 4] Tryz.func8 en8 ?_
 refine awp_rM ftCOk [0, 1] [(2, .pp 4 0), (3, .pp 5 0)] [] [.box [.sl 0, .sl 1], .box [.sl 2, .sl 3]] ?_
 refine awp_freeze 2 (by rfl) (by rfl) (by exact rfl) ?_
 refine awp_freeze 3 (by rfl) (by rfl) (by exact rfl) ?_
 replace ⟨y, hr0, h⟩ := bind_some h
 replace ⟨y_1, hr1, h⟩ := bind_some h
 refine awp_t [2, 3] [(4, bV (y && y_1))] [] [] ?_ ?_
 ·clear h
  intro K hK
  refine awp_region ftCOk ?_
  simp (maxSteps := 4000000) only [go_sem]
  repeat' (first | refine And.intro ?_ ?_ | intro hg)
  all_goals (try simp (disch := omega) only [wrap_fits])
  all_goals first
   | exact al0
   | (refine wpA_callA (k_laws_sameInts a0_0 a1_0 (h := hr0)) [0, 2] [] ?_
      rintro x Hc' ⟨rfl, rfl⟩ hlen
      refine vcOps_sound ftCOk ?_
      simp (maxSteps := 4000000) only [go_sem]
      repeat' (first | refine And.intro ?_ ?_ | intro hg)
      all_goals (try simp (disch := omega) only [wrap_fits])
      all_goals first
       | exact al0
       | (refine wpA_guard rfl rfl ?_
          refine wpA_callA (k_laws_sameInts a0_1 a1_1 (h := (bite_t hr1 byg))) [1, 3] [] ?_
          rintro x Hc' ⟨rfl, rfl⟩ hlen
          refine vcOps_sound ftCOk ?_
          exact auV)
       | exact al1)
   | exact al1
 ·clear hr0 hr1
  refine awp_ret ?_
  obtain rfl := Option.some.inj h
  exact finQ [0, 1, 2, 3]
theorem k_laws_alive {r : Bool} (h : laws_alive = some r) :
 FnA Tryz.prog 9 [] [] [] (fun x H => x = bV r ∧ H = []) := by
 unfold laws_alive at h
 refine FnA.ofA 4 [] [.tmp 0] Tryz.func9 en9 ?_
 refine awp_rS ftCOk [] [] ?_
 replace ⟨y, hr0, h⟩ := bind_some h
 refine awp_c ftCOk [] [(0, bV (y == 7))] [] [oI []] [⟨1, [0], k_impl_CheckSum [] (h := hr0)⟩] ?_
 clear hr0
 refine awp_ret ?_
 obtain rfl := Option.some.inj h
 exact finQ []
theorem k_impl_frameAt_v4 {Ψ : ExtP} (a1_0 : List Int) {r : List Int × Int × Bool} (h : impl_frameAt_v4 a1_0 = some r) :
 FnA Tryz.prog 68 [.sl 2, iV 0] [.ext Ψ, .rbox [.sl 2], rI a1_0] [] (fun x H => x = .tup [.sl 3, iV r.2.1, bV r.2.2] ∧ H = [.ext Ψ, .rbox [.sl 2], rI a1_0, rI r.1]) := by
 unfold impl_frameAt_v4 at h
 refine FnA.ofA 59 [0, 1, 2] [.tmp 4, .tmp 5, .tmp 6] Tryz.func68 en68 ?_
 refine awp_rS ftCOk [] [] ?_
 refine awp_seq fun K2 hK2 => ?_
 refine awp_rS ftCOk [] [(16, bV ((decide (0 < 0)) || (decide ((a1_0.length : Int) ≤ 0))))] ?_
 refine awp_if h ?_ ?_ <;> clear h <;> intro hc h
 ·refine awp_rS ftCOk [0, 1, 16] [(4, nV), (5, iV 0), (6, bV false)] ?_
  refine awp_red (Red.nil (t := 4) (.ints .i64 []) rfl rfl) ?_
  refine awp_red (Red.freeze (o := 3) rfl) ?_
  refine awp_ret ?_
  obtain rfl := Option.some.inj h
  exact finQ [0, 1, 2, 3]
 ·refine awp_skip ?_
  refine hK2 _ _ ?_
  clear hK2
  replace ⟨hp0, h⟩ := chk_some h
  refine awp_rS ftCOk [16] [(7, iV (a1_0.getD 0 0))] ?_
  clear hp0
  refine awp_seq fun K5 hK5 => ?_
  replace ⟨hp0, h⟩ := chk_some h
  replace ⟨hp1, h⟩ := chk_some h
  have hwhp1 := wrap_fits hp1.1 hp1.2
  refine awp_t [] [(35, bV (((decide ((a1_0.getD 0 0) < 1)) || (decide (100 < (a1_0.getD 0 0)))) || (decide (((a1_0.length : Int) - 0) < ((a1_0.getD 0 0) + 2)))))] [] [] ?_ ?_
  ·clear h
   intro K hK
   refine awp_regionA ?_
   refine wpA_cutAt 6 [(0, .sl 2), (1, iV 0), (7, iV (a1_0.getD 0 0)), (26, bV ((decide ((a1_0.getD 0 0) < 1)) || (decide (100 < (a1_0.getD 0 0)))))] [.ext Ψ, .rbox [.sl 2], rI a1_0] ?_ ?_
   ·clear hK K
    intro K hK
    refine vcOps_sound ftCOk ?_
    exact au6
   refine vcOps_sound ftCOk ?_
   exact au6
  ·clear hp0 hp1
   refine awp_if h ?_ ?_ <;> clear h <;> intro hc h
   ·refine awp_rS ftCOk [0, 1, 7, 35] [(4, nV), (5, iV 0), (6, bV false)] ?_
    refine awp_red (Red.nil (t := 4) (.ints .i64 []) rfl rfl) ?_
    refine awp_red (Red.freeze (o := 3) rfl) ?_
    refine awp_ret ?_
    obtain rfl := Option.some.inj h
    exact finQ [0, 1, 2, 3]
   ·refine awp_skip ?_
    refine hK5 _ _ ?_
    clear hK5
    replace ⟨hp0, h⟩ := chk_some h
    replace ⟨hp1, h⟩ := chk_some h
    refine awp_rM ftCOk [35] [(8, .sl 3)] [] [rI ((a1_0.take ((1 + (a1_0.getD 0 0)).toNat)).drop 1)] ?_
    clear hp0 hp1
    refine awp_seq fun K8 hK8 => ?_
    replace ⟨hp0, h⟩ := chk_some h
    replace ⟨hp1, h⟩ := chk_some h
    replace ⟨y, hr2, h⟩ := bind_some h
    refine awp_t [0] [(53, bV ((a1_0.getD ((1 + (a1_0.getD 0 0)).toNat) 0) != y))] [] [] ?_ ?_
    ·clear h
     intro K hK
     refine awp_drawT mixed ftCOk (.free 0 (.free 1 (.free 2 (.free 3 (.free 4 (.free 5 (.free 7 (.free 6 (.one 8 (.one 9 .fin)))))))))) (by kernel_rfl) (by simp) ?_
     simp (maxSteps := 4000000) only [go_sem]
     repeat' (first | refine And.intro ?_ ?_ | intro hg)
     all_goals (try simp (disch := omega) only [wrap_fits])
     all_goals first
      | exact al0
      | (refine OpK_callA (k_impl_CheckSum ((a1_0.take ((1 + (a1_0.getD 0 0)).toNat)).drop 1) (h := hr2)) [3] [] ?_
         rintro x Hc' ⟨rfl, rfl⟩ hlen
         exact auV)
      | exact al1
    ·clear hp0 hp1 hr2
     refine awp_if h ?_ ?_ <;> clear h <;> intro hc h
     ·refine awp_rS ftCOk [1, 7, 8, 53] [(4, nV), (5, iV 0), (6, bV false)] ?_
      refine awp_red (Red.nil (t := 4) (.ints .i64 []) rfl rfl) ?_
      refine awp_red (Red.freeze (o := 4) rfl) ?_
      refine awp_ret ?_
      obtain rfl := Option.some.inj h
      exact finQ [0, 1, 2, 4]
     ·refine awp_skip ?_
      refine hK8 _ _ ?_
      clear hK8
      replace ⟨hp0, h⟩ := chk_some h
      replace ⟨hp1, h⟩ := chk_some h
      refine awp_rS ftCOk [1, 7, 8, 53] [(4, .sl 3), (5, iV ((0 + (a1_0.getD 0 0)) + 2)), (6, bV true)] ?_
      clear hp0 hp1
      refine awp_ret ?_
      obtain rfl := Option.some.inj h
      exact finQ [0, 1, 2, 3]
theorem k_impl_frameAt_v5 {Ψ : ExtP} (a1_0 : List Int) (t3 : Int) {r : List Int × Int × Bool} (h : impl_frameAt_v5 a1_0 t3 = some r) :
 FnA Tryz.prog 68 [.sl 2, iV t3] [.ext Ψ, .rbox [.sl 2], rI a1_0] [] (fun x H => x = .tup [.sl 3, iV r.2.1, bV r.2.2] ∧ H = [.ext Ψ, .rbox [.sl 2], rI a1_0, rI r.1]) := by
 unfold impl_frameAt_v5 at h
 refine FnA.ofA 59 [0, 1, 2] [.tmp 4, .tmp 5, .tmp 6] Tryz.func68 en68 ?_
 refine awp_rS ftCOk [] [] ?_
 refine awp_seq fun K2 hK2 => ?_
 refine awp_rS ftCOk [] [(16, bV ((decide (t3 < 0)) || (decide ((a1_0.length : Int) ≤ t3))))] ?_
 refine awp_if h ?_ ?_ <;> clear h <;> intro hc h
 ·refine awp_rS ftCOk [0, 1, 16] [(4, nV), (5, iV 0), (6, bV false)] ?_
  refine awp_red (Red.nil (t := 4) (.ints .i64 []) rfl rfl) ?_
  refine awp_red (Red.freeze (o := 3) rfl) ?_
  refine awp_ret ?_
  obtain rfl := Option.some.inj h
  exact finQ [0, 1, 2, 3]
 ·refine awp_skip ?_
  refine hK2 _ _ ?_
  clear hK2
  replace ⟨hp0, h⟩ := chk_some h
  refine awp_rS ftCOk [16] [(7, iV (a1_0.getD t3.toNat 0))] ?_
  clear hp0
  refine awp_seq fun K5 hK5 => ?_
  replace ⟨hp0, h⟩ := chk_some h
  replace ⟨hp1, h⟩ := chk_some h
  have hwhp1 := wrap_fits hp1.1 hp1.2
  refine awp_t [] [(35, bV (((decide ((a1_0.getD t3.toNat 0) < 1)) || (decide (100 < (a1_0.getD t3.toNat 0)))) || (decide (((a1_0.length : Int) - t3) < ((a1_0.getD t3.toNat 0) + 2)))))] [] [] ?_ ?_
  ·clear h
   intro K hK
   refine awp_regionA ?_
   refine wpA_cutAt 6 [(0, .sl 2), (1, iV t3), (7, iV (a1_0.getD t3.toNat 0)), (26, bV ((decide ((a1_0.getD t3.toNat 0) < 1)) || (decide (100 < (a1_0.getD t3.toNat 0)))))] [.ext Ψ, .rbox [.sl 2], rI a1_0] ?_ ?_
   ·clear hK K
    intro K hK
    refine vcOps_sound ftCOk ?_
    exact au6
   refine vcOps_sound ftCOk ?_
   exact au6
  ·clear hp0 hp1
   refine awp_if h ?_ ?_ <;> clear h <;> intro hc h
   ·refine awp_rS ftCOk [0, 1, 7, 35] [(4, nV), (5, iV 0), (6, bV false)] ?_
    refine awp_red (Red.nil (t := 4) (.ints .i64 []) rfl rfl) ?_
    refine awp_red (Red.freeze (o := 3) rfl) ?_
    refine awp_ret ?_
    obtain rfl := Option.some.inj h
    exact finQ [0, 1, 2, 3]
   ·refine awp_skip ?_
    refine hK5 _ _ ?_
    clear hK5
    replace ⟨hp0, h⟩ := chk_some h
    replace ⟨hp1, h⟩ := chk_some h
    replace ⟨hp2, h⟩ := chk_some h
    refine awp_rM ftCOk [35] [(8, .sl 3)] [] [rI ((a1_0.take (((t3 + 1) + (a1_0.getD t3.toNat 0)).toNat)).drop ((t3 + 1).toNat))] ?_
    clear hp0 hp1 hp2
    refine awp_seq fun K8 hK8 => ?_
    replace ⟨hp0, h⟩ := chk_some h
    replace ⟨hp1, h⟩ := chk_some h
    replace ⟨hp2, h⟩ := chk_some h
    replace ⟨y, hr3, h⟩ := bind_some h
    refine awp_t [0] [(53, bV ((a1_0.getD (((t3 + 1) + (a1_0.getD t3.toNat 0)).toNat) 0) != y))] [] [] ?_ ?_
    ·clear h
     intro K hK
     refine awp_drawT mixed ftCOk (.free 0 (.free 1 (.free 2 (.free 3 (.free 4 (.free 5 (.free 7 (.free 6 (.one 8 (.one 9 .fin)))))))))) (by kernel_rfl) (by simp) ?_
     simp (maxSteps := 4000000) only [go_sem]
     repeat' (first | refine And.intro ?_ ?_ | intro hg)
     all_goals (try simp (disch := omega) only [wrap_fits])
     all_goals first
      | exact al0
      | (refine OpK_callA (k_impl_CheckSum ((a1_0.take (((t3 + 1) + (a1_0.getD t3.toNat 0)).toNat)).drop ((t3 + 1).toNat)) (h := hr3)) [3] [] ?_
         rintro x Hc' ⟨rfl, rfl⟩ hlen
         exact auV)
      | exact al1
    ·clear hp0 hp1 hp2 hr3
     refine awp_if h ?_ ?_ <;> clear h <;> intro hc h
     ·refine awp_rS ftCOk [1, 7, 8, 53] [(4, nV), (5, iV 0), (6, bV false)] ?_
      refine awp_red (Red.nil (t := 4) (.ints .i64 []) rfl rfl) ?_
      refine awp_red (Red.freeze (o := 4) rfl) ?_
      refine awp_ret ?_
      obtain rfl := Option.some.inj h
      exact finQ [0, 1, 2, 4]
     ·refine awp_skip ?_
      refine hK8 _ _ ?_
      clear hK8
      replace ⟨hp0, h⟩ := chk_some h
      replace ⟨hp1, h⟩ := chk_some h
      refine awp_rS ftCOk [1, 7, 8, 53] [(4, .sl 3), (5, iV ((t3 + (a1_0.getD t3.toNat 0)) + 2)), (6, bV true)] ?_
      clear hp0 hp1
      refine awp_ret ?_
      obtain rfl := Option.some.inj h
      exact finQ [0, 1, 2, 3]
theorem k_impl_framesOf_1 {υ : Type} (Φ : υ → ExtP) (l : Nat) (a1_0 : List Int) (yld : (List Int × Int) → υ → Option (Bool × υ)) (u : υ) (hY : ∀ (x : List Int × Int) (u : υ) (b : Bool) (u' : υ), yld x u = some (b, u') → RoundA Tryz.prog l (Φ u) [.sl 0, iV x.2] [rI x.1] (fun b2 Φ2 => b2 = b ∧ Φ2 = Φ u')) {r : υ} (h : impl_framesOf_1 a1_0 yld u = some r) :
 FnA Tryz.prog 67 [.v (yv l), .pp 1 0] [.ext (Φ u), .rbox [.sl 2], rI a1_0] [] (fun x H => x = .tup [] ∧ H = [.ext (Φ r), .rbox [.sl 2], rI a1_0]) := by
 unfold impl_framesOf_1 at h
 refine FnA.ofA 24 [0, 1, 2] [] Tryz.func67 en67 ?_
 refine awp_rS ftCOk [] [(3, iV 0)] ?_
 refine awp_block ?_
 replace h := bind_some h
 obtain ⟨p0s_1, hx, h⟩ := h
 refine awp_loopL hx (fun (t3, p0s) => [(0, .v (yv l)), (1, .pp 1 0), (3, iV t3)]) (fun (t3, p0s) => [.ext (Φ p0s), .rbox [.sl 2], rI a1_0]) (fun _ => Exit.ret) (fun p0s_1 => []) (fun p0s_1 => [.ext (Φ p0s_1), .rbox [.sl 2], rI a1_0]) ?_ ?_ ?_ ?_
 ·rintro p0s_1 hy <;> cases hy
 ·clear h hx
  exact Red.auto
 ·clear h hx
  rintro ⟨t3, p0s⟩ r h
  unfold impl_framesOf_1_b0 at h
  try dsimp only at h
  try dsimp only
  refine awp_block ?_
  replace ⟨⟨y, y_1, y_2⟩, hr0, h⟩ := bind_some h
  try dsimp only at h
  refine awp_t [3] [(4, .sl 3), (5, iV y_1), (6, bV y_2)] [] [rI y] ?_ ?_
  ·clear h
   intro K hK
   refine awp_region ftCOk ?_
   simp (maxSteps := 4000000) only [go_sem]
   repeat' (first | refine And.intro ?_ ?_ | intro hg)
   all_goals (try simp (disch := omega) only [wrap_fits])
   all_goals first
    | exact al0
    | contradiction
    | (simp only [List.length_nil, List.length_append]; omega)
    | (refine wpA_here (k_impl_frameAt_v5 a1_0 t3 (h := hr0)) ?_
       rintro x Hc' ⟨rfl, rfl⟩ hlen
       refine vcOps_sound ftCOk ?_
       exact au5)
    | exact al1
  ·clear hr0
   refine awp_seq fun K8 hK8 => ?_
   cases y_2
   ·replace h := bite_f h rfl
    refine awp_rS ftCOk [4, 6] [(22, bV true)] ?_
    refine awp_cond (t := 22) rfl (fun _ => ?_) (fun hc => by cases hc)
    refine awp_ret ?_
    refine nm ?_
    obtain rfl := Option.some.inj h
    refine LoopQ.out rfl ?_
    exact Red.selA [0, 1, 2] Red.auto
   ·replace h := bite_t h rfl
    replace ⟨⟨y_3, u_1⟩, hr0, h⟩ := bind_some h
    try dsimp only at h
    refine awp_t [4, 6] [(22, bV (!y_3))] [(0, .ext (Φ u_1))] [] ?_ ?_
    ·clear h
     intro K hK
     refine awp_regionYg 6 ?_
     refine vcOps_sound ftCOk ?_
     simp (maxSteps := 4000000) only [go_sem]
     repeat' (first | refine And.intro ?_ ?_ | intro hg)
     all_goals (try simp (disch := omega) only [wrap_fits])
     all_goals first
      | exact al0
      | contradiction
      | (simp only [List.length_nil, List.length_append]; omega)
      | (refine OpYA (hY _ _ _ _ hr0) 0 [3] [] ?_
         rintro b Φ' ⟨rfl, rfl⟩
         refine vcOps_sound ftCOk ?_
         exact au5)
      | exact al1
    ·clear hr0
     refine awp_if h ?_ ?_ <;> clear h <;> intro hc h
     ·refine awp_ret ?_
      refine nm ?_
      obtain rfl := Option.some.inj h
      refine LoopQ.out rfl ?_
      exact Red.selA [0, 1, 2] Red.auto
     ·refine awp_skip ?_
      refine hK8 _ _ ?_
      clear hK8
      refine awp_rES ftCOk [5, 22] [(3, iV y_1)] ?_
      refine nm ?_
      obtain rfl := Option.some.inj h
      refine LoopQ.next ?_
      exact Red.selA [0, 1, 2] Red.auto
 ·clear hx
  skip
  ·try dsimp only [Sum.elim_inl, Sum.elim_inr] at h
   try dsimp only [Sum.elim_inl, Sum.elim_inr]
   obtain rfl := Option.some.inj h
   exact finQ [0, 1, 2]
theorem k_impl_framesOf_v6 (a0 : List Int) {r : Unit} (h : impl_framesOf_v6 a0 = some r) :
 FnA Tryz.prog 42 [.sl 0] [rI a0, .box [nV], .box [iV 0]] [] (fun x H => x = .ip 3 (.clo 67) ∧ H = [rI a0, .box [nV], .box [iV 0], .rbox [.sl 0]]) := by
 unfold impl_framesOf_v6 at h
 refine FnA.ofA 4 [0, 1, 2] [.tmp 2] Tryz.func42 en42 ?_
 refine awp_rM ftCOk [0] [(1, .pp 3 0)] [] [.box [.sl 0]] ?_
 refine awp_freeze 1 (by rfl) (by rfl) (by exact rfl) ?_
 refine awp_rS ftCOk [1] [(2, .ip 3 (.clo 67))] ?_
 refine awp_ret ?_
 obtain rfl := Option.some.inj h
 exact finQ [0, 1, 2, 3]
theorem k_impl_ScanFrames (a0 : List Int) {r : List (List Int) × Int} (h : impl_ScanFrames a0 = some r) :
 FnA Tryz.prog 18 [.sl 0] [rI a0] [] (fun x H => x = .tup [.sl 1, iV r.2] ∧ H = [rI a0, .row true (.intss .i64 r.1)]) := by
 unfold impl_ScanFrames at h
 refine FnA.ofA 23 [0] [.tmp 2, .tmp 3] Tryz.func18 en18 ?_
 refine awp_rS ftCOk [] [] ?_
 refine awp_seq fun K2 hK2 => ?_
 replace ⟨y, hr0, h⟩ := bind_some h
 refine awp_c ftCOk [] [(10, bV (!y))] [] [] [⟨1, [0], k_impl_BytesValid a0 (h := hr0)⟩] ?_
 clear hr0
 refine awp_if h ?_ ?_ <;> clear h <;> intro hc h
 ·refine awp_rS ftCOk [0, 10] [(2, nV), (3, iV (-1))] ?_
  refine awp_red (Red.nil (t := 2) (.intss .i64 []) rfl rfl) ?_
  refine awp_ret ?_
  obtain rfl := Option.some.inj h
  exact finQ [0, 1]
 ·refine awp_skip ?_
  refine hK2 _ _ ?_
  clear hK2
  refine awp_rM ftCOk [10] [(4, .pp 1 0)] [] [.box [nV]] ?_
  refine awp_rM ftCOk [] [(5, .pp 2 0)] [] [.box [iV 0]] ?_
  refine awp_seq fun K5 hK5 => ?_
  replace ⟨⟨⟩, hr0, h⟩ := bind_some h
  try dsimp only at h
  refine awp_t [0] [(12, .ip 3 (.clo 67))] [] [.rbox [.sl 0]] ?_ ?_
  ·clear h
   intro K hK
   refine awp_region ftCOk ?_
   simp (maxSteps := 4000000) only [go_sem]
   repeat' (first | refine And.intro ?_ ?_ | intro hg)
   all_goals (try simp (disch := omega) only [wrap_fits])
   all_goals first
    | exact al0
    | (refine wpA_here (k_impl_framesOf_v6 a0 (h := hr0)) ?_
       rintro x Hc' ⟨rfl, rfl⟩ hlen
       refine vcOps_sound ftCOk ?_
       exact auV)
    | exact al1
  ·clear hr0
   refine awp_block ?_
   replace h := bind_some h
   obtain ⟨u6, hx, h⟩ := h
   refine awp_rangeL (f := impl_ScanFrames_r0) (s0 := ([], 0)) (u' := u6) [0, 1, 3, 4] [(4, .pp 1 0), (5, .pp 3 0), (12, .ip 4 (.clo 67))] (fun ((t4_0s, t5_0) : List (List Int) × Int) => [rI a0, .box [.sl 2], .row true (.intss .i64 t4_0s), .box [iV t5_0], .rbox [.sl 0]]) (fun x => x.elim) (fun x => x.elim) (fun x => [(4, .pp 1 0), (5, .pp 3 0), (6, .sl 6), (7, iV x.2), (12, .ip 4 (.clo 67))]) [4, 0] [.rbox [.sl 2], rI a0] (fun x => [.sl 0, iV x.2]) (fun x => [rI x.1]) 5 (fun l Φ hY => k_impl_framesOf_1 (Φ := Φ) (l := l) a0 _ _ (hY := hY) (h := hx)) ?_ ?_ ?_ ?_ ?_ (hnf := by rintro ⟨t4_0s, t5_0⟩; rfl) (hlx := fun x => x.elim) (hnx := fun x => x.elim) (hJ := fun x => x.elim)
   ·clear h hx
    refine Red.trans (Red.nilCell (o := 1) (i := 0) (.intss .i64 []) rfl rfl rfl) ?_
    exact Red.selA [0, 1, 4, 2, 3] Red.auto
   ·clear h hx
    rintro l x ⟨t4_0s, t5_0⟩ Ψ
    have h := trivial
    refine awp_at [(14, iV x.2), (13, .sl 6), (4, .pp 1 0), (5, .pp 3 0), (12, .ip 4 (.clo 67))] [rI a0, .box [.sl 2], .row true (.intss .i64 t4_0s), .box [iV t5_0], .rbox [.sl 0], .ext Ψ, rI x.1] ?_
    refine awp_rS ftCOk [13] [(6, .sl 6)] ?_
    refine awp_rES ftCOk [14] [(7, iV x.2)] ?_
    exact RQ.asg [(4, .pp 1 0), (5, .pp 3 0), (6, .sl 6), (7, iV x.2), (12, .ip 4 (.clo 67))] [rI a0, .box [.sl 2], .row true (.intss .i64 t4_0s), .box [iV t5_0], .rbox [.sl 0], .ext Ψ, rI x.1] Red.auto
   ·clear h hx
    rintro l x ⟨t4_0s, t5_0⟩ u' Ψ h
    unfold impl_ScanFrames_r0 at h
    try dsimp only at h
    refine awp_at [(4, .pp 1 0), (5, .pp 3 0), (6, .sl 6), (7, iV x.2), (12, .ip 4 (.clo 67))] [rI a0, .box [.sl 2], .row true (.intss .i64 t4_0s), .box [iV t5_0], .rbox [.sl 0], .ext Ψ, rI x.1] ?_
    refine awp_block ?_
    replace ⟨y_1, hr0, h⟩ := bind_some h
    replace ⟨hp1, h⟩ := chk_some h
    refine awp_t [6] [] [(2, .tak true (.intss .i64 (t4_0s ++ [[]])) t4_0s.length 0 (some 7))] [oI y_1, .tak true (.intss .i64 [[]]) 0 0 (some 7)] ?_ ?_
    ·clear h
     intro K hK
     refine awp_drawP [0, 1, 3, 4, 5, 6] (by first | rfl | kernel_rfl) (by rfl) mixed ftCOk (.free 1 (.two 0 2 (.one 2 (.one 3 (.one 4 (.one 5 .fin)))) (.two 0 3 (.one 3 (.one 4 (.one 5 .fin))) (.one 0 (.one 4 (.one 5 .fin)))))) (by kernel_rfl) (by simp) ?_
     simp (maxSteps := 4000000) only [go_sem]
     repeat' (first | refine And.intro ?_ ?_ | intro hg)
     all_goals (try simp (disch := omega) only [wrap_fits])
     all_goals first
      | exact al0
      | (refine OpK_callA (k_slices_Clone_int_int x.1 (h := hr0)) [6] [] ?_
         rintro x Hc' ⟨rfl, rfl⟩ hlen
         exact auV)
      | exact al1
    ·clear hr0 hp1
     refine awp_put 2 7 (by rfl) (by rfl) (by rfl) (by exact rfl) ?_
     refine awp_rEM ftCOk [7] [] [(3, .box [iV x.2])] [] ?_
     refine nm ?_
     obtain rfl := Option.some.inj h
     refine RQ.next [rI a0, .box [.sl 2], .row true (.intss .i64 ((t4_0s ++ [[]]).set t4_0s.length y_1)), .box [iV x.2], .rbox [.sl 0], .ext Ψ] ?_
     exact Red.selA [0, 1, 2, 3, 4, 5] Red.auto
   ·rintro ⟨t4_0s, t5_0⟩ rfl
    clear hx
    try dsimp only [Sum.elim_inl, Sum.elim_inr] at h
    try simp only [Thn, InBlk, exitOf, ↓reduceIte, Nat.reduceEqDiff, Sum.elim_inl, Sum.elim_inr, List.cons_append, List.nil_append]
    refine hK5 _ _ ?_
    clear hK5
    refine awp_qS mixed ftCOk [4, 5, 12] [(2, .sl 2), (3, iV t5_0)] ?_
    refine awp_ret ?_
    obtain rfl := Option.some.inj h
    exact finQ [0, 2]
   ·exact fun x => x.elim
theorem k_impl_DiskCrash (a0_0 : List Int) (a0_1 : List Int) (a1 : Int) {r : List Int × List Int} (h : impl_DiskCrash a0_0 a0_1 a1 = some r) :
 FnA Tryz.prog 19 [.agg [.sl 0, .sl 1], iV a1] [rI a0_0, rI a0_1] [] (fun x H => x = .agg [.sl 2, .sl 3] ∧ H = [rI a0_0, rI a0_1, oI r.1, oI r.2]) := by
 unfold impl_DiskCrash at h
 refine FnA.ofA 16 [0, 1] [.cell 4 30] Tryz.func19 en19 ?_
 refine awp_rM ftCOk [0] [(2, .pp 2 0), (4, .pp 3 0)] [] [.box [.sl 0, .sl 1], .box [nV, nV]] ?_
 refine awp_freeze 2 (by rfl) (by rfl) (by exact rfl) ?_
 refine awp_seq fun K2 hK2 => ?_
 replace ⟨y, hr0, h⟩ := bind_some h
 refine awp_t [] [(11, bV ((!y) || (decide (a1 < 0))))] [] [] ?_ ?_
 ·clear h
  intro K hK
  refine awp_region ftCOk ?_
  simp (maxSteps := 4000000) only [go_sem]
  repeat' (first | refine And.intro ?_ ?_ | intro hg)
  all_goals (try simp (disch := omega) only [wrap_fits])
  all_goals first
   | exact al0
   | (refine wpA_callA (k_impl_DiskValid a0_0 a0_1 (h := hr0)) [0, 1] [] ?_
      rintro x Hc' ⟨rfl, rfl⟩ hlen
      refine vcOps_sound ftCOk ?_
      exact auV)
   | exact al1
 ·clear hr0
  refine awp_if h ?_ ?_ <;> clear h <;> intro hc h
  ·refine awp_rS ftCOk [1, 2, 11] [] ?_
   refine awp_red (Red.nilCell (o := 3) (i := 0) (.ints .i64 []) rfl rfl rfl) ?_
   refine awp_red (Red.nilCell (o := 3) (i := 1) (.ints .i64 []) rfl rfl rfl) ?_
   refine awp_ret ?_
   obtain rfl := Option.some.inj h
   exact finQ [0, 1, 4, 5]
  ·refine awp_skip ?_
   refine hK2 _ _ ?_
   clear hK2
   replace ⟨⟨y_1, y_2⟩, hr0, h⟩ := bind_some h
   try dsimp only at h
   refine awp_c ftCOk [1, 2, 11] [] [(3, .box [.sl 4, .sl 5])] [oI y_1, oI y_2] [⟨2, [0, 1], k_impl_Disk_kept a0_0 a0_1 a1 (h := hr0)⟩] ?_
   clear hr0
   refine awp_ret ?_
   obtain rfl := Option.some.inj h
   exact finQ [0, 1, 4, 5]
theorem k_impl_Disk_bytes (a0_0 : List Int) (a0_1 : List Int) {r : List Int} (h : impl_Disk_bytes a0_0 a0_1 = some r) :
 FnA Tryz.prog 28 [.agg [.sl 0, .sl 1]] [rI a0_0, rI a0_1] [] (fun x H => x = .sl 2 ∧ H = [rI a0_0, rI a0_1, oI r]) := by
 unfold impl_Disk_bytes at h
 refine FnA.ofA 9 [0, 1] [.tmp 2] Tryz.func28 en28 ?_
 refine awp_rM ftCOk [0] [(1, .pp 2 0)] [] [.box [.sl 0, .sl 1]] ?_
 refine awp_freeze 1 (by rfl) (by rfl) (by exact rfl) ?_
 replace ⟨y, hr0, h⟩ := bind_some h
 refine awp_c ftCOk [1] [(2, .sl 4)] [] [.row false (.intss .i64 [a0_0, a0_1]), oI y] [⟨5, [3], k_slices_Concat_int_int [a0_0, a0_1] (h := hr0)⟩] ?_
 clear hr0
 refine awp_ret ?_
 obtain rfl := Option.some.inj h
 exact finQ [0, 1, 4]
theorem k_impl_DiskRecords (a0_0 : List Int) (a0_1 : List Int) {r : List (List Int)} (h : impl_DiskRecords a0_0 a0_1 = some r) :
 FnA Tryz.prog 11 [.agg [.sl 0, .sl 1]] [rI a0_0, rI a0_1] [] (fun x H => x = .sl 2 ∧ H = [rI a0_0, rI a0_1, .row true (.intss .i64 r)]) := by
 unfold impl_DiskRecords at h
 refine FnA.ofA 15 [0, 1] [.tmp 2] Tryz.func11 en11 ?_
 refine awp_rM ftCOk [0] [(1, .pp 2 0)] [] [.box [.sl 0, .sl 1]] ?_
 refine awp_freeze 1 (by rfl) (by rfl) (by exact rfl) ?_
 refine awp_seq fun K2 hK2 => ?_
 replace ⟨y, hr0, h⟩ := bind_some h
 refine awp_c ftCOk [] [(7, bV (!y))] [] [] [⟨1, [0, 1], k_impl_DiskValid a0_0 a0_1 (h := hr0)⟩] ?_
 clear hr0
 refine awp_if h ?_ ?_ <;> clear h <;> intro hc h
 ·refine awp_rS ftCOk [1, 7] [(2, nV)] ?_
  refine awp_red (Red.nil (t := 2) (.intss .i64 []) rfl rfl) ?_
  refine awp_ret ?_
  obtain rfl := Option.some.inj h
  exact finQ [0, 1, 3]
 ·refine awp_skip ?_
  refine hK2 _ _ ?_
  clear hK2
  replace ⟨y_1, hr0, h⟩ := bind_some h
  replace ⟨⟨y_2, y_3⟩, hr1, h⟩ := bind_some h
  try dsimp only at h
  refine awp_c ftCOk [1, 7] [(3, .sl 4)] [] [oI y_1, .row true (.intss .i64 y_2)] [⟨1, [0, 1], k_impl_Disk_bytes a0_0 a0_1 (h := hr0)⟩, ⟨0, [3], k_impl_ScanFrames y_1 (h := hr1)⟩] ?_
  clear hr0 hr1
  refine awp_rS ftCOk [3] [(2, .sl 4)] ?_
  refine awp_ret ?_
  obtain rfl := Option.some.inj h
  exact finQ [0, 1, 4]
theorem k_impl_byteReader_next (a0_0 : List Int) (a0_1 : Int) {r : Int × Bool × Int} (h : impl_byteReader_next a0_0 a0_1 = some r) :
 FnA Tryz.prog 97 [.pp 0 0] [.box [.sl 1, iV a0_1], rI a0_0] [] (fun x H => x = .tup [iV r.1, bV r.2.1] ∧ H = [.box [.sl 1, iV r.2.2], rI a0_0]) := by
 unfold impl_byteReader_next at h
 refine FnA.ofA 40 [0, 1] [.tmp 2, .tmp 3] Tryz.func97 en97 ?_
 refine awp_rS ftCOk [] [] ?_
 refine awp_seq fun K2 hK2 => ?_
 refine awp_qS mixed ftCOk [] [(21, bV ((decide (a0_1 < 0)) || (decide ((a0_0.length : Int) ≤ a0_1))))] ?_
 refine awp_if h ?_ ?_ <;> clear h <;> intro hc h
 ·refine awp_rS ftCOk [0, 21] [(2, iV 0), (3, bV false)] ?_
  refine awp_ret ?_
  obtain rfl := Option.some.inj h
  exact finQ [0, 1]
 ·refine awp_skip ?_
  refine hK2 _ _ ?_
  clear hK2
  replace ⟨hp0, h⟩ := chk_some h
  refine awp_qS mixed ftCOk [21] [(4, iV (a0_0.getD a0_1.toNat 0))] ?_
  clear hp0
  replace ⟨hp0, h⟩ := chk_some h
  refine awp_rM ftCOk [0] [] [(0, .box [.sl 1, iV (a0_1 + 1)])] [] ?_
  clear hp0
  refine awp_rS ftCOk [4] [(2, iV (a0_0.getD a0_1.toNat 0)), (3, bV true)] ?_
  refine awp_ret ?_
  obtain rfl := Option.some.inj h
  exact finQ [0, 1]
theorem k_impl_byteReader_number (a0_0 : List Int) (a0_1 : Int) {r : Int × Bool × Int} (h : impl_byteReader_number a0_0 a0_1 = some r) :
 FnA Tryz.prog 80 [.pp 0 0] [.box [.sl 1, iV a0_1], rI a0_0] [] (fun x H => x = .tup [iV r.1, bV r.2.1] ∧ H = [.box [.sl 1, iV r.2.2], rI a0_0]) := by
 unfold impl_byteReader_number at h
 refine FnA.ofA 44 [0, 1] [.tmp 2, .tmp 3] Tryz.func80 en80 ?_
 refine awp_rS ftCOk [] [] ?_
 refine awp_rS ftCOk [] [(4, iV 0), (5, iV 1)] ?_
 refine awp_seq fun K65 hK65 => ?_
 refine awp_rS ftCOk [] [(6, iV 0)] ?_
 refine awp_block ?_
 replace h := bind_some h
 obtain ⟨x129, hx, h⟩ := h
 refine awp_loopL hx (fun (t4, t5, t6, p0_1) => [(0, .pp 0 0), (4, iV t4), (5, iV t5), (6, iV t6)]) (fun (t4, t5, t6, p0_1) => [.box [.sl 1, iV p0_1], rI a0_0]) (Sum.elim (fun _ => Exit.exit 0) (fun _ => Exit.ret)) (Sum.elim (fun p0_1_1 => []) (fun (t2, t3, p0_1_2) => [(2, iV t2), (3, bV t3)])) (Sum.elim (fun p0_1_1 => [.box [.sl 1, iV p0_1_1], rI a0_0]) (fun (t2, t3, p0_1_2) => [.box [.sl 1, iV p0_1_2], rI a0_0])) ?_ ?_ ?_ ?_
 ·rintro (p0_1_1 | ⟨t2, t3, p0_1_2⟩) hy <;> cases hy
 ·clear h hx
  exact Red.auto
 ·clear h hx
  rintro ⟨t4, t5, t6, p0_1⟩ r h
  unfold impl_byteReader_number_b0 at h
  try dsimp only at h
  try dsimp only
  refine awp_seq fun K109 hK109 => ?_
  refine awp_rS ftCOk [] [(10, bV (decide (t6 < 3)))] ?_
  refine awp_if h ?_ ?_ <;> clear h <;> intro hc h
  ·refine awp_skip ?_
   refine hK109 _ _ ?_
   clear hK109
   refine awp_join h (fun (t4_1, p0_1_3) => [(0, .pp 0 0), (4, iV t4_1), (5, iV (t5 * 128)), (6, iV t6)]) (fun (t4_1, p0_1_3) => [.box [.sl 1, iV p0_1_3], rI a0_0]) ?_ ?_
   ·clear h
    intro k h
    try dsimp only at h
    refine awp_block ?_
    replace ⟨⟨y, y_1, y_2⟩, hr0, h⟩ := bind_some h
    try dsimp only at h
    refine awp_c ftCOk [10] [(7, iV y), (8, bV y_1)] [(0, .box [.sl 1, iV y_2])] [] [⟨1, [0, 1], k_impl_byteReader_next a0_0 p0_1 (h := hr0)⟩] ?_
    clear hr0
    refine awp_seq fun K121 hK121 => ?_
    refine awp_rS ftCOk [8] [(19, bV (!y_1))] ?_
    refine awp_if h ?_ ?_ <;> clear h <;> intro hc h
    ·refine awp_rS ftCOk [0, 4, 5, 6, 7, 19] [(2, iV 0), (3, bV false)] ?_
     refine awp_ret ?_
     refine nm ?_
     obtain rfl := Option.some.inj h
     refine LoopQ.out rfl ?_
     exact Red.auto
    ·refine awp_skip ?_
     refine hK121 _ _ ?_
     clear hK121
     refine awp_seq fun K124 hK124 => ?_
     refine awp_rS ftCOk [19] [(21, bV (decide (128 ≤ y)))] ?_
     refine awp_if h ?_ ?_ <;> clear h <;> intro hc h
     ·replace ⟨hp0, h⟩ := chk_some h
      have hwhp0 := wrap_fits hp0.1 hp0.2
      replace ⟨hp1, h⟩ := chk_some h
      replace ⟨hp2, h⟩ := chk_some h
      refine awp_rS ftCOk [4, 7, 21] [(4, iV (t4 + ((y - 128) * t5)))] ?_
      clear hp0 hp1 hp2
      replace ⟨hp0, h⟩ := chk_some h
      refine awp_rS ftCOk [5] [(5, iV (t5 * 128))] ?_
      clear hp0
      refine awp_exit ?_
      refine nm ?_
      refine ⟨_, h, ?_⟩
      exact Red.auto
     ·refine awp_skip ?_
      refine hK124 _ _ ?_
      clear hK124
      refine awp_seq fun K127 hK127 => ?_
      refine awp_rS ftCOk [0, 6, 21] [(35, bV ((y == 0) && (decide (0 < t6))))] ?_
      refine awp_if h ?_ ?_ <;> clear h <;> intro hc h
      ·refine awp_rS ftCOk [4, 5, 7, 35] [(2, iV 0), (3, bV false)] ?_
       refine awp_ret ?_
       refine nm ?_
       obtain rfl := Option.some.inj h
       refine LoopQ.out rfl ?_
       exact Red.auto
      ·refine awp_skip ?_
       refine hK127 _ _ ?_
       clear hK127
       replace ⟨hp0, h⟩ := chk_some h
       replace ⟨hp1, h⟩ := chk_some h
       refine awp_rS ftCOk [4, 5, 7, 35] [(4, iV (t4 + (y * t5)))] ?_
       clear hp0 hp1
       refine awp_rS ftCOk [4] [(2, iV (t4 + (y * t5))), (3, bV (decide ((t4 + (y * t5)) ≤ 1000000)))] ?_
       refine awp_ret ?_
       refine nm ?_
       obtain rfl := Option.some.inj h
       refine LoopQ.out rfl ?_
       exact Red.auto
   ·clear h
    rintro ⟨t4_1, p0_1_3⟩ h
    try dsimp only at h
    try dsimp only
    replace ⟨hp0, h⟩ := chk_some h
    refine awp_rES ftCOk [6] [(6, iV (t6 + 1))] ?_
    clear hp0
    obtain rfl := Option.some.inj h
    refine LoopQ.next ?_
    exact Red.auto
  ·refine awp_exit ?_
   refine nm ?_
   obtain rfl := Option.some.inj h
   refine LoopQ.out rfl ?_
   exact Red.auto
 ·clear hx
  rcases x129 with (p0_1_1 | ⟨t2, t3, p0_1_2⟩)
  ·try dsimp only [Sum.elim_inl, Sum.elim_inr] at h
   try dsimp only [Sum.elim_inl, Sum.elim_inr]
   refine hK65 _ _ ?_
   clear hK65
   refine awp_rS ftCOk [] [(2, iV 0), (3, bV false)] ?_
   refine awp_ret ?_
   obtain rfl := Option.some.inj h
   exact finQ [0, 1]
  ·try dsimp only [Sum.elim_inl, Sum.elim_inr] at h
   try dsimp only [Sum.elim_inl, Sum.elim_inr]
   obtain rfl := Option.some.inj h
   exact finQ [0, 1]
theorem k_impl_byteReader_done (a0_0 : List Int) (a0_1 : Int) {r : Bool} (h : impl_byteReader_done a0_0 a0_1 = some r) :
 FnA Tryz.prog 81 [.pp 0 0] [.box [.sl 1, iV a0_1], rI a0_0] [] (fun x H => x = bV r ∧ H = [.box [.sl 1, iV a0_1], rI a0_0]) := by
 unfold impl_byteReader_done at h
 refine FnA.ofA 13 [0, 1] [.tmp 2] Tryz.func81 en81 ?_
 refine awp_rS ftCOk [] [] ?_
 refine awp_qS mixed ftCOk [0] [(2, bV (a0_1 == (a0_0.length : Int)))] ?_
 refine awp_ret ?_
 obtain rfl := Option.some.inj h
 exact finQ [0, 1]
theorem k_impl_numbersBehind (a0 : List Int) (a1 : Int) (a2 : Int) {r : List Int × Bool} (h : impl_numbersBehind a0 a1 a2 = some r) :
 FnA Tryz.prog 54 [.sl 0, iV a1, iV a2] [rI a0] [] (fun x H => x = .tup [.sl 1, bV r.2] ∧ H = [rI a0, oI r.1]) := by
 unfold impl_numbersBehind at h
 refine FnA.ofA 45 [0] [.tmp 6, .tmp 7] Tryz.func54 en54 ?_
 refine awp_rS ftCOk [] [] ?_
 refine awp_seq fun K2 hK2 => ?_
 replace ⟨y, hr0, h⟩ := bind_some h
 replace ⟨hp1, h⟩ := chk_some h
 refine awp_t [1] [(22, bV ((!y) || ((a0.getD 0 0) != a1)))] [] [] ?_ ?_
 ·clear h
  intro K hK
  refine awp_region ftCOk ?_
  simp (maxSteps := 4000000) only [go_sem]
  repeat' (first | refine And.intro ?_ ?_ | intro hg)
  all_goals (try simp (disch := omega) only [wrap_fits])
  all_goals first
   | exact al0
   | (have hq := hp1 byg; omega)
   | (refine wpA_callA (k_impl_bodyValid a0 (h := hr0)) [0] [] ?_
      rintro x Hc' ⟨rfl, rfl⟩ hlen
      refine vcOps_sound ftCOk ?_
      exact au7)
   | exact al1
 ·clear hr0 hp1
  refine awp_if h ?_ ?_ <;> clear h <;> intro hc h
  ·refine awp_rS ftCOk [0, 2, 22] [(6, nV), (7, bV false)] ?_
   refine awp_red (Red.nil (t := 6) (.ints .i64 []) rfl rfl) ?_
   refine awp_ret ?_
   obtain rfl := Option.some.inj h
   exact finQ [0, 1]
  ·refine awp_skip ?_
   refine hK2 _ _ ?_
   clear hK2
   refine awp_rM ftCOk [0, 22] [(8, .pp 1 0)] [] [.box [.sl 0, iV 1]] ?_
   replace ⟨hp0, h⟩ := chk_some h
   refine awp_rM ftCOk [2] [(9, .sl 2)] [] [oI (List.replicate a2.toNat 0)] ?_
   clear hp0
   refine awp_seq fun K35 hK35 => ?_
   refine awp_rS ftCOk [] [(28, iV ((List.replicate a2.toNat 0).length : Int)), (29, iV 0)] ?_
   refine awp_block ?_
   replace h := bind_some h
   obtain ⟨x66, hx, h⟩ := h
   refine awp_loopL hx (fun (t29, t8_1, t9s) => [(8, .pp 1 0), (9, .sl 2), (28, iV ((List.replicate a2.toNat 0).length : Int)), (29, iV t29)]) (fun (t29, t8_1, t9s) => [rI a0, .box [.sl 0, iV t8_1], oI t9s]) (Sum.elim (fun _ => Exit.exit 0) (fun _ => Exit.ret)) (Sum.elim (fun (t8_1_1, t9s_1) => [(8, .pp 1 0), (9, .sl 2)]) (fun _ => [(6, .sl 1), (7, bV false)])) (Sum.elim (fun (t8_1_1, t9s_1) => [rI a0, .box [.sl 0, iV t8_1_1], oI t9s_1]) (fun _ => [rI a0, oI []])) ?_ ?_ ?_ ?_
   ·rintro (⟨t8_1_1, t9s_1⟩ | ⟨⟩) hy <;> cases hy
   ·clear h hx
    exact Red.auto
   ·clear h hx
    rintro ⟨t29, t8_1, t9s⟩ r h
    unfold impl_numbersBehind_b0 at h
    try dsimp only at h
    try dsimp only
    refine awp_rS ftCOk [] [(30, bV (decide (t29 < ((List.replicate a2.toNat 0).length : Int))))] ?_
    refine awp_seq fun K57 hK57 => ?_
    refine awp_if h ?_ ?_ <;> clear h <;> intro hc h
    ·refine awp_skip ?_
     refine hK57 _ _ ?_
     clear hK57
     refine awp_seq fun K62 hK62 => ?_
     refine awp_block ?_
     refine awp_rS ftCOk [30] [(10, iV t29)] ?_
     replace ⟨⟨y_1, y_2, y_3⟩, hr0, h⟩ := bind_some h
     try dsimp only at h
     refine awp_c ftCOk [] [(11, iV y_1), (12, bV y_2)] [(1, .box [.sl 0, iV y_3])] [] [⟨0, [1, 0], k_impl_byteReader_number a0 t8_1 (h := hr0)⟩] ?_
     clear hr0
     refine awp_seq fun K64 hK64 => ?_
     refine awp_rS ftCOk [12] [(37, bV (!y_2))] ?_
     refine awp_if h ?_ ?_ <;> clear h <;> intro hc h
     ·refine awp_rS ftCOk [8, 9, 10, 11, 28, 29, 37] [(6, nV), (7, bV false)] ?_
      refine awp_ret ?_
      refine nm ?_
      obtain rfl := Option.some.inj h
      refine LoopQ.out rfl ?_
      refine Red.trans (Red.nil (t := 6) (.ints .i64 []) rfl rfl) ?_
      exact Red.selA [0, 3] Red.auto
     ·refine awp_skip ?_
      refine hK64 _ _ ?_
      clear hK64
      replace ⟨hp0, h⟩ := chk_some h
      refine awp_rEM ftCOk [10, 11, 37] [] [(2, oI (t9s.set t29.toNat y_1))] [] ?_
      clear hp0
      refine hK62 _ _ ?_
      clear hK62
      replace ⟨hp0, h⟩ := chk_some h
      refine awp_rES ftCOk [29] [(29, iV (t29 + 1))] ?_
      clear hp0
      obtain rfl := Option.some.inj h
      refine LoopQ.next ?_
      exact Red.auto
    ·refine awp_exit ?_
     refine nm ?_
     obtain rfl := Option.some.inj h
     refine LoopQ.out rfl ?_
     exact Red.auto
   ·clear hx
    rcases x66 with (⟨t8_1_1, t9s_1⟩ | ⟨⟩)
    ·try dsimp only [Sum.elim_inl, Sum.elim_inr] at h
     try dsimp only [Sum.elim_inl, Sum.elim_inr]
     refine hK35 _ _ ?_
     clear hK35
     replace ⟨y_4, hr0, h⟩ := bind_some h
     refine awp_c ftCOk [8, 9] [(6, .sl 2), (7, bV y_4)] [] [] [⟨1, [1, 0], k_impl_byteReader_done a0 t8_1_1 (h := hr0)⟩] ?_
     clear hr0
     refine awp_ret ?_
     obtain rfl := Option.some.inj h
     exact finQ [0, 2]
    ·try dsimp only [Sum.elim_inl, Sum.elim_inr] at h
     try dsimp only [Sum.elim_inl, Sum.elim_inr]
     obtain rfl := Option.some.inj h
     exact finQ [0, 1]
theorem k_impl_State_readValues (a0_0 : Int) (a0_1 : List Int) (a0_2 : List Bool) (a0_3 : List (Int × Int × Int)) (a1 : List (List Int)) {r : Bool × List Int × List Bool} (h : impl_State_readValues a0_0 a0_1 a0_2 a0_3 a1 = some r) :
 FnA Tryz.prog 55 [.pp 0 0, .sl 4] [.box [iV a0_0, .sl 1, .sl 2, .sl 3], oI a0_1, oB a0_2, rT a0_3, .row false (.intss .i64 a1)] [] (fun x H => x = bV r.1 ∧ H = [.box [iV a0_0, .sl 5, .sl 6, .sl 3], .dead, .dead, rT a0_3, .row false (.intss .i64 a1), oI r.2.1, oB r.2.2]) := by
 unfold impl_State_readValues at h
 refine FnA.ofA 55 [0, 1, 2, 3, 4] [.tmp 4] Tryz.func55 en55 ?_
 refine awp_move 1 [(0, .pp 0 0), (1, .sl 4)] [.box [iV a0_0, .sl 5, .sl 2, .sl 3], .dead, oB a0_2, rT a0_3, .row false (.intss .i64 a1), oI a0_1] (by rfl) (by rfl) (by exact rfl) ?_
 refine awp_move 2 [(0, .pp 0 0), (1, .sl 4)] [.box [iV a0_0, .sl 5, .sl 6, .sl 3], .dead, .dead, rT a0_3, .row false (.intss .i64 a1), oI a0_1, oB a0_2] (by rfl) (by rfl) (by exact rfl) ?_
 refine awp_rS ftCOk [] [] ?_
 refine awp_seq fun K38 hK38 => ?_
 refine awp_rS ftCOk [1] [(9, .sl 4), (10, iV (a1.length : Int)), (11, iV 0)] ?_
 refine awp_block ?_
 replace h := bind_some h
 obtain ⟨x75, hx, h⟩ := h
 refine awp_loopL hx (fun (t11, p0_1s, p0_2s) => [(0, .pp 0 0), (9, .sl 4), (10, iV (a1.length : Int)), (11, iV t11)]) (fun (t11, p0_1s, p0_2s) => [.box [iV a0_0, .sl 5, .sl 6, .sl 3], .dead, .dead, rT a0_3, .row false (.intss .i64 a1), oI p0_1s, oB p0_2s]) (Sum.elim (fun _ => Exit.exit 0) (fun _ => Exit.ret)) (Sum.elim (fun (p0_1s_1, p0_2s_1) => []) (fun (p0_1s_2, p0_2s_2) => [(4, bV false)])) (Sum.elim (fun (p0_1s_1, p0_2s_1) => [.box [iV a0_0, .sl 5, .sl 6, .sl 3], .dead, .dead, rT a0_3, .row false (.intss .i64 a1), oI p0_1s_1, oB p0_2s_1]) (fun (p0_1s_2, p0_2s_2) => [.box [iV a0_0, .sl 5, .sl 6, .sl 3], .dead, .dead, rT a0_3, .row false (.intss .i64 a1), oI p0_1s_2, oB p0_2s_2])) ?_ ?_ ?_ ?_
 ·rintro (⟨p0_1s_1, p0_2s_1⟩ | ⟨p0_1s_2, p0_2s_2⟩) hy <;> cases hy
 ·clear h hx
  exact Red.auto
 ·clear h hx
  rintro ⟨t11, p0_1s, p0_2s⟩ r h
  unfold impl_State_readValues_b0 at h
  try dsimp only at h
  try dsimp only
  refine awp_rS ftCOk [] [(12, bV (decide (t11 < (a1.length : Int))))] ?_
  refine awp_seq fun K64 hK64 => ?_
  refine awp_if h ?_ ?_ <;> clear h <;> intro hc h
  ·refine awp_skip ?_
   refine hK64 _ _ ?_
   clear hK64
   refine awp_seq fun K70 hK70 => ?_
   refine awp_block ?_
   replace h := chk_some h
   obtain ⟨hpt74, h⟩ := h
   refine awp_take 4 t11.toNat 0 (by rfl) (by exact hpt74) (by rfl) (by exact rfl) ?_
   clear hpt74
   replace ⟨hp0, h⟩ := chk_some h
   refine awp_rS ftCOk [12] [(6, .sl 7)] ?_
   clear hp0
   refine awp_put 4 7 (by rfl) (by rfl) (Cont.setChild_self (by rfl)) (by exact rfl) ?_
   replace ⟨⟨y, y_1⟩, hr0, h⟩ := bind_some h
   try dsimp only at h
   refine awp_c ftCOk [6] [(7, .sl 8), (8, bV y_1)] [] [oI y] [⟨1, [7], k_impl_numbersBehind (a1.getD t11.toNat []) 2 2 (h := hr0)⟩] ?_
   clear hr0
   refine awp_seq fun K72 hK72 => ?_
   replace ⟨hp0, h⟩ := chk_some h
   refine awp_t [8] [(27, bV ((!y_1) || (decide (1 < (y.getD 1 0)))))] [] [] ?_ ?_
   ·clear h
    intro K hK
    refine awp_region ftCOk ?_
    exact au6
   ·clear hp0
    refine awp_if h ?_ ?_ <;> clear h <;> intro hc h
    ·refine awp_rS ftCOk [0, 7, 9, 10, 11, 27] [(4, bV false)] ?_
     refine awp_ret ?_
     refine nm ?_
     obtain rfl := Option.some.inj h
     refine LoopQ.out rfl ?_
     exact Red.selA [0, 1, 2, 3, 4, 5, 6] Red.auto
    ·refine awp_skip ?_
     refine hK72 _ _ ?_
     clear hK72
     replace ⟨hp0, h⟩ := chk_some h
     replace ⟨hp1, h⟩ := chk_some h
     have hwhp1 := wrap_fits hp1.1 hp1.2
     replace ⟨hp2, h⟩ := chk_some h
     refine awp_t [27] [] [(5, oI (p0_1s ++ [((y.getD 0 0) - 1)]))] [oI [((y.getD 0 0) - 1)]] ?_ ?_
     ·clear h
      intro K hK
      refine awp_drawP [0, 1, 2, 3, 4, 6, 7, 8] (by first | rfl | kernel_rfl) (by rfl) mixed ftCOk (.free 0 (.free 1 (.free 2 (.free 3 (.free 5 (.two 4 6 (.one 6 (.one 7 (.one 8 (.one 9 (.one 10 (.one 11 (.one 12 (.one 13 .fin)))))))) (.two 4 7 (.one 7 (.one 8 (.one 9 (.one 10 (.one 11 (.one 12 (.one 13 .fin))))))) (.free 8 (.two 4 9 (.one 9 (.one 10 (.one 11 (.one 12 (.one 13 .fin))))) (.one 4 (.one 10 (.one 11 (.one 12 (.one 13 .fin)))))))))))))) (by kernel_rfl) (by simp) ?_
      exact auV
     ·clear hp0 hp1 hp2
      replace ⟨hp0, h⟩ := chk_some h
      replace ⟨hp1, h⟩ := chk_some h
      refine awp_tE [7] [] [(6, oB (p0_2s ++ [((y.getD 1 0) == 1)]))] [oB [((y.getD 1 0) == 1)]] ?_ ?_
      ·clear h
       intro K hK
       refine awp_drawP [0, 1, 2, 3, 4, 5, 7, 8, 9] (by first | rfl | kernel_rfl) (by rfl) mixed ftCOk (.free 0 (.free 1 (.free 2 (.free 3 (.free 5 (.two 4 6 (.one 6 (.one 7 (.one 8 (.one 9 (.one 10 (.one 11 (.one 12 (.one 13 .fin)))))))) (.two 4 7 (.one 7 (.one 8 (.one 9 (.one 10 (.one 11 (.one 12 (.one 13 .fin))))))) (.free 8 (.two 4 9 (.one 9 (.one 10 (.one 11 (.one 12 (.one 13 .fin))))) (.one 4 (.one 10 (.one 11 (.one 12 (.one 13 .fin)))))))))))))) (by kernel_rfl) (by simp) ?_
       exact auV
      ·clear hp0 hp1
       refine hK70 _ _ ?_
       clear hK70
       replace ⟨hp0, h⟩ := chk_some h
       refine awp_rES ftCOk [11] [(11, iV (t11 + 1))] ?_
       clear hp0
       obtain rfl := Option.some.inj h
       refine LoopQ.next ?_
       exact Red.selA [0, 1, 2, 3, 4, 5, 6] Red.auto
  ·refine awp_exit ?_
   refine nm ?_
   obtain rfl := Option.some.inj h
   refine LoopQ.out rfl ?_
   exact Red.auto
 ·clear hx
  rcases x75 with (⟨p0_1s_1, p0_2s_1⟩ | ⟨p0_1s_2, p0_2s_2⟩)
  ·try dsimp only [Sum.elim_inl, Sum.elim_inr] at h
   try dsimp only [Sum.elim_inl, Sum.elim_inr]
   refine hK38 _ _ ?_
   clear hK38
   refine awp_rS ftCOk [] [(4, bV true)] ?_
   refine awp_ret ?_
   obtain rfl := Option.some.inj h
   exact finQ [0, 1, 2, 3, 4, 5, 6]
  ·try dsimp only [Sum.elim_inl, Sum.elim_inr] at h
   try dsimp only [Sum.elim_inl, Sum.elim_inr]
   obtain rfl := Option.some.inj h
   exact finQ [0, 1, 2, 3, 4, 5, 6]
theorem k_impl_State_readMessages (a0_0 : Int) (a0_1 : List Int) (a0_2 : List Bool) (a0_3 : List (Int × Int × Int)) (a1 : List (List Int)) {r : Bool × (List (Int × Int × Int))} (h : impl_State_readMessages a0_0 a0_1 a0_2 a0_3 a1 = some r) :
 FnA Tryz.prog 56 [.pp 0 0, .sl 4] [.box [iV a0_0, .sl 1, .sl 2, .sl 3], rI a0_1, rB a0_2, oT a0_3, .row false (.intss .i64 a1)] [] (fun x H => x = bV r.1 ∧ H = [.box [iV a0_0, .sl 1, .sl 2, .sl 5], rI a0_1, rB a0_2, .dead, .row false (.intss .i64 a1), oT r.2]) := by
 unfold impl_State_readMessages at h
 refine FnA.ofA 42 [0, 1, 2, 3, 4] [.tmp 4] Tryz.func56 en56 ?_
 refine awp_move 3 [(0, .pp 0 0), (1, .sl 4)] [.box [iV a0_0, .sl 1, .sl 2, .sl 5], rI a0_1, rB a0_2, .dead, .row false (.intss .i64 a1), oT a0_3] (by rfl) (by rfl) (by exact rfl) ?_
 refine awp_rS ftCOk [] [] ?_
 refine awp_seq fun K38 hK38 => ?_
 refine awp_rS ftCOk [1] [(9, .sl 4), (10, iV (a1.length : Int)), (11, iV 0)] ?_
 refine awp_block ?_
 replace h := bind_some h
 obtain ⟨x75, hx, h⟩ := h
 refine awp_loopL hx (fun (t11, p0_3s) => [(0, .pp 0 0), (9, .sl 4), (10, iV (a1.length : Int)), (11, iV t11)]) (fun (t11, p0_3s) => [.box [iV a0_0, .sl 1, .sl 2, .sl 5], rI a0_1, rB a0_2, .dead, .row false (.intss .i64 a1), oT p0_3s]) (Sum.elim (fun _ => Exit.exit 0) (fun _ => Exit.ret)) (Sum.elim (fun p0_3s_1 => []) (fun p0_3s_2 => [(4, bV false)])) (Sum.elim (fun p0_3s_1 => [.box [iV a0_0, .sl 1, .sl 2, .sl 5], rI a0_1, rB a0_2, .dead, .row false (.intss .i64 a1), oT p0_3s_1]) (fun p0_3s_2 => [.box [iV a0_0, .sl 1, .sl 2, .sl 5], rI a0_1, rB a0_2, .dead, .row false (.intss .i64 a1), oT p0_3s_2])) ?_ ?_ ?_ ?_
 ·rintro (p0_3s_1 | p0_3s_2) hy <;> cases hy
 ·clear h hx
  exact Red.auto
 ·clear h hx
  rintro ⟨t11, p0_3s⟩ r h
  unfold impl_State_readMessages_b0 at h
  try dsimp only at h
  try dsimp only
  refine awp_rS ftCOk [] [(12, bV (decide (t11 < (a1.length : Int))))] ?_
  refine awp_seq fun K64 hK64 => ?_
  refine awp_if h ?_ ?_ <;> clear h <;> intro hc h
  ·refine awp_skip ?_
   refine hK64 _ _ ?_
   clear hK64
   refine awp_seq fun K70 hK70 => ?_
   refine awp_block ?_
   replace h := chk_some h
   obtain ⟨hpt74, h⟩ := h
   refine awp_take 4 t11.toNat 0 (by rfl) (by exact hpt74) (by rfl) (by exact rfl) ?_
   clear hpt74
   replace ⟨hp0, h⟩ := chk_some h
   refine awp_rS ftCOk [12] [(6, .sl 6)] ?_
   clear hp0
   refine awp_put 4 6 (by rfl) (by rfl) (Cont.setChild_self (by rfl)) (by exact rfl) ?_
   replace ⟨⟨y, y_1⟩, hr0, h⟩ := bind_some h
   try dsimp only at h
   refine awp_c ftCOk [6] [(7, .sl 7), (8, bV y_1)] [] [oI y] [⟨1, [6], k_impl_numbersBehind (a1.getD t11.toNat []) 3 3 (h := hr0)⟩] ?_
   clear hr0
   refine awp_seq fun K72 hK72 => ?_
   refine awp_rS ftCOk [8] [(21, bV (!y_1))] ?_
   refine awp_if h ?_ ?_ <;> clear h <;> intro hc h
   ·refine awp_rS ftCOk [0, 7, 9, 10, 11, 21] [(4, bV false)] ?_
    refine awp_ret ?_
    refine nm ?_
    obtain rfl := Option.some.inj h
    refine LoopQ.out rfl ?_
    exact Red.selA [0, 1, 2, 3, 4, 5] Red.auto
   ·refine awp_skip ?_
    refine hK72 _ _ ?_
    clear hK72
    refine awp_freezeRow 7 (by rfl) (by rfl) (by first | exact rfl | (simp only [List.map_cons, List.map_nil, List.set_cons_succ, List.set_cons_zero, AObj.unview, reduceCtorEq, ↓reduceIte, Nat.reduceEqDiff]; exact rfl)) ?_
    replace ⟨hp0, h⟩ := chk_some h
    replace ⟨hp1, h⟩ := chk_some h
    replace ⟨hp2, h⟩ := chk_some h
    replace ⟨hp3, h⟩ := chk_some h
    refine awp_tE [7, 21] [] [(5, oT (p0_3s ++ [((y.getD 0 0), (y.getD 1 0), (y.getD 2 0))]))] [oT [((y.getD 0 0), (y.getD 1 0), (y.getD 2 0))]] ?_ ?_
    ·clear h
     intro K hK
     refine awp_drawP [0, 1, 2, 3, 4, 6, 7] (by first | rfl | kernel_rfl) (by rfl) mixed ftCOk (.free 0 (.free 1 (.free 2 (.free 3 (.free 5 (.free 6 (.free 8 (.free 9 (.free 11 (.free 12 (.free 7 (.free 10 (.free 13 (.free 14 (.two 4 15 (.one 15 (.one 16 (.one 17 (.one 18 (.one 19 .fin))))) (.one 4 (.one 16 (.one 17 (.one 18 (.one 19 .fin)))))))))))))))))))) (by kernel_rfl) (by simp) ?_
     exact auV
    ·clear hp0 hp1 hp2 hp3
     refine hK70 _ _ ?_
     clear hK70
     replace ⟨hp0, h⟩ := chk_some h
     refine awp_rES ftCOk [11] [(11, iV (t11 + 1))] ?_
     clear hp0
     obtain rfl := Option.some.inj h
     refine LoopQ.next ?_
     exact Red.selA [0, 1, 2, 3, 4, 5] Red.auto
  ·refine awp_exit ?_
   refine nm ?_
   obtain rfl := Option.some.inj h
   refine LoopQ.out rfl ?_
   exact Red.auto
 ·clear hx
  rcases x75 with (p0_3s_1 | p0_3s_2)
  ·try dsimp only [Sum.elim_inl, Sum.elim_inr] at h
   try dsimp only [Sum.elim_inl, Sum.elim_inr]
   refine hK38 _ _ ?_
   clear hK38
   refine awp_rS ftCOk [] [(4, bV true)] ?_
   refine awp_ret ?_
   obtain rfl := Option.some.inj h
   exact finQ [0, 1, 2, 3, 4, 5]
  ·try dsimp only [Sum.elim_inl, Sum.elim_inr] at h
   try dsimp only [Sum.elim_inl, Sum.elim_inr]
   obtain rfl := Option.some.inj h
   exact finQ [0, 1, 2, 3, 4, 5]
theorem k_impl_checkpointAt (a0 : List (List Int)) {r : Int × List Int × List Bool × (List (Int × Int × Int)) × Bool} (h : impl_checkpointAt a0 = some r) :
 FnA Tryz.prog 27 [.sl 0] [.row false (.intss .i64 a0)] [] (fun x H => x = .tup [.agg [iV r.1, .sl 1, .sl 2, .sl 3], bV r.2.2.2.2] ∧ H = [.row false (.intss .i64 a0), oI r.2.1, oB r.2.2.1, oT r.2.2.2.1]) := by
 unfold impl_checkpointAt at h
 refine FnA.ofA 78 [0] [.cell 2 27, .tmp 3] Tryz.func27 en27 ?_
 refine awp_rM ftCOk [] [(2, .pp 1 0)] [] [.box [iV 0, nV, nV, nV]] ?_
 replace h := chk_some h
 obtain ⟨hpt15, h⟩ := h
 refine awp_take 0 0 0 (by rfl) (by exact hpt15) (by rfl) (by exact rfl) ?_
 clear hpt15
 replace ⟨hp0, h⟩ := chk_some h
 replace ⟨⟨y, y_1⟩, hr1, h⟩ := bind_some h
 try dsimp only at h
 refine awp_t [] [(4, .sl 3), (5, bV y_1)] [] [oI y] ?_ ?_
 ·clear h
  intro K hK
  refine awp_region ftCOk ?_
  simp (maxSteps := 4000000) only [go_sem]
  repeat' (first | refine And.intro ?_ ?_ | intro hg)
  all_goals (try simp (disch := omega) only [wrap_fits])
  all_goals first
   | exact al0
   | contradiction
   | (simp only [List.length_nil, List.length_append]; omega)
   | (refine wpA_callA (k_impl_numbersBehind (a0.getD 0 []) 1 3 (h := hr1)) [2] [] ?_
      rintro x Hc' ⟨rfl, rfl⟩ hlen
      refine vcOps_sound ftCOk ?_
      exact au5)
   | exact al1
 ·clear hp0 hr1
  refine awp_seq fun K2 hK2 => ?_
  refine awp_put 0 2 (by rfl) (by rfl) (Cont.setChild_self (by rfl)) (by exact rfl) ?_
  refine awp_rS ftCOk [5] [(19, bV (!y_1))] ?_
  refine awp_if h ?_ ?_ <;> clear h <;> intro hc h
  ·refine awp_rS ftCOk [0, 4, 19] [(3, bV false)] ?_
   refine awp_red (Red.nilCell (o := 1) (i := 1) (.ints .i64 []) rfl rfl rfl) ?_
   refine awp_red (Red.nilCell (o := 1) (i := 2) (.bools []) rfl rfl rfl) ?_
   refine awp_red (Red.nilCell (o := 1) (i := 3) (.trips []) rfl rfl rfl) ?_
   refine awp_ret ?_
   obtain rfl := Option.some.inj h
   exact finQ [0, 4, 5, 6]
  ·refine awp_skip ?_
   refine hK2 _ _ ?_
   clear hK2
   replace ⟨hp0, h⟩ := chk_some h
   replace ⟨hp1, h⟩ := chk_some h
   refine awp_qS mixed ftCOk [19] [(6, iV (y.getD 1 0)), (7, iV (y.getD 2 0))] ?_
   clear hp0 hp1
   refine awp_seq fun K5 hK5 => ?_
   replace ⟨hp0, h⟩ := chk_some h
   replace ⟨hp1, h⟩ := chk_some h
   refine awp_rS ftCOk [] [(33, bV (decide ((a0.length : Int) < (((y.getD 1 0) + (y.getD 2 0)) + 2))))] ?_
   clear hp0 hp1
   refine awp_if h ?_ ?_ <;> clear h <;> intro hc h
   ·refine awp_rS ftCOk [0, 4, 6, 7, 33] [(3, bV false)] ?_
    refine awp_red (Red.nilCell (o := 1) (i := 1) (.ints .i64 []) rfl rfl rfl) ?_
    refine awp_red (Red.nilCell (o := 1) (i := 2) (.bools []) rfl rfl rfl) ?_
    refine awp_red (Red.nilCell (o := 1) (i := 3) (.trips []) rfl rfl rfl) ?_
    refine awp_ret ?_
    obtain rfl := Option.some.inj h
    exact finQ [0, 4, 5, 6]
   ·refine awp_skip ?_
    refine hK5 _ _ ?_
    clear hK5
    replace ⟨hp0, h⟩ := chk_some h
    refine awp_rM ftCOk [4, 33] [(8, .pp 4 0)] [] [.box [iV (y.getD 0 0), nV, nV, nV]] ?_
    clear hp0
    refine awp_seq fun K8 hK8 => ?_
    refine awp_red (Red.nilCell (o := 1) (i := 1) (.ints .i64 []) rfl rfl rfl) ?_
    refine awp_red (Red.nilCell (o := 1) (i := 2) (.bools []) rfl rfl rfl) ?_
    refine awp_red (Red.nilCell (o := 1) (i := 3) (.trips []) rfl rfl rfl) ?_
    refine awp_red (Red.nilCell (o := 4) (i := 1) (.ints .i64 []) rfl rfl rfl) ?_
    refine awp_red (Red.nilCell (o := 4) (i := 2) (.bools []) rfl rfl rfl) ?_
    refine awp_red (Red.nilCell (o := 4) (i := 3) (.trips []) rfl rfl rfl) ?_
    replace ⟨hp0, h⟩ := chk_some h
    replace ⟨hp1, h⟩ := chk_some h
    replace ⟨⟨y_2, y_3, y_4⟩, hr2, h⟩ := bind_some h
    try dsimp only at h
    cases y_2
    ·replace h := bite_f h rfl
     refine awp_t [] [(56, bV true)] [(4, .box [iV (y.getD 0 0), .sl 12, .sl 13, .sl 10]), (3, .dead), (0, .dead)] [.row false (.intss .i64 ((a0.take ((1 + (y.getD 1 0)).toNat)).drop 1)), oI y_3, oB y_4] ?_ ?_
     ·clear h
      intro K hK
      refine awp_region ftCOk ?_
      simp (maxSteps := 4000000) only [go_sem]
      repeat' (first | refine And.intro ?_ ?_ | intro hg)
      all_goals (try simp (disch := omega) only [wrap_fits])
      all_goals first
       | exact al0
       | contradiction
       | (simp only [List.length_nil, List.length_append]; omega)
       | (refine wpA_callA (k_impl_State_readValues (y.getD 0 0) [] [] [] ((a0.take ((1 + (y.getD 1 0)).toNat)).drop 1) (h := hr2)) [4, 8, 9, 10, 11] [] ?_
          rintro x Hc' ⟨rfl, rfl⟩ hlen
          refine vcOps_sound ftCOk ?_
          exact au5)
       | exact al1
     ·clear hp0 hp1 hr2
      refine awp_cond (t := 56) rfl (fun _ => ?_) (fun hc => by cases hc)
      refine awp_rM ftCOk [0, 6, 7, 8, 56] [(3, bV false)] [(1, .box [iV 0, nV, nV, nV])] [] ?_
      refine awp_red (Red.nilCell (o := 1) (i := 1) (.ints .i64 []) rfl rfl rfl) ?_
      refine awp_red (Red.nilCell (o := 1) (i := 2) (.bools []) rfl rfl rfl) ?_
      refine awp_red (Red.nilCell (o := 1) (i := 3) (.trips []) rfl rfl rfl) ?_
      refine awp_ret ?_
      obtain rfl := Option.some.inj h
      exact finQ [0, 14, 15, 16]
    ·replace h := bite_t h rfl
     replace ⟨hp3, h⟩ := chk_some h
     replace ⟨hp4, h⟩ := chk_some h
     replace ⟨⟨y_5, y_6⟩, hr5, h⟩ := bind_some h
     try dsimp only at h
     refine awp_t [] [(56, bV (!y_5))] [(4, .box [iV (y.getD 0 0), .sl 12, .sl 13, .sl 15]), (3, .dead), (0, .dead), (0, .dead)] [.row false (.intss .i64 ((a0.take ((1 + (y.getD 1 0)).toNat)).drop 1)), oI y_3, oB y_4, .row false (.intss .i64 ((a0.take (((1 + (y.getD 1 0)) + (y.getD 2 0)).toNat)).drop ((1 + (y.getD 1 0)).toNat))), oT y_6] ?_ ?_
     ·clear h
      intro K hK
      refine awp_region ftCOk ?_
      simp (maxSteps := 4000000) only [go_sem]
      repeat' (first | refine And.intro ?_ ?_ | intro hg)
      all_goals (try simp (disch := omega) only [wrap_fits])
      all_goals first
       | exact al0
       | contradiction
       | (simp only [List.length_nil, List.length_append]; omega)
       | (refine wpA_callA (k_impl_State_readValues (y.getD 0 0) [] [] [] ((a0.take ((1 + (y.getD 1 0)).toNat)).drop 1) (h := hr2)) [4, 8, 9, 10, 11] [] ?_
          rintro x Hc' ⟨rfl, rfl⟩ hlen
          refine vcOps_sound ftCOk ?_
          simp (maxSteps := 4000000) only [go_sem]
          repeat' (first | refine And.intro ?_ ?_ | intro hg)
          all_goals (try simp (disch := omega) only [wrap_fits])
          all_goals first
           | exact al0
           | contradiction
           | (simp only [List.length_nil, List.length_append]; omega)
           | (refine wpA_guard rfl rfl ?_
              refine wpA_callA (k_impl_State_readMessages (y.getD 0 0) y_3 y_4 [] ((a0.take (((1 + (y.getD 1 0)) + (y.getD 2 0)).toNat)).drop ((1 + (y.getD 1 0)).toNat)) (h := hr5)) [4, 12, 13, 10, 14] [] ?_
              rintro x Hc' ⟨rfl, rfl⟩ hlen
              refine vcOps_sound ftCOk ?_
              exact au5)
           | exact al1)
       | exact al1
     ·clear hp0 hp1 hr2 hp3 hp4 hr5
      refine awp_if h ?_ ?_ <;> clear h <;> intro hc h
      ·refine awp_rM ftCOk [0, 6, 7, 8, 56] [(3, bV false)] [(1, .box [iV 0, nV, nV, nV])] [] ?_
       refine awp_red (Red.nilCell (o := 1) (i := 1) (.ints .i64 []) rfl rfl rfl) ?_
       refine awp_red (Red.nilCell (o := 1) (i := 2) (.bools []) rfl rfl rfl) ?_
       refine awp_red (Red.nilCell (o := 1) (i := 3) (.trips []) rfl rfl rfl) ?_
       refine awp_ret ?_
       obtain rfl := Option.some.inj h
       exact finQ [0, 16, 17, 18]
      ·refine awp_skip ?_
       refine hK8 _ _ ?_
       clear hK8
       refine awp_seq fun K12 hK12 => ?_
       replace h := chk_some h
       obtain ⟨hpt14, h⟩ := h
       refine awp_take 0 (((1 + (y.getD 1 0)) + (y.getD 2 0)).toNat) 0 (by rfl) (by exact hpt14) (by rfl) (by exact rfl) ?_
       clear hpt14
       replace ⟨hp0, h⟩ := chk_some h
       replace ⟨hp1, h⟩ := chk_some h
       replace ⟨hp2, h⟩ := chk_some h
       replace ⟨⟨y_7, y_8⟩, hr3, h⟩ := bind_some h
       try dsimp only at h
       refine awp_t [0, 6, 7, 56] [(10, bV y_8)] [] [oI y_7] ?_ ?_
       ·clear h
        intro K hK
        refine awp_region ftCOk ?_
        simp (maxSteps := 4000000) only [go_sem]
        repeat' (first | refine And.intro ?_ ?_ | intro hg)
        all_goals (try simp (disch := omega) only [wrap_fits])
        all_goals first
         | exact al0
         | contradiction
         | (simp only [List.length_nil, List.length_append]; omega)
         | (refine wpA_callA (k_impl_numbersBehind (a0.getD (((1 + (y.getD 1 0)) + (y.getD 2 0)).toNat) []) 4 0 (h := hr3)) [16] [] ?_
            rintro x Hc' ⟨rfl, rfl⟩ hlen
            refine vcOps_sound ftCOk ?_
            exact au5)
         | exact al1
       ·clear hp0 hp1 hp2 hr3
        refine awp_put 0 16 (by rfl) (by rfl) (Cont.setChild_self (by rfl)) (by exact rfl) ?_
        cases y_8
        ·replace h := bite_f h rfl
         refine awp_rS ftCOk [10] [(75, bV true)] ?_
         refine awp_cond (t := 75) rfl (fun _ => ?_) (fun hc => by cases hc)
         refine awp_rM ftCOk [8, 75] [(3, bV false)] [(1, .box [iV 0, nV, nV, nV])] [] ?_
         refine awp_red (Red.nilCell (o := 1) (i := 1) (.ints .i64 []) rfl rfl rfl) ?_
         refine awp_red (Red.nilCell (o := 1) (i := 2) (.bools []) rfl rfl rfl) ?_
         refine awp_red (Red.nilCell (o := 1) (i := 3) (.trips []) rfl rfl rfl) ?_
         refine awp_ret ?_
         obtain rfl := Option.some.inj h
         exact finQ [0, 18, 19, 20]
        ·replace h := bite_t h rfl
         replace ⟨y_9, hr0, h⟩ := bind_some h
         refine awp_t [10] [(75, bV (!y_9))] [] [] ?_ ?_
         ·clear h
          intro K hK
          refine awp_region ftCOk ?_
          simp (maxSteps := 4000000) only [go_sem]
          repeat' (first | refine And.intro ?_ ?_ | intro hg)
          all_goals (try simp (disch := omega) only [wrap_fits])
          all_goals first
           | exact al0
           | contradiction
           | (simp only [List.length_nil, List.length_append]; omega)
           | (refine wpA_guard rfl rfl ?_
              refine wpA_callA (k_impl_State_ownValid (y.getD 0 0) y_3 y_4 y_6 (h := hr0)) [12, 13, 15] [] ?_
              rintro x Hc' ⟨rfl, rfl⟩ hlen
              refine vcOps_sound ftCOk ?_
              exact au5)
           | exact al1
         ·clear hr0
          refine awp_if h ?_ ?_ <;> clear h <;> intro hc h
          ·refine awp_rM ftCOk [8, 75] [(3, bV false)] [(1, .box [iV 0, nV, nV, nV])] [] ?_
           refine awp_red (Red.nilCell (o := 1) (i := 1) (.ints .i64 []) rfl rfl rfl) ?_
           refine awp_red (Red.nilCell (o := 1) (i := 2) (.bools []) rfl rfl rfl) ?_
           refine awp_red (Red.nilCell (o := 1) (i := 3) (.trips []) rfl rfl rfl) ?_
           refine awp_ret ?_
           obtain rfl := Option.some.inj h
           exact finQ [0, 18, 19, 20]
          ·refine awp_skip ?_
           refine hK12 _ _ ?_
           clear hK12
           refine awp_rM ftCOk [8, 75] [(3, bV true)] [(1, .box [iV (y.getD 0 0), .sl 12, .sl 13, .sl 15])] [] ?_
           refine awp_ret ?_
           obtain rfl := Option.some.inj h
           exact finQ [0, 12, 13, 15]
theorem k_impl_LastCheckpoint (a0 : List (List Int)) {r : Int × List Int × List Bool × (List (Int × Int × Int)) × Bool} (h : impl_LastCheckpoint a0 = some r) :
 FnA Tryz.prog 10 [.sl 0] [.row false (.intss .i64 a0)] [] (fun x H => x = .tup [.agg [iV r.1, .sl 1, .sl 2, .sl 3], bV r.2.2.2.2] ∧ H = [.row false (.intss .i64 a0), oI r.2.1, oB r.2.2.1, oT r.2.2.2.1]) := by
 unfold impl_LastCheckpoint at h
 refine FnA.ofA 28 [0] [.cell 2 27, .tmp 3] Tryz.func10 en10 ?_
 refine awp_rM ftCOk [] [(2, .pp 1 0)] [] [.box [iV 0, nV, nV, nV]] ?_
 refine awp_seq fun K2 hK2 => ?_
 refine awp_rS ftCOk [] [(9, bV (decide (2000 < (a0.length : Int))))] ?_
 refine awp_if h ?_ ?_ <;> clear h <;> intro hc h
 ·refine awp_rS ftCOk [0, 9] [(3, bV false)] ?_
  refine awp_red (Red.nilCell (o := 1) (i := 1) (.ints .i64 []) rfl rfl rfl) ?_
  refine awp_red (Red.nilCell (o := 1) (i := 2) (.bools []) rfl rfl rfl) ?_
  refine awp_red (Red.nilCell (o := 1) (i := 3) (.trips []) rfl rfl rfl) ?_
  refine awp_ret ?_
  obtain rfl := Option.some.inj h
  exact finQ [0, 2, 3, 4]
 ·refine awp_skip ?_
  refine hK2 _ _ ?_
  clear hK2
  refine awp_seq fun K23 hK23 => ?_
  replace ⟨hp0, h⟩ := chk_some h
  have hwhp0 := wrap_fits hp0.1 hp0.2
  refine awp_rS ftCOk [9] [(4, iV ((a0.length : Int) - 1))] ?_
  clear hp0
  refine awp_block ?_
  replace h := bind_some h
  obtain ⟨x42, hx, h⟩ := h
  refine awp_loopL hx (fun t4 => [(0, .sl 0), (2, .pp 1 0), (4, iV t4)]) (fun t4 => [.row false (.intss .i64 a0), .box [iV 0, nV, nV, nV]]) (Sum.elim (fun _ => Exit.exit 0) (fun _ => Exit.ret)) (Sum.elim (fun _ => [(2, .pp 1 0)]) (fun (t2_0, t2_1s, t2_2s, t2_3s) => [(2, .pp 1 0), (3, bV true)])) (Sum.elim (fun _ => [.row false (.intss .i64 a0), .box [iV 0, nV, nV, nV]]) (fun (t2_0, t2_1s, t2_2s, t2_3s) => [.row false (.intss .i64 a0), .box [iV t2_0, .sl 2, .sl 3, .sl 4], oI t2_1s, oB t2_2s, oT t2_3s])) ?_ ?_ ?_ ?_
  ·rintro (⟨⟩ | ⟨t2_0, t2_1s, t2_2s, t2_3s⟩) hy <;> cases hy
  ·clear h hx
   exact Red.auto
  ·clear h hx
   rintro t4 r h
   unfold impl_LastCheckpoint_b0 at h
   try dsimp only at h
   try dsimp only
   refine awp_seq fun K37 hK37 => ?_
   refine awp_rS ftCOk [] [(15, bV (decide (0 ≤ t4)))] ?_
   refine awp_if h ?_ ?_ <;> clear h <;> intro hc h
   ·refine awp_skip ?_
    refine hK37 _ _ ?_
    clear hK37
    refine awp_seq fun K40 hK40 => ?_
    refine awp_block ?_
    replace ⟨hp0, h⟩ := chk_some h
    replace ⟨⟨y, y_1, y_2, y_3, y_4⟩, hr1, h⟩ := bind_some h
    try dsimp only at h
    refine awp_c ftCOk [15] [(5, .pp 6 0), (6, bV y_4)] [] [.row false (.intss .i64 ((a0.take a0.length).drop t4.toNat)), oI y_1, oB y_2, oT y_3, .box [iV y, .sl 3, .sl 4, .sl 5]] [⟨3, [2], k_impl_checkpointAt ((a0.take a0.length).drop t4.toNat) (h := hr1)⟩] ?_
    clear hp0 hr1
    refine awp_rS ftCOk [6] [(25, bV y_4)] ?_
    refine awp_if h ?_ ?_ <;> clear h <;> intro hc h
    ·refine awp_rM ftCOk [0, 4, 5, 25] [(3, bV true)] [(1, .box [iV y, .sl 3, .sl 4, .sl 5])] [] ?_
     refine awp_ret ?_
     refine nm ?_
     obtain rfl := Option.some.inj h
     refine LoopQ.out rfl ?_
     exact Red.selA [0, 1, 3, 4, 5] Red.auto
    ·refine awp_skip ?_
     refine hK40 _ _ ?_
     clear hK40
     replace ⟨hp0, h⟩ := chk_some h
     have hwhp0 := wrap_fits hp0.1 hp0.2
     refine awp_rES ftCOk [4, 5, 25] [(4, iV (t4 - 1))] ?_
     clear hp0
     obtain rfl := Option.some.inj h
     refine LoopQ.next ?_
     exact Red.selA [0, 1] Red.auto
   ·refine awp_exit ?_
    refine nm ?_
    obtain rfl := Option.some.inj h
    refine LoopQ.out rfl ?_
    exact Red.auto
  ·clear hx
   rcases x42 with (⟨⟩ | ⟨t2_0, t2_1s, t2_2s, t2_3s⟩)
   ·try dsimp only [Sum.elim_inl, Sum.elim_inr] at h
    try dsimp only [Sum.elim_inl, Sum.elim_inr]
    refine hK23 _ _ ?_
    clear hK23
    refine awp_rS ftCOk [] [(3, bV false)] ?_
    refine awp_red (Red.nilCell (o := 1) (i := 1) (.ints .i64 []) rfl rfl rfl) ?_
    refine awp_red (Red.nilCell (o := 1) (i := 2) (.bools []) rfl rfl rfl) ?_
    refine awp_red (Red.nilCell (o := 1) (i := 3) (.trips []) rfl rfl rfl) ?_
    refine awp_ret ?_
    obtain rfl := Option.some.inj h
    exact finQ [0, 2, 3, 4]
   ·try dsimp only [Sum.elim_inl, Sum.elim_inr] at h
    try dsimp only [Sum.elim_inl, Sum.elim_inr]
    obtain rfl := Option.some.inj h
    exact finQ [0, 2, 3, 4]
theorem k_laws_sameFlags (a0 : List Bool) (a1 : List Bool) {r : Bool} (h : laws_sameFlags a0 a1 = some r) :
 FnA Tryz.prog 29 [.sl 0, .sl 1] [rB a0, rB a1] [] (fun x H => x = bV r ∧ H = [rB a0, rB a1]) := by
 unfold laws_sameFlags at h
 refine FnA.ofA 26 [0, 1] [.tmp 4] Tryz.func29 en29 ?_
 refine awp_rS ftCOk [] [] ?_
 refine awp_seq fun K2 hK2 => ?_
 refine awp_rS ftCOk [] [(10, bV ((a0.length : Int) != (a1.length : Int)))] ?_
 refine awp_if h ?_ ?_ <;> clear h <;> intro hc h
 ·refine awp_rS ftCOk [0, 1, 10] [(4, bV false)] ?_
  refine awp_ret ?_
  obtain rfl := Option.some.inj h
  exact finQ [0, 1]
 ·refine awp_skip ?_
  refine hK2 _ _ ?_
  clear hK2
  refine awp_seq fun K23 hK23 => ?_
  refine awp_rS ftCOk [10] [(5, iV 0)] ?_
  refine awp_block ?_
  replace h := bind_some h
  obtain ⟨x42, hx, h⟩ := h
  refine awp_loopL hx (fun t5 => [(0, .sl 0), (1, .sl 1), (5, iV t5)]) (fun t5 => [rB a0, rB a1]) (Sum.elim (fun _ => Exit.exit 0) (fun _ => Exit.ret)) (Sum.elim (fun _ => []) (fun _ => [(4, bV false)])) (Sum.elim (fun _ => [rB a0, rB a1]) (fun _ => [rB a0, rB a1])) ?_ ?_ ?_ ?_
  ·rintro (⟨⟩ | ⟨⟩) hy <;> cases hy
  ·clear h hx
   exact Red.auto
  ·clear h hx
   rintro t5 r h
   unfold laws_sameFlags_b0 at h
   try dsimp only at h
   try dsimp only
   refine awp_seq fun K37 hK37 => ?_
   refine awp_rS ftCOk [] [(14, bV (decide (t5 < (a0.length : Int))))] ?_
   refine awp_if h ?_ ?_ <;> clear h <;> intro hc h
   ·refine awp_skip ?_
    refine hK37 _ _ ?_
    clear hK37
    refine awp_seq fun K40 hK40 => ?_
    refine awp_block ?_
    replace ⟨hp0, h⟩ := chk_some h
    replace ⟨hp1, h⟩ := chk_some h
    refine awp_qS mixed ftCOk [14] [(25, bV (!((a0.getD t5.toNat false) == (a1.getD t5.toNat false))))] ?_
    clear hp0 hp1
    refine awp_if h ?_ ?_ <;> clear h <;> intro hc h
    ·refine awp_rS ftCOk [0, 1, 5, 25] [(4, bV false)] ?_
     refine awp_ret ?_
     refine nm ?_
     obtain rfl := Option.some.inj h
     refine LoopQ.out rfl ?_
     exact Red.auto
    ·refine awp_skip ?_
     refine hK40 _ _ ?_
     clear hK40
     replace ⟨hp0, h⟩ := chk_some h
     refine awp_rES ftCOk [5, 25] [(5, iV (t5 + 1))] ?_
     clear hp0
     obtain rfl := Option.some.inj h
     refine LoopQ.next ?_
     exact Red.auto
   ·refine awp_exit ?_
    refine nm ?_
    obtain rfl := Option.some.inj h
    refine LoopQ.out rfl ?_
    exact Red.auto
  ·clear hx
   rcases x42 with (⟨⟩ | ⟨⟩)
   ·try dsimp only [Sum.elim_inl, Sum.elim_inr] at h
    try dsimp only [Sum.elim_inl, Sum.elim_inr]
    refine hK23 _ _ ?_
    clear hK23
    refine awp_rS ftCOk [] [(4, bV true)] ?_
    refine awp_ret ?_
    obtain rfl := Option.some.inj h
    exact finQ [0, 1]
   ·try dsimp only [Sum.elim_inl, Sum.elim_inr] at h
    try dsimp only [Sum.elim_inl, Sum.elim_inr]
    obtain rfl := Option.some.inj h
    exact finQ [0, 1]
theorem k_laws_sameMessages (a0 : List (Int × Int × Int)) (a1 : List (Int × Int × Int)) {r : Bool} (h : laws_sameMessages a0 a1 = some r) :
 FnA Tryz.prog 30 [.sl 0, .sl 1] [rT a0, rT a1] [] (fun x H => x = bV r ∧ H = [rT a0, rT a1]) := by
 unfold laws_sameMessages at h
 refine FnA.ofA 26 [0, 1] [.tmp 4] Tryz.func30 en30 ?_
 refine awp_rS ftCOk [] [] ?_
 refine awp_seq fun K2 hK2 => ?_
 refine awp_rS ftCOk [] [(10, bV ((a0.length : Int) != (a1.length : Int)))] ?_
 refine awp_if h ?_ ?_ <;> clear h <;> intro hc h
 ·refine awp_rS ftCOk [0, 1, 10] [(4, bV false)] ?_
  refine awp_ret ?_
  obtain rfl := Option.some.inj h
  exact finQ [0, 1]
 ·refine awp_skip ?_
  refine hK2 _ _ ?_
  clear hK2
  refine awp_seq fun K23 hK23 => ?_
  refine awp_rS ftCOk [10] [(5, iV 0)] ?_
  refine awp_block ?_
  replace h := bind_some h
  obtain ⟨x42, hx, h⟩ := h
  refine awp_loopL hx (fun t5 => [(0, .sl 0), (1, .sl 1), (5, iV t5)]) (fun t5 => [rT a0, rT a1]) (Sum.elim (fun _ => Exit.exit 0) (fun _ => Exit.ret)) (Sum.elim (fun _ => []) (fun _ => [(4, bV false)])) (Sum.elim (fun _ => [rT a0, rT a1]) (fun _ => [rT a0, rT a1])) ?_ ?_ ?_ ?_
  ·rintro (⟨⟩ | ⟨⟩) hy <;> cases hy
  ·clear h hx
   exact Red.auto
  ·clear h hx
   rintro t5 r h
   unfold laws_sameMessages_b0 at h
   try dsimp only at h
   try dsimp only
   refine awp_seq fun K37 hK37 => ?_
   refine awp_rS ftCOk [] [(14, bV (decide (t5 < (a0.length : Int))))] ?_
   refine awp_if h ?_ ?_ <;> clear h <;> intro hc h
   ·refine awp_skip ?_
    refine hK37 _ _ ?_
    clear hK37
    refine awp_seq fun K40 hK40 => ?_
    refine awp_block ?_
    replace ⟨hp0, h⟩ := chk_some h
    replace ⟨hp1, h⟩ := chk_some h
    refine awp_qS mixed ftCOk [14] [(25, bV (!(((a0.getD t5.toNat (0, 0, 0)).1 == (a1.getD t5.toNat (0, 0, 0)).1) && (((a0.getD t5.toNat (0, 0, 0)).2.1 == (a1.getD t5.toNat (0, 0, 0)).2.1) && ((a0.getD t5.toNat (0, 0, 0)).2.2 == (a1.getD t5.toNat (0, 0, 0)).2.2)))))] ?_
    clear hp0 hp1
    refine awp_if h ?_ ?_ <;> clear h <;> intro hc h
    ·refine awp_rS ftCOk [0, 1, 5, 25] [(4, bV false)] ?_
     refine awp_ret ?_
     refine nm ?_
     obtain rfl := Option.some.inj h
     refine LoopQ.out rfl ?_
     exact Red.auto
    ·refine awp_skip ?_
     refine hK40 _ _ ?_
     clear hK40
     replace ⟨hp0, h⟩ := chk_some h
     refine awp_rES ftCOk [5, 25] [(5, iV (t5 + 1))] ?_
     clear hp0
     obtain rfl := Option.some.inj h
     refine LoopQ.next ?_
     exact Red.auto
   ·refine awp_exit ?_
    refine nm ?_
    obtain rfl := Option.some.inj h
    refine LoopQ.out rfl ?_
    exact Red.auto
  ·clear hx
   rcases x42 with (⟨⟩ | ⟨⟩)
   ·try dsimp only [Sum.elim_inl, Sum.elim_inr] at h
    try dsimp only [Sum.elim_inl, Sum.elim_inr]
    refine hK23 _ _ ?_
    clear hK23
    refine awp_rS ftCOk [] [(4, bV true)] ?_
    refine awp_ret ?_
    obtain rfl := Option.some.inj h
    exact finQ [0, 1]
   ·try dsimp only [Sum.elim_inl, Sum.elim_inr] at h
    try dsimp only [Sum.elim_inl, Sum.elim_inr]
    obtain rfl := Option.some.inj h
    exact finQ [0, 1]
theorem k_laws_sameState (a0_0 : Int) (a0_1 : List Int) (a0_2 : List Bool) (a0_3 : List (Int × Int × Int)) (a1_0 : Int) (a1_1 : List Int) (a1_2 : List Bool) (a1_3 : List (Int × Int × Int)) {r : Bool} (h : laws_sameState a0_0 a0_1 a0_2 a0_3 a1_0 a1_1 a1_2 a1_3 = some r) :
 FnA Tryz.prog 12 [.agg [iV a0_0, .sl 0, .sl 1, .sl 2], .agg [iV a1_0, .sl 3, .sl 4, .sl 5]] [rI a0_1, rB a0_2, rT a0_3, rI a1_1, rB a1_2, rT a1_3] [] (fun x H => x = bV r ∧ H = [rI a0_1, rB a0_2, rT a0_3, rI a1_1, rB a1_2, rT a1_3]) := by
 unfold laws_sameState at h
 refine FnA.ofA 31 [0, 1, 2, 3, 4, 5] [.tmp 4] Tryz.func12 en12 ?_
 refine awp_rM ftCOk [0, 1] [(2, .pp 6 0), (3, .pp 7 0)] [] [.box [iV a0_0, .sl 0, .sl 1, .sl 2], .box [iV a1_0, .sl 3, .sl 4, .sl 5]] ?_
 refine awp_freeze 2 (by rfl) (by rfl) (by exact rfl) ?_
 refine awp_freeze 3 (by rfl) (by rfl) (by exact rfl) ?_
 replace ⟨y, hr0, h⟩ := bind_some h
 replace ⟨y_1, hr1, h⟩ := bind_some h
 replace ⟨y_2, hr2, h⟩ := bind_some h
 refine awp_t [2, 3] [(4, bV ((((a0_0 == a1_0) && y) && y_1) && y_2))] [] [] ?_ ?_
 ·clear h
  intro K hK
  refine awp_regionA ?_
  refine wpA_cutAt 12 [(2, .pp 6 0), (3, .pp 7 0), (16, bV ((a0_0 == a1_0) && y))] [rI a0_1, rB a0_2, rT a0_3, rI a1_1, rB a1_2, rT a1_3, .rbox [iV a0_0, .sl 0, .sl 1, .sl 2], .rbox [iV a1_0, .sl 3, .sl 4, .sl 5]] ?_ ?_
  ·clear hK K
   intro K hK
   refine vcOps_sound ftCOk ?_
   simp (maxSteps := 4000000) only [go_sem]
   repeat' (first | refine And.intro ?_ ?_ | intro hg)
   all_goals (try simp (disch := omega) only [wrap_fits])
   all_goals first
    | exact al0
    | (refine wpA_guard rfl rfl ?_
       refine wpA_callA (k_laws_sameInts a0_1 a1_1 (h := (bite_t hr0 byg))) [0, 3] [] ?_
       rintro x Hc' ⟨rfl, rfl⟩ hlen
       refine vcOps_sound ftCOk ?_
       exact auV)
    | exact al1
  refine wpA_cutAt 7 [(2, .pp 6 0), (3, .pp 7 0), (23, bV (((a0_0 == a1_0) && y) && y_1))] [rI a0_1, rB a0_2, rT a0_3, rI a1_1, rB a1_2, rT a1_3, .rbox [iV a0_0, .sl 0, .sl 1, .sl 2], .rbox [iV a1_0, .sl 3, .sl 4, .sl 5]] ?_ ?_
  ·clear hK K
   intro K hK
   refine vcOps_sound ftCOk ?_
   simp (maxSteps := 4000000) only [go_sem]
   repeat' (first | refine And.intro ?_ ?_ | intro hg)
   all_goals (try simp (disch := omega) only [wrap_fits])
   all_goals first
    | exact al0
    | (refine wpA_guard rfl rfl ?_
       refine wpA_callA (k_laws_sameFlags a0_2 a1_2 (h := (bite_t hr1 byg))) [1, 4] [] ?_
       rintro x Hc' ⟨rfl, rfl⟩ hlen
       refine vcOps_sound ftCOk ?_
       exact auV)
    | exact al1
  refine vcOps_sound ftCOk ?_
  simp (maxSteps := 4000000) only [go_sem]
  repeat' (first | refine And.intro ?_ ?_ | intro hg)
  all_goals (try simp (disch := omega) only [wrap_fits])
  all_goals first
   | exact al0
   | (refine wpA_guard rfl rfl ?_
      refine wpA_callA (k_laws_sameMessages a0_3 a1_3 (h := (bite_t hr2 byg))) [2, 5] [] ?_
      rintro x Hc' ⟨rfl, rfl⟩ hlen
      refine vcOps_sound ftCOk ?_
      exact auV)
   | exact al1
 ·clear hr0 hr1 hr2
  refine awp_ret ?_
  obtain rfl := Option.some.inj h
  exact finQ [0, 1, 2, 3, 4, 5]
end Go.Proofs.YteoedigfnfjopaaGreat
