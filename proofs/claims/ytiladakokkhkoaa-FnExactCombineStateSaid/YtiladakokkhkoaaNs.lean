/- FnExactCombineState. -/
import Derived.Test.YtiladakokkhkoaaNr
set_option linter.unusedSimpArgs false
set_option linter.unusedVariables false
namespace Go.Proofs.Ytiladakokkhkoaa
open Go Go.Av
attribute [local go_sem] gives_chk gives_ite gives_some gives_bind gives_join Sum.elim_inl Sum.elim_inr decide_eq_true_eq decide_eq_false_iff_not Bool.not_eq_true' Bool.not_eq_false' Bool.or_eq_true Bool.and_eq_true Bool.not_eq_eq_eq_not beq_iff_eq bne_iff_ne ne_eq Bool.or_eq_false_iff Bool.and_eq_false_iff Bool.not_eq_true Bool.not_eq_false Bool.not_true Bool.not_false Int.toNat_natCast beq_eq_false_iff_ne bne_eq_false_iff_eq Decidable.not_not Bool.default_bool

theorem toMessageS_eq {es : List Mg} (hx : es.length ≤ 1000000000) : laws_toMessageS es = some es := by
  unfold laws_toMessageS
  rw [chk_pos (by omega), Int.toNat_natCast, gives_copy hx]
  · rfl
  · intro k ys hk hl
    simp only [laws_toMessageS_b0, laws_toMessage, Int.toNat_natCast, decide_eq_true_eq, Option.bind_some]
    by_cases h : k < es.length
    · rw [if_pos (by omega), if_pos h, chk_pos (by omega), chk_pos (by omega), chk_pos (by omega)]
    · rw [if_neg (by omega), if_neg h]
theorem toState_eq {r : Int} {vs : List Int} {gs : List Bool} {ms : List Mg} (hv : vs.length ≤ 1000000000) (hg : gs.length ≤ 1000000000) (hm : ms.length ≤ 1000000000) : laws_toState r vs gs ms = some (r, vs, gs, ms) := by
  simp only [laws_toState, toIntS_eq hv, toBoolS_eq hg, toMessageS_eq hm, Option.bind_some]
theorem eqMessageS_eq {xs ys : List Mg} (hx : xs.length ≤ 1000000000) : laws_eqMessageS xs ys = some (decide (xs = ys)) := by
  unfold laws_eqMessageS
  by_cases hl : xs.length = ys.length
  · rw [if_neg (by simp; omega), gives_same (d := (0, 0, 0)) hl]
    · by_cases h : xs = ys <;> simp [h]
    · intro k hk
      simp only [laws_eqMessageS_b0, Int.toNat_natCast, decide_eq_true_eq]
      by_cases h : k < xs.length
      · rw [if_pos (by omega), if_pos h, chk_pos (by omega), chk_pos (by omega)]
        have e : ∀ a b : Mg, laws_eqMessage a.1 a.2.1 a.2.2 b.1 b.2.1 b.2.2 = some (decide (a = b)) := fun a b => by
          obtain ⟨a1, a2, a3⟩ := a
          obtain ⟨b1, b2, b3⟩ := b
          unfold laws_eqMessage
          by_cases h1 : a1 = b1 <;> by_cases h2 : a2 = b2 <;> by_cases h3 : a3 = b3 <;> simp [h1, h2, h3]
        rw [e, Option.bind_some]
        by_cases he : xs.getD k (0, 0, 0) = ys.getD k (0, 0, 0)
        · rw [if_neg (by simp only [he, decide_true, Bool.not_true, Bool.false_eq_true, not_false_eq_true]), if_pos he, chk_pos (by omega)]
        · rw [if_pos (by rw [decide_eq_false he]; rfl), if_neg he]
      · rw [if_neg (by omega), if_neg h]
  · rw [if_pos (by simp; omega)]
    have : xs ≠ ys := fun e => hl (by rw [e])
    simp [this]
theorem eqState_eq {r r' : Int} {vs vs' : List Int} {gs gs' : List Bool} {ms ms' : List Mg} (hv : vs.length ≤ 1000000000) (hg : gs.length ≤ 1000000000) (hm : ms.length ≤ 1000000000) :
    laws_eqState r vs gs ms r' vs' gs' ms' = some (decide (r = r' ∧ vs = vs' ∧ gs = gs' ∧ ms = ms')) := by
  unfold laws_eqState
  rw [eqIntS_eq hv, eqBoolS_eq hg, eqMessageS_eq hm]
  by_cases h1 : r = r' <;> by_cases h2 : vs = vs' <;> by_cases h3 : gs = gs' <;> by_cases h4 : ms = ms' <;> simp [h1, h2, h3, h4]
theorem szState_ok {r : Int} {vs : List Int} {gs : List Bool} {ms : List Mg} (hv : vs.length ≤ 9223372036854775807) (hg : gs.length ≤ 9223372036854775807) (hm : ms.length ≤ 9223372036854775807) :
    ∃ y, laws_szState r vs gs ms 1048576 = some y ∧ (0 ≤ y → vs.length + gs.length + ms.length ≤ 1048576) := by
  unfold laws_szState laws_szIntS laws_szBoolS laws_szMessageS
  rw [chk_pos (by omega)]
  by_cases h1 : (1048576 : Int) < vs.length
  · rw [if_pos (by simp; omega)]
    exact ⟨-1, rfl, fun h => absurd h (by omega)⟩
  · rw [if_neg (by simp; omega), Option.bind_some, if_neg (by simp; omega), chk_pos (by omega)]
    by_cases h2 : (1048576 : Int) - vs.length < gs.length
    · rw [if_pos (by simp; omega)]
      exact ⟨-1, rfl, fun h => absurd h (by omega)⟩
    · rw [if_neg (by simp; omega), Option.bind_some, if_neg (by simp; omega), chk_pos (by omega)]
      by_cases h3 : (1048576 : Int) - vs.length - gs.length < ms.length
      · rw [if_pos (by simp; omega)]
        exact ⟨-1, rfl, fun h => absurd h (by omega)⟩
      · rw [if_neg (by simp; omega), Option.bind_some, if_neg (by simp; omega)]
        exact ⟨_, rfl, fun h => by omega⟩
theorem markMessageS_eq {es : List Mg} {k : Int} (hx : es.length ≤ 1000000000) (h0 : 0 ≤ k) (h1 : k ≤ 10000000000) : laws_markMessageS es k = some (k + 3 * (es.length : Int), mks (mkE k) es.length) := by
  refine gives_eq.1 ?_
  unfold laws_markMessageS
  simp only [go_sem]
  refine loop_to (fun j : Nat => (k + 3 * (j : Int), (j : Int), mks (mkE k) j ++ es.drop j)) (fun j => j ≤ es.length) (fun j => es.length - j) 0 (by simp [mks]) (Nat.zero_le _) ?_
  intro j hj
  have hl : (mks (mkE k) j ++ es.drop j).length = es.length := by simp [mks_len]; omega
  simp only [laws_markMessageS_b0, go_sem, List.length_set, hl]
  refine ⟨fun hc => ?_, fun hc => ?_⟩
  · have hjl : j < (mks (mkE k) j ++ es.drop j).length := by omega
    refine ⟨by omega, by omega, by omega, by omega, by omega, by omega, by omega, j + 1, by omega, by omega, ?_⟩
    have e := mks_set (f := mkE k) (xs := es) (j := j) (by omega)
    simp only [setE hjl, setE2 hjl, List.set_set]
    rw [← e]
    refine Prod.ext (by simp only; omega) (Prod.ext (by simp only; omega) ?_)
    simp only [mkE]
    congr 1
    exact Prod.ext rfl (Prod.ext rfl (by simp only; omega))
  · rw [show j = es.length from by omega]; simp
theorem heldMessageS_eq {m : Nat} {k : Int} (hx : m ≤ 1000000000) (h0 : 0 ≤ k) (h1 : k ≤ 10000000000) : laws_heldMessageS (mks (mkE k) m) k = some (k + 3 * (m : Int)) := by
  refine gives_eq.1 ?_
  unfold laws_heldMessageS
  simp only [go_sem]
  refine loop_to (fun j : Nat => (k + 3 * (j : Int), (j : Int))) (fun j => j ≤ m) (fun j => m - j) 0 (by simp) (Nat.zero_le _) ?_
  intro j hj
  simp only [laws_heldMessageS_b0, mks_len, go_sem]
  refine ⟨fun hc => ?_, fun hc => ?_⟩
  · rw [mks_get (f := mkE k) (by omega)]
    simp only [mkE]
    refine ⟨by omega, fun h => absurd trivial h, fun _ => ⟨by omega, by omega, fun h => absurd trivial h, fun _ => ⟨by omega, by omega, fun h => ?_, fun _ => ⟨by omega, by omega, j + 1, by omega, by omega, Prod.ext (by simp only; omega) (by simp only; omega)⟩⟩⟩⟩
    exact absurd (by omega) h
  · rw [show j = m from by omega]
theorem mark_state {r : Int} {vs : List Int} {gs : List Bool} {ms : List Mg} (hv : vs.length ≤ 1000000000) (hg : gs.length ≤ 1000000000) (hm : ms.length ≤ 1000000000) :
    ∃ k vs' gs' ms', laws_markState r vs gs ms 1 = some (k, vs', gs', ms') ∧ 0 ≤ k ∧ ∀ r', laws_heldState r' vs' gs' ms' 1 = some k := by
  refine ⟨1 + vs.length + gs.length + 3 * (ms.length : Int), mks (fun j => 1 + (j : Int)) vs.length, mks (fun j => (1 + vs.length + (j : Int)) % 3 == 0) gs.length, mks (mkE (1 + vs.length + gs.length)) ms.length, ?_, by omega, fun r' => ?_⟩
  · unfold laws_markState
    rw [markIntS_eq hv (by omega) (by omega), Option.bind_some]
    dsimp only
    rw [markBoolS_eq hg (by omega) (by omega), Option.bind_some]
    dsimp only
    rw [markMessageS_eq hm (by omega) (by omega), Option.bind_some]
  · unfold laws_heldState
    rw [heldIntS_eq hv (by omega) (by omega), Option.bind_some, if_neg (by simp; omega), heldBoolS_eq hg (by omega) (by omega), Option.bind_some, if_neg (by simp; omega), heldMessageS_eq hm (by omega) (by omega), Option.bind_some, if_neg (by simp; omega)]
/-- What CombineState returns. -/
noncomputable def combS (k s d r : Int) (vs : List Int) (gs : List Bool) (ms : List Mg) : Int × List Int × List Bool × List Mg :=
  if POk k s d ∧ sok r vs gs ms vs.length = true then (r, vs, gs, combM k s d ms) else (0, [], [], [])
theorem sok_len {r n : Int} {vs : List Int} {gs : List Bool} {ms : List Mg} (h : sok r vs gs ms n = true) : StOk r vs gs ms n := by
  unfold sok at h; simpa using h
theorem cloneI {es : List Int} (h : es.length ≤ 1000000000) : slices_Clone_int_int es = some es := by
  unfold slices_Clone_int_int both
  by_cases h0 : es.length = 0
  · have := List.eq_nil_of_length_eq_zero h0; subst this; simp [chk]
  · simp [h0]; rw [chk_pos (by omega)]
theorem cloneB {es : List Bool} (h : es.length ≤ 1000000000) : slices_Clone_bool_bool es = some es := by
  unfold slices_Clone_bool_bool both
  by_cases h0 : es.length = 0
  · have := List.eq_nil_of_length_eq_zero h0; subst this; simp [chk]
  · simp [h0]; rw [chk_pos (by omega)]
theorem cloneM {es : List Mg} (h : es.length ≤ 1000000000) : slices_Clone_impl_Message_impl_Message es = some es := by
  unfold slices_Clone_impl_Message_impl_Message both
  by_cases h0 : es.length = 0
  · have := List.eq_nil_of_length_eq_zero h0; subst this; simp [chk]
  · simp [h0]; rw [chk_pos (by omega)]
theorem impl_CombineState_eq {k s d r : Int} {vs : List Int} {gs : List Bool} {ms : List Mg} (hv : vs.length ≤ 1000000000) (hg : gs.length ≤ 1000000000) (hm : ms.length ≤ 1000000000) :
    impl_CombineState k s d r vs gs ms = some (combS k s d r vs gs ms) := by
  unfold impl_CombineState impl_State_ownValid combS
  rw [impl_ProgramValid_eq, Option.bind_some]
  by_cases hp : POk k s d
  · rw [if_pos (by simp [hp]), impl_StateValid_eq hv hm, Option.bind_some, Option.bind_some]
    by_cases hs : sok r vs gs ms vs.length = true
    · have h2 := (sok_len hs).2.2.2.2.2.2.1
      rw [if_neg (by simp [hp, hs]), if_pos ⟨hp, hs⟩, impl_State_copied, cloneI hv, Option.bind_some, cloneB hg, Option.bind_some, cloneM hm, Option.bind_some, Option.bind_some]
      dsimp only
      rw [impl_CombineMessages_eq hp h2, Option.bind_some]
    · rw [if_pos (by simp [hs]), if_neg (fun h => hs h.2)]
  · rw [if_neg (by simp [hp]), Option.bind_some, if_pos (by simp [hp]), if_neg (fun h => hp h.1)]
theorem spec_CombineState_eq {k s d r : Int} {vs : List Int} {gs : List Bool} {ms : List Mg} (hv : vs.length ≤ 1000000000) (hg : gs.length ≤ 1000000000) (hm : ms.length ≤ 1000000000) :
    spec_CombineState k s d r vs gs ms = some (combS k s d r vs gs ms) := by
  unfold spec_CombineState spec_l1OwnState combS
  rw [chk_pos (by omega), chk_pos (by omega), chk_pos (by omega), Option.bind_some]
  simp only [List.nil_append]
  rw [spec_ProgramValid_eq, Option.bind_some]
  by_cases hp : POk k s d
  · rw [if_pos (by simp [hp]), spec_StateValid_eq hv hg hm, Option.bind_some]
    by_cases hs : sok r vs gs ms vs.length = true
    · have h2 := (sok_len hs).2.2.2.2.2.2.1
      rw [if_neg (by simp [hp, hs]), if_pos ⟨hp, hs⟩, chk_pos (by omega), chk_pos (by omega), spec_CombineMessages_eq hp h2, Option.bind_some]
    · rw [if_pos (by simp [hs]), if_neg (fun h => hs h.2)]
  · rw [if_neg (by simp [hp]), Option.bind_some, if_pos (by simp [hp]), if_neg (fun h => hp h.1)]
theorem combS_len (k s d r : Int) (vs : List Int) (gs : List Bool) (ms : List Mg) : (combS k s d r vs gs ms).2.1.length ≤ vs.length ∧ (combS k s d r vs gs ms).2.2.1.length ≤ gs.length ∧ (combS k s d r vs gs ms).2.2.2.length ≤ ms.length := by
  unfold combS
  split
  · exact ⟨Nat.le_refl _, Nat.le_refl _, combM_len ..⟩
  · exact ⟨Nat.zero_le _, Nat.zero_le _, Nat.zero_le _⟩
theorem FnExactCombineState_true {k s d r : Int} {vs : List Int} {gs : List Bool} {ms : List Mg} (hv : vs.length ≤ 9223372036854775807) (hg : gs.length ≤ 9223372036854775807) (hm : ms.length ≤ 9223372036854775807) :
    laws_FnExactCombineState k s d r vs gs ms = some true := by
  unfold laws_FnExactCombineState
  obtain ⟨y, hy, hl⟩ := szState_ok (r := r) hv hg hm
  rw [hy, Option.bind_some]
  by_cases h0 : y < 0
  · rw [if_pos (by simpa using h0)]
  have hl := hl (by omega)
  have v1 : vs.length ≤ 1000000000 := by omega
  have g1 : gs.length ≤ 1000000000 := by omega
  have m1 : ms.length ≤ 1000000000 := by omega
  obtain ⟨c1, c2, c3⟩ := combS_len k s d r vs gs ms
  rw [if_neg (by simpa using h0)]
  simp only [laws_toProgram, toState_eq v1 g1 m1, Option.bind_some, spec_CombineState_eq v1 g1 m1, impl_CombineState_eq v1 g1 m1]
  generalize combS k s d r vs gs ms = R at c1 c2 c3
  obtain ⟨r', vs', gs', ms'⟩ := R
  simp only at c1 c2 c3
  have v2 : vs'.length ≤ 1000000000 := by omega
  have g2 : gs'.length ≤ 1000000000 := by omega
  have m2 : ms'.length ≤ 1000000000 := by omega
  obtain ⟨q, a1, a2, a3, hq, hq0, -⟩ := mark_state (r := r) v1 g1 m1
  obtain ⟨t, b1, b2, b3, ht, ht0, hh⟩ := mark_state (r := r') v2 g2 m2
  simp only [eqState_eq v2 g2 m2, eqState_eq v1 g1 m1, Option.bind_some, and_self, decide_true, Bool.not_true, hq, ht, hh]
  rw [if_neg (by simp), if_neg (by simp), if_pos (by simp; omega), Option.bind_some, if_neg (by simp; omega), if_neg (by simp; omega), if_neg (by simp), if_neg (by simp), if_neg (by simp; omega), if_neg (by simp)]
end Go.Proofs.Ytiladakokkhkoaa
