/- FnExactCombineState. -/
import Derived.Test.YteoedigfnfjopaaNr
set_option linter.unusedSimpArgs false
set_option linter.unusedVariables false
namespace Go.Proofs.Yteoedigfnfjopaa
open Go Go.Av
attribute [local go_sem] gives_chk gives_ite gives_some gives_bind gives_join Sum.elim_inl Sum.elim_inr decide_eq_true_eq decide_eq_false_iff_not Bool.not_eq_true' Bool.not_eq_false' Bool.or_eq_true Bool.and_eq_true Bool.not_eq_eq_eq_not beq_iff_eq bne_iff_ne ne_eq Bool.or_eq_false_iff Bool.and_eq_false_iff Bool.not_eq_true Bool.not_eq_false Bool.not_true Bool.not_false Int.toNat_natCast beq_eq_false_iff_ne bne_eq_false_iff_eq Decidable.not_not Bool.default_bool

theorem toMessageS_eq {es : List Mg} (hx : es.length ≤ 1000000000) : laws_toMessageS es = some es := by
  unfold laws_toMessageS
  rw [chk_pos (by omega), Int.toNat_natCast, gives_copy hx]
  · rfl
  · intro k ys hk hl
    simp only [laws_toMessageS_b0, laws_toMessage, Int.toNat_natCast, decide_eq_true_eq, Option.bind_some]
    by_cases h : k < es.length
    · rw [if_pos (by omega), if_pos h, chk_pos (by omega), chk_pos (by omega), chk_pos (by omega)]
    · rw [if_neg (by omega), if_neg h]
theorem toState_eq {r : Int} {vs : List Int} {gs : List Bool} {ms : List Mg} (hv : vs.length ≤ 1000000000) (hg : gs.length ≤ 1000000000) (hm : ms.length ≤ 1000000000) : laws_toState r vs gs ms = some (r, vs, gs, ms) := by
  simp only [laws_toState, toIntS_eq hv, toBoolS_eq hg, toMessageS_eq hm, Option.bind_some]
theorem eqMessageS_eq {xs ys : List Mg} (hx : xs.length ≤ 1000000000) : laws_eqMessageS xs ys = some (decide (xs = ys)) := by
  unfold laws_eqMessageS
  by_cases hl : xs.length = ys.length
  · rw [if_neg (by simp; omega), gives_same (d := (0, 0, 0)) hl]
    · by_cases h : xs = ys <;> simp [h]
    · intro k hk
      simp only [laws_eqMessageS_b0, Int.toNat_natCast, decide_eq_true_eq]
      by_cases h : k < xs.length
      · rw [if_pos (by omega), if_pos h, chk_pos (by omega), chk_pos (by omega)]
        have e : ∀ a b : Mg, laws_eqMessage a.1 a.2.1 a.2.2 b.1 b.2.1 b.2.2 = some (decide (a = b)) := fun a b => by
          obtain ⟨a1, a2, a3⟩ := a
          obtain ⟨b1, b2, b3⟩ := b
          unfold laws_eqMessage
          by_cases h1 : a1 = b1 <;> by_cases h2 : a2 = b2 <;> by_cases h3 : a3 = b3 <;> simp [h1, h2, h3]
        rw [e, Option.bind_some]
        by_cases he : xs.getD k (0, 0, 0) = ys.getD k (0, 0, 0)
        · rw [if_neg (by simp only [he, decide_true, Bool.not_true, Bool.false_eq_true, not_false_eq_true]), if_pos he, chk_pos (by omega)]
        · rw [if_pos (by rw [decide_eq_false he]; rfl), if_neg he]
      · rw [if_neg (by omega), if_neg h]
  · rw [if_pos (by simp; omega)]
    have : xs ≠ ys := fun e => hl (by rw [e])
    simp [this]
theorem eqState_eq {r r' : Int} {vs vs' : List Int} {gs gs' : List Bool} {ms ms' : List Mg} (hv : vs.length ≤ 1000000000) (hg : gs.length ≤ 1000000000) (hm : ms.length ≤ 1000000000) :
    laws_eqState r vs gs ms r' vs' gs' ms' = some (decide (r = r' ∧ vs = vs' ∧ gs = gs' ∧ ms = ms')) := by
  unfold laws_eqState
  rw [eqIntS_eq hv, eqBoolS_eq hg, eqMessageS_eq hm]
  by_cases h1 : r = r' <;> by_cases h2 : vs = vs' <;> by_cases h3 : gs = gs' <;> by_cases h4 : ms = ms' <;> simp [h1, h2, h3, h4]
theorem markMessageS_eq {es : List Mg} {k : Int} (hx : es.length ≤ 1000000000) (h0 : 0 ≤ k) (h1 : k ≤ 10000000000) : laws_markMessageS es k = some (k + 3 * (es.length : Int), mks (mkE k) es.length) := by
  refine gives_eq.1 ?_
  unfold laws_markMessageS
  simp only [go_sem]
  refine loop_to (fun j : Nat => (k + 3 * (j : Int), (j : Int), mks (mkE k) j ++ es.drop j)) (fun j => j ≤ es.length) (fun j => es.length - j) 0 (by simp [mks]) (Nat.zero_le _) ?_
  intro j hj
  have hl : (mks (mkE k) j ++ es.drop j).length = es.length := by simp [mks_len]; omega
  simp only [laws_markMessageS_b0, go_sem, List.length_set, hl]
  refine ⟨fun hc => ?_, fun hc => ?_⟩
  · have hjl : j < (mks (mkE k) j ++ es.drop j).length := by omega
    refine ⟨by omega, by omega, by omega, by omega, by omega, by omega, by omega, j + 1, by omega, by omega, ?_⟩
    have e := mks_set (f := mkE k) (xs := es) (j := j) (by omega)
    simp only [setE hjl, setE2 hjl, List.set_set]
    rw [← e]
    refine Prod.ext (by simp only; omega) (Prod.ext (by simp only; omega) ?_)
    simp only [mkE]
    congr 1
    exact Prod.ext rfl (Prod.ext rfl (by simp only; omega))
  · rw [show j = es.length from by omega]; simp
theorem cloneI {es : List Int} (h : es.length ≤ 1000000000) : slices_Clone_int_int es = some es := by
  unfold slices_Clone_int_int both
  by_cases h0 : es.length = 0
  · have := List.eq_nil_of_length_eq_zero h0; subst this; simp [chk]
  · simp [h0]; rw [chk_pos (by omega)]
end Go.Proofs.Yteoedigfnfjopaa
