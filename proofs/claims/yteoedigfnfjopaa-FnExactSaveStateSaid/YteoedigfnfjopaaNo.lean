/- Messages: their order, sorting, and states. -/
import Derived.Test.YteoedigfnfjopaaNa
set_option linter.unusedSimpArgs false
set_option linter.unusedVariables false
namespace Go.Proofs.Yteoedigfnfjopaa
open Go Go.Av
attribute [local go_sem] gives_chk gives_ite gives_some gives_bind gives_join Sum.elim_inl Sum.elim_inr decide_eq_true_eq decide_eq_false_iff_not Bool.not_eq_true' Bool.not_eq_false' Bool.or_eq_true Bool.and_eq_true Bool.not_eq_eq_eq_not beq_iff_eq bne_iff_ne ne_eq Bool.or_eq_false_iff Bool.and_eq_false_iff Bool.not_eq_true Bool.not_eq_false Bool.not_true Bool.not_false Int.toNat_natCast beq_eq_false_iff_ne bne_eq_false_iff_eq Decidable.not_not Bool.default_bool
abbrev Mg := Int × Int × Int

/-- The order of messages. -/
def ltM (x y : Mg) : Prop := x.1 < y.1 ∨ x.1 = y.1 ∧ (x.2.1 < y.2.1 ∨ x.2.1 = y.2.1 ∧ x.2.2 < y.2.2)
instance (x y : Mg) : Decidable (ltM x y) := by unfold ltM; infer_instance
def leM (x y : Mg) : Prop := ¬ ltM y x
instance (x y : Mg) : Decidable (leM x y) := by unfold leM; infer_instance
theorem leM.refl (x : Mg) : leM x x := by unfold leM ltM; omega
theorem leM.trans {x y z : Mg} (h : leM x y) (k : leM y z) : leM x z := by unfold leM ltM at *; omega
theorem gDM {xs : List Mg} {k : Nat} (h : k < xs.length) : xs.getD k (0, 0, 0) = xs[k] := by
  rw [List.getD_eq_getElem?_getD, List.getElem?_eq_getElem h]; rfl
theorem srt_iff {xs : List Mg} : xs.Pairwise leM ↔ ∀ k, k < xs.length → 0 < k → leM (xs.getD (k - 1) (0, 0, 0)) (xs.getD k (0, 0, 0)) := by
  constructor
  · intro h k hk h0
    rw [gDM hk, gDM (show k - 1 < xs.length by omega)]
    exact List.pairwise_iff_getElem.1 h (k - 1) k (by omega) hk (by omega)
  · intro h
    rw [List.pairwise_iff_getElem]
    have step : ∀ d i (hh : i + d + 1 < xs.length), leM (xs[i]'(by omega)) xs[i + d + 1] := by
      intro d
      induction d with
      | zero =>
        intro i hh
        have h5 := h (i + 1) hh (by omega)
        rw [Nat.add_sub_cancel, gDM (by omega), gDM hh] at h5
        exact h5
      | succ d ih =>
        intro i hh
        have h5 := h (i + (d + 1) + 1) hh (by omega)
        rw [Nat.add_sub_cancel, gDM (by omega), gDM hh] at h5
        exact (ih i (by omega)).trans h5
    intro i j hi hj hij
    have := step (j - i - 1) i (by omega)
    simp only [show i + (j - i - 1) + 1 = j by omega] at this
    exact this

theorem l9_eq (a b : Mg) : spec_l9Before a.1 a.2.1 a.2.2 b.1 b.2.1 b.2.2 = some (decide (ltM a b)) := by
  unfold spec_l9Before ltM
  by_cases h1 : a.1 = b.1
  · rw [if_neg (by simpa using h1)]
    by_cases h2 : a.2.1 = b.2.1
    · rw [if_neg (by simpa using h2)]
      simp [h1, h2]
    · rw [if_pos (by simpa using h2)]
      simp [h1, h2]
  · rw [if_pos (by simpa using h1)]
    simp [h1]

end Go.Proofs.Yteoedigfnfjopaa
