/- Forests as they are made: both sides do the same steps. -/
import Derived.Test.YtbdncdmkogbdhaaMk
set_option linter.unusedSimpArgs false
set_option linter.unusedVariables false
namespace Go.Proofs.Ytbdncdmkogbdhaa
open Go Go.Av
attribute [local go_sem] gives_chk gives_ite gives_some gives_bind gives_join Sum.elim_inl Sum.elim_inr decide_eq_true_eq decide_eq_false_iff_not Bool.not_eq_true' Bool.not_eq_false' Bool.or_eq_true Bool.and_eq_true Bool.not_eq_eq_eq_not beq_iff_eq bne_iff_ne ne_eq Bool.or_eq_false_iff Bool.and_eq_false_iff Bool.not_eq_true Bool.not_eq_false Bool.not_true Bool.not_false Int.toNat_natCast beq_eq_false_iff_ne bne_eq_false_iff_eq Decidable.not_not Bool.default_bool

def Mm (ps : List Int) : Prop := ∀ k, k < ps.length → ps.getD k 0 = -1 ∨ 0 ≤ ps.getD k 0
theorem Mm.set {ps : List Int} {v : Int} {i : Nat} (h : Mm ps) (hv : 0 ≤ v) (hi : i < ps.length) : Mm (ps.set i v) := by
  intro k hk
  rw [List.length_set] at hk
  rw [getD_set _ _ _ _ _ hi]
  split
  · exact .inr hv
  · exact h k hk
theorem Inn.cons {n v : Int} {q : List Int} (h : Inn n (v :: q)) : (0 ≤ v ∧ v < n) ∧ Inn n q := by
  refine ⟨by have := h 0 (by simp); simpa using this, fun k hk => ?_⟩
  have := h (k + 1) (by simpa using hk)
  simpa using this
end Go.Proofs.Ytbdncdmkogbdhaa
