/- Colors: numbers of bits, degrees, the law. -/
import Derived.Test.YtbdncdmkogbdhaaMk
set_option linter.unusedSimpArgs false
set_option linter.unusedVariables false
namespace Go.Proofs.Ytbdncdmkogbdhaa
open Go Go.Av
attribute [local go_sem] gives_chk gives_ite gives_some gives_bind gives_join Sum.elim_inl Sum.elim_inr decide_eq_true_eq decide_eq_false_iff_not Bool.not_eq_true' Bool.not_eq_false' Bool.or_eq_true Bool.and_eq_true Bool.not_eq_eq_eq_not beq_iff_eq bne_iff_ne ne_eq Bool.or_eq_false_iff Bool.and_eq_false_iff Bool.not_eq_true Bool.not_eq_false Bool.not_true Bool.not_false Int.toNat_natCast beq_eq_false_iff_ne bne_eq_false_iff_eq Decidable.not_not Bool.default_bool

theorem sameInts_self {xs : List Int} (hx : xs.length ≤ 1000000000) : laws_sameInts xs xs = some true := by
  unfold laws_sameInts
  rw [if_neg (by simp), gives_same (xs := xs) (ys := xs) (d := 0) rfl (fun k hk => by
    simp only [laws_sameInts_b0, Int.toNat_natCast]
    by_cases h : k < xs.length
    · rw [if_pos (by simpa using h), chk_pos (by omega), chk_pos (by omega), if_neg (by simp), chk_pos (by omega), if_pos h, if_pos trivial]
    · rw [if_neg (by simpa using h), if_neg h]), if_pos rfl]
  rfl
end Go.Proofs.Ytbdncdmkogbdhaa
