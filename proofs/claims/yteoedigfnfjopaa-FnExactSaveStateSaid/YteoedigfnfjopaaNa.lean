/- Graphs turned. -/
import Derived.Test.YteoedigfnfjopaaMm
set_option linter.unusedSimpArgs false
set_option linter.unusedVariables false
namespace Go.Proofs.Yteoedigfnfjopaa
open Go Go.Av
attribute [local go_sem] gives_chk gives_ite gives_some gives_bind gives_join Sum.elim_inl Sum.elim_inr decide_eq_true_eq decide_eq_false_iff_not Bool.not_eq_true' Bool.not_eq_false' Bool.or_eq_true Bool.and_eq_true Bool.not_eq_eq_eq_not beq_iff_eq bne_iff_ne ne_eq Bool.or_eq_false_iff Bool.and_eq_false_iff Bool.not_eq_true Bool.not_eq_false Bool.not_true Bool.not_false Int.toNat_natCast beq_eq_false_iff_ne bne_eq_false_iff_eq Decidable.not_not Bool.default_bool

def ltE (x y : Int × Int × Int) : Prop := x.1 < y.1 ∨ x.1 = y.1 ∧ x.2.1 < y.2.1
theorem ltE.trans {x y z : Int × Int × Int} (h : ltE x y) (k : ltE y z) : ltE x z := by unfold ltE at *; omega
def dfE (x y : Int × Int × Int) : Prop := ¬ (x.1 = y.1 ∧ x.2.1 = y.2.1)
/-! The reference inserts edge by edge. -/
/-! The law. -/
def mkE (k : Int) (j : Nat) : Int × Int × Int := (k + 3 * (j : Int), k + 3 * (j : Int) + 1, k + 3 * (j : Int) + 2)
theorem setE {L : List (Int × Int × Int)} {j : Nat} (h : j < L.length) {x : Int × Int × Int} : (L.set j x).getD j (0, 0, 0) = x := by
  rw [getD_set _ _ _ _ _ h, if_pos rfl]
theorem setE2 {L : List (Int × Int × Int)} {j : Nat} (h : j < L.length) {x y : Int × Int × Int} : ((L.set j x).set j y).getD j (0, 0, 0) = y := setE (by rw [List.length_set]; exact h)
end Go.Proofs.Yteoedigfnfjopaa
