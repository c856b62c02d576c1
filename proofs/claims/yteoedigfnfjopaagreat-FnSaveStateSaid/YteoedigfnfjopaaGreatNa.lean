import Derived.Test.YteoedigfnfjopaaGreatMm
set_option linter.unusedSimpArgs false
set_option linter.unusedVariables false
namespace Go.Proofs.YteoedigfnfjopaaGreat
open Go Go.Av
attribute [local go_sem] gives_chk gives_ite gives_some gives_bind gives_join Sum.elim_inl Sum.elim_inr decide_eq_true_eq decide_eq_false_iff_not Bool.not_eq_true' Bool.not_eq_false' Bool.or_eq_true Bool.and_eq_true Bool.not_eq_eq_eq_not beq_iff_eq bne_iff_ne ne_eq Bool.or_eq_false_iff Bool.and_eq_false_iff Bool.not_eq_true Bool.not_eq_false Bool.not_true Bool.not_false Int.toNat_natCast beq_eq_false_iff_ne bne_eq_false_iff_eq Decidable.not_not Bool.default_bool
def ltE (x y : Int × Int × Int) : Prop := x.1 < y.1 ∨ x.1 = y.1 ∧ x.2.1 < y.2.1
theorem ltE.trans {x y z : Int × Int × Int} (h : ltE x y) (k : ltE y z) : ltE x z := by unfold ltE at *; omega
theorem getE {es : List (Int × Int × Int)} {k : Nat} (h : k < es.length) : es.getD k (0, 0, 0) = es[k] := by
 rw [List.getD_eq_getElem?_getD, List.getElem?_eq_getElem h]; rfl
def dfE (x y : Int × Int × Int) : Prop := ¬ (x.1 = y.1 ∧ x.2.1 = y.2.1)
end Go.Proofs.YteoedigfnfjopaaGreat
