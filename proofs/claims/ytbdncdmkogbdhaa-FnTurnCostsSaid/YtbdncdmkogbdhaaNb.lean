/- Graphs turned twice. -/
import Derived.Test.YtbdncdmkogbdhaaNa
set_option linter.unusedSimpArgs false
set_option linter.unusedVariables false
namespace Go.Proofs.Ytbdncdmkogbdhaa
open Go Go.Av
attribute [local go_sem] gives_chk gives_ite gives_some gives_bind gives_join Sum.elim_inl Sum.elim_inr decide_eq_true_eq decide_eq_false_iff_not Bool.not_eq_true' Bool.not_eq_false' Bool.or_eq_true Bool.and_eq_true Bool.not_eq_eq_eq_not beq_iff_eq bne_iff_ne ne_eq Bool.or_eq_false_iff Bool.and_eq_false_iff Bool.not_eq_true Bool.not_eq_false Bool.not_true Bool.not_false Int.toNat_natCast beq_eq_false_iff_ne bne_eq_false_iff_eq Decidable.not_not Bool.default_bool

theorem turnF_turnF {n : Int} {es : List (Int × Int × Int)} (hg : GOk n es) : turnF (turnF es) = es := by
  have hP := (gok_iff.1 hg).2.2.2.2
  refine ltE_uniq (turnF_asc (turnF_asc hP)) hP ((turnF_perm _).trans (((turnF_perm es).map sw).trans ?_))
  have h : (es.map sw).map sw = es := by
    rw [List.map_map]
    have : sw ∘ sw = id := by funext x; rfl
    rw [this, List.map_id]
  rw [h]
end Go.Proofs.Ytbdncdmkogbdhaa
