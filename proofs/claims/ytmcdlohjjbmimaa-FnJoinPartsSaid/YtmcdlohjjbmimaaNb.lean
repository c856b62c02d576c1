/- Graphs turned twice. -/
import Derived.Test.YtmcdlohjjbmimaaNa
set_option linter.unusedSimpArgs false
set_option linter.unusedVariables false
namespace Go.Proofs.Ytmcdlohjjbmimaa
open Go Go.Av
attribute [local go_sem] gives_chk gives_ite gives_some gives_bind gives_join Sum.elim_inl Sum.elim_inr decide_eq_true_eq decide_eq_false_iff_not Bool.not_eq_true' Bool.not_eq_false' Bool.or_eq_true Bool.and_eq_true Bool.not_eq_eq_eq_not beq_iff_eq bne_iff_ne ne_eq Bool.or_eq_false_iff Bool.and_eq_false_iff Bool.not_eq_true Bool.not_eq_false Bool.not_true Bool.not_false Int.toNat_natCast beq_eq_false_iff_ne bne_eq_false_iff_eq Decidable.not_not Bool.default_bool

theorem sameGraph_self {n : Int} {es : List (Int × Int × Int)} (hl : es.length ≤ 1000000000) : laws_sameGraph n es n es = some true := by
  unfold laws_sameGraph
  rw [if_neg (by simp)]
  refine gives_eq.1 ?_
  rw [gives_bind]
  refine (gives_loop (Q := fun r : Unit ⊕ Unit => r = .inl ()) (body := laws_sameGraph_b0 es es) (fun k : Nat => (k : Int)) (fun k => k ≤ es.length) (fun k => es.length - k) ?_ 0 (Nat.zero_le _)).mono ?_
  · intro k hk
    unfold laws_sameGraph_b0
    rw [gives_ite]
    refine ⟨fun hc => ?_, fun _ => gives_some.2 rfl⟩
    simp only [decide_eq_true_eq] at hc
    rw [gives_chk, gives_chk, if_neg (by simp), gives_chk]
    exact ⟨by omega, by omega, by omega, gives_some.2 ⟨k + 1, by omega, by omega, by omega⟩⟩
  · rintro _ rfl
    exact gives_some.2 rfl
end Go.Proofs.Ytmcdlohjjbmimaa
