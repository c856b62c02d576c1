/- Ways of edges, and hops. -/
import Derived.Test.YtmcdlohjjbmimaaMr
import Derived.Test.YtmcdlohjjbmimaaNb
set_option linter.unusedSimpArgs false
set_option linter.unusedVariables false
namespace Go.Proofs.Ytmcdlohjjbmimaa
open Go Go.Av
attribute [local go_sem] gives_chk gives_ite gives_some gives_bind gives_join Sum.elim_inl Sum.elim_inr decide_eq_true_eq decide_eq_false_iff_not Bool.not_eq_true' Bool.not_eq_false' Bool.or_eq_true Bool.and_eq_true Bool.not_eq_eq_eq_not beq_iff_eq bne_iff_ne ne_eq Bool.or_eq_false_iff Bool.and_eq_false_iff Bool.not_eq_true Bool.not_eq_false Bool.not_true Bool.not_false Int.toNat_natCast beq_eq_false_iff_ne bne_eq_false_iff_eq Decidable.not_not Bool.default_bool

/-- A way of k steps. -/
def Wk (R : Nat → Nat → Prop) : Nat → Nat → Nat → Prop
  | 0, a, b => a = b
  | k + 1, a, b => ∃ c, Wk R k a c ∧ R c b
/-- The least number of steps, -1 for none. -/
def HopV (R : Nat → Nat → Prop) (s v : Nat) (x : Int) : Prop := (∃ k : Nat, x = (k : Int) ∧ Wk R k s v ∧ ∀ j, j < k → ¬ Wk R j s v) ∨ (x = -1 ∧ ∀ k, ¬ Wk R k s v)
theorem HopV.uniq {R : Nat → Nat → Prop} {s v : Nat} {x y : Int} (h : HopV R s v x) (g : HopV R s v y) : x = y := by
  rcases h with ⟨k, h1, h2, h3⟩ | ⟨h1, h2⟩ <;> rcases g with ⟨j, g1, g2, g3⟩ | ⟨g1, g2⟩
  · rcases Nat.lt_trichotomy k j with h | h | h
    · exact absurd h2 (g3 k h)
    · omega
    · exact absurd g2 (h3 j h)
  · exact absurd h2 (g2 k)
  · exact absurd g2 (h2 j)
  · omega
def HopL (n : Nat) (R : Nat → Nat → Prop) (s : Nat) (d : List Int) : Prop := d.length = n ∧ ∀ v, v < n → HopV R s v (d.getD v 0)
theorem HopL.uniq {n s : Nat} {R : Nat → Nat → Prop} {d e : List Int} (h : HopL n R s d) (g : HopL n R s e) : d = e :=
  list_eq_of (d := 0) (by rw [h.1, g.1]) fun v hv => (h.2 v (by rw [← h.1]; exact hv)).uniq (g.2 v (by rw [← h.1]; exact hv))

end Go.Proofs.Ytmcdlohjjbmimaa
