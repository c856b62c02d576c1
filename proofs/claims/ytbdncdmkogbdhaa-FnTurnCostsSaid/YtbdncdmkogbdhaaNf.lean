/- Orders in which edges lead forwards, and graphs turned. -/
import Derived.Test.YtbdncdmkogbdhaaMq
import Derived.Test.YtbdncdmkogbdhaaNb
set_option linter.unusedSimpArgs false
set_option linter.unusedVariables false
namespace Go.Proofs.Ytbdncdmkogbdhaa
open Go Go.Av
attribute [local go_sem] gives_chk gives_ite gives_some gives_bind gives_join Sum.elim_inl Sum.elim_inr decide_eq_true_eq decide_eq_false_iff_not Bool.not_eq_true' Bool.not_eq_false' Bool.or_eq_true Bool.and_eq_true Bool.not_eq_eq_eq_not beq_iff_eq bne_iff_ne ne_eq Bool.or_eq_false_iff Bool.and_eq_false_iff Bool.not_eq_true Bool.not_eq_false Bool.not_true Bool.not_false Int.toNat_natCast beq_eq_false_iff_ne bne_eq_false_iff_eq Decidable.not_not Bool.default_bool

/-- All vertices once, edges lead to later ones. -/
def OrdC (n : Int) (es : List (Int × Int × Int)) (os : List Int) : Prop := GOk n es ∧ (os.length : Int) = n ∧ (∀ k, k < os.length → 0 ≤ os.getD k 0 ∧ os.getD k 0 < n) ∧ (∀ i j, i < j → j < os.length → ¬ os.getD i 0 = os.getD j 0) ∧
  ∀ e ∈ es, ∀ i j, i < os.length → j < os.length → os.getD i 0 = e.1 → os.getD j 0 = e.2.1 → i < j
theorem rev_get {os : List Int} {k : Nat} (hk : k < os.length) : os.reverse.getD k 0 = os.getD (os.length - 1 - k) 0 := by
  rw [List.getD_eq_getElem?_getD, List.getD_eq_getElem?_getD, List.getElem?_reverse hk]
theorem OrdC.turn {n : Int} {es : List (Int × Int × Int)} {os : List Int} (h : OrdC n es os) : OrdC n (turnF es) os.reverse := by
  obtain ⟨hg, hl, h1, h2, h3⟩ := h
  refine ⟨turnF_ok hg, by simpa using hl, fun k hk => ?_, fun i j hij hj he => ?_, fun e he i j hi hj e1 e2 => ?_⟩
  · rw [List.length_reverse] at hk
    rw [rev_get hk]
    exact h1 _ (by omega)
  · rw [List.length_reverse] at hj
    rw [rev_get (by omega), rev_get hj] at he
    exact h2 _ _ (show os.length - 1 - j < os.length - 1 - i by omega) (by omega) he.symm
  · rw [List.length_reverse] at hi hj
    rw [rev_get hi] at e1
    rw [rev_get hj] at e2
    obtain ⟨x, hx, rfl⟩ := List.mem_map.1 ((turnF_perm es).mem_iff.1 he)
    have := h3 x hx _ _ (show os.length - 1 - j < os.length by omega) (show os.length - 1 - i < os.length by omega) e2 e1
    omega
end Go.Proofs.Ytbdncdmkogbdhaa
