/- What the functions taken out compute: colors and orders. -/
import Derived.Test.YtdjckcedpnabpaaDoorMa
set_option linter.unusedSimpArgs false
set_option linter.unusedVariables false
namespace Go.Proofs.YtdjckcedpnabpaaDoor
open Go Go.Av
attribute [local go_sem] gives_chk gives_ite gives_some gives_bind gives_join Sum.elim_inl Sum.elim_inr decide_eq_true_eq decide_eq_false_iff_not Bool.not_eq_true' Bool.not_eq_false' Bool.or_eq_true Bool.and_eq_true Bool.not_eq_eq_eq_not beq_iff_eq bne_iff_ne ne_eq Bool.or_eq_false_iff Bool.and_eq_false_iff Bool.not_eq_true Bool.not_eq_false Bool.not_true Bool.not_false Int.toNat_natCast beq_eq_false_iff_ne bne_eq_false_iff_eq Decidable.not_not Bool.default_bool

open Classical in
/-- A loop that goes on as long as p holds. -/
theorem loop_scan {S X : Type} {N : Nat} {p : Nat → Prop} (st : Nat → S) (x y : X) {body : S → Option (S ⊕ X)}
    (hb : ∀ k, k ≤ N → (∀ j, j < k → p j) → body (st k) = if k < N then (if p k then some (.inl (st (k + 1))) else some (.inr y)) else some (.inr x)) :
    loop body (st 0) = some (if ∀ k, k < N → p k then x else y) := by
  refine gives_eq.1 ?_
  refine gives_loop st (fun k => k ≤ N ∧ ∀ j, j < k → p j) (fun k => N - k) ?_ 0 ⟨Nat.zero_le _, fun j hj => absurd hj (by omega)⟩
  intro k hs
  rw [hb k hs.1 hs.2]
  split
  · rename_i h
    split
    · rename_i he
      refine gives_some.2 ⟨k + 1, ⟨by omega, fun j hj => ?_⟩, by omega, rfl⟩
      by_cases hjk : j = k
      · subst hjk; exact he
      · exact hs.2 j (by omega)
    · rename_i he
      refine gives_some.2 ?_
      rw [if_neg]; intro e; exact he (e k h)
  · refine gives_some.2 ?_
    rw [if_pos (fun j hj => hs.2 j (by omega))]
theorem of_gokb {n : Int} {es : List (Int × Int × Int)} {q : Prop} (h : ¬ (gok n es = false ∨ ¬ q)) : GOk n es ∧ q := by
  cases hg : gok n es
  · exact absurd (.inl hg) h
  · exact ⟨of_gok hg, Classical.byContradiction fun hq => h (.inr hq)⟩

/-! Colors. -/
def ColOk (n : Int) (es : List (Int × Int × Int)) (cs : List Int) : Prop := GOk n es ∧ (cs.length : Int) = n ∧ (∀ k, k < cs.length → 0 ≤ cs.getD k 0) ∧
  ∀ k, k < es.length → ¬ cs.getD (es.getD k (0, 0, 0)).1.toNat 0 = cs.getD (es.getD k (0, 0, 0)).2.1.toNat 0
open Classical in
noncomputable def yes (p : Prop) : Bool := decide p
theorem yes_true {p : Prop} (h : p) : yes p = true := by simp [yes, h]
theorem yes_false {p : Prop} (h : ¬ p) : yes p = false := by simp [yes, h]
noncomputable def colOk (n : Int) (es : List (Int × Int × Int)) (cs : List Int) : Bool := yes (ColOk n es cs)
/-! Orders. -/
/-- The places after k entries of an order. -/
def plF (n : Int) (os : List Int) : Nat → List Int
  | 0 => List.replicate n.toNat (-1)
  | k + 1 => (plF n os k).set (os.getD k 0).toNat (k : Int)
def PlOk (n : Int) (os : List Int) (k : Nat) : Prop := 0 ≤ os.getD k 0 ∧ os.getD k 0 < n ∧ (plF n os k).getD (os.getD k 0).toNat 0 = -1
theorem plF_len (n : Int) (os : List Int) : ∀ k, (plF n os k).length = n.toNat
  | 0 => by simp [plF]
  | k + 1 => by simp [plF, plF_len n os k]
theorem plF_val {n : Int} {os : List Int} : ∀ (k i : Nat), i < n.toNat → (plF n os k).getD i 0 = -1 ∨ 0 ≤ (plF n os k).getD i 0
  | 0, i, hi => by left; simp [plF, hi]
  | k + 1, i, hi => by
    have ih := plF_val (n := n) (os := os) k i hi
    simp only [plF]
    by_cases hh : (os.getD k 0).toNat < n.toNat
    · rw [getD_set _ _ _ _ _ (by rw [plF_len]; exact hh)]
      split
      · right; omega
      · exact ih
    · rw [List.set_eq_of_length_le (by rw [plF_len]; omega)]; exact ih
def OrdOk (n : Int) (es : List (Int × Int × Int)) (os : List Int) : Prop := GOk n es ∧ (os.length : Int) = n ∧ (∀ k, k < os.length → PlOk n os k) ∧
  ∀ k, k < es.length → (plF n os os.length).getD (es.getD k (0, 0, 0)).1.toNat 0 < (plF n os os.length).getD (es.getD k (0, 0, 0)).2.1.toNat 0
noncomputable def ordOk (n : Int) (es : List (Int × Int × Int)) (os : List Int) : Bool := yes (OrdOk n es os)
end Go.Proofs.YtdjckcedpnabpaaDoor
