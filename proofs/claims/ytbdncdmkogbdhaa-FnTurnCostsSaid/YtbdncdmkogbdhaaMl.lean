/- Orders in which edges lead forwards. -/
import Derived.Test.YtbdncdmkogbdhaaMk
set_option linter.unusedSimpArgs false
set_option linter.unusedVariables false
namespace Go.Proofs.Ytbdncdmkogbdhaa
open Go Go.Av
attribute [local go_sem] gives_chk gives_ite gives_some gives_bind gives_join Sum.elim_inl Sum.elim_inr decide_eq_true_eq decide_eq_false_iff_not Bool.not_eq_true' Bool.not_eq_false' Bool.or_eq_true Bool.and_eq_true Bool.not_eq_eq_eq_not beq_iff_eq bne_iff_ne ne_eq Bool.or_eq_false_iff Bool.and_eq_false_iff Bool.not_eq_true Bool.not_eq_false Bool.not_true Bool.not_false Int.toNat_natCast beq_eq_false_iff_ne bne_eq_false_iff_eq Decidable.not_not Bool.default_bool

def natL (o : List Nat) : List Int := o.map fun j : Nat => (j : Int)
/-- No edge leads to v from outside, and it is not in yet. -/
def Rdy (es : List (Int × Int × Int)) (o : List Nat) (v : Nat) : Prop := v ∉ o ∧ ∀ k, k < es.length → (es.getD k (0, 0, 0)).2.1 = (v : Int) → (es.getD k (0, 0, 0)).1 ∈ natL o
def FW (n : Nat) (es : List (Int × Int × Int)) (o : List Nat) : Prop := ∀ k, k < o.length → o.getD k 0 < n ∧ Rdy es (o.take k) (o.getD k 0) ∧ ∀ u, u < o.getD k 0 → ¬ Rdy es (o.take k) u
def FWE (n : Nat) (es : List (Int × Int × Int)) (o : List Nat) : Prop := FW n es o ∧ ∀ v, v < n → ¬ Rdy es o v
theorem getD_lt {α : Type} {l : List α} {k : Nat} {d : α} (h : k < l.length) : l.getD k d = l[k] := by simp [List.getD_eq_getElem?_getD, h]
theorem FW.nodup {n : Nat} {es : List (Int × Int × Int)} {o : List Nat} (h : FW n es o) : o.Nodup := by
  rw [List.nodup_iff_pairwise_ne, List.pairwise_iff_getElem]
  intro i j hi hj hij he
  have h1 := (h j hj).2.1.1
  rw [getD_lt hj] at h1
  exact h1 (he ▸ List.mem_take_iff_getElem.2 ⟨i, by omega, rfl⟩)
theorem FW.lt {n : Nat} {es : List (Int × Int × Int)} {o : List Nat} (h : FW n es o) {v : Nat} (hv : v ∈ o) : v < n := by
  obtain ⟨i, hi, he⟩ := List.mem_iff_getElem.1 hv
  have := (h i hi).1
  rw [getD_lt hi, he] at this
  exact this
theorem FW.len {n : Nat} {es : List (Int × Int × Int)} {o : List Nat} (h : FW n es o) : o.length ≤ n := pigeon (fun v => v) n o h.nodup fun k hk => ⟨k, h.lt hk, rfl⟩
theorem FWE.uniq {n : Nat} {es : List (Int × Int × Int)} {a b : List Nat} (ha : FWE n es a) (hb : FWE n es b) : a = b := by
  have key : ∀ k, k ≤ a.length → k ≤ b.length → a.take k = b.take k := by
    intro k
    induction k with
    | zero => intros; simp
    | succ k ih =>
      intro h1 h2
      have e := ih (by omega) (by omega)
      obtain ⟨_, p2, p3⟩ := ha.1 k (by omega)
      obtain ⟨_, q2, q3⟩ := hb.1 k (by omega)
      have hv : a.getD k 0 = b.getD k 0 := by
        rcases Nat.lt_trichotomy (a.getD k 0) (b.getD k 0) with hl | hl | hl
        · exact absurd (e ▸ p2) (q3 _ hl)
        · exact hl
        · exact absurd (e ▸ q2) (p3 _ hl)
      rw [getD_lt (by omega), getD_lt (by omega)] at hv
      rw [List.take_succ_eq_append_getElem (by omega), List.take_succ_eq_append_getElem (by omega), e, hv]
  rcases Nat.lt_trichotomy a.length b.length with hl | hl | hl
  · obtain ⟨p1, p2, _⟩ := hb.1 a.length hl
    rw [← key a.length (Nat.le_refl _) (by omega), List.take_length] at p2
    exact absurd p2 (ha.2 _ p1)
  · have := key a.length (Nat.le_refl _) (by omega)
    rw [List.take_length] at this
    rw [this, hl, List.take_length]
  · obtain ⟨p1, p2, _⟩ := ha.1 b.length hl
    rw [key b.length (by omega) (Nat.le_refl _), List.take_length] at p2
    exact absurd p2 (hb.2 _ p1)
end Go.Proofs.Ytbdncdmkogbdhaa
