/- Forests: the way to the top, and the law on depths. -/
import Derived.Test.YtdjckcedpnabpaaDoorMe
set_option linter.unusedSimpArgs false
set_option linter.unusedVariables false
namespace Go.Proofs.YtdjckcedpnabpaaDoor
open Go Go.Av
attribute [local go_sem] gives_chk gives_ite gives_some gives_bind gives_join Sum.elim_inl Sum.elim_inr decide_eq_true_eq decide_eq_false_iff_not Bool.not_eq_true' Bool.not_eq_false' Bool.or_eq_true Bool.and_eq_true Bool.not_eq_eq_eq_not beq_iff_eq bne_iff_ne ne_eq Bool.or_eq_false_iff Bool.and_eq_false_iff Bool.not_eq_true Bool.not_eq_false Bool.not_true Bool.not_false Int.toNat_natCast beq_eq_false_iff_ne bne_eq_false_iff_eq Decidable.not_not Bool.default_bool

/-- The walk to the top: at most f looks; none where it leaves the list or does not end. -/
def endF (xs : List Int) : Nat → Int → Nat → Option (Int × Nat)
  | 0, _, _ => none
  | f + 1, v, s => if v < 0 ∨ (xs.length : Int) ≤ v then none else if xs.getD v.toNat 0 = v then some (v, s) else endF xs f (xs.getD v.toNat 0) (s + 1)
theorem endF_out {xs : List Int} {f s : Nat} {v : Int} (h : v < 0 ∨ (xs.length : Int) ≤ v) : endF xs f v s = none := by
  cases f with
  | zero => rfl
  | succ f => simp only [endF, if_pos h]
theorem endF_found {xs : List Int} {f s : Nat} {v : Int} (hf : 0 < f) (h0 : 0 ≤ v) (h1 : v < (xs.length : Int)) (he : xs.getD v.toNat 0 = v) : endF xs f v s = some (v, s) := by
  cases f with
  | zero => omega
  | succ f => simp only [endF]; rw [if_neg (by omega), if_pos he]
theorem endF_step {xs : List Int} {f f' s : Nat} {v : Int} (hf : f = f' + 1) (h0 : 0 ≤ v) (h1 : v < (xs.length : Int)) (he : ¬ xs.getD v.toNat 0 = v) : endF xs f v s = endF xs f' (xs.getD v.toNat 0) (s + 1) := by
  subst hf
  simp only [endF]; rw [if_neg (by omega), if_neg he]
theorem endF_leaves {xs : List Int} {f s : Nat} {v : Int} (h0 : 0 ≤ v) (h1 : v < (xs.length : Int)) (he : xs.getD v.toNat 0 < 0 ∨ (xs.length : Int) - 1 < xs.getD v.toNat 0) : endF xs f v s = none := by
  cases f with
  | zero => rfl
  | succ f => rw [endF_step rfl h0 h1 (by omega)]; exact endF_out (by omega)
theorem endF_in {xs : List Int} {v w : Int} : ∀ {f s d : Nat}, endF xs f v s = some (w, d) → 0 ≤ v ∧ v < (xs.length : Int) ∧ s ≤ d := by
  intro f
  induction f generalizing v with
  | zero => intro s d h; cases h
  | succ f ih =>
    intro s d h
    by_cases ho : v < 0 ∨ (xs.length : Int) ≤ v
    · rw [endF_out ho] at h; cases h
    · by_cases he : xs.getD v.toNat 0 = v
      · rw [endF_found (by omega) (by omega) (by omega) he] at h; cases h; omega
      · rw [endF_step rfl (by omega) (by omega) he] at h
        have := (ih h).2.2; omega
theorem endF_shift {xs : List Int} {v w : Int} : ∀ {f s d : Nat} (t : Nat), endF xs f v s = some (w, d) → endF xs f v (s + t) = some (w, d + t) := by
  intro f
  induction f generalizing v with
  | zero => intro s d t h; cases h
  | succ f ih =>
    intro s d t h
    by_cases ho : v < 0 ∨ (xs.length : Int) ≤ v
    · rw [endF_out ho] at h; cases h
    · by_cases he : xs.getD v.toNat 0 = v
      · rw [endF_found (by omega) (by omega) (by omega) he] at h; cases h; exact endF_found (by omega) (by omega) (by omega) he
      · rw [endF_step rfl (by omega) (by omega) he] at h ⊢
        have := ih t h; rw [show s + t + 1 = s + 1 + t from by omega]; exact this
theorem endF_back {xs : List Int} {v w : Int} : ∀ {f s d : Nat}, endF xs f v (s + 1) = some (w, d + 1) → endF xs f v s = some (w, d) := by
  intro f
  induction f generalizing v with
  | zero => intro s d h; cases h
  | succ f ih =>
    intro s d h
    by_cases ho : v < 0 ∨ (xs.length : Int) ≤ v
    · rw [endF_out ho] at h; cases h
    · by_cases he : xs.getD v.toNat 0 = v
      · rw [endF_found (by omega) (by omega) (by omega) he] at h; cases h; exact endF_found (by omega) (by omega) (by omega) he
      · rw [endF_step rfl (by omega) (by omega) he] at h ⊢
        exact ih h
theorem endF_more {xs : List Int} {v : Int} {r : Int × Nat} : ∀ {f s : Nat}, endF xs f v s = some r → endF xs (f + 1) v s = some r := by
  intro f
  induction f generalizing v with
  | zero => intro s h; cases h
  | succ f ih =>
    intro s h
    by_cases ho : v < 0 ∨ (xs.length : Int) ≤ v
    · rw [endF_out ho] at h; cases h
    · by_cases he : xs.getD v.toNat 0 = v
      · rw [endF_found (by omega) (by omega) (by omega) he] at h ⊢; exact h
      · rw [endF_step rfl (by omega) (by omega) he] at h ⊢
        exact ih h
def depthF (xs : List Int) (v : Int) : Int := if 16 < xs.length then -1 else match endF xs (xs.length + 1) v 0 with | some r => r.2 | none => -1
theorem depthF_big {xs : List Int} {v : Int} (h : (16 : Int) < xs.length) : depthF xs v = -1 := by unfold depthF; rw [if_pos (by omega)]
theorem depthF_none {xs : List Int} {v : Int} (h : (xs.length : Int) ≤ 16) (he : endF xs (xs.length + 1) v 0 = none) : depthF xs v = -1 := by unfold depthF; rw [if_neg (by omega), he]
theorem depthF_some {xs : List Int} {v : Int} {r : Int × Nat} (h : (xs.length : Int) ≤ 16) (he : endF xs (xs.length + 1) v 0 = some r) : depthF xs v = r.2 := by unfold depthF; rw [if_neg (by omega), he]
def endV : Option (Int × Nat) → Int × Int × Bool
  | some r => (r.1, r.2, true)
  | none => (0, 0, false)
/-! A depth is below the number of vertices. -/
theorem pigeon (f : Nat → Nat) : ∀ (n : Nat) (l : List Nat), l.Nodup → (∀ k ∈ l, ∃ v, v < n ∧ f v = k) → l.length ≤ n
  | 0, l, _, h => by
    cases l with
    | nil => exact Nat.le_refl _
    | cons a l => obtain ⟨v, hv, _⟩ := h a List.mem_cons_self; omega
  | n + 1, l, hn, h => by
    have h2 := pigeon f n (l.erase (f n)) (hn.erase _) (fun k hk => by
      have h3 := (List.Nodup.mem_erase_iff hn).1 hk
      obtain ⟨v, hv, e⟩ := h k h3.2
      refine ⟨v, ?_, e⟩
      rcases Nat.lt_or_ge v n with h4 | h4
      · exact h4
      · exact absurd (by rw [← e, show v = n from by omega]) h3.1)
    have h5 : l.length ≤ (l.erase (f n)).length + 1 := by
      rw [List.length_erase]; split <;> omega
    omega
theorem step_depth {xs : List Int} {v w : Int} {d : Nat} (h : endF xs (xs.length + 1) v 0 = some (w, d + 1)) : ¬ xs.getD v.toNat 0 = v ∧ endF xs (xs.length + 1) (xs.getD v.toNat 0) 0 = some (w, d) := by
  have hi := endF_in h
  by_cases he : xs.getD v.toNat 0 = v
  · rw [endF_found (by omega) (by omega) (by omega) he] at h; cases h
  · refine ⟨he, ?_⟩
    rw [endF_step rfl (by omega) (by omega) he] at h
    exact endF_more (endF_back h)
theorem zero_depth {xs : List Int} {v w : Int} (h : endF xs (xs.length + 1) v 0 = some (w, 0)) : xs.getD v.toNat 0 = v := by
  have hi := endF_in h
  by_cases he : xs.getD v.toNat 0 = v
  · exact he
  · rw [endF_step rfl (by omega) (by omega) he] at h
    have := (endF_in h).2.2; omega
theorem all_depths {xs : List Int} {w : Int} : ∀ (d : Nat) (v : Int), endF xs (xs.length + 1) v 0 = some (w, d) → ∀ k, k ≤ d → ∃ u : Nat, u < xs.length ∧ endF xs (xs.length + 1) u 0 = some (w, k)
  | d, v, h, k, hk => by
    by_cases hd : k = d
    · subst hd
      have hi := endF_in h
      exact ⟨v.toNat, by omega, by rw [show ((v.toNat : Nat) : Int) = v from by omega]; exact h⟩
    · cases d with
      | zero => omega
      | succ d => exact all_depths d _ (step_depth h).2 k (by omega)
theorem depth_lt {xs : List Int} {v w : Int} {d : Nat} (h : endF xs (xs.length + 1) v 0 = some (w, d)) : d < xs.length := by
  have := pigeon (fun u => ((endF xs (xs.length + 1) (u : Int) 0).getD (0, 0)).2) xs.length (List.range (d + 1)) List.nodup_range (fun k hk => by
    obtain ⟨u, h1, h2⟩ := all_depths d v h k (by have := List.mem_range.1 hk; omega)
    exact ⟨u, h1, by simp only [h2, Option.getD_some]⟩)
  rw [List.length_range] at this; omega
/-! A forest that is drawn: its length alone. -/
def neg (l : List Int) : Nat := l.countP (· < 0)
theorem neg_set {l : List Int} {x : Int} (hx : 0 ≤ x) : ∀ {i : Nat}, i < l.length → l.getD i 0 < 0 → neg (l.set i x) + 1 = neg l := by
  induction l with
  | nil => intro i hi; simp at hi
  | cons a l ih =>
    intro i hi h
    cases i with
    | zero =>
      simp only [List.getD_cons_zero] at h
      simp only [neg, List.set_cons_zero, List.countP_cons, decide_eq_true_eq, if_pos h, if_neg (show ¬ x < 0 by omega)]
      try omega
    | succ i =>
      simp only [List.getD_cons_succ] at h
      have := ih (i := i) (by simpa using hi) h
      simp only [neg] at this
      simp only [neg, List.set_cons_succ, List.countP_cons]
      omega
theorem neg_le (l : List Int) : neg l ≤ l.length := List.countP_le_length
def Inn (n : Int) (l : List Int) : Prop := ∀ k, k < l.length → 0 ≤ l.getD k 0 ∧ l.getD k 0 < n
theorem Inn.snoc {n x : Int} {l : List Int} (h : Inn n l) (hx : 0 ≤ x ∧ x < n) : Inn n (l ++ [x]) := by
  intro k hk
  simp only [List.length_append, List.length_cons, List.length_nil] at hk
  by_cases h1 : k < l.length
  · rw [show (l ++ [x]).getD k 0 = l.getD k 0 from by simp only [List.getD_eq_getElem?_getD, List.getElem?_append_left h1]]; exact h k h1
  · rw [show (l ++ [x]).getD k 0 = x from by simp only [List.getD_eq_getElem?_getD]; rw [List.getElem?_append_right (by omega), show k - l.length = 0 from by omega]; rfl]; exact hx
end Go.Proofs.YtdjckcedpnabpaaDoor
