/- Several texts in one. -/
import Derived.Test.YteoedigfnfjopaaLaD
section
/- What the functions taken out compute: valid graphs, cuts, colors, orders. -/
set_option linter.unusedSimpArgs false
set_option linter.unusedVariables false
namespace Go.Proofs.Yteoedigfnfjopaa
open Go Go.Av
attribute [local go_sem] gives_chk gives_ite gives_some gives_bind gives_join Sum.elim_inl Sum.elim_inr decide_eq_true_eq decide_eq_false_iff_not Bool.not_eq_true' Bool.not_eq_false' Bool.or_eq_true Bool.and_eq_true Bool.not_eq_eq_eq_not beq_iff_eq bne_iff_ne ne_eq Bool.or_eq_false_iff Bool.and_eq_false_iff Bool.not_eq_true Bool.not_eq_false Bool.not_true Bool.not_false Int.toNat_natCast beq_eq_false_iff_ne bne_eq_false_iff_eq Decidable.not_not Bool.default_bool

/-- Edge k of a list is right: its ends, its weight, its place. -/
def EOk (n : Int) (es : List (Int × Int × Int)) (k : Nat) : Prop :=
  0 ≤ (es.getD k (0, 0, 0)).1 ∧ (es.getD k (0, 0, 0)).1 < n ∧ 0 ≤ (es.getD k (0, 0, 0)).2.1 ∧ (es.getD k (0, 0, 0)).2.1 < n ∧ ¬ (es.getD k (0, 0, 0)).1 = (es.getD k (0, 0, 0)).2.1 ∧
  0 ≤ (es.getD k (0, 0, 0)).2.2 ∧ (es.getD k (0, 0, 0)).2.2 ≤ 20 ∧
  (0 < k → (es.getD (k - 1) (0, 0, 0)).1 < (es.getD k (0, 0, 0)).1 ∨ (es.getD (k - 1) (0, 0, 0)).1 = (es.getD k (0, 0, 0)).1 ∧ (es.getD (k - 1) (0, 0, 0)).2.1 < (es.getD k (0, 0, 0)).2.1)
def GOk (n : Int) (es : List (Int × Int × Int)) : Prop := 0 ≤ n ∧ n ≤ 16 ∧ es.length ≤ 40 ∧ ∀ k, k < es.length → EOk n es k
/-! Copies and comparing. -/
theorem fill_step' {α : Type} {xs : List α} {d d' : α} {k : Nat} (hk : k < xs.length) : (xs.take k ++ List.replicate (xs.length - k) d).set k (xs.getD k d') = xs.take (k + 1) ++ List.replicate (xs.length - (k + 1)) d := by
  have h1 : (xs.take k).length = k := by simp; omega
  have h2 : xs.length - k = (xs.length - (k + 1)) + 1 := by omega
  rw [List.set_append_right _ _ (by omega), h1, Nat.sub_self, h2, List.replicate_succ, List.set_cons_zero, ← List.take_append_getElem hk]
  simp only [List.getD_eq_getElem?_getD, List.getElem?_eq_getElem hk, Option.getD_some, List.append_assoc, List.cons_append, List.nil_append]
theorem fill_end' {α : Type} {xs : List α} {d : α} {k : Nat} (hk : xs.length ≤ k) : xs.take k ++ List.replicate (xs.length - k) d = xs := by
  rw [List.take_of_length_le hk, Nat.sub_eq_zero_of_le hk]; simp
/-- A loop that copies. -/
theorem gives_copy {α : Type} {xs : List α} {d : α} {body : Int × List α → Option ((Int × List α) ⊕ List α)} (hx : xs.length ≤ 1000000000)
    (hb : ∀ (k : Nat) (ys : List α), k ≤ xs.length → ys.length = xs.length → body (k, ys) = if k < xs.length then some (.inl ((k : Int) + 1, ys.set k (xs.getD k d))) else some (.inr ys)) :
    loop body (0, List.replicate xs.length d) = some xs := by
  refine gives_eq.1 ?_
  refine gives_loop (fun k : Nat => ((k : Int), xs.take k ++ List.replicate (xs.length - k) d)) (fun k => k ≤ xs.length) (fun k => xs.length - k) ?_ 0 (Nat.zero_le _)
  intro k hs
  rw [hb k _ hs (by simp; omega)]
  split
  · rename_i h
    exact gives_some.2 ⟨k + 1, by omega, by omega, by rw [fill_step' h]; simp⟩
  · exact gives_some.2 (fill_end' (by omega))
theorem toBoolS_eq {ss : List Bool} (hx : ss.length ≤ 1000000000) : laws_toBoolS ss = some ss := by
  unfold laws_toBoolS
  rw [chk_pos (by omega), Int.toNat_natCast, gives_copy hx]
  · rfl
  · intro k ys hk hl
    simp only [laws_toBoolS_b0, Int.toNat_natCast, decide_eq_true_eq]
    by_cases h : k < ss.length
    · rw [if_pos (by omega), if_pos h, chk_pos (by omega), chk_pos (by omega), chk_pos (by omega)]
    · rw [if_neg (by omega), if_neg h]
theorem toIntS_eq {ss : List Int} (hx : ss.length ≤ 1000000000) : laws_toIntS ss = some ss := by
  unfold laws_toIntS
  rw [chk_pos (by omega), Int.toNat_natCast, gives_copy hx]
  · rfl
  · intro k ys hk hl
    simp only [laws_toIntS_b0, Int.toNat_natCast, decide_eq_true_eq]
    by_cases h : k < ss.length
    · rw [if_pos (by omega), if_pos h, chk_pos (by omega), chk_pos (by omega), chk_pos (by omega)]
    · rw [if_neg (by omega), if_neg h]
theorem list_eq_of {α : Type} {d : α} {xs ys : List α} (hl : xs.length = ys.length) (h : ∀ k, k < xs.length → xs.getD k d = ys.getD k d) : xs = ys := by
  apply List.ext_getElem? 
  intro k
  by_cases hk : k < xs.length
  · have := h k hk
    simp only [List.getD_eq_getElem?_getD, List.getElem?_eq_getElem hk, List.getElem?_eq_getElem (hl ▸ hk), Option.getD_some] at this
    rw [List.getElem?_eq_getElem hk, List.getElem?_eq_getElem (hl ▸ hk), this]
  · rw [List.getElem?_eq_none (by omega), List.getElem?_eq_none (by omega)]
/-- A loop that compares. -/
theorem gives_same {α : Type} [DecidableEq α] {xs ys : List α} {d : α} {body : Int → Option (Int ⊕ (Unit ⊕ Unit))} (hl : xs.length = ys.length)
    (hb : ∀ (k : Nat), k ≤ xs.length → body k = if k < xs.length then (if xs.getD k d = ys.getD k d then some (.inl ((k : Int) + 1)) else some (.inr (.inr ()))) else some (.inr (.inl ()))) :
    loop body 0 = some (if xs = ys then .inl () else .inr ()) := by
  refine gives_eq.1 ?_
  refine gives_loop (fun k : Nat => (k : Int)) (fun k => k ≤ xs.length ∧ ∀ j, j < k → xs.getD j d = ys.getD j d) (fun k => xs.length - k) ?_ 0 ⟨Nat.zero_le _, fun j hj => absurd hj (by omega)⟩
  intro k hs
  rw [hb k hs.1]
  split
  · rename_i h
    split
    · rename_i he
      refine gives_some.2 ⟨k + 1, ⟨by omega, fun j hj => ?_⟩, by omega, by omega⟩
      by_cases hjk : j = k
      · subst hjk; exact he
      · exact hs.2 j (by omega)
    · rename_i he
      refine gives_some.2 ?_
      rw [if_neg]; intro e; exact he (by rw [e])
  · refine gives_some.2 ?_
    rw [if_pos (list_eq_of hl fun j hj => hs.2 j (by omega))]
theorem eqIntS_eq {xs ys : List Int} (hx : xs.length ≤ 1000000000) : laws_eqIntS xs ys = some (decide (xs = ys)) := by
  unfold laws_eqIntS
  by_cases hl : xs.length = ys.length
  · rw [if_neg (by simp; omega), gives_same (d := 0) hl]
    · by_cases h : xs = ys <;> simp [h]
    · intro k hk
      simp only [laws_eqIntS_b0, Int.toNat_natCast, decide_eq_true_eq, bne_iff_ne, ne_eq]
      by_cases h : k < xs.length
      · rw [if_pos (by omega), if_pos h, chk_pos (by omega), chk_pos (by omega), chk_pos (by omega)]
        by_cases he : xs.getD k 0 = ys.getD k 0
        · rw [if_neg (by rw [he]; simp), if_pos he]
        · rw [if_pos he, if_neg he]
      · rw [if_neg (by omega), if_neg h]
  · rw [if_pos (by simp; omega)]
    have : xs ≠ ys := fun e => hl (by rw [e])
    simp [this]
theorem eqBoolS_eq {xs ys : List Bool} (hx : xs.length ≤ 1000000000) : laws_eqBoolS xs ys = some (decide (xs = ys)) := by
  unfold laws_eqBoolS
  by_cases hl : xs.length = ys.length
  · rw [if_neg (by simp; omega), gives_same (d := false) hl]
    · by_cases h : xs = ys <;> simp [h]
    · intro k hk
      simp only [laws_eqBoolS_b0, Int.toNat_natCast, decide_eq_true_eq]
      by_cases h : k < xs.length
      · rw [if_pos (by omega), if_pos h, chk_pos (by omega), chk_pos (by omega), chk_pos (by omega)]
        by_cases he : xs.getD k false = ys.getD k false
        · rw [if_neg (by rw [he]; simp), if_pos he]
        · rw [if_pos (by simpa using he), if_neg he]
      · rw [if_neg (by omega), if_neg h]
  · rw [if_pos (by simp; omega)]
    have : xs ≠ ys := fun e => hl (by rw [e])
    simp [this]
/-! Cuts. -/
theorem gok_len {n : Int} {es : List (Int × Int × Int)} (h : GOk n es) {k : Nat} (hk : k < es.length) : EOk n es k := h.2.2.2 k hk
end Go.Proofs.Yteoedigfnfjopaa
end

section
/- What the functions taken out compute: colors and orders. -/
set_option linter.unusedSimpArgs false
set_option linter.unusedVariables false
namespace Go.Proofs.Yteoedigfnfjopaa
open Go Go.Av
attribute [local go_sem] gives_chk gives_ite gives_some gives_bind gives_join Sum.elim_inl Sum.elim_inr decide_eq_true_eq decide_eq_false_iff_not Bool.not_eq_true' Bool.not_eq_false' Bool.or_eq_true Bool.and_eq_true Bool.not_eq_eq_eq_not beq_iff_eq bne_iff_ne ne_eq Bool.or_eq_false_iff Bool.and_eq_false_iff Bool.not_eq_true Bool.not_eq_false Bool.not_true Bool.not_false Int.toNat_natCast beq_eq_false_iff_ne bne_eq_false_iff_eq Decidable.not_not Bool.default_bool

open Classical in
/-- A loop that goes on as long as p holds. -/
theorem loop_scan {S X : Type} {N : Nat} {p : Nat → Prop} (st : Nat → S) (x y : X) {body : S → Option (S ⊕ X)}
    (hb : ∀ k, k ≤ N → (∀ j, j < k → p j) → body (st k) = if k < N then (if p k then some (.inl (st (k + 1))) else some (.inr y)) else some (.inr x)) :
    loop body (st 0) = some (if ∀ k, k < N → p k then x else y) := by
  refine gives_eq.1 ?_
  refine gives_loop st (fun k => k ≤ N ∧ ∀ j, j < k → p j) (fun k => N - k) ?_ 0 ⟨Nat.zero_le _, fun j hj => absurd hj (by omega)⟩
  intro k hs
  rw [hb k hs.1 hs.2]
  split
  · rename_i h
    split
    · rename_i he
      refine gives_some.2 ⟨k + 1, ⟨by omega, fun j hj => ?_⟩, by omega, rfl⟩
      by_cases hjk : j = k
      · subst hjk; exact he
      · exact hs.2 j (by omega)
    · rename_i he
      refine gives_some.2 ?_
      rw [if_neg]; intro e; exact he (e k h)
  · refine gives_some.2 ?_
    rw [if_pos (fun j hj => hs.2 j (by omega))]
end Go.Proofs.Yteoedigfnfjopaa
end

section
/- Sets of vertices as bits; neighbours; matchings. -/
set_option linter.unusedSimpArgs false
set_option linter.unusedVariables false
namespace Go.Proofs.Yteoedigfnfjopaa
open Go Go.Av
attribute [local go_sem] gives_chk gives_ite gives_some gives_bind gives_join Sum.elim_inl Sum.elim_inr decide_eq_true_eq decide_eq_false_iff_not Bool.not_eq_true' Bool.not_eq_false' Bool.or_eq_true Bool.and_eq_true Bool.not_eq_eq_eq_not beq_iff_eq bne_iff_ne ne_eq Bool.or_eq_false_iff Bool.and_eq_false_iff Bool.not_eq_true Bool.not_eq_false Bool.not_true Bool.not_false Int.toNat_natCast beq_eq_false_iff_ne bne_eq_false_iff_eq Decidable.not_not Bool.default_bool

/-! Neighbours. -/
/-- One of the first k edges leads from a to b. -/
def Nxt (es : List (Int × Int × Int)) (k : Nat) (a b : Int) : Prop := ∃ j, j < k ∧ (es.getD j (0, 0, 0)).1 = a ∧ (es.getD j (0, 0, 0)).2.1 = b
/-- Neighbours: an edge in one direction or the other. -/
def Adj (es : List (Int × Int × Int)) (a b : Int) : Prop := Nxt es es.length a b ∨ Nxt es es.length b a
/-- Masks of sets of vertices. -/
def MaskOk (n : Int) (ms : List Int) (p : Nat → Nat → Prop) : Prop := ms.length = n.toNat ∧ ∀ v, v < n.toNat → (0 ≤ ms.getD v 0 ∧ ms.getD v 0 < 4294967296) ∧ ∀ w, (ms.getD v 0).toNat.testBit w = true ↔ p v w
theorem MaskOk.mono {n : Int} {ms : List Int} {p q : Nat → Nat → Prop} (h : MaskOk n ms p) (hpq : ∀ v w, v < n.toNat → (p v w ↔ q v w)) : MaskOk n ms q :=
  ⟨h.1, fun v hv => ⟨(h.2 v hv).1, fun w => ((h.2 v hv).2 w).trans (hpq v w hv)⟩⟩
/-! Matchings. -/
def MatOk (n : Int) (es : List (Int × Int × Int)) (ps : List Int) : Prop := GOk n es ∧ (ps.length : Int) = n ∧ ∀ k : Nat, k < ps.length → ps.getD k 0 = -1 ∨ (0 ≤ ps.getD k 0 ∧ ps.getD k 0 < n ∧ Adj es k (ps.getD k 0) ∧ ps.getD (ps.getD k 0).toNat 0 = k)
end Go.Proofs.Yteoedigfnfjopaa
end

section
/- Arguments that are drawn out of bytes. -/
set_option linter.unusedSimpArgs false
set_option linter.unusedVariables false
namespace Go.Proofs.Yteoedigfnfjopaa
open Go Go.Av
attribute [local go_sem] gives_chk gives_ite gives_some gives_bind gives_join Sum.elim_inl Sum.elim_inr decide_eq_true_eq decide_eq_false_iff_not Bool.not_eq_true' Bool.not_eq_false' Bool.or_eq_true Bool.and_eq_true Bool.not_eq_eq_eq_not beq_iff_eq bne_iff_ne ne_eq Bool.or_eq_false_iff Bool.and_eq_false_iff Bool.not_eq_true Bool.not_eq_false Bool.not_true Bool.not_false Int.toNat_natCast beq_eq_false_iff_ne bne_eq_false_iff_eq Decidable.not_not Bool.default_bool

end Go.Proofs.Yteoedigfnfjopaa
end

section
/- Laws with drawn arguments: cuts. -/
set_option linter.unusedSimpArgs false
set_option linter.unusedVariables false
namespace Go.Proofs.Yteoedigfnfjopaa
open Go Go.Av
attribute [local go_sem] gives_chk gives_ite gives_some gives_bind gives_join Sum.elim_inl Sum.elim_inr decide_eq_true_eq decide_eq_false_iff_not Bool.not_eq_true' Bool.not_eq_false' Bool.or_eq_true Bool.and_eq_true Bool.not_eq_eq_eq_not beq_iff_eq bne_iff_ne ne_eq Bool.or_eq_false_iff Bool.and_eq_false_iff Bool.not_eq_true Bool.not_eq_false Bool.not_true Bool.not_false Int.toNat_natCast beq_eq_false_iff_ne bne_eq_false_iff_eq Decidable.not_not Bool.default_bool

end Go.Proofs.Yteoedigfnfjopaa
end

section
/- Forests: the way to the top, and the law on depths. -/
set_option linter.unusedSimpArgs false
set_option linter.unusedVariables false
namespace Go.Proofs.Yteoedigfnfjopaa
open Go Go.Av
attribute [local go_sem] gives_chk gives_ite gives_some gives_bind gives_join Sum.elim_inl Sum.elim_inr decide_eq_true_eq decide_eq_false_iff_not Bool.not_eq_true' Bool.not_eq_false' Bool.or_eq_true Bool.and_eq_true Bool.not_eq_eq_eq_not beq_iff_eq bne_iff_ne ne_eq Bool.or_eq_false_iff Bool.and_eq_false_iff Bool.not_eq_true Bool.not_eq_false Bool.not_true Bool.not_false Int.toNat_natCast beq_eq_false_iff_ne bne_eq_false_iff_eq Decidable.not_not Bool.default_bool

/-! A forest that is drawn: its length alone. -/
def neg (l : List Int) : Nat := l.countP (· < 0)
def Inn (n : Int) (l : List Int) : Prop := ∀ k, k < l.length → 0 ≤ l.getD k 0 ∧ l.getD k 0 < n
end Go.Proofs.Yteoedigfnfjopaa
end

section
/- Matchings that are drawn. -/
set_option linter.unusedSimpArgs false
set_option linter.unusedVariables false
namespace Go.Proofs.Yteoedigfnfjopaa
open Go Go.Av
attribute [local go_sem] gives_chk gives_ite gives_some gives_bind gives_join Sum.elim_inl Sum.elim_inr decide_eq_true_eq decide_eq_false_iff_not Bool.not_eq_true' Bool.not_eq_false' Bool.or_eq_true Bool.and_eq_true Bool.not_eq_eq_eq_not beq_iff_eq bne_iff_ne ne_eq Bool.or_eq_false_iff Bool.and_eq_false_iff Bool.not_eq_true Bool.not_eq_false Bool.not_true Bool.not_false Int.toNat_natCast beq_eq_false_iff_ne bne_eq_false_iff_eq Decidable.not_not Bool.default_bool

end Go.Proofs.Yteoedigfnfjopaa
end

section
/- Forests: the tops that both sides find. -/
set_option linter.unusedSimpArgs false
set_option linter.unusedVariables false
namespace Go.Proofs.Yteoedigfnfjopaa
open Go Go.Av
attribute [local go_sem] gives_chk gives_ite gives_some gives_bind gives_join Sum.elim_inl Sum.elim_inr decide_eq_true_eq decide_eq_false_iff_not Bool.not_eq_true' Bool.not_eq_false' Bool.or_eq_true Bool.and_eq_true Bool.not_eq_eq_eq_not beq_iff_eq bne_iff_ne ne_eq Bool.or_eq_false_iff Bool.and_eq_false_iff Bool.not_eq_true Bool.not_eq_false Bool.not_true Bool.not_false Int.toNat_natCast beq_eq_false_iff_ne bne_eq_false_iff_eq Decidable.not_not Bool.default_bool

end Go.Proofs.Yteoedigfnfjopaa
end

section
/- Marks that the laws lay into results; forests' laws; better cuts. -/
set_option linter.unusedSimpArgs false
set_option linter.unusedVariables false
namespace Go.Proofs.Yteoedigfnfjopaa
open Go Go.Av
attribute [local go_sem] gives_chk gives_ite gives_some gives_bind gives_join Sum.elim_inl Sum.elim_inr decide_eq_true_eq decide_eq_false_iff_not Bool.not_eq_true' Bool.not_eq_false' Bool.or_eq_true Bool.and_eq_true Bool.not_eq_eq_eq_not beq_iff_eq bne_iff_ne ne_eq Bool.or_eq_false_iff Bool.and_eq_false_iff Bool.not_eq_true Bool.not_eq_false Bool.not_true Bool.not_false Int.toNat_natCast beq_eq_false_iff_ne bne_eq_false_iff_eq Decidable.not_not Bool.default_bool

def mks {α : Type} (f : Nat → α) (n : Nat) : List α := (List.range n).map f
theorem mks_len {α : Type} (f : Nat → α) (n : Nat) : (mks f n).length = n := by simp [mks]
theorem mks_get {α : Type} {f : Nat → α} {n j : Nat} {d : α} (h : j < n) : (mks f n).getD j d = f j := by
  simp only [mks, List.getD_eq_getElem?_getD, List.getElem?_map, List.getElem?_range h, Option.map_some, Option.getD_some]
theorem mks_succ {α : Type} (f : Nat → α) (n : Nat) : mks f (n + 1) = mks f n ++ [f n] := by
  simp only [mks, List.range_succ, List.map_append, List.map_cons, List.map_nil]
theorem mks_set {α : Type} {f : Nat → α} {xs : List α} {j : Nat} (h : j < xs.length) : (mks f j ++ xs.drop j).set j (f j) = mks f (j + 1) ++ xs.drop (j + 1) := by
  rw [mks_succ, List.set_append_right _ _ (by rw [mks_len]; exact Nat.le_refl _), mks_len, Nat.sub_self, List.append_assoc]
  congr 1
  rw [List.drop_eq_getElem_cons h]; rfl
theorem loop_to {σ S X : Type} (st : σ → S) (ok : σ → Prop) (m : σ → Nat) {body : S → Option (S ⊕ X)} {Q : X → Prop} {s0 : S} (s : σ) (h0 : s0 = st s) (hs : ok s)
    (h : ∀ s, ok s → gives (body (st s)) fun r => match r with | .inl t => ∃ s', ok s' ∧ m s' < m s ∧ t = st s' | .inr x => Q x) : gives (loop body s0) Q := h0 ▸ gives_loop st ok m h s hs
theorem markIntS_eq {xs : List Int} {k : Int} (hx : xs.length ≤ 1000000000) (h0 : 0 ≤ k) (h1 : k ≤ 10000000000) : laws_markIntS xs k = some (k + xs.length, mks (fun j => k + (j : Int)) xs.length) := by
  refine gives_eq.1 ?_
  unfold laws_markIntS
  simp only [go_sem]
  refine loop_to (fun j : Nat => (k + (j : Int), (j : Int), mks (fun j => k + (j : Int)) j ++ xs.drop j)) (fun j => j ≤ xs.length) (fun j => xs.length - j) 0 (by simp [mks]) (Nat.zero_le _) ?_
  intro j hj
  have hl : (mks (fun j => k + (j : Int)) j ++ xs.drop j).length = xs.length := by simp [mks_len]; omega
  simp only [laws_markIntS_b0, go_sem]
  refine ⟨fun hc => ⟨by omega, by omega, by omega, j + 1, by omega, by omega, ?_⟩, fun hc => ?_⟩
  · rw [mks_set (f := fun j => k + (j : Int)) (by omega)]; simp only [Int.natCast_add, Int.natCast_one, Int.add_assoc]; try rfl
  · rw [show j = xs.length from by omega]; simp
theorem heldIntS_eq {n : Nat} {k : Int} (hx : n ≤ 1000000000) (h0 : 0 ≤ k) (h1 : k ≤ 10000000000) : laws_heldIntS (mks (fun j => k + (j : Int)) n) k = some (k + n) := by
  refine gives_eq.1 ?_
  unfold laws_heldIntS
  simp only [go_sem]
  refine loop_to (fun j : Nat => (k + (j : Int), (j : Int))) (fun j => j ≤ n) (fun j => n - j) 0 (by simp) (Nat.zero_le _) ?_
  intro j hj
  simp only [laws_heldIntS_b0, mks_len, go_sem]
  refine ⟨fun hc => ⟨by omega, fun h => ?_, fun h => ⟨by omega, by omega, j + 1, by omega, by omega, ?_⟩⟩, fun hc => ?_⟩
  · exact absurd (mks_get (f := fun j => k + (j : Int)) (by omega)) h
  · simp only [Int.natCast_add, Int.natCast_one, Int.add_assoc]
  · rw [show j = n from by omega]
theorem markBoolS_eq {xs : List Bool} {k : Int} (hx : xs.length ≤ 1000000000) (h0 : 0 ≤ k) (h1 : k ≤ 10000000000) : laws_markBoolS xs k = some (k + xs.length, mks (fun j => (k + (j : Int)) % 3 == 0) xs.length) := by
  refine gives_eq.1 ?_
  unfold laws_markBoolS
  simp only [go_sem]
  refine loop_to (fun j : Nat => (k + (j : Int), (j : Int), mks (fun j => (k + (j : Int)) % 3 == 0) j ++ xs.drop j)) (fun j => j ≤ xs.length) (fun j => xs.length - j) 0 (by simp [mks]) (Nat.zero_le _) ?_
  intro j hj
  have hl : (mks (fun j => (k + (j : Int)) % 3 == 0) j ++ xs.drop j).length = xs.length := by simp [mks_len]; omega
  simp only [laws_markBoolS_b0, go_sem]
  refine ⟨fun hc => ⟨by omega, by omega, by omega, by omega, j + 1, by omega, by omega, ?_⟩, fun hc => ?_⟩
  · rw [mks_set (f := fun j => (k + (j : Int)) % 3 == 0) (by omega)]; simp only [Int.natCast_add, Int.natCast_one, Int.add_assoc]; try rfl
  · rw [show j = xs.length from by omega]; simp
end Go.Proofs.Yteoedigfnfjopaa
end
