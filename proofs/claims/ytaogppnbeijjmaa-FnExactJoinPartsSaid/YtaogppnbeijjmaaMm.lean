/- Several texts in one. -/
import Derived.Test.YtaogppnbeijjmaaLaD
section
/- What the functions taken out compute: valid graphs, cuts, colors, orders. -/
set_option linter.unusedSimpArgs false
set_option linter.unusedVariables false
namespace Go.Proofs.Ytaogppnbeijjmaa
open Go Go.Av
attribute [local go_sem] gives_chk gives_ite gives_some gives_bind gives_join Sum.elim_inl Sum.elim_inr decide_eq_true_eq decide_eq_false_iff_not Bool.not_eq_true' Bool.not_eq_false' Bool.or_eq_true Bool.and_eq_true Bool.not_eq_eq_eq_not beq_iff_eq bne_iff_ne ne_eq Bool.or_eq_false_iff Bool.and_eq_false_iff Bool.not_eq_true Bool.not_eq_false Bool.not_true Bool.not_false Int.toNat_natCast beq_eq_false_iff_ne bne_eq_false_iff_eq Decidable.not_not Bool.default_bool

/-- Edge k of a list is right: its ends, its weight, its place. -/
def EOk (n : Int) (es : List (Int × Int × Int)) (k : Nat) : Prop :=
  0 ≤ (es.getD k (0, 0, 0)).1 ∧ (es.getD k (0, 0, 0)).1 < n ∧ 0 ≤ (es.getD k (0, 0, 0)).2.1 ∧ (es.getD k (0, 0, 0)).2.1 < n ∧ ¬ (es.getD k (0, 0, 0)).1 = (es.getD k (0, 0, 0)).2.1 ∧
  0 ≤ (es.getD k (0, 0, 0)).2.2 ∧ (es.getD k (0, 0, 0)).2.2 ≤ 20 ∧
  (0 < k → (es.getD (k - 1) (0, 0, 0)).1 < (es.getD k (0, 0, 0)).1 ∨ (es.getD (k - 1) (0, 0, 0)).1 = (es.getD k (0, 0, 0)).1 ∧ (es.getD (k - 1) (0, 0, 0)).2.1 < (es.getD k (0, 0, 0)).2.1)
def GOk (n : Int) (es : List (Int × Int × Int)) : Prop := 0 ≤ n ∧ n ≤ 16 ∧ es.length ≤ 40 ∧ ∀ k, k < es.length → EOk n es k
open Classical in
noncomputable def gok (n : Int) (es : List (Int × Int × Int)) : Bool := decide (GOk n es)
theorem gok_true {n : Int} {es : List (Int × Int × Int)} (h : GOk n es) : gok n es = true := by simp [gok, h]
theorem gok_false {n : Int} {es : List (Int × Int × Int)} (h : ¬ GOk n es) : gok n es = false := by simp [gok, h]
theorem EOk.more {n : Int} {es : List (Int × Int × Int)} {k : Nat} (h : ∀ j, j < k → EOk n es j) (hk : EOk n es k) (j : Nat) (hj : j < k + 1) : EOk n es j := by
  by_cases he : j = k
  · subst he; exact hk
  · exact h j (by omega)
theorem cmpE_neg (a b d e : Int) : orF [cmpI a d, cmpI b e] < 0 ↔ (a < d ∨ a = d ∧ b < e) := by
  simp only [orF, cmpI]; repeat' split
  all_goals omega
theorem toNat_sub_one {k : Nat} (h : 0 < k) : ((k : Int) - 1).toNat = k - 1 := by omega

theorem spec_GraphValid_eq {n : Int} {es : List (Int × Int × Int)} (hn : -9223372036854775808 ≤ n ∧ n ≤ 9223372036854775807) (hx : es.length ≤ 1000000000) : spec_GraphValid n es = some (gok n es) := by
  refine gives_eq.1 ?_
  unfold spec_GraphValid
  rw [gives_bind]
  refine gives.mono (gives_loop (fun k : Nat => (k : Int)) (fun k => k ≤ es.length ∧ (0 ≤ n → ∀ j, j < k → EOk n es j)) (fun k => es.length - k)
    (Q := fun x => match x with | .inl _ => 0 ≤ n → ∀ j, j < es.length → EOk n es j | .inr _ => ∃ k, k < es.length ∧ (0 ≤ n → ¬ EOk n es k)) ?_ 0 ⟨by omega, fun _ j hj => absurd hj (by omega)⟩) ?_
  · intro k hs
    simp only [spec_GraphValid_b0, go_sem]
    have hw : IntKind.i64.wrap (n - 1) = n - 1 ∨ ¬ 0 ≤ n := by
      by_cases h0 : 0 ≤ n
      · exact .inl (wrap_fits (by omega) (by omega))
      · exact .inr h0
    refine ⟨fun hc => ⟨by omega, by omega, by omega, fun hbad => ⟨k, by omega, fun h0 he => ?_⟩, fun hgood => ⟨by omega, k + 1, ⟨by omega, fun h0 => EOk.more (hs.2 h0) ?_⟩, by omega, by omega⟩⟩, fun hc h0 j hj => hs.2 h0 j (by omega)⟩
    · rcases hw with hw | hw
      · rw [hw] at hbad
        simp only [EOk] at he
        by_cases hk : 0 < k
        · rw [toNat_sub_one hk] at hbad; omega
        · omega
      · exact hw h0
    · rcases hw with hw | hw
      · rw [hw] at hgood
        simp only [EOk]
        by_cases hk : 0 < k
        · rw [toNat_sub_one hk] at hgood; omega
        · omega
      · exact absurd h0 hw
  · rintro (_ | _) h <;> simp only [Sum.elim_inl, Sum.elim_inr, gives_some] at h ⊢
    · by_cases hg : 0 ≤ n ∧ n ≤ 16 ∧ es.length ≤ 40
      · rw [gok_true ⟨hg.1, hg.2.1, hg.2.2, h hg.1⟩]; simp; omega
      · rw [gok_false (fun g => hg ⟨g.1, g.2.1, g.2.2.1⟩)]; simp; omega
    · obtain ⟨k, hk, h⟩ := h
      rw [gok_false (fun g => h g.1 (g.2.2.2 k hk))]

theorem impl_has_eq (n : Int) (es : List (Int × Int × Int)) (v : Int) : impl_Graph_has n es v = some (decide (0 ≤ v ∧ v < n)) := by
  refine gives_eq.1 ?_
  simp only [impl_Graph_has, go_sem]
  rw [Bool.eq_iff_iff]; simp
theorem impl_GraphValid_eq {n : Int} {es : List (Int × Int × Int)} : impl_GraphValid n es = some (gok n es) := by
  refine gives_eq.1 ?_
  unfold impl_GraphValid
  simp only [go_sem]
  refine ⟨fun h => (gok_false (fun g => by have := g.1; have := g.2.1; have := g.2.2.1; omega)).symm, fun hb => ?_⟩
  refine gives.mono (gives_loop (fun k : Nat => (k : Int)) (fun k => k ≤ es.length ∧ ∀ j, j < k → EOk n es j) (fun k => es.length - k)
    (Q := fun x => match x with | .inl _ => ∀ j, j < es.length → EOk n es j | .inr _ => ∃ k, k < es.length ∧ ¬ EOk n es k) ?_ 0 ⟨by omega, fun j hj => absurd hj (by omega)⟩) ?_
  · intro k hs
    simp only [impl_GraphValid_b0, impl_has_eq, go_sem, Option.bind_some]
    refine ⟨fun hc => ⟨by omega, ⟨fun h1 => ⟨fun hbad => ⟨k, by omega, fun he => ?_⟩, fun hg => ⟨fun hbad => ⟨k, by omega, fun he => ?_⟩, fun hg2 => ⟨by omega, fun hk => by omega, fun hbad => ⟨k, by omega, fun he => ?_⟩, fun hg3 => ⟨by omega, k + 1, ⟨by omega, EOk.more hs.2 ?_⟩, by omega, by omega⟩⟩⟩⟩, fun h1 => ⟨fun hbad => ⟨k, by omega, fun he => ?_⟩, fun hg => ?_⟩⟩⟩, fun hc j hj => hs.2 j (by omega)⟩
    · simp only [EOk] at he; omega
    · simp only [EOk] at he; omega
    · simp only [EOk] at he
      have hq := cmpE_neg (es.getD ((k : Int) - 1).toNat (0, 0, 0)).1 (es.getD ((k : Int) - 1).toNat (0, 0, 0)).2.1 (es.getD k (0, 0, 0)).1 (es.getD k (0, 0, 0)).2.1
      rw [toNat_sub_one (by omega)] at hbad hq
      omega
    · simp only [EOk]
      by_cases hk : 0 < k
      · have hq := cmpE_neg (es.getD ((k : Int) - 1).toNat (0, 0, 0)).1 (es.getD ((k : Int) - 1).toNat (0, 0, 0)).2.1 (es.getD k (0, 0, 0)).1 (es.getD k (0, 0, 0)).2.1
        rw [toNat_sub_one hk] at hg3 hq
        omega
      · omega
    · simp only [EOk] at he; omega
    · exfalso; omega
  · rintro (_ | _) h <;> simp only [go_sem] at h ⊢
    · rw [gok_true ⟨by omega, by omega, by omega, h⟩]
    · obtain ⟨k, hk, h⟩ := h
      rw [gok_false (fun g => h (g.2.2.2 k hk))]

/-! Copies and comparing. -/
theorem fill_step' {α : Type} {xs : List α} {d d' : α} {k : Nat} (hk : k < xs.length) : (xs.take k ++ List.replicate (xs.length - k) d).set k (xs.getD k d') = xs.take (k + 1) ++ List.replicate (xs.length - (k + 1)) d := by
  have h1 : (xs.take k).length = k := by simp; omega
  have h2 : xs.length - k = (xs.length - (k + 1)) + 1 := by omega
  rw [List.set_append_right _ _ (by omega), h1, Nat.sub_self, h2, List.replicate_succ, List.set_cons_zero, ← List.take_append_getElem hk]
  simp only [List.getD_eq_getElem?_getD, List.getElem?_eq_getElem hk, Option.getD_some, List.append_assoc, List.cons_append, List.nil_append]
theorem fill_end' {α : Type} {xs : List α} {d : α} {k : Nat} (hk : xs.length ≤ k) : xs.take k ++ List.replicate (xs.length - k) d = xs := by
  rw [List.take_of_length_le hk, Nat.sub_eq_zero_of_le hk]; simp
/-- A loop that copies. -/
theorem gives_copy {α : Type} {xs : List α} {d : α} {body : Int × List α → Option ((Int × List α) ⊕ List α)} (hx : xs.length ≤ 1000000000)
    (hb : ∀ (k : Nat) (ys : List α), k ≤ xs.length → ys.length = xs.length → body (k, ys) = if k < xs.length then some (.inl ((k : Int) + 1, ys.set k (xs.getD k d))) else some (.inr ys)) :
    loop body (0, List.replicate xs.length d) = some xs := by
  refine gives_eq.1 ?_
  refine gives_loop (fun k : Nat => ((k : Int), xs.take k ++ List.replicate (xs.length - k) d)) (fun k => k ≤ xs.length) (fun k => xs.length - k) ?_ 0 (Nat.zero_le _)
  intro k hs
  rw [hb k _ hs (by simp; omega)]
  split
  · rename_i h
    exact gives_some.2 ⟨k + 1, by omega, by omega, by rw [fill_step' h]; simp⟩
  · exact gives_some.2 (fill_end' (by omega))
theorem toEdgeS_eq {es : List (Int × Int × Int)} (hx : es.length ≤ 1000000000) : laws_toEdgeS es = some es := by
  unfold laws_toEdgeS
  rw [chk_pos (by omega), Int.toNat_natCast, gives_copy hx]
  · rfl
  · intro k ys hk hl
    simp only [laws_toEdgeS_b0, Int.toNat_natCast, decide_eq_true_eq]
    by_cases h : k < es.length
    · rw [if_pos (by omega), if_pos h, chk_pos (by omega), chk_pos (by omega), chk_pos (by omega)]
    · rw [if_neg (by omega), if_neg h]
theorem toGraph_eq {n : Int} {es : List (Int × Int × Int)} (hx : es.length ≤ 1000000000) : laws_toGraph n es = some (n, es) := by
  simp [laws_toGraph, toEdgeS_eq hx]
theorem list_eq_of {α : Type} {d : α} {xs ys : List α} (hl : xs.length = ys.length) (h : ∀ k, k < xs.length → xs.getD k d = ys.getD k d) : xs = ys := by
  apply List.ext_getElem? 
  intro k
  by_cases hk : k < xs.length
  · have := h k hk
    simp only [List.getD_eq_getElem?_getD, List.getElem?_eq_getElem hk, List.getElem?_eq_getElem (hl ▸ hk), Option.getD_some] at this
    rw [List.getElem?_eq_getElem hk, List.getElem?_eq_getElem (hl ▸ hk), this]
  · rw [List.getElem?_eq_none (by omega), List.getElem?_eq_none (by omega)]
/-- A loop that compares. -/
theorem gives_same {α : Type} [DecidableEq α] {xs ys : List α} {d : α} {body : Int → Option (Int ⊕ (Unit ⊕ Unit))} (hl : xs.length = ys.length)
    (hb : ∀ (k : Nat), k ≤ xs.length → body k = if k < xs.length then (if xs.getD k d = ys.getD k d then some (.inl ((k : Int) + 1)) else some (.inr (.inr ()))) else some (.inr (.inl ()))) :
    loop body 0 = some (if xs = ys then .inl () else .inr ()) := by
  refine gives_eq.1 ?_
  refine gives_loop (fun k : Nat => (k : Int)) (fun k => k ≤ xs.length ∧ ∀ j, j < k → xs.getD j d = ys.getD j d) (fun k => xs.length - k) ?_ 0 ⟨Nat.zero_le _, fun j hj => absurd hj (by omega)⟩
  intro k hs
  rw [hb k hs.1]
  split
  · rename_i h
    split
    · rename_i he
      refine gives_some.2 ⟨k + 1, ⟨by omega, fun j hj => ?_⟩, by omega, by omega⟩
      by_cases hjk : j = k
      · subst hjk; exact he
      · exact hs.2 j (by omega)
    · rename_i he
      refine gives_some.2 ?_
      rw [if_neg]; intro e; exact he (by rw [e])
  · refine gives_some.2 ?_
    rw [if_pos (list_eq_of hl fun j hj => hs.2 j (by omega))]
theorem eqEdgeS_eq {xs ys : List (Int × Int × Int)} (hx : xs.length ≤ 1000000000) : laws_eqEdgeS xs ys = some (decide (xs = ys)) := by
  unfold laws_eqEdgeS
  by_cases hl : xs.length = ys.length
  · rw [if_neg (by simp; omega), gives_same (d := (0, 0, 0)) hl]
    · by_cases h : xs = ys <;> simp [h]
    · intro k hk
      simp only [laws_eqEdgeS_b0, Int.toNat_natCast, decide_eq_true_eq]
      by_cases h : k < xs.length
      · rw [if_pos (by omega), if_pos h, chk_pos (by omega), chk_pos (by omega), chk_pos (by omega)]
        by_cases he : xs.getD k (0, 0, 0) = ys.getD k (0, 0, 0)
        · rw [if_neg (by simp only [he, and_self, decide_true, Bool.not_true, Bool.false_eq_true, not_false_eq_true]), if_pos he]
        · rw [if_pos (by simp only [Bool.not_eq_true', decide_eq_false_iff_not]; intro h3; exact he (Prod.ext h3.1 (Prod.ext h3.2.1 h3.2.2))), if_neg he]
      · rw [if_neg (by omega), if_neg h]
  · rw [if_pos (by simp; omega)]
    have : xs ≠ ys := fun e => hl (by rw [e])
    simp [this]
theorem eqGraph_eq {n m : Int} {xs ys : List (Int × Int × Int)} (hx : xs.length ≤ 1000000000) : laws_eqGraph n xs m ys = some (decide (n = m ∧ xs = ys)) := by
  unfold laws_eqGraph
  rw [eqEdgeS_eq hx]
  by_cases h1 : n = m <;> by_cases h2 : xs = ys <;> simp [h1, h2]
/-! Cuts. -/
theorem gok_len {n : Int} {es : List (Int × Int × Int)} (h : GOk n es) {k : Nat} (hk : k < es.length) : EOk n es k := h.2.2.2 k hk
/-- The sum of the weights of edges j < k between different sides. -/
def cutF (es : List (Int × Int × Int)) (ss : List Bool) : Nat → Int
  | 0 => 0
  | k + 1 => if ss.getD (es.getD k (0, 0, 0)).1.toNat false = ss.getD (es.getD k (0, 0, 0)).2.1.toNat false then cutF es ss k else cutF es ss k + (es.getD k (0, 0, 0)).2.2
def flipS (ss : List Bool) (v : Nat) : List Bool := ss.set v (!(ss.getD v false))
theorem getD_flip {ss : List Bool} {v j : Nat} (hv : v < ss.length) : (flipS ss v).getD j false = if j = v then !(ss.getD v false) else ss.getD j false := by
  unfold flipS
  rw [getD_set _ _ _ _ _ hv]
/-- By how much a cut is less when v changes its side, over edges j < k. -/
def gainF (es : List (Int × Int × Int)) (ss : List Bool) (v : Int) : Nat → Int
  | 0 => 0
  | k + 1 => if ¬ (es.getD k (0, 0, 0)).1 = v ∧ ¬ (es.getD k (0, 0, 0)).2.1 = v then gainF es ss v k
    else if ss.getD (es.getD k (0, 0, 0)).1.toNat false = ss.getD (es.getD k (0, 0, 0)).2.1.toNat false then gainF es ss v k - (es.getD k (0, 0, 0)).2.2 else gainF es ss v k + (es.getD k (0, 0, 0)).2.2
theorem gain_cut {n : Int} {es : List (Int × Int × Int)} {ss : List Bool} {v : Nat} (h : GOk n es) (hl : (ss.length : Int) = n) (hv : (v : Int) < n) : ∀ k, k ≤ es.length → gainF es ss v k = cutF es ss k - cutF es (flipS ss v) k
  | 0, _ => rfl
  | k + 1, hk => by
    have ih := gain_cut h hl hv k (by omega)
    have he := gok_len h (k := k) (by omega)
    simp only [EOk] at he
    have hvl : v < ss.length := by omega
    simp only [gainF, cutF, getD_flip hvl]
    generalize (es.getD k (0, 0, 0)).1 = a at *
    generalize (es.getD k (0, 0, 0)).2.1 = b at *
    generalize (es.getD k (0, 0, 0)).2.2 = w at *
    by_cases ha : a.toNat = v
    · have hb : ¬ b.toNat = v := by omega
      rw [if_neg (by omega), if_pos ha, if_neg hb, ha]
      cases ss.getD v false <;> cases ss.getD b.toNat false <;> simp <;> omega
    · by_cases hb : b.toNat = v
      · rw [if_neg (by omega), if_neg ha, if_pos hb, hb]
        cases ss.getD v false <;> cases ss.getD a.toNat false <;> simp <;> omega
      · rw [if_pos (by omega), if_neg ha, if_neg hb]
        cases ss.getD a.toNat false <;> cases ss.getD b.toNat false <;> simp <;> omega
end Go.Proofs.Ytaogppnbeijjmaa
end

section
/- What the functions taken out compute: colors and orders. -/
set_option linter.unusedSimpArgs false
set_option linter.unusedVariables false
namespace Go.Proofs.Ytaogppnbeijjmaa
open Go Go.Av
attribute [local go_sem] gives_chk gives_ite gives_some gives_bind gives_join Sum.elim_inl Sum.elim_inr decide_eq_true_eq decide_eq_false_iff_not Bool.not_eq_true' Bool.not_eq_false' Bool.or_eq_true Bool.and_eq_true Bool.not_eq_eq_eq_not beq_iff_eq bne_iff_ne ne_eq Bool.or_eq_false_iff Bool.and_eq_false_iff Bool.not_eq_true Bool.not_eq_false Bool.not_true Bool.not_false Int.toNat_natCast beq_eq_false_iff_ne bne_eq_false_iff_eq Decidable.not_not Bool.default_bool

open Classical in
noncomputable def yes (p : Prop) : Bool := decide p
end Go.Proofs.Ytaogppnbeijjmaa
end

section
/- Sets of vertices as bits; neighbours; matchings. -/
set_option linter.unusedSimpArgs false
set_option linter.unusedVariables false
namespace Go.Proofs.Ytaogppnbeijjmaa
open Go Go.Av
attribute [local go_sem] gives_chk gives_ite gives_some gives_bind gives_join Sum.elim_inl Sum.elim_inr decide_eq_true_eq decide_eq_false_iff_not Bool.not_eq_true' Bool.not_eq_false' Bool.or_eq_true Bool.and_eq_true Bool.not_eq_eq_eq_not beq_iff_eq bne_iff_ne ne_eq Bool.or_eq_false_iff Bool.and_eq_false_iff Bool.not_eq_true Bool.not_eq_false Bool.not_true Bool.not_false Int.toNat_natCast beq_eq_false_iff_ne bne_eq_false_iff_eq Decidable.not_not Bool.default_bool

theorem wrap_u64 {n : Int} (h : 0 ≤ n) (h' : n < 4294967296) : IntKind.u64.wrap n = n := IntWalk.u64_in n ⟨h, by omega⟩
/-! Neighbours. -/
/-- One of the first k edges leads from a to b. -/
def Nxt (es : List (Int × Int × Int)) (k : Nat) (a b : Int) : Prop := ∃ j, j < k ∧ (es.getD j (0, 0, 0)).1 = a ∧ (es.getD j (0, 0, 0)).2.1 = b
/-- Neighbours: an edge in one direction or the other. -/
def Adj (es : List (Int × Int × Int)) (a b : Int) : Prop := Nxt es es.length a b ∨ Nxt es es.length b a
/-- Masks of sets of vertices. -/
def MaskOk (n : Int) (ms : List Int) (p : Nat → Nat → Prop) : Prop := ms.length = n.toNat ∧ ∀ v, v < n.toNat → (0 ≤ ms.getD v 0 ∧ ms.getD v 0 < 4294967296) ∧ ∀ w, (ms.getD v 0).toNat.testBit w = true ↔ p v w
theorem MaskOk.mono {n : Int} {ms : List Int} {p q : Nat → Nat → Prop} (h : MaskOk n ms p) (hpq : ∀ v w, v < n.toNat → (p v w ↔ q v w)) : MaskOk n ms q :=
  ⟨h.1, fun v hv => ⟨(h.2 v hv).1, fun w => ((h.2 v hv).2 w).trans (hpq v w hv)⟩⟩
/-! Matchings. -/
def MatOk (n : Int) (es : List (Int × Int × Int)) (ps : List Int) : Prop := GOk n es ∧ (ps.length : Int) = n ∧ ∀ k : Nat, k < ps.length → ps.getD k 0 = -1 ∨ (0 ≤ ps.getD k 0 ∧ ps.getD k 0 < n ∧ Adj es k (ps.getD k 0) ∧ ps.getD (ps.getD k 0).toNat 0 = k)
end Go.Proofs.Ytaogppnbeijjmaa
end

section
/- Arguments that are drawn out of bytes. -/
set_option linter.unusedSimpArgs false
set_option linter.unusedVariables false
namespace Go.Proofs.Ytaogppnbeijjmaa
open Go Go.Av
attribute [local go_sem] gives_chk gives_ite gives_some gives_bind gives_join Sum.elim_inl Sum.elim_inr decide_eq_true_eq decide_eq_false_iff_not Bool.not_eq_true' Bool.not_eq_false' Bool.or_eq_true Bool.and_eq_true Bool.not_eq_eq_eq_not beq_iff_eq bne_iff_ne ne_eq Bool.or_eq_false_iff Bool.and_eq_false_iff Bool.not_eq_true Bool.not_eq_false Bool.not_true Bool.not_false Int.toNat_natCast beq_eq_false_iff_ne bne_eq_false_iff_eq Decidable.not_not Bool.default_bool

end Go.Proofs.Ytaogppnbeijjmaa
end

section
/- Laws with drawn arguments: cuts. -/
set_option linter.unusedSimpArgs false
set_option linter.unusedVariables false
namespace Go.Proofs.Ytaogppnbeijjmaa
open Go Go.Av
attribute [local go_sem] gives_chk gives_ite gives_some gives_bind gives_join Sum.elim_inl Sum.elim_inr decide_eq_true_eq decide_eq_false_iff_not Bool.not_eq_true' Bool.not_eq_false' Bool.or_eq_true Bool.and_eq_true Bool.not_eq_eq_eq_not beq_iff_eq bne_iff_ne ne_eq Bool.or_eq_false_iff Bool.and_eq_false_iff Bool.not_eq_true Bool.not_eq_false Bool.not_true Bool.not_false Int.toNat_natCast beq_eq_false_iff_ne bne_eq_false_iff_eq Decidable.not_not Bool.default_bool

end Go.Proofs.Ytaogppnbeijjmaa
end

section
/- Forests: the way to the top, and the law on depths. -/
set_option linter.unusedSimpArgs false
set_option linter.unusedVariables false
namespace Go.Proofs.Ytaogppnbeijjmaa
open Go Go.Av
attribute [local go_sem] gives_chk gives_ite gives_some gives_bind gives_join Sum.elim_inl Sum.elim_inr decide_eq_true_eq decide_eq_false_iff_not Bool.not_eq_true' Bool.not_eq_false' Bool.or_eq_true Bool.and_eq_true Bool.not_eq_eq_eq_not beq_iff_eq bne_iff_ne ne_eq Bool.or_eq_false_iff Bool.and_eq_false_iff Bool.not_eq_true Bool.not_eq_false Bool.not_true Bool.not_false Int.toNat_natCast beq_eq_false_iff_ne bne_eq_false_iff_eq Decidable.not_not Bool.default_bool

/-! A depth is below the number of vertices. -/
theorem pigeon (f : Nat → Nat) : ∀ (n : Nat) (l : List Nat), l.Nodup → (∀ k ∈ l, ∃ v, v < n ∧ f v = k) → l.length ≤ n
  | 0, l, _, h => by
    cases l with
    | nil => exact Nat.le_refl _
    | cons a l => obtain ⟨v, hv, _⟩ := h a List.mem_cons_self; omega
  | n + 1, l, hn, h => by
    have h2 := pigeon f n (l.erase (f n)) (hn.erase _) (fun k hk => by
      have h3 := (List.Nodup.mem_erase_iff hn).1 hk
      obtain ⟨v, hv, e⟩ := h k h3.2
      refine ⟨v, ?_, e⟩
      rcases Nat.lt_or_ge v n with h4 | h4
      · exact h4
      · exact absurd (by rw [← e, show v = n from by omega]) h3.1)
    have h5 : l.length ≤ (l.erase (f n)).length + 1 := by
      rw [List.length_erase]; split <;> omega
    omega
/-! A forest that is drawn: its length alone. -/
def neg (l : List Int) : Nat := l.countP (· < 0)
def Inn (n : Int) (l : List Int) : Prop := ∀ k, k < l.length → 0 ≤ l.getD k 0 ∧ l.getD k 0 < n
end Go.Proofs.Ytaogppnbeijjmaa
end

section
/- Matchings that are drawn. -/
set_option linter.unusedSimpArgs false
set_option linter.unusedVariables false
namespace Go.Proofs.Ytaogppnbeijjmaa
open Go Go.Av
attribute [local go_sem] gives_chk gives_ite gives_some gives_bind gives_join Sum.elim_inl Sum.elim_inr decide_eq_true_eq decide_eq_false_iff_not Bool.not_eq_true' Bool.not_eq_false' Bool.or_eq_true Bool.and_eq_true Bool.not_eq_eq_eq_not beq_iff_eq bne_iff_ne ne_eq Bool.or_eq_false_iff Bool.and_eq_false_iff Bool.not_eq_true Bool.not_eq_false Bool.not_true Bool.not_false Int.toNat_natCast beq_eq_false_iff_ne bne_eq_false_iff_eq Decidable.not_not Bool.default_bool

end Go.Proofs.Ytaogppnbeijjmaa
end

section
/- Forests: the tops that both sides find. -/
set_option linter.unusedSimpArgs false
set_option linter.unusedVariables false
namespace Go.Proofs.Ytaogppnbeijjmaa
open Go Go.Av
attribute [local go_sem] gives_chk gives_ite gives_some gives_bind gives_join Sum.elim_inl Sum.elim_inr decide_eq_true_eq decide_eq_false_iff_not Bool.not_eq_true' Bool.not_eq_false' Bool.or_eq_true Bool.and_eq_true Bool.not_eq_eq_eq_not beq_iff_eq bne_iff_ne ne_eq Bool.or_eq_false_iff Bool.and_eq_false_iff Bool.not_eq_true Bool.not_eq_false Bool.not_true Bool.not_false Int.toNat_natCast beq_eq_false_iff_ne bne_eq_false_iff_eq Decidable.not_not Bool.default_bool

end Go.Proofs.Ytaogppnbeijjmaa
end

section
/- Marks that the laws lay into results; forests' laws; better cuts. -/
set_option linter.unusedSimpArgs false
set_option linter.unusedVariables false
namespace Go.Proofs.Ytaogppnbeijjmaa
open Go Go.Av
attribute [local go_sem] gives_chk gives_ite gives_some gives_bind gives_join Sum.elim_inl Sum.elim_inr decide_eq_true_eq decide_eq_false_iff_not Bool.not_eq_true' Bool.not_eq_false' Bool.or_eq_true Bool.and_eq_true Bool.not_eq_eq_eq_not beq_iff_eq bne_iff_ne ne_eq Bool.or_eq_false_iff Bool.and_eq_false_iff Bool.not_eq_true Bool.not_eq_false Bool.not_true Bool.not_false Int.toNat_natCast beq_eq_false_iff_ne bne_eq_false_iff_eq Decidable.not_not Bool.default_bool

def mks {α : Type} (f : Nat → α) (n : Nat) : List α := (List.range n).map f
theorem mks_len {α : Type} (f : Nat → α) (n : Nat) : (mks f n).length = n := by simp [mks]
theorem mks_get {α : Type} {f : Nat → α} {n j : Nat} {d : α} (h : j < n) : (mks f n).getD j d = f j := by
  simp only [mks, List.getD_eq_getElem?_getD, List.getElem?_map, List.getElem?_range h, Option.map_some, Option.getD_some]
theorem mks_succ {α : Type} (f : Nat → α) (n : Nat) : mks f (n + 1) = mks f n ++ [f n] := by
  simp only [mks, List.range_succ, List.map_append, List.map_cons, List.map_nil]
theorem mks_set {α : Type} {f : Nat → α} {xs : List α} {j : Nat} (h : j < xs.length) : (mks f j ++ xs.drop j).set j (f j) = mks f (j + 1) ++ xs.drop (j + 1) := by
  rw [mks_succ, List.set_append_right _ _ (by rw [mks_len]; exact Nat.le_refl _), mks_len, Nat.sub_self, List.append_assoc]
  congr 1
  rw [List.drop_eq_getElem_cons h]; rfl
theorem loop_to {σ S X : Type} (st : σ → S) (ok : σ → Prop) (m : σ → Nat) {body : S → Option (S ⊕ X)} {Q : X → Prop} {s0 : S} (s : σ) (h0 : s0 = st s) (hs : ok s)
    (h : ∀ s, ok s → gives (body (st s)) fun r => match r with | .inl t => ∃ s', ok s' ∧ m s' < m s ∧ t = st s' | .inr x => Q x) : gives (loop body s0) Q := h0 ▸ gives_loop st ok m h s hs
end Go.Proofs.Ytaogppnbeijjmaa
end
