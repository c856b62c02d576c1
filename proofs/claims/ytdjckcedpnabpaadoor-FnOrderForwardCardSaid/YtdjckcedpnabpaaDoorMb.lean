/- What the functions taken out compute: colors and orders. -/
import Derived.Test.YtdjckcedpnabpaaDoorMa
set_option linter.unusedSimpArgs false
set_option linter.unusedVariables false
namespace Go.Proofs.YtdjckcedpnabpaaDoor
open Go Go.Av
attribute [local go_sem] gives_chk gives_ite gives_some gives_bind gives_join Sum.elim_inl Sum.elim_inr decide_eq_true_eq decide_eq_false_iff_not Bool.not_eq_true' Bool.not_eq_false' Bool.or_eq_true Bool.and_eq_true Bool.not_eq_eq_eq_not beq_iff_eq bne_iff_ne ne_eq Bool.or_eq_false_iff Bool.and_eq_false_iff Bool.not_eq_true Bool.not_eq_false Bool.not_true Bool.not_false Int.toNat_natCast beq_eq_false_iff_ne bne_eq_false_iff_eq Decidable.not_not Bool.default_bool

open Classical in
/-- A loop that goes on as long as p holds. -/
theorem loop_scan {S X : Type} {N : Nat} {p : Nat → Prop} (st : Nat → S) (x y : X) {body : S → Option (S ⊕ X)}
    (hb : ∀ k, k ≤ N → (∀ j, j < k → p j) → body (st k) = if k < N then (if p k then some (.inl (st (k + 1))) else some (.inr y)) else some (.inr x)) :
    loop body (st 0) = some (if ∀ k, k < N → p k then x else y) := by
  refine gives_eq.1 ?_
  refine gives_loop st (fun k => k ≤ N ∧ ∀ j, j < k → p j) (fun k => N - k) ?_ 0 ⟨Nat.zero_le _, fun j hj => absurd hj (by omega)⟩
  intro k hs
  rw [hb k hs.1 hs.2]
  split
  · rename_i h
    split
    · rename_i he
      refine gives_some.2 ⟨k + 1, ⟨by omega, fun j hj => ?_⟩, by omega, rfl⟩
      by_cases hjk : j = k
      · subst hjk; exact he
      · exact hs.2 j (by omega)
    · rename_i he
      refine gives_some.2 ?_
      rw [if_neg]; intro e; exact he (e k h)
  · refine gives_some.2 ?_
    rw [if_pos (fun j hj => hs.2 j (by omega))]
theorem of_gokb {n : Int} {es : List (Int × Int × Int)} {q : Prop} (h : ¬ (gok n es = false ∨ ¬ q)) : GOk n es ∧ q := by
  cases hg : gok n es
  · exact absurd (.inl hg) h
  · exact ⟨of_gok hg, Classical.byContradiction fun hq => h (.inr hq)⟩

/-! Colors. -/
def ColOk (n : Int) (es : List (Int × Int × Int)) (cs : List Int) : Prop := GOk n es ∧ (cs.length : Int) = n ∧ (∀ k, k < cs.length → 0 ≤ cs.getD k 0) ∧
  ∀ k, k < es.length → ¬ cs.getD (es.getD k (0, 0, 0)).1.toNat 0 = cs.getD (es.getD k (0, 0, 0)).2.1.toNat 0
open Classical in
noncomputable def yes (p : Prop) : Bool := decide p
theorem yes_true {p : Prop} (h : p) : yes p = true := by simp [yes, h]
theorem yes_false {p : Prop} (h : ¬ p) : yes p = false := by simp [yes, h]
noncomputable def colOk (n : Int) (es : List (Int × Int × Int)) (cs : List Int) : Bool := yes (ColOk n es cs)
/-! Orders. -/
theorem spec_l8Fill_eq {n v : Int} (h0 : 0 ≤ n) (h1 : n ≤ 1000000) : spec_l8Fill n v = some (List.replicate n.toNat v) := by
  refine gives_eq.1 ?_
  unfold spec_l8Fill
  simp only [go_sem]
  refine gives_loop (fun k : Nat => ((k : Int), List.replicate k v)) (fun k => (k : Int) ≤ n) (fun k => n.toNat - k) ?_ 0 h0
  intro k hs
  simp only [spec_l8Fill_b0, go_sem, List.length_replicate]
  refine ⟨fun hc => ⟨by omega, by omega, k + 1, by omega, by omega, ?_⟩, fun hc => by rw [show n.toNat = k from by omega]⟩
  rw [List.replicate_succ']; rfl
theorem impl_unknowns_eq {n : Int} (h0 : 0 ≤ n) (h1 : n ≤ 1000000) : impl_unknowns n = some (List.replicate n.toNat (-1)) := by
  refine gives_eq.1 ?_
  unfold impl_unknowns
  simp only [go_sem]
  refine ⟨by omega, ?_⟩
  refine gives_loop (fun k : Nat => ((k : Int), List.replicate k (-1) ++ List.replicate (n.toNat - k) 0)) (fun k => (k : Int) ≤ n) (fun k => n.toNat - k) ?_ 0 h0
  intro k hs
  simp only [impl_unknowns_b0, go_sem, List.length_replicate, List.length_append]
  refine ⟨fun hc => ⟨by omega, by omega, k + 1, by omega, by omega, ?_⟩, fun hc => by rw [show n.toNat = k from by omega]; simp⟩
  have h2 : n.toNat - k = (n.toNat - (k + 1)) + 1 := by omega
  rw [List.set_append_right _ _ (by simp), List.length_replicate, Nat.sub_self, h2, List.replicate_succ, List.set_cons_zero, List.replicate_succ']
  simp
/-- The places after k entries of an order. -/
def plF (n : Int) (os : List Int) : Nat → List Int
  | 0 => List.replicate n.toNat (-1)
  | k + 1 => (plF n os k).set (os.getD k 0).toNat (k : Int)
def PlOk (n : Int) (os : List Int) (k : Nat) : Prop := 0 ≤ os.getD k 0 ∧ os.getD k 0 < n ∧ (plF n os k).getD (os.getD k 0).toNat 0 = -1
theorem plF_len (n : Int) (os : List Int) : ∀ k, (plF n os k).length = n.toNat
  | 0 => by simp [plF]
  | k + 1 => by simp [plF, plF_len n os k]
theorem plF_val {n : Int} {os : List Int} : ∀ (k i : Nat), i < n.toNat → (plF n os k).getD i 0 = -1 ∨ 0 ≤ (plF n os k).getD i 0
  | 0, i, hi => by left; simp [plF, hi]
  | k + 1, i, hi => by
    have ih := plF_val (n := n) (os := os) k i hi
    simp only [plF]
    by_cases hh : (os.getD k 0).toNat < n.toNat
    · rw [getD_set _ _ _ _ _ (by rw [plF_len]; exact hh)]
      split
      · right; omega
      · exact ih
    · rw [List.set_eq_of_length_le (by rw [plF_len]; omega)]; exact ih
def OrdOk (n : Int) (es : List (Int × Int × Int)) (os : List Int) : Prop := GOk n es ∧ (os.length : Int) = n ∧ (∀ k, k < os.length → PlOk n os k) ∧
  ∀ k, k < es.length → (plF n os os.length).getD (es.getD k (0, 0, 0)).1.toNat 0 < (plF n os os.length).getD (es.getD k (0, 0, 0)).2.1.toNat 0
noncomputable def ordOk (n : Int) (es : List (Int × Int × Int)) (os : List Int) : Bool := yes (OrdOk n es os)
theorem ord_edges {n : Int} {es : List (Int × Int × Int)} {pl : List Int} (hg : GOk n es) (hl : pl.length = n.toNat) {body : Int → Option (Int ⊕ (Unit ⊕ Unit))} (he : body = impl_OrderForward_b1 es pl) : gives (loop body 0) fun x =>
    (match x with | .inl _ => ∀ k, k < es.length → pl.getD (es.getD k (0, 0, 0)).1.toNat 0 < pl.getD (es.getD k (0, 0, 0)).2.1.toNat 0 | .inr _ => ¬ ∀ k, k < es.length → pl.getD (es.getD k (0, 0, 0)).1.toNat 0 < pl.getD (es.getD k (0, 0, 0)).2.1.toNat 0) := by
  have h := loop_scan (N := es.length) (p := fun k => pl.getD (es.getD k (0, 0, 0)).1.toNat 0 < pl.getD (es.getD k (0, 0, 0)).2.1.toNat 0) (fun k : Nat => (k : Int)) (Sum.inl () : Unit ⊕ Unit) (Sum.inr ()) (body := body) (fun k hk _ => by
    subst he
    simp only [impl_OrderForward_b1, Int.toNat_natCast, decide_eq_true_eq]
    have hle := hg.2.2.1
    by_cases h : k < es.length
    · have he := gok_len hg h
      simp only [EOk] at he
      rw [if_pos (by omega), if_pos h, chk_pos (by omega), chk_pos (by omega), chk_pos (by omega)]
      by_cases h2 : pl.getD (es.getD k (0, 0, 0)).1.toNat 0 < pl.getD (es.getD k (0, 0, 0)).2.1.toNat 0
      · rw [if_neg (by omega), if_pos h2, chk_pos (by omega)]; rfl
      · rw [if_pos (by omega), if_neg h2]
    · rw [if_neg (by omega), if_neg h])
  refine ⟨_, h, ?_⟩
  split <;> assumption
theorem ord_places {n : Int} {es : List (Int × Int × Int)} {os : List Int} (hg : GOk n es) (hl : (os.length : Int) = n) {body : Int × List Int → Option ((Int × List Int) ⊕ (List Int ⊕ Unit))} (hb : body = impl_OrderForward_b0 n es os ∨ body = spec_OrderForward_b0 n os) :
    gives (loop body (0, List.replicate n.toNat (-1))) fun x => (match x with | .inl pl => pl = plF n os os.length ∧ ∀ k, k < os.length → PlOk n os k | .inr _ => ¬ ∀ k, k < os.length → PlOk n os k) := by
  have h := loop_scan (N := os.length) (p := PlOk n os) (fun k : Nat => ((k : Int), plF n os k)) (Sum.inl (plF n os os.length) : List Int ⊕ Unit) (Sum.inr ()) (body := body) (fun k hk _ => by
    have h0 := hg.1
    have h16 := hg.2.1
    have hlen := plF_len n os k
    rcases hb with rfl | rfl
    · simp only [impl_OrderForward_b0, impl_has_eq, Int.toNat_natCast, decide_eq_true_eq, Option.bind_some]
      by_cases h : k < os.length
      · rw [if_pos (by omega), if_pos h, chk_pos (by omega), chk_pos (by simp only [Bool.not_eq_false', decide_eq_true_eq]; omega)]
        by_cases h2 : PlOk n os k
        · have h3 := h2
          obtain ⟨p1, p2, p3⟩ := h3
          rw [if_neg (by simp only [Bool.or_eq_true, Bool.not_eq_true', decide_eq_false_iff_not, bne_iff_ne, ne_eq]; omega), if_pos h2, chk_pos (by omega), chk_pos (by omega)]; rfl
        · rw [if_pos, if_neg h2]
          simp only [Bool.or_eq_true, Bool.not_eq_true', decide_eq_false_iff_not, bne_iff_ne, ne_eq]
          by_cases h4 : 0 ≤ os.getD k 0 ∧ os.getD k 0 < n
          · exact .inr fun h5 => h2 ⟨h4.1, h4.2, h5⟩
          · exact .inl h4
      · rw [if_neg (by omega), if_neg h, show k = os.length from by omega]
    · simp only [spec_OrderForward_b0, Int.toNat_natCast, decide_eq_true_eq]
      by_cases h : k < os.length
      · rw [if_pos (by omega), if_pos h, chk_pos (by omega), chk_pos (by omega), chk_pos (by simp only [Bool.not_eq_false', decide_eq_true_eq, Bool.and_eq_true]; omega), chk_pos (by simp only [Bool.not_eq_false', decide_eq_true_eq, Bool.and_eq_true]; omega)]
        by_cases h2 : PlOk n os k
        · have h3 := h2
          obtain ⟨p1, p2, p3⟩ := h3
          rw [if_neg (by simp only [Bool.or_eq_true, Bool.not_eq_true', Bool.and_eq_false_iff, decide_eq_false_iff_not, decide_eq_true_eq]; omega), if_pos h2, chk_pos (by omega), chk_pos (by omega), chk_pos (by omega)]; rfl
        · rw [if_pos, if_neg h2]
          simp only [Bool.or_eq_true, Bool.not_eq_true', Bool.and_eq_false_iff, decide_eq_false_iff_not, decide_eq_true_eq]
          by_cases h4 : 0 ≤ os.getD k 0 ∧ os.getD k 0 < n
          · right
            rcases plF_val (n := n) (os := os) k (os.getD k 0).toNat (by omega) with h5 | h5
            · exact absurd ⟨h4.1, h4.2, h5⟩ h2
            · exact h5
          · left; omega
      · rw [if_neg (by omega), if_neg h, show k = os.length from by omega])
  refine ⟨_, h, ?_⟩
  split
  · rename_i h1; exact ⟨rfl, h1⟩
  · assumption
theorem impl_OrderForward_eq {n : Int} {es : List (Int × Int × Int)} {os : List Int} : impl_OrderForward n es os = some (ordOk n es os) := by
  refine gives_eq.1 ?_
  unfold impl_OrderForward ordOk
  rw [impl_GraphValid_eq]
  simp only [go_sem, Option.bind_some]
  refine ⟨fun h => ?_, fun h => ?_⟩
  · refine (yes_false ?_).symm; rintro ⟨h1, h2, _⟩
    rcases h with h | h
    · rw [gok_true h1] at h; cases h
    · exact h h2
  · obtain ⟨hg, hl⟩ := of_gokb h
    have h16 := hg.2.1
    rw [impl_unknowns_eq hg.1 (by omega)]
    refine gives_some.2 ((ord_places hg hl (.inl rfl)).mono ?_)
    rintro (pl | _) h1 <;> simp only [go_sem] at h1 ⊢
    · obtain ⟨rfl, h1⟩ := h1
      refine (ord_edges hg (plF_len _ _ _) rfl).mono ?_
      rintro (_ | _) h2 <;> simp only [go_sem] at h2 ⊢
      · exact (yes_true ⟨hg, hl, h1, h2⟩).symm
      · exact (yes_false (fun hh => h2 hh.2.2.2)).symm
    · exact (yes_false (fun hh => h1 hh.2.2.1)).symm
theorem spec_OrderForward_eq {n : Int} {es : List (Int × Int × Int)} {os : List Int} (hn : -9223372036854775808 ≤ n ∧ n ≤ 9223372036854775807) (hx : es.length ≤ 1000000000) : spec_OrderForward n es os = some (ordOk n es os) := by
  refine gives_eq.1 ?_
  unfold spec_OrderForward ordOk
  rw [spec_GraphValid_eq hn hx]
  simp only [go_sem, Option.bind_some]
  refine ⟨fun h => ?_, fun h => ?_⟩
  · refine (yes_false ?_).symm; rintro ⟨h1, h2, _⟩
    rcases h with h | h
    · rw [gok_true h1] at h; cases h
    · exact h h2
  · obtain ⟨hg, hl⟩ := of_gokb h
    have h16 := hg.2.1
    rw [spec_l8Fill_eq hg.1 (by omega)]
    refine gives_some.2 ((ord_places hg hl (.inr rfl)).mono ?_)
    rintro (pl | _) h1 <;> simp only [go_sem] at h1 ⊢
    · obtain ⟨rfl, h1⟩ := h1
      refine (ord_edges hg (plF_len _ _ _) rfl).mono ?_
      rintro (_ | _) h2 <;> simp only [go_sem] at h2 ⊢
      · exact (yes_true ⟨hg, hl, h1, h2⟩).symm
      · exact (yes_false (fun hh => h2 hh.2.2.2)).symm
    · exact (yes_false (fun hh => h1 hh.2.2.1)).symm
end Go.Proofs.YtdjckcedpnabpaaDoor
