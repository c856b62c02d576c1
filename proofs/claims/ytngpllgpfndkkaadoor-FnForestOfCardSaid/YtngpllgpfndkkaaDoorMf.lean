/- Forests: the way to the top, and the law on depths. -/
import Derived.Test.YtngpllgpfndkkaaDoorMe
set_option linter.unusedSimpArgs false
set_option linter.unusedVariables false
namespace Go.Proofs.YtngpllgpfndkkaaDoor
open Go Go.Av
attribute [local go_sem] gives_chk gives_ite gives_some gives_bind gives_join Sum.elim_inl Sum.elim_inr decide_eq_true_eq decide_eq_false_iff_not Bool.not_eq_true' Bool.not_eq_false' Bool.or_eq_true Bool.and_eq_true Bool.not_eq_eq_eq_not beq_iff_eq bne_iff_ne ne_eq Bool.or_eq_false_iff Bool.and_eq_false_iff Bool.not_eq_true Bool.not_eq_false Bool.not_true Bool.not_false Int.toNat_natCast beq_eq_false_iff_ne bne_eq_false_iff_eq Decidable.not_not Bool.default_bool

/-- The walk to the top: at most f looks; none where it leaves the list or does not end. -/
def endF (xs : List Int) : Nat → Int → Nat → Option (Int × Nat)
  | 0, _, _ => none
  | f + 1, v, s => if v < 0 ∨ (xs.length : Int) ≤ v then none else if xs.getD v.toNat 0 = v then some (v, s) else endF xs f (xs.getD v.toNat 0) (s + 1)
theorem endF_out {xs : List Int} {f s : Nat} {v : Int} (h : v < 0 ∨ (xs.length : Int) ≤ v) : endF xs f v s = none := by
  cases f with
  | zero => rfl
  | succ f => simp only [endF, if_pos h]
theorem endF_found {xs : List Int} {f s : Nat} {v : Int} (hf : 0 < f) (h0 : 0 ≤ v) (h1 : v < (xs.length : Int)) (he : xs.getD v.toNat 0 = v) : endF xs f v s = some (v, s) := by
  cases f with
  | zero => omega
  | succ f => simp only [endF]; rw [if_neg (by omega), if_pos he]
theorem endF_step {xs : List Int} {f f' s : Nat} {v : Int} (hf : f = f' + 1) (h0 : 0 ≤ v) (h1 : v < (xs.length : Int)) (he : ¬ xs.getD v.toNat 0 = v) : endF xs f v s = endF xs f' (xs.getD v.toNat 0) (s + 1) := by
  subst hf
  simp only [endF]; rw [if_neg (by omega), if_neg he]
theorem endF_leaves {xs : List Int} {f s : Nat} {v : Int} (h0 : 0 ≤ v) (h1 : v < (xs.length : Int)) (he : xs.getD v.toNat 0 < 0 ∨ (xs.length : Int) - 1 < xs.getD v.toNat 0) : endF xs f v s = none := by
  cases f with
  | zero => rfl
  | succ f => rw [endF_step rfl h0 h1 (by omega)]; exact endF_out (by omega)
theorem endF_in {xs : List Int} {v w : Int} : ∀ {f s d : Nat}, endF xs f v s = some (w, d) → 0 ≤ v ∧ v < (xs.length : Int) ∧ s ≤ d := by
  intro f
  induction f generalizing v with
  | zero => intro s d h; cases h
  | succ f ih =>
    intro s d h
    by_cases ho : v < 0 ∨ (xs.length : Int) ≤ v
    · rw [endF_out ho] at h; cases h
    · by_cases he : xs.getD v.toNat 0 = v
      · rw [endF_found (by omega) (by omega) (by omega) he] at h; cases h; omega
      · rw [endF_step rfl (by omega) (by omega) he] at h
        have := (ih h).2.2; omega
theorem endF_shift {xs : List Int} {v w : Int} : ∀ {f s d : Nat} (t : Nat), endF xs f v s = some (w, d) → endF xs f v (s + t) = some (w, d + t) := by
  intro f
  induction f generalizing v with
  | zero => intro s d t h; cases h
  | succ f ih =>
    intro s d t h
    by_cases ho : v < 0 ∨ (xs.length : Int) ≤ v
    · rw [endF_out ho] at h; cases h
    · by_cases he : xs.getD v.toNat 0 = v
      · rw [endF_found (by omega) (by omega) (by omega) he] at h; cases h; exact endF_found (by omega) (by omega) (by omega) he
      · rw [endF_step rfl (by omega) (by omega) he] at h ⊢
        have := ih t h; rw [show s + t + 1 = s + 1 + t from by omega]; exact this
theorem endF_back {xs : List Int} {v w : Int} : ∀ {f s d : Nat}, endF xs f v (s + 1) = some (w, d + 1) → endF xs f v s = some (w, d) := by
  intro f
  induction f generalizing v with
  | zero => intro s d h; cases h
  | succ f ih =>
    intro s d h
    by_cases ho : v < 0 ∨ (xs.length : Int) ≤ v
    · rw [endF_out ho] at h; cases h
    · by_cases he : xs.getD v.toNat 0 = v
      · rw [endF_found (by omega) (by omega) (by omega) he] at h; cases h; exact endF_found (by omega) (by omega) (by omega) he
      · rw [endF_step rfl (by omega) (by omega) he] at h ⊢
        exact ih h
theorem endF_more {xs : List Int} {v : Int} {r : Int × Nat} : ∀ {f s : Nat}, endF xs f v s = some r → endF xs (f + 1) v s = some r := by
  intro f
  induction f generalizing v with
  | zero => intro s h; cases h
  | succ f ih =>
    intro s h
    by_cases ho : v < 0 ∨ (xs.length : Int) ≤ v
    · rw [endF_out ho] at h; cases h
    · by_cases he : xs.getD v.toNat 0 = v
      · rw [endF_found (by omega) (by omega) (by omega) he] at h ⊢; exact h
      · rw [endF_step rfl (by omega) (by omega) he] at h ⊢
        exact ih h
def depthF (xs : List Int) (v : Int) : Int := if 16 < xs.length then -1 else match endF xs (xs.length + 1) v 0 with | some r => r.2 | none => -1
theorem depthF_big {xs : List Int} {v : Int} (h : (16 : Int) < xs.length) : depthF xs v = -1 := by unfold depthF; rw [if_pos (by omega)]
theorem depthF_none {xs : List Int} {v : Int} (h : (xs.length : Int) ≤ 16) (he : endF xs (xs.length + 1) v 0 = none) : depthF xs v = -1 := by unfold depthF; rw [if_neg (by omega), he]
theorem depthF_some {xs : List Int} {v : Int} {r : Int × Nat} (h : (xs.length : Int) ≤ 16) (he : endF xs (xs.length + 1) v 0 = some r) : depthF xs v = r.2 := by unfold depthF; rw [if_neg (by omega), he]
def endV : Option (Int × Nat) → Int × Int × Bool
  | some r => (r.1, r.2, true)
  | none => (0, 0, false)
theorem impl_endOf_eq {xs : List Int} {v : Int} (hx : xs.length ≤ 1000000000) : impl_endOf xs v = some (endV (endF xs (xs.length + 1) v 0)) := by
  refine gives_eq.1 ?_
  unfold impl_endOf
  rw [gives_bind]
  refine (gives_loop (Q := fun x : Unit ⊕ Int × Int × Bool => x.elim (fun _ => (0, 0, false)) id = endV (endF xs (xs.length + 1) v 0)) (fun s : Nat × Int => (s.2, (s.1 : Int))) (fun s => s.1 ≤ xs.length + 1 ∧ endF xs (xs.length + 1 - s.1) s.2 s.1 = endF xs (xs.length + 1) v 0) (fun s => xs.length + 1 - s.1) ?_ (0, v) ⟨by simp, rfl⟩).mono ?_
  · rintro ⟨k, u⟩ ⟨hk, he⟩
    simp only at hk he
    simp only [impl_endOf_b0, go_sem]
    refine ⟨fun hc => ⟨fun ho => ?_, fun ho => ⟨by omega, fun hf => ?_, fun hf => ⟨by omega, by omega, (k + 1, xs.getD u.toNat 0), ⟨by simp only; omega, ?_⟩, by simp only; omega, by simp⟩⟩⟩, fun hc => ?_⟩
    · rw [← he, endF_out ho]; rfl
    · rw [← he, endF_found (by omega) (by omega) (by omega) hf]; rfl
    · simp only; rw [← he]; exact (endF_step (by omega) (by omega) (by omega) hf).symm
    · rw [← he, show xs.length + 1 - k = 0 from by omega]; rfl
  · rintro (u | ⟨a, c, e⟩) h
    · exact gives_some.2 h
    · exact gives_some.2 h
/-! A depth is below the number of vertices. -/
theorem pigeon (f : Nat → Nat) : ∀ (n : Nat) (l : List Nat), l.Nodup → (∀ k ∈ l, ∃ v, v < n ∧ f v = k) → l.length ≤ n
  | 0, l, _, h => by
    cases l with
    | nil => exact Nat.le_refl _
    | cons a l => obtain ⟨v, hv, _⟩ := h a List.mem_cons_self; omega
  | n + 1, l, hn, h => by
    have h2 := pigeon f n (l.erase (f n)) (hn.erase _) (fun k hk => by
      have h3 := (List.Nodup.mem_erase_iff hn).1 hk
      obtain ⟨v, hv, e⟩ := h k h3.2
      refine ⟨v, ?_, e⟩
      rcases Nat.lt_or_ge v n with h4 | h4
      · exact h4
      · exact absurd (by rw [← e, show v = n from by omega]) h3.1)
    have h5 : l.length ≤ (l.erase (f n)).length + 1 := by
      rw [List.length_erase]; split <;> omega
    omega
theorem step_depth {xs : List Int} {v w : Int} {d : Nat} (h : endF xs (xs.length + 1) v 0 = some (w, d + 1)) : ¬ xs.getD v.toNat 0 = v ∧ endF xs (xs.length + 1) (xs.getD v.toNat 0) 0 = some (w, d) := by
  have hi := endF_in h
  by_cases he : xs.getD v.toNat 0 = v
  · rw [endF_found (by omega) (by omega) (by omega) he] at h; cases h
  · refine ⟨he, ?_⟩
    rw [endF_step rfl (by omega) (by omega) he] at h
    exact endF_more (endF_back h)
theorem zero_depth {xs : List Int} {v w : Int} (h : endF xs (xs.length + 1) v 0 = some (w, 0)) : xs.getD v.toNat 0 = v := by
  have hi := endF_in h
  by_cases he : xs.getD v.toNat 0 = v
  · exact he
  · rw [endF_step rfl (by omega) (by omega) he] at h
    have := (endF_in h).2.2; omega
theorem all_depths {xs : List Int} {w : Int} : ∀ (d : Nat) (v : Int), endF xs (xs.length + 1) v 0 = some (w, d) → ∀ k, k ≤ d → ∃ u : Nat, u < xs.length ∧ endF xs (xs.length + 1) u 0 = some (w, k)
  | d, v, h, k, hk => by
    by_cases hd : k = d
    · subst hd
      have hi := endF_in h
      exact ⟨v.toNat, by omega, by rw [show ((v.toNat : Nat) : Int) = v from by omega]; exact h⟩
    · cases d with
      | zero => omega
      | succ d => exact all_depths d _ (step_depth h).2 k (by omega)
theorem depth_lt {xs : List Int} {v w : Int} {d : Nat} (h : endF xs (xs.length + 1) v 0 = some (w, d)) : d < xs.length := by
  have := pigeon (fun u => ((endF xs (xs.length + 1) (u : Int) 0).getD (0, 0)).2) xs.length (List.range (d + 1)) List.nodup_range (fun k hk => by
    obtain ⟨u, h1, h2⟩ := all_depths d v h k (by have := List.mem_range.1 hk; omega)
    exact ⟨u, h1, by simp only [h2, Option.getD_some]⟩)
  rw [List.length_range] at this; omega
/-! A forest that is drawn: its length alone. -/
def neg (l : List Int) : Nat := l.countP (· < 0)
theorem neg_set {l : List Int} {x : Int} (hx : 0 ≤ x) : ∀ {i : Nat}, i < l.length → l.getD i 0 < 0 → neg (l.set i x) + 1 = neg l := by
  induction l with
  | nil => intro i hi; simp at hi
  | cons a l ih =>
    intro i hi h
    cases i with
    | zero =>
      simp only [List.getD_cons_zero] at h
      simp only [neg, List.set_cons_zero, List.countP_cons, decide_eq_true_eq, if_pos h, if_neg (show ¬ x < 0 by omega)]
      try omega
    | succ i =>
      simp only [List.getD_cons_succ] at h
      have := ih (i := i) (by simpa using hi) h
      simp only [neg] at this
      simp only [neg, List.set_cons_succ, List.countP_cons]
      omega
theorem neg_le (l : List Int) : neg l ≤ l.length := List.countP_le_length
def Inn (n : Int) (l : List Int) : Prop := ∀ k, k < l.length → 0 ≤ l.getD k 0 ∧ l.getD k 0 < n
theorem Inn.snoc {n x : Int} {l : List Int} (h : Inn n l) (hx : 0 ≤ x ∧ x < n) : Inn n (l ++ [x]) := by
  intro k hk
  simp only [List.length_append, List.length_cons, List.length_nil] at hk
  by_cases h1 : k < l.length
  · rw [show (l ++ [x]).getD k 0 = l.getD k 0 from by simp only [List.getD_eq_getElem?_getD, List.getElem?_append_left h1]]; exact h k h1
  · rw [show (l ++ [x]).getD k 0 = x from by simp only [List.getD_eq_getElem?_getD]; rw [List.getElem?_append_right (by omega), show k - l.length = 0 from by omega]; rfl]; exact hx
theorem forest_in {n : Int} {t6 : Nat} {ys : List Int} (hy : ∀ k, k < ys.length → 0 ≤ ys.getD k 0 ∧ ys.getD k 0 < n) (hyl : ys.length ≤ 16) (hn : n ≤ 16) {fs qs : List Int} (hf : fs.length = n.toNat) (hq : Inn n qs) (ht : t6 < qs.length) (hs : qs.length + neg fs ≤ 17) :
    gives (loop (spec_ForestOf_b0 t6 ys) (0, fs, qs)) fun x => x.1.length = n.toNat ∧ Inn n x.2 ∧ qs.length ≤ x.2.length ∧ x.2.length + neg x.1 = qs.length + neg fs := by
  refine gives_loop (fun s : Nat × List Int × List Int => ((s.1 : Int), s.2.1, s.2.2)) (fun s => s.1 ≤ ys.length ∧ s.2.1.length = n.toNat ∧ Inn n s.2.2 ∧ qs.length ≤ s.2.2.length ∧ s.2.2.length + neg s.2.1 = qs.length + neg fs) (fun s => ys.length - s.1) ?_ (0, fs, qs) ⟨Nat.zero_le _, hf, hq, Nat.le_refl _, rfl⟩
  rintro ⟨k, gs, ps⟩ ⟨hk, hl, hi, hle, he⟩
  simp only at hk hl hi hle he
  simp only [spec_ForestOf_b0, go_sem]
  refine ⟨fun hc => ?_, fun hc => ⟨hl, hi, hle, he⟩⟩
  have h1 := hy k (by omega)
  have h2 := hi t6 (by omega)
  refine ⟨by omega, by omega, fun hneg => ⟨by omega, by omega, by omega, by omega, by omega, by omega, (k + 1, gs.set (ys.getD k 0).toNat (ps.getD t6 0), ps ++ [ys.getD k 0]), ⟨by simp only; omega, by simp only [List.length_set]; exact hl, hi.snoc h1, ?_, ?_⟩, by simp only; omega, by simp⟩, fun hneg => ⟨by omega, (k + 1, gs, ps), ⟨by simp only; omega, hl, hi, hle, he⟩, by simp only; omega, by simp⟩⟩
  · simp only [List.length_append]; omega
  · have := neg_set (l := gs) h2.1 (i := (ys.getD k 0).toNat) (by omega) hneg
    simp only [List.length_append, List.length_cons, List.length_nil]; omega
theorem forest_tree {n : Int} {es : List (Int × Int × Int)} (hg : GOk n es) {fs qs : List Int} (hf : fs.length = n.toNat) (hq : Inn n qs) (hs : qs.length + neg fs ≤ 17) :
    gives (loop (spec_ForestOf_b1 n es) (0, fs, qs)) fun x => x.length = n.toNat ∧ neg x ≤ neg fs := by
  have h0 := hg.1
  have h16 := hg.2.1
  refine gives_loop (fun s : Nat × List Int × List Int => ((s.1 : Int), s.2.1, s.2.2)) (fun s => s.1 ≤ s.2.2.length ∧ s.2.1.length = n.toNat ∧ Inn n s.2.2 ∧ s.2.2.length + neg s.2.1 = qs.length + neg fs ∧ qs.length ≤ s.2.2.length) (fun s => 17 - s.1) ?_ (0, fs, qs) ⟨Nat.zero_le _, hf, hq, rfl, Nat.le_refl _⟩
  rintro ⟨k, gs, ps⟩ ⟨hk, hl, hi, he, hle⟩
  simp only at hk hl hi he hle
  simp only [spec_ForestOf_b1, spec_NearOf_eq hg, go_sem]
  refine ⟨fun hc => ⟨by omega, ?_⟩, fun hc => ⟨hl, by omega⟩⟩
  have hll := nearL_len n es (ps.getD k 0) n.toNat
  refine (forest_in (n := n) (t6 := k) (fun j hj => ?_) (by omega) h16 hl hi (by omega) (by omega)).mono ?_
  · have hm := (nearL_mem (n := n) (es := es) (v := ps.getD k 0) (u := (nearL n es (ps.getD k 0) n.toNat).getD j 0) n.toNat).1 (by
      rw [List.getD_eq_getElem?_getD (l := nearL n es (ps.getD k 0) n.toNat), List.getElem?_eq_getElem hj]; exact List.getElem_mem hj)
    omega
  · rintro ⟨gs', ps'⟩ ⟨a1, a2, a3, a4⟩
    simp only at a1 a2 a3 a4 ⊢
    exact ⟨by omega, (k + 1, gs', ps'), ⟨by simp only; omega, a1, a2, by simp only; omega, by simp only; omega⟩, by simp only; omega, by simp⟩
theorem ForestOf_ok {n : Int} {es : List (Int × Int × Int)} (hn : -9223372036854775808 ≤ n ∧ n ≤ 9223372036854775807) (hx : es.length ≤ 1000000000) : gives (spec_ForestOf n es) fun r => r.length ≤ 16 := by
  unfold spec_ForestOf
  rw [spec_GraphValid_eq hn hx]
  simp only [go_sem, Option.bind_some]
  refine ⟨fun _ => by simp, fun h => ?_⟩
  have hg := of_gok (by simpa using h)
  have h0 := hg.1
  have h16 := hg.2.1
  rw [spec_l8Fill_eq hg.1 (by omega)]
  refine gives_some.2 ?_
  refine (gives_loop (Q := fun x : List Int => x.length = n.toNat) (fun s : Nat × List Int => ((s.1 : Int), s.2)) (fun s => s.1 ≤ n.toNat ∧ s.2.length = n.toNat) (fun s => n.toNat - s.1) ?_ (0, List.replicate n.toNat (-1)) ⟨Nat.zero_le _, by simp⟩).mono fun x hx => by omega
  rintro ⟨k, gs⟩ ⟨hk, hl⟩
  simp only at hk hl
  simp only [spec_ForestOf_b2, go_sem]
  refine ⟨fun hc => ⟨by omega, fun h1 => ⟨by omega, (k + 1, gs), ⟨by simp only; omega, hl⟩, by simp only; omega, by simp⟩, fun h1 => ⟨by omega, ?_⟩⟩, fun hc => hl⟩
  have hng := neg_le gs
  have hns := neg_set (l := gs) (x := (k : Int)) (by omega) (i := k) (by omega) (by omega)
  refine (forest_tree hg (fs := gs.set k (k : Int)) (qs := [(k : Int)]) (by simp only [List.length_set]; exact hl) (fun j hj => ?_) (by simp only [List.length_cons, List.length_nil]; omega)).mono fun x hx => ?_
  · simp only [List.length_cons, List.length_nil] at hj
    rw [show j = 0 from by omega]; simp only [List.getD_cons_zero]; omega
  · exact ⟨by omega, (k + 1, x), ⟨by simp only; omega, hx.1⟩, by simp only; omega, by simp⟩
end Go.Proofs.YtngpllgpfndkkaaDoor
