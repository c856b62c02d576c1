/- A heap of pairs, the least on top: what container/heap does over it. -/
import Derived.Test.YtbdncdmkogbdhaaNf
import Derived.Test.YtbdncdmkogbdhaaNd
set_option linter.unusedSimpArgs false
set_option linter.unusedVariables false
namespace Go.Proofs.Ytbdncdmkogbdhaa
open Go Go.Av
abbrev Pr2 := Int × Int
/-- Less, and at most. -/
def lsP (x y : Pr2) : Prop := x.1 < y.1 ∨ x.1 = y.1 ∧ x.2 < y.2
def leP (x y : Pr2) : Prop := ¬ lsP y x
theorem leP.refl (x : Pr2) : leP x x := by unfold leP lsP; omega
theorem leP.trans {x y z : Pr2} (h : leP x y) (k : leP y z) : leP x z := by unfold leP lsP at *; omega
theorem lsP.le {x y : Pr2} (h : lsP x y) : leP x y := by unfold leP lsP at *; omega
theorem leP.fst {x y : Pr2} (h : leP x y) : x.1 ≤ y.1 := by unfold leP lsP at h; omega
def gP (l : List Pr2) (i : Nat) : Pr2 := l.getD i (0, 0)
theorem gP_set {l : List Pr2} {i j : Nat} {x : Pr2} (hi : i < l.length) : gP (l.set i x) j = if j = i then x else gP l j := by
  unfold gP
  by_cases h : j = i
  · subst h
    rw [if_pos rfl, List.getD_eq_getElem?_getD, List.getElem?_set_self hi]; rfl
  · rw [if_neg h, List.getD_eq_getElem?_getD, List.getElem?_set_ne (Ne.symm h), ← List.getD_eq_getElem?_getD]
/-- Two places exchanged. -/
def swp (l : List Pr2) (i j : Nat) : List Pr2 := (l.set i (gP l j)).set j (gP l i)
theorem swp_len (l : List Pr2) (i j : Nat) : (swp l i j).length = l.length := by simp [swp]
theorem swp_get {l : List Pr2} {i j k : Nat} (hi : i < l.length) (hj : j < l.length) : gP (swp l i j) k = if k = j then gP l i else if k = i then gP l j else gP l k := by
  unfold swp
  rw [gP_set (by simpa using hj), gP_set hi]
theorem swp_perm {l : List Pr2} {i j : Nat} (hi : i < l.length) (hj : j < l.length) : (swp l i j).Perm l := by
  have h := List.set_set_perm hi hj
  have e1 : gP l j = l[j] := by unfold gP; rw [List.getD_eq_getElem?_getD, List.getElem?_eq_getElem hj]; rfl
  have e2 : gP l i = l[i] := by unfold gP; rw [List.getD_eq_getElem?_getD, List.getElem?_eq_getElem hi]; rfl
  unfold swp
  rw [e1, e2]; exact h
theorem Less_eq {l : List Pr2} {i j : Int} (hi : 0 ≤ i ∧ i < l.length) (hj : 0 ≤ j ∧ j < l.length) : ∃ b, impl_reachedHeap_Less l i j = some b ∧ (b = true ↔ lsP (gP l i.toNat) (gP l j.toNat)) := by
  unfold impl_reachedHeap_Less
  rw [chk_pos hi, chk_pos hj, chk_pos hi, chk_pos hj, chk_pos hi, chk_pos hj]
  by_cases h : (l.getD i.toNat (0, 0)).1 = (l.getD j.toNat (0, 0)).1
  · rw [if_neg (by simpa using h)]
    exact ⟨_, rfl, by rw [decide_eq_true_eq]; unfold lsP gP; omega⟩
  · rw [if_pos (by simpa using h)]
    exact ⟨_, rfl, by rw [decide_eq_true_eq]; unfold lsP gP; omega⟩
theorem Swap_eq {l : List Pr2} {i j : Int} (hi : 0 ≤ i ∧ i < l.length) (hj : 0 ≤ j ∧ j < l.length) : impl_reachedHeap_Swap l i j = some (swp l i.toNat j.toNat) := by
  unfold impl_reachedHeap_Swap
  rw [chk_pos hj, chk_pos hi, chk_pos (by rw [List.length_set]; exact hj)]
  rfl
/-- The order of a heap's first N. -/
def HpO (l : List Pr2) (N : Nat) : Prop := ∀ k, 0 < k → k < N → leP (gP l ((k - 1) / 2)) (gP l k)
theorem HpO.top {l : List Pr2} {N : Nat} (h : HpO l N) : ∀ k, k < N → leP (gP l 0) (gP l k) := by
  intro k
  induction k using Nat.strongRecOn with
  | _ k ih =>
    intro hk
    by_cases h0 : k = 0
    · subst h0; exact leP.refl _
    · exact (ih ((k - 1) / 2) (by omega) (by omega)).trans (h k (by omega) hk)
/-- Up: all is in order but what stands at j. -/
def UpI (l : List Pr2) (j : Nat) : Prop := j < l.length ∧ (∀ k, 0 < k → k < l.length → k ≠ j → leP (gP l ((k - 1) / 2)) (gP l k)) ∧
  (0 < j → ∀ k, 0 < k → k < l.length → (k - 1) / 2 = j → leP (gP l ((j - 1) / 2)) (gP l k))
theorem up_ok {l : List Pr2} {j : Nat} (hI : UpI l j) (hl : l.length ≤ 1000000) : gives (container_heap_up l (j : Int)) fun r => r.Perm l ∧ HpO r r.length := by
  unfold container_heap_up
  rw [gives_bind]
  refine (gives_loop (Q := fun r : List Pr2 => r.Perm l ∧ HpO r r.length) (body := container_heap_up_b0) (fun s : Nat × List Pr2 => ((s.1 : Int), s.2)) (fun s => UpI s.2 s.1 ∧ s.2.Perm l) (fun s => s.1) ?_ (j, l) ⟨hI, List.Perm.refl _⟩).mono fun r hr => gives_some.2 hr
  rintro ⟨t, m⟩ ⟨⟨h1, h2, h3⟩, hp⟩
  simp only at h1 h2 h3 hp ⊢
  have hml := hp.length_eq
  unfold container_heap_up_b0
  rw [gives_chk, gives_chk]
  have hdiv : ((t : Int) - 1).tdiv 2 = (((t - 1) / 2 : Nat) : Int) := by
    by_cases h0 : t = 0
    · subst h0; rfl
    · rw [Int.tdiv_eq_ediv_of_nonneg (by omega)]; omega
  rw [hdiv]
  refine ⟨by omega, by omega, ?_⟩
  by_cases h0 : t = 0
  · subst h0
    rw [if_neg (by simp), Option.bind_some, if_pos (by simp)]
    exact gives_some.2 ⟨hp, fun k hk hkl => h2 k hk hkl (by omega)⟩
  · have hne : ((((t - 1) / 2 : Nat) : Int) == (t : Int)) = false := by rw [beq_eq_false_iff_ne]; omega
    rw [hne, if_pos (by rfl)]
    obtain ⟨b, hb1, hb2⟩ := Less_eq (l := m) (i := (t : Int)) (j := (((t - 1) / 2 : Nat) : Int)) (by omega) (by omega)
    rw [Int.toNat_natCast, Int.toNat_natCast] at hb2
    rw [hb1, Option.bind_some]
    cases b with
    | false =>
      rw [if_pos (by rfl)]
      refine gives_some.2 ⟨hp, fun k hk hkl => ?_⟩
      by_cases hkt : k = t
      · subst hkt
        intro hls
        exact absurd (hb2.2 hls) (by simp)
      · exact h2 k hk hkl hkt
    | true =>
      have hls := hb2.1 rfl
      rw [if_neg (by simp), Swap_eq (by omega) (by omega), Option.bind_some, Int.toNat_natCast, Int.toNat_natCast]
      have hpi : (t - 1) / 2 < m.length := by omega
      have hg := fun k => swp_get (l := m) (i := (t - 1) / 2) (j := t) (k := k) hpi h1
      refine gives_some.2 ⟨((t - 1) / 2, swp m ((t - 1) / 2) t), ⟨⟨by rw [swp_len]; exact hpi, fun k hk hkl hkp => ?_, fun h0p k hk hkl hkp => ?_⟩, (swp_perm hpi h1).trans hp⟩, by simp only; omega, rfl⟩
      · rw [swp_len] at hkl
        simp only at hkp ⊢
        rw [hg, hg]
        by_cases hkt : k = t
        · subst hkt
          rw [if_neg (by omega), if_pos rfl, if_pos rfl]
          exact hls.le
        · rw [if_neg hkt, if_neg hkp]
          by_cases hq : (k - 1) / 2 = t
          · rw [if_pos hq]; exact h3 (by omega) k hk hkl hq
          · rw [if_neg hq]
            by_cases hq2 : (k - 1) / 2 = (t - 1) / 2
            · rw [if_pos hq2]
              have := h2 k hk hkl hkt
              rw [hq2] at this
              exact hls.le.trans this
            · rw [if_neg hq2]; exact h2 k hk hkl hkt
      · rw [swp_len] at hkl
        simp only at hkp h0p ⊢
        rw [hg, hg, if_neg (show ¬ ((t - 1) / 2 - 1) / 2 = t by omega), if_neg (show ¬ ((t - 1) / 2 - 1) / 2 = (t - 1) / 2 by omega)]
        have hpar := h2 ((t - 1) / 2) h0p hpi (by omega)
        by_cases hkt : k = t
        · rw [if_pos hkt]; exact hpar
        · rw [if_neg hkt, if_neg (show ¬ k = (t - 1) / 2 by omega)]
          have := h2 k hk hkl hkt
          rw [hkp] at this
          exact hpar.trans this
/-- Down: among the first N all is in order but below i. -/
def DnI (l : List Pr2) (N i : Nat) : Prop := (∀ k, 0 < k → k < N → (k - 1) / 2 ≠ i → leP (gP l ((k - 1) / 2)) (gP l k)) ∧ (0 < i → ∀ k, 0 < k → k < N → (k - 1) / 2 = i → leP (gP l ((i - 1) / 2)) (gP l k))
theorem down_ok {l : List Pr2} {N : Nat} (hN : N < l.length) (hI : DnI l N 0) (hl : l.length ≤ 1000000) :
    gives (container_heap_down l 0 (N : Int)) fun r => r.2.Perm l ∧ HpO r.2 N ∧ gP r.2 N = gP l N ∧ r.2.length = l.length := by
  unfold container_heap_down
  rw [gives_bind]
  refine (gives_loop (Q := fun r : Int × List Pr2 => r.2.Perm l ∧ HpO r.2 N ∧ gP r.2 N = gP l N) (body := container_heap_down_b0 (N : Int)) (fun s : Nat × List Pr2 => ((s.1 : Int), s.2)) (fun s => (s.1 = 0 ∨ s.1 < N) ∧ DnI s.2 N s.1 ∧ s.2.Perm l ∧ gP s.2 N = gP l N) (fun s => N - s.1) ?_ (0, l) ⟨.inl rfl, hI, List.Perm.refl _, rfl⟩).mono ?_
  · rintro ⟨t, m⟩ ⟨ht, ⟨h1, h2⟩, hp, hlast⟩
    simp only at ht h1 h2 hp hlast ⊢
    have hml := hp.length_eq
    unfold container_heap_down_b0
    rw [gives_chk, gives_chk]
    refine ⟨by omega, by omega, ?_⟩
    rw [gives_ite]
    refine ⟨fun hc => ?_, fun hc => ?_⟩
    · simp only [Bool.or_eq_true, decide_eq_true_eq] at hc
      exact gives_some.2 ⟨hp, fun k hk hkl => h1 k hk hkl (by omega), hlast⟩
    · simp only [Bool.or_eq_true, decide_eq_true_eq] at hc
      have hjN : 2 * t + 1 < N := by omega
      have key : ∀ j : Nat, j < N → (j - 1) / 2 = t → 0 < j → (∀ k, 0 < k → k < N → (k - 1) / 2 = t → leP (gP m j) (gP m k)) →
          gives ((impl_reachedHeap_Less m (j : Int) (t : Int)).bind fun y_1 => if (!y_1) = true then some (Sum.inr ((t : Int), m)) else (impl_reachedHeap_Swap m (t : Int) (j : Int)).bind fun y_2 => some (Sum.inl ((j : Int), y_2))) fun r => match r with
            | .inl z => ∃ s' : Nat × List Pr2, ((s'.1 = 0 ∨ s'.1 < N) ∧ DnI s'.2 N s'.1 ∧ s'.2.Perm l ∧ gP s'.2 N = gP l N) ∧ N - s'.1 < N - t ∧ z = ((s'.1 : Int), s'.2)
            | .inr x => x.2.Perm l ∧ HpO x.2 N ∧ gP x.2 N = gP l N := by
        intro j hj hjt hj0 hmin
        obtain ⟨b, hb1, hb2⟩ := Less_eq (l := m) (i := (j : Int)) (j := (t : Int)) (by omega) (by omega)
        rw [Int.toNat_natCast, Int.toNat_natCast] at hb2
        rw [hb1, Option.bind_some]
        cases b with
        | false =>
          rw [if_pos (by rfl)]
          refine gives_some.2 ⟨hp, fun k hk hkl => ?_, hlast⟩
          by_cases hkt : (k - 1) / 2 = t
          · rw [hkt]
            have hle : leP (gP m t) (gP m j) := fun hls => absurd (hb2.2 hls) (by simp)
            exact hle.trans (hmin k hk hkl hkt)
          · exact h1 k hk hkl hkt
        | true =>
          have hls := hb2.1 rfl
          rw [if_neg (by simp), Swap_eq (by omega) (by omega), Option.bind_some, Int.toNat_natCast, Int.toNat_natCast]
          have htl : t < m.length := by omega
          have hjl : j < m.length := by omega
          have hg := fun k => swp_get (l := m) (i := t) (j := j) (k := k) htl hjl
          refine gives_some.2 ⟨(j, swp m t j), ⟨.inr hj, ⟨fun k hk hkl hkp => ?_, fun _ k hk hkl hkp => ?_⟩, (swp_perm htl hjl).trans hp, by simp only; rw [hg, if_neg (by omega), if_neg (by omega)]; exact hlast⟩, by simp only; omega, rfl⟩
          · simp only at hkp ⊢
            rw [hg, hg, if_neg hkp]
            by_cases hkj : k = j
            · subst hkj
              rw [hjt, if_pos rfl, if_pos rfl]
              exact hls.le
            · rw [if_neg hkj]
              by_cases hkt : k = t
              · subst hkt
                rw [if_pos rfl, if_neg (show ¬ (k - 1) / 2 = k by omega)]
                exact h2 hk j hj0 hj hjt
              · rw [if_neg hkt]
                by_cases hq : (k - 1) / 2 = t
                · rw [if_pos hq]; exact hmin k hk hkl hq
                · rw [if_neg hq]; exact h1 k hk hkl hq
          · simp only at hkp ⊢
            rw [hg, hg, hjt, if_neg (show ¬ t = j by omega), if_pos rfl, if_neg (show ¬ k = j by omega), if_neg (show ¬ k = t by omega)]
            have := h1 k hk hkl (by omega)
            rw [hkp] at this
            exact this
      rw [gives_join, gives_chk, gives_bind]
      refine ⟨by omega, ?_⟩
      have e1 : (2 * (t : Int) + 1) = ((2 * t + 1 : Nat) : Int) := by omega
      have e2 : ((2 * (t : Int) + 1) + 1) = ((2 * t + 2 : Nat) : Int) := by omega
      rw [e1] at *
      rw [show (((2 * t + 1 : Nat) : Int) + 1) = ((2 * t + 2 : Nat) : Int) from by omega]
      by_cases h2N : 2 * t + 2 < N
      · rw [if_pos (by simp only [decide_eq_true_eq]; omega)]
        obtain ⟨b, hb1, hb2⟩ := Less_eq (l := m) (i := ((2 * t + 2 : Nat) : Int)) (j := ((2 * t + 1 : Nat) : Int)) (by omega) (by omega)
        rw [Int.toNat_natCast, Int.toNat_natCast] at hb2
        rw [hb1]
        refine gives_some.2 ?_
        cases b with
        | true =>
          have hls := hb2.1 rfl
          rw [if_pos (by simp only [Bool.and_true, decide_eq_true_eq]; omega)]
          refine (key (2 * t + 2) h2N (by omega) (by omega) fun k hk hkl hkt => ?_).mono fun r hr => by cases r <;> exact hr
          have hk2 : k = 2 * t + 1 ∨ k = 2 * t + 2 := by omega
          rcases hk2 with rfl | rfl
          · exact hls.le
          · exact leP.refl _
        | false =>
          rw [if_neg (by simp)]
          refine (key (2 * t + 1) hjN (by omega) (by omega) fun k hk hkl hkt => ?_).mono fun r hr => by cases r <;> exact hr
          have hk2 : k = 2 * t + 1 ∨ k = 2 * t + 2 := by omega
          rcases hk2 with rfl | rfl
          · exact leP.refl _
          · exact fun hls => absurd (hb2.2 hls) (by simp)
      · rw [if_neg (by simp only [decide_eq_true_eq]; omega)]
        refine gives_some.2 ?_
        rw [if_neg (by simp only [Bool.and_eq_true, decide_eq_true_eq]; omega)]
        refine (key (2 * t + 1) hjN (by omega) (by omega) fun k hk hkl hkt => ?_).mono fun r hr => by cases r <;> exact hr
        have hk2 : k = 2 * t + 1 := by omega
        rw [hk2]; exact leP.refl _
  · rintro ⟨x, r⟩ ⟨h1, h2, h3⟩
    exact gives_some.2 ⟨h1, h2, h3, h1.length_eq⟩
theorem Push_ok {l : List Pr2} {a b : Int} (hl : l.length ≤ 900000) (hO : HpO l l.length) : gives (container_heap_Push l a b) fun r => r.Perm ((a, b) :: l) ∧ HpO r r.length := by
  unfold container_heap_Push impl_reachedHeap_Push impl_reachedHeap_Len
  rw [chk_pos (by omega), Option.bind_some, Option.bind_some, chk_pos (by simp only [List.length_append, List.length_cons, List.length_nil]; omega), gives_bind]
  have e1 : (((l ++ [(a, b)]).length : Int) - 1) = (l.length : Int) := by simp
  rw [e1]
  have hgl : ∀ k, k < l.length → gP (l ++ [(a, b)]) k = gP l k := fun k hk => by
    unfold gP; rw [List.getD_eq_getElem?_getD, List.getElem?_append_left hk, ← List.getD_eq_getElem?_getD]
  refine (up_ok (l := l ++ [(a, b)]) (j := l.length) ⟨by simp, fun k hk hkl hkj => ?_, fun h0 k hk hkl hkj => ?_⟩ (by simp; omega)).mono fun r hr => gives_some.2 ⟨hr.1.trans ?_, hr.2⟩
  · simp only [List.length_append, List.length_cons, List.length_nil] at hkl
    rw [hgl k (by omega), hgl _ (by omega)]
    exact hO k hk (by omega)
  · simp only [List.length_append, List.length_cons, List.length_nil] at hkl
    omega
  · exact List.perm_append_comm.trans (by rfl)
theorem Pop_ok {l : List Pr2} (h0 : 0 < l.length) (hl : l.length ≤ 900000) (hO : HpO l l.length) :
    gives (container_heap_Pop l) fun r => l.Perm ((r.1, r.2.1) :: r.2.2) ∧ HpO r.2.2 r.2.2.length ∧ ∀ y ∈ l, leP (r.1, r.2.1) y := by
  unfold container_heap_Pop impl_reachedHeap_Len
  rw [Option.bind_some, chk_pos (by omega), gives_bind, Swap_eq (by omega) (by omega)]
  refine gives_some.2 ?_
  obtain ⟨N, hN⟩ : ∃ N, l.length = N + 1 := ⟨l.length - 1, by omega⟩
  have e1 : ((l.length : Int) - 1) = (N : Int) := by omega
  rw [e1, Int.toNat_natCast, Int.toNat_zero]
  have hg := fun k => swp_get (l := l) (i := 0) (j := N) (k := k) h0 (by omega)
  rw [gives_bind]
  refine (down_ok (l := swp l 0 N) (N := N) (by rw [swp_len]; omega) ⟨fun k hk hkl hkp => ?_, fun h => absurd h (by omega)⟩ (by rw [swp_len]; omega)).mono ?_
  · rw [hg, hg, if_neg (by omega), if_neg hkp, if_neg (by omega), if_neg (by omega)]
    exact hO k hk (by omega)
  · rintro ⟨x, r⟩ ⟨h1, h2, h3, h4⟩
    simp only at h1 h2 h3 h4 ⊢
    rw [swp_len] at h4
    unfold impl_reachedHeap_Pop
    rw [chk_pos (by omega), chk_pos (by omega), chk_pos (by omega), Option.bind_some]
    have e2 : ((r.length : Int) - 1).toNat = N := by omega
    rw [e2]
    have hrN : gP r N = gP l 0 := by rw [h3, hg, if_pos rfl]
    have hp : r.Perm l := h1.trans (swp_perm h0 (by omega))
    have hrt : r = r.take N ++ [gP r N] := by
      have hlt : N < r.length := by omega
      have := List.take_append_getElem hlt
      rw [List.take_of_length_le (by omega : r.length ≤ N + 1)] at this
      rw [show gP r N = r[N] from by unfold gP; rw [List.getD_eq_getElem?_getD, List.getElem?_eq_getElem hlt]; rfl]
      exact this.symm
    refine gives_some.2 ⟨?_, ?_, fun y hy => ?_⟩
    · simp only [List.drop_zero]
      refine hp.symm.trans ?_
      have : (r.take N ++ [gP r N]).Perm (gP r N :: r.take N) := List.perm_append_comm.trans (by rfl)
      rw [← hrt] at this
      exact this
    · simp only [List.drop_zero]
      intro k hk hkl
      rw [List.length_take] at hkl
      have hgt : ∀ k, k < N → gP (r.take N) k = gP r k := fun k hk => by
        unfold gP; rw [List.getD_eq_getElem?_getD, List.getElem?_take_of_lt hk, ← List.getD_eq_getElem?_getD]
      rw [hgt k (by omega), hgt _ (by omega)]
      exact h2 k hk (by omega)
    · have : (((r.getD N (0, 0)).1, (r.getD N (0, 0)).2) : Pr2) = gP l 0 := hrN
      simp only
      rw [this]
      obtain ⟨k, hk, rfl⟩ := List.getElem_of_mem hy
      have := hO.top k hk
      rw [show gP l k = l[k] from by unfold gP; rw [List.getD_eq_getElem?_getD, List.getElem?_eq_getElem hk]; rfl] at this
      exact this
end Go.Proofs.Ytbdncdmkogbdhaa
