/- Cores, degrees, parts and triangles of a turned graph. -/
import Derived.Test.YtdjckcedpnabpaaDoorMl
import Derived.Test.YtdjckcedpnabpaaDoorNe
set_option linter.unusedSimpArgs false
set_option linter.unusedVariables false
namespace Go.Proofs.YtdjckcedpnabpaaDoor
open Go Go.Av
attribute [local go_sem] gives_chk gives_ite gives_some gives_bind gives_join Sum.elim_inl Sum.elim_inr decide_eq_true_eq decide_eq_false_iff_not Bool.not_eq_true' Bool.not_eq_false' Bool.or_eq_true Bool.and_eq_true Bool.not_eq_eq_eq_not beq_iff_eq bne_iff_ne ne_eq Bool.or_eq_false_iff Bool.and_eq_false_iff Bool.not_eq_true Bool.not_eq_false Bool.not_true Bool.not_false Int.toNat_natCast beq_eq_false_iff_ne bne_eq_false_iff_eq Decidable.not_not Bool.default_bool

/-! Sizes of sets. -/
theorem selL_mono {p q : Nat → Bool} : ∀ {n : Nat}, (∀ w, w < n → p w = true → q w = true) → (selL p n).length ≤ (selL q n).length
  | 0, _ => Nat.le_refl _
  | n + 1, h => by
    have ih := selL_mono (p := p) (q := q) (n := n) fun w hw => h w (by omega)
    have := h n (by omega)
    simp only [selL]
    by_cases hp : p n = true
    · rw [if_pos hp, if_pos (this hp)]; simp; omega
    · rw [if_neg hp]; split
      · simp; omega
      · exact ih
theorem selL_less {p q : Nat → Bool} {v : Nat} : ∀ {n : Nat}, (∀ w, w < n → p w = true → q w = true) → v < n → q v = true → p v = false → (selL p n).length < (selL q n).length
  | 0, _, hv, _, _ => absurd hv (Nat.not_lt_zero _)
  | n + 1, h, hv, h1, h2 => by
    simp only [selL]
    by_cases hvn : v = n
    · subst hvn
      have ih := selL_mono (p := p) (q := q) (n := v) fun w hw => h w (by omega)
      rw [if_neg (by rw [h2]; simp), if_pos h1]; simp; omega
    · have ih := selL_less (p := p) (q := q) (n := n) (fun w hw => h w (by omega)) (by omega) h1 h2
      have := h n (by omega)
      by_cases hp : p n = true
      · rw [if_pos hp, if_pos (this hp)]; simp; omega
      · rw [if_neg hp]; split
        · simp; omega
        · exact ih
theorem selL_filter {p q : Nat → Bool} : ∀ n, (selL p n).filter (fun x => q x.toNat) = selL (fun w => p w && q w) n
  | 0 => rfl
  | n + 1 => by
    have ih := selL_filter (p := p) (q := q) n
    simp only [selL]
    by_cases hp : p n = true
    · rw [if_pos hp, List.filter_append, ih]
      by_cases hq : q n = true
      · simp [hp, hq]
      · simp [hp, hq]
    · rw [if_neg hp, ih]; simp [hp]
/-! Cores. -/
/-- Neighbours in a set. -/
noncomputable def dg (n : Nat) (es : List (Int × Int × Int)) (v : Nat) (T : Nat → Bool) : Nat := (selL (fun w => yes (Adj es (v : Int) (w : Int)) && T w) n).length
def Stab (n : Nat) (es : List (Int × Int × Int)) (k : Nat) (S : Nat → Bool) : Prop := ∀ v, S v = true → v < n ∧ k ≤ dg n es v S
def InK (n : Nat) (es : List (Int × Int × Int)) (k v : Nat) : Prop := ∃ S, Stab n es k S ∧ S v = true
/-- All stable sets are in it. -/
def PI (n : Nat) (es : List (Int × Int × Int)) (k : Nat) (T : Nat → Bool) : Prop := ∀ S, Stab n es k S → ∀ v, S v = true → T v = true
theorem dg_mono {n : Nat} {es : List (Int × Int × Int)} {v : Nat} {S T : Nat → Bool} (h : ∀ w, S w = true → T w = true) : dg n es v S ≤ dg n es v T :=
  selL_mono fun w _ hw => by rw [Bool.and_eq_true] at hw ⊢; exact ⟨hw.1, h w hw.2⟩
theorem dg_lt {n : Int} {es : List (Int × Int × Int)} (hg : GOk n es) {v : Nat} (hv : v < n.toNat) (T : Nat → Bool) : dg n.toNat es v T < n.toNat := by
  have h := selL_less (p := fun w => yes (Adj es (v : Int) (w : Int)) && T w) (q := fun _ => true) (n := n.toNat) (fun _ _ _ => rfl) hv rfl (by
    rw [Bool.and_eq_false_iff]; left
    refine yes_false fun ha => ?_
    rcases ha with ha | ha <;> (obtain ⟨j, hj, e1, e2⟩ := ha; have := gok_len hg hj; simp only [EOk] at this; omega))
  have := selL_len (fun _ => true) n.toNat
  unfold dg
  omega
theorem PI.rm {n k v : Nat} {es : List (Int × Int × Int)} {T U : Nat → Bool} (h : PI n es k T) (hd : dg n es v T < k) (hU : ∀ w, T w = true → w ≠ v → U w = true) : PI n es k U := by
  intro S hS w hw
  refine hU w (h S hS w hw) fun e => ?_
  subst e
  have h1 := (hS w hw).2
  have h2 := dg_mono (n := n) (es := es) (v := w) (h S hS)
  omega
theorem PI.iff {n k : Nat} {es : List (Int × Int × Int)} {T : Nat → Bool} (h : PI n es k T) (hs : Stab n es k T) (v : Nat) : T v = true ↔ InK n es k v :=
  ⟨fun hv => ⟨T, hs, hv⟩, fun ⟨S, hS, hv⟩ => h S hS v hv⟩
theorem Stab.less {n j k : Nat} {es : List (Int × Int × Int)} {S : Nat → Bool} (h : Stab n es k S) (hj : j ≤ k) : Stab n es j S := fun v hv => ⟨(h v hv).1, by have := (h v hv).2; omega⟩
theorem InK.less {n j k v : Nat} {es : List (Int × Int × Int)} (h : InK n es k v) (hj : j ≤ k) : InK n es j v := by
  obtain ⟨S, hS, hv⟩ := h; exact ⟨S, hS.less hj, hv⟩
theorem ink_zero {n v : Nat} {es : List (Int × Int × Int)} : InK n es 0 v ↔ v < n :=
  ⟨fun ⟨S, hS, hv⟩ => (hS v hv).1, fun h => ⟨fun w => decide (w < n), fun w hw => ⟨by simpa using hw, Nat.zero_le _⟩, by simpa using h⟩⟩
theorem ink_lt {n : Int} {k v : Nat} {es : List (Int × Int × Int)} (hg : GOk n es) (h : InK n.toNat es k v) : k < n.toNat := by
  obtain ⟨S, hS, hv⟩ := h
  have h1 := hS v hv
  have := dg_lt hg h1.1 S
  omega
def CV (n : Nat) (es : List (Int × Int × Int)) (v : Nat) (x : Int) : Prop := ∃ k : Nat, x = (k : Int) ∧ InK n es k v ∧ ¬ InK n es (k + 1) v
theorem CV.uniq {n v : Nat} {es : List (Int × Int × Int)} {x y : Int} (h : CV n es v x) (g : CV n es v y) : x = y := by
  obtain ⟨k, h1, h2, h3⟩ := h
  obtain ⟨j, g1, g2, g3⟩ := g
  rcases Nat.lt_trichotomy j k with h | h | h
  · exact absurd (h2.less (show j + 1 ≤ k by omega)) g3
  · omega
  · exact absurd (g2.less (show k + 1 ≤ j by omega)) h3
def CL (n : Nat) (es : List (Int × Int × Int)) (r : List Int) : Prop := r.length = n ∧ ∀ v, v < n → CV n es v (r.getD v 0)
theorem CL.uniq {n : Nat} {es : List (Int × Int × Int)} {d e : List Int} (h : CL n es d) (g : CL n es e) : d = e :=
  list_eq_of (d := 0) (by rw [h.1, g.1]) fun v hv => (h.2 v (by rw [← h.1]; exact hv)).uniq (g.2 v (by rw [← h.1]; exact hv))
/-- After k rounds. -/
def CR (n : Nat) (es : List (Int × Int × Int)) (k : Nat) (r : List Int) : Prop := r.length = n ∧ ∀ v, v < n → (InK n es k v ∧ r.getD v 0 = (k : Int)) ∨ (¬ InK n es k v ∧ CV n es v (r.getD v 0))
theorem CR.next {n k : Nat} {es : List (Int × Int × Int)} {r r' : List Int} (h : CR n es k r) (hl : r'.length = n) (h' : ∀ v, v < n → (InK n es (k + 1) v ∧ r'.getD v 0 = ((k + 1 : Nat) : Int)) ∨ (¬ InK n es (k + 1) v ∧ r'.getD v 0 = r.getD v 0)) : CR n es (k + 1) r' := by
  refine ⟨hl, fun v hv => ?_⟩
  rcases h' v hv with g | ⟨g1, g2⟩
  · exact .inl g
  · refine .inr ⟨g1, ?_⟩
    rw [g2]
    rcases h.2 v hv with ⟨a, b⟩ | ⟨a, b⟩
    · exact ⟨k, b, a, g1⟩
    · exact b
theorem CR.zero {n : Nat} {es : List (Int × Int × Int)} : CR n es 0 (List.replicate n 0) :=
  ⟨by simp, fun v hv => .inl ⟨ink_zero.2 hv, by simp [List.getD_eq_getElem?_getD, List.getElem?_replicate, hv]⟩⟩
theorem CR.done {n k : Nat} {es : List (Int × Int × Int)} {r : List Int} (h : CR n es k r) (he : ∀ v, v < n → ¬ InK n es k v) : CL n es r :=
  ⟨h.1, fun v hv => (h.2 v hv).elim (fun g => absurd g.1 (he v hv)) fun g => g.2⟩
/-! The program's way. -/
theorem size_eq {m : Nat} (hm : m < 4294967296) : impl_vertexMask_size (m : Int) = some ((selL m.testBit 32).length : Int) := by
  unfold impl_vertexMask_size
  rw [ones_eq hm]; rfl
theorem and_nat {a b : Nat} (ha : a < 4294967296) (hb : b < 4294967296) : bitsV .and .u32 (a : Int) (b : Int) = ((a &&& b : Nat) : Int) ∧ a &&& b < 4294967296 := by
  refine ⟨?_, Nat.lt_of_le_of_lt Nat.and_le_left ha⟩
  rw [bitsV_and ⟨by omega, by omega⟩ ⟨by omega, by omega⟩, Int.toNat_natCast, Int.toNat_natCast]
theorem mask_dg {n : Int} {es : List (Int × Int × Int)} {ms : List Int} {v m : Nat} (hg : GOk n es) (hm : MaskOk n ms fun v w => Adj es v w) (hv : v < n.toNat) (hml : m < 4294967296) :
    impl_vertexMask_size (bitsV .and .u32 (ms.getD v 0) (m : Int)) = some ((dg n.toNat es v m.testBit : Nat) : Int) := by
  have h16 := hg.2.1
  obtain ⟨⟨a1, a2⟩, a3⟩ := hm.2 v hv
  obtain ⟨b1, b2⟩ := and_nat (a := (ms.getD v 0).toNat) (b := m) (by omega) hml
  rw [show (((ms.getD v 0).toNat : Nat) : Int) = ms.getD v 0 from by omega] at b1
  rw [b1, size_eq b2]
  unfold dg
  rw [selL_skip (a := n.toNat) (by omega) fun j h1 h2 => by
    rw [Nat.testBit_and]
    cases hb : (ms.getD v 0).toNat.testBit j
    · rfl
    · have := adj_in hg ((a3 j).1 hb); omega]
  rw [selL_congr fun j hj => by rw [Nat.testBit_and, show (ms.getD v 0).toNat.testBit j = yes (Adj es (v : Int) (j : Int)) from by rw [Bool.eq_iff_iff, a3 j, yes_iff]]]
theorem core_row {n : Int} {es : List (Int × Int × Int)} {ms : List Int} {k M : Nat} (hg : GOk n es) (hm : MaskOk n ms fun v w => Adj es v w) (hM : M < 4294967296) (hMn : ∀ i, M.testBit i = true → i < n.toNat) (hp : PI n.toNat es k M.testBit) (hk : k ≤ 100) :
    gives (loop (impl_CoresOf_b0 ms (k : Int) (selL M.testBit 32)) ((M : Int), false, 0)) fun x => ∃ M' : Nat, x.1 = (M' : Int) ∧ M' < 4294967296 ∧ (∀ i, M'.testBit i = true → M.testBit i = true) ∧ PI n.toNat es k M'.testBit ∧
      (x.2 = true → (selL M'.testBit 32).length < (selL M.testBit 32).length) ∧ (x.2 = false → M' = M ∧ Stab n.toNat es k M.testBit) := by
  have h16 := hg.2.1
  have hll := selL_len M.testBit 32
  have hmem : ∀ {x : Int}, x ∈ selL M.testBit 32 ↔ ∃ j : Nat, x = j ∧ j < 32 ∧ M.testBit j = true := fun {x} => selL_mem
  have hasc := selL_asc (p := M.testBit) 32
  generalize hL : selL M.testBit 32 = L at hll hmem hasc ⊢
  refine loop_to (fun s : Nat × Bool × Nat => ((s.1 : Int), s.2.1, (s.2.2 : Int))) (fun s => s.2.2 ≤ L.length ∧ s.1 < 4294967296 ∧ (∀ i, s.1.testBit i = true → M.testBit i = true) ∧ PI n.toNat es k s.1.testBit ∧
      (s.2.1 = true → (selL s.1.testBit 32).length < L.length) ∧ (s.2.1 = false → s.1 = M ∧ ∀ i, i < s.2.2 → k ≤ dg n.toNat es (L.getD i 0).toNat M.testBit) ∧ ∀ i, s.2.2 ≤ i → i < L.length → s.1.testBit (L.getD i 0).toNat = true) (fun s => L.length - s.2.2) (M, false, 0) rfl
    ⟨Nat.zero_le _, hM, fun i h => h, hp, fun h => (by cases h), fun _ => ⟨rfl, fun i hi => absurd hi (Nat.not_lt_zero _)⟩, fun i _ hi => ?_⟩ ?_
  · rw [getD_lt hi]
    obtain ⟨j, h1, _, h2⟩ := hmem.1 (List.getElem_mem hi)
    rw [h1]; exact h2
  rintro ⟨m, c, i⟩ ⟨g1, g2, g3, g4, g5, g6, g7⟩
  simp only at g1 g2 g3 g4 g5 g6 g7
  simp only [impl_CoresOf_b0]
  rw [gives_ite]
  refine ⟨fun hc => ?_, fun hc => ?_⟩
  · simp only [decide_eq_true_eq] at hc
    have hil : i < L.length := by omega
    have hv := g7 i (Nat.le_refl _) hil
    obtain ⟨v, hvx, hv32, hvM⟩ := hmem.1 (List.getElem_mem hil)
    have hLi : L.getD i 0 = (v : Int) := by rw [getD_lt hil]; exact hvx
    rw [hLi, Int.toNat_natCast] at hv
    have hvn := hMn v hvM
    have hml := hm.1
    simp only [join, Int.toNat_natCast]
    rw [hLi]
    simp only [Int.toNat_natCast]
    rw [gives_chk, gives_chk, mask_dg hg hm hvn g2, Option.bind_some, gives_ite]
    have hnext : ∀ j, i + 1 ≤ j → j < L.length → ¬ (L.getD j 0).toNat = v := fun j h1 h2 => by
      have := List.pairwise_iff_getElem.1 hasc i j hil h2 (by omega)
      rw [getD_lt h2]; omega
    refine ⟨by omega, by omega, fun hlt => ?_, fun hge => ?_⟩
    · simp only [decide_eq_true_eq] at hlt
      rw [impl_maskOf_eq (by omega) (by omega), Int.toNat_natCast, Option.bind_some, gives_chk]
      have hp2 := two_pow_u32 hv32
      obtain ⟨q, q1, q2, q3⟩ := bitsV_andNot (a := m) (b := 2 ^ v) g2 hp2
      rw [q1]
      have hq : ∀ w, q.testBit w = (m.testBit w && !decide (v = w)) := fun w => by rw [q3 w, Nat.testBit_two_pow]
      refine ⟨by omega, gives_some.2 ⟨(q, true, i + 1), ⟨by simp only; omega, q2, fun w hw => ?_, ?_, fun _ => ?_, fun h => (by cases h), fun j h1 h2 => ?_⟩, by simp only; omega, rfl⟩⟩
      · simp only at hw
        rw [hq w, Bool.and_eq_true] at hw
        exact g3 w hw.1
      · refine g4.rm (v := v) (by omega) fun w h1 h2 => ?_
        simp only
        rw [hq w, h1]; simp; exact fun e => h2 e.symm
      · simp only
        have h1 : (selL q.testBit 32).length < (selL m.testBit 32).length := selL_less (v := v) (fun w _ hw => by rw [hq w, Bool.and_eq_true] at hw; exact hw.1) hv32 hv (by rw [hq v]; simp)
        have h2 : (selL m.testBit 32).length ≤ (selL M.testBit 32).length := selL_mono fun w _ hw => g3 w hw
        rw [hL] at h2
        omega
      · simp only at h1 ⊢
        rw [hq, g7 j (by omega) h2]
        have := hnext j h1 h2
        rw [Bool.true_and, Bool.not_eq_true', decide_eq_false_iff_not]
        exact fun e => this e.symm
    · simp only [decide_eq_true_eq] at hge
      rw [gives_chk]
      refine ⟨by omega, gives_some.2 ⟨(m, c, i + 1), ⟨by simp only; omega, g2, g3, g4, g5, fun h => ⟨(g6 h).1, fun j hj => ?_⟩, fun j h1 h2 => g7 j (by simp only at h1; omega) h2⟩, by simp only; omega, rfl⟩⟩
      simp only at hj
      by_cases hji : j = i
      · subst hji
        rw [hLi, Int.toNat_natCast, ← (g6 h).1]; omega
      · exact (g6 h).2 j (by omega)
  · simp only [decide_eq_true_eq] at hc
    refine gives_some.2 ⟨m, rfl, g2, g3, g4, g5, fun h => ⟨(g6 h).1, fun v hv => ⟨hMn v hv, ?_⟩⟩⟩
    have := testBit_hi hM (i := v)
    obtain ⟨i', hi', he⟩ := List.getElem_of_mem (hmem.2 ⟨v, rfl, by have := hMn v hv; omega, hv⟩)
    have h2 := (g6 h).2 i' (by omega)
    rwa [getD_lt hi', he, Int.toNat_natCast] at h2
theorem corePeel_ok {n : Int} {es : List (Int × Int × Int)} {ms : List Int} {k M : Nat} (hg : GOk n es) (hm : MaskOk n ms fun v w => Adj es v w) (hM : M < 4294967296) (hMn : ∀ i, M.testBit i = true → i < n.toNat) (hp : PI n.toNat es k M.testBit) (hk : k ≤ 100) :
    gives (loop (impl_CoresOf_b1 ms (k : Int)) ((M : Int), true)) fun x => ∃ M' : Nat, x = (M' : Int) ∧ M' < 4294967296 ∧ ∀ i, M'.testBit i = true ↔ InK n.toNat es k i := by
  have h16 := hg.2.1
  refine loop_to (fun s : Nat × Bool => ((s.1 : Int), s.2)) (fun s => s.1 < 4294967296 ∧ (∀ i, s.1.testBit i = true → i < n.toNat) ∧ PI n.toNat es k s.1.testBit ∧ (s.2 = false → Stab n.toNat es k s.1.testBit)) (fun s => 2 * (selL s.1.testBit 32).length + (if s.2 = true then 1 else 0)) (M, true) rfl
    ⟨hM, hMn, hp, fun h => (by cases h)⟩ ?_
  rintro ⟨m, c⟩ ⟨g1, g2, g3, g4⟩
  simp only at g1 g2 g3 g4
  simp only [impl_CoresOf_b1]
  cases c
  · rw [if_neg (by simp)]
    exact gives_some.2 ⟨m, rfl, g1, g3.iff (g4 rfl)⟩
  · rw [if_pos rfl, impl_list_eq (by omega) (by omega), Int.toNat_natCast, Option.bind_some, gives_bind]
    refine (core_row hg hm g1 g2 g3 hk).mono ?_
    rintro ⟨x, c⟩ ⟨m', e, h1, h2, h3, h4, h5⟩
    simp only at e h4 h5
    subst e
    simp only
    refine gives_some.2 ⟨(m', c), ⟨h1, fun i hi => g2 i (h2 i hi), h3, fun h => by rw [(h5 h).1]; exact (h5 h).2⟩, ?_, rfl⟩
    simp only
    cases c
    · rw [(h5 rfl).1]; simp
    · have := h4 rfl
      simp; omega
theorem mark_row {n : Int} {es : List (Int × Int × Int)} {k M : Nat} {r : List Int} (hg : GOk n es) (hM : M < 4294967296) (hMi : ∀ i, M.testBit i = true ↔ InK n.toNat es (k + 1) i) (hr : CR n.toNat es k r) (hk : k + 1 ≤ 100) :
    gives (loop (impl_CoresOf_b2 ((k + 1 : Nat) : Int) (selL M.testBit 32)) (0, r)) (CR n.toNat es (k + 1)) := by
  have h16 := hg.2.1
  have hll := selL_len M.testBit 32
  have hmem : ∀ {x : Int}, x ∈ selL M.testBit 32 ↔ ∃ j : Nat, x = j ∧ j < 32 ∧ M.testBit j = true := fun {x} => selL_mem
  generalize hL : selL M.testBit 32 = L at hll hmem ⊢
  have hin : ∀ {v : Nat}, InK n.toNat es (k + 1) v → v < n.toNat := fun ⟨S, hS, hv⟩ => (hS _ hv).1
  refine (loop_to (Q := fun r' => r'.length = n.toNat ∧ ∀ v, v < n.toNat → (InK n.toNat es (k + 1) v ∧ r'.getD v 0 = ((k + 1 : Nat) : Int)) ∨ (¬ InK n.toNat es (k + 1) v ∧ r'.getD v 0 = r.getD v 0))
    (fun s : Nat × List Int => ((s.1 : Int), s.2)) (fun s => s.1 ≤ L.length ∧ s.2.length = n.toNat ∧ ∀ v, v < n.toNat → (InK n.toNat es (k + 1) v ∧ s.2.getD v 0 = ((k + 1 : Nat) : Int)) ∨ ((∀ i, i < s.1 → ¬ L.getD i 0 = (v : Int)) ∧ s.2.getD v 0 = r.getD v 0)) (fun s => L.length - s.1) (0, r) rfl
    ⟨Nat.zero_le _, hr.1, fun v hv => .inr ⟨fun i hi => absurd hi (Nat.not_lt_zero _), rfl⟩⟩ ?_).mono fun r' h => hr.next h.1 h.2
  rintro ⟨i, t⟩ ⟨g1, g2, g3⟩
  simp only at g1 g2 g3
  simp only [impl_CoresOf_b2]
  rw [gives_ite]
  refine ⟨fun hc => ?_, fun hc => ?_⟩
  · simp only [decide_eq_true_eq] at hc
    have hil : i < L.length := by omega
    obtain ⟨v, hvx, hv32, hvM⟩ := hmem.1 (List.getElem_mem hil)
    have hLi : L.getD i 0 = (v : Int) := by rw [getD_lt hil]; exact hvx
    have hvk := (hMi v).1 hvM
    have hvn := hin hvk
    rw [Int.toNat_natCast, hLi, Int.toNat_natCast, gives_chk, gives_chk, gives_chk]
    refine ⟨by omega, by omega, by omega, gives_some.2 ⟨(i + 1, t.set v ((k + 1 : Nat) : Int)), ⟨by simp only; omega, by simpa using g2, fun w hw => ?_⟩, by simp only; omega, rfl⟩⟩
    simp only
    rw [getD_set _ _ _ _ _ (by omega)]
    by_cases hwv : w = v
    · rw [if_pos hwv, hwv]; exact .inl ⟨hvk, rfl⟩
    · rw [if_neg hwv]
      rcases g3 w hw with h | ⟨h1, h2⟩
      · exact .inl h
      · refine .inr ⟨fun j hj => ?_, h2⟩
        by_cases hji : j = i
        · subst hji; rw [hLi]; omega
        · exact h1 j (by omega)
  · simp only [decide_eq_true_eq] at hc
    refine gives_some.2 ⟨g2, fun v hv => ?_⟩
    rcases g3 v hv with h | ⟨h1, h2⟩
    · exact .inl h
    · refine .inr ⟨fun hk => ?_, h2⟩
      obtain ⟨i', hi', he⟩ := List.getElem_of_mem (hmem.2 ⟨v, rfl, by omega, (hMi v).2 hk⟩)
      exact h1 i' (by omega) (by rw [getD_lt hi']; exact he)
theorem impl_CoresOf_ok {n : Int} {es : List (Int × Int × Int)} (hg : GOk n es) : gives (impl_CoresOf n es) (CL n.toNat es) := by
  have h0 := hg.1
  have h16 := hg.2.1
  unfold impl_CoresOf
  rw [impl_GraphValid_eq, gok_true hg, Option.bind_some, if_neg (by simp), gives_bind]
  refine (impl_nearMasks_ok hg).mono fun ms hm => ?_
  rw [gives_chk, impl_maskOf_eq h0 (by omega), Option.bind_some, gives_bind]
  refine ⟨by omega, ?_⟩
  have hp := two_pow_u32 (v := n.toNat) (by omega)
  have hpos := Nat.two_pow_pos n.toNat
  have hbt : ∀ i, (2 ^ n.toNat - 1).testBit i = decide (i < n.toNat) := fun i => Nat.testBit_two_pow_sub_one ..
  generalize hP : 2 ^ n.toNat = P at hp hpos hbt
  rw [wrap_u32 (by omega) (by omega), show ((P : Nat) : Int) - 1 = ((P - 1 : Nat) : Int) from by omega]
  refine (loop_to (Q := CL n.toNat es) (fun s : Nat × Nat × List Int => ((s.1 : Int), ((s.2.1 + 1 : Nat) : Int), s.2.2)) (fun s => s.1 < 4294967296 ∧ (∀ i, s.1.testBit i = true ↔ InK n.toNat es s.2.1 i) ∧ CR n.toNat es s.2.1 s.2.2 ∧ s.2.1 ≤ n.toNat) (fun s => n.toNat - s.2.1) (P - 1, 0, List.replicate n.toNat 0) rfl
    ⟨by simp only; omega, fun i => by rw [hbt, decide_eq_true_eq, ink_zero], CR.zero, Nat.zero_le _⟩ ?_).mono fun r h => gives_some.2 h
  rintro ⟨m, k, r⟩ ⟨g1, g2, g3, g4⟩
  simp only at g1 g2 g3 g4
  simp only [impl_CoresOf_b3]
  by_cases hz : m = 0
  · subst hz
    rw [if_neg (by simp)]
    exact gives_some.2 (g3.done fun v hv h => by have := (g2 v).2 h; rw [Nat.zero_testBit] at this; cases this)
  · have hin : ∀ i, m.testBit i = true → i < n.toNat := fun i hi => by obtain ⟨S, hS, hv⟩ := (g2 i).1 hi; exact (hS i hv).1
    have hkn : k < n.toNat := by
      obtain ⟨i, hi⟩ := Nat.exists_testBit_of_ne_zero hz
      exact ink_lt hg ((g2 i).1 hi)
    rw [if_pos (by simp; omega), gives_bind]
    refine (corePeel_ok hg hm g1 hin (k := k + 1) (fun S hS v hv => (g2 v).2 ⟨S, hS.less (by omega), hv⟩) (by omega)).mono ?_
    rintro x ⟨m', e, h1, h2⟩
    subst e
    rw [impl_list_eq (by omega) (by omega), Int.toNat_natCast, Option.bind_some, gives_bind]
    refine (mark_row hg h1 h2 g3 (by omega)).mono fun r' hr' => ?_
    rw [gives_chk]
    exact ⟨by omega, gives_some.2 ⟨(m', k + 1, r'), ⟨h1, h2, hr', by simp only; omega⟩, by simp only; omega, rfl⟩⟩
theorem impl_CoresOf_not {n : Int} {es : List (Int × Int × Int)} (hg : ¬ GOk n es) : impl_CoresOf n es = some [] := by
  unfold impl_CoresOf
  rw [impl_GraphValid_eq, gok_false hg, Option.bind_some, if_pos (by rfl)]
/-! The reference's way. -/
theorem all_row {n : Int} (h0 : 0 ≤ n) (h16 : n ≤ 16) : loop (spec_CoresOf_b0 n) (0, List.replicate n.toNat false) = some (List.replicate n.toNat true) := by
  refine gives_eq.1 ?_
  refine loop_to (fun k : Nat => ((k : Int), List.replicate k true ++ List.replicate (n.toNat - k) false)) (fun k => k ≤ n.toNat) (fun k => n.toNat - k) 0 (by simp) (Nat.zero_le _) ?_
  intro k hk
  have hl : (List.replicate k true ++ List.replicate (n.toNat - k) false).length = n.toNat := by simp; omega
  simp only [spec_CoresOf_b0]
  rw [gives_ite]
  refine ⟨fun hc => ?_, fun hc => ?_⟩
  · simp only [decide_eq_true_eq] at hc
    rw [gives_chk, gives_chk, Int.toNat_natCast]
    refine ⟨by omega, by omega, gives_some.2 ⟨k + 1, by omega, by omega, Prod.ext (by simp only; omega) ?_⟩⟩
    simp only
    rw [List.set_append_right _ _ (by simp), List.length_replicate, Nat.sub_self, show n.toNat - k = (n.toNat - (k + 1)) + 1 from by omega, List.replicate_succ, List.set_cons_zero, List.replicate_succ', List.append_assoc]
    rfl
  · simp only [decide_eq_true_eq] at hc
    rw [show k = n.toNat from by omega, Nat.sub_self]
    exact gives_some.2 (by simp)
theorem count_row {ts : List Bool} {L : List Int} (hL : ∀ i, i < L.length → 0 ≤ L.getD i 0 ∧ L.getD i 0 < ts.length) (hl : L.length ≤ 1000) :
    loop (spec_CoresOf_b1 ts L) (0, 0) = some (((L.filter fun x => ts.getD x.toNat false).length : Nat) : Int) := by
  refine gives_eq.1 ?_
  refine loop_to (fun k : Nat => ((((L.take k).filter fun x => ts.getD x.toNat false).length : Int), (k : Int))) (fun k => k ≤ L.length) (fun k => L.length - k) 0 (by simp) (Nat.zero_le _) ?_
  intro k hk
  have hf : ((L.take k).filter fun x => ts.getD x.toNat false).length ≤ 1000 := Nat.le_trans (List.length_filter_le _ _) (by simp; omega)
  simp only [spec_CoresOf_b1, join]
  rw [gives_ite]
  refine ⟨fun hc => ?_, fun hc => ?_⟩
  · simp only [decide_eq_true_eq] at hc
    have hkl : k < L.length := by omega
    have h1 := hL k hkl
    have ht : L.take (k + 1) = L.take k ++ [L.getD k 0] := by rw [List.take_succ_eq_append_getElem hkl, getD_lt hkl]
    rw [gives_chk, gives_chk, Int.toNat_natCast, gives_ite]
    refine ⟨by omega, by omega, fun hb => ?_, fun hb => ?_⟩
    · rw [gives_chk, gives_chk]
      refine ⟨by omega, by omega, gives_some.2 ⟨k + 1, by omega, by omega, ?_⟩⟩
      rw [ht, List.filter_append]
      simp only [List.length_append, List.filter_cons, hb, if_true, List.filter_nil, List.length_cons, List.length_nil]
      refine Prod.ext (by simp only; omega) (by simp only; omega)
    · rw [gives_chk]
      refine ⟨by omega, gives_some.2 ⟨k + 1, by omega, by omega, ?_⟩⟩
      rw [ht, List.filter_append]
      simp only [List.length_append, List.filter_cons, hb, if_false, List.filter_nil, List.length_nil]
      refine Prod.ext (by simp) (by simp only; omega)
  · simp only [decide_eq_true_eq] at hc
    rw [show L.take k = L from List.take_of_length_le (by omega)]
    exact gives_some.2 rfl
theorem near_cnt {n : Int} {es : List (Int × Int × Int)} (hg : GOk n es) {ts : List Bool} (hl : ts.length = n.toNat) (v : Nat) : gives ((spec_NearOf n es (v : Int)).bind fun y_2 => loop (spec_CoresOf_b1 ts y_2) (0, 0)) fun x => x = ((dg n.toNat es v (fun w => ts.getD w false) : Nat) : Int) := by
  have h0 := hg.1
  have h16 := hg.2.1
  have hnl := nearL_len n es (v : Int) n.toNat
  rw [spec_NearOf_eq hg, Option.bind_some, count_row (fun i hi => by
    rw [getD_lt hi]
    have := (nearL_mem n.toNat).1 (List.getElem_mem hi)
    omega) (by omega)]
  refine gives_some.2 ?_
  rw [nearL_sel]
  unfold dg
  rw [← selL_filter]
theorem core_pass {n : Int} {es : List (Int × Int × Int)} {k : Nat} {ts : List Bool} (hg : GOk n es) (hl : ts.length = n.toNat) (hp : PI n.toNat es k (fun w => ts.getD w false)) (hk : k ≤ 100) :
    gives (loop (spec_CoresOf_b2 n es (k : Int)) (false, 0, ts)) fun x => x.2.length = n.toNat ∧ (∀ i, x.2.getD i false = true → ts.getD i false = true) ∧ PI n.toNat es k (fun w => x.2.getD w false) ∧
      (x.1 = true → (selL (fun w => x.2.getD w false) n.toNat).length < (selL (fun w => ts.getD w false) n.toNat).length) ∧ (x.1 = false → x.2 = ts ∧ Stab n.toNat es k (fun w => ts.getD w false)) := by
  have h0 := hg.1
  have h16 := hg.2.1
  refine loop_to (fun s : Bool × Nat × List Bool => (s.1, (s.2.1 : Int), s.2.2)) (fun s => s.2.1 ≤ n.toNat ∧ s.2.2.length = n.toNat ∧ (∀ i, s.2.2.getD i false = true → ts.getD i false = true) ∧ PI n.toNat es k (fun w => s.2.2.getD w false) ∧
      (s.1 = true → (selL (fun w => s.2.2.getD w false) n.toNat).length < (selL (fun w => ts.getD w false) n.toNat).length) ∧ (s.1 = false → s.2.2 = ts ∧ ∀ v, v < s.2.1 → ts.getD v false = true → k ≤ dg n.toNat es v (fun w => ts.getD w false))) (fun s => n.toNat - s.2.1) (false, 0, ts) rfl
    ⟨Nat.zero_le _, hl, fun i h => h, hp, fun h => (by cases h), fun _ => ⟨rfl, fun v hv => absurd hv (Nat.not_lt_zero _)⟩⟩ ?_
  rintro ⟨c, v, t⟩ ⟨g1, g2, g3, g4, g5, g6⟩
  simp only at g1 g2 g3 g4 g5 g6
  simp only [spec_CoresOf_b2, join]
  rw [gives_ite]
  refine ⟨fun hc => ?_, fun hc => ?_⟩
  · simp only [decide_eq_true_eq] at hc
    have hvn : v < n.toNat := by omega
    have hcnt := near_cnt hg g2 v
    rw [gives_bind] at hcnt ⊢
    refine hcnt.mono fun y hy => ?_
    rw [gives_bind]
    refine hy.mono fun x hx => ?_
    subst hx
    rw [gives_chk, gives_ite, Int.toNat_natCast]
    refine ⟨by omega, fun hb => ?_, fun hb => ?_⟩
    · rw [Bool.and_eq_true, decide_eq_true_eq] at hb
      have hget := fun w => getD_set t v w false false (by omega)
      have hsub : ∀ w, (t.set v false).getD w false = true → t.getD w false = true := fun w hw => by
        rw [hget w] at hw
        split at hw
        · cases hw
        · exact hw
      rw [gives_chk, gives_chk]
      refine ⟨by omega, by omega, gives_some.2 ⟨(true, v + 1, t.set v false), ⟨by simp only; omega, by simpa using g2, fun w hw => g3 w (hsub w hw), ?_, fun _ => ?_, fun h => (by cases h)⟩, by simp only; omega, rfl⟩⟩
      · refine g4.rm (v := v) (by omega) fun w h1 h2 => ?_
        simp only
        rw [hget w, if_neg h2]; exact h1
      · simp only
        have h1 : (selL (fun w => (t.set v false).getD w false) n.toNat).length < (selL (fun w => t.getD w false) n.toNat).length := selL_less (v := v) (fun w _ hw => hsub w hw) hvn hb.1 (by rw [hget v, if_pos rfl])
        have h2 : (selL (fun w => t.getD w false) n.toNat).length ≤ (selL (fun w => ts.getD w false) n.toNat).length := selL_mono fun w _ hw => g3 w hw
        omega
    · rw [Bool.and_eq_true, decide_eq_true_eq] at hb
      rw [gives_chk]
      refine ⟨by omega, gives_some.2 ⟨(c, v + 1, t), ⟨by simp only; omega, g2, g3, g4, g5, fun h => ⟨(g6 h).1, fun w hw ht => ?_⟩⟩, by simp only; omega, rfl⟩⟩
      simp only at hw
      by_cases hwv : w = v
      · subst hwv
        have e := (g6 h).1
        rw [e] at hb
        refine Classical.byContradiction fun h5 => hb ⟨ht, by omega⟩
      · exact (g6 h).2 w (by omega) ht
  · simp only [decide_eq_true_eq] at hc
    refine gives_some.2 ⟨g2, g3, g4, g5, fun h => ⟨(g6 h).1, fun v hv => ?_⟩⟩
    simp only at hv
    have hvn : v < n.toNat := by
      refine Classical.byContradiction fun h5 => ?_
      rw [List.getD_eq_getElem?_getD, List.getElem?_eq_none (by omega)] at hv
      cases hv
    exact ⟨hvn, (g6 h).2 v (by omega) hv⟩
theorem core_peel {n : Int} {es : List (Int × Int × Int)} {k : Nat} {ts : List Bool} (hg : GOk n es) (hl : ts.length = n.toNat) (hp : PI n.toNat es k (fun w => ts.getD w false)) (hk : k ≤ 100) :
    gives (loop (spec_CoresOf_b3 n es (k : Int)) (true, ts)) fun x => x.length = n.toNat ∧ ∀ i, x.getD i false = true ↔ InK n.toNat es k i := by
  refine loop_to (fun s : Bool × List Bool => s) (fun s => s.2.length = n.toNat ∧ PI n.toNat es k (fun w => s.2.getD w false) ∧ (s.1 = false → Stab n.toNat es k (fun w => s.2.getD w false))) (fun s => 2 * (selL (fun w => s.2.getD w false) n.toNat).length + (if s.1 = true then 1 else 0)) (true, ts) rfl
    ⟨hl, hp, fun h => (by cases h)⟩ ?_
  rintro ⟨c, t⟩ ⟨g1, g2, g3⟩
  simp only at g1 g2 g3
  simp only [spec_CoresOf_b3]
  cases c
  · rw [if_neg (by simp)]
    exact gives_some.2 ⟨g1, g2.iff (g3 rfl)⟩
  · rw [if_pos rfl, gives_bind]
    refine (core_pass hg g1 g2 hk).mono ?_
    rintro ⟨c, x⟩ ⟨h1, h2, h3, h4, h5⟩
    simp only at h1 h2 h3 h4 h5 ⊢
    refine gives_some.2 ⟨(c, x), ⟨h1, h3, fun h => by simp only; rw [(h5 h).1]; exact (h5 h).2⟩, ?_, rfl⟩
    simp only
    cases c
    · rw [(h5 rfl).1, if_neg (by simp), if_pos trivial]; omega
    · have := h4 rfl
      rw [if_pos rfl, if_pos trivial]; omega
theorem core_mark {n : Int} {es : List (Int × Int × Int)} {k : Nat} {ts : List Bool} {r : List Int} (hg : GOk n es) (hl : ts.length = n.toNat) (hMi : ∀ i, ts.getD i false = true ↔ InK n.toNat es (k + 1) i) (hr : CR n.toNat es k r) (hk : k + 1 ≤ 100) :
    gives (loop (spec_CoresOf_b4 n ((k + 1 : Nat) : Int) ts) (0, r)) (CR n.toNat es (k + 1)) := by
  have h0 := hg.1
  have h16 := hg.2.1
  refine (loop_to (Q := fun r' => r'.length = n.toNat ∧ ∀ v, v < n.toNat → (InK n.toNat es (k + 1) v ∧ r'.getD v 0 = ((k + 1 : Nat) : Int)) ∨ (¬ InK n.toNat es (k + 1) v ∧ r'.getD v 0 = r.getD v 0))
    (fun s : Nat × List Int => ((s.1 : Int), s.2)) (fun s => s.1 ≤ n.toNat ∧ s.2.length = n.toNat ∧ (∀ v, v < s.1 → (InK n.toNat es (k + 1) v ∧ s.2.getD v 0 = ((k + 1 : Nat) : Int)) ∨ (¬ InK n.toNat es (k + 1) v ∧ s.2.getD v 0 = r.getD v 0)) ∧ ∀ v, s.1 ≤ v → s.2.getD v 0 = r.getD v 0) (fun s => n.toNat - s.1) (0, r) rfl
    ⟨Nat.zero_le _, hr.1, fun v hv => absurd hv (Nat.not_lt_zero _), fun v _ => rfl⟩ ?_).mono fun r' h => hr.next h.1 h.2
  rintro ⟨i, t⟩ ⟨g1, g2, g3, g4⟩
  simp only at g1 g2 g3 g4
  simp only [spec_CoresOf_b4, join]
  rw [gives_ite]
  refine ⟨fun hc => ?_, fun hc => gives_some.2 ⟨g2, fun v hv => g3 v (by simp only [decide_eq_true_eq] at hc; omega)⟩⟩
  simp only [decide_eq_true_eq] at hc
  have hget := fun w => getD_set t i w ((k + 1 : Nat) : Int) 0 (by omega)
  rw [gives_chk, Int.toNat_natCast, gives_ite]
  refine ⟨by omega, fun hb => ?_, fun hb => ?_⟩
  · rw [gives_chk, gives_chk]
    refine ⟨by omega, by omega, gives_some.2 ⟨(i + 1, t.set i ((k + 1 : Nat) : Int)), ⟨by simp only; omega, by simpa using g2, fun v hv => ?_, fun v hv => ?_⟩, by simp only; omega, rfl⟩⟩
    · simp only at hv ⊢
      rw [hget v]
      by_cases hvi : v = i
      · rw [if_pos hvi, hvi]; exact .inl ⟨(hMi i).1 hb, rfl⟩
      · rw [if_neg hvi]; exact g3 v (by omega)
    · simp only at hv ⊢
      rw [hget v, if_neg (by omega)]; exact g4 v (by omega)
  · rw [gives_chk]
    refine ⟨by omega, gives_some.2 ⟨(i + 1, t), ⟨by simp only; omega, g2, fun v hv => ?_, fun v hv => g4 v (by simp only at hv; omega)⟩, by simp only; omega, rfl⟩⟩
    simp only at hv ⊢
    by_cases hvi : v = i
    · subst hvi; exact .inr ⟨fun h => hb ((hMi v).2 h), g4 v (Nat.le_refl _)⟩
    · exact g3 v (by omega)
theorem spec_CoresOf_ok {n : Int} {es : List (Int × Int × Int)} (hg : GOk n es) : gives (spec_CoresOf n es) (CL n.toNat es) := by
  have h0 := hg.1
  have h16 := hg.2.1
  have h40 := hg.2.2.1
  unfold spec_CoresOf
  rw [spec_GraphValid_eq ⟨by omega, by omega⟩ (by omega), gok_true hg, Option.bind_some, if_neg (by simp), spec_l8Fill_eq h0 (by omega), Option.bind_some, gives_bind]
  refine (loop_to (Q := CL n.toNat es) (fun s : Nat × List Int => (((s.1 + 1 : Nat) : Int), s.2)) (fun s => CR n.toNat es s.1 s.2 ∧ s.1 ≤ n.toNat) (fun s => n.toNat - s.1) (0, List.replicate n.toNat 0) rfl ⟨CR.zero, Nat.zero_le _⟩ ?_).mono fun r h => gives_some.2 h
  rintro ⟨k, r⟩ ⟨g1, g2⟩
  simp only at g1 g2
  simp only [spec_CoresOf_b5]
  rw [gives_ite]
  refine ⟨fun hc => ?_, fun hc => ?_⟩
  · simp only [decide_eq_true_eq] at hc
    have hall : ∀ w, (List.replicate n.toNat true).getD w false = decide (w < n.toNat) := fun w => by
      simp only [List.getD_eq_getElem?_getD, List.getElem?_replicate]; split <;> simp [*]
    rw [gives_chk, all_row h0 h16, Option.bind_some, gives_bind]
    refine ⟨by omega, (core_peel (k := k + 1) hg (by simp) (fun S hS v hv => by simp only; rw [hall, decide_eq_true_eq]; exact (hS v hv).1) (by omega)).mono fun ts hts => ?_⟩
    rw [gives_bind]
    refine (core_mark hg hts.1 hts.2 g1 (by omega)).mono fun r' hr' => ?_
    rw [gives_chk]
    exact ⟨by omega, gives_some.2 ⟨(k + 1, r'), ⟨hr', by simp only; omega⟩, by simp only; omega, rfl⟩⟩
  · simp only [decide_eq_true_eq] at hc
    refine gives_some.2 ⟨g1.1, fun v hv => ?_⟩
    rcases g1.2 v hv with ⟨a, b⟩ | ⟨a, b⟩
    · exact ⟨k, b, a, fun h => by have := ink_lt hg h; omega⟩
    · exact b
theorem spec_CoresOf_not {n : Int} {es : List (Int × Int × Int)} (hn : -9223372036854775808 ≤ n ∧ n ≤ 9223372036854775807) (hx : es.length ≤ 1000000000) (hg : ¬ GOk n es) : spec_CoresOf n es = some [] := by
  unfold spec_CoresOf
  rw [spec_GraphValid_eq hn hx, gok_false hg, Option.bind_some, if_pos (by rfl)]
/-! Turned graphs have the same neighbours. -/
theorem mask_uniq {n : Int} {ms ns : List Int} {p : Nat → Nat → Prop} (h : MaskOk n ms p) (g : MaskOk n ns p) : ms = ns := by
  refine list_eq_of (d := 0) (by rw [h.1, g.1]) fun v hv => ?_
  have h1 := h.2 v (by rw [← h.1]; exact hv)
  have g1 := g.2 v (by rw [← h.1]; exact hv)
  have : (ms.getD v 0).toNat = (ns.getD v 0).toNat := Nat.eq_of_testBit_eq fun i => by rw [Bool.eq_iff_iff, h1.2 i, g1.2 i]
  omega
theorem masks_turn {n : Int} {es : List (Int × Int × Int)} (hg : GOk n es) : impl_nearMasks n (turnF es) = impl_nearMasks n es := by
  obtain ⟨ms, h1, h2⟩ := impl_nearMasks_ok hg
  obtain ⟨ns, g1, g2⟩ := impl_nearMasks_ok (turnF_ok hg)
  rw [h1, g1]
  congr 1
  exact mask_uniq (g2.mono fun v w _ => adj_turn) h2
theorem degrees_turn {n : Int} {es : List (Int × Int × Int)} (hg : GOk n es) : ∃ r, impl_DegreesOf n es = some r ∧ impl_DegreesOf n (turnF es) = some r ∧ r.length ≤ 16 := by
  have h0 := hg.1
  have h16 := hg.2.1
  have e : impl_DegreesOf n (turnF es) = impl_DegreesOf n es := by
    unfold impl_DegreesOf
    rw [impl_GraphValid_eq, impl_GraphValid_eq, gok_true hg, gok_true (turnF_ok hg), masks_turn hg]
  rw [e]
  obtain ⟨r, h1, h2⟩ : gives (impl_DegreesOf n es) fun r => r.length ≤ 16 := by
    unfold impl_DegreesOf
    rw [impl_GraphValid_eq, gok_true hg, Option.bind_some, if_neg (by simp), gives_chk, gives_bind]
    refine ⟨by omega, (impl_nearMasks_ok hg).mono fun ms hm => ?_⟩
    have hml := hm.1
    rw [gives_bind]
    refine (loop_to (Q := fun r : List Int => r.length ≤ 16) (fun s : Nat × List Int => ((s.1 : Int), s.2)) (fun s => s.1 ≤ ms.length ∧ s.2.length = n.toNat) (fun s => ms.length - s.1) (0, List.replicate n.toNat 0) rfl ⟨Nat.zero_le _, by simp⟩ ?_).mono fun r h => gives_some.2 h
    rintro ⟨k, r⟩ ⟨g1, g2⟩
    simp only at g1 g2
    simp only [impl_DegreesOf_b0]
    rw [gives_ite]
    refine ⟨fun hc => ?_, fun hc => gives_some.2 (by omega)⟩
    simp only [decide_eq_true_eq] at hc
    obtain ⟨⟨a1, a2⟩, _⟩ := hm.2 k (by omega)
    rw [gives_chk, Int.toNat_natCast, show ms.getD k 0 = (((ms.getD k 0).toNat : Nat) : Int) from by omega, size_eq (by omega), Option.bind_some, gives_chk, gives_chk]
    exact ⟨by omega, by omega, by omega, gives_some.2 ⟨(k + 1, _), ⟨by simp only; omega, by simpa using g2⟩, by simp only; omega, rfl⟩⟩
  exact ⟨r, h1, h1, h2⟩
theorem least_turn {n : Int} {es : List (Int × Int × Int)} (hg : GOk n es) : ∃ r, impl_LeastInPart n es = some r ∧ impl_LeastInPart n (turnF es) = some r ∧ r.length ≤ 16 := by
  have h16 := hg.2.1
  have e : impl_LeastInPart n (turnF es) = impl_LeastInPart n es := by
    unfold impl_LeastInPart
    rw [impl_GraphValid_eq, impl_GraphValid_eq, gok_true hg, gok_true (turnF_ok hg), masks_turn hg]
  rw [e]
  obtain ⟨r, h1, h2, _⟩ := least_ok hg
  exact ⟨r, h1, h1, by omega⟩
theorem triangles_turn {n : Int} {es : List (Int × Int × Int)} (hg : GOk n es) : ∃ r, impl_TrianglesAt n es = some r ∧ impl_TrianglesAt n (turnF es) = some r ∧ r.length ≤ 16 := by
  have h0 := hg.1
  have h16 := hg.2.1
  have e : impl_TrianglesAt n (turnF es) = impl_TrianglesAt n es := by
    unfold impl_TrianglesAt
    rw [impl_GraphValid_eq, impl_GraphValid_eq, gok_true hg, gok_true (turnF_ok hg), masks_turn hg]
  rw [e]
  obtain ⟨r, h1, h2⟩ : gives (impl_TrianglesAt n es) fun r => r.length ≤ 16 := by
    unfold impl_TrianglesAt
    rw [impl_GraphValid_eq, gok_true hg, Option.bind_some, if_neg (by simp), gives_bind]
    refine (impl_nearMasks_ok hg).mono fun ms hm => ?_
    have hml := hm.1
    rw [gives_chk, gives_bind]
    refine ⟨by omega, ?_⟩
    refine (loop_to (Q := fun r : List Int => r.length ≤ 16) (fun s : Nat × List Int => ((s.1 : Int), s.2)) (fun s => s.1 ≤ n.toNat ∧ s.2.length = n.toNat ∧ ∀ v, v < n.toNat → 0 ≤ s.2.getD v 0 ∧ s.2.getD v 0 ≤ 1024 * s.1) (fun s => n.toNat - s.1) (0, List.replicate n.toNat 0) rfl ⟨Nat.zero_le _, by simp, fun v hv => by simp [List.getD_eq_getElem?_getD, List.getElem?_replicate, hv]⟩ ?_).mono fun r h => gives_some.2 h
    rintro ⟨k, r⟩ ⟨g1, g2, g3⟩
    simp only at g1 g2 g3
    simp only [impl_TrianglesAt_b1, List.length_replicate]
    rw [gives_ite]
    refine ⟨fun hc => ?_, fun hc => gives_some.2 (by omega)⟩
    simp only [decide_eq_true_eq] at hc
    have hkn : k < n.toNat := by omega
    obtain ⟨⟨a1, a2⟩, a3⟩ := hm.2 k hkn
    have hand : (ms.getD k 0).toNat &&& (2 ^ k - 1) < 4294967296 := Nat.lt_of_le_of_lt Nat.and_le_left (by omega)
    have hbt : ∀ i, ((ms.getD k 0).toNat &&& (2 ^ k - 1)).testBit i = ((ms.getD k 0).toNat.testBit i && decide (i < k)) := fun i => by
      rw [Nat.testBit_and, Nat.testBit_two_pow_sub_one]
    rw [gives_chk, Int.toNat_natCast, impl_below_eq a1 a2 (by omega), Option.bind_some]
    generalize (ms.getD k 0).toNat &&& (2 ^ k - 1) = q at hand hbt
    rw [impl_list_eq (by omega) (by omega), Int.toNat_natCast, Option.bind_some, gives_bind]
    have hll := selL_len q.testBit 32
    have hmem : ∀ {x : Int}, x ∈ selL q.testBit 32 ↔ ∃ j : Nat, x = j ∧ j < 32 ∧ q.testBit j = true := fun {x} => selL_mem
    generalize selL q.testBit 32 = L at hll hmem ⊢
    refine ⟨by omega, (loop_to (Q := fun r : List Int => r.length = n.toNat ∧ ∀ v, v < n.toNat → 0 ≤ r.getD v 0 ∧ r.getD v 0 ≤ 1024 * (k + 1 : Nat)) (fun s : Nat × List Int => ((s.1 : Int), s.2)) (fun s => s.1 ≤ L.length ∧ s.2.length = n.toNat ∧ ∀ v, v < n.toNat → 0 ≤ s.2.getD v 0 ∧ s.2.getD v 0 ≤ 1024 * k + 32 * s.1) (fun s => L.length - s.1) (0, r) rfl ⟨Nat.zero_le _, g2, fun v hv => by simpa using g3 v hv⟩ ?_).mono fun r' h => ?_⟩
    · rintro ⟨i, t⟩ ⟨b1, b2, b3⟩
      simp only at b1 b2 b3
      simp only [impl_TrianglesAt_b0]
      rw [gives_ite]
      refine ⟨fun hc2 => ?_, fun hc2 => gives_some.2 ⟨b2, fun v hv => by have := b3 v hv; omega⟩⟩
      simp only [decide_eq_true_eq] at hc2
      have hil : i < L.length := by omega
      obtain ⟨v, hvx, hv32, hvM⟩ := hmem.1 (List.getElem_mem hil)
      have hLi : L.getD i 0 = (v : Int) := by rw [getD_lt hil]; exact hvx
      have hvk : v < k := by rw [hbt v, Bool.and_eq_true, decide_eq_true_eq] at hvM; exact hvM.2
      obtain ⟨⟨c1, c2⟩, _⟩ := hm.2 v (by omega)
      obtain ⟨d1, d2⟩ := and_nat (a := q) (b := (ms.getD v 0).toNat) hand (by omega)
      rw [show (((ms.getD v 0).toNat : Nat) : Int) = ms.getD v 0 from by omega] at d1
      have hand2 : (((q &&& (ms.getD v 0).toNat : Nat) : Int)).toNat &&& (2 ^ v - 1) < 4294967296 := Nat.lt_of_le_of_lt Nat.and_le_left (by omega)
      rw [gives_chk, gives_chk, gives_chk, Int.toNat_natCast, hLi, Int.toNat_natCast, Int.toNat_natCast, d1, impl_below_eq (by omega) (by omega) (by omega), Option.bind_some, size_eq hand2, Option.bind_some, gives_chk, gives_chk]
      have hs := selL_len ((((q &&& (ms.getD v 0).toNat : Nat) : Int)).toNat &&& (2 ^ v - 1)).testBit 32
      generalize (selL ((((q &&& (ms.getD v 0).toNat : Nat) : Int)).toNat &&& (2 ^ v - 1)).testBit 32).length = z at hs ⊢
      have h3 := b3 k hkn
      refine ⟨by omega, by omega, by omega, by omega, by omega, gives_some.2 ⟨(i + 1, t.set k (t.getD k 0 + (z : Int))), ⟨by simp only; omega, by simpa using b2, fun w hw => ?_⟩, by simp only; omega, rfl⟩⟩
      simp only
      rw [getD_set _ _ _ _ _ (by omega)]
      have h4 := b3 w hw
      split <;> omega
    · rw [gives_chk]
      exact ⟨by omega, gives_some.2 ⟨(k + 1, r'), ⟨by simp only; omega, h⟩, by simp only; omega, rfl⟩⟩
  exact ⟨r, h1, h1, h2⟩
theorem dg_turn {n : Nat} {es : List (Int × Int × Int)} {v : Nat} {T : Nat → Bool} : dg n (turnF es) v T = dg n es v T := by
  unfold dg
  rw [selL_congr fun w hw => by rw [show yes (Adj (turnF es) (v : Int) (w : Int)) = yes (Adj es (v : Int) (w : Int)) from by rw [Bool.eq_iff_iff, yes_iff, yes_iff, adj_turn]]]
theorem ink_turn {n k v : Nat} {es : List (Int × Int × Int)} : InK n (turnF es) k v ↔ InK n es k v := by
  unfold InK Stab
  simp only [dg_turn]
theorem CL.turn {n : Nat} {es : List (Int × Int × Int)} {r : List Int} (h : CL n (turnF es) r) : CL n es r :=
  ⟨h.1, fun v hv => by obtain ⟨k, h1, h2, h3⟩ := h.2 v hv; exact ⟨k, h1, ink_turn.1 h2, fun h => h3 (ink_turn.2 h)⟩⟩
theorem FnTurnShapes_true {b : List Int} (hb : Bts b) : laws_FnTurnShapes b = some true := by
  unfold laws_FnTurnShapes
  by_cases h0 : (1048576 : Int) < b.length
  · rw [if_pos (by simpa using h0)]
  rw [if_neg (by simpa using h0)]
  obtain ⟨⟨n, es⟩, h1, h2, h3⟩ : gives (spec_DrawCoresOf b) fun r => (0 ≤ r.1 ∧ r.1 ≤ 16) ∧ r.2.length ≤ 40 := by
    unfold spec_DrawCoresOf
    rw [gives_bind]
    refine (open_ok hb).mono' (by rfl) ?_
    rintro ⟨c, p⟩ ⟨h1, h2, h3⟩
    simp only at h1 h2 h3 ⊢
    rw [gives_bind]
    refine (Dense_ok h1 ⟨by omega, by omega⟩).mono ?_
    rintro ⟨n, es, q⟩ ⟨g1, g2⟩
    exact gives_some.2 ⟨g1, g2⟩
  simp only at h2 h3
  rw [h1, Option.bind_some]
  dsimp only
  by_cases hg : GOk n es
  · have hgt := turnF_ok hg
    obtain ⟨x, hx1, hx2⟩ := impl_CoresOf_ok hg
    obtain ⟨y, hy1, hy2⟩ := spec_CoresOf_ok hg
    obtain ⟨z, hz1, hz2⟩ := impl_CoresOf_ok hgt
    have hxy := hx2.uniq hy2
    subst hxy
    have hxz := hx2.uniq hz2.turn
    subst hxz
    have hxl := hx2.1
    obtain ⟨d, d1, d2, d3⟩ := degrees_turn hg
    obtain ⟨l, l1, l2, l3⟩ := least_turn hg
    obtain ⟨t, t1, t2, t3⟩ := triangles_turn hg
    rw [hx1, Option.bind_some, hy1, Option.bind_some, sameInts_self (by omega), Option.bind_some, if_neg (by simp), impl_TurnGraph_eq hg, Option.bind_some]
    dsimp only
    rw [spec_GraphValid_eq ⟨by omega, by omega⟩ (by omega), gok_true hg, Option.bind_some, if_pos rfl, hz1, Option.bind_some, sameInts_self (by omega), Option.bind_some, if_pos rfl, d2, Option.bind_some, d1, Option.bind_some, sameInts_self (by omega), Option.bind_some, if_pos rfl, l2, Option.bind_some, l1, Option.bind_some, sameInts_self (by omega), Option.bind_some, if_pos rfl, t2, Option.bind_some, t1, Option.bind_some, sameInts_self (by omega), Option.bind_some, if_pos rfl, alive_eq]
    rfl
  · rw [impl_CoresOf_not hg, Option.bind_some, spec_CoresOf_not ⟨by omega, by omega⟩ (by omega) hg, Option.bind_some, sameInts_self (by simp), Option.bind_some, if_neg (by simp), impl_TurnGraph_not hg, Option.bind_some]
    dsimp only
    rw [spec_GraphValid_eq ⟨by omega, by omega⟩ (by omega), gok_false hg, Option.bind_some, if_neg (by simp), alive_eq]
    rfl
end Go.Proofs.YtdjckcedpnabpaaDoor
