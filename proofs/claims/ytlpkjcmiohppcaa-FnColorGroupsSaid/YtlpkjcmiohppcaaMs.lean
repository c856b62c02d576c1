/- Groups of colors. -/
import Derived.Test.YtlpkjcmiohppcaaMi
set_option linter.unusedSimpArgs false
set_option linter.unusedVariables false
namespace Go.Proofs.Ytlpkjcmiohppcaa
open Go Go.Av
attribute [local go_sem] gives_chk gives_ite gives_some gives_bind gives_join Sum.elim_inl Sum.elim_inr decide_eq_true_eq decide_eq_false_iff_not Bool.not_eq_true' Bool.not_eq_false' Bool.or_eq_true Bool.and_eq_true Bool.not_eq_eq_eq_not beq_iff_eq bne_iff_ne ne_eq Bool.or_eq_false_iff Bool.and_eq_false_iff Bool.not_eq_true Bool.not_eq_false Bool.not_true Bool.not_false Int.toNat_natCast beq_eq_false_iff_ne bne_eq_false_iff_eq Decidable.not_not Bool.default_bool

/-- The places j < k of color c. -/
def grp (cs : List Int) (c : Int) : Nat → List Int
  | 0 => []
  | k + 1 => if cs.getD k 0 = c then grp cs c k ++ [(k : Int)] else grp cs c k
theorem grp_len (cs : List Int) (c : Int) : ∀ k, (grp cs c k).length ≤ k
  | 0 => Nat.le_refl _
  | k + 1 => by
    have := grp_len cs c k
    simp only [grp]
    split
    · simp only [List.length_append, List.length_cons, List.length_nil]; omega
    · omega
/-- One more than the greatest color of the first k. -/
def topC (cs : List Int) : Nat → Int
  | 0 => 0
  | k + 1 => max (topC cs k) (cs.getD k 0 + 1)
def ColR (cs : List Int) : Prop := cs.length ≤ 16 ∧ ∀ k, k < cs.length → 0 ≤ cs.getD k 0 ∧ cs.getD k 0 ≤ 16
theorem topC_in {cs : List Int} (h : ColR cs) : ∀ k, k ≤ cs.length → 0 ≤ topC cs k ∧ topC cs k ≤ 17 ∧ ∀ j, j < k → cs.getD j 0 < topC cs k
  | 0, _ => ⟨Int.le_refl _, by simp [topC], fun j hj => absurd hj (Nat.not_lt_zero _)⟩
  | k + 1, hk => by
    obtain ⟨h1, h2, h3⟩ := topC_in h k (by omega)
    have := h.2 k (by omega)
    simp only [topC]
    refine ⟨by omega, by omega, fun j hj => ?_⟩
    by_cases hjk : j = k
    · subst hjk; omega
    · have := h3 j (by omega); omega
open Classical in
noncomputable def grpF (cs : List Int) : List (List Int) := if ColR cs then mks (fun c => grp cs (c : Nat) cs.length) (topC cs cs.length).toNat else []
theorem grp_none {cs : List Int} {c : Int} : ∀ k, (∀ j, j < k → ¬ cs.getD j 0 = c) → grp cs c k = []
  | 0, _ => rfl
  | k + 1, h => by simp only [grp]; rw [if_neg (h k (by omega)), grp_none k fun j hj => h j (by omega)]
theorem impl_top {cs : List Int} (hl : cs.length ≤ 16) : gives (loop (impl_ColorGroups_b0 cs) (0, 0)) fun x => match x with | .inl m => ColR cs ∧ m = topC cs cs.length | .inr _ => ¬ ColR cs := by
  refine loop_to (fun k : Nat => (topC cs k, (k : Int))) (fun k => k ≤ cs.length ∧ ∀ j, j < k → 0 ≤ cs.getD j 0 ∧ cs.getD j 0 ≤ 16) (fun k => cs.length - k) 0 rfl ⟨Nat.zero_le _, fun j hj => absurd hj (Nat.not_lt_zero _)⟩ ?_
  rintro k ⟨hk, hj⟩
  simp only [impl_ColorGroups_b0, go_sem]
  refine ⟨fun hc => ⟨by omega, fun hb => ?_, fun hb => ⟨by omega, by omega, k + 1, ⟨by omega, fun j h => ?_⟩, by omega, by simp only [topC, Int.natCast_add, Int.natCast_one]⟩⟩, fun hc => ?_⟩
  · intro h
    have := h.2 k (by omega)
    omega
  · by_cases hjk : j = k
    · subst hjk; omega
    · exact hj j (by omega)
  · rw [show k = cs.length from by omega] at hj ⊢
    exact ⟨⟨hl, hj⟩, rfl⟩
theorem impl_fill {cs : List Int} (h : ColR cs) : loop (impl_ColorGroups_b1 cs) (0, List.replicate (topC cs cs.length).toNat []) = some (mks (fun c => grp cs (c : Nat) cs.length) (topC cs cs.length).toNat) := by
  obtain ⟨t1, t2, t3⟩ := topC_in h cs.length (Nat.le_refl _)
  have h16 := h.1
  refine gives_eq.1 (loop_to (fun k : Nat => ((k : Int), mks (fun c => grp cs (c : Nat) k) (topC cs cs.length).toNat)) (fun k => k ≤ cs.length) (fun k => cs.length - k) 0 ?_ (Nat.zero_le _) ?_)
  · simp only [Prod.mk.injEq]
    exact ⟨rfl, List.ext_getElem (by simp [mks]) fun i h1 h2 => by simp [mks, grp]⟩
  · intro k hk
    have hml := mks_len (fun c : Nat => grp cs (c : Nat) k) (topC cs cs.length).toNat
    simp only [impl_ColorGroups_b1, go_sem]
    refine ⟨fun hc => ?_, fun hc => by rw [show k = cs.length from by omega]⟩
    have hck := h.2 k (by omega)
    have htk := t3 k (by omega)
    have hgl := grp_len cs (cs.getD k 0) k
    have hgt : (mks (fun c : Nat => grp cs (c : Nat) k) (topC cs cs.length).toNat).getD (cs.getD k 0).toNat [] = grp cs (cs.getD k 0) k := by
      rw [mks_get (by omega), show (((cs.getD k 0).toNat : Nat) : Int) = cs.getD k 0 from by omega]
    rw [hgt]
    refine ⟨by omega, by omega, by omega, by omega, by omega, k + 1, by omega, by omega, ?_⟩
    simp only [Prod.mk.injEq, Int.natCast_add, Int.natCast_one, true_and]
    refine List.ext_getElem (by simp [mks_len]) fun i h1 h2 => ?_
    rw [mks_len] at h2
    rw [List.getElem_set]
    simp only [mks, List.getElem_map, List.getElem_range, grp]
    split
    · rename_i he
      subst he
      rw [if_pos (by omega), show (((cs.getD k 0).toNat : Nat) : Int) = cs.getD k 0 from by omega]
    · rename_i he
      rw [if_neg (by omega)]
theorem impl_ColorGroups_eq {cs : List Int} : impl_ColorGroups cs = some (grpF cs) := by
  unfold impl_ColorGroups
  by_cases hl : (16 : Int) < cs.length
  · rw [if_pos (by simpa using hl), grpF, if_neg (fun h => by have := h.1; omega)]
  · rw [if_neg (by simpa using hl)]
    obtain ⟨x, h1, h2⟩ := impl_top (cs := cs) (by omega)
    rw [h1]
    simp only [Option.bind_some]
    cases x with
    | inl m =>
      obtain ⟨hR, rfl⟩ := h2
      obtain ⟨t1, t2, t3⟩ := topC_in hR cs.length (Nat.le_refl _)
      rw [Sum.elim_inl, chk_pos (by omega), impl_fill hR, grpF, if_pos hR]
      rfl
    | inr u => rw [Sum.elim_inr, grpF, if_neg h2]
theorem sameRecords_self {xs : List (List Int)} (hx : xs.length ≤ 1000000) (h : ∀ j, j < xs.length → (xs.getD j []).length ≤ 1000000) (hs : ∀ ys : List Int, ys.length ≤ 1000000000 → laws_sameInts ys ys = some true) : laws_sameRecords xs xs = some true := by
  unfold laws_sameRecords
  rw [if_neg (by simp)]
  have key : loop (laws_sameRecords_b0 xs xs) 0 = some (Sum.inl ()) := by
    refine gives_eq.1 (loop_to (fun k : Nat => (k : Int)) (fun k => k ≤ xs.length) (fun k => xs.length - k) 0 rfl (Nat.zero_le _) ?_)
    intro k hk
    simp only [laws_sameRecords_b0, gives_ite, gives_chk, gives_bind, gives_some, decide_eq_true_eq, Int.toNat_natCast]
    refine ⟨fun hc => ⟨by omega, by omega, by omega, by omega, ?_⟩, fun _ => trivial⟩
    have := h k (by omega)
    rw [hs (xs.getD k []) (by omega)]
    refine gives_some.2 ⟨fun hh => by simp at hh, fun _ => ⟨by omega, k + 1, by omega, by omega, by simp⟩⟩
  rw [key]; rfl
/-- Marks in rows of rows. -/
def kAt (xs : List (List Int)) (k : Int) : Nat → Int
  | 0 => k
  | i + 1 => kAt xs k i + ((xs.getD i []).length : Int)
def mkR (xs : List (List Int)) (k : Int) (i : Nat) : List Int := mks (fun j => kAt xs k i + (j : Int)) (xs.getD i []).length
theorem kAt_in {xs : List (List Int)} {k : Int} (h : ∀ j, (xs.getD j []).length ≤ 1000) : ∀ i, k ≤ kAt xs k i ∧ kAt xs k i ≤ k + 1000 * (i : Nat)
  | 0 => by simp [kAt]
  | i + 1 => by
    have := kAt_in (k := k) h i
    have := h i
    simp only [kAt]
    omega
theorem grpF_len (cs : List Int) : (grpF cs).length ≤ 17 ∧ ∀ j, ((grpF cs).getD j []).length ≤ 16 := by
  unfold grpF
  split
  · rename_i h
    obtain ⟨t1, t2, t3⟩ := topC_in h cs.length (Nat.le_refl _)
    rw [mks_len]
    refine ⟨by omega, fun j => ?_⟩
    by_cases hj : j < (topC cs cs.length).toNat
    · rw [mks_get hj]
      have := grp_len cs (j : Nat) cs.length
      have := h.1
      omega
    · rw [List.getD_eq_getElem?_getD, List.getElem?_eq_none (by rw [mks_len]; omega)]; simp
  · simp

/-! The reference's groups. -/
theorem topC_pre {cs : List Int} : ∀ k, (∀ j, j < k → 0 ≤ cs.getD j 0 ∧ cs.getD j 0 ≤ 16) → 0 ≤ topC cs k ∧ topC cs k ≤ 17 ∧ ∀ j, j < k → cs.getD j 0 < topC cs k
  | 0, _ => ⟨Int.le_refl _, by simp [topC], fun j hj => absurd hj (Nat.not_lt_zero _)⟩
  | k + 1, h => by
    obtain ⟨h1, h2, h3⟩ := topC_pre k fun j hj => h j (by omega)
    have := h k (by omega)
    simp only [topC]
    refine ⟨by omega, by omega, fun j hj => ?_⟩
    by_cases hjk : j = k
    · subst hjk; omega
    · have := h3 j (by omega); omega
theorem spec_more {cs : List Int} {v : Nat} (hv : v < cs.length) (h : ∀ j, j < v + 1 → 0 ≤ cs.getD j 0 ∧ cs.getD j 0 ≤ 16) :
    loop (spec_ColorGroups_b0 cs v) (mks (fun c => grp cs (c : Nat) v) (topC cs v).toNat) = some (mks (fun c => grp cs (c : Nat) v) (topC cs (v + 1)).toNat) := by
  obtain ⟨t1, t2, t3⟩ := topC_pre (cs := cs) v fun j hj => h j (by omega)
  have hc := h v (by omega)
  have hM : topC cs (v + 1) = max (topC cs v) (cs.getD v 0 + 1) := rfl
  refine gives_eq.1 (loop_to (fun j : Nat => mks (fun c => grp cs (c : Nat) v) j) (fun j => (topC cs v).toNat ≤ j ∧ j ≤ (topC cs (v + 1)).toNat) (fun j => (topC cs (v + 1)).toNat - j) (topC cs v).toNat rfl ⟨Nat.le_refl _, by omega⟩ ?_)
  rintro j ⟨h1, h2⟩
  unfold spec_ColorGroups_b0
  have hl := mks_len (fun c : Nat => grp cs (c : Nat) v) j
  dsimp only
  rw [gives_chk, Int.toNat_natCast, hl, gives_ite]
  refine ⟨by omega, fun hj => ?_, fun hj => ?_⟩
  · have hj := of_decide_eq_true hj
    rw [gives_chk]
    refine ⟨by omega, gives_some.2 ⟨j + 1, ⟨by omega, by omega⟩, by omega, ?_⟩⟩
    rw [mks_succ, grp_none (cs := cs) (c := (j : Nat)) v fun i hi he => by have := t3 i hi; omega]
    rw [List.set_append_right _ _ (by rw [hl]; exact Nat.le_refl _), hl, Nat.sub_self]; rfl
  · have hj : ¬ ((j : Int) ≤ cs.getD v 0) := fun e => hj (decide_eq_true e)
    rw [show j = (topC cs (v + 1)).toNat from by omega]
    exact gives_some.2 rfl
theorem spec_groups {cs : List Int} (hx : cs.length ≤ 1000000000) : gives (loop (spec_ColorGroups_b1 cs) (0, [])) fun x => match x with | .inl r => ColR cs ∧ r = mks (fun c => grp cs (c : Nat) cs.length) (topC cs cs.length).toNat | .inr _ => ¬ ColR cs := by
  refine loop_to (fun k : Nat => ((k : Int), mks (fun c => grp cs (c : Nat) k) (topC cs k).toNat)) (fun k => k ≤ cs.length ∧ (∀ j, j < k → 0 ≤ cs.getD j 0 ∧ cs.getD j 0 ≤ 16) ∧ (k = 0 ∨ cs.length ≤ 16)) (fun k => cs.length - k) 0 (by simp [mks, topC]) ⟨Nat.zero_le _, fun j hj => absurd hj (Nat.not_lt_zero _), .inl rfl⟩ ?_
  rintro k ⟨hk, hj, h16⟩
  unfold spec_ColorGroups_b1
  dsimp only
  rw [gives_ite]
  refine ⟨fun hc => ?_, fun hc => ?_⟩
  · have hc := of_decide_eq_true hc
    rw [gives_chk, Int.toNat_natCast, gives_ite]
    refine ⟨by omega, fun hb => gives_some.2 fun hR => ?_, fun hb => ?_⟩
    · have h1 := hR.2 k (by omega)
      have h2 := hR.1
      simp only [Bool.or_eq_true, Bool.not_eq_true', Bool.and_eq_false_iff, decide_eq_false_iff_not, decide_eq_true_eq] at hb
      omega
    · simp only [Bool.or_eq_true, Bool.not_eq_true', Bool.and_eq_false_iff, decide_eq_false_iff_not, decide_eq_true_eq] at hb
      have hall : ∀ j, j < k + 1 → 0 ≤ cs.getD j 0 ∧ cs.getD j 0 ≤ 16 := fun j h => by
        by_cases hjk : j = k
        · subst hjk; omega
        · exact hj j (by omega)
      obtain ⟨t1, t2, t3⟩ := topC_pre (cs := cs) (k + 1) hall
      have htk := t3 k (by omega)
      have hck := hall k (by omega)
      have hgl := grp_len cs (cs.getD k 0) k
      rw [spec_more (by omega) hall, Option.bind_some]
      have hml := mks_len (fun c : Nat => grp cs (c : Nat) k) (topC cs (k + 1)).toNat
      have hgt : (mks (fun c : Nat => grp cs (c : Nat) k) (topC cs (k + 1)).toNat).getD (cs.getD k 0).toNat [] = grp cs (cs.getD k 0) k := by
        rw [mks_get (by omega), show (((cs.getD k 0).toNat : Nat) : Int) = cs.getD k 0 from by omega]
      rw [hgt, hml, gives_chk, gives_chk, gives_chk, gives_chk, gives_chk]
      refine ⟨by omega, by omega, by omega, by omega, by omega, gives_some.2 ⟨k + 1, ⟨by omega, hall, .inr (by omega)⟩, by omega, ?_⟩⟩
      simp only [Prod.mk.injEq, Int.natCast_add, Int.natCast_one, true_and]
      refine List.ext_getElem (by simp [mks_len]) fun i h1 h2 => ?_
      rw [mks_len] at h2
      rw [List.getElem_set]
      simp only [mks, List.getElem_map, List.getElem_range, grp]
      split
      · rename_i he
        subst he
        rw [if_pos (by omega), show (((cs.getD k 0).toNat : Nat) : Int) = cs.getD k 0 from by omega]
      · rename_i he
        rw [if_neg (by omega)]
  · have hc : ¬ ((k : Int) < cs.length) := fun e => hc (decide_eq_true e)
    rw [show k = cs.length from by omega] at hj h16 ⊢
    exact gives_some.2 ⟨⟨by omega, hj⟩, rfl⟩
theorem spec_ColorGroups_eq {cs : List Int} (hx : cs.length ≤ 1000000000) : spec_ColorGroups cs = some (grpF cs) := by
  unfold spec_ColorGroups
  obtain ⟨x, h1, h2⟩ := spec_groups hx
  rw [h1, Option.bind_some]
  cases x with
  | inl r => obtain ⟨hR, rfl⟩ := h2; rw [Sum.elim_inl, grpF, if_pos hR]
  | inr u => rw [Sum.elim_inr, grpF, if_neg h2]
/-! Groups have all vertices. -/
theorem grp_get {cs : List Int} {c : Int} : ∀ k i, i < (grp cs c k).length → 0 ≤ (grp cs c k).getD i 0 ∧ (grp cs c k).getD i 0 < k ∧ cs.getD ((grp cs c k).getD i 0).toNat 0 = c ∧ (0 < i → (grp cs c k).getD (i - 1) 0 < (grp cs c k).getD i 0)
  | 0, i, hi => absurd hi (by simp [grp])
  | k + 1, i, hi => by
    simp only [grp] at hi ⊢
    split at hi
    · rename_i hc
      rw [if_pos hc]
      have ih := grp_get (cs := cs) (c := c) k
      rw [List.length_append, List.length_singleton] at hi
      have g1 : ∀ j, j < (grp cs c k).length → (grp cs c k ++ [(k : Int)]).getD j 0 = (grp cs c k).getD j 0 := fun j hj => by
        simp only [List.getD_eq_getElem?_getD, List.getElem?_append_left hj]
      have g2 : (grp cs c k ++ [(k : Int)]).getD (grp cs c k).length 0 = (k : Int) := by
        simp only [List.getD_eq_getElem?_getD, List.getElem?_append_right (Nat.le_refl _), Nat.sub_self, List.getElem?_cons_zero, Option.getD_some]
      by_cases hl : i < (grp cs c k).length
      · obtain ⟨h1, h2, h3, h4⟩ := ih i hl
        rw [g1 i hl]
        refine ⟨h1, by omega, h3, fun h0 => ?_⟩
        rw [g1 (i - 1) (by omega)]; exact h4 h0
      · rw [show i = (grp cs c k).length from by omega, g2]
        refine ⟨by omega, by omega, by rw [Int.toNat_natCast]; exact hc, fun h0 => ?_⟩
        rw [g1 _ (by omega)]
        exact (ih _ (by omega)).2.1
    · rename_i hc
      rw [if_neg hc]
      obtain ⟨h1, h2, h3, h4⟩ := grp_get (cs := cs) (c := c) k i hi
      exact ⟨h1, by omega, h3, h4⟩
def sumL (cs : List Int) (k : Nat) : Nat → Int
  | 0 => 0
  | m + 1 => sumL cs k m + (grp cs (m : Nat) k).length
theorem sumL_zero (cs : List Int) : ∀ m, sumL cs 0 m = 0
  | 0 => rfl
  | m + 1 => by simp [sumL, sumL_zero cs m, grp]
theorem sumL_succ (cs : List Int) (k : Nat) : ∀ m, sumL cs (k + 1) m = sumL cs k m + if 0 ≤ cs.getD k 0 ∧ cs.getD k 0 < m then 1 else 0
  | 0 => by rw [if_neg (by omega)]; rfl
  | m + 1 => by
    have ih := sumL_succ cs k m
    simp only [sumL, grp]
    rw [ih]
    by_cases hc : cs.getD k 0 = (m : Nat)
    · rw [if_pos hc, if_neg (by omega), if_pos (by omega), List.length_append, List.length_singleton]; omega
    · rw [if_neg hc]
      by_cases hm : 0 ≤ cs.getD k 0 ∧ cs.getD k 0 < m
      · rw [if_pos hm, if_pos (by omega)]; omega
      · rw [if_neg hm, if_neg (by omega)]; omega
theorem sumL_all {cs : List Int} {m : Nat} : ∀ k, (∀ j, j < k → 0 ≤ cs.getD j 0 ∧ cs.getD j 0 < m) → sumL cs k m = k
  | 0, _ => by simp [sumL_zero]
  | k + 1, h => by
    rw [sumL_succ, sumL_all k fun j hj => h j (by omega), if_pos (h k (by omega))]; omega
theorem sumL_in (cs : List Int) (k : Nat) : ∀ m, 0 ≤ sumL cs k m ∧ sumL cs k m ≤ (k : Int) * m
  | 0 => by simp [sumL]
  | m + 1 => by
    obtain ⟨h1, h2⟩ := sumL_in cs k m
    have := grp_len cs (m : Nat) k
    have e : (k : Int) * ((m + 1 : Nat) : Int) = k * m + k := by rw [Int.natCast_add, Int.mul_add]; simp
    simp only [sumL]
    rw [e]; omega
theorem DrawColorGroups_ok {b : List Int} (hb : Bts b) : gives (spec_DrawColorGroups b) fun r => r.length ≤ 17 := by
  unfold spec_DrawColorGroups
  rw [gives_bind]
  refine (open_ok hb).mono ?_
  rintro ⟨ys, p⟩ ⟨h1, h2, h3⟩
  simp only at h1 h2 h3 ⊢
  rw [gives_bind]
  refine (pick_ok h1 ⟨by omega, by omega⟩).mono ?_
  rintro ⟨y0, p0⟩ ⟨e0, h0⟩
  simp only at e0 h0 ⊢
  rw [gives_bind]
  refine (loop_to (Q := fun x : Int × List Int => (0 ≤ x.1 ∧ x.1 ≤ 100) ∧ x.2.length ≤ 11) (fun s : Nat × Int × List Int => ((s.1 : Int), s.2.1, s.2.2))
    (fun s => s.1 ≤ 11 ∧ (0 ≤ s.2.1 ∧ s.2.1 ≤ 100 - 2 * s.1) ∧ s.2.2.length ≤ 11 - s.1) (fun s => s.1) (y0.toNat, p0, []) (by simp only; rw [show ((y0.toNat : Nat) : Int) = y0 from by omega]) ⟨by simp only; omega, by simp only; omega, by simp⟩ ?_).mono ?_
  · rintro ⟨k, q, l⟩ ⟨hk, hq, hl⟩
    simp only at hk hq hl
    unfold spec_DrawColorGroups_b0
    dsimp only
    rw [gives_ite]
    refine ⟨fun hc => ?_, fun hc => gives_some.2 ⟨by simp only; omega, by simp only; omega⟩⟩
    have hc := of_decide_eq_true hc
    rw [gives_bind]
    refine (pick_ok h1 ⟨by omega, by omega⟩).mono ?_
    rintro ⟨y1, p1⟩ ⟨e1, g1⟩
    simp only at e1 g1 ⊢
    rw [gives_bind]
    refine (pick_ok h1 ⟨by omega, by omega⟩).mono ?_
    rintro ⟨y2, p2⟩ ⟨e2, g2⟩
    simp only at e2 g2 ⊢
    have t1 : 0 ≤ ([0, 0, 0, 0, 0, 0, 0, 1, 2, 3] : List Int).getD y2.toNat 0 ∧ ([0, 0, 0, 0, 0, 0, 0, 1, 2, 3] : List Int).getD y2.toNat 0 < 4 := getD_all (P := fun x => 0 ≤ x ∧ x < 4) (by simp) (by omega) _
    rw [gives_chk, gives_chk, gives_chk, gives_chk]
    refine ⟨by omega, t1, by omega, by omega, gives_some.2 ⟨(k - 1, p2, l ++ [([y1, 16, 17, (-1)] : List Int).getD (([0, 0, 0, 0, 0, 0, 0, 1, 2, 3] : List Int).getD y2.toNat 0).toNat 0]), ⟨by simp only; omega, by simp only; omega, by simp only [List.length_append, List.length_singleton]; omega⟩, by simp only; omega, ?_⟩⟩
    simp only
    rw [show ((k - 1 : Nat) : Int) = (k : Int) - 1 from by omega]
  · rintro ⟨q, l⟩ ⟨hq, hl⟩
    simp only at hq hl ⊢
    simp only [join]
    rw [gives_bind]
    refine (odd_ok h1 ⟨by omega, by omega⟩).mono ?_
    rintro ⟨o, q1⟩ ho
    simp only at ho ⊢
    rw [gives_ite]
    refine ⟨fun _ => ?_, fun _ => gives_some.2 (by omega)⟩
    rw [gives_chk]
    exact ⟨by omega, gives_some.2 (by simp)⟩
theorem law_group {cs : List Int} (hR : ColR cs) {c : Nat} (hc : c < (topC cs cs.length).toNat) : loop (laws_FnColorGroups_b0 cs (mks (fun c => grp cs (c : Nat) cs.length) (topC cs cs.length).toNat) (c : Int)) 0 = some (.inl ()) := by
  have h16 := hR.1
  have hgl := grp_len cs (c : Nat) cs.length
  have hg : (mks (fun c : Nat => grp cs (c : Nat) cs.length) (topC cs cs.length).toNat).getD c [] = grp cs (c : Nat) cs.length := mks_get hc
  have hl := mks_len (fun c : Nat => grp cs (c : Nat) cs.length) (topC cs cs.length).toNat
  refine gives_eq.1 (loop_to (fun i : Nat => (i : Int)) (fun i => i ≤ (grp cs (c : Nat) cs.length).length) (fun i => (grp cs (c : Nat) cs.length).length - i) 0 rfl (Nat.zero_le _) ?_)
  intro i hi
  unfold laws_FnColorGroups_b0
  rw [Int.toNat_natCast, hg, hl, gives_chk, gives_chk, gives_ite]
  refine ⟨by omega, by omega, fun hlt => ?_, fun hlt => gives_some.2 rfl⟩
  have hlt := of_decide_eq_true hlt
  obtain ⟨g1, g2, g3, g4⟩ := grp_get (cs := cs) (c := (c : Nat)) cs.length i (by omega)
  rw [Int.toNat_natCast]
  have e1 : (decide ((grp cs (c : Nat) cs.length).getD i 0 < 0)) = false := decide_eq_false (by omega)
  have e2 : (decide ((cs.length : Int) ≤ (grp cs (c : Nat) cs.length).getD i 0)) = false := decide_eq_false (by omega)
  have e3 : (cs.getD ((grp cs (c : Nat) cs.length).getD i 0).toNat 0 != ((c : Nat) : Int)) = false := by rw [g3]; simp
  have e4 : (decide (0 < (i : Int)) && decide ((grp cs (c : Nat) cs.length).getD i 0 ≤ (grp cs (c : Nat) cs.length).getD ((i : Int) - 1).toNat 0)) = false := by
    by_cases h0 : 0 < i
    · have := g4 h0
      rw [show ((i : Int) - 1).toNat = i - 1 from by omega]
      simp only [Bool.and_eq_false_iff, decide_eq_false_iff_not]; omega
    · simp only [Bool.and_eq_false_iff, decide_eq_false_iff_not]; omega
  rw [e1, e2, e3, e4]
  rw [chk_pos (by omega), chk_pos (by omega), chk_pos (by omega), chk_pos (by intro _; omega), chk_pos (by intro _; omega), chk_pos (by intro _; omega), chk_pos (by intro _; omega), chk_pos (by intro _; omega), chk_pos (by intro _ _; omega), chk_pos (by intro _ _; omega), chk_pos (by omega), chk_pos (by intro _ h; have := of_decide_eq_true h; omega)]
  rw [if_neg (by simp), chk_pos (by omega)]
  exact gives_some.2 ⟨i + 1, by omega, by omega, by simp⟩
theorem FnColorGroups_true {b : List Int} (hb : Bts b) (hsame : ∀ ys : List Int, ys.length ≤ 1000000000 → laws_sameInts ys ys = some true) : laws_FnColorGroups b = some true := by
  unfold laws_FnColorGroups
  by_cases hs : (1048576 : Int) < b.length
  · rw [if_pos (by simp only [decide_eq_true_eq]; exact hs)]
  rw [if_neg (by simp only [decide_eq_true_eq]; exact hs)]
  obtain ⟨cs, e, hl⟩ := DrawColorGroups_ok hb
  obtain ⟨g1, g2⟩ := grpF_len cs
  rw [e, Option.bind_some, impl_ColorGroups_eq, Option.bind_some, spec_ColorGroups_eq (by omega), Option.bind_some, sameRecords_self (by omega) (fun j _ => by have := g2 j; omega) hsame, Option.bind_some, if_neg (by simp)]
  by_cases h0 : (grpF cs).length = 0
  · rw [if_pos (by simp [h0]), alive_eq]; rfl
  rw [if_neg (by simp only [beq_iff_eq]; omega)]
  have hR : ColR cs := Classical.byContradiction fun h => by rw [grpF, if_neg h] at h0; simp at h0
  obtain ⟨t1, t2, t3⟩ := topC_in hR cs.length (Nat.le_refl _)
  have h16 := hR.1
  rw [grpF, if_pos hR]
  have hml := mks_len (fun c : Nat => grp cs (c : Nat) cs.length) (topC cs cs.length).toNat
  have key : loop (laws_FnColorGroups_b1 cs (mks (fun c => grp cs (c : Nat) cs.length) (topC cs cs.length).toNat)) (0, 0) = some (.inl (sumL cs cs.length (topC cs cs.length).toNat)) := by
    refine gives_eq.1 (loop_to (fun c : Nat => (sumL cs cs.length c, (c : Int))) (fun c => c ≤ (topC cs cs.length).toNat) (fun c => (topC cs cs.length).toNat - c) 0 rfl (Nat.zero_le _) ?_)
    intro c hc
    unfold laws_FnColorGroups_b1
    dsimp only
    rw [gives_ite, hml]
    refine ⟨fun hlt => ?_, fun hlt => ?_⟩
    · have hlt := of_decide_eq_true hlt
      have hs := sumL_in cs cs.length c
      have hgl := grp_len cs (c : Nat) cs.length
      have hm : (cs.length : Int) * c ≤ 16 * 17 := Int.mul_le_mul (by omega) (by omega) (by omega) (by omega)
      rw [Int.toNat_natCast, mks_get (f := fun c : Nat => grp cs (c : Nat) cs.length) (show c < (topC cs cs.length).toNat by omega), law_group hR (by omega), Option.bind_some, Sum.elim_inl]
      rw [chk_pos (by omega), chk_pos (by omega), chk_pos (by omega), chk_pos (by omega)]
      exact gives_some.2 ⟨c + 1, by omega, by omega, by simp [sumL]⟩
    · have hlt : ¬ ((c : Int) < ((topC cs cs.length).toNat : Nat)) := fun e => hlt (decide_eq_true e)
      rw [show c = (topC cs cs.length).toNat from by omega]
      exact gives_some.2 rfl
  rw [key, Option.bind_some, Sum.elim_inl, sumL_all cs.length fun j hj => ⟨(hR.2 j hj).1, by have := t3 j hj; omega⟩]
  simp
end Go.Proofs.Ytlpkjcmiohppcaa
