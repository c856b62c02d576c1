/- Groups of colors. -/
import Derived.Test.YtlpkjcmiohppcaaMi
set_option linter.unusedSimpArgs false
set_option linter.unusedVariables false
namespace Go.Proofs.Ytlpkjcmiohppcaa
open Go Go.Av
attribute [local go_sem] gives_chk gives_ite gives_some gives_bind gives_join Sum.elim_inl Sum.elim_inr decide_eq_true_eq decide_eq_false_iff_not Bool.not_eq_true' Bool.not_eq_false' Bool.or_eq_true Bool.and_eq_true Bool.not_eq_eq_eq_not beq_iff_eq bne_iff_ne ne_eq Bool.or_eq_false_iff Bool.and_eq_false_iff Bool.not_eq_true Bool.not_eq_false Bool.not_true Bool.not_false Int.toNat_natCast beq_eq_false_iff_ne bne_eq_false_iff_eq Decidable.not_not Bool.default_bool

/-- The places j < k of color c. -/
def grp (cs : List Int) (c : Int) : Nat → List Int
  | 0 => []
  | k + 1 => if cs.getD k 0 = c then grp cs c k ++ [(k : Int)] else grp cs c k
theorem grp_len (cs : List Int) (c : Int) : ∀ k, (grp cs c k).length ≤ k
  | 0 => Nat.le_refl _
  | k + 1 => by
    have := grp_len cs c k
    simp only [grp]
    split
    · simp only [List.length_append, List.length_cons, List.length_nil]; omega
    · omega
/-- One more than the greatest color of the first k. -/
def topC (cs : List Int) : Nat → Int
  | 0 => 0
  | k + 1 => max (topC cs k) (cs.getD k 0 + 1)
def ColR (cs : List Int) : Prop := cs.length ≤ 16 ∧ ∀ k, k < cs.length → 0 ≤ cs.getD k 0 ∧ cs.getD k 0 ≤ 16
theorem topC_in {cs : List Int} (h : ColR cs) : ∀ k, k ≤ cs.length → 0 ≤ topC cs k ∧ topC cs k ≤ 17 ∧ ∀ j, j < k → cs.getD j 0 < topC cs k
  | 0, _ => ⟨Int.le_refl _, by simp [topC], fun j hj => absurd hj (Nat.not_lt_zero _)⟩
  | k + 1, hk => by
    obtain ⟨h1, h2, h3⟩ := topC_in h k (by omega)
    have := h.2 k (by omega)
    simp only [topC]
    refine ⟨by omega, by omega, fun j hj => ?_⟩
    by_cases hjk : j = k
    · subst hjk; omega
    · have := h3 j (by omega); omega
open Classical in
noncomputable def grpF (cs : List Int) : List (List Int) := if ColR cs then mks (fun c => grp cs (c : Nat) cs.length) (topC cs cs.length).toNat else []
theorem grp_none {cs : List Int} {c : Int} : ∀ k, (∀ j, j < k → ¬ cs.getD j 0 = c) → grp cs c k = []
  | 0, _ => rfl
  | k + 1, h => by simp only [grp]; rw [if_neg (h k (by omega)), grp_none k fun j hj => h j (by omega)]
theorem impl_top {cs : List Int} (hl : cs.length ≤ 16) : gives (loop (impl_ColorGroups_b0 cs) (0, 0)) fun x => match x with | .inl m => ColR cs ∧ m = topC cs cs.length | .inr _ => ¬ ColR cs := by
  refine loop_to (fun k : Nat => (topC cs k, (k : Int))) (fun k => k ≤ cs.length ∧ ∀ j, j < k → 0 ≤ cs.getD j 0 ∧ cs.getD j 0 ≤ 16) (fun k => cs.length - k) 0 rfl ⟨Nat.zero_le _, fun j hj => absurd hj (Nat.not_lt_zero _)⟩ ?_
  rintro k ⟨hk, hj⟩
  simp only [impl_ColorGroups_b0, go_sem]
  refine ⟨fun hc => ⟨by omega, fun hb => ?_, fun hb => ⟨by omega, by omega, k + 1, ⟨by omega, fun j h => ?_⟩, by omega, by simp only [topC, Int.natCast_add, Int.natCast_one]⟩⟩, fun hc => ?_⟩
  · intro h
    have := h.2 k (by omega)
    omega
  · by_cases hjk : j = k
    · subst hjk; omega
    · exact hj j (by omega)
  · rw [show k = cs.length from by omega] at hj ⊢
    exact ⟨⟨hl, hj⟩, rfl⟩
theorem impl_fill {cs : List Int} (h : ColR cs) : loop (impl_ColorGroups_b1 cs) (0, List.replicate (topC cs cs.length).toNat []) = some (mks (fun c => grp cs (c : Nat) cs.length) (topC cs cs.length).toNat) := by
  obtain ⟨t1, t2, t3⟩ := topC_in h cs.length (Nat.le_refl _)
  have h16 := h.1
  refine gives_eq.1 (loop_to (fun k : Nat => ((k : Int), mks (fun c => grp cs (c : Nat) k) (topC cs cs.length).toNat)) (fun k => k ≤ cs.length) (fun k => cs.length - k) 0 ?_ (Nat.zero_le _) ?_)
  · simp only [Prod.mk.injEq]
    exact ⟨rfl, List.ext_getElem (by simp [mks]) fun i h1 h2 => by simp [mks, grp]⟩
  · intro k hk
    have hml := mks_len (fun c : Nat => grp cs (c : Nat) k) (topC cs cs.length).toNat
    simp only [impl_ColorGroups_b1, go_sem]
    refine ⟨fun hc => ?_, fun hc => by rw [show k = cs.length from by omega]⟩
    have hck := h.2 k (by omega)
    have htk := t3 k (by omega)
    have hgl := grp_len cs (cs.getD k 0) k
    have hgt : (mks (fun c : Nat => grp cs (c : Nat) k) (topC cs cs.length).toNat).getD (cs.getD k 0).toNat [] = grp cs (cs.getD k 0) k := by
      rw [mks_get (by omega), show (((cs.getD k 0).toNat : Nat) : Int) = cs.getD k 0 from by omega]
    rw [hgt]
    refine ⟨by omega, by omega, by omega, by omega, by omega, k + 1, by omega, by omega, ?_⟩
    simp only [Prod.mk.injEq, Int.natCast_add, Int.natCast_one, true_and]
    refine List.ext_getElem (by simp [mks_len]) fun i h1 h2 => ?_
    rw [mks_len] at h2
    rw [List.getElem_set]
    simp only [mks, List.getElem_map, List.getElem_range, grp]
    split
    · rename_i he
      subst he
      rw [if_pos (by omega), show (((cs.getD k 0).toNat : Nat) : Int) = cs.getD k 0 from by omega]
    · rename_i he
      rw [if_neg (by omega)]
theorem impl_ColorGroups_eq {cs : List Int} : impl_ColorGroups cs = some (grpF cs) := by
  unfold impl_ColorGroups
  by_cases hl : (16 : Int) < cs.length
  · rw [if_pos (by simpa using hl), grpF, if_neg (fun h => by have := h.1; omega)]
  · rw [if_neg (by simpa using hl)]
    obtain ⟨x, h1, h2⟩ := impl_top (cs := cs) (by omega)
    rw [h1]
    simp only [Option.bind_some]
    cases x with
    | inl m =>
      obtain ⟨hR, rfl⟩ := h2
      obtain ⟨t1, t2, t3⟩ := topC_in hR cs.length (Nat.le_refl _)
      rw [Sum.elim_inl, chk_pos (by omega), impl_fill hR, grpF, if_pos hR]
      rfl
    | inr u => rw [Sum.elim_inr, grpF, if_neg h2]
/-- Rows held against themselves. -/
theorem eqIntSS_self {xs : List (List Int)} (hx : xs.length ≤ 1000000) (h : ∀ j, j < xs.length → (xs.getD j []).length ≤ 1000000) : laws_eqIntSS xs xs = some true := by
  unfold laws_eqIntSS
  rw [if_neg (by simp)]
  have key : loop (laws_eqIntSS_b0 xs xs) 0 = some (Sum.inl ()) := by
    refine gives_eq.1 (loop_to (fun k : Nat => (k : Int)) (fun k => k ≤ xs.length) (fun k => xs.length - k) 0 rfl (Nat.zero_le _) ?_)
    intro k hk
    simp only [laws_eqIntSS_b0, gives_ite, gives_chk, gives_bind, gives_some, decide_eq_true_eq, Int.toNat_natCast]
    refine ⟨fun hc => ⟨by omega, by omega, by omega, by omega, ?_⟩, fun _ => trivial⟩
    have := h k (by omega)
    rw [eqIntS_eq (xs := xs.getD k []) (by omega)]
    refine gives_some.2 ⟨fun hh => by simp at hh, fun _ => ⟨by omega, k + 1, by omega, by omega, by simp⟩⟩
  rw [key]; rfl
/-- Marks in rows of rows. -/
def kAt (xs : List (List Int)) (k : Int) : Nat → Int
  | 0 => k
  | i + 1 => kAt xs k i + ((xs.getD i []).length : Int)
def mkR (xs : List (List Int)) (k : Int) (i : Nat) : List Int := mks (fun j => kAt xs k i + (j : Int)) (xs.getD i []).length
theorem kAt_in {xs : List (List Int)} {k : Int} (h : ∀ j, (xs.getD j []).length ≤ 1000) : ∀ i, k ≤ kAt xs k i ∧ kAt xs k i ≤ k + 1000 * (i : Nat)
  | 0 => by simp [kAt]
  | i + 1 => by
    have := kAt_in (k := k) h i
    have := h i
    simp only [kAt]
    omega
theorem markIntSS_eq {xs : List (List Int)} {k : Int} (hx : xs.length ≤ 1000) (h : ∀ j, (xs.getD j []).length ≤ 1000) (h0 : 0 ≤ k) (h1 : k ≤ 1000000) : laws_markIntSS xs k = some (kAt xs k xs.length, mks (mkR xs k) xs.length) := by
  refine gives_eq.1 ?_
  unfold laws_markIntSS
  rw [gives_bind]
  refine (loop_to (Q := fun r => r = (kAt xs k xs.length, mks (mkR xs k) xs.length)) (fun i : Nat => (kAt xs k i, (i : Int), mks (mkR xs k) i ++ xs.drop i)) (fun i => i ≤ xs.length) (fun i => xs.length - i) 0 (by simp [mks, kAt]) (Nat.zero_le _) ?_).mono ?_
  · intro i hi
    have hl : (mks (mkR xs k) i ++ xs.drop i).length = xs.length := by simp [mks_len]; omega
    simp only [laws_markIntSS_b0, gives_ite, gives_chk, gives_bind, gives_some, decide_eq_true_eq, Int.toNat_natCast, hl]
    refine ⟨fun hc => ⟨by omega, by omega, ?_⟩, fun hc => ?_⟩
    · have hget : (mks (mkR xs k) i ++ xs.drop i).getD i [] = xs.getD i [] := by
        simp only [List.getD_eq_getElem?_getD]
        rw [List.getElem?_append_right (by rw [mks_len]; exact Nat.le_refl _), mks_len, Nat.sub_self, List.getElem?_drop, Nat.add_zero]
      have hk := kAt_in (k := k) h i
      have hr := h i
      rw [hget, markIntS_eq (xs := xs.getD i []) (k := kAt xs k i) (by omega) (by omega) (by omega)]
      refine gives_some.2 ⟨by omega, i + 1, by omega, by omega, ?_⟩
      have := mks_set (f := mkR xs k) (xs := xs) (j := i) (by omega)
      simp only [Prod.mk.injEq, kAt, Int.natCast_add, Int.natCast_one, true_and]
      exact this
    · rw [show i = xs.length from by omega]; simp
  · rintro r rfl
    exact gives_some.2 rfl
theorem heldIntSS_eq {xs : List (List Int)} {k : Int} (hx : xs.length ≤ 1000) (h : ∀ j, (xs.getD j []).length ≤ 1000) (h0 : 0 ≤ k) (h1 : k ≤ 1000000) : laws_heldIntSS (mks (mkR xs k) xs.length) k = some (kAt xs k xs.length) := by
  refine gives_eq.1 ?_
  unfold laws_heldIntSS
  rw [gives_bind]
  have hl := mks_len (mkR xs k) xs.length
  refine (loop_to (Q := fun r => r = Sum.inl (kAt xs k xs.length)) (fun i : Nat => (kAt xs k i, (i : Int))) (fun i => i ≤ xs.length) (fun i => xs.length - i) 0 rfl (Nat.zero_le _) ?_).mono ?_
  · intro i hi
    simp only [laws_heldIntSS_b0, gives_ite, gives_chk, gives_bind, gives_some, decide_eq_true_eq, Int.toNat_natCast, hl]
    refine ⟨fun hc => ⟨by omega, by omega, ?_⟩, fun hc => by rw [show i = xs.length from by omega]⟩
    have hk := kAt_in (k := k) h i
    have hr := h i
    rw [mks_get (show i < xs.length by omega), mkR, heldIntS_eq (n := (xs.getD i []).length) (k := kAt xs k i) (by omega) (by omega) (by omega)]
    exact gives_some.2 ⟨fun hh => by omega, fun _ => ⟨by omega, i + 1, by omega, by omega, by simp only [Prod.mk.injEq, kAt, Int.natCast_add, Int.natCast_one, and_self]⟩⟩
  · rintro r rfl
    exact gives_some.2 rfl
theorem grpF_len (cs : List Int) : (grpF cs).length ≤ 17 ∧ ∀ j, ((grpF cs).getD j []).length ≤ 16 := by
  unfold grpF
  split
  · rename_i h
    obtain ⟨t1, t2, t3⟩ := topC_in h cs.length (Nat.le_refl _)
    rw [mks_len]
    refine ⟨by omega, fun j => ?_⟩
    by_cases hj : j < (topC cs cs.length).toNat
    · rw [mks_get hj]
      have := grp_len cs (j : Nat) cs.length
      have := h.1
      omega
    · rw [List.getD_eq_getElem?_getD, List.getElem?_eq_none (by rw [mks_len]; omega)]; simp
  · simp

/-! The reference's groups. -/
theorem topC_pre {cs : List Int} : ∀ k, (∀ j, j < k → 0 ≤ cs.getD j 0 ∧ cs.getD j 0 ≤ 16) → 0 ≤ topC cs k ∧ topC cs k ≤ 17 ∧ ∀ j, j < k → cs.getD j 0 < topC cs k
  | 0, _ => ⟨Int.le_refl _, by simp [topC], fun j hj => absurd hj (Nat.not_lt_zero _)⟩
  | k + 1, h => by
    obtain ⟨h1, h2, h3⟩ := topC_pre k fun j hj => h j (by omega)
    have := h k (by omega)
    simp only [topC]
    refine ⟨by omega, by omega, fun j hj => ?_⟩
    by_cases hjk : j = k
    · subst hjk; omega
    · have := h3 j (by omega); omega
theorem spec_more {cs : List Int} {v : Nat} (hv : v < cs.length) (h : ∀ j, j < v + 1 → 0 ≤ cs.getD j 0 ∧ cs.getD j 0 ≤ 16) :
    loop (spec_ColorGroups_b0 cs v) (mks (fun c => grp cs (c : Nat) v) (topC cs v).toNat) = some (mks (fun c => grp cs (c : Nat) v) (topC cs (v + 1)).toNat) := by
  obtain ⟨t1, t2, t3⟩ := topC_pre (cs := cs) v fun j hj => h j (by omega)
  have hc := h v (by omega)
  have hM : topC cs (v + 1) = max (topC cs v) (cs.getD v 0 + 1) := rfl
  refine gives_eq.1 (loop_to (fun j : Nat => mks (fun c => grp cs (c : Nat) v) j) (fun j => (topC cs v).toNat ≤ j ∧ j ≤ (topC cs (v + 1)).toNat) (fun j => (topC cs (v + 1)).toNat - j) (topC cs v).toNat rfl ⟨Nat.le_refl _, by omega⟩ ?_)
  rintro j ⟨h1, h2⟩
  unfold spec_ColorGroups_b0
  have hl := mks_len (fun c : Nat => grp cs (c : Nat) v) j
  dsimp only
  rw [gives_chk, Int.toNat_natCast, hl, gives_ite]
  refine ⟨by omega, fun hj => ?_, fun hj => ?_⟩
  · have hj := of_decide_eq_true hj
    rw [gives_chk]
    refine ⟨by omega, gives_some.2 ⟨j + 1, ⟨by omega, by omega⟩, by omega, ?_⟩⟩
    rw [mks_succ, grp_none (cs := cs) (c := (j : Nat)) v fun i hi he => by have := t3 i hi; omega]
    rw [List.set_append_right _ _ (by rw [hl]; exact Nat.le_refl _), hl, Nat.sub_self]; rfl
  · have hj : ¬ ((j : Int) ≤ cs.getD v 0) := fun e => hj (decide_eq_true e)
    rw [show j = (topC cs (v + 1)).toNat from by omega]
    exact gives_some.2 rfl
theorem spec_groups {cs : List Int} (hx : cs.length ≤ 1000000000) : gives (loop (spec_ColorGroups_b1 cs) (0, [])) fun x => match x with | .inl r => ColR cs ∧ r = mks (fun c => grp cs (c : Nat) cs.length) (topC cs cs.length).toNat | .inr _ => ¬ ColR cs := by
  refine loop_to (fun k : Nat => ((k : Int), mks (fun c => grp cs (c : Nat) k) (topC cs k).toNat)) (fun k => k ≤ cs.length ∧ (∀ j, j < k → 0 ≤ cs.getD j 0 ∧ cs.getD j 0 ≤ 16) ∧ (k = 0 ∨ cs.length ≤ 16)) (fun k => cs.length - k) 0 (by simp [mks, topC]) ⟨Nat.zero_le _, fun j hj => absurd hj (Nat.not_lt_zero _), .inl rfl⟩ ?_
  rintro k ⟨hk, hj, h16⟩
  unfold spec_ColorGroups_b1
  dsimp only
  rw [gives_ite]
  refine ⟨fun hc => ?_, fun hc => ?_⟩
  · have hc := of_decide_eq_true hc
    rw [gives_chk, Int.toNat_natCast, gives_ite]
    refine ⟨by omega, fun hb => gives_some.2 fun hR => ?_, fun hb => ?_⟩
    · have h1 := hR.2 k (by omega)
      have h2 := hR.1
      simp only [Bool.or_eq_true, Bool.not_eq_true', Bool.and_eq_false_iff, decide_eq_false_iff_not, decide_eq_true_eq] at hb
      omega
    · simp only [Bool.or_eq_true, Bool.not_eq_true', Bool.and_eq_false_iff, decide_eq_false_iff_not, decide_eq_true_eq] at hb
      have hall : ∀ j, j < k + 1 → 0 ≤ cs.getD j 0 ∧ cs.getD j 0 ≤ 16 := fun j h => by
        by_cases hjk : j = k
        · subst hjk; omega
        · exact hj j (by omega)
      obtain ⟨t1, t2, t3⟩ := topC_pre (cs := cs) (k + 1) hall
      have htk := t3 k (by omega)
      have hck := hall k (by omega)
      have hgl := grp_len cs (cs.getD k 0) k
      rw [spec_more (by omega) hall, Option.bind_some]
      have hml := mks_len (fun c : Nat => grp cs (c : Nat) k) (topC cs (k + 1)).toNat
      have hgt : (mks (fun c : Nat => grp cs (c : Nat) k) (topC cs (k + 1)).toNat).getD (cs.getD k 0).toNat [] = grp cs (cs.getD k 0) k := by
        rw [mks_get (by omega), show (((cs.getD k 0).toNat : Nat) : Int) = cs.getD k 0 from by omega]
      rw [hgt, hml, gives_chk, gives_chk, gives_chk, gives_chk, gives_chk]
      refine ⟨by omega, by omega, by omega, by omega, by omega, gives_some.2 ⟨k + 1, ⟨by omega, hall, .inr (by omega)⟩, by omega, ?_⟩⟩
      simp only [Prod.mk.injEq, Int.natCast_add, Int.natCast_one, true_and]
      refine List.ext_getElem (by simp [mks_len]) fun i h1 h2 => ?_
      rw [mks_len] at h2
      rw [List.getElem_set]
      simp only [mks, List.getElem_map, List.getElem_range, grp]
      split
      · rename_i he
        subst he
        rw [if_pos (by omega), show (((cs.getD k 0).toNat : Nat) : Int) = cs.getD k 0 from by omega]
      · rename_i he
        rw [if_neg (by omega)]
  · have hc : ¬ ((k : Int) < cs.length) := fun e => hc (decide_eq_true e)
    rw [show k = cs.length from by omega] at hj h16 ⊢
    exact gives_some.2 ⟨⟨by omega, hj⟩, rfl⟩
theorem spec_ColorGroups_eq {cs : List Int} (hx : cs.length ≤ 1000000000) : spec_ColorGroups cs = some (grpF cs) := by
  unfold spec_ColorGroups
  obtain ⟨x, h1, h2⟩ := spec_groups hx
  rw [h1, Option.bind_some]
  cases x with
  | inl r => obtain ⟨hR, rfl⟩ := h2; rw [Sum.elim_inl, grpF, if_pos hR]
  | inr u => rw [Sum.elim_inr, grpF, if_neg h2]
theorem FnExactColorGroups_true {cs : List Int} : laws_FnExactColorGroups cs = some true := by
  unfold laws_FnExactColorGroups
  by_cases hs : (1048576 : Int) < cs.length
  · rw [if_pos (by simp only [decide_eq_true_eq]; exact hs)]
  rw [if_neg (by simp only [decide_eq_true_eq]; exact hs)]
  obtain ⟨g1, g2⟩ := grpF_len cs
  have hk := kAt_in (xs := grpF cs) (k := 1) (fun j => by have := g2 j; omega) (grpF cs).length
  simp only [toIntS_eq (ss := cs) (by omega), Option.bind_some, spec_ColorGroups_eq (cs := cs) (by omega), impl_ColorGroups_eq, eqIntSS_self (xs := grpF cs) (by omega) (fun j _ => by have := g2 j; omega), eqIntS_eq (xs := cs) (show cs.length ≤ 1000000000 by omega),
    markIntS_eq (xs := cs) (k := 1) (by omega) (by omega) (by omega), markIntSS_eq (xs := grpF cs) (k := 1) (by omega) (fun j => by have := g2 j; omega) (by omega) (by omega), heldIntSS_eq (xs := grpF cs) (k := 1) (by omega) (fun j => by have := g2 j; omega) (by omega) (by omega)]
  rw [if_neg (by simp), if_neg (by simp), if_pos (by simp; omega)]
  simp only [Option.bind_some]
  rw [if_neg (by simp; omega), if_neg (by simp; omega), if_neg (by simp), if_neg (by simp), if_neg (by simp; omega), if_neg (by simp)]

/-! Groups have all vertices. -/
theorem grp_get {cs : List Int} {c : Int} : ∀ k i, i < (grp cs c k).length → 0 ≤ (grp cs c k).getD i 0 ∧ (grp cs c k).getD i 0 < k ∧ cs.getD ((grp cs c k).getD i 0).toNat 0 = c ∧ (0 < i → (grp cs c k).getD (i - 1) 0 < (grp cs c k).getD i 0)
  | 0, i, hi => absurd hi (by simp [grp])
  | k + 1, i, hi => by
    simp only [grp] at hi ⊢
    split at hi
    · rename_i hc
      rw [if_pos hc]
      have ih := grp_get (cs := cs) (c := c) k
      rw [List.length_append, List.length_singleton] at hi
      have g1 : ∀ j, j < (grp cs c k).length → (grp cs c k ++ [(k : Int)]).getD j 0 = (grp cs c k).getD j 0 := fun j hj => by
        simp only [List.getD_eq_getElem?_getD, List.getElem?_append_left hj]
      have g2 : (grp cs c k ++ [(k : Int)]).getD (grp cs c k).length 0 = (k : Int) := by
        simp only [List.getD_eq_getElem?_getD, List.getElem?_append_right (Nat.le_refl _), Nat.sub_self, List.getElem?_cons_zero, Option.getD_some]
      by_cases hl : i < (grp cs c k).length
      · obtain ⟨h1, h2, h3, h4⟩ := ih i hl
        rw [g1 i hl]
        refine ⟨h1, by omega, h3, fun h0 => ?_⟩
        rw [g1 (i - 1) (by omega)]; exact h4 h0
      · rw [show i = (grp cs c k).length from by omega, g2]
        refine ⟨by omega, by omega, by rw [Int.toNat_natCast]; exact hc, fun h0 => ?_⟩
        rw [g1 _ (by omega)]
        exact (ih _ (by omega)).2.1
    · rename_i hc
      rw [if_neg hc]
      obtain ⟨h1, h2, h3, h4⟩ := grp_get (cs := cs) (c := c) k i hi
      exact ⟨h1, by omega, h3, h4⟩
def sumL (cs : List Int) (k : Nat) : Nat → Int
  | 0 => 0
  | m + 1 => sumL cs k m + (grp cs (m : Nat) k).length
theorem sumL_zero (cs : List Int) : ∀ m, sumL cs 0 m = 0
  | 0 => rfl
  | m + 1 => by simp [sumL, sumL_zero cs m, grp]
theorem sumL_succ (cs : List Int) (k : Nat) : ∀ m, sumL cs (k + 1) m = sumL cs k m + if 0 ≤ cs.getD k 0 ∧ cs.getD k 0 < m then 1 else 0
  | 0 => by rw [if_neg (by omega)]; rfl
  | m + 1 => by
    have ih := sumL_succ cs k m
    simp only [sumL, grp]
    rw [ih]
    by_cases hc : cs.getD k 0 = (m : Nat)
    · rw [if_pos hc, if_neg (by omega), if_pos (by omega), List.length_append, List.length_singleton]; omega
    · rw [if_neg hc]
      by_cases hm : 0 ≤ cs.getD k 0 ∧ cs.getD k 0 < m
      · rw [if_pos hm, if_pos (by omega)]; omega
      · rw [if_neg hm, if_neg (by omega)]; omega
theorem sumL_all {cs : List Int} {m : Nat} : ∀ k, (∀ j, j < k → 0 ≤ cs.getD j 0 ∧ cs.getD j 0 < m) → sumL cs k m = k
  | 0, _ => by simp [sumL_zero]
  | k + 1, h => by
    rw [sumL_succ, sumL_all k fun j hj => h j (by omega), if_pos (h k (by omega))]; omega
theorem sumL_in (cs : List Int) (k : Nat) : ∀ m, 0 ≤ sumL cs k m ∧ sumL cs k m ≤ (k : Int) * m
  | 0 => by simp [sumL]
  | m + 1 => by
    obtain ⟨h1, h2⟩ := sumL_in cs k m
    have := grp_len cs (m : Nat) k
    have e : (k : Int) * ((m + 1 : Nat) : Int) = k * m + k := by rw [Int.natCast_add, Int.mul_add]; simp
    simp only [sumL]
    rw [e]; omega
end Go.Proofs.Ytlpkjcmiohppcaa
