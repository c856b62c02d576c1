/- Sets of vertices as bits: the least one, all of them in order. -/
import Derived.Test.YtaogppnbeijjmaaDoorMm
set_option linter.unusedSimpArgs false
set_option linter.unusedVariables false
namespace Go.Proofs.YtaogppnbeijjmaaDoor
open Go Go.Av
attribute [local go_sem] gives_chk gives_ite gives_some gives_bind gives_join Sum.elim_inl Sum.elim_inr decide_eq_true_eq decide_eq_false_iff_not Bool.not_eq_true' Bool.not_eq_false' Bool.or_eq_true Bool.and_eq_true Bool.not_eq_eq_eq_not beq_iff_eq bne_iff_ne ne_eq Bool.or_eq_false_iff Bool.and_eq_false_iff Bool.not_eq_true Bool.not_eq_false Bool.not_true Bool.not_false Int.toNat_natCast beq_eq_false_iff_ne bne_eq_false_iff_eq Decidable.not_not Bool.default_bool

/-- The lowest bit of m is k. -/
def Low (m k : Nat) : Prop := m.testBit k = true ∧ ∀ i, i < k → m.testBit i = false
theorem low_least (p : Nat → Prop) : ∀ n, p n → ∃ k, k ≤ n ∧ p k ∧ ∀ i, i < k → ¬ p i
  | n, h => by
    by_cases hx : ∃ j, j < n ∧ p j
    · obtain ⟨j, hj, hp⟩ := hx
      obtain ⟨k, h1, h2⟩ := low_least p j hp
      exact ⟨k, by omega, h2⟩
    · exact ⟨n, Nat.le_refl _, h, fun i hi hp => hx ⟨i, hi, hp⟩⟩
theorem testBit_hi {m i : Nat} (hm : m < 4294967296) (hi : 32 ≤ i) : m.testBit i = false := by
  refine Nat.testBit_lt_two_pow (Nat.lt_of_lt_of_le hm ?_)
  have := Nat.pow_le_pow_right (n := 2) (by omega) hi
  omega
theorem low_exists {m : Nat} (h0 : m ≠ 0) (hm : m < 4294967296) : ∃ k, k < 32 ∧ Low m k := by
  have h1 : ∃ i, m.testBit i = true := by
    refine Classical.byContradiction fun h => h0 (Nat.eq_of_testBit_eq fun i => ?_)
    rw [Nat.zero_testBit]
    cases hb : m.testBit i
    · rfl
    · exact absurd ⟨i, hb⟩ h
  obtain ⟨i, hi⟩ := h1
  obtain ⟨k, _, h3, h4⟩ := low_least (fun i => m.testBit i = true) i hi
  refine ⟨k, ?_, h3, fun j hj => by simpa using h4 j hj⟩
  refine Classical.byContradiction fun hk => ?_
  rw [testBit_hi hm (by omega)] at h3; cases h3
/-- m - 1: the lowest bit goes, the ones below come. -/
theorem low_pred {m k : Nat} (h : Low m k) (i : Nat) : (m - 1).testBit i = if k < i then m.testBit i else decide (i < k) := by
  have hr : m % 2 ^ (k + 1) = 2 ^ k := by
    refine Nat.eq_of_testBit_eq fun i => ?_
    rw [Nat.testBit_mod_two_pow, Nat.testBit_two_pow]
    by_cases hik : i = k
    · subst hik; simp [h.1]
    · by_cases hlt : i < k
      · rw [h.2 i hlt]; simp; omega
      · simp [show ¬ i < k + 1 from by omega, Ne.symm hik]
  have hd := Nat.div_add_mod m (2 ^ (k + 1))
  rw [hr] at hd
  have hp : 0 < 2 ^ k := Nat.two_pow_pos k
  have hm1 : m - 1 = 2 ^ (k + 1) * (m / 2 ^ (k + 1)) + (2 ^ k - 1) := by
    rw [← Nat.add_sub_assoc hp, hd]
  have hlt : 2 ^ k - 1 < 2 ^ (k + 1) := by rw [Nat.pow_succ]; omega
  have hlt2 : 2 ^ k < 2 ^ (k + 1) := by rw [Nat.pow_succ]; omega
  have e2 : m.testBit i = if i < k + 1 then (2 ^ k).testBit i else (m / 2 ^ (k + 1)).testBit (i - (k + 1)) := by
    conv => lhs; rw [← hd]
    exact Nat.testBit_two_pow_mul_add _ hlt2 i
  rw [hm1, Nat.testBit_two_pow_mul_add _ hlt i]
  by_cases hki : k < i
  · rw [if_neg (by omega), if_pos hki, e2, if_neg (by omega)]
  · rw [if_pos (by omega), if_neg hki, Nat.testBit_two_pow_sub_one]
theorem low_clear {m k : Nat} (h : Low m k) (i : Nat) : (m &&& (m - 1)).testBit i = (m.testBit i && decide (i ≠ k)) := by
  rw [Nat.testBit_and, low_pred h]
  by_cases h1 : k < i
  · rw [if_pos h1]; simp [show i ≠ k from by omega]
  · rw [if_neg h1]
    by_cases h2 : i = k
    · subst h2; simp
    · rw [h.2 i (by omega)]; rfl
theorem low_neg {m k : Nat} (h : Low m k) (hm : m < 4294967296) : m &&& (4294967296 - m) = 2 ^ k := by
  have h0 : 0 < m := by
    rcases Nat.eq_zero_or_pos m with h0 | h0
    · subst h0; have := h.1; rw [Nat.zero_testBit] at this; cases this
    · exact h0
  refine Nat.eq_of_testBit_eq fun i => ?_
  have e : 4294967296 - m = 2 ^ 32 - ((m - 1) + 1) := by omega
  rw [Nat.testBit_and, e, Nat.testBit_two_pow_sub_succ (by omega), low_pred h, Nat.testBit_two_pow]
  by_cases h1 : k < i
  · rw [if_pos h1, decide_eq_false (show ¬ k = i from by omega)]
    cases m.testBit i <;> simp
  · rw [if_neg h1]
    by_cases h2 : i = k
    · subst h2
      have : i < 32 := by
        refine Classical.byContradiction fun hk => ?_
        have := h.1
        rw [testBit_hi hm (by omega)] at this; cases this
      simp [h.1, this]
    · rw [h.2 i (by omega), decide_eq_false (show ¬ k = i from by omega)]; rfl
def dbI (p : Nat) : Nat := p * 125613361 % 4294967296 / 134217728
theorem dbI_eq (p : Nat) : ((p : Int) * 125613361 % 4294967296).fdiv 134217728 = ((dbI p : Nat) : Int) := by
  unfold dbI
  rw [Int.fdiv_eq_ediv_of_nonneg _ (by omega)]
  omega
theorem tab0_ok : ∀ k : Fin 32, dbI (2 ^ k.val) < 32 ∧ tab0.getD (dbI (2 ^ k.val)) 0 = (k.val : Int) := by decide
theorem wrap32 (n : Int) : IntKind.u32.wrap n = n % 4294967296 := IntKind.wrap_u32 n
theorem ctz_eq {m : Int} {k : Nat} (h : Low m.toNat k) (hk : k < 32) (h0 : 0 < m) (hm : m < 4294967296) : math_bits_TrailingZeros32 m = some (k : Int) := by
  unfold math_bits_TrailingZeros32
  have hb : (m == 0) = false := by simp; omega
  rw [hb]
  have hw : IntKind.u32.wrap (-m) = 4294967296 - m := by rw [wrap32]; omega
  have ha : bitsV .and .u32 m (IntKind.u32.wrap (-m)) = ((2 ^ k : Nat) : Int) := by
    rw [hw, bitsV_and ⟨by omega, hm⟩ ⟨by omega, by omega⟩]
    congr 1
    rw [show (4294967296 - m).toNat = 4294967296 - m.toNat from by omega]
    exact low_neg h (by omega)
  have hi : (IntKind.u32.wrap (bitsV .and .u32 m (IntKind.u32.wrap (-m)) * 125613361)).fdiv 134217728 = ((dbI (2 ^ k) : Nat) : Int) := by
    rw [ha, wrap32]; exact dbI_eq _
  have ht := tab0_ok ⟨k, hk⟩
  simp only at ht
  rw [hi]
  clear hi ha
  generalize dbI (2 ^ k) = x at ht ⊢
  obtain ⟨t1, t2⟩ := ht
  have hl : tab0.length = 32 := rfl
  have t3 : tab0.getD (x : Int).toNat 0 = (k : Int) := by rw [Int.toNat_natCast]; exact t2
  rw [if_neg (by simp), chk_pos (by omega), chk_pos (by omega), chk_pos (by omega), t3]

/-- The numbers below n of which p speaks, in order. -/
def selL (p : Nat → Bool) : Nat → List Int
  | 0 => []
  | n + 1 => if p n then selL p n ++ [(n : Int)] else selL p n
theorem selL_len (p : Nat → Bool) : ∀ n, (selL p n).length ≤ n
  | 0 => Nat.le_refl _
  | n + 1 => by have := selL_len p n; simp only [selL]; split <;> simp <;> omega
theorem selL_mem {p : Nat → Bool} {x : Int} : ∀ {n : Nat}, x ∈ selL p n ↔ ∃ j : Nat, x = j ∧ j < n ∧ p j = true
  | 0 => by simp [selL]
  | n + 1 => by
    have ih := selL_mem (p := p) (x := x) (n := n)
    simp only [selL]
    by_cases hp : p n = true
    · rw [if_pos hp, List.mem_append, ih, List.mem_singleton]
      constructor
      · rintro (⟨j, h1, h2, h3⟩ | h)
        · exact ⟨j, h1, by omega, h3⟩
        · exact ⟨n, h, by omega, hp⟩
      · rintro ⟨j, h1, h2, h3⟩
        by_cases hj : j = n
        · subst hj; exact .inr h1
        · exact .inl ⟨j, h1, by omega, h3⟩
    · rw [if_neg hp, ih]
      constructor
      · rintro ⟨j, h1, h2, h3⟩; exact ⟨j, h1, by omega, h3⟩
      · rintro ⟨j, h1, h2, h3⟩
        by_cases hj : j = n
        · subst hj; exact absurd h3 hp
        · exact ⟨j, h1, by omega, h3⟩
theorem selL_skip {p : Nat → Bool} {a : Nat} : ∀ {b : Nat}, a ≤ b → (∀ j, a ≤ j → j < b → p j = false) → selL p b = selL p a
  | 0, h, _ => by rw [show a = 0 from by omega]
  | b + 1, h, hp => by
    by_cases hab : a = b + 1
    · rw [hab]
    · rw [selL, hp b (by omega) (by omega), if_neg (by simp)]
      exact selL_skip (by omega) fun j h1 h2 => hp j h1 (by omega)
theorem impl_least_eq {m : Int} {k : Nat} (h : Low m.toNat k) (hk : k < 32) (h0 : 0 < m) (hm : m < 4294967296) : impl_vertexMask_least m = some (k : Int) := by
  unfold impl_vertexMask_least
  rw [ctz_eq h hk h0 hm]; rfl
/-- All vertices of a set, in order. -/
theorem impl_list_eq {m : Int} (h0 : 0 ≤ m) (hm : m < 4294967296) : impl_vertexMask_list m = some (selL m.toNat.testBit 32) := by
  refine gives_eq.1 ?_
  unfold impl_vertexMask_list
  simp only [go_sem]
  refine loop_to (fun s : Nat × Nat => ((s.1 : Int), selL m.toNat.testBit s.2)) (fun s => s.1 < 4294967296 ∧ s.2 ≤ 32 ∧ ∀ i, s.1.testBit i = (m.toNat.testBit i && decide (s.2 ≤ i))) (fun s => 32 - s.2) (m.toNat, 0) (by simp only [selL, Prod.mk.injEq]; exact ⟨by omega, trivial⟩) ⟨by omega, by omega, fun i => by simp⟩ ?_
  rintro ⟨x, j⟩ ⟨hx, hj, hb⟩
  simp only at hx hj hb
  simp only [impl_vertexMask_list_b0]
  by_cases hz : x = 0
  · subst hz
    rw [if_neg (by simp), gives_some]
    refine (selL_skip hj fun i h1 h2 => ?_).symm
    have := hb i
    rw [Nat.zero_testBit, decide_eq_true h1, Bool.and_true] at this
    exact this.symm
  · obtain ⟨k, hk, hl⟩ := low_exists hz hx
    have hkj : j ≤ k ∧ m.toNat.testBit k = true := by
      have h1 := hl.1
      rw [hb k, Bool.and_eq_true, decide_eq_true_eq] at h1
      exact ⟨h1.2, h1.1⟩
    have hsk : selL m.toNat.testBit (k + 1) = selL m.toNat.testBit j ++ [(k : Int)] := by
      rw [selL, if_pos hkj.2, selL_skip (a := j) hkj.1 fun i h1 h2 => ?_]
      have h3 := hl.2 i h2
      rw [hb i, decide_eq_true h1, Bool.and_true] at h3
      exact h3
    have hsl := selL_len m.toNat.testBit j
    rw [if_pos (by simp; omega), impl_least_eq (k := k) (by simpa using hl) hk (by omega) (by omega)]
    simp only [Option.bind_some]
    rw [chk_pos (by omega), gives_some, wrap_u32 (by omega) (by omega), bitsV_and ⟨by omega, by omega⟩ ⟨by omega, by omega⟩]
    have hlt : x &&& (x - 1) < 4294967296 := Nat.lt_of_le_of_lt Nat.and_le_left hx
    refine ⟨(x &&& (x - 1), k + 1), ⟨hlt, by simp only; omega, fun i => ?_⟩, by simp only; omega, ?_⟩
    · rw [low_clear hl, hb i]
      by_cases h1 : i = k
      · subst h1; simp
      · by_cases h2 : k < i
        · simp [h1, show j ≤ i from by omega, show k + 1 ≤ i from by omega]
        · have h3 := hl.2 i (by omega)
          rw [hb i] at h3
          rw [h3]; simp [show ¬ k + 1 ≤ i from by omega]
    · simp only [hsk, Prod.mk.injEq, and_true]
      congr 2
      omega
end Go.Proofs.YtaogppnbeijjmaaDoor
