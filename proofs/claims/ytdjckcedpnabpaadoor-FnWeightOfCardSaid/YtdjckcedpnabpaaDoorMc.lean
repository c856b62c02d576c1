/- Sets of vertices as bits; neighbours; matchings. -/
import Derived.Test.YtdjckcedpnabpaaDoorMb
set_option linter.unusedSimpArgs false
set_option linter.unusedVariables false
namespace Go.Proofs.YtdjckcedpnabpaaDoor
open Go Go.Av
attribute [local go_sem] gives_chk gives_ite gives_some gives_bind gives_join Sum.elim_inl Sum.elim_inr decide_eq_true_eq decide_eq_false_iff_not Bool.not_eq_true' Bool.not_eq_false' Bool.or_eq_true Bool.and_eq_true Bool.not_eq_eq_eq_not beq_iff_eq bne_iff_ne ne_eq Bool.or_eq_false_iff Bool.and_eq_false_iff Bool.not_eq_true Bool.not_eq_false Bool.not_true Bool.not_false Int.toNat_natCast beq_eq_false_iff_ne bne_eq_false_iff_eq Decidable.not_not Bool.default_bool

theorem wrap_u32 {n : Int} (h : 0 ≤ n) (h' : n < 4294967296) : IntKind.u32.wrap n = n := IntWalk.u32_in n ⟨h, by omega⟩
theorem wrap_u64 {n : Int} (h : 0 ≤ n) (h' : n < 4294967296) : IntKind.u64.wrap n = n := IntWalk.u64_in n ⟨h, by omega⟩
theorem ofInt_u32 {a : Int} (ha : 0 ≤ a ∧ a < 4294967296) : (BitVec.ofInt IntKind.u32.bits a).toNat = a.toNat := by
  show (BitVec.ofInt 32 a).toNat = a.toNat
  rw [BitVec.toNat_ofInt]
  have : a % ((2 ^ 32 : Nat) : Int) = a := Int.emod_eq_of_lt ha.1 (by have := ha.2; norm_cast)
  rw [this]
theorem bitsV_or {a b : Int} (ha : 0 ≤ a ∧ a < 4294967296) (hb : 0 ≤ b ∧ b < 4294967296) : bitsV .or .u32 a b = ((a.toNat ||| b.toNat : Nat) : Int) := by
  simp only [bitsV, BitVec.toNat_or, ofInt_u32 ha, ofInt_u32 hb]
  have h := Nat.or_lt_two_pow (x := a.toNat) (y := b.toNat) (n := 32) (by have := ha.2; omega) (by have := hb.2; omega)
  exact wrap_u32 (by omega) (by omega)
theorem bitsV_and {a b : Int} (ha : 0 ≤ a ∧ a < 4294967296) (hb : 0 ≤ b ∧ b < 4294967296) : bitsV .and .u32 a b = ((a.toNat &&& b.toNat : Nat) : Int) := by
  simp only [bitsV, BitVec.toNat_and, ofInt_u32 ha, ofInt_u32 hb]
  have h := Nat.and_lt_two_pow (n := 32) a.toNat (y := b.toNat) (by have := hb.2; omega)
  exact wrap_u32 (by omega) (by omega)
theorem two_pow_u32 {v : Nat} (h : v < 32) : (2 ^ v : Nat) < 4294967296 := by
  have := Nat.pow_lt_pow_right (a := 2) (by omega) h
  omega
theorem impl_maskOf_eq {v : Int} (h0 : 0 ≤ v) (h1 : v < 32) : impl_maskOf v = some ((2 ^ v.toNat : Nat) : Int) := by
  unfold impl_maskOf
  rw [wrap_u64 h0 (by omega), chk_pos h0]
  have h2 : min v.toNat IntKind.u32.bits = v.toNat := by
    have : IntKind.u32.bits = 32 := rfl
    rw [this]; omega
  have h3 := two_pow_u32 (v := v.toNat) (by omega)
  rw [h2, Int.one_mul]
  congr 1
  have e : (2 : Int) ^ v.toNat = ((2 ^ v.toNat : Nat) : Int) := by norm_cast
  rw [e]
  generalize 2 ^ v.toNat = p at h3 ⊢
  exact wrap_u32 (by omega) (by omega)
theorem and_pow_ne (m v : Nat) : (m &&& 2 ^ v = 0) ↔ m.testBit v = false := by
  constructor
  · intro h
    have h1 : (m &&& 2 ^ v).testBit v = (0 : Nat).testBit v := by rw [h]
    rw [Nat.testBit_and, Nat.testBit_two_pow_self, Nat.zero_testBit, Bool.and_true] at h1
    exact h1
  · intro h
    apply Nat.eq_of_testBit_eq
    intro i
    rw [Nat.testBit_and, Nat.zero_testBit, Nat.testBit_two_pow]
    by_cases hi : v = i
    · subst hi; simp [h]
    · simp [hi]
/-! Neighbours. -/
/-- One of the first k edges leads from a to b. -/
def Nxt (es : List (Int × Int × Int)) (k : Nat) (a b : Int) : Prop := ∃ j, j < k ∧ (es.getD j (0, 0, 0)).1 = a ∧ (es.getD j (0, 0, 0)).2.1 = b
theorem Nxt.succ {es : List (Int × Int × Int)} {k : Nat} {a b : Int} : Nxt es (k + 1) a b ↔ Nxt es k a b ∨ ((es.getD k (0, 0, 0)).1 = a ∧ (es.getD k (0, 0, 0)).2.1 = b) := by
  constructor
  · rintro ⟨j, hj, h⟩
    by_cases hjk : j = k
    · subst hjk; exact .inr h
    · exact .inl ⟨j, by omega, h⟩
  · rintro (⟨j, hj, h⟩ | h)
    · exact ⟨j, by omega, h⟩
    · exact ⟨k, by omega, h⟩
/-- Neighbours: an edge in one direction or the other. -/
def Adj (es : List (Int × Int × Int)) (a b : Int) : Prop := Nxt es es.length a b ∨ Nxt es es.length b a
/-- Masks of sets of vertices. -/
def MaskOk (n : Int) (ms : List Int) (p : Nat → Nat → Prop) : Prop := ms.length = n.toNat ∧ ∀ v, v < n.toNat → (0 ≤ ms.getD v 0 ∧ ms.getD v 0 < 4294967296) ∧ ∀ w, (ms.getD v 0).toNat.testBit w = true ↔ p v w
theorem MaskOk.put {n : Int} {ms : List Int} {p : Nat → Nat → Prop} (h : MaskOk n ms p) {a b : Nat} (ha : a < n.toNat) (hb : b < 32) :
    MaskOk n (ms.set a (bitsV .or .u32 (ms.getD a 0) ((2 ^ b : Nat) : Int))) (fun v w => p v w ∨ (a = v ∧ b = w)) := by
  refine ⟨by simp [h.1], fun v hv => ?_⟩
  rw [getD_set _ _ _ _ _ (by rw [h.1]; exact ha)]
  have h2 := two_pow_u32 hb
  by_cases hva : v = a
  · subst hva
    rw [if_pos rfl]
    obtain ⟨h3, h4⟩ := h.2 v hv
    have h6 : ∀ w, (2 ^ b : Nat).testBit w = decide (b = w) := fun w => Nat.testBit_two_pow
    generalize 2 ^ b = p at h2 h6 ⊢
    rw [bitsV_or h3 ⟨by omega, by omega⟩, Int.toNat_natCast]
    have h5 := Nat.or_lt_two_pow (x := (ms.getD v 0).toNat) (y := p) (n := 32) (by have := h3.2; omega) (by omega)
    refine ⟨⟨by omega, by omega⟩, fun w => ?_⟩
    rw [Int.toNat_natCast, Nat.testBit_or, Bool.or_eq_true, h4 w, h6, decide_eq_true_eq]
    simp
  · rw [if_neg hva]
    obtain ⟨h3, h4⟩ := h.2 v hv
    exact ⟨h3, fun w => by rw [h4 w]; constructor; exact .inl; rintro (h5 | ⟨h5, _⟩); exact h5; exact absurd h5.symm hva⟩
theorem MaskOk.mono {n : Int} {ms : List Int} {p q : Nat → Nat → Prop} (h : MaskOk n ms p) (hpq : ∀ v w, v < n.toNat → (p v w ↔ q v w)) : MaskOk n ms q :=
  ⟨h.1, fun v hv => ⟨(h.2 v hv).1, fun w => ((h.2 v hv).2 w).trans (hpq v w hv)⟩⟩
theorem impl_nextMasks_ok {n : Int} {es : List (Int × Int × Int)} (hg : GOk n es) : gives (impl_nextMasks n es) fun ms => MaskOk n ms fun v w => Nxt es es.length v w := by
  unfold impl_nextMasks
  have h0 := hg.1
  have h16 := hg.2.1
  have h40 := hg.2.2.1
  simp only [go_sem]
  refine ⟨by omega, ?_⟩
  refine gives_loop (fun s : Nat × List Int => ((s.1 : Int), s.2)) (fun s => s.1 ≤ es.length ∧ MaskOk n s.2 fun v w => Nxt es s.1 v w) (fun s => es.length - s.1) ?_ (0, List.replicate n.toNat 0) ⟨Nat.zero_le _, ?_⟩
  · rintro ⟨k, ms⟩ ⟨hk, hm⟩
    simp only [impl_nextMasks_b0, go_sem]
    refine ⟨fun hc => ?_, fun hc => by rw [show es.length = k from by simp only at hk; omega]; exact hm⟩
    have he := gok_len hg (k := k) (by omega)
    simp only [EOk] at he
    have hml : ms.length = n.toNat := hm.1
    refine ⟨by omega, by omega, ?_⟩
    rw [impl_maskOf_eq (by omega) (by omega)]
    refine gives_some.2 ⟨by omega, (k + 1, _), ⟨by simp only; omega, (hm.put (a := (es.getD k (0, 0, 0)).1.toNat) (b := (es.getD k (0, 0, 0)).2.1.toNat) (by omega) (by omega)).mono fun v w hv => ?_⟩, by simp only; omega, rfl⟩
    rw [Nxt.succ]
    constructor <;> (rintro (h | h); exact .inl h; right; omega)
  · refine ⟨by simp, fun v hv => ?_⟩
    simp only [List.getD_eq_getElem?_getD, List.getElem?_replicate, hv, if_true, Option.getD_some]
    refine ⟨by omega, fun w => ?_⟩
    simp [Nxt]
/-- The neighbours of a vertex, in order. -/
noncomputable def nearL (n : Int) (es : List (Int × Int × Int)) (v : Int) : Nat → List Int
  | 0 => []
  | w + 1 => if yes (Adj es v w) = true then nearL n es v w ++ [(w : Int)] else nearL n es v w
theorem nearL_len (n : Int) (es : List (Int × Int × Int)) (v : Int) : ∀ w, (nearL n es v w).length ≤ w
  | 0 => by simp [nearL]
  | w + 1 => by have := nearL_len n es v w; simp only [nearL]; split <;> simp <;> omega
theorem nearL_mem {n : Int} {es : List (Int × Int × Int)} {v u : Int} : ∀ w, u ∈ nearL n es v w ↔ (0 ≤ u ∧ u < w ∧ Adj es v u)
  | 0 => by simp [nearL]; omega
  | w + 1 => by
    have ih := nearL_mem (n := n) (es := es) (v := v) (u := u) w
    simp only [nearL]
    by_cases hp : Adj es v w
    · rw [if_pos (yes_true hp), List.mem_append, ih, List.mem_singleton]
      constructor
      · rintro (⟨h1, h2, h3⟩ | rfl)
        · exact ⟨h1, by omega, h3⟩
        · exact ⟨by omega, by omega, hp⟩
      · rintro ⟨h1, h2, h3⟩
        by_cases hu : u = w
        · exact .inr hu
        · exact .inl ⟨h1, by omega, h3⟩
    · rw [if_neg (by rw [yes_false hp]; simp), ih]
      constructor
      · rintro ⟨h1, h2, h3⟩; exact ⟨h1, by omega, h3⟩
      · rintro ⟨h1, h2, h3⟩
        by_cases hu : u = w
        · subst hu; exact absurd h3 hp
        · exact ⟨h1, by omega, h3⟩
/-! Matchings. -/
def MatOk (n : Int) (es : List (Int × Int × Int)) (ps : List Int) : Prop := GOk n es ∧ (ps.length : Int) = n ∧ ∀ k : Nat, k < ps.length → ps.getD k 0 = -1 ∨ (0 ≤ ps.getD k 0 ∧ ps.getD k 0 < n ∧ Adj es k (ps.getD k 0) ∧ ps.getD (ps.getD k 0).toNat 0 = k)
noncomputable def matOk (n : Int) (es : List (Int × Int × Int)) (ps : List Int) : Bool := yes (MatOk n es ps)
theorem yes_iff {p : Prop} : yes p = true ↔ p := ⟨fun h => by simpa [yes] using h, yes_true⟩
def FullOk (n : Int) (es : List (Int × Int × Int)) (ps : List Int) : Prop := MatOk n es ps ∧ ∀ k, k < es.length → ¬ (ps.getD (es.getD k (0, 0, 0)).1.toNat 0 = -1 ∧ ps.getD (es.getD k (0, 0, 0)).2.1.toNat 0 = -1)
noncomputable def fullOk (n : Int) (es : List (Int × Int × Int)) (ps : List Int) : Bool := yes (FullOk n es ps)
end Go.Proofs.YtdjckcedpnabpaaDoor
