/- Arguments that are drawn out of bytes. -/
import Derived.Test.YtncminpafiahpaaMc
set_option linter.unusedSimpArgs false
set_option linter.unusedVariables false
namespace Go.Proofs.Ytncminpafiahpaa
open Go Go.Av
attribute [local go_sem] gives_chk gives_ite gives_some gives_bind gives_join Sum.elim_inl Sum.elim_inr decide_eq_true_eq decide_eq_false_iff_not Bool.not_eq_true' Bool.not_eq_false' Bool.or_eq_true Bool.and_eq_true Bool.not_eq_eq_eq_not beq_iff_eq bne_iff_ne ne_eq Bool.or_eq_false_iff Bool.and_eq_false_iff Bool.not_eq_true Bool.not_eq_false Bool.not_true Bool.not_false Int.toNat_natCast beq_eq_false_iff_ne bne_eq_false_iff_eq Decidable.not_not Bool.default_bool

def Bts (b : List Int) : Prop := ∀ k, 0 ≤ b.getD k 0 ∧ b.getD k 0 ≤ 255
theorem ofInt_u64 {a : Int} (ha : 0 ≤ a ∧ a < 9223372036854775808) : (BitVec.ofInt IntKind.i64.bits a).toNat = a.toNat := by
  show (BitVec.ofInt 64 a).toNat = a.toNat
  rw [BitVec.toNat_ofInt]
  have : a % ((2 ^ 64 : Nat) : Int) = a := Int.emod_eq_of_lt ha.1 (by have := ha.2; norm_cast; omega)
  rw [this]
theorem xor_nonneg {a b : Int} (ha : 0 ≤ a ∧ a < 9223372036854775808) (hb : 0 ≤ b ∧ b < 9223372036854775808) : 0 ≤ bitsV .xor .i64 a b := by
  simp only [bitsV, BitVec.toNat_xor, ofInt_u64 ha, ofInt_u64 hb]
  have h := Nat.xor_lt_two_pow (x := a.toNat) (y := b.toNat) (n := 63) (by have := ha.2; omega) (by have := hb.2; omega)
  rw [wrap_fits (by omega) (by omega)]
  omega
theorem pick_ok {b : List Int} {p n : Int} (hb : Bts b) (hp : 0 ≤ p ∧ p ≤ 1000000) : gives (spec_l20Rd_pick b p n) fun r => r.2 = p + 1 ∧ 0 ≤ r.1 ∧ (1 ≤ n → r.1 < n) ∧ (r.1 = 0 ∨ 1 ≤ n) := by
  simp only [spec_l20Rd_pick, go_sem, show p + 1 - 1 = p from by omega]
  refine ⟨by omega, fun h => ⟨trivial, by omega, by omega, .inl trivial⟩, fun h => ⟨by omega, fun h2 => ?_, fun h2 => ?_⟩⟩
  · have h3 := hb p.toNat
    refine ⟨by omega, by omega, by omega, trivial, Int.emod_nonneg _ (by omega), fun h4 => Int.emod_lt_of_pos _ (by omega), .inr (by omega)⟩
  · have hl : (0 : Int) < b.length := by omega
    have m1 := Int.emod_nonneg p (show (b.length : Int) ≠ 0 by omega)
    have m2 := Int.emod_lt_of_pos p hl
    have m3 := Int.emod_nonneg (p * 7 + 3) (show (b.length : Int) ≠ 0 by omega)
    have m4 := Int.emod_lt_of_pos (p * 7 + 3) hl
    have d1 := Int.ediv_nonneg hp.1 (Int.le_of_lt hl)
    have d2 := Int.ediv_le_self (b.length : Int) hp.1
    have b1 := hb (p % (b.length : Int)).toNat
    have b2 := hb ((p * 7 + 3) % (b.length : Int)).toNat
    generalize p % (b.length : Int) = u at *
    generalize (p * 7 + 3) % (b.length : Int) = v at *
    generalize p / (b.length : Int) = w at *
    generalize b.getD u.toNat 0 = x at *
    generalize b.getD v.toNat 0 = y at *
    have hx : 0 ≤ x * 131 + y * 1117 + p * 29 + w * 53 ∧ x * 131 + y * 1117 + p * 29 + w * 53 ≤ 1000000000 := by omega
    have q1 := Int.ediv_nonneg hx.1 (show (0 : Int) ≤ 64 by omega)
    have q2 := Int.ediv_le_self (64 : Int) hx.1
    have x1 := xor_nonneg (a := x * 131 + y * 1117 + p * 29 + w * 53) (b := (x * 131 + y * 1117 + p * 29 + w * 53) / 64) ⟨by omega, by omega⟩ ⟨by omega, by omega⟩
    repeat' (first | refine And.intro ?_ ?_)
    all_goals first | exact trivial | omega | rfl | exact Int.emod_nonneg _ (by omega) | exact fun h4 => Int.emod_lt_of_pos _ (by omega) | exact .inr (by omega)
theorem odd_ok {b : List Int} {p n : Int} (hb : Bts b) (hp : 0 ≤ p ∧ p ≤ 1000000) : gives (spec_l20Rd_odd b p n) fun r => r.2 = p + 1 ∨ r.2 = p := by
  simp only [spec_l20Rd_odd, go_sem]
  exact ⟨fun h => (pick_ok hb hp).mono fun r hr => .inl hr.1, fun h => .inr trivial⟩
theorem open_ok {b : List Int} (hb : Bts b) : gives (spec_l20Open_v1 b) fun r => Bts r.1 ∧ r.1.length ≤ 2000 ∧ r.2 = 0 := by
  simp only [spec_l20Open_v1, go_sem, join]
  refine ⟨fun h => ⟨by omega, fun k => ?_, ?_, trivial⟩, fun h => ⟨hb, by omega, trivial⟩⟩
  · simp only [List.drop_zero, List.getD_eq_getElem?_getD, List.getElem?_take]
    split
    · have := hb k; simpa [List.getD_eq_getElem?_getD] using this
    · simp
  · simp; omega
theorem _root_.Go.Av.gives.mono' {A : Type} {x y : Option A} {Q Q' : A → Prop} (h : gives x Q) (he : x = y) (hq : ∀ a, Q a → Q' a) : gives y Q' := he ▸ h.mono hq
/-! Edges put into graphs. -/
theorem getD_all {l : List Int} {P : Int → Prop} (h : ∀ x ∈ l, P x) (hd : P 0) (i : Nat) : P (l.getD i 0) := by
  simp only [List.getD_eq_getElem?_getD]
  cases hi : l[i]? with
  | none => exact hd
  | some x => exact h x (List.mem_of_getElem? hi)
end Go.Proofs.Ytncminpafiahpaa
