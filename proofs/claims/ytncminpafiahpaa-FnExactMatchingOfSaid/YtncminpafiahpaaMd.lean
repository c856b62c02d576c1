/- Arguments that are drawn out of bytes. -/
import Derived.Test.YtncminpafiahpaaMc
set_option linter.unusedSimpArgs false
set_option linter.unusedVariables false
namespace Go.Proofs.Ytncminpafiahpaa
open Go Go.Av
attribute [local go_sem] gives_chk gives_ite gives_some gives_bind gives_join Sum.elim_inl Sum.elim_inr decide_eq_true_eq decide_eq_false_iff_not Bool.not_eq_true' Bool.not_eq_false' Bool.or_eq_true Bool.and_eq_true Bool.not_eq_eq_eq_not beq_iff_eq bne_iff_ne ne_eq Bool.or_eq_false_iff Bool.and_eq_false_iff Bool.not_eq_true Bool.not_eq_false Bool.not_true Bool.not_false Int.toNat_natCast beq_eq_false_iff_ne bne_eq_false_iff_eq Decidable.not_not Bool.default_bool

def Bts (b : List Int) : Prop := ∀ k, 0 ≤ b.getD k 0 ∧ b.getD k 0 ≤ 255
theorem ofInt_u64 {a : Int} (ha : 0 ≤ a ∧ a < 9223372036854775808) : (BitVec.ofInt IntKind.i64.bits a).toNat = a.toNat := by
  show (BitVec.ofInt 64 a).toNat = a.toNat
  rw [BitVec.toNat_ofInt]
  have : a % ((2 ^ 64 : Nat) : Int) = a := Int.emod_eq_of_lt ha.1 (by have := ha.2; norm_cast; omega)
  rw [this]
theorem xor_nonneg {a b : Int} (ha : 0 ≤ a ∧ a < 9223372036854775808) (hb : 0 ≤ b ∧ b < 9223372036854775808) : 0 ≤ bitsV .xor .i64 a b := by
  simp only [bitsV, BitVec.toNat_xor, ofInt_u64 ha, ofInt_u64 hb]
  have h := Nat.xor_lt_two_pow (x := a.toNat) (y := b.toNat) (n := 63) (by have := ha.2; omega) (by have := hb.2; omega)
  rw [wrap_fits (by omega) (by omega)]
  omega
theorem _root_.Go.Av.gives.mono' {A : Type} {x y : Option A} {Q Q' : A → Prop} (h : gives x Q) (he : x = y) (hq : ∀ a, Q a → Q' a) : gives y Q' := he ▸ h.mono hq
/-! Edges put into graphs. -/
theorem getD_all {l : List Int} {P : Int → Prop} (h : ∀ x ∈ l, P x) (hd : P 0) (i : Nat) : P (l.getD i 0) := by
  simp only [List.getD_eq_getElem?_getD]
  cases hi : l[i]? with
  | none => exact hd
  | some x => exact h x (List.mem_of_getElem? hi)
end Go.Proofs.Ytncminpafiahpaa
