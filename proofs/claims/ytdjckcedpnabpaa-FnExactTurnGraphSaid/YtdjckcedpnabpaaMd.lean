/- Arguments that are drawn out of bytes. -/
import Derived.Test.YtdjckcedpnabpaaMc
set_option linter.unusedSimpArgs false
set_option linter.unusedVariables false
namespace Go.Proofs.Ytdjckcedpnabpaa
open Go Go.Av
attribute [local go_sem] gives_chk gives_ite gives_some gives_bind gives_join Sum.elim_inl Sum.elim_inr decide_eq_true_eq decide_eq_false_iff_not Bool.not_eq_true' Bool.not_eq_false' Bool.or_eq_true Bool.and_eq_true Bool.not_eq_eq_eq_not beq_iff_eq bne_iff_ne ne_eq Bool.or_eq_false_iff Bool.and_eq_false_iff Bool.not_eq_true Bool.not_eq_false Bool.not_true Bool.not_false Int.toNat_natCast beq_eq_false_iff_ne bne_eq_false_iff_eq Decidable.not_not Bool.default_bool

def Bts (b : List Int) : Prop := ∀ k, 0 ≤ b.getD k 0 ∧ b.getD k 0 ≤ 255
theorem ofInt_u64 {a : Int} (ha : 0 ≤ a ∧ a < 9223372036854775808) : (BitVec.ofInt IntKind.i64.bits a).toNat = a.toNat := by
  show (BitVec.ofInt 64 a).toNat = a.toNat
  rw [BitVec.toNat_ofInt]
  have : a % ((2 ^ 64 : Nat) : Int) = a := Int.emod_eq_of_lt ha.1 (by have := ha.2; norm_cast; omega)
  rw [this]
theorem xor_nonneg {a b : Int} (ha : 0 ≤ a ∧ a < 9223372036854775808) (hb : 0 ≤ b ∧ b < 9223372036854775808) : 0 ≤ bitsV .xor .i64 a b := by
  simp only [bitsV, BitVec.toNat_xor, ofInt_u64 ha, ofInt_u64 hb]
  have h := Nat.xor_lt_two_pow (x := a.toNat) (y := b.toNat) (n := 63) (by have := ha.2; omega) (by have := hb.2; omega)
  rw [wrap_fits (by omega) (by omega)]
  omega
theorem _root_.Go.Av.gives.mono' {A : Type} {x y : Option A} {Q Q' : A → Prop} (h : gives x Q) (he : x = y) (hq : ∀ a, Q a → Q' a) : gives y Q' := he ▸ h.mono hq
/-! Edges put into graphs. -/
theorem AddEdge_ok {n : Int} {es : List (Int × Int × Int)} {a c w : Int} (hn : -1000000 ≤ n ∧ n ≤ 1000000) (hl : es.length ≤ 1000000) :
    gives (spec_AddEdge n es a c w) fun r => (r.1 = n ∨ r.1 = 0) ∧ r.2.1.length ≤ es.length + 1 := by
  unfold spec_AddEdge
  have h1 : spec_l1OwnGraph n es = some (n, es) := by unfold spec_l1OwnGraph; rw [chk_pos (by omega)]; rfl
  rw [h1]
  simp only [Option.bind_some]
  rw [spec_GraphValid_eq ⟨by omega, by omega⟩ (by omega)]
  simp only [go_sem, Option.bind_some]
  refine ⟨fun _ => ⟨.inr trivial, by simp⟩, fun _ => ?_⟩
  refine (gives_loop (Q := fun x : Bool × List (Int × Int × Int) => x.2.length ≤ es.length + 1 ∧ (x.1 = false → x.2.length ≤ es.length)) (fun s : Bool × Nat × List (Int × Int × Int) => (s.1, (s.2.1 : Int), s.2.2))
    (fun s => s.2.1 ≤ es.length ∧ s.2.2.length ≤ s.2.1 + 1 ∧ (s.1 = false → s.2.2.length ≤ s.2.1)) (fun s => es.length - s.2.1) ?_ (false, 0, []) ⟨Nat.zero_le _, by simp, by simp⟩).mono ?_
  · rintro ⟨t, k, xs⟩ ⟨hk, hx, hf⟩
    simp only at hk hx hf
    simp only [spec_AddEdge_b0, go_sem, join]
    refine ⟨fun hc => ⟨by omega, fun h2 => ⟨by omega, fun h3 => ⟨by omega, (true, k + 1, xs ++ [(a, c, w)]), ⟨by simp only; omega, by simp; have := hf h2.1; omega, by simp⟩, by simp only; omega, by simp⟩,
      fun h3 => ⟨by simp; omega, by omega, (true, k + 1, (xs ++ [(a, c, w)]) ++ [((es.getD k (0, 0, 0)).1, (es.getD k (0, 0, 0)).2.1, (es.getD k (0, 0, 0)).2.2)]), ⟨by simp only; omega, by simp; have := hf h2.1; omega, by simp⟩, by simp only; omega, by simp⟩⟩,
      fun h2 => ⟨by omega, by omega, (t, k + 1, xs ++ [((es.getD k (0, 0, 0)).1, (es.getD k (0, 0, 0)).2.1, (es.getD k (0, 0, 0)).2.2)]), ⟨by simp only; omega, by simp; omega, fun ht => by simp; exact hf ht⟩, by simp only; omega, by simp⟩⟩, fun hc => ⟨by omega, fun ht => by have := hf ht; omega⟩⟩
  · rintro ⟨t, xs⟩ ⟨hx, hf⟩
    simp only at hx hf
    simp only [join, go_sem]
    refine ⟨fun ht => ⟨by omega, ?_⟩, fun ht => ?_⟩
    · have := hf ht
      rw [spec_GraphValid_eq ⟨by omega, by omega⟩ (by simp; omega)]
      simp only [go_sem]
      exact ⟨fun _ => ⟨by omega, .inl trivial, by simp⟩, fun _ => ⟨.inl trivial, by simp; omega⟩⟩
    · rw [spec_GraphValid_eq ⟨by omega, by omega⟩ (by omega)]
      simp only [go_sem]
      exact ⟨fun _ => ⟨by omega, .inl trivial, by simp⟩, fun _ => ⟨.inl trivial, by omega⟩⟩

theorem getD_all {l : List Int} {P : Int → Prop} (h : ∀ x ∈ l, P x) (hd : P 0) (i : Nat) : P (l.getD i 0) := by
  simp only [List.getD_eq_getElem?_getD]
  cases hi : l[i]? with
  | none => exact hd
  | some x => exact h x (List.mem_of_getElem? hi)
end Go.Proofs.Ytdjckcedpnabpaa
