/- Colors: numbers of bits, degrees, the law. -/
import Derived.Test.YtdjckcedpnabpaaDoorMk
set_option linter.unusedSimpArgs false
set_option linter.unusedVariables false
namespace Go.Proofs.YtdjckcedpnabpaaDoor
open Go Go.Av
attribute [local go_sem] gives_chk gives_ite gives_some gives_bind gives_join Sum.elim_inl Sum.elim_inr decide_eq_true_eq decide_eq_false_iff_not Bool.not_eq_true' Bool.not_eq_false' Bool.or_eq_true Bool.and_eq_true Bool.not_eq_eq_eq_not beq_iff_eq bne_iff_ne ne_eq Bool.or_eq_false_iff Bool.and_eq_false_iff Bool.not_eq_true Bool.not_eq_false Bool.not_true Bool.not_false Int.toNat_natCast beq_eq_false_iff_ne bne_eq_false_iff_eq Decidable.not_not Bool.default_bool

theorem sameInts_self {xs : List Int} (hx : xs.length ≤ 1000000000) : laws_sameInts xs xs = some true := by
  unfold laws_sameInts
  rw [if_neg (by simp), gives_same (xs := xs) (ys := xs) (d := 0) rfl (fun k hk => by
    simp only [laws_sameInts_b0, Int.toNat_natCast]
    by_cases h : k < xs.length
    · rw [if_pos (by simpa using h), chk_pos (by omega), chk_pos (by omega), if_neg (by simp), chk_pos (by omega), if_pos h, if_pos trivial]
    · rw [if_neg (by simpa using h), if_neg h]), if_pos rfl]
  rfl
theorem selL_add (p : Nat → Bool) (a : Nat) : ∀ b, (selL p (a + b)).length = (selL p a).length + (selL (fun i => p (a + i)) b).length
  | 0 => by simp [selL]
  | b + 1 => by
    have ih := selL_add p a b
    rw [show a + (b + 1) = (a + b) + 1 from by omega]
    simp only [selL]
    by_cases h : p (a + b) = true
    · rw [if_pos h, if_pos h]; simp only [List.length_append, List.length_cons, List.length_nil]; omega
    · rw [if_neg h, if_neg h]; exact ih
theorem pop8_ok : ∀ b : Fin 256, (Lib.pop8tab.data.toList.getD b.val 0).toNat = (selL (Nat.testBit b.val) 8).length := by decide +kernel
theorem byte_cnt (m k : Nat) : (selL (Nat.testBit (m / 2 ^ k % 256)) 8).length = (selL (fun i => m.testBit (k + i)) 8).length := by
  congr 1
  refine selL_congr fun j hj => ?_
  rw [show (256 : Nat) = 2 ^ 8 from rfl, Nat.testBit_mod_two_pow, ← Nat.shiftRight_eq_div_pow, Nat.testBit_shiftRight, decide_eq_true hj, Bool.true_and]
theorem wrap_u8 {n : Int} (h : 0 ≤ n) (h' : n < 256) : IntKind.u8.wrap n = n := by
  have : IntKind.u8.wrap n = n % 256 := IntKind.wrap_u8 n
  rw [this]; omega
theorem ones_eq {m : Nat} (hm : m < 4294967296) : math_bits_OnesCount32 (m : Int) = some ((selL m.testBit 32).length : Int) := by
  have hs : Lib.pop8tab.size = 256 := Lib.pop8tab_size
  have b3 := byte_cnt m 24
  have b2 := byte_cnt m 16
  have b1 := byte_cnt m 8
  have b0 := byte_cnt m 0
  have c1 : (selL m.testBit 32).length = (selL m.testBit 8).length + (selL (fun i => m.testBit (8 + i)) 24).length := selL_add m.testBit 8 24
  have c2 : (selL (fun i => m.testBit (8 + i)) 24).length = (selL (fun i => m.testBit (8 + i)) 8).length + (selL (fun i => m.testBit (8 + (8 + i))) 16).length := selL_add (fun i => m.testBit (8 + i)) 8 16
  have c3 : (selL (fun i => m.testBit (8 + (8 + i))) 16).length = (selL (fun i => m.testBit (8 + (8 + i))) 8).length + (selL (fun i => m.testBit (8 + (8 + (8 + i)))) 8).length := selL_add (fun i => m.testBit (8 + (8 + i))) 8 8
  have d2 : (selL (fun i => m.testBit (16 + i)) 8).length = (selL (fun i => m.testBit (8 + (8 + i))) 8).length := by congr 2; funext i; congr 1; omega
  have d3 : (selL (fun i => m.testBit (24 + i)) 8).length = (selL (fun i => m.testBit (8 + (8 + (8 + i)))) 8).length := by congr 2; funext i; congr 1; omega
  have d0 : (selL (fun i => m.testBit (0 + i)) 8).length = (selL m.testBit 8).length := by congr 2; funext i; congr 1; omega
  have l3 := selL_len (fun i => m.testBit (24 + i)) 8
  have l2 := selL_len (fun i => m.testBit (16 + i)) 8
  have l1 := selL_len (fun i => m.testBit (8 + i)) 8
  have l0 := selL_len m.testBit 8
  have t3 := pop8_ok ⟨m / 2 ^ 24 % 256, by omega⟩
  have t2 := pop8_ok ⟨m / 2 ^ 16 % 256, by omega⟩
  have t1 := pop8_ok ⟨m / 2 ^ 8 % 256, by omega⟩
  have t0 := pop8_ok ⟨m / 2 ^ 0 % 256, by omega⟩
  simp only at t3 t2 t1 t0
  rw [b3, d3] at t3
  rw [b2, d2] at t2
  rw [b1] at t1
  rw [b0, d0] at t0
  rw [d3] at l3
  rw [d2] at l2
  have hmask : ∀ x : Nat, x < 4294967296 → bitsV .and .u32 (x : Int) 255 = ((x % 256 : Nat) : Int) := fun x hx => by
    rw [bitsV_and ⟨by omega, by omega⟩ ⟨by omega, by omega⟩]
    congr 1
    rw [Int.toNat_natCast, show (255 : Int).toNat = 2 ^ 8 - 1 from rfl, Nat.and_two_pow_sub_one_eq_mod]
  have q3 : (m : Int).fdiv 16777216 = ((m / 2 ^ 24 % 256 : Nat) : Int) := by rw [Int.fdiv_eq_ediv_of_nonneg _ (by omega)]; omega
  have q2 : bitsV .and .u32 ((m : Int).fdiv 65536) 255 = ((m / 2 ^ 16 % 256 : Nat) : Int) := by
    rw [Int.fdiv_eq_ediv_of_nonneg _ (by omega), show (m : Int) / 65536 = ((m / 2 ^ 16 : Nat) : Int) from by omega, hmask _ (by omega)]
  have q1 : bitsV .and .u32 ((m : Int).fdiv 256) 255 = ((m / 2 ^ 8 % 256 : Nat) : Int) := by
    rw [Int.fdiv_eq_ediv_of_nonneg _ (by omega), show (m : Int) / 256 = ((m / 2 ^ 8 : Nat) : Int) from by omega, hmask _ (by omega)]
  have q0 : bitsV .and .u32 (m : Int) 255 = ((m / 2 ^ 0 % 256 : Nat) : Int) := by rw [hmask _ (by omega)]; simp
  have r3 : m / 2 ^ 24 % 256 < 256 := by omega
  have r2 : m / 2 ^ 16 % 256 < 256 := by omega
  have r1 : m / 2 ^ 8 % 256 < 256 := by omega
  have r0 : m / 2 ^ 0 % 256 < 256 := by omega
  unfold math_bits_OnesCount32
  generalize m / 2 ^ 24 % 256 = x3 at *
  generalize m / 2 ^ 16 % 256 = x2 at *
  generalize m / 2 ^ 8 % 256 = x1 at *
  generalize m / 2 ^ 0 % 256 = x0 at *
  generalize (m : Int).fdiv 16777216 = y3 at *
  generalize bitsV .and .u32 ((m : Int).fdiv 65536) 255 = y2 at *
  generalize bitsV .and .u32 ((m : Int).fdiv 256) 255 = y1 at *
  generalize bitsV .and .u32 (m : Int) 255 = y0 at *
  subst q3 q2 q1 q0
  have w1 : IntKind.u8.wrap (((Lib.pop8tab.data.toList.getD (x3 : Int).toNat 0).toNat : Int) + ((Lib.pop8tab.data.toList.getD (x2 : Int).toNat 0).toNat : Int)) = ((selL (fun i => m.testBit (8 + (8 + (8 + i)))) 8).length : Int) + ((selL (fun i => m.testBit (8 + (8 + i))) 8).length : Int) := by
    rw [Int.toNat_natCast, Int.toNat_natCast, t3, t2]; exact wrap_u8 (by omega) (by omega)
  have w2 : IntKind.u8.wrap (IntKind.u8.wrap (((Lib.pop8tab.data.toList.getD (x3 : Int).toNat 0).toNat : Int) + ((Lib.pop8tab.data.toList.getD (x2 : Int).toNat 0).toNat : Int)) + ((Lib.pop8tab.data.toList.getD (x1 : Int).toNat 0).toNat : Int)) = ((selL (fun i => m.testBit (8 + (8 + (8 + i)))) 8).length : Int) + ((selL (fun i => m.testBit (8 + (8 + i))) 8).length : Int) + ((selL (fun i => m.testBit (8 + i)) 8).length : Int) := by
    rw [w1, Int.toNat_natCast, t1]; exact wrap_u8 (by omega) (by omega)
  have w3 : IntKind.u8.wrap (IntKind.u8.wrap (IntKind.u8.wrap (((Lib.pop8tab.data.toList.getD (x3 : Int).toNat 0).toNat : Int) + ((Lib.pop8tab.data.toList.getD (x2 : Int).toNat 0).toNat : Int)) + ((Lib.pop8tab.data.toList.getD (x1 : Int).toNat 0).toNat : Int)) + ((Lib.pop8tab.data.toList.getD (x0 : Int).toNat 0).toNat : Int)) = ((selL m.testBit 32).length : Int) := by
    rw [w2, Int.toNat_natCast, t0, wrap_u8 (by omega) (by omega)]; omega
  generalize IntKind.u8.wrap (IntKind.u8.wrap (IntKind.u8.wrap (((Lib.pop8tab.data.toList.getD (x3 : Int).toNat 0).toNat : Int) + ((Lib.pop8tab.data.toList.getD (x2 : Int).toNat 0).toNat : Int)) + ((Lib.pop8tab.data.toList.getD (x1 : Int).toNat 0).toNat : Int)) + ((Lib.pop8tab.data.toList.getD (x0 : Int).toNat 0).toNat : Int)) = W at w3
  subst w3
  have l32 := selL_len m.testBit 32
  rw [chk_pos (by omega), chk_pos (by omega), chk_pos (by omega), chk_pos (by omega), chk_pos (by omega)]
theorem Dense_ok {b : List Int} {p : Int} (hb : Bts b) (hp : 0 ≤ p ∧ p ≤ 800000) : gives (spec_l20Dense b p) fun r => (0 ≤ r.1 ∧ r.1 ≤ 16) ∧ r.2.1.length ≤ 40 := by
  unfold spec_l20Dense
  rw [gives_bind]
  refine (pick_ok hb ⟨by omega, by omega⟩).mono ?_
  rintro ⟨y0, p0⟩ ⟨e0, h0⟩
  simp only at e0 h0 ⊢
  rw [gives_chk, gives_bind]
  refine ⟨by omega, (pick_ok hb ⟨by omega, by omega⟩).mono ?_⟩
  rintro ⟨y1, p1⟩ ⟨e1, h1⟩
  simp only at e1 h1 ⊢
  rw [gives_chk, gives_bind]
  refine ⟨by omega, ?_⟩
  refine (loop_to (Q := fun x : Int × Int × List (Int × Int × Int) => (0 ≤ x.1 ∧ x.1 ≤ p + 200) ∧ (0 ≤ x.2.1 ∧ x.2.1 ≤ 16) ∧ x.2.2.length ≤ 40) (fun s : Nat × Int × Int × List (Int × Int × Int) => ((s.1 : Int), s.2.1, s.2.2.1, s.2.2.2))
    (fun s => s.1 ≤ 21 ∧ (0 ≤ s.2.1 ∧ s.2.1 ≤ p + 200 - 4 * s.1) ∧ (0 ≤ s.2.2.1 ∧ s.2.2.1 ≤ 16) ∧ s.2.2.2.length ≤ 22 - s.1) (fun s => s.1) ((6 + y1).toNat, p1, 3 + y0, []) (by simp only; rw [show (((6 + y1).toNat : Nat) : Int) = 6 + y1 from by omega]) ⟨by simp only; omega, by simp only; omega, by simp only; omega, by simp⟩ ?_).mono ?_
  · rintro ⟨k, q, m, es⟩ ⟨hk, hq, hm, hl⟩
    simp only at hk hq hm hl
    simp only [spec_l20Dense_b0, go_sem]
    refine ⟨fun hc => ?_, fun hc => ⟨by omega, hm, by omega⟩⟩
    refine (Edge_ok hb ⟨by omega, by omega⟩).mono ?_
    rintro ⟨a, c, w, q'⟩ hq'
    simp only at hq' ⊢
    refine (AddEdge_ok ⟨by omega, by omega⟩ (by omega)).mono ?_
    rintro ⟨m', es', ok⟩ ⟨hm', hl'⟩
    simp only at hm' hl'
    simp only [go_sem]
    exact ⟨by omega, (k - 1, q', m', es'), ⟨by simp only; omega, by simp only; omega, by simp only; omega, by simp only; omega⟩, by simp only; omega, by simp only; rw [show ((k - 1 : Nat) : Int) = (k : Int) - 1 from by omega]⟩
  · rintro ⟨q, m, es⟩ ⟨hq, hm, hl⟩
    simp only at hq hm hl
    simp only [join]
    rw [gives_bind]
    refine (odd_ok hb ⟨by omega, by omega⟩).mono ?_
    rintro ⟨o, q1⟩ ho
    simp only at ho ⊢
    rw [gives_ite]
    exact ⟨fun _ => gives_some.2 ⟨by simp only; omega, by simp only; omega⟩, fun _ => gives_some.2 ⟨by simp only; omega, by simp only; omega⟩⟩
end Go.Proofs.YtdjckcedpnabpaaDoor
