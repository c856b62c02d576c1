/- Colors: numbers of bits, degrees, the law. -/
import Derived.Test.YtdjckcedpnabpaaDoorMk
set_option linter.unusedSimpArgs false
set_option linter.unusedVariables false
namespace Go.Proofs.YtdjckcedpnabpaaDoor
open Go Go.Av
attribute [local go_sem] gives_chk gives_ite gives_some gives_bind gives_join Sum.elim_inl Sum.elim_inr decide_eq_true_eq decide_eq_false_iff_not Bool.not_eq_true' Bool.not_eq_false' Bool.or_eq_true Bool.and_eq_true Bool.not_eq_eq_eq_not beq_iff_eq bne_iff_ne ne_eq Bool.or_eq_false_iff Bool.and_eq_false_iff Bool.not_eq_true Bool.not_eq_false Bool.not_true Bool.not_false Int.toNat_natCast beq_eq_false_iff_ne bne_eq_false_iff_eq Decidable.not_not Bool.default_bool

theorem selL_add (p : Nat → Bool) (a : Nat) : ∀ b, (selL p (a + b)).length = (selL p a).length + (selL (fun i => p (a + i)) b).length
  | 0 => by simp [selL]
  | b + 1 => by
    have ih := selL_add p a b
    rw [show a + (b + 1) = (a + b) + 1 from by omega]
    simp only [selL]
    by_cases h : p (a + b) = true
    · rw [if_pos h, if_pos h]; simp only [List.length_append, List.length_cons, List.length_nil]; omega
    · rw [if_neg h, if_neg h]; exact ih
theorem pop8_ok : ∀ b : Fin 256, (Lib.pop8tab.data.toList.getD b.val 0).toNat = (selL (Nat.testBit b.val) 8).length := by decide +kernel
theorem byte_cnt (m k : Nat) : (selL (Nat.testBit (m / 2 ^ k % 256)) 8).length = (selL (fun i => m.testBit (k + i)) 8).length := by
  congr 1
  refine selL_congr fun j hj => ?_
  rw [show (256 : Nat) = 2 ^ 8 from rfl, Nat.testBit_mod_two_pow, ← Nat.shiftRight_eq_div_pow, Nat.testBit_shiftRight, decide_eq_true hj, Bool.true_and]
theorem wrap_u8 {n : Int} (h : 0 ≤ n) (h' : n < 256) : IntKind.u8.wrap n = n := by
  have : IntKind.u8.wrap n = n % 256 := IntKind.wrap_u8 n
  rw [this]; omega
theorem Gre.deg {n : Int} {es : List (Int × Int × Int)} {cs : List Int} (hg : GOk n es) (h : Gre es n.toNat cs) {v : Nat} (hv : v < n.toNat) : cs.getD v 0 ≤ ((nearL n es v n.toNat).length : Int) := by
  obtain ⟨c, h1, h2⟩ := h.2 v hv
  have := pigeon (fun i => (cs.getD ((nearL n es v n.toNat).getD i 0).toNat 0).toNat) (nearL n es v n.toNat).length (List.range c) List.nodup_range fun j hj => by
    obtain ⟨w, e1, e2, e3⟩ := h2.2 j (List.mem_range.1 hj)
    obtain ⟨i, hi, he⟩ := List.mem_iff_getElem.1 ((nearL_mem (n := n) (es := es) (v := v) (u := (w : Int)) n.toNat).2 ⟨by omega, by omega, e2⟩)
    refine ⟨i, hi, ?_⟩
    have hgi : (nearL n es v n.toNat).getD i 0 = (w : Int) := by simp only [List.getD_eq_getElem?_getD, List.getElem?_eq_getElem hi, Option.getD_some]; exact he
    simp only [hgi, Int.toNat_natCast, e3]
  rw [List.length_range] at this
  omega
theorem Gre.right {n : Int} {es : List (Int × Int × Int)} {cs : List Int} (hg : GOk n es) (h : Gre es n.toNat cs) : ColOk n es cs := by
  have h0 := hg.1
  have hl := h.1
  refine ⟨hg, by omega, fun k hk => (h.le (by omega)).1, fun k hk he => ?_⟩
  have hE := gok_len hg hk
  simp only [EOk] at hE
  have key : ∀ a b : Nat, a < b → b < n.toNat → Adj es b a → ¬ cs.getD a 0 = cs.getD b 0 := fun a b hab hb hadj e => by
    obtain ⟨c, h1, h2⟩ := h.2 b hb
    exact h2.1 ⟨a, hab, hadj, by rw [e, h1]⟩
  have e1 : (((es.getD k (0, 0, 0)).1.toNat : Nat) : Int) = (es.getD k (0, 0, 0)).1 := by omega
  have e2 : (((es.getD k (0, 0, 0)).2.1.toNat : Nat) : Int) = (es.getD k (0, 0, 0)).2.1 := by omega
  rcases Nat.lt_trichotomy (es.getD k (0, 0, 0)).1.toNat (es.getD k (0, 0, 0)).2.1.toNat with hl | hl | hl
  · exact key _ _ hl (by omega) (by rw [e1, e2]; exact .inr ⟨k, hk, rfl, rfl⟩) he
  · omega
  · exact key _ _ hl (by omega) (by rw [e1, e2]; exact .inl ⟨k, hk, rfl, rfl⟩) he.symm
end Go.Proofs.YtdjckcedpnabpaaDoor
