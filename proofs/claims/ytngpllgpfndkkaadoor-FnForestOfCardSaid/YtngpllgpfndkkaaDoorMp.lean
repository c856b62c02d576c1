/- Colors: numbers of bits, degrees, the law. -/
import Derived.Test.YtngpllgpfndkkaaDoorMk
set_option linter.unusedSimpArgs false
set_option linter.unusedVariables false
namespace Go.Proofs.YtngpllgpfndkkaaDoor
open Go Go.Av
attribute [local go_sem] gives_chk gives_ite gives_some gives_bind gives_join Sum.elim_inl Sum.elim_inr decide_eq_true_eq decide_eq_false_iff_not Bool.not_eq_true' Bool.not_eq_false' Bool.or_eq_true Bool.and_eq_true Bool.not_eq_eq_eq_not beq_iff_eq bne_iff_ne ne_eq Bool.or_eq_false_iff Bool.and_eq_false_iff Bool.not_eq_true Bool.not_eq_false Bool.not_true Bool.not_false Int.toNat_natCast beq_eq_false_iff_ne bne_eq_false_iff_eq Decidable.not_not Bool.default_bool

theorem sameInts_self {xs : List Int} (hx : xs.length ≤ 1000000000) : laws_sameInts xs xs = some true := by
  unfold laws_sameInts
  rw [if_neg (by simp), gives_same (xs := xs) (ys := xs) (d := 0) rfl (fun k hk => by
    simp only [laws_sameInts_b0, Int.toNat_natCast]
    by_cases h : k < xs.length
    · rw [if_pos (by simpa using h), chk_pos (by omega), chk_pos (by omega), if_neg (by simp), chk_pos (by omega), if_pos h, if_pos trivial]
    · rw [if_neg (by simpa using h), if_neg h]), if_pos rfl]
  rfl
theorem selL_add (p : Nat → Bool) (a : Nat) : ∀ b, (selL p (a + b)).length = (selL p a).length + (selL (fun i => p (a + i)) b).length
  | 0 => by simp [selL]
  | b + 1 => by
    have ih := selL_add p a b
    rw [show a + (b + 1) = (a + b) + 1 from by omega]
    simp only [selL]
    by_cases h : p (a + b) = true
    · rw [if_pos h, if_pos h]; simp only [List.length_append, List.length_cons, List.length_nil]; omega
    · rw [if_neg h, if_neg h]; exact ih
theorem pop8_ok : ∀ b : Fin 256, (Lib.pop8tab.data.toList.getD b.val 0).toNat = (selL (Nat.testBit b.val) 8).length := by decide +kernel
theorem byte_cnt (m k : Nat) : (selL (Nat.testBit (m / 2 ^ k % 256)) 8).length = (selL (fun i => m.testBit (k + i)) 8).length := by
  congr 1
  refine selL_congr fun j hj => ?_
  rw [show (256 : Nat) = 2 ^ 8 from rfl, Nat.testBit_mod_two_pow, ← Nat.shiftRight_eq_div_pow, Nat.testBit_shiftRight, decide_eq_true hj, Bool.true_and]
theorem wrap_u8 {n : Int} (h : 0 ≤ n) (h' : n < 256) : IntKind.u8.wrap n = n := by
  have : IntKind.u8.wrap n = n % 256 := IntKind.wrap_u8 n
  rw [this]; omega
theorem ones_eq {m : Nat} (hm : m < 4294967296) : math_bits_OnesCount32 (m : Int) = some ((selL m.testBit 32).length : Int) := by
  have hs : Lib.pop8tab.size = 256 := Lib.pop8tab_size
  have b3 := byte_cnt m 24
  have b2 := byte_cnt m 16
  have b1 := byte_cnt m 8
  have b0 := byte_cnt m 0
  have c1 : (selL m.testBit 32).length = (selL m.testBit 8).length + (selL (fun i => m.testBit (8 + i)) 24).length := selL_add m.testBit 8 24
  have c2 : (selL (fun i => m.testBit (8 + i)) 24).length = (selL (fun i => m.testBit (8 + i)) 8).length + (selL (fun i => m.testBit (8 + (8 + i))) 16).length := selL_add (fun i => m.testBit (8 + i)) 8 16
  have c3 : (selL (fun i => m.testBit (8 + (8 + i))) 16).length = (selL (fun i => m.testBit (8 + (8 + i))) 8).length + (selL (fun i => m.testBit (8 + (8 + (8 + i)))) 8).length := selL_add (fun i => m.testBit (8 + (8 + i))) 8 8
  have d2 : (selL (fun i => m.testBit (16 + i)) 8).length = (selL (fun i => m.testBit (8 + (8 + i))) 8).length := by congr 2; funext i; congr 1; omega
  have d3 : (selL (fun i => m.testBit (24 + i)) 8).length = (selL (fun i => m.testBit (8 + (8 + (8 + i)))) 8).length := by congr 2; funext i; congr 1; omega
  have d0 : (selL (fun i => m.testBit (0 + i)) 8).length = (selL m.testBit 8).length := by congr 2; funext i; congr 1; omega
  have l3 := selL_len (fun i => m.testBit (24 + i)) 8
  have l2 := selL_len (fun i => m.testBit (16 + i)) 8
  have l1 := selL_len (fun i => m.testBit (8 + i)) 8
  have l0 := selL_len m.testBit 8
  have t3 := pop8_ok ⟨m / 2 ^ 24 % 256, by omega⟩
  have t2 := pop8_ok ⟨m / 2 ^ 16 % 256, by omega⟩
  have t1 := pop8_ok ⟨m / 2 ^ 8 % 256, by omega⟩
  have t0 := pop8_ok ⟨m / 2 ^ 0 % 256, by omega⟩
  simp only at t3 t2 t1 t0
  rw [b3, d3] at t3
  rw [b2, d2] at t2
  rw [b1] at t1
  rw [b0, d0] at t0
  rw [d3] at l3
  rw [d2] at l2
  have hmask : ∀ x : Nat, x < 4294967296 → bitsV .and .u32 (x : Int) 255 = ((x % 256 : Nat) : Int) := fun x hx => by
    rw [bitsV_and ⟨by omega, by omega⟩ ⟨by omega, by omega⟩]
    congr 1
    rw [Int.toNat_natCast, show (255 : Int).toNat = 2 ^ 8 - 1 from rfl, Nat.and_two_pow_sub_one_eq_mod]
  have q3 : (m : Int).fdiv 16777216 = ((m / 2 ^ 24 % 256 : Nat) : Int) := by rw [Int.fdiv_eq_ediv_of_nonneg _ (by omega)]; omega
  have q2 : bitsV .and .u32 ((m : Int).fdiv 65536) 255 = ((m / 2 ^ 16 % 256 : Nat) : Int) := by
    rw [Int.fdiv_eq_ediv_of_nonneg _ (by omega), show (m : Int) / 65536 = ((m / 2 ^ 16 : Nat) : Int) from by omega, hmask _ (by omega)]
  have q1 : bitsV .and .u32 ((m : Int).fdiv 256) 255 = ((m / 2 ^ 8 % 256 : Nat) : Int) := by
    rw [Int.fdiv_eq_ediv_of_nonneg _ (by omega), show (m : Int) / 256 = ((m / 2 ^ 8 : Nat) : Int) from by omega, hmask _ (by omega)]
  have q0 : bitsV .and .u32 (m : Int) 255 = ((m / 2 ^ 0 % 256 : Nat) : Int) := by rw [hmask _ (by omega)]; simp
  have r3 : m / 2 ^ 24 % 256 < 256 := by omega
  have r2 : m / 2 ^ 16 % 256 < 256 := by omega
  have r1 : m / 2 ^ 8 % 256 < 256 := by omega
  have r0 : m / 2 ^ 0 % 256 < 256 := by omega
  unfold math_bits_OnesCount32
  generalize m / 2 ^ 24 % 256 = x3 at *
  generalize m / 2 ^ 16 % 256 = x2 at *
  generalize m / 2 ^ 8 % 256 = x1 at *
  generalize m / 2 ^ 0 % 256 = x0 at *
  generalize (m : Int).fdiv 16777216 = y3 at *
  generalize bitsV .and .u32 ((m : Int).fdiv 65536) 255 = y2 at *
  generalize bitsV .and .u32 ((m : Int).fdiv 256) 255 = y1 at *
  generalize bitsV .and .u32 (m : Int) 255 = y0 at *
  subst q3 q2 q1 q0
  have w1 : IntKind.u8.wrap (((Lib.pop8tab.data.toList.getD (x3 : Int).toNat 0).toNat : Int) + ((Lib.pop8tab.data.toList.getD (x2 : Int).toNat 0).toNat : Int)) = ((selL (fun i => m.testBit (8 + (8 + (8 + i)))) 8).length : Int) + ((selL (fun i => m.testBit (8 + (8 + i))) 8).length : Int) := by
    rw [Int.toNat_natCast, Int.toNat_natCast, t3, t2]; exact wrap_u8 (by omega) (by omega)
  have w2 : IntKind.u8.wrap (IntKind.u8.wrap (((Lib.pop8tab.data.toList.getD (x3 : Int).toNat 0).toNat : Int) + ((Lib.pop8tab.data.toList.getD (x2 : Int).toNat 0).toNat : Int)) + ((Lib.pop8tab.data.toList.getD (x1 : Int).toNat 0).toNat : Int)) = ((selL (fun i => m.testBit (8 + (8 + (8 + i)))) 8).length : Int) + ((selL (fun i => m.testBit (8 + (8 + i))) 8).length : Int) + ((selL (fun i => m.testBit (8 + i)) 8).length : Int) := by
    rw [w1, Int.toNat_natCast, t1]; exact wrap_u8 (by omega) (by omega)
  have w3 : IntKind.u8.wrap (IntKind.u8.wrap (IntKind.u8.wrap (((Lib.pop8tab.data.toList.getD (x3 : Int).toNat 0).toNat : Int) + ((Lib.pop8tab.data.toList.getD (x2 : Int).toNat 0).toNat : Int)) + ((Lib.pop8tab.data.toList.getD (x1 : Int).toNat 0).toNat : Int)) + ((Lib.pop8tab.data.toList.getD (x0 : Int).toNat 0).toNat : Int)) = ((selL m.testBit 32).length : Int) := by
    rw [w2, Int.toNat_natCast, t0, wrap_u8 (by omega) (by omega)]; omega
  generalize IntKind.u8.wrap (IntKind.u8.wrap (IntKind.u8.wrap (((Lib.pop8tab.data.toList.getD (x3 : Int).toNat 0).toNat : Int) + ((Lib.pop8tab.data.toList.getD (x2 : Int).toNat 0).toNat : Int)) + ((Lib.pop8tab.data.toList.getD (x1 : Int).toNat 0).toNat : Int)) + ((Lib.pop8tab.data.toList.getD (x0 : Int).toNat 0).toNat : Int)) = W at w3
  subst w3
  have l32 := selL_len m.testBit 32
  rw [chk_pos (by omega), chk_pos (by omega), chk_pos (by omega), chk_pos (by omega), chk_pos (by omega)]
theorem impl_DegreesOf_ok {n : Int} {es : List (Int × Int × Int)} (hg : GOk n es) : gives (impl_DegreesOf n es) fun r => r.length = n.toNat ∧ ∀ v, v < n.toNat → r.getD v 0 = ((nearL n es v n.toNat).length : Int) := by
  have h0 := hg.1
  have h16 := hg.2.1
  unfold impl_DegreesOf
  rw [impl_GraphValid_eq, gok_true hg]
  simp only [Option.bind_some]
  rw [if_neg (by simp), chk_pos (by omega), gives_bind]
  refine (impl_nearMasks_ok hg).mono fun ms hm => ?_
  have hml := hm.1
  simp only [go_sem]
  refine loop_to (fun s : Nat × List Int => ((s.1 : Int), s.2)) (fun s => s.1 ≤ n.toNat ∧ s.2.length = n.toNat ∧ ∀ v, v < s.1 → s.2.getD v 0 = ((nearL n es v n.toNat).length : Int)) (fun s => n.toNat - s.1) (0, List.replicate n.toNat 0) rfl ⟨Nat.zero_le _, by simp, fun v hv => absurd hv (by omega)⟩ ?_
  rintro ⟨k, ds⟩ ⟨hk, hl, hd⟩
  simp only at hk hl hd
  simp only [impl_DegreesOf_b0, go_sem]
  refine ⟨fun hc => ⟨by omega, ?_⟩, fun hc => ⟨hl, fun v hv => hd v (by omega)⟩⟩
  obtain ⟨⟨m1, m2⟩, m3⟩ := hm.2 k (by omega)
  have hsz : impl_vertexMask_size (ms.getD k 0) = some ((nearL n es k n.toNat).length : Int) := by
    unfold impl_vertexMask_size
    rw [show ms.getD k 0 = (((ms.getD k 0).toNat : Nat) : Int) from by omega, ones_eq (by omega)]
    simp only [Option.bind_some]
    congr 2
    rw [nearL_sel]
    have e : selL (ms.getD k 0).toNat.testBit 32 = selL (ms.getD k 0).toNat.testBit n.toNat := selL_skip (by omega) fun i h4 h5 => by
      cases hb : (ms.getD k 0).toNat.testBit i
      · rfl
      · rcases (m3 i).1 hb with ⟨j, h1, h2, h3⟩ | ⟨j, h1, h2, h3⟩ <;> have he := gok_len hg h1 <;> simp only [EOk] at he <;> omega
    rw [e]
    congr 1
    exact selL_congr fun j hj => by rw [Bool.eq_iff_iff, m3 j, yes_iff]
  rw [hsz, gives_some]
  refine ⟨by omega, by omega, (k + 1, _), ⟨by simp only; omega, by simp only [List.length_set]; exact hl, fun v hv => ?_⟩, by simp only; omega, rfl⟩
  simp only at hv ⊢
  rw [getD_set _ _ _ _ _ (by omega)]
  by_cases hvk : v = k
  · rw [if_pos hvk, hvk]
  · rw [if_neg hvk]; exact hd v (by omega)
theorem Gre.deg {n : Int} {es : List (Int × Int × Int)} {cs : List Int} (hg : GOk n es) (h : Gre es n.toNat cs) {v : Nat} (hv : v < n.toNat) : cs.getD v 0 ≤ ((nearL n es v n.toNat).length : Int) := by
  obtain ⟨c, h1, h2⟩ := h.2 v hv
  have := pigeon (fun i => (cs.getD ((nearL n es v n.toNat).getD i 0).toNat 0).toNat) (nearL n es v n.toNat).length (List.range c) List.nodup_range fun j hj => by
    obtain ⟨w, e1, e2, e3⟩ := h2.2 j (List.mem_range.1 hj)
    obtain ⟨i, hi, he⟩ := List.mem_iff_getElem.1 ((nearL_mem (n := n) (es := es) (v := v) (u := (w : Int)) n.toNat).2 ⟨by omega, by omega, e2⟩)
    refine ⟨i, hi, ?_⟩
    have hgi : (nearL n es v n.toNat).getD i 0 = (w : Int) := by simp only [List.getD_eq_getElem?_getD, List.getElem?_eq_getElem hi, Option.getD_some]; exact he
    simp only [hgi, Int.toNat_natCast, e3]
  rw [List.length_range] at this
  omega
theorem Gre.right {n : Int} {es : List (Int × Int × Int)} {cs : List Int} (hg : GOk n es) (h : Gre es n.toNat cs) : ColOk n es cs := by
  have h0 := hg.1
  have hl := h.1
  refine ⟨hg, by omega, fun k hk => (h.le (by omega)).1, fun k hk he => ?_⟩
  have hE := gok_len hg hk
  simp only [EOk] at hE
  have key : ∀ a b : Nat, a < b → b < n.toNat → Adj es b a → ¬ cs.getD a 0 = cs.getD b 0 := fun a b hab hb hadj e => by
    obtain ⟨c, h1, h2⟩ := h.2 b hb
    exact h2.1 ⟨a, hab, hadj, by rw [e, h1]⟩
  have e1 : (((es.getD k (0, 0, 0)).1.toNat : Nat) : Int) = (es.getD k (0, 0, 0)).1 := by omega
  have e2 : (((es.getD k (0, 0, 0)).2.1.toNat : Nat) : Int) = (es.getD k (0, 0, 0)).2.1 := by omega
  rcases Nat.lt_trichotomy (es.getD k (0, 0, 0)).1.toNat (es.getD k (0, 0, 0)).2.1.toNat with hl | hl | hl
  · exact key _ _ hl (by omega) (by rw [e1, e2]; exact .inr ⟨k, hk, rfl, rfl⟩) he
  · omega
  · exact key _ _ hl (by omega) (by rw [e1, e2]; exact .inl ⟨k, hk, rfl, rfl⟩) he.symm
theorem Dense_ok {b : List Int} {p : Int} (hb : Bts b) (hp : 0 ≤ p ∧ p ≤ 800000) : gives (spec_l20Dense b p) fun r => (0 ≤ r.1 ∧ r.1 ≤ 16) ∧ r.2.1.length ≤ 40 := by
  unfold spec_l20Dense
  rw [gives_bind]
  refine (pick_ok hb ⟨by omega, by omega⟩).mono ?_
  rintro ⟨y0, p0⟩ ⟨e0, h0⟩
  simp only at e0 h0 ⊢
  rw [gives_chk, gives_bind]
  refine ⟨by omega, (pick_ok hb ⟨by omega, by omega⟩).mono ?_⟩
  rintro ⟨y1, p1⟩ ⟨e1, h1⟩
  simp only at e1 h1 ⊢
  rw [gives_chk, gives_bind]
  refine ⟨by omega, ?_⟩
  refine (loop_to (Q := fun x : Int × Int × List (Int × Int × Int) => (0 ≤ x.1 ∧ x.1 ≤ p + 200) ∧ (0 ≤ x.2.1 ∧ x.2.1 ≤ 16) ∧ x.2.2.length ≤ 40) (fun s : Nat × Int × Int × List (Int × Int × Int) => ((s.1 : Int), s.2.1, s.2.2.1, s.2.2.2))
    (fun s => s.1 ≤ 21 ∧ (0 ≤ s.2.1 ∧ s.2.1 ≤ p + 200 - 4 * s.1) ∧ (0 ≤ s.2.2.1 ∧ s.2.2.1 ≤ 16) ∧ s.2.2.2.length ≤ 22 - s.1) (fun s => s.1) ((6 + y1).toNat, p1, 3 + y0, []) (by simp only; rw [show (((6 + y1).toNat : Nat) : Int) = 6 + y1 from by omega]) ⟨by simp only; omega, by simp only; omega, by simp only; omega, by simp⟩ ?_).mono ?_
  · rintro ⟨k, q, m, es⟩ ⟨hk, hq, hm, hl⟩
    simp only at hk hq hm hl
    simp only [spec_l20Dense_b0, go_sem]
    refine ⟨fun hc => ?_, fun hc => ⟨by omega, hm, by omega⟩⟩
    refine (Edge_ok hb ⟨by omega, by omega⟩).mono ?_
    rintro ⟨a, c, w, q'⟩ hq'
    simp only at hq' ⊢
    refine (AddEdge_ok ⟨by omega, by omega⟩ (by omega)).mono ?_
    rintro ⟨m', es', ok⟩ ⟨hm', hl'⟩
    simp only at hm' hl'
    simp only [go_sem]
    exact ⟨by omega, (k - 1, q', m', es'), ⟨by simp only; omega, by simp only; omega, by simp only; omega, by simp only; omega⟩, by simp only; omega, by simp only; rw [show ((k - 1 : Nat) : Int) = (k : Int) - 1 from by omega]⟩
  · rintro ⟨q, m, es⟩ ⟨hq, hm, hl⟩
    simp only at hq hm hl
    simp only [join]
    rw [gives_bind]
    refine (odd_ok hb ⟨by omega, by omega⟩).mono ?_
    rintro ⟨o, q1⟩ ho
    simp only at ho ⊢
    rw [gives_ite]
    exact ⟨fun _ => gives_some.2 ⟨by simp only; omega, by simp only; omega⟩, fun _ => gives_some.2 ⟨by simp only; omega, by simp only; omega⟩⟩
theorem DrawColorsOf_ok {b : List Int} (hb : Bts b) : gives (spec_DrawColorsOf b) fun r => (-1 ≤ r.1 ∧ r.1 ≤ 17) ∧ r.2.length ≤ 40 := by
  unfold spec_DrawColorsOf
  rw [gives_bind]
  refine (open_ok hb).mono' (by rfl) ?_
  rintro ⟨c, p⟩ ⟨h1, h2, h3⟩
  simp only at h1 h2 h3 ⊢
  rw [gives_bind]
  refine (pick_ok h1 ⟨by omega, by omega⟩).mono ?_
  rintro ⟨y0, p0⟩ ⟨e0, h0⟩
  simp only at e0 h0 ⊢
  rw [gives_ite, gives_bind, gives_bind]
  refine ⟨fun _ => (Dense_ok h1 ⟨by omega, by omega⟩).mono ?_, fun _ => (Graph_ok h1 ⟨by omega, by omega⟩).mono ?_⟩
  · rintro ⟨n, es, q⟩ ⟨g1, g2⟩
    simp only at g1 g2 ⊢
    exact gives_some.2 ⟨by simp only; omega, g2⟩
  · rintro ⟨n, es, q⟩ ⟨g1, g2, g3, g4⟩
    simp only at g1 g2 g3 g4 ⊢
    exact gives_some.2 ⟨g1, by simp only; omega⟩
theorem FnColorsOf_true {b : List Int} (hb : Bts b) : laws_FnColorsOf b = some true := by
  unfold laws_FnColorsOf
  by_cases h0 : (1048576 : Int) < b.length
  · rw [if_pos (by simpa using h0)]
  · rw [if_neg (by simpa using h0)]
    obtain ⟨⟨n, es⟩, h1, h2, h3⟩ := DrawColorsOf_ok hb
    simp only at h2 h3
    obtain ⟨cs, c1, c2, c3, c4, c5⟩ := colors_eq (n := n) (es := es) ⟨by omega, by omega⟩ (by omega)
    rw [h1]
    simp only [Option.bind_some, c1, c2, sameInts_self (xs := cs) (by omega), impl_GraphValid_eq]
    rw [if_neg (by simp)]
    by_cases hg : GOk n es
    · have hG := c4 hg
      have hl := hG.1
      obtain ⟨ds, d1, d2, d3⟩ := impl_DegreesOf_ok hg
      rw [gok_true hg, if_neg (by simp), d1]
      simp only [Option.bind_some]
      have hloop : loop (laws_FnColorsOf_b0 cs ds) 0 = some (Sum.inl ()) := by
        refine gives_eq.1 (loop_to (fun v : Nat => (v : Int)) (fun v => v ≤ n.toNat) (fun v => n.toNat - v) 0 rfl (Nat.zero_le _) ?_)
        intro v hv
        simp only [laws_FnColorsOf_b0, go_sem]
        refine ⟨fun hc => ⟨by omega, by omega, fun hp => ?_, fun _ => ⟨by omega, v + 1, by omega, by omega, by simp⟩⟩, fun _ => trivial⟩
        have := hG.deg hg (v := v) (by omega)
        rw [d3 v (by omega)] at hp
        omega
      rw [hloop]
      simp only [Option.bind_some, Sum.elim_inl, impl_ColorsRight_eq]
      rw [colOk, yes_true (hG.right hg)]
    · have := c5 hg
      subst this
      rw [gok_false hg, if_pos (show (!false) = true from rfl)]
      simp [alive_eq]
end Go.Proofs.YtngpllgpfndkkaaDoor
