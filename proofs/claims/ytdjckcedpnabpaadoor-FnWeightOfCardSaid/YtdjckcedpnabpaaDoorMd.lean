/- Arguments that are drawn out of bytes. -/
import Derived.Test.YtdjckcedpnabpaaDoorMc
set_option linter.unusedSimpArgs false
set_option linter.unusedVariables false
namespace Go.Proofs.YtdjckcedpnabpaaDoor
open Go Go.Av
attribute [local go_sem] gives_chk gives_ite gives_some gives_bind gives_join Sum.elim_inl Sum.elim_inr decide_eq_true_eq decide_eq_false_iff_not Bool.not_eq_true' Bool.not_eq_false' Bool.or_eq_true Bool.and_eq_true Bool.not_eq_eq_eq_not beq_iff_eq bne_iff_ne ne_eq Bool.or_eq_false_iff Bool.and_eq_false_iff Bool.not_eq_true Bool.not_eq_false Bool.not_true Bool.not_false Int.toNat_natCast beq_eq_false_iff_ne bne_eq_false_iff_eq Decidable.not_not Bool.default_bool

def Bts (b : List Int) : Prop := ∀ k, 0 ≤ b.getD k 0 ∧ b.getD k 0 ≤ 255
theorem ofInt_u64 {a : Int} (ha : 0 ≤ a ∧ a < 9223372036854775808) : (BitVec.ofInt IntKind.i64.bits a).toNat = a.toNat := by
  show (BitVec.ofInt 64 a).toNat = a.toNat
  rw [BitVec.toNat_ofInt]
  have : a % ((2 ^ 64 : Nat) : Int) = a := Int.emod_eq_of_lt ha.1 (by have := ha.2; norm_cast; omega)
  rw [this]
theorem xor_nonneg {a b : Int} (ha : 0 ≤ a ∧ a < 9223372036854775808) (hb : 0 ≤ b ∧ b < 9223372036854775808) : 0 ≤ bitsV .xor .i64 a b := by
  simp only [bitsV, BitVec.toNat_xor, ofInt_u64 ha, ofInt_u64 hb]
  have h := Nat.xor_lt_two_pow (x := a.toNat) (y := b.toNat) (n := 63) (by have := ha.2; omega) (by have := hb.2; omega)
  rw [wrap_fits (by omega) (by omega)]
  omega
theorem pick_ok {b : List Int} {p n : Int} (hb : Bts b) (hp : 0 ≤ p ∧ p ≤ 1000000) : gives (spec_l20Rd_pick b p n) fun r => r.2 = p + 1 ∧ 0 ≤ r.1 ∧ (1 ≤ n → r.1 < n) ∧ (r.1 = 0 ∨ 1 ≤ n) := by
  simp only [spec_l20Rd_pick, go_sem, show p + 1 - 1 = p from by omega]
  refine ⟨by omega, fun h => ⟨trivial, by omega, by omega, .inl trivial⟩, fun h => ⟨by omega, fun h2 => ?_, fun h2 => ?_⟩⟩
  · have h3 := hb p.toNat
    refine ⟨by omega, by omega, by omega, trivial, Int.emod_nonneg _ (by omega), fun h4 => Int.emod_lt_of_pos _ (by omega), .inr (by omega)⟩
  · have hl : (0 : Int) < b.length := by omega
    have m1 := Int.emod_nonneg p (show (b.length : Int) ≠ 0 by omega)
    have m2 := Int.emod_lt_of_pos p hl
    have m3 := Int.emod_nonneg (p * 7 + 3) (show (b.length : Int) ≠ 0 by omega)
    have m4 := Int.emod_lt_of_pos (p * 7 + 3) hl
    have d1 := Int.ediv_nonneg hp.1 (Int.le_of_lt hl)
    have d2 := Int.ediv_le_self (b.length : Int) hp.1
    have b1 := hb (p % (b.length : Int)).toNat
    have b2 := hb ((p * 7 + 3) % (b.length : Int)).toNat
    generalize p % (b.length : Int) = u at *
    generalize (p * 7 + 3) % (b.length : Int) = v at *
    generalize p / (b.length : Int) = w at *
    generalize b.getD u.toNat 0 = x at *
    generalize b.getD v.toNat 0 = y at *
    have hx : 0 ≤ x * 131 + y * 1117 + p * 29 + w * 53 ∧ x * 131 + y * 1117 + p * 29 + w * 53 ≤ 1000000000 := by omega
    have q1 := Int.ediv_nonneg hx.1 (show (0 : Int) ≤ 64 by omega)
    have q2 := Int.ediv_le_self (64 : Int) hx.1
    have x1 := xor_nonneg (a := x * 131 + y * 1117 + p * 29 + w * 53) (b := (x * 131 + y * 1117 + p * 29 + w * 53) / 64) ⟨by omega, by omega⟩ ⟨by omega, by omega⟩
    repeat' (first | refine And.intro ?_ ?_)
    all_goals first | exact trivial | omega | rfl | exact Int.emod_nonneg _ (by omega) | exact fun h4 => Int.emod_lt_of_pos _ (by omega) | exact .inr (by omega)
theorem odd_ok {b : List Int} {p n : Int} (hb : Bts b) (hp : 0 ≤ p ∧ p ≤ 1000000) : gives (spec_l20Rd_odd b p n) fun r => r.2 = p + 1 ∨ r.2 = p := by
  simp only [spec_l20Rd_odd, go_sem]
  exact ⟨fun h => (pick_ok hb hp).mono fun r hr => .inl hr.1, fun h => .inr trivial⟩
theorem open_ok {b : List Int} (hb : Bts b) : gives (spec_l20Open_v1 b) fun r => Bts r.1 ∧ r.1.length ≤ 2000 ∧ r.2 = 0 := by
  simp only [spec_l20Open_v1, go_sem, join]
  refine ⟨fun h => ⟨by omega, fun k => ?_, ?_, trivial⟩, fun h => ⟨hb, by omega, trivial⟩⟩
  · simp only [List.drop_zero, List.getD_eq_getElem?_getD, List.getElem?_take]
    split
    · have := hb k; simpa [List.getD_eq_getElem?_getD] using this
    · simp
  · simp; omega
theorem _root_.Go.Av.gives.mono' {A : Type} {x y : Option A} {Q Q' : A → Prop} (h : gives x Q) (he : x = y) (hq : ∀ a, Q a → Q' a) : gives y Q' := he ▸ h.mono hq
/-! Edges put into graphs. -/
theorem AddEdge_ok {n : Int} {es : List (Int × Int × Int)} {a c w : Int} (hn : -1000000 ≤ n ∧ n ≤ 1000000) (hl : es.length ≤ 1000000) :
    gives (spec_AddEdge n es a c w) fun r => (r.1 = n ∨ r.1 = 0) ∧ r.2.1.length ≤ es.length + 1 := by
  unfold spec_AddEdge
  have h1 : spec_l1OwnGraph n es = some (n, es) := by unfold spec_l1OwnGraph; rw [chk_pos (by omega)]; rfl
  rw [h1]
  simp only [Option.bind_some]
  rw [spec_GraphValid_eq ⟨by omega, by omega⟩ (by omega)]
  simp only [go_sem, Option.bind_some]
  refine ⟨fun _ => ⟨.inr trivial, by simp⟩, fun _ => ?_⟩
  refine (gives_loop (Q := fun x : Bool × List (Int × Int × Int) => x.2.length ≤ es.length + 1 ∧ (x.1 = false → x.2.length ≤ es.length)) (fun s : Bool × Nat × List (Int × Int × Int) => (s.1, (s.2.1 : Int), s.2.2))
    (fun s => s.2.1 ≤ es.length ∧ s.2.2.length ≤ s.2.1 + 1 ∧ (s.1 = false → s.2.2.length ≤ s.2.1)) (fun s => es.length - s.2.1) ?_ (false, 0, []) ⟨Nat.zero_le _, by simp, by simp⟩).mono ?_
  · rintro ⟨t, k, xs⟩ ⟨hk, hx, hf⟩
    simp only at hk hx hf
    simp only [spec_AddEdge_b0, go_sem, join]
    refine ⟨fun hc => ⟨by omega, fun h2 => ⟨by omega, fun h3 => ⟨by omega, (true, k + 1, xs ++ [(a, c, w)]), ⟨by simp only; omega, by simp; have := hf h2.1; omega, by simp⟩, by simp only; omega, by simp⟩,
      fun h3 => ⟨by simp; omega, by omega, (true, k + 1, (xs ++ [(a, c, w)]) ++ [((es.getD k (0, 0, 0)).1, (es.getD k (0, 0, 0)).2.1, (es.getD k (0, 0, 0)).2.2)]), ⟨by simp only; omega, by simp; have := hf h2.1; omega, by simp⟩, by simp only; omega, by simp⟩⟩,
      fun h2 => ⟨by omega, by omega, (t, k + 1, xs ++ [((es.getD k (0, 0, 0)).1, (es.getD k (0, 0, 0)).2.1, (es.getD k (0, 0, 0)).2.2)]), ⟨by simp only; omega, by simp; omega, fun ht => by simp; exact hf ht⟩, by simp only; omega, by simp⟩⟩, fun hc => ⟨by omega, fun ht => by have := hf ht; omega⟩⟩
  · rintro ⟨t, xs⟩ ⟨hx, hf⟩
    simp only at hx hf
    simp only [join, go_sem]
    refine ⟨fun ht => ⟨by omega, ?_⟩, fun ht => ?_⟩
    · have := hf ht
      rw [spec_GraphValid_eq ⟨by omega, by omega⟩ (by simp; omega)]
      simp only [go_sem]
      exact ⟨fun _ => ⟨by omega, .inl trivial, by simp⟩, fun _ => ⟨.inl trivial, by simp; omega⟩⟩
    · rw [spec_GraphValid_eq ⟨by omega, by omega⟩ (by omega)]
      simp only [go_sem]
      exact ⟨fun _ => ⟨by omega, .inl trivial, by simp⟩, fun _ => ⟨.inl trivial, by omega⟩⟩

theorem getD_all {l : List Int} {P : Int → Prop} (h : ∀ x ∈ l, P x) (hd : P 0) (i : Nat) : P (l.getD i 0) := by
  simp only [List.getD_eq_getElem?_getD]
  cases hi : l[i]? with
  | none => exact hd
  | some x => exact h x (List.mem_of_getElem? hi)
theorem Edge_ok {b : List Int} {p n : Int} (hb : Bts b) (hp : 0 ≤ p ∧ p ≤ 900000) : gives (spec_l20Edge b p n) fun r => r.2.2.2 = p + 4 := by
  unfold spec_l20Edge
  rw [gives_bind]
  refine (pick_ok hb ⟨by omega, by omega⟩).mono ?_
  rintro ⟨y0, p0⟩ ⟨e0, h0⟩
  simp only at e0 h0 ⊢
  rw [gives_bind]
  refine (pick_ok hb ⟨by omega, by omega⟩).mono ?_
  rintro ⟨y1, p1⟩ ⟨e1, h1⟩
  simp only at e1 h1 ⊢
  rw [gives_bind]
  refine (pick_ok hb ⟨by omega, by omega⟩).mono ?_
  rintro ⟨y2, p2⟩ ⟨e2, h2⟩
  simp only at e2 h2 ⊢
  rw [gives_bind]
  refine (pick_ok hb ⟨by omega, by omega⟩).mono ?_
  rintro ⟨y3, p3⟩ ⟨e3, h3⟩
  simp only at e3 h3 ⊢
  simp only [go_sem]
  omega
theorem Graph_ok {b : List Int} {p n : Int} (hb : Bts b) (hp : 0 ≤ p ∧ p ≤ 800000) : gives (spec_l20Graph b p n) fun r => (-1 ≤ r.1 ∧ r.1 ≤ 17) ∧ r.2.1.length ≤ 20 ∧ 0 ≤ r.2.2 ∧ r.2.2 ≤ p + 200 := by
  unfold spec_l20Graph
  rw [gives_bind]
  refine (pick_ok hb ⟨by omega, by omega⟩).mono ?_
  rintro ⟨y0, p0⟩ ⟨e0, h0⟩
  simp only at e0 h0 ⊢
  rw [gives_bind]
  refine (pick_ok hb ⟨by omega, by omega⟩).mono ?_
  rintro ⟨y1, p1⟩ ⟨e1, h1⟩
  simp only at e1 h1 ⊢
  rw [gives_chk, gives_bind]
  refine ⟨by omega, ?_⟩
  refine (pick_ok hb ⟨by omega, by omega⟩).mono ?_
  rintro ⟨y2, p2⟩ ⟨e2, h2⟩
  simp only at e2 h2 ⊢
  have t1 : 0 ≤ ([0, 1, 1, 1, 1, 1, 2, 3] : List Int).getD y2.toNat 0 ∧ ([0, 1, 1, 1, 1, 1, 2, 3] : List Int).getD y2.toNat 0 < 4 := getD_all (P := fun x => 0 ≤ x ∧ x < 4) (by simp) (by omega) _
  have t2 : 0 ≤ ([y0, (2 + y1), 16, 0] : List Int).getD (([0, 1, 1, 1, 1, 1, 2, 3] : List Int).getD y2.toNat 0).toNat 0 ∧ ([y0, (2 + y1), 16, 0] : List Int).getD (([0, 1, 1, 1, 1, 1, 2, 3] : List Int).getD y2.toNat 0).toNat 0 ≤ 16 :=
    getD_all (P := fun x => 0 ≤ x ∧ x ≤ 16) (by simp only [List.mem_cons, List.not_mem_nil, or_false]; rintro x (rfl | rfl | rfl | rfl) <;> omega) (by omega) _
  generalize ([y0, (2 + y1), 16, 0] : List Int).getD (([0, 1, 1, 1, 1, 1, 2, 3] : List Int).getD y2.toNat 0).toNat 0 = m at *
  rw [gives_chk, gives_chk, gives_bind]
  refine ⟨by omega, t1, ?_⟩
  refine (pick_ok hb ⟨by omega, by omega⟩).mono ?_
  rintro ⟨y3, p3⟩ ⟨e3, h3⟩
  simp only at e3 h3 ⊢
  rw [gives_bind]
  refine (gives_loop (Q := fun x : Int × Int × List (Int × Int × Int) => (0 ≤ x.1 ∧ x.1 ≤ p + 100) ∧ (0 ≤ x.2.1 ∧ x.2.1 ≤ 16) ∧ x.2.2.length ≤ 14) (fun s : Nat × Int × Int × List (Int × Int × Int) => ((s.1 : Int), s.2.1, s.2.2.1, s.2.2.2))
    (fun s => s.1 ≤ 13 ∧ (0 ≤ s.2.1 ∧ s.2.1 ≤ p + 100 - 4 * s.1) ∧ (0 ≤ s.2.2.1 ∧ s.2.2.1 ≤ 16) ∧ s.2.2.2.length ≤ 14 - s.1) (fun s => s.1) ?_ (y3.toNat, p3, m, []) ⟨by simp only; omega, by simp only; omega, t2, by simp⟩).mono' (by simp only; rw [show ((y3.toNat : Nat) : Int) = y3 from by omega]) ?_
  · rintro ⟨k, q, m, es⟩ ⟨hk, hq, hm, hl⟩
    simp only at hk hq hm hl
    simp only [spec_l20Graph_b0, go_sem]
    refine ⟨fun hc => ?_, fun hc => ⟨by omega, hm, by omega⟩⟩
    refine (Edge_ok hb ⟨by omega, by omega⟩).mono ?_
    rintro ⟨a, c, w, q'⟩ hq'
    simp only at hq' ⊢
    refine (AddEdge_ok ⟨by omega, by omega⟩ (by omega)).mono ?_
    rintro ⟨m', es', ok⟩ ⟨hm', hl'⟩
    simp only at hm' hl'
    simp only [go_sem]
    exact ⟨by omega, (k - 1, q', m', es'), ⟨by simp only; omega, by simp only; omega, by simp only; omega, by simp only; omega⟩, by simp only; omega, by simp only; rw [show ((k - 1 : Nat) : Int) = (k : Int) - 1 from by omega]⟩
  · rintro ⟨q, m, es⟩ ⟨hq, hm, hl⟩
    simp only at hq hm hl
    simp only [join]
    rw [gives_bind]
    refine (odd_ok hb ⟨by omega, by omega⟩).mono ?_
    rintro ⟨o, q1⟩ ho
    simp only at ho ⊢
    rw [gives_ite]
    refine ⟨fun _ => ?_, fun _ => gives_some.2 ⟨by omega, by simp only; omega, by simp only; omega⟩⟩
    rw [gives_bind]
    refine (pick_ok hb ⟨by omega, by omega⟩).mono ?_
    rintro ⟨c, q2⟩ ⟨e4, h4⟩
    simp only at e4 h4 ⊢
    rw [gives_ite, gives_bind]
    refine ⟨fun _ => ?_, fun _ => ?_⟩
    · refine (pick_ok hb ⟨by omega, by omega⟩).mono ?_
      rintro ⟨z, q3⟩ ⟨e5, h5⟩
      simp only at e5 h5 ⊢
      have t3 : -1 ≤ ([(-1), 17] : List Int).getD z.toNat 0 ∧ ([(-1), 17] : List Int).getD z.toNat 0 ≤ 17 := getD_all (P := fun x => -1 ≤ x ∧ x ≤ 17) (by simp) (by omega) _
      rw [gives_chk]
      exact ⟨by omega, gives_some.2 ⟨t3, by simp only; omega, by simp only; omega⟩⟩
    · simp only [go_sem, List.length_append, List.length_cons, List.length_nil]
      refine ⟨fun _ => ?_, fun _ => ⟨fun _ => ?_, fun _ => ?_⟩⟩ <;> omega
end Go.Proofs.YtdjckcedpnabpaaDoor
