import Derived.Test.YteoedigfnfjopaaGreatLaD
section
set_option linter.unusedSimpArgs false
set_option linter.unusedVariables false
namespace Go.Proofs.YteoedigfnfjopaaGreat
open Go Go.Av
attribute [local go_sem] gives_chk gives_ite gives_some gives_bind gives_join Sum.elim_inl Sum.elim_inr decide_eq_true_eq decide_eq_false_iff_not Bool.not_eq_true' Bool.not_eq_false' Bool.or_eq_true Bool.and_eq_true Bool.not_eq_eq_eq_not beq_iff_eq bne_iff_ne ne_eq Bool.or_eq_false_iff Bool.and_eq_false_iff Bool.not_eq_true Bool.not_eq_false Bool.not_true Bool.not_false Int.toNat_natCast beq_eq_false_iff_ne bne_eq_false_iff_eq Decidable.not_not Bool.default_bool
def EOk (n : Int) (es : List (Int × Int × Int)) (k : Nat) : Prop :=
 0 ≤ (es.getD k (0, 0, 0)).1 ∧ (es.getD k (0, 0, 0)).1 < n ∧ 0 ≤ (es.getD k (0, 0, 0)).2.1 ∧ (es.getD k (0, 0, 0)).2.1 < n ∧ ¬ (es.getD k (0, 0, 0)).1 = (es.getD k (0, 0, 0)).2.1 ∧
 0 ≤ (es.getD k (0, 0, 0)).2.2 ∧ (es.getD k (0, 0, 0)).2.2 ≤ 20 ∧
 (0 < k → (es.getD (k - 1) (0, 0, 0)).1 < (es.getD k (0, 0, 0)).1 ∨ (es.getD (k - 1) (0, 0, 0)).1 = (es.getD k (0, 0, 0)).1 ∧ (es.getD (k - 1) (0, 0, 0)).2.1 < (es.getD k (0, 0, 0)).2.1)
def GOk (n : Int) (es : List (Int × Int × Int)) : Prop := 0 ≤ n ∧ n ≤ 16 ∧ es.length ≤ 40 ∧ ∀ k, k < es.length → EOk n es k
open Classical in
noncomputable def gok (n : Int) (es : List (Int × Int × Int)) : Bool := decide (GOk n es)
theorem gok_true {n : Int} {es : List (Int × Int × Int)} (h : GOk n es) : gok n es = true := by simp [gok, h]
theorem gok_false {n : Int} {es : List (Int × Int × Int)} (h : ¬ GOk n es) : gok n es = false := by simp [gok, h]
theorem EOk.more {n : Int} {es : List (Int × Int × Int)} {k : Nat} (h : ∀ j, j < k → EOk n es j) (hk : EOk n es k) (j : Nat) (hj : j < k + 1) : EOk n es j := by
 by_cases he : j = k
 ·subst he; exact hk
 ·exact h j (by omega)
theorem toNat_sub_one {k : Nat} (h : 0 < k) : ((k : Int) - 1).toNat = k - 1 := by omega
theorem spec_GraphValid_eq {n : Int} {es : List (Int × Int × Int)} (hn : -9223372036854775808 ≤ n ∧ n ≤ 9223372036854775807) (hx : es.length ≤ 1000000000) : spec_GraphValid n es = some (gok n es) := by
 refine gives_eq.1 ?_
 unfold spec_GraphValid
 rw [gives_bind]
 refine gives.mono (gives_loop (fun k : Nat => (k : Int)) (fun k => k ≤ es.length ∧ (0 ≤ n → ∀ j, j < k → EOk n es j)) (fun k => es.length - k)
  (Q := fun x => match x with | .inl _ => 0 ≤ n → ∀ j, j < es.length → EOk n es j | .inr _ => ∃ k, k < es.length ∧ (0 ≤ n → ¬ EOk n es k)) ?_ 0 ⟨by omega, fun _ j hj => absurd hj (by omega)⟩) ?_
 ·intro k hs
  simp only [spec_GraphValid_b0, go_sem]
  have hw : IntKind.i64.wrap (n - 1) = n - 1 ∨ ¬ 0 ≤ n := by
   by_cases h0 : 0 ≤ n
   ·exact .inl (wrap_fits (by omega) (by omega))
   ·exact .inr h0
  refine ⟨fun hc => ⟨by omega, by omega, by omega, fun hbad => ⟨k, by omega, fun h0 he => ?_⟩, fun hgood => ⟨by omega, k + 1, ⟨by omega, fun h0 => EOk.more (hs.2 h0) ?_⟩, by omega, by omega⟩⟩, fun hc h0 j hj => hs.2 h0 j (by omega)⟩
  ·rcases hw with hw | hw
   ·rw [hw] at hbad
    simp only [EOk] at he
    by_cases hk : 0 < k
    ·rw [toNat_sub_one hk] at hbad; omega
    ·omega
   ·exact hw h0
  ·rcases hw with hw | hw
   ·rw [hw] at hgood
    simp only [EOk]
    by_cases hk : 0 < k
    ·rw [toNat_sub_one hk] at hgood; omega
    ·omega
   ·exact absurd h0 hw
 ·rintro (_ | _) h <;> simp only [Sum.elim_inl, Sum.elim_inr, gives_some] at h ⊢
  ·by_cases hg : 0 ≤ n ∧ n ≤ 16 ∧ es.length ≤ 40
   ·rw [gok_true ⟨hg.1, hg.2.1, hg.2.2, h hg.1⟩]; simp; omega
   ·rw [gok_false (fun g => hg ⟨g.1, g.2.1, g.2.2.1⟩)]; simp; omega
  ·obtain ⟨k, hk, h⟩ := h
   rw [gok_false (fun g => h g.1 (g.2.2.2 k hk))]
theorem gok_len {n : Int} {es : List (Int × Int × Int)} (h : GOk n es) {k : Nat} (hk : k < es.length) : EOk n es k := h.2.2.2 k hk
end Go.Proofs.YteoedigfnfjopaaGreat
end
section
set_option linter.unusedSimpArgs false
set_option linter.unusedVariables false
namespace Go.Proofs.YteoedigfnfjopaaGreat
open Go Go.Av
attribute [local go_sem] gives_chk gives_ite gives_some gives_bind gives_join Sum.elim_inl Sum.elim_inr decide_eq_true_eq decide_eq_false_iff_not Bool.not_eq_true' Bool.not_eq_false' Bool.or_eq_true Bool.and_eq_true Bool.not_eq_eq_eq_not beq_iff_eq bne_iff_ne ne_eq Bool.or_eq_false_iff Bool.and_eq_false_iff Bool.not_eq_true Bool.not_eq_false Bool.not_true Bool.not_false Int.toNat_natCast beq_eq_false_iff_ne bne_eq_false_iff_eq Decidable.not_not Bool.default_bool
open Classical in
theorem loop_scan {S X : Type} {N : Nat} {p : Nat → Prop} (st : Nat → S) (x y : X) {body : S → Option (S ⊕ X)}
 (hb : ∀ k, k ≤ N → (∀ j, j < k → p j) → body (st k) = if k < N then (if p k then some (.inl (st (k + 1))) else some (.inr y)) else some (.inr x)) :
 loop body (st 0) = some (if ∀ k, k < N → p k then x else y) := by
 refine gives_eq.1 ?_
 refine gives_loop st (fun k => k ≤ N ∧ ∀ j, j < k → p j) (fun k => N - k) ?_ 0 ⟨Nat.zero_le _, fun j hj => absurd hj (by omega)⟩
 intro k hs
 rw [hb k hs.1 hs.2]
 split
 ·rename_i h
  split
  ·rename_i he
   refine gives_some.2 ⟨k + 1, ⟨by omega, fun j hj => ?_⟩, by omega, rfl⟩
   by_cases hjk : j = k
   ·subst hjk; exact he
   ·exact hs.2 j (by omega)
  ·rename_i he
   refine gives_some.2 ?_
   rw [if_neg]; intro e; exact he (e k h)
 ·refine gives_some.2 ?_
  rw [if_pos (fun j hj => hs.2 j (by omega))]
open Classical in
noncomputable def yes (p : Prop) : Bool := decide p
theorem yes_true {p : Prop} (h : p) : yes p = true := by simp [yes, h]
theorem yes_false {p : Prop} (h : ¬ p) : yes p = false := by simp [yes, h]
end Go.Proofs.YteoedigfnfjopaaGreat
end
section
set_option linter.unusedSimpArgs false
set_option linter.unusedVariables false
namespace Go.Proofs.YteoedigfnfjopaaGreat
open Go Go.Av
attribute [local go_sem] gives_chk gives_ite gives_some gives_bind gives_join Sum.elim_inl Sum.elim_inr decide_eq_true_eq decide_eq_false_iff_not Bool.not_eq_true' Bool.not_eq_false' Bool.or_eq_true Bool.and_eq_true Bool.not_eq_eq_eq_not beq_iff_eq bne_iff_ne ne_eq Bool.or_eq_false_iff Bool.and_eq_false_iff Bool.not_eq_true Bool.not_eq_false Bool.not_true Bool.not_false Int.toNat_natCast beq_eq_false_iff_ne bne_eq_false_iff_eq Decidable.not_not Bool.default_bool
def Nxt (es : List (Int × Int × Int)) (k : Nat) (a b : Int) : Prop := ∃ j, j < k ∧ (es.getD j (0, 0, 0)).1 = a ∧ (es.getD j (0, 0, 0)).2.1 = b
theorem Nxt.succ {es : List (Int × Int × Int)} {k : Nat} {a b : Int} : Nxt es (k + 1) a b ↔ Nxt es k a b ∨ ((es.getD k (0, 0, 0)).1 = a ∧ (es.getD k (0, 0, 0)).2.1 = b) := by
 constructor
 ·rintro ⟨j, hj, h⟩
  by_cases hjk : j = k
  ·subst hjk; exact .inr h
  ·exact .inl ⟨j, by omega, h⟩
 ·rintro (⟨j, hj, h⟩ | h)
  ·exact ⟨j, by omega, h⟩
  ·exact ⟨k, by omega, h⟩
def Adj (es : List (Int × Int × Int)) (a b : Int) : Prop := Nxt es es.length a b ∨ Nxt es es.length b a
def MaskOk (n : Int) (ms : List Int) (p : Nat → Nat → Prop) : Prop := ms.length = n.toNat ∧ ∀ v, v < n.toNat → (0 ≤ ms.getD v 0 ∧ ms.getD v 0 < 4294967296) ∧ ∀ w, (ms.getD v 0).toNat.testBit w = true ↔ p v w
theorem MaskOk.mono {n : Int} {ms : List Int} {p q : Nat → Nat → Prop} (h : MaskOk n ms p) (hpq : ∀ v w, v < n.toNat → (p v w ↔ q v w)) : MaskOk n ms q :=
 ⟨h.1, fun v hv => ⟨(h.2 v hv).1, fun w => ((h.2 v hv).2 w).trans (hpq v w hv)⟩⟩
noncomputable def nearL (n : Int) (es : List (Int × Int × Int)) (v : Int) : Nat → List Int
 | 0 => []
 | w + 1 => if yes (Adj es v w) = true then nearL n es v w ++ [(w : Int)] else nearL n es v w
theorem nearL_len (n : Int) (es : List (Int × Int × Int)) (v : Int) : ∀ w, (nearL n es v w).length ≤ w
 | 0 => by simp [nearL]
 | w + 1 => by have := nearL_len n es v w; simp only [nearL]; split <;> simp <;> omega
theorem near_scan {n : Int} {es : List (Int × Int × Int)} (hg : GOk n es) (a t : Int) : loop (spec_NearOf_b0 es a t) (false, 0) = some (yes (Adj es a t)) := by
 refine gives_eq.1 ?_
 have h40 := hg.2.2.1
 have h := gives_loop (body := spec_NearOf_b0 es a t) (Q := fun b => b = yes (Adj es a t)) (fun k : Nat => (yes (Nxt es k a t ∨ Nxt es k t a), (k : Int))) (fun k => k ≤ es.length) (fun k => es.length - k) ?_ 0 (Nat.zero_le _)
 rotate_left
 ·intro k hs
  simp only [spec_NearOf_b0, go_sem]
  refine ⟨fun hc => ⟨by omega, by omega, k + 1, by omega, by omega, ?_⟩, fun hc => by rw [show k = es.length from by omega]; rfl⟩
  refine Prod.ext ?_ (by simp)
  simp only
  rw [Bool.eq_iff_iff]
  simp only [Bool.or_eq_true, Bool.and_eq_true, beq_iff_eq]
  have hy : ∀ p : Prop, yes p = true ↔ p := fun p => ⟨fun h => by simpa [yes] using h, yes_true⟩
  rw [hy, hy, Nxt.succ, Nxt.succ]
  constructor
  ·rintro (((h | h) | h) | h)
   ·exact .inl (.inl h)
   ·exact .inr (.inl h)
   ·exact .inl (.inr h)
   ·exact .inr (.inr h)
  ·rintro ((h | h) | (h | h))
   ·exact .inl (.inl (.inl h))
   ·exact .inl (.inr h)
   ·exact .inl (.inl (.inr h))
   ·exact .inr h
 ·have e : yes (Nxt es 0 a t ∨ Nxt es 0 t a) = false := yes_false (by rintro (⟨j, hj, _⟩ | ⟨j, hj, _⟩) <;> omega)
  simp only [e] at h
  exact h
theorem spec_NearOf_eq {n : Int} {es : List (Int × Int × Int)} (hg : GOk n es) (v : Int) : spec_NearOf n es v = some (nearL n es v n.toNat) := by
 refine gives_eq.1 ?_
 unfold spec_NearOf
 have h0 := hg.1
 have h16 := hg.2.1
 have h40 := hg.2.2.1
 simp only [go_sem]
 refine gives_loop (fun k : Nat => ((k : Int), nearL n es v k)) (fun k => (k : Int) ≤ n) (fun k => n.toNat - k) ?_ 0 h0
 intro k hs
 have hl := nearL_len n es v k
 have hgv : spec_GraphValid n es = some true := by rw [spec_GraphValid_eq ⟨by omega, by omega⟩ (by omega), gok_true hg]
 simp only [spec_NearOf_b1, go_sem, hgv, near_scan hg]
 refine ⟨fun hc => ⟨fun _ => ⟨fun hy => ⟨by omega, by omega, k + 1, by omega, by omega, ?_⟩, fun hy => ⟨by omega, k + 1, by omega, by omega, ?_⟩⟩, fun hne => absurd ⟨hc, trivial⟩ hne⟩, fun hc => ⟨fun hh => absurd hh.1 hc, fun _ => by rw [show n.toNat = k from by omega]⟩⟩
 ·simp only [nearL]; rw [if_pos hy]; rfl
 ·simp only [nearL]; rw [if_neg (by simpa using hy)]; rfl
def MatOk (n : Int) (es : List (Int × Int × Int)) (ps : List Int) : Prop := GOk n es ∧ (ps.length : Int) = n ∧ ∀ k : Nat, k < ps.length → ps.getD k 0 = -1 ∨ (0 ≤ ps.getD k 0 ∧ ps.getD k 0 < n ∧ Adj es k (ps.getD k 0) ∧ ps.getD (ps.getD k 0).toNat 0 = k)
end Go.Proofs.YteoedigfnfjopaaGreat
end
section
set_option linter.unusedSimpArgs false
set_option linter.unusedVariables false
namespace Go.Proofs.YteoedigfnfjopaaGreat
open Go Go.Av
attribute [local go_sem] gives_chk gives_ite gives_some gives_bind gives_join Sum.elim_inl Sum.elim_inr decide_eq_true_eq decide_eq_false_iff_not Bool.not_eq_true' Bool.not_eq_false' Bool.or_eq_true Bool.and_eq_true Bool.not_eq_eq_eq_not beq_iff_eq bne_iff_ne ne_eq Bool.or_eq_false_iff Bool.and_eq_false_iff Bool.not_eq_true Bool.not_eq_false Bool.not_true Bool.not_false Int.toNat_natCast beq_eq_false_iff_ne bne_eq_false_iff_eq Decidable.not_not Bool.default_bool
def Bts (b : List Int) : Prop := ∀ k, 0 ≤ b.getD k 0 ∧ b.getD k 0 ≤ 255
theorem ofInt_u64 {a : Int} (ha : 0 ≤ a ∧ a < 9223372036854775808) : (BitVec.ofInt IntKind.i64.bits a).toNat = a.toNat := by
 show (BitVec.ofInt 64 a).toNat = a.toNat
 rw [BitVec.toNat_ofInt]
 have : a % ((2 ^ 64 : Nat) : Int) = a := Int.emod_eq_of_lt ha.1 (by have := ha.2; norm_cast; omega)
 rw [this]
theorem xor_nonneg {a b : Int} (ha : 0 ≤ a ∧ a < 9223372036854775808) (hb : 0 ≤ b ∧ b < 9223372036854775808) : 0 ≤ bitsV .xor .i64 a b := by
 simp only [bitsV, BitVec.toNat_xor, ofInt_u64 ha, ofInt_u64 hb]
 have h := Nat.xor_lt_two_pow (x := a.toNat) (y := b.toNat) (n := 63) (by have := ha.2; omega) (by have := hb.2; omega)
 rw [wrap_fits (by omega) (by omega)]
 omega
theorem pick_ok {b : List Int} {p n : Int} (hb : Bts b) (hp : 0 ≤ p ∧ p ≤ 1000000) : gives (spec_l20Rd_pick b p n) fun r => r.2 = p + 1 ∧ 0 ≤ r.1 ∧ (1 ≤ n → r.1 < n) ∧ (r.1 = 0 ∨ 1 ≤ n) := by
 simp only [spec_l20Rd_pick, go_sem, show p + 1 - 1 = p from by omega]
 refine ⟨by omega, fun h => ⟨trivial, by omega, by omega, .inl trivial⟩, fun h => ⟨by omega, fun h2 => ?_, fun h2 => ?_⟩⟩
 ·have h3 := hb p.toNat
  refine ⟨by omega, by omega, by omega, trivial, Int.emod_nonneg _ (by omega), fun h4 => Int.emod_lt_of_pos _ (by omega), .inr (by omega)⟩
 ·have hl : (0 : Int) < b.length := by omega
  have m1 := Int.emod_nonneg p (show (b.length : Int) ≠ 0 by omega)
  have m2 := Int.emod_lt_of_pos p hl
  have m3 := Int.emod_nonneg (p * 7 + 3) (show (b.length : Int) ≠ 0 by omega)
  have m4 := Int.emod_lt_of_pos (p * 7 + 3) hl
  have d1 := Int.ediv_nonneg hp.1 (Int.le_of_lt hl)
  have d2 := Int.ediv_le_self (b.length : Int) hp.1
  have b1 := hb (p % (b.length : Int)).toNat
  have b2 := hb ((p * 7 + 3) % (b.length : Int)).toNat
  generalize p % (b.length : Int) = u at *
  generalize (p * 7 + 3) % (b.length : Int) = v at *
  generalize p / (b.length : Int) = w at *
  generalize b.getD u.toNat 0 = x at *
  generalize b.getD v.toNat 0 = y at *
  have hx : 0 ≤ x * 131 + y * 1117 + p * 29 + w * 53 ∧ x * 131 + y * 1117 + p * 29 + w * 53 ≤ 1000000000 := by omega
  have q1 := Int.ediv_nonneg hx.1 (show (0 : Int) ≤ 64 by omega)
  have q2 := Int.ediv_le_self (64 : Int) hx.1
  have x1 := xor_nonneg (a := x * 131 + y * 1117 + p * 29 + w * 53) (b := (x * 131 + y * 1117 + p * 29 + w * 53) / 64) ⟨by omega, by omega⟩ ⟨by omega, by omega⟩
  repeat' (first | refine And.intro ?_ ?_)
  all_goals first | exact trivial | omega | rfl | exact Int.emod_nonneg _ (by omega) | exact fun h4 => Int.emod_lt_of_pos _ (by omega) | exact .inr (by omega)
theorem odd_ok {b : List Int} {p n : Int} (hb : Bts b) (hp : 0 ≤ p ∧ p ≤ 1000000) : gives (spec_l20Rd_odd b p n) fun r => r.2 = p + 1 ∨ r.2 = p := by
 simp only [spec_l20Rd_odd, go_sem]
 exact ⟨fun h => (pick_ok hb hp).mono fun r hr => .inl hr.1, fun h => .inr trivial⟩
theorem open_ok {b : List Int} (hb : Bts b) : gives (spec_l20Open_v1 b) fun r => Bts r.1 ∧ r.1.length ≤ 2000 ∧ r.2 = 0 := by
 simp only [spec_l20Open_v1, go_sem, join]
 refine ⟨fun h => ⟨by omega, fun k => ?_, ?_, trivial⟩, fun h => ⟨hb, by omega, trivial⟩⟩
 ·simp only [List.drop_zero, List.getD_eq_getElem?_getD, List.getElem?_take]
  split
  ·have := hb k; simpa [List.getD_eq_getElem?_getD] using this
  ·simp
 ·simp; omega
theorem _root_.Go.Av.gives.mono' {A : Type} {x y : Option A} {Q Q' : A → Prop} (h : gives x Q) (he : x = y) (hq : ∀ a, Q a → Q' a) : gives y Q' := he ▸ h.mono hq
theorem AddEdge_ok {n : Int} {es : List (Int × Int × Int)} {a c w : Int} (hn : -1000000 ≤ n ∧ n ≤ 1000000) (hl : es.length ≤ 1000000) :
 gives (spec_AddEdge n es a c w) fun r => (r.1 = n ∨ r.1 = 0) ∧ r.2.1.length ≤ es.length + 1 := by
 unfold spec_AddEdge
 have h1 : spec_l1OwnGraph n es = some (n, es) := by unfold spec_l1OwnGraph; rw [chk_pos (by omega)]; rfl
 rw [h1]
 simp only [Option.bind_some]
 rw [spec_GraphValid_eq ⟨by omega, by omega⟩ (by omega)]
 simp only [go_sem, Option.bind_some]
 refine ⟨fun _ => ⟨.inr trivial, by simp⟩, fun _ => ?_⟩
 refine (gives_loop (Q := fun x : Bool × List (Int × Int × Int) => x.2.length ≤ es.length + 1 ∧ (x.1 = false → x.2.length ≤ es.length)) (fun s : Bool × Nat × List (Int × Int × Int) => (s.1, (s.2.1 : Int), s.2.2))
  (fun s => s.2.1 ≤ es.length ∧ s.2.2.length ≤ s.2.1 + 1 ∧ (s.1 = false → s.2.2.length ≤ s.2.1)) (fun s => es.length - s.2.1) ?_ (false, 0, []) ⟨Nat.zero_le _, by simp, by simp⟩).mono ?_
 ·rintro ⟨t, k, xs⟩ ⟨hk, hx, hf⟩
  simp only at hk hx hf
  simp only [spec_AddEdge_b0, go_sem, join]
  refine ⟨fun hc => ⟨by omega, fun h2 => ⟨by omega, fun h3 => ⟨by omega, (true, k + 1, xs ++ [(a, c, w)]), ⟨by simp only; omega, by simp; have := hf h2.1; omega, by simp⟩, by simp only; omega, by simp⟩,
   fun h3 => ⟨by simp; omega, by omega, (true, k + 1, (xs ++ [(a, c, w)]) ++ [((es.getD k (0, 0, 0)).1, (es.getD k (0, 0, 0)).2.1, (es.getD k (0, 0, 0)).2.2)]), ⟨by simp only; omega, by simp; have := hf h2.1; omega, by simp⟩, by simp only; omega, by simp⟩⟩,
   fun h2 => ⟨by omega, by omega, (t, k + 1, xs ++ [((es.getD k (0, 0, 0)).1, (es.getD k (0, 0, 0)).2.1, (es.getD k (0, 0, 0)).2.2)]), ⟨by simp only; omega, by simp; omega, fun ht => by simp; exact hf ht⟩, by simp only; omega, by simp⟩⟩, fun hc => ⟨by omega, fun ht => by have := hf ht; omega⟩⟩
 ·rintro ⟨t, xs⟩ ⟨hx, hf⟩
  simp only at hx hf
  simp only [join, go_sem]
  refine ⟨fun ht => ⟨by omega, ?_⟩, fun ht => ?_⟩
  ·have := hf ht
   rw [spec_GraphValid_eq ⟨by omega, by omega⟩ (by simp; omega)]
   simp only [go_sem]
   exact ⟨fun _ => ⟨by omega, .inl trivial, by simp⟩, fun _ => ⟨.inl trivial, by simp; omega⟩⟩
  ·rw [spec_GraphValid_eq ⟨by omega, by omega⟩ (by omega)]
   simp only [go_sem]
   exact ⟨fun _ => ⟨by omega, .inl trivial, by simp⟩, fun _ => ⟨.inl trivial, by omega⟩⟩
theorem getD_all {l : List Int} {P : Int → Prop} (h : ∀ x ∈ l, P x) (hd : P 0) (i : Nat) : P (l.getD i 0) := by
 simp only [List.getD_eq_getElem?_getD]
 cases hi : l[i]? with
 | none => exact hd
 | some x => exact h x (List.mem_of_getElem? hi)
theorem Edge_ok {b : List Int} {p n : Int} (hb : Bts b) (hp : 0 ≤ p ∧ p ≤ 900000) : gives (spec_l20Edge b p n) fun r => r.2.2.2 = p + 4 := by
 unfold spec_l20Edge
 rw [gives_bind]
 refine (pick_ok hb ⟨by omega, by omega⟩).mono ?_
 rintro ⟨y0, p0⟩ ⟨e0, h0⟩
 simp only at e0 h0 ⊢
 rw [gives_bind]
 refine (pick_ok hb ⟨by omega, by omega⟩).mono ?_
 rintro ⟨y1, p1⟩ ⟨e1, h1⟩
 simp only at e1 h1 ⊢
 rw [gives_bind]
 refine (pick_ok hb ⟨by omega, by omega⟩).mono ?_
 rintro ⟨y2, p2⟩ ⟨e2, h2⟩
 simp only at e2 h2 ⊢
 rw [gives_bind]
 refine (pick_ok hb ⟨by omega, by omega⟩).mono ?_
 rintro ⟨y3, p3⟩ ⟨e3, h3⟩
 simp only at e3 h3 ⊢
 simp only [go_sem]
 omega
theorem Graph_ok {b : List Int} {p n : Int} (hb : Bts b) (hp : 0 ≤ p ∧ p ≤ 800000) : gives (spec_l20Graph b p n) fun r => (-1 ≤ r.1 ∧ r.1 ≤ 17) ∧ r.2.1.length ≤ 20 ∧ 0 ≤ r.2.2 ∧ r.2.2 ≤ p + 200 := by
 unfold spec_l20Graph
 rw [gives_bind]
 refine (pick_ok hb ⟨by omega, by omega⟩).mono ?_
 rintro ⟨y0, p0⟩ ⟨e0, h0⟩
 simp only at e0 h0 ⊢
 rw [gives_bind]
 refine (pick_ok hb ⟨by omega, by omega⟩).mono ?_
 rintro ⟨y1, p1⟩ ⟨e1, h1⟩
 simp only at e1 h1 ⊢
 rw [gives_chk, gives_bind]
 refine ⟨by omega, ?_⟩
 refine (pick_ok hb ⟨by omega, by omega⟩).mono ?_
 rintro ⟨y2, p2⟩ ⟨e2, h2⟩
 simp only at e2 h2 ⊢
 have t1 : 0 ≤ ([0, 1, 1, 1, 1, 1, 2, 3] : List Int).getD y2.toNat 0 ∧ ([0, 1, 1, 1, 1, 1, 2, 3] : List Int).getD y2.toNat 0 < 4 := getD_all (P := fun x => 0 ≤ x ∧ x < 4) (by simp) (by omega) _
 have t2 : 0 ≤ ([y0, (2 + y1), 16, 0] : List Int).getD (([0, 1, 1, 1, 1, 1, 2, 3] : List Int).getD y2.toNat 0).toNat 0 ∧ ([y0, (2 + y1), 16, 0] : List Int).getD (([0, 1, 1, 1, 1, 1, 2, 3] : List Int).getD y2.toNat 0).toNat 0 ≤ 16 :=
  getD_all (P := fun x => 0 ≤ x ∧ x ≤ 16) (by simp only [List.mem_cons, List.not_mem_nil, or_false]; rintro x (rfl | rfl | rfl | rfl) <;> omega) (by omega) _
 generalize ([y0, (2 + y1), 16, 0] : List Int).getD (([0, 1, 1, 1, 1, 1, 2, 3] : List Int).getD y2.toNat 0).toNat 0 = m at *
 rw [gives_chk, gives_chk, gives_bind]
 refine ⟨by omega, t1, ?_⟩
 refine (pick_ok hb ⟨by omega, by omega⟩).mono ?_
 rintro ⟨y3, p3⟩ ⟨e3, h3⟩
 simp only at e3 h3 ⊢
 rw [gives_bind]
 refine (gives_loop (Q := fun x : Int × Int × List (Int × Int × Int) => (0 ≤ x.1 ∧ x.1 ≤ p + 100) ∧ (0 ≤ x.2.1 ∧ x.2.1 ≤ 16) ∧ x.2.2.length ≤ 14) (fun s : Nat × Int × Int × List (Int × Int × Int) => ((s.1 : Int), s.2.1, s.2.2.1, s.2.2.2))
  (fun s => s.1 ≤ 13 ∧ (0 ≤ s.2.1 ∧ s.2.1 ≤ p + 100 - 4 * s.1) ∧ (0 ≤ s.2.2.1 ∧ s.2.2.1 ≤ 16) ∧ s.2.2.2.length ≤ 14 - s.1) (fun s => s.1) ?_ (y3.toNat, p3, m, []) ⟨by simp only; omega, by simp only; omega, t2, by simp⟩).mono' (by simp only; rw [show ((y3.toNat : Nat) : Int) = y3 from by omega]) ?_
 ·rintro ⟨k, q, m, es⟩ ⟨hk, hq, hm, hl⟩
  simp only at hk hq hm hl
  simp only [spec_l20Graph_b0, go_sem]
  refine ⟨fun hc => ?_, fun hc => ⟨by omega, hm, by omega⟩⟩
  refine (Edge_ok hb ⟨by omega, by omega⟩).mono ?_
  rintro ⟨a, c, w, q'⟩ hq'
  simp only at hq' ⊢
  refine (AddEdge_ok ⟨by omega, by omega⟩ (by omega)).mono ?_
  rintro ⟨m', es', ok⟩ ⟨hm', hl'⟩
  simp only at hm' hl'
  simp only [go_sem]
  exact ⟨by omega, (k - 1, q', m', es'), ⟨by simp only; omega, by simp only; omega, by simp only; omega, by simp only; omega⟩, by simp only; omega, by simp only; rw [show ((k - 1 : Nat) : Int) = (k : Int) - 1 from by omega]⟩
 ·rintro ⟨q, m, es⟩ ⟨hq, hm, hl⟩
  simp only at hq hm hl
  simp only [join]
  rw [gives_bind]
  refine (odd_ok hb ⟨by omega, by omega⟩).mono ?_
  rintro ⟨o, q1⟩ ho
  simp only at ho ⊢
  rw [gives_ite]
  refine ⟨fun _ => ?_, fun _ => gives_some.2 ⟨by omega, by simp only; omega, by simp only; omega⟩⟩
  rw [gives_bind]
  refine (pick_ok hb ⟨by omega, by omega⟩).mono ?_
  rintro ⟨c, q2⟩ ⟨e4, h4⟩
  simp only at e4 h4 ⊢
  rw [gives_ite, gives_bind]
  refine ⟨fun _ => ?_, fun _ => ?_⟩
  ·refine (pick_ok hb ⟨by omega, by omega⟩).mono ?_
   rintro ⟨z, q3⟩ ⟨e5, h5⟩
   simp only at e5 h5 ⊢
   have t3 : -1 ≤ ([(-1), 17] : List Int).getD z.toNat 0 ∧ ([(-1), 17] : List Int).getD z.toNat 0 ≤ 17 := getD_all (P := fun x => -1 ≤ x ∧ x ≤ 17) (by simp) (by omega) _
   rw [gives_chk]
   exact ⟨by omega, gives_some.2 ⟨t3, by simp only; omega, by simp only; omega⟩⟩
  ·simp only [go_sem, List.length_append, List.length_cons, List.length_nil]
   refine ⟨fun _ => ?_, fun _ => ⟨fun _ => ?_, fun _ => ?_⟩⟩ <;> omega
end Go.Proofs.YteoedigfnfjopaaGreat
end
section
set_option linter.unusedSimpArgs false
set_option linter.unusedVariables false
namespace Go.Proofs.YteoedigfnfjopaaGreat
open Go Go.Av
attribute [local go_sem] gives_chk gives_ite gives_some gives_bind gives_join Sum.elim_inl Sum.elim_inr decide_eq_true_eq decide_eq_false_iff_not Bool.not_eq_true' Bool.not_eq_false' Bool.or_eq_true Bool.and_eq_true Bool.not_eq_eq_eq_not beq_iff_eq bne_iff_ne ne_eq Bool.or_eq_false_iff Bool.and_eq_false_iff Bool.not_eq_true Bool.not_eq_false Bool.not_true Bool.not_false Int.toNat_natCast beq_eq_false_iff_ne bne_eq_false_iff_eq Decidable.not_not Bool.default_bool
end Go.Proofs.YteoedigfnfjopaaGreat
end
section
set_option linter.unusedSimpArgs false
set_option linter.unusedVariables false
namespace Go.Proofs.YteoedigfnfjopaaGreat
open Go Go.Av
attribute [local go_sem] gives_chk gives_ite gives_some gives_bind gives_join Sum.elim_inl Sum.elim_inr decide_eq_true_eq decide_eq_false_iff_not Bool.not_eq_true' Bool.not_eq_false' Bool.or_eq_true Bool.and_eq_true Bool.not_eq_eq_eq_not beq_iff_eq bne_iff_ne ne_eq Bool.or_eq_false_iff Bool.and_eq_false_iff Bool.not_eq_true Bool.not_eq_false Bool.not_true Bool.not_false Int.toNat_natCast beq_eq_false_iff_ne bne_eq_false_iff_eq Decidable.not_not Bool.default_bool
theorem pigeon (f : Nat → Nat) : ∀ (n : Nat) (l : List Nat), l.Nodup → (∀ k ∈ l, ∃ v, v < n ∧ f v = k) → l.length ≤ n
 | 0, l, _, h => by
   cases l with
   | nil => exact Nat.le_refl _
   | cons a l => obtain ⟨v, hv, _⟩ := h a List.mem_cons_self; omega
 | n + 1, l, hn, h => by
   have h2 := pigeon f n (l.erase (f n)) (hn.erase _) (fun k hk => by
    have h3 := (List.Nodup.mem_erase_iff hn).1 hk
    obtain ⟨v, hv, e⟩ := h k h3.2
    refine ⟨v, ?_, e⟩
    rcases Nat.lt_or_ge v n with h4 | h4
    ·exact h4
    ·exact absurd (by rw [← e, show v = n from by omega]) h3.1)
   have h5 : l.length ≤ (l.erase (f n)).length + 1 := by
    rw [List.length_erase]; split <;> omega
   omega
def neg (l : List Int) : Nat := l.countP (· < 0)
def Inn (n : Int) (l : List Int) : Prop := ∀ k, k < l.length → 0 ≤ l.getD k 0 ∧ l.getD k 0 < n
end Go.Proofs.YteoedigfnfjopaaGreat
end
section
set_option linter.unusedSimpArgs false
set_option linter.unusedVariables false
namespace Go.Proofs.YteoedigfnfjopaaGreat
open Go Go.Av
attribute [local go_sem] gives_chk gives_ite gives_some gives_bind gives_join Sum.elim_inl Sum.elim_inr decide_eq_true_eq decide_eq_false_iff_not Bool.not_eq_true' Bool.not_eq_false' Bool.or_eq_true Bool.and_eq_true Bool.not_eq_eq_eq_not beq_iff_eq bne_iff_ne ne_eq Bool.or_eq_false_iff Bool.and_eq_false_iff Bool.not_eq_true Bool.not_eq_false Bool.not_true Bool.not_false Int.toNat_natCast beq_eq_false_iff_ne bne_eq_false_iff_eq Decidable.not_not Bool.default_bool
end Go.Proofs.YteoedigfnfjopaaGreat
end
section
set_option linter.unusedSimpArgs false
set_option linter.unusedVariables false
namespace Go.Proofs.YteoedigfnfjopaaGreat
open Go Go.Av
attribute [local go_sem] gives_chk gives_ite gives_some gives_bind gives_join Sum.elim_inl Sum.elim_inr decide_eq_true_eq decide_eq_false_iff_not Bool.not_eq_true' Bool.not_eq_false' Bool.or_eq_true Bool.and_eq_true Bool.not_eq_eq_eq_not beq_iff_eq bne_iff_ne ne_eq Bool.or_eq_false_iff Bool.and_eq_false_iff Bool.not_eq_true Bool.not_eq_false Bool.not_true Bool.not_false Int.toNat_natCast beq_eq_false_iff_ne bne_eq_false_iff_eq Decidable.not_not Bool.default_bool
end Go.Proofs.YteoedigfnfjopaaGreat
end
section
set_option linter.unusedSimpArgs false
set_option linter.unusedVariables false
namespace Go.Proofs.YteoedigfnfjopaaGreat
open Go Go.Av
attribute [local go_sem] gives_chk gives_ite gives_some gives_bind gives_join Sum.elim_inl Sum.elim_inr decide_eq_true_eq decide_eq_false_iff_not Bool.not_eq_true' Bool.not_eq_false' Bool.or_eq_true Bool.and_eq_true Bool.not_eq_eq_eq_not beq_iff_eq bne_iff_ne ne_eq Bool.or_eq_false_iff Bool.and_eq_false_iff Bool.not_eq_true Bool.not_eq_false Bool.not_true Bool.not_false Int.toNat_natCast beq_eq_false_iff_ne bne_eq_false_iff_eq Decidable.not_not Bool.default_bool
theorem loop_to {σ S X : Type} (st : σ → S) (ok : σ → Prop) (m : σ → Nat) {body : S → Option (S ⊕ X)} {Q : X → Prop} {s0 : S} (s : σ) (h0 : s0 = st s) (hs : ok s)
 (h : ∀ s, ok s → gives (body (st s)) fun r => match r with | .inl t => ∃ s', ok s' ∧ m s' < m s ∧ t = st s' | .inr x => Q x) : gives (loop body s0) Q := h0 ▸ gives_loop st ok m h s hs
end Go.Proofs.YteoedigfnfjopaaGreat
end
