import Derived.Test.YteoedigfnfjopaaGreatNs
set_option linter.unusedSimpArgs false
set_option linter.unusedVariables false
namespace Go.Proofs.YteoedigfnfjopaaGreat
open Go Go.Av
attribute [local go_sem] gives_chk gives_ite gives_some gives_bind gives_join Sum.elim_inl Sum.elim_inr decide_eq_true_eq decide_eq_false_iff_not Bool.not_eq_true' Bool.not_eq_false' Bool.or_eq_true Bool.and_eq_true Bool.not_eq_eq_eq_not beq_iff_eq bne_iff_ne ne_eq Bool.or_eq_false_iff Bool.and_eq_false_iff Bool.not_eq_true Bool.not_eq_false Bool.not_true Bool.not_false Int.toNat_natCast beq_eq_false_iff_ne bne_eq_false_iff_eq Decidable.not_not Bool.default_bool
theorem loop_for {S X : Type} {N : Nat} (st : Nat → S) (x : X) {body : S → Option (S ⊕ X)} {s0 : S} (h0 : s0 = st 0) (hb : ∀ k, k ≤ N → body (st k) = if k < N then some (.inl (st (k + 1))) else some (.inr x)) : loop body s0 = some x := by
 have := loop_scanD (N := N) (p := fun _ => True) (q := True) (by simp) st x x (body := body) h0 (fun k hk => by rw [hb k hk]; by_cases h : k < N <;> simp [h])
 simpa using this
theorem set_last {α : Type} (l : List α) (x d : α) : (l ++ [d]).set l.length x = l ++ [x] := by
 rw [List.set_append_right _ _ (Nat.le_refl _), Nat.sub_self]; rfl
theorem takeS {xs : List Int} {k : Nat} (h : k < xs.length) : xs.take (k + 1) = xs.take k ++ [xs.getD k 0] := by
 rw [List.take_add_one, List.getElem?_eq_getElem h, List.getD_eq_getElem?_getD, List.getElem?_eq_getElem h]; rfl
def BOk (xs : List Int) : Prop := ∀ k, k < xs.length → 0 ≤ xs.getD k 0 ∧ xs.getD k 0 ≤ 255
instance (xs : List Int) : Decidable (BOk xs) := by unfold BOk; infer_instance
theorem bok_iff {xs : List Int} : BOk xs ↔ ∀ x ∈ xs, 0 ≤ x ∧ x ≤ 255 := by
 constructor
 ·intro h x hx
  obtain ⟨k, hk, rfl⟩ := List.getElem_of_mem hx
  have := h k hk
  rwa [List.getD_eq_getElem?_getD, List.getElem?_eq_getElem hk] at this
 ·intro h k hk
  rw [List.getD_eq_getElem?_getD, List.getElem?_eq_getElem hk]
  exact h _ (List.getElem_mem hk)
theorem bok_app {xs ys : List Int} : BOk (xs ++ ys) ↔ BOk xs ∧ BOk ys := by
 simp only [bok_iff, List.mem_append]
 exact ⟨fun h => ⟨fun x hx => h x (.inl hx), fun x hx => h x (.inr hx)⟩, fun h x hx => hx.elim (h.1 x) (h.2 x)⟩
theorem spec_bv {xs : List Int} (hx : xs.length ≤ 1000000000) : spec_BytesValid xs = some (decide (xs.length ≤ 2000 ∧ BOk xs)) := by
 have h0 : loop (spec_BytesValid_b0 xs) 0 = some (if BOk xs then .inl () else .inr ()) := by
  refine loop_scanD (N := xs.length) (p := fun k => 0 ≤ xs.getD k 0 ∧ xs.getD k 0 ≤ 255) Iff.rfl (fun k : Nat => (k : Int)) _ _ rfl ?_
  intro k hk
  simp only [spec_BytesValid_b0, Int.toNat_natCast]
  by_cases h : k < xs.length
  ·rw [if_pos (by simpa using h), if_pos h, chk_pos (by omega)]
   by_cases hp : 0 ≤ xs.getD k 0 ∧ xs.getD k 0 ≤ 255
   ·rw [if_pos hp, if_neg (by simp only [Bool.not_eq_true', Bool.and_eq_false_iff, decide_eq_false_iff_not]; omega), chk_pos (by omega)]; rfl
   ·rw [if_neg hp, if_pos (by simp only [Bool.not_eq_true', Bool.and_eq_false_iff, decide_eq_false_iff_not]; omega)]
  ·rw [if_neg (by simpa using h), if_neg h]
 unfold spec_BytesValid
 rw [h0, Option.bind_some]
 by_cases h : BOk xs
 ·rw [if_pos h, Sum.elim_inl]; congr 1; rw [Bool.eq_iff_iff]; simp only [decide_eq_true_eq]; constructor
  ·intro h1; exact ⟨by omega, h⟩
  ·intro h1; omega
 ·rw [if_neg h, Sum.elim_inr, decide_eq_false (fun h' => h h'.2)]
theorem impl_bv {xs : List Int} (hx : xs.length ≤ 1000000000) : impl_BytesValid xs = some (decide (xs.length ≤ 2000 ∧ BOk xs)) := by
 have h0 : loop (impl_BytesValid_b0 xs) 0 = some (if BOk xs then .inl () else .inr ()) := by
  refine loop_scanD (N := xs.length) (p := fun k => 0 ≤ xs.getD k 0 ∧ xs.getD k 0 ≤ 255) Iff.rfl (fun k : Nat => (k : Int)) _ _ rfl ?_
  intro k hk
  simp only [impl_BytesValid_b0, Int.toNat_natCast]
  by_cases h : k < xs.length
  ·rw [if_pos (by simpa using h), if_pos h, chk_pos (by omega)]
   by_cases hp : 0 ≤ xs.getD k 0 ∧ xs.getD k 0 ≤ 255
   ·rw [if_pos hp, if_neg (by simp only [Bool.or_eq_true, decide_eq_true_eq]; omega), chk_pos (by omega)]; rfl
   ·rw [if_neg hp, if_pos (by simp only [Bool.or_eq_true, decide_eq_true_eq]; omega)]
  ·rw [if_neg (by simpa using h), if_neg h]
 unfold impl_BytesValid
 by_cases hl : xs.length ≤ 2000
 ·rw [if_neg (by simp only [decide_eq_true_eq]; omega), h0, Option.bind_some]
  by_cases h : BOk xs
  ·rw [if_pos h, decide_eq_true ⟨hl, h⟩]; rfl
  ·rw [if_neg h, decide_eq_false (fun h' => h h'.2)]; rfl
 ·rw [if_pos (by simp only [decide_eq_true_eq]; omega), decide_eq_false (fun h' => hl h'.1)]
def DV (s f : List Int) : Prop := s.length + f.length ≤ 2000 ∧ BOk s ∧ BOk f
instance (s f : List Int) : Decidable (DV s f) := by unfold DV; infer_instance
theorem impl_dv {s f : List Int} (hs : s.length ≤ 1000000000) (hf : f.length ≤ 1000000000) : impl_DiskValid s f = some (decide (DV s f)) := by
 unfold impl_DiskValid
 rw [impl_bv hs, Option.bind_some]
 by_cases h1 : s.length ≤ 2000 ∧ BOk s
 ·rw [decide_eq_true h1, if_pos rfl, impl_bv hf, Option.bind_some, chk_pos (by intro _; omega)]
  congr 1
  rw [Bool.eq_iff_iff]
  simp only [Bool.true_and, Bool.and_eq_true, decide_eq_true_eq]
  unfold DV
  constructor
  ·intro h; exact ⟨by omega, h1.2, h.1.2⟩
  ·intro h; exact ⟨⟨by omega, h.2.2⟩, by omega⟩
 ·rw [decide_eq_false h1, if_neg (by simp), Option.bind_some, chk_pos (by intro h; simp at h), decide_eq_false (p := DV s f) (fun h => h1 ⟨by have := h.1; omega, h.2.1⟩)]; rfl
theorem spec_dv {s f : List Int} (hs : s.length ≤ 1000000000) (hf : f.length ≤ 1000000000) : spec_DiskValid s f = some (decide (DV s f)) := by
 have hl : ((([] : List Int) ++ s) ++ f).length = s.length + f.length := by simp
 unfold spec_DiskValid
 by_cases h1 : s.length ≤ 2000
 ·rw [if_pos (by simp only [decide_eq_true_eq]; omega)]
  by_cases h2 : f.length ≤ 2000
  ·rw [if_pos (by simp only [decide_eq_true_eq]; omega), chk_pos (by omega), chk_pos (by simp; omega), spec_bv (by omega), Option.bind_some, hl, List.nil_append]
   congr 1
   rw [Bool.eq_iff_iff, decide_eq_true_eq, decide_eq_true_eq, bok_app]; rfl
  ·rw [if_neg (by simp only [decide_eq_true_eq]; omega), decide_eq_false (fun h => h2 (by have := h.1; omega))]
 ·rw [if_neg (by simp only [decide_eq_true_eq]; omega), decide_eq_false (fun h => h1 (by have := h.1; omega))]
def encN (a : Int) : List Int := if a < 0 ∨ 1000000 < a then [] else if a < 128 then [a] else if a < 16384 then [a % 128 + 128, a / 128] else [a % 128 + 128, a / 128 % 128 + 128, a / 128 / 128]
theorem enc_b0 : spec_EncodeNumber_b0 = impl_EncodeNumber_b0 := by
 funext ⟨a, l⟩
 simp only [spec_EncodeNumber_b0, impl_EncodeNumber_b0]
 by_cases h : 128 ≤ a
 ·rw [if_pos (by simp only [decide_eq_true_eq]; omega), if_pos (by simpa using h)]
 ·rw [if_neg (by simp only [decide_eq_true_eq]; omega), if_neg (by simpa using h)]
theorem spec_enc (a : Int) : spec_EncodeNumber a = impl_EncodeNumber a := by
 unfold spec_EncodeNumber impl_EncodeNumber
 rw [enc_b0]
 by_cases h : a < 0 ∨ 1000000 < a
 ·rw [if_pos (by simp only [go_sem]; omega), if_pos (by simp only [go_sem]; omega)]
 ·rw [if_neg (by simp only [go_sem]; omega), if_neg (by simp only [go_sem]; omega)]
theorem enc_step {a : Int} {l : List Int} (h : 0 ≤ a ∧ a ≤ 1000000) (hl : l.length ≤ 10) : impl_EncodeNumber_b0 (a, l) = if 128 ≤ a then some (.inl (a / 128, l ++ [a % 128 + 128])) else some (.inr (a, l)) := by
 simp only [impl_EncodeNumber_b0]
 by_cases h2 : 128 ≤ a
 ·rw [if_pos (by simpa using h2), if_pos h2, chk_pos (by omega), chk_pos (by omega), chk_pos (by omega), chk_pos (by omega)]
 ·rw [if_neg (by simpa using h2), if_neg h2]
theorem impl_enc (a : Int) : impl_EncodeNumber a = some (encN a) := by
 unfold impl_EncodeNumber encN
 by_cases h : a < 0 ∨ 1000000 < a
 ·rw [if_pos (by simp only [go_sem]; omega), if_pos h]
 ·rw [if_neg (by simp only [go_sem]; omega), if_neg h]
  have hr : 0 ≤ a ∧ a ≤ 1000000 := by omega
  by_cases h1 : a < 128
  ·rw [if_pos h1, loop_eq, enc_step hr (by simp), if_neg (by omega)]
   simp [chk]
  ·rw [if_neg h1, loop_eq, enc_step hr (by simp), if_pos (by omega)]
   dsimp only
   by_cases h2 : a < 16384
   ·rw [if_pos h2, loop_eq, enc_step (by omega) (by simp), if_neg (by omega)]
    simp [chk]
   ·rw [if_neg h2, loop_eq, enc_step (by omega) (by simp), if_pos (by omega)]
    dsimp only
    rw [loop_eq, enc_step (by omega) (by simp), if_neg (by omega)]
    simp [chk]
theorem spec_enc' (a : Int) : spec_EncodeNumber a = some (encN a) := (spec_enc a).trans (impl_enc a)
theorem encN_len (a : Int) : (encN a).length ≤ 3 := by
 unfold encN; repeat' split
 all_goals simp
theorem encN_pos {a : Int} (h : 0 ≤ a ∧ a ≤ 1000000) : 1 ≤ (encN a).length := by
 unfold encN; rw [if_neg (by omega)]; repeat' split
 all_goals simp
theorem encN_b (a : Int) : BOk (encN a) := by
 rw [bok_iff]; unfold encN; repeat' split
 all_goals simp only [List.mem_cons, List.not_mem_nil, or_false, false_or, forall_eq_or_imp, forall_eq, false_imp_iff, implies_true]
 all_goals (try omega)
def tagB (t : Int) (xs : List Int) : List Int := t :: xs.flatMap encN
theorem flat_len (xs : List Int) : (xs.flatMap encN).length ≤ 3 * xs.length := by
 induction xs with
 | nil => simp
 | cons x xs ih => simp only [List.flatMap_cons, List.length_append, List.length_cons]; have := encN_len x; omega
theorem tagB_len (t : Int) (xs : List Int) : (tagB t xs).length ≤ 1 + 3 * xs.length := by
 unfold tagB; simp only [List.length_cons]; have := flat_len xs; omega
theorem taggedBody_eq (t : Int) {xs : List Int} (hx : xs.length ≤ 10) : impl_taggedBody t xs = some (tagB t xs) := by
 unfold impl_taggedBody
 rw [loop_for (N := xs.length) (fun k : Nat => ((k : Int), t :: (xs.take k).flatMap encN)) (tagB t xs) (by simp)]
 ·rfl
 ·intro k hk
  simp only [impl_taggedBody_b0, impl_numberWriter_put, Int.toNat_natCast]
  by_cases h : k < xs.length
  ·have hl : (List.flatMap encN (xs.take k)).length ≤ 3 * k := by have := flat_len (xs.take k); simp only [List.length_take] at this; omega
   rw [if_pos (by simpa using h), if_pos h, chk_pos (by omega), impl_enc, Option.bind_some, chk_pos (by simp only [List.length_cons]; have := encN_len (xs.getD k 0); omega), Option.bind_some, chk_pos (by omega)]
   congr 2
   refine Prod.ext (by simp only; omega) ?_
   rw [takeS h, List.flatMap_append, List.flatMap_cons, List.flatMap_nil, List.append_nil, List.cons_append]
  ·rw [if_neg (by simpa using h), if_neg h, show k = xs.length from by omega]
   simp [tagB]
theorem start_eq (r : Int) (vs : List Int) (gs : List Bool) (ms : List Mg) : spec_l18Start r vs gs ms = some (tagB 1 [r, (vs.length : Int), (ms.length : Int)]) := by
 unfold spec_l18Start
 have h1 := encN_len r; have h2 := encN_len (vs.length : Int); have h3 := encN_len (ms.length : Int)
 rw [spec_enc', Option.bind_some, chk_pos (by omega), spec_enc', Option.bind_some, chk_pos (by simp; omega), spec_enc', Option.bind_some, chk_pos (by simp; omega)]
 simp [tagB]
theorem edgeBody_eq {a b c : Int} (ha : 0 ≤ a ∧ a ≤ 1000000) (hb : 0 ≤ b ∧ b ≤ 1000000) (hc : 0 ≤ c ∧ c ≤ 1000000) : spec_EdgeBody a b c = some (encN a ++ encN b ++ encN c) := by
 unfold spec_EdgeBody
 have h1 := encN_len a; have h2 := encN_len b; have h3 := encN_len c
 have p1 := encN_pos ha; have p2 := encN_pos hb; have p3 := encN_pos hc
 rw [spec_enc', Option.bind_some, spec_enc', Option.bind_some, spec_enc', Option.bind_some, if_neg (by simp only [go_sem]; omega), chk_pos (by omega), chk_pos (by simp; omega)]
def csum (xs : List Int) : Int := xs.foldl (fun a x => (31 * a + x + 1) % 251) 7
theorem csum_take {xs : List Int} {k : Nat} (h : k < xs.length) : csum (xs.take (k + 1)) = (31 * csum (xs.take k) + xs.getD k 0 + 1) % 251 := by
 unfold csum
 rw [takeS h, List.foldl_append]; rfl
theorem csum_b (xs : List Int) : 0 ≤ csum xs ∧ csum xs ≤ 250 := by
 unfold csum
 have key : ∀ (l : List Int) (a : Int), 0 ≤ a ∧ a ≤ 250 → 0 ≤ l.foldl (fun a x => (31 * a + x + 1) % 251) a ∧ l.foldl (fun a x => (31 * a + x + 1) % 251) a ≤ 250 := by
  intro l
  induction l with
  | nil => intro a h; exact h
  | cons x l ih => intro a h; exact ih ((31 * a + x + 1) % 251) (by omega)
 exact key xs 7 (by omega)
theorem spec_csum {xs : List Int} (hx : xs.length ≤ 2000) (hb : BOk xs) : spec_CheckSum xs = some (csum xs) := by
 unfold spec_CheckSum
 rw [spec_bv (by omega), Option.bind_some, if_neg (by simp [hx, hb]), loop_for (N := xs.length) (fun k : Nat => (csum (xs.take k), (k : Int))) (csum xs) (by simp [csum])]
 ·rfl
 ·intro k hk
  simp only [spec_CheckSum_b0, Int.toNat_natCast]
  by_cases h : k < xs.length
  ·have h1 := hb k h
   have h2 := csum_b (xs.take k)
   rw [if_pos (by simpa using h), if_pos h, chk_pos (by omega), chk_pos (by omega), chk_pos (by omega), chk_pos (by omega), chk_pos (by omega), chk_pos (by omega), csum_take h]
   rfl
  ·rw [if_neg (by simpa using h), if_neg h, show k = xs.length from by omega, List.take_length]
theorem impl_csum {xs : List Int} (hx : xs.length ≤ 2000) (hb : BOk xs) : impl_CheckSum xs = some (csum xs) := by
 unfold impl_CheckSum
 rw [impl_bv (by omega), Option.bind_some, if_neg (by simp [hx, hb]), loop_for (N := xs.length) (fun k : Nat => (csum (xs.take k), (k : Int))) (csum xs) (by simp [csum])]
 ·rfl
 ·intro k hk
  simp only [impl_CheckSum_b0, Int.toNat_natCast]
  by_cases h : k < xs.length
  ·have h1 := hb k h
   have h2 := csum_b (xs.take k)
   rw [if_pos (by simpa using h), if_pos h, chk_pos (by omega), chk_pos (by omega), chk_pos (by omega), chk_pos (by omega), chk_pos (by omega), chk_pos (by omega), csum_take h]
   rfl
  ·rw [if_neg (by simpa using h), if_neg h, show k = xs.length from by omega, List.take_length]
def frameB (b : List Int) : List Int := if BOk b ∧ 1 ≤ b.length ∧ b.length ≤ 100 then (b.length : Int) :: b ++ [csum b] else []
theorem frameB_len (b : List Int) : (frameB b).length ≤ 102 := by
 unfold frameB; split
 ·simp; omega
 ·simp
theorem frameB_b (b : List Int) : BOk (frameB b) := by
 rw [bok_iff]; unfold frameB; split
 ·rename_i h
  have h1 := bok_iff.1 h.1
  have h2 := csum_b b
  intro x hx
  simp only [List.cons_append, List.mem_cons, List.mem_append, List.not_mem_nil, or_false] at hx
  rcases hx with rfl | hx | rfl
  ·omega
  ·exact h1 x hx
  ·omega
 ·simp
theorem spec_frame {b : List Int} (hb : b.length ≤ 1000000000) : spec_FrameOf b = some (frameB b) := by
 unfold spec_FrameOf frameB
 rw [spec_bv hb, Option.bind_some]
 by_cases h : BOk b ∧ 1 ≤ b.length ∧ b.length ≤ 100
 ·rw [if_neg (by simp only [go_sem]; exact fun h' => h'.elim (fun h'' => h'' ⟨by omega, h.1⟩) (fun h'' => by omega)), if_pos h, chk_pos (by omega), spec_csum (by omega) h.1, Option.bind_some, chk_pos (by simp; omega)]
  simp
 ·rw [if_neg h, if_pos]
  simp only [go_sem]
  by_cases h1 : BOk b
  ·right
   have : ¬ (1 ≤ b.length ∧ b.length ≤ 100) := fun h2 => h ⟨h1, h2⟩
   omega
  ·left; exact fun h' => h1 h'.2
theorem impl_frame {b : List Int} (hb : b.length ≤ 1000000000) : impl_FrameOf b = some (frameB b) := by
 have hv : impl_bodyValid b = some (decide (BOk b ∧ 1 ≤ b.length ∧ b.length ≤ 100)) := by
  unfold impl_bodyValid
  by_cases h : 1 ≤ b.length ∧ b.length ≤ 100
  ·have e : (decide (1 ≤ (b.length : Int)) && decide ((b.length : Int) ≤ 100)) = true := by simp; omega
   rw [if_pos e, impl_bv hb, Option.bind_some, e, Bool.true_and]
   congr 1
   rw [Bool.eq_iff_iff, decide_eq_true_eq, decide_eq_true_eq]
   exact ⟨fun h1 => ⟨h1.2, h⟩, fun h1 => ⟨by omega, h1.1⟩⟩
  ·have e : (decide (1 ≤ (b.length : Int)) && decide ((b.length : Int) ≤ 100)) = false := by
    rw [Bool.and_eq_false_iff]; simp only [decide_eq_false_iff_not]; omega
   rw [if_neg (by simp [e]), Option.bind_some, e, decide_eq_false (fun h1 => h h1.2)]; rfl
 unfold impl_FrameOf frameB
 rw [hv, Option.bind_some]
 by_cases h : BOk b ∧ 1 ≤ b.length ∧ b.length ≤ 100
 ·rw [if_neg (by simp [h]), if_pos h, chk_pos (by omega), chk_pos (by omega), chk_pos (by simp), chk_pos (by simp; omega), impl_csum (by omega) h.1, Option.bind_some, chk_pos (by simp; omega)]
  simp
 ·rw [if_neg h, if_pos (by simp only [go_sem]; exact h)]
theorem concat2 {x y : List Int} (hx : x.length ≤ 1000000000) (hy : y.length ≤ 1000000000) : slices_Concat_int_int [x, y] = some (x ++ y) := by
 unfold slices_Concat_int_int
 have g0 : ([x, y] : List (List Int)).getD 0 [] = x := rfl
 have g1 : ([x, y] : List (List Int)).getD 1 [] = y := rfl
 have hl : ([x, y] : List (List Int)).length = 2 := rfl
 have h1 : loop (slices_Concat_int_int_b0 [x, y]) (0, 0) = some ((x.length : Int) + y.length) := by
  rw [loop_eq]; simp only [slices_Concat_int_int_b0, Int.toNat_zero, g0, hl]
  rw [if_pos (by simp), chk_pos (by omega), chk_pos (by omega), chk_pos (by omega), if_neg (by simp only [decide_eq_true_eq]; omega), chk_pos (by omega)]
  dsimp only
  rw [loop_eq]; simp only [slices_Concat_int_int_b0, Int.zero_add, Int.toNat_one, g1, hl]
  rw [if_pos (by simp), chk_pos (by omega), chk_pos (by omega), chk_pos (by omega), if_neg (by simp only [decide_eq_true_eq]; omega), chk_pos (by omega)]
  dsimp only
  rw [loop_eq]; simp only [slices_Concat_int_int_b0, hl]
  rw [if_neg (by simp)]
 have h2 : loop (slices_Concat_int_int_b1 [x, y]) (0, []) = some (x ++ y) := by
  rw [loop_eq]; simp only [slices_Concat_int_int_b1, Int.toNat_zero, g0, hl, List.nil_append, List.length_nil]
  rw [if_pos (by simp), chk_pos (by omega), chk_pos (by omega), chk_pos (by omega), chk_pos (by omega)]
  dsimp only
  rw [loop_eq]; simp only [slices_Concat_int_int_b1, Int.zero_add, Int.toNat_one, g1, hl]
  rw [if_pos (by simp), chk_pos (by omega), chk_pos (by omega), chk_pos (by omega), chk_pos (by omega)]
  dsimp only
  rw [loop_eq]; simp only [slices_Concat_int_int_b1, hl]
  rw [if_neg (by simp)]
 rw [h1, Option.bind_some, slices_Grow_int_int, chk_pos (by omega), Option.bind_some, h2, Option.bind_some]
end Go.Proofs.YteoedigfnfjopaaGreat
