import Derived.Test.YteoedigfnfjopaaGreatNv
set_option linter.unusedSimpArgs false
set_option linter.unusedVariables false
namespace Go.Proofs.YteoedigfnfjopaaGreat
open Go Go.Av
theorem getD_pre {α : Type} {d : α} (pre : List α) (x : α) (rest : List α) : (pre ++ x :: rest).getD pre.length d = x := by
 rw [List.getD_eq_getElem?_getD, List.getElem?_append_right (Nat.le_refl _), Nat.sub_self]; rfl
theorem getD_at {α : Type} {d : α} (pre l rest : List α) {j : Nat} (h : j < l.length) : (pre ++ l ++ rest).getD (pre.length + j) d = l.getD j d := by
 rw [List.getD_eq_getElem?_getD, List.getD_eq_getElem?_getD, List.append_assoc, List.getElem?_append_right (by omega), Nat.add_sub_cancel_left, List.getElem?_append_left h]
theorem next_hit {x : List Int} {p : Nat} (hp : p < x.length) (hx : x.length ≤ 1000000000) : impl_byteReader_next x (p : Int) = some (x.getD p 0, true, (p : Int) + 1) := by
 unfold impl_byteReader_next
 rw [if_neg (by simp; omega), chk_pos (by omega), chk_pos (by omega), Int.toNat_natCast]
theorem num_more {x : List Int} {p : Nat} {acc m d : Int} {k : Nat} (hp : p < x.length) (hx : x.length ≤ 1000000000) (hd : x.getD p 0 = d + 128) (h0 : 0 ≤ d ∧ d < 128) (hk : k < 3) (ha : 0 ≤ acc ∧ acc ≤ 100000000) (hm : 0 ≤ m ∧ m ≤ 20000) :
 loop (impl_byteReader_number_b0 x) (acc, m, (k : Int), (p : Int)) = loop (impl_byteReader_number_b0 x) (acc + d * m, m * 128, ((k + 1 : Nat) : Int), ((p + 1 : Nat) : Int)) := by
 have hdm : 0 ≤ d * m ∧ d * m ≤ 127 * m := ⟨Int.mul_nonneg h0.1 hm.1, Int.mul_le_mul_of_nonneg_right (by omega) hm.1⟩
 rw [loop_eq]
 simp only [impl_byteReader_number_b0, join]
 rw [if_pos (by simp; omega), next_hit hp hx, Option.bind_some, hd]
 dsimp only
 rw [if_neg (by simp), if_pos (by simp; omega), show d + 128 - 128 = d by omega, chk_pos (by omega), chk_pos (by omega), chk_pos (by omega), chk_pos (by omega), chk_pos (by omega)]
 rfl
theorem num_last {x : List Int} {p : Nat} {acc m d : Int} {k : Nat} (hp : p < x.length) (hx : x.length ≤ 1000000000) (hd : x.getD p 0 = d) (h0 : 0 ≤ d ∧ d < 128) (hk : k < 3) (hz : d = 0 → k = 0) (ha : 0 ≤ acc ∧ acc ≤ 100000000) (hm : 0 ≤ m ∧ m ≤ 20000) (hle : acc + d * m ≤ 1000000) :
 loop (impl_byteReader_number_b0 x) (acc, m, (k : Int), (p : Int)) = some (.inr (acc + d * m, true, ((p + 1 : Nat) : Int))) := by
 have hdm : 0 ≤ d * m ∧ d * m ≤ 127 * m := ⟨Int.mul_nonneg h0.1 hm.1, Int.mul_le_mul_of_nonneg_right (by omega) hm.1⟩
 rw [loop_eq]
 simp only [impl_byteReader_number_b0, join]
 rw [if_pos (by simp; omega), next_hit hp hx, Option.bind_some, hd]
 dsimp only
 rw [if_neg (by simp), if_neg (by simp; omega), if_neg (by simp only [Bool.and_eq_true, beq_iff_eq, decide_eq_true_eq]; rintro ⟨h1, h2⟩; have := hz h1; omega), chk_pos (by omega), chk_pos (by omega), decide_eq_true hle]
 rfl
theorem number_eq {a : Int} (pre rest : List Int) (ha : 0 ≤ a ∧ a ≤ 1000000) (hx : (pre ++ encN a ++ rest).length ≤ 1000000000) :
 impl_byteReader_number (pre ++ encN a ++ rest) (pre.length : Int) = some (a, true, ((pre.length + (encN a).length : Nat) : Int)) := by
 have key : loop (impl_byteReader_number_b0 (pre ++ encN a ++ rest)) (0, 1, 0, (pre.length : Int)) = some (.inr (a, true, ((pre.length + (encN a).length : Nat) : Int))) := by
  unfold encN at hx ⊢
  rw [if_neg (by omega)] at hx ⊢
  by_cases h1 : a < 128
  ·rw [if_pos h1] at hx ⊢
   have g : (pre ++ [a] ++ rest).getD pre.length 0 = a := by rw [List.append_assoc]; exact getD_pre pre a rest
   have e := num_last (acc := 0) (m := 1) (k := 0) (p := pre.length) (by simp only [List.length_append, List.length_cons, List.length_nil]; omega) hx g (by omega) (by omega) (by omega) (by omega) (by omega) (by omega)
   rw [show ((0 : Nat) : Int) = 0 from rfl] at e
   rw [e]
   simp
  ·rw [if_neg h1] at hx ⊢
   by_cases h2 : a < 16384
   ·rw [if_pos h2] at hx ⊢
    have g0 : (pre ++ [a % 128 + 128, a / 128] ++ rest).getD pre.length 0 = a % 128 + 128 := by rw [List.append_assoc]; exact getD_pre pre _ _
    have g1 : (pre ++ [a % 128 + 128, a / 128] ++ rest).getD (pre.length + 1) 0 = a / 128 := by
     exact getD_at (d := 0) pre [a % 128 + 128, a / 128] rest (j := 1) (by simp)
    have e := num_more (acc := 0) (m := 1) (k := 0) (p := pre.length) (by simp only [List.length_append, List.length_cons, List.length_nil]; omega) hx g0 (by omega) (by omega) (by omega) (by omega)
    rw [show ((0 : Nat) : Int) = 0 from rfl] at e
    rw [e, num_last (p := pre.length + 1) (by simp only [List.length_append, List.length_cons, List.length_nil]; omega) hx g1 (by omega) (by omega) (by omega) (by omega) (by omega) (by omega)]
    simp only [List.length_cons, List.length_nil]
    congr 3
    omega
   ·rw [if_neg h2] at hx ⊢
    have g0 : (pre ++ [a % 128 + 128, a / 128 % 128 + 128, a / 128 / 128] ++ rest).getD pre.length 0 = a % 128 + 128 := by rw [List.append_assoc]; exact getD_pre pre _ _
    have g1 : (pre ++ [a % 128 + 128, a / 128 % 128 + 128, a / 128 / 128] ++ rest).getD (pre.length + 1) 0 = a / 128 % 128 + 128 := by
     exact getD_at (d := 0) pre [a % 128 + 128, a / 128 % 128 + 128, a / 128 / 128] rest (j := 1) (by simp)
    have g2 : (pre ++ [a % 128 + 128, a / 128 % 128 + 128, a / 128 / 128] ++ rest).getD (pre.length + 1 + 1) 0 = a / 128 / 128 := by
     exact getD_at (d := 0) pre [a % 128 + 128, a / 128 % 128 + 128, a / 128 / 128] rest (j := 2) (by simp)
    have e := num_more (acc := 0) (m := 1) (k := 0) (p := pre.length) (by simp only [List.length_append, List.length_cons, List.length_nil]; omega) hx g0 (by omega) (by omega) (by omega) (by omega)
    rw [show ((0 : Nat) : Int) = 0 from rfl] at e
    rw [e, num_more (p := pre.length + 1) (by simp only [List.length_append, List.length_cons, List.length_nil]; omega) hx g1 (by omega) (by omega) (by omega) (by omega), num_last (p := pre.length + 1 + 1) (by simp only [List.length_append, List.length_cons, List.length_nil]; omega) hx g2 (by omega) (by omega) (by omega) (by omega) (by omega) (by omega)]
    simp only [List.length_cons, List.length_nil]
    congr 3
    omega
 unfold impl_byteReader_number
 rw [key]; rfl
theorem bodyValid_eq {b : List Int} (hb : b.length ≤ 1000000000) : impl_bodyValid b = some (decide (RecOk b)) := by
 unfold impl_bodyValid
 by_cases h : 1 ≤ b.length ∧ b.length ≤ 100
 ·have e : (decide (1 ≤ (b.length : Int)) && decide ((b.length : Int) ≤ 100)) = true := by simp; omega
  rw [if_pos e, impl_bv hb, Option.bind_some, e, Bool.true_and]
  congr 1
  rw [Bool.eq_iff_iff, decide_eq_true_eq, decide_eq_true_eq]
  exact ⟨fun h1 => ⟨h1.2, h⟩, fun h1 => ⟨by omega, h1.1⟩⟩
 ·have e : (decide (1 ≤ (b.length : Int)) && decide ((b.length : Int) ≤ 100)) = false := by
   rw [Bool.and_eq_false_iff]; simp only [decide_eq_false_iff_not]; omega
  rw [if_neg (by simp [e]), Option.bind_some, e, decide_eq_false (fun h1 : RecOk b => h h1.2)]; rfl
theorem numbersBehind_eq {t : Int} {xs : List Int} (hx : ∀ x ∈ xs, 0 ≤ x ∧ x ≤ 1000000) (hr : RecOk (tagB t xs)) : impl_numbersBehind (tagB t xs) t (xs.length : Int) = some (xs, true) := by
 have hl := hr.2.2
 have hxl : xs.length ≤ 100 := by
  have : ∀ ys : List Int, (∀ x ∈ ys, 0 ≤ x ∧ x ≤ 1000000) → ys.length ≤ (ys.flatMap encN).length := fun ys hy => by
   induction ys with
   | nil => simp
   | cons y ys ih =>
     have h1 := encN_pos (hy y (List.mem_cons_self ..))
     have h2 := ih (fun x hx => hy x (List.mem_cons_of_mem _ hx))
     simp only [List.flatMap_cons, List.length_append, List.length_cons]; omega
  have h1 := this xs hx
  unfold tagB at hl
  simp only [List.length_cons] at hl
  omega
 unfold impl_numbersBehind
 rw [bodyValid_eq (by omega), Option.bind_some, decide_eq_true hr, chk_pos (by intro _; unfold tagB; simp), if_neg (by simp [tagB]), chk_pos (by omega)]
 have key : loop (impl_numbersBehind_b0 (tagB t xs) (xs.length : Int)) (0, 1, List.replicate (xs.length : Int).toNat 0) = some (.inl (((tagB t xs).length : Int), xs)) := by
  refine loop_for (N := xs.length) (fun k : Nat => ((k : Int), ((1 + ((xs.take k).flatMap encN).length : Nat) : Int), xs.take k ++ List.replicate (xs.length - k) 0)) _ (by simp) ?_
  intro k hk
  simp only [impl_numbersBehind_b0, List.length_replicate, Int.toNat_natCast]
  by_cases h : k < xs.length
  ·have hv := hx _ (getD_mem h 0)
   have e1 : tagB t xs = (t :: (xs.take k).flatMap encN) ++ encN (xs.getD k 0) ++ (xs.drop (k + 1)).flatMap encN := by
    unfold tagB
    have : xs = xs.take k ++ (xs.getD k 0 :: xs.drop (k + 1)) := by
     have h2 := List.take_append_drop k xs
     rw [List.drop_eq_getElem_cons h] at h2
     rw [List.getD_eq_getElem?_getD, List.getElem?_eq_getElem h]
     exact h2.symm
    conv => lhs; rw [this]
    simp only [List.flatMap_append, List.flatMap_cons, List.cons_append, List.append_assoc]
   have e2 := number_eq (t :: (xs.take k).flatMap encN) ((xs.drop (k + 1)).flatMap encN) hv (by rw [← e1]; omega)
   rw [← e1] at e2
   simp only [List.length_cons] at e2
   rw [show 1 + ((xs.take k).flatMap encN).length = ((xs.take k).flatMap encN).length + 1 from Nat.add_comm ..]
   rw [if_pos (by simp; omega), if_pos h, e2, Option.bind_some]
   dsimp only
   rw [if_neg (by simp), chk_pos (by simp only [List.length_append, List.length_take, List.length_replicate]; omega), chk_pos (by omega)]
   congr 2
   refine Prod.ext (by simp only; omega) (Prod.ext ?_ ?_)
   ·simp only
    rw [takeS h, List.flatMap_append, List.length_append, List.flatMap_cons, List.flatMap_nil, List.append_nil]
    omega
   ·simp only
    have hlk : (xs.take k).length = k := by rw [List.length_take]; omega
    rw [List.set_append_right _ _ (by omega), hlk, Nat.sub_self, show xs.length - k = (xs.length - (k + 1)) + 1 by omega, List.replicate_succ, List.set_cons_zero, takeS h, List.append_assoc]
    rfl
  ·rw [if_neg (by simp; omega), if_neg h, show k = xs.length from by omega, List.take_length, Nat.sub_self]
   simp [tagB]
   omega
 rw [key, Option.bind_some, Sum.elim_inl]
 dsimp only
 unfold impl_byteReader_done
 rw [Option.bind_some]
 simp
theorem numbersBehind_not {b : List Int} {t n : Int} (hb : b.length ≤ 1000000000) (h : b.getD 0 0 ≠ t) : impl_numbersBehind b t n = some ([], false) := by
 unfold impl_numbersBehind
 rw [bodyValid_eq hb, Option.bind_some]
 by_cases hr : RecOk b
 ·have := hr.2.1
  rw [decide_eq_true hr, chk_pos (by intro _; omega), if_pos (by simp only [Bool.not_true, Bool.false_or, bne_iff_ne]; exact h)]
 ·rw [decide_eq_false hr, chk_pos (by intro h; simp at h), if_pos (by simp)]
theorem vB_tag {vs : List Int} {gs : List Bool} {k : Nat} : vB vs gs k = tagB 2 [vs.getD k 0 + 1, if gs.getD k false then 1 else 0] := by
 unfold vB tagB
 simp only [List.flatMap_cons, List.flatMap_nil, List.append_nil, List.cons_append]
 congr 2
 split <;> simp [encN]
theorem bodies_mem {r : Int} {vs : List Int} {gs : List Bool} {ms : List Mg} : tagB 1 [r, (vs.length : Int), (ms.length : Int)] ∈ bodies r vs gs ms ∧ (∀ k, k < vs.length → vB vs gs k ∈ bodies r vs gs ms) ∧ (∀ k, k < ms.length → mB ms k ∈ bodies r vs gs ms) ∧ [4] ∈ bodies r vs gs ms := by
 unfold bodies
 simp only [List.mem_cons, List.mem_append, List.mem_map, List.mem_range, List.not_mem_nil, or_false]
 exact ⟨.inl trivial, fun k hk => .inr (.inl ⟨k, hk, rfl⟩), fun k hk => .inr (.inr (.inl ⟨k, hk, rfl⟩)), .inr (.inr (.inr trivial))⟩
theorem getD_rmap {α : Type} {d : α} (f : Nat → α) {n k : Nat} (h : k < n) : ((List.range n).map f).getD k d = f k := by
 rw [List.getD_eq_getElem?_getD, List.getElem?_map, List.getElem?_range h]; rfl
theorem takeB {xs : List Bool} {k : Nat} (h : k < xs.length) : xs.take (k + 1) = xs.take k ++ [xs.getD k false] := by
 rw [List.take_add_one, List.getElem?_eq_getElem h, List.getD_eq_getElem?_getD, List.getElem?_eq_getElem h]; rfl
theorem takeM {xs : List Mg} {k : Nat} (h : k < xs.length) : xs.take (k + 1) = xs.take k ++ [xs.getD k (0, 0, 0)] := by
 rw [List.take_add_one, List.getElem?_eq_getElem h, List.getD_eq_getElem?_getD, List.getElem?_eq_getElem h]; rfl
theorem readValues_eq {r : Int} {vs : List Int} {gs : List Bool} {ms : List Mg} (h : StOk r vs gs ms vs.length) (x : Int) (l : List Mg) : impl_State_readValues x [] [] l ((List.range vs.length).map (vB vs gs)) = some (true, vs, gs) := by
 have hb := bodies_mem (r := r) (vs := vs) (gs := gs) (ms := ms)
 obtain ⟨a1, a2, a3, a4, a5, a6, a7, a8, a9⟩ := h
 unfold impl_State_readValues
 have key : loop (impl_State_readValues_b0 ((List.range vs.length).map (vB vs gs))) (0, [], []) = some (.inl (vs, gs)) := by
  refine loop_for (N := vs.length) (fun k : Nat => ((k : Int), vs.take k, gs.take k)) _ (by simp) ?_
  intro k hk
  simp only [impl_State_readValues_b0, List.length_map, List.length_range, Int.toNat_natCast]
  by_cases h : k < vs.length
  ·have hv := a8 k h
   have e := numbersBehind_eq (t := 2) (xs := [vs.getD k 0 + 1, if gs.getD k false then 1 else 0]) (by
    intro y hy
    simp only [List.mem_cons, List.not_mem_nil, or_false] at hy
    rcases hy with rfl | rfl
    ·omega
    ·split <;> omega) (by rw [← vB_tag]; exact bodies_ok (hb.2.1 k h))
   rw [← vB_tag] at e
   simp only [List.length_cons, List.length_nil] at e
   rw [if_pos (by simp; omega), if_pos h, chk_pos (by omega), chk_pos (by omega), getD_rmap _ h, show (2 : Int) = ((0 + 1 + 1 : Nat) : Int) from rfl]
   rw [show ((0 + 1 + 1 : Nat) : Int) = 2 from rfl] at e ⊢
   rw [e, Option.bind_some]
   dsimp only
   rw [chk_pos (by intro _; simp), if_neg (by simp only [Bool.not_true, Bool.false_or, decide_eq_true_eq, List.getD_cons_succ, List.getD_cons_zero]; split <;> omega), chk_pos (by simp), chk_pos (by simp only [List.getD_cons_zero]; omega), chk_pos (by simp only [List.length_take]; omega), chk_pos (by simp), chk_pos (by simp only [List.length_take]; omega), chk_pos (by omega)]
   congr 2
   refine Prod.ext (by simp only; omega) (Prod.ext ?_ ?_)
   ·simp only [List.getD_cons_zero]
    rw [takeS h, show vs.getD k 0 + 1 - 1 = vs.getD k 0 by omega]
   ·simp only [List.getD_cons_succ, List.getD_cons_zero]
    rw [takeB (by omega)]
    congr 2
    cases gs.getD k false <;> rfl
  ·rw [if_neg (by simp; omega), if_neg h, show k = vs.length from by omega, List.take_length, show vs.length = gs.length from by omega, List.take_length]
 rw [key]; rfl
theorem readMessages_eq {r : Int} {vs : List Int} {gs : List Bool} {ms : List Mg} (h : StOk r vs gs ms vs.length) (x : Int) (l : List Int) (l' : List Bool) : impl_State_readMessages x l l' [] ((List.range ms.length).map (mB ms)) = some (true, ms) := by
 have hb := bodies_mem (r := r) (vs := vs) (gs := gs) (ms := ms)
 obtain ⟨a1, a2, a3, a4, a5, a6, a7, a8, a9⟩ := h
 unfold impl_State_readMessages
 have key : loop (impl_State_readMessages_b0 ((List.range ms.length).map (mB ms))) (0, []) = some (.inl ms) := by
  refine loop_for (N := ms.length) (fun k : Nat => ((k : Int), ms.take k)) _ (by simp) ?_
  intro k hk
  simp only [impl_State_readMessages_b0, List.length_map, List.length_range, Int.toNat_natCast]
  by_cases h : k < ms.length
  ·have hv := a9.1 k h
   unfold MgOk at hv
   have e := numbersBehind_eq (t := 3) (xs := [(ms.getD k (0, 0, 0)).1, (ms.getD k (0, 0, 0)).2.1, (ms.getD k (0, 0, 0)).2.2]) (by
    intro y hy
    simp only [List.mem_cons, List.not_mem_nil, or_false] at hy
    rcases hy with rfl | rfl | rfl <;> omega) (bodies_ok (hb.2.2.1 k h))
   simp only [List.length_cons, List.length_nil] at e
   rw [show ((0 + 1 + 1 + 1 : Nat) : Int) = 3 from rfl] at e
   rw [if_pos (by simp; omega), if_pos h, chk_pos (by omega), chk_pos (by omega), getD_rmap _ h]
   unfold mB
   rw [e, Option.bind_some]
   dsimp only
   rw [if_neg (by simp), chk_pos (by simp), chk_pos (by simp), chk_pos (by simp), chk_pos (by simp only [List.length_take]; omega), chk_pos (by omega)]
   simp only [List.getD_cons_succ, List.getD_cons_zero]
   rw [takeM h]
   rfl
  ·rw [if_neg (by simp; omega), if_neg h, show k = ms.length from by omega, List.take_length]
 rw [key]; rfl
theorem ownValid_eq {r : Int} {vs : List Int} {gs : List Bool} {ms : List Mg} (h : StOk r vs gs ms vs.length) : impl_State_ownValid r vs gs ms = some true := by
 have := h.2.1; have := h.2.2.2.2.2.2.1
 unfold impl_State_ownValid
 rw [impl_StateValid_eq (by omega) (by omega), Option.bind_some]
 unfold sok
 simp [h]
theorem checkpointAt_eq {r : Int} {vs : List Int} {gs : List Bool} {ms : List Mg} (h : StOk r vs gs ms vs.length) : impl_checkpointAt (bodies r vs gs ms) = some (r, vs, gs, ms, true) := by
 have hb := bodies_mem (r := r) (vs := vs) (gs := gs) (ms := ms)
 have hl : (bodies r vs gs ms).length = vs.length + ms.length + 2 := bodies_long.2
 have hv := readValues_eq h
 have hm := readMessages_eq h
 have ho := ownValid_eq h
 obtain ⟨a1, a2, a3, a4, a5, a6, a7, a8, a9⟩ := h
 have e1 := numbersBehind_eq (t := 1) (xs := [r, (vs.length : Int), (ms.length : Int)]) (by
  intro y hy
  simp only [List.mem_cons, List.not_mem_nil, or_false] at hy
  rcases hy with rfl | rfl | rfl <;> omega) (bodies_ok hb.1)
 simp only [List.length_cons, List.length_nil] at e1
 rw [show ((0 + 1 + 1 + 1 : Nat) : Int) = 3 from rfl] at e1
 have e4 := numbersBehind_eq (t := 4) (xs := []) (by simp) (bodies_ok hb.2.2.2)
 rw [show tagB 4 [] = [4] from rfl, show ((([] : List Int).length : Nat) : Int) = 0 from rfl] at e4
 have g0 : (bodies r vs gs ms).getD 0 [] = tagB 1 [r, (vs.length : Int), (ms.length : Int)] := rfl
 have g1 : ((bodies r vs gs ms).take (1 + (vs.length : Int)).toNat).drop 1 = (List.range vs.length).map (vB vs gs) := by
  rw [show (1 + (vs.length : Int)).toNat = vs.length + 1 by omega]
  unfold bodies
  rw [List.take_succ_cons, List.drop_succ_cons, List.drop_zero, List.take_append_of_le_length (by simp), List.take_of_length_le (by simp)]
 have g2 : ((bodies r vs gs ms).take (1 + (vs.length : Int) + (ms.length : Int)).toNat).drop (1 + (vs.length : Int)).toNat = (List.range ms.length).map (mB ms) := by
  rw [show (1 + (vs.length : Int)).toNat = vs.length + 1 by omega, show (1 + (vs.length : Int) + (ms.length : Int)).toNat = (vs.length + ms.length) + 1 by omega]
  unfold bodies
  rw [List.take_succ_cons, List.drop_succ_cons, List.take_append, List.drop_append]
  simp
 have g3 : (bodies r vs gs ms).getD (1 + (vs.length : Int) + (ms.length : Int)).toNat [] = [4] := by
  rw [show (1 + (vs.length : Int) + (ms.length : Int)).toNat = (vs.length + ms.length) + 1 by omega]
  unfold bodies
  rw [List.getD_cons_succ, ← List.append_assoc]
  simp
 unfold impl_checkpointAt
 rw [chk_pos (by omega), chk_pos (by omega), g0, e1, Option.bind_some]
 have q0 : ([r, (vs.length : Int), (ms.length : Int)] : List Int).getD 0 0 = r := rfl
 have q1 : ([r, (vs.length : Int), (ms.length : Int)] : List Int).getD 1 0 = vs.length := rfl
 have q2 : ([r, (vs.length : Int), (ms.length : Int)] : List Int).getD 2 0 = ms.length := rfl
 dsimp only
 rw [if_neg (by simp), chk_pos (by simp), chk_pos (by simp), q0, q1, q2, chk_pos (by omega), chk_pos (by omega), if_neg (by simp only [decide_eq_true_eq]; omega), chk_pos (by simp), chk_pos (by omega), chk_pos (by omega), g1, hv, Option.bind_some]
 dsimp only
 rw [if_pos rfl, chk_pos (by omega), chk_pos (by omega), g2, hm, Option.bind_some]
 dsimp only
 rw [if_neg (by simp), chk_pos (by omega), chk_pos (by omega), chk_pos (by omega), chk_pos (by omega), g3, e4, Option.bind_some]
 dsimp only
 rw [if_pos rfl, ho, Option.bind_some, if_neg (by simp)]
theorem checkpointAt_not {b : List Int} {l : List (List Int)} (hb : b.length ≤ 1000000000) (h : b.getD 0 0 ≠ 1) : impl_checkpointAt (b :: l) = some (0, [], [], [], false) := by
 unfold impl_checkpointAt
 rw [chk_pos (by simp), chk_pos (by simp), List.getD_cons_zero, numbersBehind_not hb h, Option.bind_some]
 dsimp only
 rw [if_pos (by simp)]
theorem bodies_tail {r : Int} {vs : List Int} {gs : List Bool} {ms : List Mg} {b : List Int} (h : b ∈ (bodies r vs gs ms).drop 1) : b.getD 0 0 ≠ 1 ∧ b.length ≤ 20 := by
 refine ⟨?_, bodies_len (List.mem_of_mem_drop h)⟩
 unfold bodies at h
 rw [List.drop_succ_cons, List.drop_zero] at h
 simp only [List.mem_append, List.mem_map, List.mem_range, List.mem_singleton] at h
 rcases h with ⟨k, _, rfl⟩ | ⟨k, _, rfl⟩ | rfl
 ·unfold vB tagB; simp
 ·unfold mB tagB; simp
 ·simp
theorem LastCheckpoint_eq {r : Int} {vs : List Int} {gs : List Bool} {ms : List Mg} (h : StOk r vs gs ms vs.length) (pre : List (List Int)) (hp : (pre ++ bodies r vs gs ms).length ≤ 2000) : impl_LastCheckpoint (pre ++ bodies r vs gs ms) = some (r, vs, gs, ms, true) := by
 have hl : (bodies r vs gs ms).length = vs.length + ms.length + 2 := bodies_long.2
 have hl2 : (pre ++ bodies r vs gs ms).length = pre.length + (bodies r vs gs ms).length := List.length_append
 unfold impl_LastCheckpoint
 rw [if_neg (by simp only [decide_eq_true_eq]; omega), chk_pos (by omega)]
 have key : ∀ d : Nat, d < (bodies r vs gs ms).length → loop (impl_LastCheckpoint_b0 (pre ++ bodies r vs gs ms)) ((pre.length + d : Nat) : Int) = some (.inr (r, vs, gs, ms)) := by
  intro d
  induction d with
  | zero =>
    intro hd
    rw [loop_eq]
    simp only [impl_LastCheckpoint_b0]
    rw [if_pos (by simp), chk_pos (by omega), Int.toNat_natCast, List.take_length, Nat.add_zero, List.drop_append_of_le_length (Nat.le_refl _), List.drop_length, List.nil_append, checkpointAt_eq h, Option.bind_some]
    dsimp only
    rw [if_pos rfl]
  | succ d ih =>
    intro hd
    rw [loop_eq]
    simp only [impl_LastCheckpoint_b0]
    have e : (pre ++ bodies r vs gs ms).drop (pre.length + (d + 1)) = (bodies r vs gs ms)[d + 1] :: (bodies r vs gs ms).drop (d + 2) := by
     rw [List.drop_append, List.drop_of_length_le (by omega), List.nil_append, Nat.add_sub_cancel_left, List.drop_eq_getElem_cons hd]
    have hm : (bodies r vs gs ms)[d + 1] ∈ (bodies r vs gs ms).drop 1 := by
     rw [List.mem_drop_iff_getElem]
     exact ⟨d, by omega, by simp [Nat.add_comm]⟩
    have ht := bodies_tail hm
    rw [if_pos (by simp; omega), chk_pos (by omega), Int.toNat_natCast, List.take_length, e, checkpointAt_not (by omega) ht.1, Option.bind_some]
    dsimp only
    rw [if_neg (by simp), chk_pos (by omega), show ((pre.length + (d + 1) : Nat) : Int) - 1 = ((pre.length + d : Nat) : Int) by omega]
    exact ih (by omega)
 have k1 := key ((bodies r vs gs ms).length - 1) (by omega)
 rw [show ((pre ++ bodies r vs gs ms).length : Int) - 1 = ((pre.length + ((bodies r vs gs ms).length - 1) : Nat) : Int) by omega, k1]
 rfl
theorem frame_eq {b : List Int} (h : RecOk b) : frameB b = (b.length : Int) :: (b ++ [csum b]) := by
 unfold frameB; rw [if_pos (show BOk b ∧ 1 ≤ b.length ∧ b.length ≤ 100 from h)]; rfl
theorem frameAt_hit {b : List Int} (pre rest : List Int) (h : RecOk b) (hl : (pre ++ frameB b ++ rest).length ≤ 1000000000) :
 impl_frameAt_v5 (pre ++ frameB b ++ rest) (pre.length : Int) = some (b, ((pre.length + (frameB b).length : Nat) : Int), true) := by
 have h1 := h.2.1
 have h2 := h.2.2
 have hfl : (frameB b).length = b.length + 2 := by rw [frame_eq h]; simp
 have hxl : (pre ++ frameB b ++ rest).length = pre.length + (b.length + 2) + rest.length := by rw [List.length_append, List.length_append, hfl]
 have g0 : (pre ++ frameB b ++ rest).getD pre.length 0 = b.length := by
  have := getD_at (d := (0 : Int)) pre (frameB b) rest (j := 0) (by omega)
  rw [Nat.add_zero] at this
  rw [this, frame_eq h]; rfl
 have g1 : (pre ++ frameB b ++ rest).getD ((pre.length : Int) + 1 + b.length).toNat 0 = csum b := by
  rw [show ((pre.length : Int) + 1 + b.length).toNat = pre.length + (b.length + 1) by omega, getD_at pre (frameB b) rest (by omega), frame_eq h, List.getD_cons_succ]
  exact getD_pre b (csum b) []
 have g2 : ((pre ++ frameB b ++ rest).take ((pre.length : Int) + 1 + b.length).toNat).drop ((pre.length : Int) + 1).toNat = b := by
  rw [show ((pre.length : Int) + 1 + b.length).toNat = pre.length + (b.length + 1) by omega, show ((pre.length : Int) + 1).toNat = pre.length + 1 by omega, frame_eq h]
  simp [List.take_append, List.drop_append]
 generalize pre ++ frameB b ++ rest = x at *
 unfold impl_frameAt_v5
 rw [if_neg (by simp; omega), chk_pos (by omega)]
 rw [Int.toNat_natCast, g0, g1, g2]
 rw [chk_pos (by intro _; omega), chk_pos (by omega), if_neg (by simp; omega), chk_pos (by omega), chk_pos (by omega), chk_pos (by omega), chk_pos (by omega), chk_pos (by omega), chk_pos (by omega), impl_csum (by omega) h.1, Option.bind_some, if_neg (by simp), chk_pos (by omega), chk_pos (by omega), hfl]
 congr 2
theorem frameAt_end {x : List Int} : impl_frameAt_v5 x (x.length : Int) = some ([], 0, false) := by
 unfold impl_frameAt_v5
 rw [if_pos (by simp)]
theorem scan_loop : ∀ (l : List (List Int)) (pre : List Int) (acc : List (List Int)), (∀ b ∈ l, RecOk b) → (pre ++ l.flatMap frameB).length ≤ 2000 → acc.length + l.length ≤ 1000000 →
 loop (impl_framesOf_1_b0 (seqY impl_ScanFrames_r0) (pre ++ l.flatMap frameB)) ((pre.length : Int), (.inl (acc, (pre.length : Int)))) = some (.inl (acc ++ l, ((pre ++ l.flatMap frameB).length : Int)))
 | [], pre, acc, _, _, _ => by
   rw [loop_eq]
   simp only [impl_framesOf_1_b0, List.flatMap_nil, List.append_nil]
   rw [frameAt_end, Option.bind_some]
   simp
 | b :: l, pre, acc, hb, hx, ha => by
   have h1 := hb b (List.mem_cons_self ..)
   have e : pre ++ (b :: l).flatMap frameB = pre ++ frameB b ++ l.flatMap frameB := by rw [List.flatMap_cons, List.append_assoc]
   simp only [List.length_cons] at ha
   rw [e] at hx ⊢
   rw [loop_eq]
   simp only [impl_framesOf_1_b0]
   rw [frameAt_hit pre _ h1 (by omega), Option.bind_some]
   dsimp only
   rw [if_pos rfl]
   simp only [seqY, impl_ScanFrames_r0]
   rw [cloneI (by have := h1.2.2; omega), Option.bind_some, chk_pos (by omega), set_last, Option.map_some, Option.bind_some]
   dsimp only
   rw [if_neg (by simp)]
   dsimp only
   have ih := scan_loop l (pre ++ frameB b) (acc ++ [b]) (fun c hc => hb c (List.mem_cons_of_mem _ hc)) hx (by simp; omega)
   rw [show (pre ++ frameB b).length = pre.length + (frameB b).length from List.length_append] at ih
   rw [ih, List.append_assoc acc]
   rfl
theorem ScanFrames_eq {l : List (List Int)} (hb : ∀ b ∈ l, RecOk b) (hx : (l.flatMap frameB).length ≤ 2000) (hl : l.length ≤ 1000000) (hk : BOk (l.flatMap frameB)) : impl_ScanFrames (l.flatMap frameB) = some (l, ((l.flatMap frameB).length : Int)) := by
 unfold impl_ScanFrames impl_framesOf_v6 impl_framesOf_1
 have h := scan_loop l [] [] hb (by simpa using hx) (by simpa using hl)
 rw [List.nil_append, List.nil_append] at h
 rw [impl_bv (by omega), Option.bind_some, decide_eq_true ⟨hx, hk⟩, if_neg (by simp), Option.bind_some]
 rw [show (((([] : List Int).length : Nat)) : Int) = 0 from rfl] at h
 rw [h]; rfl
theorem wr_frames : ∀ {l : List (List Int)} {s f : List Int}, DV s f → (wrB l s f).2.2 = true → wrB l s f = (s, f ++ l.flatMap frameB, true) ∧ DV s (f ++ l.flatMap frameB)
 | [], s, f, hd, _ => by simp [wrB, hd]
 | b :: l, s, f, hd, h => by
   unfold wrB at h ⊢
   by_cases h2 : 2000 < s.length + f.length + (frameB b).length
   ·have e : dwB s f b = (s, f, false) := by unfold dwB; rw [if_pos hd, if_pos h2]
    rw [e] at h
    simp at h
   ·have e : dwB s f b = (s, f ++ frameB b, true) := by unfold dwB; rw [if_pos hd, if_neg h2]
    rw [e] at h ⊢
    simp only [if_true] at h ⊢
    have ih := wr_frames (s := s) (f := f ++ frameB b) (l := l) ⟨by rw [List.length_append]; omega, hd.2.1, bok_app.2 ⟨hd.2.2, frameB_b b⟩⟩ h
    rw [List.flatMap_cons, ← List.append_assoc]
    exact ih
theorem same_loop {n : Nat} {body : Int → Option (Int ⊕ (Unit ⊕ Unit))} (h : ∀ k : Nat, k ≤ n → body (k : Int) = if k < n then some (.inl ((k : Int) + 1)) else some (.inr (.inl ()))) : loop body 0 = some (.inl ()) :=
 loop_for (N := n) (fun k : Nat => (k : Int)) (Sum.inl ()) rfl h
theorem same_ints {xs : List Int} (hx : xs.length ≤ 1000000000) : laws_sameInts xs xs = some true := by
 unfold laws_sameInts
 rw [if_neg (by simp), same_loop (n := xs.length) (fun k hk => ?_)]
 ·rfl
 ·simp only [laws_sameInts_b0, Int.toNat_natCast]
  by_cases h : k < xs.length
  ·rw [if_pos (by simpa using h), if_pos h, chk_pos (by omega), chk_pos (by omega), if_neg (by simp), chk_pos (by omega)]
  ·rw [if_neg (by simpa using h), if_neg h]
theorem same_flags {xs : List Bool} (hx : xs.length ≤ 1000000000) : laws_sameFlags xs xs = some true := by
 unfold laws_sameFlags
 rw [if_neg (by simp), same_loop (n := xs.length) (fun k hk => ?_)]
 ·rfl
 ·simp only [laws_sameFlags_b0, Int.toNat_natCast]
  by_cases h : k < xs.length
  ·rw [if_pos (by simpa using h), if_pos h, chk_pos (by omega), chk_pos (by omega), if_neg (by simp), chk_pos (by omega)]
  ·rw [if_neg (by simpa using h), if_neg h]
theorem same_msgs {xs : List Mg} (hx : xs.length ≤ 1000000000) : laws_sameMessages xs xs = some true := by
 unfold laws_sameMessages
 rw [if_neg (by simp), same_loop (n := xs.length) (fun k hk => ?_)]
 ·rfl
 ·simp only [laws_sameMessages_b0, Int.toNat_natCast]
  by_cases h : k < xs.length
  ·rw [if_pos (by simpa using h), if_pos h, chk_pos (by omega), chk_pos (by omega), if_neg (by simp), chk_pos (by omega)]
  ·rw [if_neg (by simpa using h), if_neg h]
theorem same_state {r : Int} {vs : List Int} {gs : List Bool} {ms : List Mg} (hv : vs.length ≤ 1000000000) (hg : gs.length ≤ 1000000000) (hm : ms.length ≤ 1000000000) : laws_sameState r vs gs ms r vs gs ms = some true := by
 unfold laws_sameState
 have e : (r == r) = true := by simp
 rw [e, if_pos rfl, same_ints hv, Option.bind_some, if_pos (by rfl), same_flags hg, Option.bind_some, if_pos (by rfl), same_msgs hm, Option.bind_some]
 rfl
theorem same_disk {s f : List Int} (hs : s.length ≤ 1000000000) (hf : f.length ≤ 1000000000) : laws_sameDisk s f s f = some true := by
 unfold laws_sameDisk
 rw [same_ints hs, Option.bind_some, if_pos rfl, same_ints hf, Option.bind_some]
 rfl
theorem alive_eqW : laws_alive = some true := by
 unfold laws_alive
 rw [impl_csum (by simp) (by rw [bok_iff]; simp), Option.bind_some]
 rfl
end Go.Proofs.YteoedigfnfjopaaGreat
