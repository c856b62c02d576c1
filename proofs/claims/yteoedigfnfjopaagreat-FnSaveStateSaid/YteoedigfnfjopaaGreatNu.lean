import Derived.Test.YteoedigfnfjopaaGreatNt
set_option linter.unusedSimpArgs false
set_option linter.unusedVariables false
namespace Go.Proofs.YteoedigfnfjopaaGreat
open Go Go.Av
attribute [local go_sem] gives_chk gives_ite gives_some gives_bind gives_join Sum.elim_inl Sum.elim_inr decide_eq_true_eq decide_eq_false_iff_not Bool.not_eq_true' Bool.not_eq_false' Bool.or_eq_true Bool.and_eq_true Bool.not_eq_eq_eq_not beq_iff_eq bne_iff_ne ne_eq Bool.or_eq_false_iff Bool.and_eq_false_iff Bool.not_eq_true Bool.not_eq_false Bool.not_true Bool.not_false Int.toNat_natCast beq_eq_false_iff_ne bne_eq_false_iff_eq Decidable.not_not Bool.default_bool
theorem join_pick {c p : Prop} [Decidable c] [Decidable p] {V A : Type} {a b : V} {K : V → Option A} (hp : p) : join (fun k : V → Option A => chk p <| if c then k a else k b) K = K (if c then a else b) := by
 show chk p (if c then K a else K b) = _
 rw [chk_pos hp]
 split <;> rfl
theorem yld_step {υ X : Type} {x : Option (Bool × υ)} {k : Nat} (hk : k ≤ 1000000000) : (x.bind fun p : Bool × υ => match p with
 | (y, u) => if (!y) = true then some (Sum.inr (Sum.inr u)) else chk (-9223372036854775808 ≤ (k : Int) + 1 ∧ (k : Int) + 1 ≤ 9223372036854775807) <| some (Sum.inl ((k : Int) + 1, u)) : Option ((Int × υ) ⊕ (X ⊕ υ))) =
 x.bind (fun p => if p.1 = true then some (.inl (((k + 1 : Nat) : Int), p.2)) else some (.inr (.inr p.2))) := by
 cases x with
 | none => simp only [Option.bind_none]
 | some p =>
   obtain ⟨b, u'⟩ := p
   rw [Option.bind_some, Option.bind_some]
   dsimp only
   cases b
   ·rw [if_pos (by simp), if_neg (by simp)]
   ·rw [if_neg (by simp), chk_pos (by omega), if_pos (by simp), Int.natCast_add, Int.natCast_one]
def foldE {A υ : Type} (f : A → υ → Option (Bool × υ)) : List A → υ → Option (υ ⊕ υ)
 | [], u => some (.inl u)
 | a :: l, u => (f a u).bind fun p => if p.1 then foldE f l p.2 else some (.inr p.2)
def foldY {A υ : Type} (f : A → υ → Option (Bool × υ)) : List A → υ → Option υ
 | [], u => some u
 | a :: l, u => (f a u).bind fun p => if p.1 then foldY f l p.2 else some p.2
theorem foldY_app {A υ : Type} {f : A → υ → Option (Bool × υ)} : ∀ {l l' : List A} {u : υ}, foldY f (l ++ l') u = (foldE f l u).bind (Sum.elim (fun u => foldY f l' u) (fun u => some u))
 | [], l', u => rfl
 | a :: l, l', u => by
   simp only [List.cons_append, foldY, foldE]
   cases f a u with
   | none => rfl
   | some p =>
     simp only [Option.bind_some]
     cases p.1
     ·rfl
     ·simp only [if_true]; exact foldY_app
theorem loop_iter {A υ : Type} (f : A → υ → Option (Bool × υ)) (item : Nat → A) (n : Nat) {body : Int × υ → Option ((Int × υ) ⊕ (υ ⊕ υ))}
 (hb : ∀ (k : Nat) (u : υ), k ≤ n → body ((k : Int), u) = if k < n then (f (item k) u).bind (fun p => if p.1 then some (.inl (((k + 1 : Nat) : Int), p.2)) else some (.inr (.inr p.2))) else some (.inr (.inl u))) :
 ∀ (d k : Nat) (u : υ), k + d = n → loop body ((k : Int), u) = foldE f ((List.range' k d).map item) u
 | 0, k, u, h => by
   rw [loop_eq, hb k u (by omega), if_neg (by omega)]; rfl
 | d + 1, k, u, h => by
   rw [loop_eq, hb k u (by omega), if_pos (by omega)]
   simp only [List.range'_succ, List.map_cons, foldE]
   cases f (item k) u with
   | none => rfl
   | some p =>
     simp only [Option.bind_some]
     cases p.1
     ·rfl
     ·simp only [if_true]
      exact loop_iter f item n hb d (k + 1) p.2 (by omega)
def vB (vs : List Int) (gs : List Bool) (k : Nat) : List Int := tagB 2 [vs.getD k 0 + 1] ++ [if gs.getD k false then 1 else 0]
def mB (ms : List Mg) (k : Nat) : List Int := tagB 3 [(ms.getD k (0, 0, 0)).1, (ms.getD k (0, 0, 0)).2.1, (ms.getD k (0, 0, 0)).2.2]
def bodies (r : Int) (vs : List Int) (gs : List Bool) (ms : List Mg) : List (List Int) :=
 tagB 1 [r, (vs.length : Int), (ms.length : Int)] :: ((List.range vs.length).map (vB vs gs) ++ ((List.range ms.length).map (mB ms) ++ [[4]]))
theorem bodies_len {r : Int} {vs : List Int} {gs : List Bool} {ms : List Mg} {b : List Int} (h : b ∈ bodies r vs gs ms) : b.length ≤ 20 := by
 unfold bodies at h
 simp only [List.mem_cons, List.mem_append, List.mem_map, List.mem_range, List.not_mem_nil, or_false] at h
 rcases h with rfl | ⟨k, _, rfl⟩ | ⟨k, _, rfl⟩ | rfl
 ·have := tagB_len 1 [r, (vs.length : Int), (ms.length : Int)]; simp only [List.length_cons, List.length_nil] at this; omega
 ·unfold vB; have := tagB_len 2 [vs.getD k 0 + 1]; simp only [List.length_append, List.length_cons, List.length_nil] at this ⊢; omega
 ·unfold mB; have := tagB_len 3 [(ms.getD k (0, 0, 0)).1, (ms.getD k (0, 0, 0)).2.1, (ms.getD k (0, 0, 0)).2.2]; simp only [List.length_cons, List.length_nil] at this; omega
 ·simp
theorem bodiesOf_eq {υ : Type} {r : Int} {vs : List Int} {gs : List Bool} {ms : List Mg} (h : StOk r vs gs ms vs.length) (yld : List Int → υ → Option (Bool × υ)) (u : υ) : impl_bodiesOf_1 r vs gs ms yld u = foldY yld (bodies r vs gs ms) u := by
 obtain ⟨a1, a2, a3, a4, a5, a6, a7, a8, a9⟩ := h
 have l0 : ∀ u, loop (impl_bodiesOf_1_b0 yld vs gs) (0, u) = foldE yld ((List.range vs.length).map (vB vs gs)) u := fun u => by
  rw [List.range_eq_range']
  refine loop_iter yld (vB vs gs) vs.length ?_ vs.length 0 u (by omega)
  intro k u hk
  simp only [impl_bodiesOf_1_b0, Int.toNat_natCast]
  by_cases h : k < vs.length
  ·have hv := a8 k h
   have hl := tagB_len 2 [vs.getD k 0 + 1]
   simp only [List.length_cons, List.length_nil] at hl
   rw [if_pos (by simpa using h), if_pos h, chk_pos (by omega), join_pick (by omega), chk_pos (by omega), taggedBody_eq 2 (by simp), Option.bind_some, chk_pos (by omega)]
   exact yld_step (by omega)
  ·rw [if_neg (by simpa using h), if_neg h]
 have l1 : ∀ u, loop (impl_bodiesOf_1_b1 yld ms) (0, u) = foldE yld ((List.range ms.length).map (mB ms)) u := fun u => by
  rw [List.range_eq_range']
  refine loop_iter yld (mB ms) ms.length ?_ ms.length 0 u (by omega)
  intro k u hk
  simp only [impl_bodiesOf_1_b1, Int.toNat_natCast]
  by_cases h : k < ms.length
  ·rw [if_pos (by simpa using h), if_pos h, chk_pos (by omega), taggedBody_eq 3 (by simp), Option.bind_some]
   exact yld_step (by omega)
  ·rw [if_neg (by simpa using h), if_neg h]
 unfold impl_bodiesOf_1 bodies
 rw [taggedBody_eq 1 (by simp), Option.bind_some]
 simp only [foldY]
 cases yld (tagB 1 [r, (vs.length : Int), (ms.length : Int)]) u with
 | none => rfl
 | some p =>
   obtain ⟨b, u1⟩ := p
   simp only [Option.bind_some]
   cases b
   ·rfl
   ·rw [if_neg (by simp), if_pos rfl, l0, foldY_app]
    congr 1
    funext x
    cases x with
    | inr _ => rfl
    | inl u2 =>
      simp only [Sum.elim_inl]
      rw [l1, foldY_app]
      congr 1
      funext x
      cases x with
      | inr _ => rfl
      | inl u3 =>
        simp only [Sum.elim_inl, foldY]
        rw [taggedBody_eq 4 (by simp), Option.bind_some]
        show (yld [4] u3).bind _ = _
        cases yld [4] u3 with
        | none => rfl
        | some p => obtain ⟨b, u4⟩ := p; cases b <;> rfl
open Classical in
theorem stateBodies_eq {r : Int} {vs : List Int} {gs : List Bool} {ms : List Mg} (hv : vs.length ≤ 1000000000) (hg : gs.length ≤ 1000000000) (hm : ms.length ≤ 1000000000) :
 spec_StateBodies r vs gs ms = some (if StOk r vs gs ms vs.length then bodies r vs gs ms else []) := by
 unfold spec_StateBodies spec_l1OwnState
 rw [chk_pos (by omega), chk_pos (by omega), chk_pos (by omega), Option.bind_some]
 simp only [List.nil_append]
 rw [spec_StateValid_eq hv hg hm, Option.bind_some]
 by_cases h : StOk r vs gs ms vs.length
 ·rw [if_neg (by unfold sok; simp [h]), if_pos h, start_eq, Option.bind_some, chk_pos (by omega)]
  obtain ⟨a1, a2, a3, a4, a5, a6, a7, a8, a9⟩ := h
  have l0 : loop (spec_StateBodies_b0 vs gs) (0, ([[]] : List (List Int)).set 0 (tagB 1 [r, (vs.length : Int), (ms.length : Int)])) = some (tagB 1 [r, (vs.length : Int), (ms.length : Int)] :: (List.range vs.length).map (vB vs gs)) := by
   refine loop_for (N := vs.length) (fun k : Nat => ((k : Int), tagB 1 [r, (vs.length : Int), (ms.length : Int)] :: (List.range k).map (vB vs gs))) _ (by simp) ?_
   intro k hk
   simp only [spec_StateBodies_b0, Int.toNat_natCast]
   by_cases h : k < vs.length
   ·have hv := a8 k h
    have hl := encN_len (vs.getD k 0 + 1)
    rw [if_pos (by simpa using h), if_pos h, join_pick (by omega), chk_pos (by omega), chk_pos (by omega), spec_enc', Option.bind_some, chk_pos (by omega), chk_pos (by simp only [List.length_append, List.length_cons, List.length_nil]; omega), chk_pos (by simp only [List.length_cons, List.length_map, List.length_range]; omega), chk_pos (by omega), set_last]
    have : [2] ++ encN (vs.getD k 0 + 1) ++ [if gs.getD k false = true then (1 : Int) else 0] = vB vs gs k := by unfold vB tagB; simp
    rw [this, List.range_succ, List.map_append]
    rfl
   ·rw [if_neg (by simpa using h), if_neg h, show k = vs.length from by omega]
  have l1 : ∀ L : List (List Int), L.length ≤ 100 → loop (spec_StateBodies_b1 ms) (0, L) = some (L ++ (List.range ms.length).map (mB ms)) := fun L hL => by
   refine loop_for (N := ms.length) (fun k : Nat => ((k : Int), L ++ (List.range k).map (mB ms))) _ (by simp) ?_
   intro k hk
   simp only [spec_StateBodies_b1, Int.toNat_natCast]
   by_cases h : k < ms.length
   ·have hmk := a9.1 k h
    unfold MgOk at hmk
    have h1 := encN_len (ms.getD k (0, 0, 0)).1; have h2 := encN_len (ms.getD k (0, 0, 0)).2.1; have h3 := encN_len (ms.getD k (0, 0, 0)).2.2
    rw [if_pos (by simpa using h), if_pos h, chk_pos (by omega), edgeBody_eq (by omega) (by omega) (by omega), Option.bind_some, chk_pos (by simp only [List.length_append]; omega), chk_pos (by simp only [List.length_append, List.length_map, List.length_range]; omega), chk_pos (by omega), set_last]
    have : [3] ++ (encN (ms.getD k (0, 0, 0)).1 ++ encN (ms.getD k (0, 0, 0)).2.1 ++ encN (ms.getD k (0, 0, 0)).2.2) = mB ms k := by unfold mB tagB; simp
    rw [this, List.range_succ, List.map_append, List.append_assoc]
    rfl
   ·rw [if_neg (by simpa using h), if_neg h, show k = ms.length from by omega]
  rw [l0, Option.bind_some, l1 _ (by simp; omega), Option.bind_some, chk_pos (by simp; omega), set_last]
  simp [bodies]
 ·rw [if_pos (by unfold sok; simp [h]), if_neg h]
def RecOk (b : List Int) : Prop := BOk b ∧ 1 ≤ b.length ∧ b.length ≤ 100
instance (b : List Int) : Decidable (RecOk b) := by unfold RecOk; infer_instance
theorem bok_tag {t : Int} {xs : List Int} (ht : 0 ≤ t ∧ t ≤ 255) : BOk (tagB t xs) := by
 rw [bok_iff]; unfold tagB
 intro x hx
 rcases List.mem_cons.1 hx with rfl | hx
 ·exact ht
 ·obtain ⟨a, _, ha⟩ := List.mem_flatMap.1 hx
  exact bok_iff.1 (encN_b a) x ha
theorem bodies_ok {r : Int} {vs : List Int} {gs : List Bool} {ms : List Mg} {b : List Int} (h : b ∈ bodies r vs gs ms) : RecOk b := by
 have hl := bodies_len h
 unfold bodies at h
 simp only [List.mem_cons, List.mem_append, List.mem_map, List.mem_range, List.not_mem_nil, or_false] at h
 have tp : ∀ t xs, 1 ≤ (tagB t xs).length := fun t xs => by unfold tagB; simp
 rcases h with rfl | ⟨k, _, rfl⟩ | ⟨k, _, rfl⟩ | rfl
 ·exact ⟨bok_tag (by omega), tp _ _, by omega⟩
 ·refine ⟨?_, ?_, by omega⟩
  ·unfold vB
   rw [bok_app]
   refine ⟨bok_tag (by omega), ?_⟩
   rw [bok_iff]
   intro x hx
   rw [List.mem_singleton] at hx
   subst hx
   split <;> omega
  ·unfold vB
   rw [List.length_append]
   have := tp 2 [vs.getD k 0 + 1]
   omega
 ·exact ⟨bok_tag (by omega), tp _ _, by omega⟩
 ·exact ⟨by rw [bok_iff]; intro x hx; rw [List.mem_singleton] at hx; subst hx; omega, by simp, by simp⟩
noncomputable def dwB (s f b : List Int) : List Int × List Int × Bool :=
 if DV s f then (if 2000 < s.length + f.length + (frameB b).length then (s, f, false) else (s, f ++ frameB b, true)) else ([], [], false)
theorem frame_pos {b : List Int} (h : RecOk b) : 0 < (frameB b).length := by
 unfold frameB; rw [if_pos (show BOk b ∧ 1 ≤ b.length ∧ b.length ≤ 100 from h)]; simp
theorem impl_copied {s f : List Int} (hs : s.length ≤ 1000000000) (hf : f.length ≤ 1000000000) : impl_Disk_copied s f = some (s, f) := by
 unfold impl_Disk_copied
 rw [cloneI hs, Option.bind_some, cloneI hf, Option.bind_some]
theorem spec_copied {s f : List Int} (hs : s.length ≤ 1000000000) (hf : f.length ≤ 1000000000) : spec_l3Copy s f = some (s, f) := by
 unfold spec_l3Copy
 rw [chk_pos (by omega), chk_pos (by omega)]; rfl
theorem impl_dw {s f b : List Int} (hs : s.length ≤ 1000000000) (hf : f.length ≤ 1000000000) (hb : RecOk b) : impl_DiskWrite s f b = some (dwB s f b) := by
 unfold impl_DiskWrite dwB
 have hl := frameB_len b
 have hp := frame_pos hb
 rw [impl_dv hs hf, Option.bind_some]
 by_cases h : DV s f
 ·have hd := h.1
  rw [if_neg (by simp [h]), if_pos h, impl_frame (by have := hb.2.2; omega), Option.bind_some, both_eq (fun h0 => absurd h0 (by omega)), chk_pos (by intro _; omega), chk_pos (by intro _; omega)]
  by_cases h2 : 2000 < s.length + f.length + (frameB b).length
  ·rw [if_pos (by simp only [Bool.false_or, decide_eq_true_eq]; omega), if_pos h2, impl_copied hs hf, Option.bind_some]
  ·rw [if_neg (by simp only [Bool.false_or, decide_eq_true_eq]; omega), if_neg h2, cloneI hs, Option.bind_some, concat2 hf (by omega), Option.bind_some]
 ·rw [if_pos (by simp [h]), if_neg h]
theorem spec_dw {s f b : List Int} (hs : s.length ≤ 1000000000) (hf : f.length ≤ 1000000000) (hb : RecOk b) : spec_DiskWrite s f b = some (dwB s f b) := by
 unfold spec_DiskWrite dwB
 have hl := frameB_len b
 have hp := frame_pos hb
 rw [spec_dv hs hf, Option.bind_some]
 by_cases h : DV s f
 ·have hd := h.1
  rw [if_neg (by simp [h]), if_pos h, spec_copied hs hf, Option.bind_some]
  dsimp only
  rw [spec_frame (by have := hb.2.2; omega), Option.bind_some, chk_pos (by intro _; omega), chk_pos (by intro _; omega)]
  by_cases h2 : 2000 < s.length + f.length + (frameB b).length
  ·rw [if_pos (by simp only [go_sem]; omega), if_pos h2]
  ·rw [if_neg (by simp only [go_sem]; omega), if_neg h2, chk_pos (by omega)]
 ·rw [if_pos (by simp [h]), if_neg h]
noncomputable def wrB : List (List Int) → List Int → List Int → List Int × List Int × Bool
 | [], s, f => (s, f, true)
 | b :: l, s, f => if (dwB s f b).2.2 = true then wrB l (dwB s f b).1 (dwB s f b).2.1 else (s, f, false)
theorem dwB_len {s f b : List Int} (h : (dwB s f b).2.2 = true) : (dwB s f b).1.length + (dwB s f b).2.1.length ≤ 2000 := by
 unfold dwB at *
 by_cases hd : DV s f
 ·rw [if_pos hd] at *
  by_cases h2 : 2000 < s.length + f.length + (frameB b).length
  ·rw [if_pos h2] at h; simp at h
  ·rw [if_neg h2]; simp; omega
 ·rw [if_neg hd] at h; simp at h
theorem wrB_len : ∀ {l : List (List Int)} {s f : List Int}, s.length ≤ 1000000000 → f.length ≤ 1000000000 → (wrB l s f).1.length ≤ 1000000000 ∧ (wrB l s f).2.1.length ≤ 1000000000
 | [], s, f, h1, h2 => ⟨h1, h2⟩
 | b :: l, s, f, h1, h2 => by
   unfold wrB
   split
   ·rename_i h
    have := dwB_len h
    exact wrB_len (by omega) (by omega)
   ·exact ⟨h1, h2⟩
theorem spec_write_loop {y : List (List Int)} (hy : ∀ b ∈ y, RecOk b) (hl : y.length ≤ 1000000000) : ∀ (d k : Nat) (s f : List Int), k + d = y.length → s.length ≤ 1000000000 → f.length ≤ 1000000000 →
 loop (spec_l18Write_b0 y) ((k : Int), s, f) = some (if (wrB (y.drop k) s f).2.2 = true then .inl ((wrB (y.drop k) s f).1, (wrB (y.drop k) s f).2.1) else .inr ((wrB (y.drop k) s f).1, (wrB (y.drop k) s f).2.1))
 | 0, k, s, f, h, hs, hf => by
   rw [loop_eq]
   simp only [spec_l18Write_b0]
   rw [if_neg (by simp only [decide_eq_true_eq]; omega), List.drop_of_length_le (by omega)]
   simp [wrB]
 | d + 1, k, s, f, h, hs, hf => by
   have hk : k < y.length := by omega
   have e : y.getD k [] = y[k] := by rw [List.getD_eq_getElem?_getD, List.getElem?_eq_getElem hk]; rfl
   rw [loop_eq]
   simp only [spec_l18Write_b0, Int.toNat_natCast]
   rw [if_pos (by simp only [decide_eq_true_eq]; omega), chk_pos (by omega), chk_pos (by omega), e, spec_dw hs hf (hy _ (List.getElem_mem hk)), Option.bind_some, List.drop_eq_getElem_cons hk]
   unfold wrB
   generalize hw : dwB s f y[k] = w
   obtain ⟨s', f', ok⟩ := w
   dsimp only
   cases ok
   ·simp
   ·rw [if_neg (by simp), chk_pos (by omega)]
    have := dwB_len (s := s) (f := f) (b := y[k]) (by rw [hw])
    rw [hw] at this
    simp only at this
    dsimp only
    have ih := spec_write_loop hy hl d (k + 1) s' f' (by omega) (by omega) (by omega)
    rw [if_pos rfl]
    exact ih
theorem impl_write_fold : ∀ {l : List (List Int)} {s f : List Int}, (∀ b ∈ l, RecOk b) → s.length ≤ 1000000000 → f.length ≤ 1000000000 →
 foldY (seqY impl_written_v2_r0) l (Sum.inl (s, f)) = some (if (wrB l s f).2.2 = true then .inl ((wrB l s f).1, (wrB l s f).2.1) else .inr ((wrB l s f).1, (wrB l s f).2.1, (wrB l s f).1, (wrB l s f).2.1))
 | [], s, f, _, _, _ => by simp [foldY, wrB]
 | b :: l, s, f, hb, hs, hf => by
   have h1 := hb b (List.mem_cons_self ..)
   simp only [foldY, seqY, impl_written_v2_r0]
   rw [impl_dw hs hf h1, Option.bind_some]
   unfold wrB
   generalize hw : dwB s f b = w
   obtain ⟨s', f', ok⟩ := w
   dsimp only
   cases ok
   ·simp
   ·have := dwB_len (s := s) (f := f) (b := b) (by rw [hw])
    rw [hw] at this
    simp only at this
    simp only [Bool.not_true, Bool.false_eq_true, if_false, Option.map_some, Option.bind_some, Sum.isLeft_inl, if_true]
    exact impl_write_fold (fun b hb' => hb b (List.mem_cons_of_mem _ hb')) (by omega) (by omega)
noncomputable def syncB (s f : List Int) : List Int × List Int := if DV s f then (s ++ f, []) else ([], [])
theorem impl_sync {s f : List Int} (hs : s.length ≤ 1000000000) (hf : f.length ≤ 1000000000) : impl_DiskSync s f = some (syncB s f) := by
 unfold impl_DiskSync impl_Disk_kept syncB
 rw [impl_dv hs hf, Option.bind_some]
 by_cases h : DV s f
 ·rw [if_neg (by simp [h]), if_pos h, chk_pos (by omega)]
  have e : (f.take (min (f.length : Int) (f.length : Int)).toNat).drop 0 = f := by
   rw [show (min (f.length : Int) (f.length : Int)).toNat = f.length by omega]; simp
  rw [e, concat2 hs hf, Option.bind_some, Option.bind_some]
 ·rw [if_pos (by simp [h]), if_neg h]
theorem spec_sync {s f : List Int} (hs : s.length ≤ 1000000000) (hf : f.length ≤ 1000000000) : spec_DiskSync s f = some (syncB s f) := by
 unfold spec_DiskSync spec_l1OwnDisk syncB
 rw [chk_pos (by omega), chk_pos (by omega), Option.bind_some]
 simp only [List.nil_append]
 rw [spec_dv hs hf, Option.bind_some]
 by_cases h : DV s f
 ·rw [if_neg (by simp [h]), if_pos h, chk_pos (by omega), chk_pos (by omega)]
 ·rw [if_pos (by simp [h]), if_neg h]
open Classical in
noncomputable def saveB (s f : List Int) (r : Int) (vs : List Int) (gs : List Bool) (ms : List Mg) : List Int × List Int × Bool :=
 if DV s f then (if StOk r vs gs ms vs.length ∧ (wrB (bodies r vs gs ms) s f).2.2 = true then ((syncB (wrB (bodies r vs gs ms) s f).1 (wrB (bodies r vs gs ms) s f).2.1).1, (syncB (wrB (bodies r vs gs ms) s f).1 (wrB (bodies r vs gs ms) s f).2.1).2, true) else (s, f, false)) else ([], [], false)
theorem impl_save {s f : List Int} {r : Int} {vs : List Int} {gs : List Bool} {ms : List Mg} (hs : s.length ≤ 1000000000) (hf : f.length ≤ 1000000000) (hv : vs.length ≤ 1000000000) (hg : gs.length ≤ 1000000000) (hm : ms.length ≤ 1000000000) :
 impl_SaveState s f r vs gs ms = some (saveB s f r vs gs ms) := by
 unfold impl_SaveState saveB
 rw [impl_dv hs hf, Option.bind_some]
 by_cases h : DV s f
 ·rw [if_neg (by simp [h]), if_pos h, impl_State_ownValid, impl_StateValid_eq hv hm, Option.bind_some, Option.bind_some]
  by_cases hst : StOk r vs gs ms vs.length
  ·have hso : sok r vs gs ms vs.length = true := by unfold sok; simp [hst]
   rw [hso, if_neg (by simp), impl_written_v2, impl_bodiesOf_v2, Option.bind_some, bodiesOf_eq hst, impl_write_fold (fun b hb => bodies_ok hb) hs hf, Option.bind_some]
   have hl := wrB_len (l := bodies r vs gs ms) hs hf
   generalize wrB (bodies r vs gs ms) s f = w at hl
   obtain ⟨s', f', ok⟩ := w
   cases ok
   ·simp only [Bool.false_eq_true, if_false, Sum.elim_inr, Option.bind_some, Bool.not_false, if_true, and_false]
    rw [impl_copied hs hf, Option.bind_some]
   ·simp only [if_true, Sum.elim_inl, Option.bind_some, Bool.not_true, Bool.false_eq_true, if_false]
    rw [impl_sync hl.1 hl.2, Option.bind_some, if_pos ⟨hst, rfl⟩]
  ·have hso : sok r vs gs ms vs.length = false := by unfold sok; simp [hst]
   rw [hso, if_pos (by simp), impl_copied hs hf, Option.bind_some, if_neg (fun h => hst h.1)]
 ·rw [if_pos (by simp [h]), if_neg h]
theorem bodies_long {r : Int} {vs : List Int} {gs : List Bool} {ms : List Mg} : 0 < (bodies r vs gs ms).length ∧ (bodies r vs gs ms).length = vs.length + ms.length + 2 := by
 unfold bodies; simp; omega
theorem spec_save {s f : List Int} {r : Int} {vs : List Int} {gs : List Bool} {ms : List Mg} (hs : s.length ≤ 1000000000) (hf : f.length ≤ 1000000000) (hv : vs.length ≤ 1000000000) (hg : gs.length ≤ 1000000000) (hm : ms.length ≤ 1000000000) :
 spec_SaveState s f r vs gs ms = some (saveB s f r vs gs ms) := by
 unfold spec_SaveState saveB
 rw [spec_dv hs hf, Option.bind_some]
 by_cases h : DV s f
 ·rw [if_neg (by simp [h]), if_pos h, spec_l18Write, stateBodies_eq hv hg hm, Option.bind_some, spec_copied hs hf, Option.bind_some]
  dsimp only
  by_cases hst : StOk r vs gs ms vs.length
  ·rw [if_pos hst]
   obtain ⟨hb0, hb1⟩ := bodies_long (r := r) (vs := vs) (gs := gs) (ms := ms)
   have hl := wrB_len (l := bodies r vs gs ms) hs hf
   have hw := spec_write_loop (y := bodies r vs gs ms) (fun b hb => bodies_ok hb) (by have := hst.2.2.2.2.2.2.1; have := hst.2.1; omega) _ 0 s f (Nat.zero_add _) hs hf
   rw [List.drop_zero] at hw
   rw [show ((0 : Int), s, f) = (((0 : Nat) : Int), s, f) from rfl, hw, Option.bind_some]
   generalize wrB (bodies r vs gs ms) s f = w at hl
   obtain ⟨s', f', ok⟩ := w
   cases ok
   ·simp only [Bool.false_eq_true, if_false, Sum.elim_inr, Option.bind_some, Bool.not_false, if_true, and_false]
   ·simp only [if_true, Sum.elim_inl, Option.bind_some]
    rw [if_neg (by simp only [Bool.not_eq_true', decide_eq_false_iff_not]; omega), spec_sync hl.1 hl.2, Option.bind_some, if_pos ⟨hst, rfl⟩]
  ·rw [if_neg hst]
   have hw := spec_write_loop (y := []) (fun b hb => by simp at hb) (by simp) 0 0 s f rfl hs hf
   rw [show ((0 : Int), s, f) = (((0 : Nat) : Int), s, f) from rfl, hw, Option.bind_some]
   simp only [List.drop_nil, wrB, if_true, Sum.elim_inl, Option.bind_some]
   rw [if_pos (by simp), if_neg (fun h => hst h.1)]
 ·rw [if_pos (by simp [h]), if_neg h]
theorem saveB_len {s f : List Int} {r : Int} {vs : List Int} {gs : List Bool} {ms : List Mg} (hs : s.length ≤ 1000000) (hf : f.length ≤ 1000000) : (saveB s f r vs gs ms).1.length ≤ 1000000 ∧ (saveB s f r vs gs ms).2.1.length ≤ 1000000 := by
 unfold saveB
 split
 ·split
  ·unfold syncB
   split
   ·rename_i h; have := h.1; simp; omega
   ·simp
  ·exact ⟨hs, hf⟩
 ·simp
end Go.Proofs.YteoedigfnfjopaaGreat
