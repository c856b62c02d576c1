import Derived.Test.YteoedigfnfjopaaGreatNw
set_option linter.unusedSimpArgs false
set_option linter.unusedVariables false
namespace Go.Proofs.YteoedigfnfjopaaGreat
open Go Go.Av
theorem open_ok8 {b : List Int} (hb : Bts b) : gives (spec_l20Open_v1 b) fun r => Bts r.1 ∧ r.1.length ≤ 2000 ∧ r.2 = 0 := open_ok hb
theorem Bytes_ok {b : List Int} {p m : Int} (hb : Bts b) (hp : 0 ≤ p ∧ p ≤ 500000) : gives (spec_l20Bytes b p m) fun r => r.1.length ≤ 2001 ∧ p ≤ r.2 ∧ r.2 ≤ p + 60 := by
 unfold spec_l20Bytes
 rw [gives_bind]
 refine (pick_b hb ⟨by omega, by omega⟩ (by omega)).mono ?_
 rintro ⟨y, p1⟩ ⟨e1, h1, h1'⟩
 simp only at e1 h1 h1' ⊢
 rw [gives_bind]
 refine (loop_to (Q := fun x : Int × List Int => (p ≤ x.1 ∧ x.1 ≤ p + 50) ∧ x.2.length ≤ 12) (fun s : Nat × Int × List Int => ((s.1 : Int), s.2.1, s.2.2))
  (fun s => s.1 ≤ 12 ∧ (p ≤ s.2.1 ∧ s.2.1 ≤ p + 50 - 4 * s.1) ∧ s.2.2.length ≤ 12 - s.1) (fun s => s.1) (y.toNat, p1, []) (by simp only; rw [show ((y.toNat : Nat) : Int) = y from by omega]) ⟨by simp only; omega, by simp only; omega, by simp⟩ ?_).mono ?_
 ·rintro ⟨k, q, l⟩ ⟨hk, hq, hl⟩
  simp only at hk hq hl
  simp only [spec_l20Bytes_b0]
  by_cases h : 0 < k
  ·rw [if_pos (by simp; omega), gives_bind]
   refine (pick_b hb ⟨by omega, by omega⟩ (by omega)).mono ?_
   rintro ⟨a2, p2⟩ ⟨e2, h2, h2'⟩
   simp only at e2 h2 h2' ⊢
   rw [gives_bind]
   refine (pick_b hb ⟨by omega, by omega⟩ (by omega)).mono ?_
   rintro ⟨a3, p3⟩ ⟨e3, h3, h3'⟩
   simp only at e3 h3 h3' ⊢
   rw [gives_bind]
   refine (pick_b hb ⟨by omega, by omega⟩ (by omega)).mono ?_
   rintro ⟨a4, p4⟩ ⟨e4, h4, h4'⟩
   simp only at e4 h4 h4' ⊢
   rw [chk_pos (by omega), gives_bind]
   refine (pick_b hb ⟨by omega, by omega⟩ (by omega)).mono ?_
   rintro ⟨a5, p5⟩ ⟨e5, h5, h5'⟩
   simp only at e5 h5 h5' ⊢
   rw [chk_pos (by omega), chk_pos (by omega), chk_pos (by omega)]
   exact gives_some.2 ⟨(k - 1, p5, l ++ [([a2, a3, 127 + a4] : List Int).getD a5.toNat 0]), ⟨by simp only; omega, by simp only; omega, by simp; omega⟩, by simp only; omega, by simp only; rw [show ((k - 1 : Nat) : Int) = (k : Int) - 1 from by omega]⟩
  ·rw [if_neg (by simp; omega)]
   exact gives_some.2 ⟨by simp only; omega, by simp only; omega⟩
 ·rintro ⟨q, l⟩ ⟨h2, h3⟩
  simp only at h2 h3 ⊢
  refine join_gives (fun x : Int × List Int => (p ≤ x.1 ∧ x.1 ≤ p + 60) ∧ x.2.length ≤ 2001) (fun k hk => ?_) ?_
  ·rw [gives_bind]
   refine (odd_b hb ⟨by omega, by omega⟩).mono ?_
   rintro ⟨o, p4⟩ e4
   simp only at e4 ⊢
   split
   ·rw [gives_bind]
    refine (pick_b hb ⟨by omega, by omega⟩ (by omega)).mono ?_
    rintro ⟨a5, p5⟩ ⟨e5, h5, h5'⟩
    simp only at e5 h5 h5' ⊢
    split
    ·rw [gives_bind]
     refine (pick_b hb ⟨by omega, by omega⟩ (by omega)).mono ?_
     rintro ⟨a6, p6⟩ ⟨e6, h6, h6'⟩
     simp only at e6 h6 h6' ⊢
     rw [chk_pos (by omega), chk_pos (by omega)]
     exact hk _ ⟨by simp only; omega, by simp; omega⟩
    ·rw [chk_pos (by omega)]
     exact hk _ ⟨by simp only; omega, by simp only [List.length_replicate]; omega⟩
   ·exact hk _ ⟨by simp only; omega, by simp only; omega⟩
  ·rintro ⟨q2, l2⟩ ⟨h4, h5⟩
   exact gives_some.2 ⟨h5, h4⟩
theorem Frames_ok {b : List Int} {p : Int} (hb : Bts b) (hp : 0 ≤ p ∧ p ≤ 400000) : gives (spec_l20Frames b p) fun r => r.1.length ≤ 3000 ∧ p ≤ r.2 ∧ r.2 ≤ p + 500 := by
 unfold spec_l20Frames
 rw [gives_bind]
 refine (pick_b hb ⟨by omega, by omega⟩ (by omega)).mono ?_
 rintro ⟨y, p1⟩ ⟨e1, h1, h1'⟩
 simp only at e1 h1 h1' ⊢
 rw [gives_bind]
 refine (loop_to (Q := fun x : Int × List Int => (p ≤ x.1 ∧ x.1 ≤ p + 400) ∧ x.2.length ≤ 500 ∧ BOk x.2) (fun s : Nat × Int × List Int => ((s.1 : Int), s.2.1, s.2.2))
  (fun s => s.1 ≤ 4 ∧ (p ≤ s.2.1 ∧ s.2.1 ≤ p + 400 - 70 * s.1) ∧ s.2.2.length ≤ 110 * (4 - s.1) ∧ BOk s.2.2) (fun s => s.1) (y.toNat, p1, []) (by simp only; rw [show ((y.toNat : Nat) : Int) = y from by omega]) ⟨by simp only; omega, by simp only; omega, by simp, by rw [bok_iff]; simp⟩ ?_).mono ?_
 ·rintro ⟨k, q, l⟩ ⟨hk, hq, hl, hB⟩
  simp only at hk hq hl hB
  simp only [spec_l20Frames_b0]
  by_cases h : 0 < k
  ·rw [if_pos (by simp; omega), gives_bind]
   refine (Bytes_ok hb ⟨by omega, by omega⟩).mono ?_
   rintro ⟨l2, p2⟩ ⟨b1, b2, b3⟩
   simp only at b1 b2 b3 ⊢
   rw [gives_bind]
   refine (pick_b hb ⟨by omega, by omega⟩ (by omega)).mono ?_
   rintro ⟨a3, p3⟩ ⟨e3, h3, h3'⟩
   simp only at e3 h3 h3' ⊢
   rw [chk_pos (by omega), spec_frame (by simp; omega), Option.bind_some]
   have hf := frameB_len (l2 ++ [a3])
   rw [chk_pos (by omega), chk_pos (by omega)]
   exact gives_some.2 ⟨(k - 1, p3, l ++ frameB (l2 ++ [a3])), ⟨by simp only; omega, by simp only; omega, by simp only [List.length_append]; omega, bok_app.2 ⟨hB, frameB_b _⟩⟩, by simp only; omega, by simp only; rw [show ((k - 1 : Nat) : Int) = (k : Int) - 1 from by omega]⟩
  ·rw [if_neg (by simp; omega)]
   exact gives_some.2 ⟨by simp only; omega, by simp only; omega, hB⟩
 ·rintro ⟨q, l⟩ ⟨h2, h3, hB⟩
  simp only at h2 h3 hB ⊢
  refine join_gives (fun x : Int × List Int => (p ≤ x.1 ∧ x.1 ≤ p + 500) ∧ x.2.length ≤ 3000) (fun k hk => ?_) ?_
  ·rw [gives_bind]
   refine (odd_b hb ⟨by omega, by omega⟩).mono ?_
   rintro ⟨o, p4⟩ e4
   simp only at e4 ⊢
   split
   ·rename_i hc
    have hl0 : 0 < l.length := by simp at hc; omega
    rw [gives_bind]
    refine (pick_b hb ⟨by omega, by omega⟩ (by omega)).mono ?_
    rintro ⟨a5, p5⟩ ⟨e5, h5, h5'⟩
    simp only at e5 h5 h5' ⊢
    split
    ·rw [gives_bind]
     refine (pick_b hb ⟨by omega, by omega⟩ (by omega)).mono ?_
     rintro ⟨a6, p6⟩ ⟨e6, h6, h6'⟩
     simp only at e6 h6 h6' ⊢
     rw [chk_pos (by omega)]
     exact hk _ ⟨by simp only; omega, by simp; omega⟩
    split
    ·rw [gives_bind]
     refine (pick_b hb ⟨by omega, by omega⟩ (by omega)).mono ?_
     rintro ⟨a6, p6⟩ ⟨e6, h6, h6'⟩
     simp only at e6 h6 h6' ⊢
     have hv := hB a6.toNat (by omega)
     rw [chk_pos (by omega), chk_pos (by omega), chk_pos (by omega)]
     exact hk _ ⟨by simp only; omega, by simp; omega⟩
    ·rw [gives_bind]
     refine (Bytes_ok hb ⟨by omega, by omega⟩).mono ?_
     rintro ⟨l2, p2⟩ ⟨b1, b2, b3⟩
     simp only at b1 b2 b3 ⊢
     rw [chk_pos (by omega)]
     exact hk _ ⟨by simp only; omega, by simp; omega⟩
   ·exact hk _ ⟨by simp only; omega, by simp only; omega⟩
  ·rintro ⟨q2, l2⟩ ⟨h4, h5⟩
   exact gives_some.2 ⟨h5, h4⟩
theorem Disk_ok {b : List Int} {p m : Int} (hb : Bts b) (hp : 0 ≤ p ∧ p ≤ 300000) : gives (spec_l20Disk b p m) fun r => r.1.length ≤ 4000 ∧ r.2.1.length ≤ 4000 ∧ p ≤ r.2.2 ∧ r.2.2 ≤ p + 2000 := by
 unfold spec_l20Disk
 rw [gives_bind]
 refine (Frames_ok hb ⟨by omega, by omega⟩).mono ?_
 rintro ⟨l1, p1⟩ ⟨a1, a2, a3⟩
 simp only at a1 a2 a3 ⊢
 rw [gives_bind]
 refine (Frames_ok hb ⟨by omega, by omega⟩).mono ?_
 rintro ⟨l2, p2⟩ ⟨b1, b2, b3⟩
 simp only at b1 b2 b3 ⊢
 refine join_gives (fun x : Int × List Int => (p ≤ x.1 ∧ x.1 ≤ p + 1001) ∧ x.2.length ≤ 3000) (fun k hk => ?_) ?_
 ·rw [gives_bind]
  refine (odd_b hb ⟨by omega, by omega⟩).mono ?_
  rintro ⟨o, p4⟩ e4
  simp only at e4 ⊢
  split
  ·rw [chk_pos (by omega)]
   exact hk _ ⟨by simp only; omega, by simp only [List.length_replicate]; omega⟩
  ·exact hk _ ⟨by simp only; omega, a1⟩
 ·rintro ⟨q, l3⟩ ⟨c1, c2⟩
  simp only at c1 c2 ⊢
  refine join_gives (fun x : Int × List Int × List Int => (p ≤ x.1 ∧ x.1 ≤ p + 2000) ∧ x.2.1.length ≤ 4000 ∧ x.2.2.length ≤ 4000) (fun k hk => ?_) ?_
  ·rw [gives_bind]
   refine (odd_b hb ⟨by omega, by omega⟩).mono ?_
   rintro ⟨o, p4⟩ e4
   simp only at e4 ⊢
   split
   ·rw [gives_bind]
    refine (pick_b hb ⟨by omega, by omega⟩ (by omega)).mono ?_
    rintro ⟨a5, p5⟩ ⟨e5, h5, h5'⟩
    simp only at e5 h5 h5' ⊢
    split
    ·rw [gives_bind]
     refine (pick_b hb ⟨by omega, by omega⟩ (by omega)).mono ?_
     rintro ⟨a6, p6⟩ ⟨e6, h6, h6'⟩
     simp only at e6 h6 h6' ⊢
     rw [chk_pos (by omega), chk_pos (by omega)]
     exact hk _ ⟨by simp only; omega, by simp only; omega, by simp; omega⟩
    ·rw [chk_pos (by omega)]
     exact hk _ ⟨by simp only; omega, by simp only [List.length_replicate]; omega, by simp only; omega⟩
   ·exact hk _ ⟨by simp only; omega, by simp only; omega, by simp only; omega⟩
  ·rintro ⟨q2, l4, l5⟩ ⟨d1, d2, d3⟩
   exact gives_some.2 ⟨d2, d3, d1⟩
theorem DrawSave_ok {b : List Int} (hb : Bts b) : gives (spec_DrawSaveState b) fun r => (r.1.length ≤ 4000 ∧ r.2.1.length ≤ 4000) ∧ r.2.2.2.1.length ≤ 101 ∧ r.2.2.2.2.1.length ≤ 101 ∧ r.2.2.2.2.2.length ≤ 2200 := by
 unfold spec_DrawSaveState
 rw [gives_bind]
 refine (open_ok8 hb).mono ?_
 rintro ⟨c, p⟩ ⟨h1, h2, h3⟩
 simp only at h1 h2 h3 ⊢
 rw [gives_bind]
 refine (Disk_ok h1 ⟨by omega, by omega⟩).mono ?_
 rintro ⟨s, f, q⟩ ⟨d1, d2, d3, d4⟩
 simp only at d1 d2 d3 d4 ⊢
 rw [gives_bind]
 refine (Task_ok h1 ⟨by omega, by omega⟩).mono ?_
 rintro ⟨n, es, k1, k2, k3, q1⟩ ⟨g1, g2, g3, g4⟩
 simp only at g1 g2 g3 g4 ⊢
 rw [gives_bind]
 refine (State_ok h1 ⟨by omega, by omega⟩ g1 g2).mono ?_
 rintro ⟨r, v, g, m, q2⟩ hq
 exact gives_some.2 ⟨⟨d1, d2⟩, hq⟩
theorem frameAt_ok {x : List Int} {p : Nat} (hx : x.length ≤ 2000) (hb : BOk x) (hp : p ≤ x.length) :
 gives (impl_frameAt_v5 x (p : Int)) fun r => r.2.2 = true → RecOk r.1 ∧ r.2.1 = ((p + (frameB r.1).length : Nat) : Int) ∧ p + (frameB r.1).length ≤ x.length ∧ x.take (p + (frameB r.1).length) = x.take p ++ frameB r.1 := by
 unfold impl_frameAt_v5
 have no : gives (some (([] : List Int), (0 : Int), false)) fun r => r.2.2 = true → RecOk r.1 ∧ r.2.1 = ((p + (frameB r.1).length : Nat) : Int) ∧ p + (frameB r.1).length ≤ x.length ∧ x.take (p + (frameB r.1).length) = x.take p ++ frameB r.1 := gives_some.2 (fun h => by cases h)
 by_cases h1 : x.length ≤ p
 ·rw [if_pos (by simp; omega)]; exact no
 rw [if_neg (by simp; omega), chk_pos (by omega), Int.toNat_natCast]
 have hv := hb p (by omega)
 generalize hz : x.getD p 0 = z at hv
 rw [chk_pos (by intro _; omega), chk_pos (by omega)]
 by_cases h2 : z < 1 ∨ 100 < z ∨ (x.length : Int) - p < z + 2
 ·rw [if_pos (by simp only [Bool.or_eq_true, decide_eq_true_eq]; omega)]; exact no
 obtain ⟨n, rfl⟩ := Int.eq_ofNat_of_zero_le (show 0 ≤ z by omega)
 rw [if_neg (by simp only [Bool.or_eq_true, decide_eq_true_eq]; omega), chk_pos (by omega), chk_pos (by omega), chk_pos (by omega), chk_pos (by omega), chk_pos (by omega), chk_pos (by omega)]
 have e1 : ((p : Int) + 1 + (n : Int)).toNat = p + 1 + n := by omega
 have e2 : ((p : Int) + 1).toNat = p + 1 := by omega
 rw [e1, e2]
 generalize hbd : (x.take (p + 1 + n)).drop (p + 1) = b
 have hbl : b.length = n := by rw [← hbd, List.length_drop, List.length_take]; omega
 have hbb : BOk b := by
  rw [bok_iff] at hb ⊢
  intro y hy
  rw [← hbd] at hy
  exact hb y (List.mem_of_mem_take (List.mem_of_mem_drop hy))
 have hr : RecOk b := ⟨hbb, by omega, by omega⟩
 rw [impl_csum (by omega) hbb, Option.bind_some]
 by_cases h3 : x.getD (p + 1 + n) 0 = csum b
 ·rw [if_neg (by simp only [bne_iff_ne, ne_eq, Decidable.not_not]; exact h3), chk_pos (by omega), chk_pos (by omega)]
  have hfl : (frameB b).length = n + 2 := by rw [frame_eq hr]; simp [hbl]
  refine gives_some.2 fun _ => ⟨hr, ?_, ?_, ?_⟩
  ·simp only [hfl]; omega
  ·simp only [hfl]; omega
  ·simp only [hfl]
   rw [show p + (n + 2) = (p + 1 + n) + 1 by omega, takeS (by omega), h3, frame_eq hr, hbl]
   have e3 : x.take (p + 1 + n) = x.take (p + 1) ++ b := by
    rw [← hbd]
    have := List.take_append_drop (p + 1) (x.take (p + 1 + n))
    rw [List.take_take, Nat.min_eq_left (by omega)] at this
    exact this.symm
   rw [e3, takeS (by omega), hz]
   simp
 ·rw [if_pos (by simp only [bne_iff_ne, ne_eq]; exact h3)]; exact no
theorem ScanFrames_ok {x : List Int} (hx : x.length ≤ 2000) (hb : BOk x) : gives (impl_ScanFrames x) fun r => (∀ b ∈ r.1, RecOk b) ∧ r.1.length ≤ 2000 ∧ (¬ r.2 < (x.length : Int) → x = r.1.flatMap frameB) := by
 unfold impl_ScanFrames impl_framesOf_v6 impl_framesOf_1
 rw [impl_bv (by omega), Option.bind_some, decide_eq_true ⟨hx, hb⟩, if_neg (by simp), Option.bind_some, gives_bind, gives_bind]
 refine (gives_loop (Q := fun u : (List (List Int) × Int) ⊕ Empty => ∃ (acc : List (List Int)) (p : Nat), u = .inl (acc, (p : Int)) ∧ (∀ b ∈ acc, RecOk b) ∧ acc.length ≤ p ∧ p ≤ x.length ∧ x.take p = acc.flatMap frameB)
  (fun s : Nat × List (List Int) => ((s.1 : Int), (.inl (s.2, (s.1 : Int)) : (List (List Int) × Int) ⊕ Empty)))
  (fun s => (∀ b ∈ s.2, RecOk b) ∧ s.2.length ≤ s.1 ∧ s.1 ≤ x.length ∧ x.take s.1 = s.2.flatMap frameB) (fun s => x.length - s.1) ?_ (0, []) ⟨by simp, by simp, by simp, by simp⟩).mono ?_
 ·rintro ⟨p, acc⟩ ⟨h1, h2, h3, h4⟩
  simp only at h1 h2 h3 h4
  simp only [impl_framesOf_1_b0]
  rw [gives_bind]
  refine (frameAt_ok hx hb h3).mono ?_
  rintro ⟨b, q, ok⟩ hr
  simp only at hr ⊢
  cases ok
  ·rw [if_neg (by simp)]
   exact gives_some.2 ⟨acc, p, rfl, h1, h2, h3, h4⟩
  ·obtain ⟨r1, r2, r3, r4⟩ := hr rfl
   have hp := frame_pos r1
   subst r2
   rw [if_pos rfl]
   simp only [seqY, impl_ScanFrames_r0]
   rw [cloneI (by have := r1.2.2; omega), Option.bind_some, chk_pos (by omega), set_last, Option.map_some, Option.bind_some]
   dsimp only
   rw [if_neg (by simp)]
   refine gives_some.2 ⟨(p + (frameB b).length, acc ++ [b]), ⟨?_, by simp; omega, r3, ?_⟩, by simp only; omega, rfl⟩
   ·intro c hc
    rcases List.mem_append.1 hc with hc | hc
    ·exact h1 c hc
    ·rw [List.mem_singleton] at hc; subst hc; exact r1
   ·simp only
    rw [r4, h4, List.flatMap_append, List.flatMap_cons, List.flatMap_nil, List.append_nil]
 ·rintro u ⟨acc, p, rfl, h1, h2, h3, h4⟩
  refine gives_some.2 (gives_some.2 ⟨h1, by simp only; omega, fun h => ?_⟩)
  simp only at h
  have : p = x.length := by omega
  subst this
  rw [List.take_length] at h4
  exact h4
theorem next_ok {x : List Int} {p : Nat} (hx : x.length ≤ 1000) (hb : BOk x) (hp : p ≤ x.length) : gives (impl_byteReader_next x (p : Int)) fun r => (r.2.1 = false ∧ r.2.2 = p) ∨ (r.2.1 = true ∧ p < x.length ∧ r.2.2 = ((p + 1 : Nat) : Int) ∧ 0 ≤ r.1 ∧ r.1 ≤ 255) := by
 by_cases h : p < x.length
 ·rw [next_hit h (by omega)]
  have := hb p h
  exact gives_some.2 (.inr ⟨rfl, h, rfl, this.1, this.2⟩)
 ·unfold impl_byteReader_next
  rw [if_pos (by simp; omega)]
  exact gives_some.2 (.inl ⟨rfl, rfl⟩)
theorem number_ok {x : List Int} {p : Nat} (hx : x.length ≤ 1000) (hb : BOk x) (hp : p ≤ x.length) :
 gives (impl_byteReader_number x (p : Int)) fun r => (∃ q : Nat, r.2.2 = (q : Int) ∧ q ≤ x.length) ∧ (r.2.1 = true → 0 ≤ r.1 ∧ r.1 ≤ 1000000) := by
 unfold impl_byteReader_number
 rw [gives_bind]
 refine (gives_loop (Q := fun r : Int ⊕ (Int × Bool × Int) => gives (Sum.elim (fun (p0_1_1 : Int) => some ((0 : Int), false, p0_1_1)) (fun ((t2, t3, p0_1_2) : Int × Bool × Int) => some (t2, t3, p0_1_2)) r) fun r => (∃ q : Nat, r.2.2 = (q : Int) ∧ q ≤ x.length) ∧ (r.2.1 = true → 0 ≤ r.1 ∧ r.1 ≤ 1000000))
  (fun s : Nat × Int × Int × Nat => (s.2.1, s.2.2.1, (s.1 : Int), (s.2.2.2 : Int)))
  (fun s => s.2.2.2 ≤ x.length ∧ 0 ≤ s.2.1 ∧ s.2.1 < s.2.2.1 ∧ ((s.1 = 0 ∧ s.2.2.1 = 1) ∨ (s.1 = 1 ∧ s.2.2.1 = 128) ∨ (s.1 = 2 ∧ s.2.2.1 = 16384) ∨ (s.1 = 3 ∧ s.2.2.1 = 2097152))) (fun s => 3 - s.1) ?_ (0, 0, 1, p) ⟨hp, by simp, by simp, .inl ⟨rfl, rfl⟩⟩)
 rintro ⟨k, acc, m, q⟩ ⟨h1, h2, h3, h4⟩
 simp only at h1 h2 h3 h4
 simp only [impl_byteReader_number_b0]
 by_cases hk : k < 3
 ·rw [if_pos (by simp; omega)]
  refine join_gives (fun v : Int × Int => (∃ q' : Nat, v.2 = (q' : Int) ∧ q' ≤ x.length) ∧ 0 ≤ v.1 ∧ v.1 < m * 128) (fun k' hk' => ?_) ?_
  ·rw [gives_bind]
   refine (next_ok hx hb h1).mono ?_
   rintro ⟨y, ok, q'⟩ hr
   simp only at hr ⊢
   rcases hr with ⟨rfl, rfl⟩ | ⟨rfl, hq, rfl, y0, y1⟩
   ·rw [if_pos (by simp)]
    exact gives_some.2 (gives_some.2 ⟨⟨q, rfl, h1⟩, fun h => by cases h⟩)
   ·rw [if_neg (by simp)]
    have hm : ∃ c : Int, (c = 1 ∨ c = 128 ∨ c = 16384) ∧ m = c := ⟨m, by omega, rfl⟩
    obtain ⟨c, hc, rfl⟩ := hm
    split
    ·rename_i h128
     have h128 : 128 ≤ y := by simpa using h128
     rcases hc with rfl | rfl | rfl <;> (rw [chk_pos (by omega), chk_pos (by omega), chk_pos (by omega), chk_pos (by omega)]; exact hk' _ ⟨⟨q + 1, rfl, by omega⟩, by simp only; omega, by simp only; omega⟩)
    ·rename_i h128
     have h128 : y < 128 := by simpa using h128
     split
     ·exact gives_some.2 (gives_some.2 ⟨⟨q + 1, rfl, by omega⟩, fun h => by cases h⟩)
     ·rcases hc with rfl | rfl | rfl <;> (rw [chk_pos (by omega), chk_pos (by omega)]; exact gives_some.2 (gives_some.2 ⟨⟨q + 1, rfl, by omega⟩, fun h => ⟨by simp only; omega, by simpa using h⟩⟩))
  ·rintro ⟨a2, q2⟩ ⟨⟨q', e, hq'⟩, h5, h6⟩
   simp only at e h5 h6 ⊢
   subst e
   rw [chk_pos (by omega)]
   exact gives_some.2 ⟨(k + 1, a2, m * 128, q'), ⟨hq', h5, h6, by simp only; omega⟩, by simp only; omega, rfl⟩
 ·rw [if_neg (by simp; omega)]
  exact gives_some.2 (gives_some.2 ⟨⟨q, rfl, h1⟩, fun h => by cases h⟩)
theorem numbers_ok {b : List Int} {t : Int} {n : Nat} (hb : b.length ≤ 1000) (hn : n ≤ 10) : gives (impl_numbersBehind b t (n : Int)) fun r => r.2 = true → r.1.length = n ∧ ∀ y ∈ r.1, 0 ≤ y ∧ y ≤ 1000000 := by
 unfold impl_numbersBehind
 rw [bodyValid_eq (by omega), Option.bind_some]
 by_cases hr : RecOk b
 ·have h1 := hr.2.1
  rw [decide_eq_true hr, chk_pos (by intro _; omega)]
  split
  ·exact gives_some.2 (fun h => by cases h)
  ·rw [chk_pos (by omega), gives_bind]
   refine (gives_loop (Q := fun r : (Int × List Int) ⊕ Unit => ∀ q l, r = .inl (q, l) → l.length = n ∧ ∀ y ∈ l, 0 ≤ y ∧ y ≤ 1000000) (fun s : Nat × Nat × List Int => ((s.1 : Int), (s.2.1 : Int), s.2.2))
    (fun s => s.1 ≤ n ∧ s.2.1 ≤ b.length ∧ s.2.2.length = n ∧ ∀ y ∈ s.2.2, 0 ≤ y ∧ y ≤ 1000000) (fun s => n - s.1) ?_ (0, 1, List.replicate (n : Int).toNat 0) ⟨Nat.zero_le _, h1, by simp, fun y hy => by have := List.eq_of_mem_replicate hy; omega⟩).mono ?_
   ·rintro ⟨k, q, l⟩ ⟨k1, k2, k3, k4⟩
    simp only at k1 k2 k3 k4
    simp only [impl_numbersBehind_b0, List.length_replicate, Int.toNat_natCast]
    by_cases h : k < n
    ·rw [if_pos (by simpa using h), gives_bind]
     refine (number_ok hb hr.1 k2).mono ?_
     rintro ⟨v, ok, q'⟩ ⟨⟨q2, e, hq2⟩, hv⟩
     simp only at e hv ⊢
     subst e
     cases ok
     ·rw [if_pos (by simp)]
      exact gives_some.2 (fun q l h => by cases h)
     ·rw [if_neg (by simp), chk_pos (by omega), chk_pos (by omega)]
      refine gives_some.2 ⟨(k + 1, q2, l.set k v), ⟨h, hq2, by simp [k3], ?_⟩, by simp only; omega, rfl⟩
      intro y hy
      rcases List.mem_or_eq_of_mem_set hy with hy | rfl
      ·exact k4 y hy
      ·exact hv rfl
    ·rw [if_neg (by simpa using h)]
     refine gives_some.2 (fun q' l' h => ?_)
     obtain ⟨_, rfl⟩ := Prod.mk.inj (Sum.inl.inj h)
     exact ⟨k3, k4⟩
   ·rintro (⟨q, l⟩ | u) h
    ·have := h q l rfl
     rw [Sum.elim_inl]
     dsimp only
     unfold impl_byteReader_done
     rw [Option.bind_some]
     exact gives_some.2 (fun _ => this)
    ·exact gives_some.2 (fun h => by cases h)
 ·rw [decide_eq_false hr, chk_pos (by intro h; simp at h), if_pos (by simp)]
  exact gives_some.2 (fun h => by cases h)
def RecsOk (l : List (List Int)) : Prop := l.length ≤ 2000 ∧ ∀ b ∈ l, b.length ≤ 1000
theorem get_ok {l : List Int} {n k : Nat} (h : l.length = n ∧ ∀ y ∈ l, 0 ≤ y ∧ y ≤ 1000000) (hk : k < n) : 0 ≤ l.getD k 0 ∧ l.getD k 0 ≤ 1000000 := h.2 _ (getD_mem (by omega) _)
theorem readV_ok {x : Int} {m : List Mg} {l : List (List Int)} (hl : RecsOk l) : gives (impl_State_readValues x [] [] m l) fun r => r.2.1.length ≤ 2000 ∧ r.2.2.length ≤ 2000 := by
 unfold impl_State_readValues
 rw [gives_bind]
 refine (gives_loop (Q := fun r : (List Int × List Bool) ⊕ (List Int × List Bool) => ∀ v g, (r = .inl (v, g) ∨ r = .inr (v, g)) → v.length ≤ 2000 ∧ g.length ≤ 2000) (fun s : Nat × List Int × List Bool => ((s.1 : Int), s.2))
  (fun s => s.1 ≤ l.length ∧ s.2.1.length ≤ s.1 ∧ s.2.2.length ≤ s.1) (fun s => l.length - s.1) ?_ (0, [], []) ⟨Nat.zero_le _, by simp, by simp⟩).mono ?_
 ·rintro ⟨k, v, g⟩ ⟨h1, h2, h3⟩
  simp only at h1 h2 h3
  have hll := hl.1
  have fin : ∀ v' g', ((.inr (v, g) : (List Int × List Bool) ⊕ (List Int × List Bool)) = .inl (v', g') ∨ (.inr (v, g) : (List Int × List Bool) ⊕ (List Int × List Bool)) = .inr (v', g')) → v'.length ≤ 2000 ∧ g'.length ≤ 2000 := fun v' g' h => by
   rcases h with h | h
   ·cases h
   ·obtain ⟨rfl, rfl⟩ := Prod.mk.inj (Sum.inr.inj h); omega
  simp only [impl_State_readValues_b0, Int.toNat_natCast]
  by_cases h : k < l.length
  ·rw [if_pos (by simpa using h), chk_pos (by omega), chk_pos (by omega), gives_bind]
   refine (numbers_ok (n := 2) (hl.2 _ (getD_mem h [])) (by omega)).mono ?_
   rintro ⟨y, ok⟩ hy
   simp only at hy ⊢
   cases ok
   ·rw [chk_pos (by intro h; simp at h), if_pos (by simp)]
    exact gives_some.2 fin
   ·have hy := hy rfl
    have g0 := get_ok hy (show 0 < 2 by omega)
    have hyl := hy.1
    rw [chk_pos (by intro _; omega)]
    split
    ·exact gives_some.2 fin
    ·rw [chk_pos (by omega), chk_pos (by omega), chk_pos (by omega), chk_pos (by omega), chk_pos (by omega), chk_pos (by omega)]
     exact gives_some.2 ⟨(k + 1, v ++ [y.getD 0 0 - 1], g ++ [y.getD 1 0 == 1]), ⟨h, by simp; omega, by simp; omega⟩, by simp only; omega, rfl⟩
  ·rw [if_neg (by simpa using h)]
   refine gives_some.2 (fun v' g' h => ?_)
   rcases h with h | h
   ·obtain ⟨rfl, rfl⟩ := Prod.mk.inj (Sum.inl.inj h); omega
   ·cases h
 ·rintro (⟨v, g⟩ | ⟨v, g⟩) h
  ·exact gives_some.2 (h v g (.inl rfl))
  ·exact gives_some.2 (h v g (.inr rfl))
theorem readM_ok {x : Int} {v : List Int} {g : List Bool} {l : List (List Int)} (hl : RecsOk l) : gives (impl_State_readMessages x v g [] l) fun r => r.2.length ≤ 2000 := by
 unfold impl_State_readMessages
 rw [gives_bind]
 have hll := hl.1
 refine (col_loop (Q := fun r : List Mg ⊕ List Mg => ∀ m, (r = .inl m ∨ r = .inr m) → m.length ≤ 2000) l.length 1 (fun _ : Mg => True) ?_).mono ?_
 ·intro k m hk hm hp
  simp only [impl_State_readMessages_b0, Int.toNat_natCast]
  by_cases h : k < l.length
  ·rw [if_pos (by simpa using h), chk_pos (by omega), chk_pos (by omega), gives_bind]
   refine (numbers_ok (n := 3) (hl.2 _ (getD_mem h [])) (by omega)).mono ?_
   rintro ⟨y, ok⟩ hy
   simp only at hy ⊢
   cases ok
   ·rw [if_pos (by simp)]
    refine gives_some.2 (fun m' h => ?_)
    rcases h with h | h
    ·cases h
    ·obtain rfl := Sum.inr.inj h; omega
   ·have hy := (hy rfl).1
    rw [if_neg (by simp), chk_pos (by omega), chk_pos (by omega), chk_pos (by omega), chk_pos (by omega), chk_pos (by omega)]
    exact gives_some.2 ⟨h, rfl, by simp, fun _ _ => trivial⟩
  ·rw [if_neg (by simpa using h)]
   refine gives_some.2 (fun m' h => ?_)
   rcases h with h | h
   ·obtain rfl := Sum.inl.inj h; omega
   ·cases h
 ·rintro (m | m) h
  ·exact gives_some.2 (h m (.inl rfl))
  ·exact gives_some.2 (h m (.inr rfl))
theorem recs_sub {l : List (List Int)} (h : RecsOk l) (i j : Nat) : RecsOk ((l.take i).drop j) := ⟨by rw [List.length_drop, List.length_take]; have := h.1; omega, fun b hb => h.2 b (List.mem_of_mem_take (List.mem_of_mem_drop hb))⟩
theorem checkpoint_ok {l : List (List Int)} (hl : RecsOk l) (h0 : 0 < l.length) : gives (impl_checkpointAt l) fun _ => True := by
 have hll := hl.1
 unfold impl_checkpointAt
 rw [chk_pos (by omega), chk_pos (by omega), gives_bind]
 refine (numbers_ok (n := 3) (hl.2 _ (getD_mem h0 [])) (by omega)).mono ?_
 rintro ⟨y, ok⟩ hy
 simp only at hy ⊢
 cases ok
 ·rw [if_pos (by simp)]; exact gives_some.2 trivial
 have hy := hy rfl
 have y1 := get_ok hy (show 1 < 3 by omega)
 have y2 := get_ok hy (show 2 < 3 by omega)
 have hyl := hy.1
 rw [if_neg (by simp), chk_pos (by omega), chk_pos (by omega)]
 generalize y.getD 1 0 = a at *
 generalize y.getD 2 0 = c at *
 rw [chk_pos (by omega), chk_pos (by omega)]
 split
 ·exact gives_some.2 trivial
 rename_i hlen
 simp only [decide_eq_true_eq] at hlen
 rw [chk_pos (by omega), chk_pos (by omega), chk_pos (by omega), gives_bind]
 refine (readV_ok (recs_sub hl _ _)).mono ?_
 rintro ⟨o, v, g⟩ ⟨v1, g1⟩
 simp only at v1 g1 ⊢
 split
 ·rw [chk_pos (by omega), chk_pos (by omega), gives_bind]
  refine (readM_ok (recs_sub hl _ _)).mono ?_
  rintro ⟨o2, m⟩ hm
  simp only at hm ⊢
  split
  ·exact gives_some.2 trivial
  ·rw [chk_pos (by omega), chk_pos (by omega), chk_pos (by omega), chk_pos (by omega), gives_bind]
   refine (numbers_ok (n := 0) (hl.2 _ (getD_mem (by omega) [])) (by omega)).mono ?_
   rintro ⟨y', ok'⟩ _
   dsimp only
   split
   ·unfold impl_State_ownValid
    rw [impl_StateValid_eq (by omega) (by omega), Option.bind_some, Option.bind_some]
    split <;> exact gives_some.2 trivial
   ·exact gives_some.2 trivial
 ·exact gives_some.2 trivial
theorem Last_ok {l : List (List Int)} (hl : RecsOk l) : gives (impl_LastCheckpoint l) fun _ => True := by
 have hll := hl.1
 unfold impl_LastCheckpoint
 rw [if_neg (by simp only [decide_eq_true_eq]; omega), chk_pos (by omega), gives_bind]
 refine (loop_to (Q := fun _ => True) (fun d : Nat => (d : Int) - 1) (fun d => d ≤ l.length) (fun d => d) l.length rfl (Nat.le_refl _) ?_).mono ?_
 ·intro d hd
  simp only [impl_LastCheckpoint_b0]
  by_cases h : 0 < d
  ·rw [if_pos (by simp only [decide_eq_true_eq]; omega), chk_pos (by omega), gives_bind]
   refine (checkpoint_ok (recs_sub hl _ _) (by rw [List.length_drop, List.take_length]; omega)).mono ?_
   rintro ⟨r, v, g, m, ok⟩ _
   dsimp only
   split
   ·exact gives_some.2 trivial
   ·rw [chk_pos (by omega)]
    exact gives_some.2 ⟨d - 1, by omega, by omega, by omega⟩
  ·rw [if_neg (by simp only [decide_eq_true_eq]; omega)]
   exact gives_some.2 trivial
 ·rintro (u | ⟨r, v, g, m⟩) _
  ·exact gives_some.2 trivial
  ·exact gives_some.2 trivial
open Classical in
theorem save_frames {s f : List Int} {r : Int} {vs : List Int} {gs : List Bool} {ms : List Mg} (h : (saveB s f r vs gs ms).2.2 = true) :
 DV s f ∧ StOk r vs gs ms vs.length ∧ saveB s f r vs gs ms = ((s ++ f) ++ (bodies r vs gs ms).flatMap frameB, [], true) ∧ DV ((s ++ f) ++ (bodies r vs gs ms).flatMap frameB) [] := by
 have hd : DV s f := by
  unfold saveB at h
  split at h
  ·rename_i h'; exact h'
  ·simp at h
 have h2 : StOk r vs gs ms vs.length ∧ (wrB (bodies r vs gs ms) s f).2.2 = true := by
  unfold saveB at h
  rw [if_pos hd] at h
  split at h
  ·rename_i h'; exact h'
  ·simp at h
 obtain ⟨w1, w2⟩ := wr_frames hd h2.2
 have w3 : DV ((s ++ f) ++ (bodies r vs gs ms).flatMap frameB) [] := by
  refine ⟨?_, ?_, by rw [bok_iff]; simp⟩
  ·have := w2.1; simp only [List.length_append, List.length_nil] at this ⊢; omega
  ·rw [List.append_assoc]; exact bok_app.2 ⟨w2.2.1, w2.2.2⟩
 refine ⟨hd, h2.1, ?_, w3⟩
 unfold saveB syncB
 rw [if_pos hd, if_pos h2, w1]
 simp only
 rw [if_pos w2, List.append_assoc]
theorem recs_ok {l : List (List Int)} (h1 : ∀ b ∈ l, RecOk b) (h2 : l.length ≤ 2000) : RecsOk l := ⟨h2, fun b hb => by have := (h1 b hb).2.2; omega⟩
theorem records_eq {x : List Int} (h : DV x []) : impl_DiskRecords x [] = (impl_ScanFrames x).bind fun p => some p.1 := by
 have hx : x.length ≤ 2000 := by have := h.1; simp only [List.length_nil] at this; omega
 unfold impl_DiskRecords impl_Disk_bytes
 rw [impl_dv (by omega) (by simp), Option.bind_some, decide_eq_true h, if_neg (by simp), concat2 (by omega) (by simp), Option.bind_some, Option.bind_some, List.append_nil]
theorem fl_len : ∀ {l : List (List Int)}, (∀ b ∈ l, RecOk b) → l.length ≤ (l.flatMap frameB).length
 | [], _ => by simp
 | x :: l, h => by
   have := frame_pos (h x (List.mem_cons_self ..))
   have := fl_len (l := l) (fun b hb => h b (List.mem_cons_of_mem _ hb))
   simp only [List.flatMap_cons, List.length_append, List.length_cons]; omega
theorem FnSaveState_true {b : List Int} (hb : Bts b) : laws_FnSaveState b = some true := by
 unfold laws_FnSaveState
 by_cases h0 : (1048576 : Int) < b.length
 ·rw [if_pos (by simpa using h0)]
 rw [if_neg (by simpa using h0)]
 obtain ⟨⟨s, f, r, vs, gs, ms⟩, h1, ⟨hs, hf⟩, h2, h3, h4⟩ := DrawSave_ok hb
 simp only at hs hf h2 h3 h4
 rw [h1, Option.bind_some]
 dsimp only
 rw [impl_save (by omega) (by omega) (by omega) (by omega) (by omega), Option.bind_some, spec_save (by omega) (by omega) (by omega) (by omega) (by omega)]
 have hz := saveB_len (s := s) (f := f) (r := r) (vs := vs) (gs := gs) (ms := ms) (by omega) (by omega)
 generalize hw : saveB s f r vs gs ms = w at hz
 obtain ⟨s', f', ok⟩ := w
 simp only at hz
 dsimp only
 rw [Option.bind_some]
 dsimp only
 rw [same_disk (by omega) (by omega), Option.bind_some, if_neg (by simp)]
 by_cases hok : ok = true
 ·obtain ⟨hd, hst, f2, f3⟩ := save_frames (by rw [hw]; exact hok)
  rw [hw] at f2
  simp only [Prod.mk.injEq] at f2
  obtain ⟨rfl, rfl, rfl⟩ := f2
  have hdl := hd.1
  have hXb : BOk (s ++ f) := bok_app.2 hd.2
  have hXl : (s ++ f).length ≤ 2000 := by rw [List.length_append]; exact hdl
  have hYl : ((s ++ f) ++ (bodies r vs gs ms).flatMap frameB).length ≤ 2000 := by have := f3.1; simp only [List.length_nil] at this; omega
  obtain ⟨⟨R, n⟩, q1, q2, q3, q4⟩ := ScanFrames_ok hXl hXb
  simp only at q2 q3 q4
  have hcr : impl_DiskCrash ((s ++ f) ++ (bodies r vs gs ms).flatMap frameB) [] 0 = some ((s ++ f) ++ (bodies r vs gs ms).flatMap frameB, []) := by
   unfold impl_DiskCrash impl_Disk_kept
   rw [impl_dv (by omega) (by simp), Option.bind_some, decide_eq_true f3, if_neg (by simp), chk_pos (by simp)]
   rw [show ((([] : List Int).take (min (0 : Int) (([] : List Int).length : Int)).toNat).drop 0) = [] by simp, concat2 (by omega) (by simp), Option.bind_some, Option.bind_some, List.append_nil]
  rw [if_neg (by simp), chk_pos (by omega), chk_pos (by simp; omega), List.nil_append, q1, Option.bind_some]
  dsimp only
  rw [hcr, Option.bind_some]
  dsimp only
  rw [records_eq f3]
  by_cases hn : n < ((s ++ f).length : Int)
  ·obtain ⟨⟨R2, n2⟩, p1, p2, p3, p4⟩ := ScanFrames_ok hYl f3.2.1
   simp only at p2 p3
   obtain ⟨⟨r2, v2, g2, m2, o2⟩, l1, _⟩ := Last_ok (recs_ok p2 p3)
   rw [List.length_append] at hn
   have hn' : decide (n < (s.length : Int) + (f.length : Int)) = true := by simp only [decide_eq_true_eq]; omega
   rw [p1, Option.bind_some, Option.bind_some, l1, Option.bind_some]
   dsimp only
   rw [impl_dv (by omega) (by simp), Option.bind_some, decide_eq_true f3, chk_pos (by intro _; omega), hn']
   cases o2 <;> simp
  ·have q5 := q4 hn
   have e : (s ++ f) ++ (bodies r vs gs ms).flatMap frameB = (R ++ bodies r vs gs ms).flatMap frameB := by rw [List.flatMap_append, ← q5]
   have hbs : ∀ c ∈ R ++ bodies r vs gs ms, RecOk c := fun c hc => by
    rcases List.mem_append.1 hc with hc | hc
    ·exact q2 c hc
    ·exact bodies_ok hc
   have hl := fl_len hbs
   have hsc := ScanFrames_eq hbs (by rw [← e]; exact hYl) (by rw [e] at hYl; omega) (by rw [← e]; exact f3.2.1)
   rw [← e] at hsc hl
   rw [hsc, Option.bind_some, Option.bind_some, LastCheckpoint_eq hst R (by omega), Option.bind_some]
   dsimp only
   rw [List.length_append] at hn
   have hn' : decide (n < (s.length : Int) + (f.length : Int)) = false := by simp only [decide_eq_false_iff_not]; omega
   rw [impl_dv (by omega) (by simp), Option.bind_some, decide_eq_true f3, chk_pos (by intro _; omega), hn', if_pos rfl, if_pos (by rfl), if_pos (by rfl), same_state (by omega) (by omega) (by omega), Option.bind_some]
   rfl
 ·have hok : ok = false := by cases ok <;> simp_all
  subst hok
  rw [if_pos (by rfl), chk_pos (by omega)]
  by_cases hd : DV s f
  ·have hn : (s', f') = (s, f) := by
    unfold saveB at hw
    rw [if_pos hd] at hw
    split at hw
    ·simp at hw
    ·simp only [Prod.mk.injEq] at hw ⊢; exact ⟨hw.1.symm, hw.2.1.symm⟩
   simp only [Prod.mk.injEq] at hn
   obtain ⟨rfl, rfl⟩ := hn
   have hsd : gives (if (!((s'.length : Int) + (f'.length : Int) == 0)) = true then laws_sameDisk s' f' s' f' else some default) fun c => (!((s'.length : Int) + (f'.length : Int) == 0)) = true → c = true := by
    split
    ·exact ⟨true, same_disk (by omega) (by omega), fun _ => rfl⟩
    ·rename_i h; exact gives_some.2 (fun h' => absurd h' h)
   obtain ⟨c, c1, c2⟩ := hsd
   rw [c1, Option.bind_some]
   have hor : ((s'.length : Int) + (f'.length : Int) == 0 || c) = true := by
    cases hz0 : ((s'.length : Int) + (f'.length : Int) == 0)
    ·rw [hz0] at c2; simp [c2 (by rfl)]
    ·rfl
   rw [hor, if_pos rfl, alive_eqW, Option.bind_some]
   rfl
  ·have hn : s' = [] ∧ f' = [] := by
    unfold saveB at hw
    rw [if_neg hd] at hw
    simp only [Prod.mk.injEq] at hw
    exact ⟨hw.1.symm, hw.2.1.symm⟩
   obtain ⟨rfl, rfl⟩ := hn
   rw [if_neg (by simp), Option.bind_some, if_pos (by rfl), alive_eqW, Option.bind_some]
   rfl
end Go.Proofs.YteoedigfnfjopaaGreat
