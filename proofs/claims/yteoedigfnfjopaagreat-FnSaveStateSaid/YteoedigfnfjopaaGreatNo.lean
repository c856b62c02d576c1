import Derived.Test.YteoedigfnfjopaaGreatNa
set_option linter.unusedSimpArgs false
set_option linter.unusedVariables false
namespace Go.Proofs.YteoedigfnfjopaaGreat
open Go Go.Av
attribute [local go_sem] gives_chk gives_ite gives_some gives_bind gives_join Sum.elim_inl Sum.elim_inr decide_eq_true_eq decide_eq_false_iff_not Bool.not_eq_true' Bool.not_eq_false' Bool.or_eq_true Bool.and_eq_true Bool.not_eq_eq_eq_not beq_iff_eq bne_iff_ne ne_eq Bool.or_eq_false_iff Bool.and_eq_false_iff Bool.not_eq_true Bool.not_eq_false Bool.not_true Bool.not_false Int.toNat_natCast beq_eq_false_iff_ne bne_eq_false_iff_eq Decidable.not_not Bool.default_bool
abbrev Mg := Int × Int × Int
def ltM (x y : Mg) : Prop := x.1 < y.1 ∨ x.1 = y.1 ∧ (x.2.1 < y.2.1 ∨ x.2.1 = y.2.1 ∧ x.2.2 < y.2.2)
instance (x y : Mg) : Decidable (ltM x y) := by unfold ltM; infer_instance
def leM (x y : Mg) : Prop := ¬ ltM y x
instance (x y : Mg) : Decidable (leM x y) := by unfold leM; infer_instance
theorem leM.refl (x : Mg) : leM x x := by unfold leM ltM; omega
theorem leM.trans {x y z : Mg} (h : leM x y) (k : leM y z) : leM x z := by unfold leM ltM at *; omega
theorem ltM.le {x y : Mg} (h : ltM x y) : leM x y := by unfold leM ltM at *; omega
theorem leM.antisymm {x y : Mg} (h : leM x y) (k : leM y x) : x = y := by
 unfold leM ltM at *
 exact Prod.ext (by omega) (Prod.ext (by omega) (by omega))
theorem leM_uniq : ∀ {A B : List Mg}, A.Pairwise leM → B.Pairwise leM → A.Perm B → A = B
 | [], B, _, _, h => (List.nil_perm.1 h).symm
 | x :: A, [], _, _, h => absurd h.length_eq (by simp)
 | x :: A, y :: B, hA, hB, h => by
   have hA' := List.pairwise_cons.1 hA
   have hB' := List.pairwise_cons.1 hB
   have hxy : x = y := by
    rcases List.mem_cons.1 (h.mem_iff.1 (List.mem_cons_self ..)) with e | e
    ·exact e
    rcases List.mem_cons.1 (h.mem_iff.2 (List.mem_cons_self ..)) with e' | e'
    ·exact e'.symm
    exact (hA'.1 y e').antisymm (hB'.1 x e)
   subst hxy
   rw [leM_uniq hA'.2 hB'.2 (List.perm_cons _ |>.1 h)]
noncomputable def srtM (xs : List Mg) : List Mg := xs.mergeSort fun x y => decide (leM x y)
theorem srtM_perm (xs : List Mg) : (srtM xs).Perm xs := List.mergeSort_perm ..
theorem srtM_srt (xs : List Mg) : (srtM xs).Pairwise leM := by
 have h := List.pairwise_mergeSort (le := fun x y : Mg => decide (leM x y)) (fun a b c h k => by simp only [decide_eq_true_eq] at *; exact h.trans k) (fun a b => by
  simp only [Bool.or_eq_true, decide_eq_true_eq]; unfold leM ltM; omega) xs
 exact h.imp fun h => by simpa using h
theorem srtM_of {xs ys : List Mg} (hp : ys.Perm xs) (hs : ys.Pairwise leM) : ys = srtM xs := leM_uniq hs (srtM_srt xs) (hp.trans (srtM_perm xs).symm)
theorem srtM_len (xs : List Mg) : (srtM xs).length = xs.length := (srtM_perm xs).length_eq
theorem gDM {xs : List Mg} {k : Nat} (h : k < xs.length) : xs.getD k (0, 0, 0) = xs[k] := by
 rw [List.getD_eq_getElem?_getD, List.getElem?_eq_getElem h]; rfl
theorem srt_iff {xs : List Mg} : xs.Pairwise leM ↔ ∀ k, k < xs.length → 0 < k → leM (xs.getD (k - 1) (0, 0, 0)) (xs.getD k (0, 0, 0)) := by
 constructor
 ·intro h k hk h0
  rw [gDM hk, gDM (show k - 1 < xs.length by omega)]
  exact List.pairwise_iff_getElem.1 h (k - 1) k (by omega) hk (by omega)
 ·intro h
  rw [List.pairwise_iff_getElem]
  have step : ∀ d i (hh : i + d + 1 < xs.length), leM (xs[i]'(by omega)) xs[i + d + 1] := by
   intro d
   induction d with
   | zero =>
     intro i hh
     have h5 := h (i + 1) hh (by omega)
     rw [Nat.add_sub_cancel, gDM (by omega), gDM hh] at h5
     exact h5
   | succ d ih =>
     intro i hh
     have h5 := h (i + (d + 1) + 1) hh (by omega)
     rw [Nat.add_sub_cancel, gDM (by omega), gDM hh] at h5
     exact (ih i (by omega)).trans h5
  intro i j hi hj hij
  have := step (j - i - 1) i (by omega)
  simp only [show i + (j - i - 1) + 1 = j by omega] at this
  exact this
theorem l9_eq (a b : Mg) : spec_l9Before a.1 a.2.1 a.2.2 b.1 b.2.1 b.2.2 = some (decide (ltM a b)) := by
 unfold spec_l9Before ltM
 by_cases h1 : a.1 = b.1
 ·rw [if_neg (by simpa using h1)]
  by_cases h2 : a.2.1 = b.2.1
  ·rw [if_neg (by simpa using h2)]
   simp [h1, h2]
  ·rw [if_pos (by simpa using h2)]
   simp [h1, h2]
 ·rw [if_pos (by simpa using h1)]
  simp [h1]
theorem ins_pos {a0 L : List Mg} {k : Nat} (hk : k < a0.length) (hx : a0.length ≤ 1000000000) (hL : L.length ≤ 1000000000) :
 gives (loop (spec_SortMessages_b0 a0 k L) (L.length : Int)) fun t => ∃ p : Nat, t = p ∧ p ≤ L.length ∧ (∀ j, p ≤ j → j < L.length → ltM (a0.getD k (0, 0, 0)) (L.getD j (0, 0, 0))) ∧ (0 < p → leM (L.getD (p - 1) (0, 0, 0)) (a0.getD k (0, 0, 0))) := by
 refine gives_loop (fun p : Nat => (p : Int)) (fun p => p ≤ L.length ∧ ∀ j, p ≤ j → j < L.length → ltM (a0.getD k (0, 0, 0)) (L.getD j (0, 0, 0))) (fun p => p) ?_ L.length ⟨Nat.le_refl _, fun j h1 h2 => absurd h2 (by omega)⟩
 rintro p ⟨hp, hj⟩
 unfold spec_SortMessages_b0
 by_cases h0 : 0 < p
 ·have e1 : ((p : Int) - 1).toNat = p - 1 := by omega
  rw [chk_pos (by intro _; omega), chk_pos (by omega), chk_pos (by intro _; omega), if_pos (by simpa using h0), Int.toNat_natCast, e1, l9_eq]
  simp only [Option.bind_some]
  by_cases hb : ltM (a0.getD k (0, 0, 0)) (L.getD (p - 1) (0, 0, 0))
  ·rw [if_pos (by simp only [Bool.and_eq_true, decide_eq_true_eq]; exact ⟨by omega, hb⟩), chk_pos (by omega)]
   refine gives_some.2 ⟨p - 1, ⟨by omega, fun j h1 h2 => ?_⟩, by omega, by omega⟩
   by_cases hjp : j = p - 1
   ·subst hjp; exact hb
   ·exact hj j (by omega) h2
  ·rw [if_neg (by simp only [Bool.and_eq_true, decide_eq_true_eq]; exact fun h => hb h.2)]
   exact gives_some.2 ⟨p, rfl, hp, hj, fun _ => hb⟩
 ·rw [chk_pos (by intro h; simp at h; omega), chk_pos (by omega), chk_pos (by intro h; simp at h; omega), if_neg (by simpa using h0)]
  simp only [Option.bind_some]
  rw [if_neg (by simp <;> omega)]
  exact gives_some.2 ⟨p, rfl, hp, hj, fun h => absurd h h0⟩
theorem take_drop_srt {L : List Mg} {x : Mg} {p : Nat} (hs : L.Pairwise leM) (hp : p ≤ L.length) (h1 : ∀ j, p ≤ j → j < L.length → ltM x (L.getD j (0, 0, 0))) (h2 : 0 < p → leM (L.getD (p - 1) (0, 0, 0)) x) :
 (L.take p ++ x :: L.drop p).Pairwise leM := by
 rw [List.pairwise_append]
 have hs' := hs
 rw [← List.take_append_drop p L, List.pairwise_append] at hs'
 refine ⟨hs'.1, List.pairwise_cons.2 ⟨fun b hb => ?_, hs'.2.1⟩, fun a ha b hb => ?_⟩
 ·obtain ⟨i, hi, rfl⟩ := List.getElem_of_mem hb
  rw [List.length_drop] at hi
  have := h1 (p + i) (by omega) (by omega)
  rw [gDM (by omega)] at this
  rw [List.getElem_drop]
  exact this.le
 ·have hax : leM a x := by
   obtain ⟨i, hi, rfl⟩ := List.getElem_of_mem ha
   rw [List.length_take] at hi
   have h3 := h2 (by omega)
   rw [gDM (by omega)] at h3
   rw [List.getElem_take]
   by_cases hip : i = p - 1
   ·subst hip; exact h3
   ·exact (List.pairwise_iff_getElem.1 hs i (p - 1) (by omega) (by omega) (by omega)).trans h3
  rcases List.mem_cons.1 hb with rfl | hb
  ·exact hax
  ·exact hs'.2.2 a ha b hb
theorem take_snoc {xs : List Mg} {k : Nat} (h : k < xs.length) : xs.take (k + 1) = xs.take k ++ [xs.getD k (0, 0, 0)] := by
 rw [gDM h, List.take_append_getElem]
theorem spec_SortMessages_eq {xs : List Mg} (hx : xs.length ≤ 2000) : spec_SortMessages xs = some (srtM xs) := by
 refine gives_eq.1 ?_
 unfold spec_SortMessages
 refine gives_bind.2 ?_
 refine gives_loop (Q := fun t => gives (some t) fun b => b = srtM xs) (fun s : Nat × List Mg => ((s.1 : Int), s.2)) (fun s => s.1 ≤ xs.length ∧ s.2.Pairwise leM ∧ s.2.Perm (xs.take s.1)) (fun s => xs.length - s.1) ?_ (0, []) ⟨Nat.zero_le _, .nil, by simp⟩
 rintro ⟨k, L⟩ ⟨hk, hs, hp⟩
 have hL : L.length = k := by rw [hp.length_eq, List.length_take]; simp only at *; omega
 simp only at hk
 simp only [spec_SortMessages_b1]
 by_cases h : k < xs.length
 ·rw [if_pos (by simp; omega)]
  refine gives_bind.2 ((ins_pos h (by omega) (by omega)).mono ?_)
  rintro t ⟨p, rfl, hp1, hp2, hp3⟩
  have e1 : ((L.take L.length).drop (p : Int).toNat) = L.drop p := by simp
  have e2 : ((L.take (p : Int).toNat).drop 0) = L.take p := by simp
  rw [e1, e2, Int.toNat_natCast, chk_pos (by omega), chk_pos (by simp; omega), chk_pos (by omega), chk_pos (by omega), chk_pos (by simp; omega), chk_pos (by simp; omega), chk_pos (by omega)]
  have hperm : (L.take p ++ xs.getD k (0, 0, 0) :: L.drop p).Perm (xs.take (k + 1)) := by
   refine List.perm_middle.trans ?_
   rw [List.take_append_drop, take_snoc h]
   exact (hp.cons _).trans (List.perm_append_comm (l₁ := [_]))
  refine gives_some.2 ⟨(k + 1, L.take p ++ xs.getD k (0, 0, 0) :: L.drop p), ⟨by simp only; omega, take_drop_srt hs hp1 hp2 hp3, hperm⟩, by simp only; omega, ?_⟩
  simp
 ·rw [if_neg (by simp; omega)]
  refine gives_some.2 (gives_some.2 (srtM_of ?_ hs))
  rw [List.take_of_length_le (by simp only; omega)] at hp
  exact hp
end Go.Proofs.YteoedigfnfjopaaGreat
