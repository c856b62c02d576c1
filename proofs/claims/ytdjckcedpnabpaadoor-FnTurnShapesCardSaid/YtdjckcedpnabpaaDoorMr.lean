/- Forests as they are made: a tree for every part. -/
import Derived.Test.YtdjckcedpnabpaaDoorMo
import Derived.Test.YtdjckcedpnabpaaDoorMp
set_option linter.unusedSimpArgs false
set_option linter.unusedVariables false
namespace Go.Proofs.YtdjckcedpnabpaaDoor
open Go Go.Av
attribute [local go_sem] gives_chk gives_ite gives_some gives_bind gives_join Sum.elim_inl Sum.elim_inr decide_eq_true_eq decide_eq_false_iff_not Bool.not_eq_true' Bool.not_eq_false' Bool.or_eq_true Bool.and_eq_true Bool.not_eq_eq_eq_not beq_iff_eq bne_iff_ne ne_eq Bool.or_eq_false_iff Bool.and_eq_false_iff Bool.not_eq_true Bool.not_eq_false Bool.not_true Bool.not_false Int.toNat_natCast beq_eq_false_iff_ne bne_eq_false_iff_eq Decidable.not_not Bool.default_bool

/-- v lies in the part of k. -/
def InC (es : List (Int × Int × Int)) (k v : Int) : Prop := ∀ S : Int → Prop, (∀ u w, S u → Adj es u w → S w) → S k → S v
theorem Adj.symm {es : List (Int × Int × Int)} {a b : Int} (h : Adj es a b) : Adj es b a := h.elim .inr .inl
theorem InC.refl {es : List (Int × Int × Int)} {k : Int} : InC es k k := fun _ _ h => h
theorem InC.step {es : List (Int × Int × Int)} {k u w : Int} (h : InC es k u) (ha : Adj es u w) : InC es k w := fun S hS hk => hS u w (h S hS hk) ha
theorem InC.trans {es : List (Int × Int × Int)} {a b c : Int} (h : InC es a b) (g : InC es b c) : InC es a c := fun S hS hk => g S hS (h S hS hk)
theorem InC.symm {es : List (Int × Int × Int)} {k v : Int} (h : InC es k v) : InC es v k :=
  h (fun x => InC es x k) (fun _ _ hu ha => (InC.refl.step ha.symm).trans hu) InC.refl
theorem adj_in {n : Int} {es : List (Int × Int × Int)} (hg : GOk n es) {a b : Int} (hab : Adj es a b) : (0 ≤ a ∧ a < n) ∧ 0 ≤ b ∧ b < n := by
  rcases hab with ⟨j, h1, h2, h3⟩ | ⟨j, h1, h2, h3⟩ <;> have he := gok_len hg h1 <;> simp only [EOk] at he <;> omega
/-- Trees that lead upwards. -/
def TreF (n : Nat) (es : List (Int × Int × Int)) (ps : List Int) (B : Nat) (d rt : Nat → Nat) : Prop := ∀ v, v < n → 0 ≤ ps.getD v 0 →
  rt v < B ∧ InC es (rt v : Nat) (v : Nat) ∧ (∀ j : Nat, j < rt v → ¬ InC es (j : Nat) (v : Nat)) ∧ d v + neg ps < n ∧
    ((ps.getD v 0 = (v : Nat) ∧ rt v = v ∧ d v = 0) ∨ ∃ u : Nat, u < n ∧ ps.getD v 0 = (u : Nat) ∧ u ≠ v ∧ Adj es (v : Nat) (u : Nat) ∧ 0 ≤ ps.getD u 0 ∧ d v = d u + 1 ∧ rt u = rt v)
def Tre (n : Nat) (es : List (Int × Int × Int)) (ps : List Int) (B : Nat) : Prop := ps.length = n ∧ Mm ps ∧ ∃ d rt : Nat → Nat, TreF n es ps B d rt
theorem Tre.put {n B v w : Nat} {es : List (Int × Int × Int)} {ps : List Int} (h : Tre n es ps B) (hv : v < n) (hpv : 0 ≤ ps.getD v 0) (hw : w < n) (hpw : ps.getD w 0 < 0) (ha : Adj es (v : Nat) (w : Nat)) : Tre n es (ps.set w (v : Nat)) B := by
  obtain ⟨hl, hm, d, rt, hF⟩ := h
  have hng := neg_set (l := ps) (x := ((v : Nat) : Int)) (by omega) (i := w) (by omega) hpw
  have hvw : v ≠ w := fun e => by subst e; omega
  have hget := fun x => getD_set ps w x ((v : Nat) : Int) 0 (by omega)
  refine ⟨by simp [hl], hm.set (by omega) (by omega), fun x => if x = w then d v + 1 else d x, fun x => if x = w then rt v else rt x, fun x hx hpx => ?_⟩
  by_cases hxw : x = w
  · subst hxw
    obtain ⟨a1, a2, a3, a4, _⟩ := hF v hv hpv
    simp only [↓reduceIte]
    refine ⟨a1, a2.step ha, fun j hj hh => a3 j hj (hh.step ha.symm), by omega, .inr ⟨v, hv, by rw [hget, if_pos rfl], hvw, ha.symm, by rw [hget, if_neg hvw]; exact hpv, by rw [if_neg hvw], by rw [if_neg hvw]⟩⟩
  · rw [hget, if_neg hxw] at hpx
    obtain ⟨a1, a2, a3, a4, a5⟩ := hF x hx hpx
    simp only [if_neg hxw]
    refine ⟨a1, a2, a3, by omega, ?_⟩
    rcases a5 with ⟨b1, b2, b3⟩ | ⟨u, b1, b2, b3, b4, b5, b6, b7⟩
    · exact .inl ⟨by rw [hget, if_neg hxw]; exact b1, b2, b3⟩
    · have huw : u ≠ w := fun e => by subst e; omega
      exact .inr ⟨u, b1, by rw [hget, if_neg hxw]; exact b2, b3, b4, by rw [hget, if_neg huw]; exact b5, by rw [if_neg huw]; exact b6, by rw [if_neg huw]; exact b7⟩
theorem Tre.more {n B C : Nat} {es : List (Int × Int × Int)} {ps : List Int} (h : Tre n es ps B) (hc : B ≤ C) : Tre n es ps C := by
  obtain ⟨hl, hm, d, rt, hF⟩ := h
  exact ⟨hl, hm, d, rt, fun v hv hp => ⟨by have := (hF v hv hp).1; omega, (hF v hv hp).2⟩⟩
/-- What is in and not in the queue has all its neighbours in. -/
def QI (n : Nat) (es : List (Int × Int × Int)) (ps q : List Int) : Prop := ∀ x : Nat, x < n → 0 ≤ ps.getD x 0 → ((x : Nat) : Int) ∈ q ∨ ∀ w : Nat, Adj es (x : Nat) (w : Nat) → 0 ≤ ps.getD w 0
theorem closed_in {n : Int} {es : List (Int × Int × Int)} {ps : List Int} (hg : GOk n es) (hq : QI n.toNat es ps []) {k v : Nat} (hk : k < n.toNat) (hpk : 0 ≤ ps.getD k 0) (h : InC es (k : Nat) (v : Nat)) : 0 ≤ ps.getD v 0 := by
  have := h (fun x => (0 ≤ x ∧ x < n) ∧ 0 ≤ ps.getD x.toNat 0) (fun u w hu ha => by
    have hin := adj_in hg ha
    refine ⟨hin.2, ?_⟩
    rcases hq u.toNat (by omega) hu.2 with h | h
    · cases h
    · exact h w.toNat (by rw [show ((u.toNat : Nat) : Int) = u from by omega, show ((w.toNat : Nat) : Int) = w from by omega]; exact ha)) ⟨by omega, by rw [Int.toNat_natCast]; exact hpk⟩
  rw [Int.toNat_natCast] at this
  exact this.2
/-! The least of every part. -/
def SOk (n : Nat) (es : List (Int × Int × Int)) (k : Nat) (t : List Int) : Prop := t.length = n ∧ 0 ≤ t.getD k 0 ∧ ∀ v, v < n → t.getD v 0 = -1 ∨ (0 ≤ t.getD v 0 ∧ t.getD v 0 + neg t < n ∧ InC es (k : Nat) (v : Nat))
theorem SOk.put {n k v w : Nat} {es : List (Int × Int × Int)} {t : List Int} (h : SOk n es k t) (hv : v < n) (hpv : 0 ≤ t.getD v 0) (hw : w < n) (hpw : t.getD w 0 < 0) (ha : Adj es (v : Nat) (w : Nat)) : SOk n es k (t.set w (t.getD v 0 + 1)) := by
  obtain ⟨hl, hk, hF⟩ := h
  have hng := neg_set (l := t) (x := t.getD v 0 + 1) (by omega) (i := w) (by omega) hpw
  have hget := fun x => getD_set t w x (t.getD v 0 + 1) 0 (by omega)
  refine ⟨by simp [hl], ?_, fun x hx => ?_⟩
  · rw [hget]; split <;> omega
  · rw [hget]
    by_cases hxw : x = w
    · rw [if_pos hxw]
      rcases hF v hv with h | ⟨h1, h2, h3⟩
      · omega
      · exact .inr ⟨by omega, by omega, by rw [hxw]; exact h3.step ha⟩
    · rw [if_neg hxw]
      rcases hF x hx with h | ⟨h1, h2, h3⟩
      · exact .inl h
      · exact .inr ⟨h1, by omega, h3⟩
theorem steps_row {n : Int} {es : List (Int × Int × Int)} {k : Nat} {t q : List Int} {v : Int} (hg : GOk n es) (h1 : SOk n.toNat es k t) (hi : Inn n (v :: q)) (h3 : ∀ x ∈ v :: q, 0 ≤ t.getD x.toNat 0) (h4 : QI n.toNat es t (v :: q)) (h5 : (v :: q).length + neg t ≤ 17) :
    gives (loop (impl_stepsOver_b0 (v :: q) (nearL n es v n.toNat)) (0, t, q)) fun x => SOk n.toNat es k x.1 ∧ Inn n x.2 ∧ (∀ y ∈ x.2, 0 ≤ x.1.getD y.toNat 0) ∧ QI n.toNat es x.1 x.2 ∧ x.2.length + neg x.1 = q.length + neg t := by
  have h16 := hg.2.1
  obtain ⟨⟨v0, v1⟩, h8⟩ := hi.cons
  obtain ⟨hni, hnl⟩ := near_inn hg v
  have hvn : ((v.toNat : Nat) : Int) = v := by omega
  have hmem : ∀ u : Int, u ∈ nearL n es v n.toNat ↔ (0 ≤ u ∧ u < n.toNat ∧ Adj es v u) := fun u => nearL_mem n.toNat
  have hget' : ∀ i, (hi : i < (nearL n es v n.toNat).length) → (nearL n es v n.toNat).getD i 0 = (nearL n es v n.toNat)[i] := fun i hi => by rw [List.getD_eq_getElem?_getD, List.getElem?_eq_getElem hi, Option.getD_some]
  simp only [List.length_cons] at h5
  refine loop_to (fun s : Nat × List Int × List Int => ((s.1 : Int), s.2.1, s.2.2)) (fun s => s.1 ≤ (nearL n es v n.toNat).length ∧ SOk n.toNat es k s.2.1 ∧ Inn n s.2.2 ∧ (∀ y ∈ s.2.2, 0 ≤ s.2.1.getD y.toNat 0) ∧ 0 ≤ s.2.1.getD v.toNat 0 ∧ (∀ i, i < s.1 → 0 ≤ s.2.1.getD ((nearL n es v n.toNat).getD i 0).toNat 0) ∧
      (∀ x : Nat, x < n.toNat → 0 ≤ s.2.1.getD x 0 → (x : Int) = v ∨ (x : Int) ∈ s.2.2 ∨ ∀ w : Nat, Adj es (x : Nat) (w : Nat) → 0 ≤ s.2.1.getD w 0) ∧ s.2.2.length + neg s.2.1 = q.length + neg t) (fun s => (nearL n es v n.toNat).length - s.1) (0, t, q) rfl
    ⟨Nat.zero_le _, h1, h8, fun y hy => h3 y (List.mem_cons_of_mem _ hy), h3 v List.mem_cons_self, fun i hi => absurd hi (Nat.not_lt_zero _), fun x hx hpx => ?_, rfl⟩ ?_
  · rcases h4 x hx hpx with h | h
    · rcases List.mem_cons.1 h with h | h
      · exact .inl h
      · exact .inr (.inl h)
    · exact .inr (.inr h)
  rintro ⟨j, t', q'⟩ ⟨g1, g2, g3, g4, g5, g6, g7, g8⟩
  simp only at g1 g2 g3 g4 g5 g6 g7 g8
  have gl := g2.1
  simp only [impl_stepsOver_b0, List.getD_cons_zero, go_sem]
  refine ⟨fun hc => ?_, fun hc => ⟨g2, g3, g4, fun x hx hpx => ?_, g8⟩⟩
  · have hw := hni j (by omega)
    have hwn : ((((nearL n es v n.toNat).getD j 0).toNat : Nat) : Int) = (nearL n es v n.toNat).getD j 0 := by omega
    have hav : Adj es v ((nearL n es v n.toNat).getD j 0) := ((hmem _).1 (by rw [hget' j (by omega)]; exact List.getElem_mem _)).2.2
    have hgw := getD_set t' ((nearL n es v n.toNat).getD j 0).toNat
    have hwv := g2.2.2 v.toNat (by omega)
    refine ⟨by omega, by omega, fun hm1 => ?_, fun hm1 => ?_⟩
    · have hput := g2.put (v := v.toNat) (w := ((nearL n es v n.toNat).getD j 0).toNat) (by omega) g5 (by omega) (by omega) (by rw [hvn, hwn]; exact hav)
      have hng := neg_set (l := t') (x := t'.getD v.toNat 0 + 1) (by omega) (i := ((nearL n es v n.toNat).getD j 0).toNat) (by omega) (by omega)
      have hget := fun x => hgw x (t'.getD v.toNat 0 + 1) 0 (by omega)
      have hmono : ∀ x, 0 ≤ t'.getD x 0 → 0 ≤ (t'.set ((nearL n es v n.toNat).getD j 0).toNat (t'.getD v.toNat 0 + 1)).getD x 0 := fun x hx => by
        rw [hget]; split
        · omega
        · exact hx
      refine ⟨by omega, by omega, by omega, by omega, by omega, (j + 1, _, _), ⟨by simp only; omega, hput, g3.snoc (by omega), fun y hy => ?_, hmono _ g5, fun i hi => ?_, fun x hx hpx => ?_, by simp only [List.length_append, List.length_cons, List.length_nil]; omega⟩, by simp only; omega, by simp only [Int.natCast_add, Int.natCast_one]⟩
      · rcases List.mem_append.1 hy with hy | hy
        · exact hmono _ (g4 y hy)
        · rw [List.mem_singleton.1 hy]; simp only; rw [hget, if_pos rfl]; omega
      · simp only at hi ⊢
        by_cases hij : i = j
        · subst hij; rw [hget, if_pos rfl]; omega
        · exact hmono _ (g6 i (by omega))
      · simp only at hpx ⊢
        rw [hget] at hpx
        by_cases hxw : x = ((nearL n es v n.toNat).getD j 0).toNat
        · exact .inr (.inl (List.mem_append_right _ (by rw [hxw, hwn]; simp)))
        · rw [if_neg hxw] at hpx
          rcases g7 x hx hpx with h | h | h
          · exact .inl h
          · exact .inr (.inl (List.mem_append_left _ h))
          · exact .inr (.inr fun w hw => hmono w (h w hw))
    · refine ⟨by omega, (j + 1, t', q'), ⟨by simp only; omega, g2, g3, g4, g5, fun i hi => ?_, g7, g8⟩, by simp only; omega, by simp only [Int.natCast_add, Int.natCast_one]⟩
      simp only at hi ⊢
      by_cases hij : i = j
      · subst hij
        rcases g2.2.2 ((nearL n es v n.toNat).getD i 0).toNat (by omega) with h | h
        · omega
        · exact h.1
      · exact g6 i (by omega)
  · rcases g7 x hx hpx with h | h | h
    · refine .inr fun w hw => ?_
      rw [h] at hw
      have hin := adj_in hg hw
      obtain ⟨i, hi1, hi2⟩ := List.mem_iff_getElem.1 ((hmem ((w : Nat) : Int)).2 ⟨by omega, by omega, hw⟩)
      have := g6 i (by omega)
      rwa [hget' i hi1, hi2, Int.toNat_natCast] at this
    · exact .inl h
    · exact .inr h
theorem steps_ok {n : Int} {es : List (Int × Int × Int)} {ms : List Int} {k : Nat} (hg : GOk n es) (hm : MaskOk n ms fun v w => Adj es v w) (hk : k < n.toNat) : gives (impl_stepsOver ms (k : Int)) fun r => r.length = n.toNat ∧ ∀ v, v < n.toNat → (r.getD v 0 = -1 ↔ ¬ InC es (k : Nat) (v : Nat)) := by
  have h0 := hg.1
  have h16 := hg.2.1
  have hml := hm.1
  unfold impl_stepsOver
  rw [impl_unknowns_eq (by omega) (by omega)]
  simp only [Option.bind_some, Int.toNat_natCast]
  rw [chk_pos (by simp only [List.length_replicate]; omega)]
  have hz : ∀ x, x < ms.length → (List.replicate ms.length (-1 : Int)).getD x 0 = -1 := fun x hx => by
    simp only [List.getD_eq_getElem?_getD, List.getElem?_replicate]; rw [if_pos hx]; rfl
  have hng := neg_set (l := List.replicate ms.length (-1 : Int)) (x := 0) (by omega) (i := k) (by simp only [List.length_replicate]; omega) (by rw [hz k (by omega)]; omega)
  have hnl := neg_le (List.replicate ms.length (-1 : Int))
  rw [List.length_replicate] at hnl
  have hget := fun x => getD_set (List.replicate ms.length (-1 : Int)) k x 0 0 (by simp only [List.length_replicate]; omega)
  rw [gives_bind]
  refine (loop_to (Q := fun r => r.length = n.toNat ∧ ∀ v, v < n.toNat → (r.getD v 0 = -1 ↔ ¬ InC es (k : Nat) (v : Nat))) (fun s : List Int × List Int => s) (fun s => SOk n.toNat es k s.1 ∧ Inn n s.2 ∧ (∀ y ∈ s.2, 0 ≤ s.1.getD y.toNat 0) ∧ QI n.toNat es s.1 s.2 ∧ s.2.length + neg s.1 ≤ 17) (fun s => s.2.length + neg s.1) ((List.replicate ms.length (-1 : Int)).set k 0, [(k : Int)]) rfl ⟨?_, ?_, ?_, ?_, ?_⟩ ?_).mono fun r hr => gives_some.2 hr
  · refine ⟨by simp only [List.length_set, List.length_replicate]; omega, by rw [hget, if_pos rfl]; omega, fun v hv => ?_⟩
    rw [hget]
    by_cases hvk : v = k
    · rw [if_pos hvk]; exact .inr ⟨by omega, by simp only; omega, by rw [hvk]; exact InC.refl⟩
    · rw [if_neg hvk]; exact .inl (hz v (by omega))
  · intro j hj
    simp only [List.length_cons, List.length_nil] at hj
    rw [show j = 0 from by omega]; simp only [List.getD_cons_zero]; omega
  · intro x hx
    simp only at hx ⊢
    rw [List.mem_singleton.1 hx, Int.toNat_natCast, hget, if_pos rfl]; omega
  · intro x hx hpx
    simp only at hpx ⊢
    by_cases hxk : x = k
    · exact .inl (by rw [hxk]; simp)
    · rw [hget, if_neg hxk, hz x (by omega)] at hpx; omega
  · simp only [List.length_cons, List.length_nil]; omega
  · rintro ⟨t, q⟩ ⟨g1, g2, g3, g4, g5⟩
    simp only at g1 g2 g3 g4 g5
    simp only [impl_stepsOver_b1]
    cases q with
    | nil =>
      rw [if_neg (by simp), gives_some]
      refine ⟨g1.1, fun v hv => ⟨fun he h => ?_, fun h => ?_⟩⟩
      · have := closed_in hg g4 hk g1.2.1 h
        omega
      · rcases g1.2.2 v hv with h2 | ⟨_, _, h2⟩
        · exact h2
        · exact absurd h2 h
    | cons v q =>
      obtain ⟨⟨v0, v1⟩, hq⟩ := g2.cons
      have hadj : ∀ a b : Nat, Adj es a b → b < n.toNat := fun a b hab => by have := adj_in hg hab; omega
      have hL : impl_vertexMask_list (ms.getD v.toNat 0) = some (nearL n es v n.toNat) := by
        rw [impl_list_near (n := n) (es := es) (v := v.toNat) h16 hm hadj (by omega), nearL_sel, show ((v.toNat : Nat) : Int) = v from by omega]
      have hd : ((v :: q).take (v :: q).length).drop 1 = q := by simp
      have hr := steps_row hg g1 g2 g3 g4 g5
      simp only [List.length_cons] at g5
      rw [if_pos (by simp only [decide_eq_true_eq, List.length_cons]; omega), chk_pos (by simp only [List.length_cons]; omega), chk_pos (by simp only [List.length_cons]; omega), chk_pos (by simp only [List.getD_cons_zero]; omega), hd, List.getD_cons_zero, hL]
      simp only [Option.bind_some]
      rw [gives_bind]
      refine hr.mono ?_
      rintro ⟨t', q'⟩ ⟨r1, r2, r3, r4, r5⟩
      simp only at r1 r2 r3 r4 r5
      rw [gives_some]
      exact ⟨(t', q'), ⟨r1, r2, r3, r4, by simp only; omega⟩, by simp only [List.length_cons]; omega, rfl⟩
def LOk (n : Nat) (es : List (Int × Int × Int)) (k : Nat) (t : List Int) : Prop := t.length = n ∧ ∀ v, v < n → (t.getD v 0 = -1 ∧ ∀ j : Nat, j < k → ¬ InC es (j : Nat) (v : Nat)) ∨ ∃ j : Nat, j < k ∧ t.getD v 0 = (j : Nat) ∧ InC es (j : Nat) (v : Nat) ∧ ∀ i : Nat, i < j → ¬ InC es (i : Nat) (v : Nat)
theorem least_row {n : Int} {k : Nat} {t r : List Int} (hn : n ≤ 16) (hl : t.length = n.toNat) (hr : r.length = n.toNat) :
    gives (loop (impl_LeastInPart_b0 (k : Int) r) (0, t)) fun x => x.length = n.toNat ∧ ∀ v, v < n.toNat → x.getD v 0 = if r.getD v 0 = -1 then t.getD v 0 else (k : Nat) := by
  refine loop_to (fun s : Nat × List Int => ((s.1 : Int), s.2)) (fun s => s.1 ≤ n.toNat ∧ s.2.length = n.toNat ∧ ∀ v, v < n.toNat → s.2.getD v 0 = if v < s.1 ∧ ¬ r.getD v 0 = -1 then ((k : Nat) : Int) else t.getD v 0) (fun s => n.toNat - s.1) (0, t) rfl ⟨Nat.zero_le _, hl, fun v hv => by rw [if_neg (fun h => absurd h.1 (Nat.not_lt_zero _))]⟩ ?_
  rintro ⟨j, t'⟩ ⟨g1, g2, g3⟩
  simp only at g1 g2 g3
  simp only [impl_LeastInPart_b0, go_sem]
  refine ⟨fun hc => ⟨by omega, fun h1 => ⟨by omega, by omega, (j + 1, t'.set j (k : Int)), ⟨by simp only; omega, by simp only [List.length_set]; exact g2, fun v hv => ?_⟩, by simp only; omega, by simp only [Int.natCast_add, Int.natCast_one]⟩, fun h1 => ⟨by omega, (j + 1, t'), ⟨by simp only; omega, g2, fun v hv => ?_⟩, by simp only; omega, by simp only [Int.natCast_add, Int.natCast_one]⟩⟩, fun hc => ⟨g2, fun v hv => ?_⟩⟩
  · simp only
    rw [getD_set _ _ _ _ _ (by omega)]
    by_cases hvj : v = j
    · subst hvj; rw [if_pos rfl, if_pos ⟨by omega, h1⟩]
    · rw [if_neg hvj, g3 v hv]
      by_cases hh : v < j ∧ ¬ r.getD v 0 = -1
      · rw [if_pos hh, if_pos ⟨by omega, hh.2⟩]
      · rw [if_neg hh, if_neg (fun h => hh ⟨by omega, h.2⟩)]
  · simp only
    rw [g3 v hv]
    by_cases hh : v < j ∧ ¬ r.getD v 0 = -1
    · rw [if_pos hh, if_pos ⟨by omega, hh.2⟩]
    · rw [if_neg hh, if_neg (fun h => hh ⟨by
        by_cases hvj : v = j
        · subst hvj; exact absurd h1 h.2
        · omega, h.2⟩)]
  · rw [g3 v hv]
    by_cases hh : r.getD v 0 = -1
    · rw [if_neg (fun h => h.2 hh), if_pos hh]
    · rw [if_pos ⟨by omega, hh⟩, if_neg hh]
theorem least_ok {n : Int} {es : List (Int × Int × Int)} (hg : GOk n es) : gives (impl_LeastInPart n es) fun r => r.length = n.toNat ∧ ∀ v, v < n.toNat → (r.getD v 0 = (v : Nat) ↔ ∀ j : Nat, j < v → ¬ InC es (j : Nat) (v : Nat)) := by
  have h0 := hg.1
  have h16 := hg.2.1
  unfold impl_LeastInPart
  rw [impl_GraphValid_eq, gok_true hg]
  simp only [Option.bind_some]
  rw [if_neg (by simp), gives_bind]
  refine (impl_nearMasks_ok hg).mono fun ms hm => ?_
  rw [impl_unknowns_eq h0 (by omega)]
  simp only [Option.bind_some]
  rw [gives_bind]
  have hz : ∀ x, x < n.toNat → (List.replicate n.toNat (-1 : Int)).getD x 0 = -1 := fun x hx => by
    simp only [List.getD_eq_getElem?_getD, List.getElem?_replicate]; rw [if_pos hx]; rfl
  refine (loop_to (Q := fun r => LOk n.toNat es n.toNat r) (fun s : Nat × List Int => ((s.1 : Int), s.2)) (fun s => s.1 ≤ n.toNat ∧ LOk n.toNat es s.1 s.2) (fun s => n.toNat - s.1) (0, List.replicate n.toNat (-1)) rfl ⟨Nat.zero_le _, by simp, fun v hv => .inl ⟨hz v hv, fun j hj => absurd hj (Nat.not_lt_zero _)⟩⟩ ?_).mono ?_
  · rintro ⟨k, t⟩ ⟨g1, g2⟩
    simp only at g1 g2
    obtain ⟨gl, gF⟩ := g2
    simp only [impl_LeastInPart_b1, List.length_replicate, go_sem]
    refine ⟨fun hc => ⟨by omega, fun h1 => ⟨by omega, (k + 1, t), ⟨by simp only; omega, gl, fun v hv => ?_⟩, by simp only; omega, by simp only [Int.natCast_add, Int.natCast_one]⟩, fun h1 => ?_⟩, fun hc => by rw [show n.toNat = k from by omega] at gl gF ⊢; exact ⟨gl, gF⟩⟩
    · rcases gF k (by omega) with ⟨h2, _⟩ | ⟨j, j1, j2, j3, j4⟩
      · exact absurd h2 h1
      · rcases gF v hv with ⟨h3, h4⟩ | ⟨i, i1, i2, i3, i4⟩
        · refine .inl ⟨h3, fun i hi hh => ?_⟩
          simp only at hi
          by_cases hik : i = k
          · subst hik; exact h4 j j1 (j3.trans hh)
          · exact h4 i (by omega) hh
        · exact .inr ⟨i, by simp only; omega, i2, i3, i4⟩
    · have hno : ∀ j : Nat, j < k → ¬ InC es (j : Nat) (k : Nat) := by
        rcases gF k (by omega) with ⟨_, h2⟩ | ⟨j, j1, j2, j3, j4⟩
        · exact h2
        · rw [h1] at j2; omega
      refine (steps_ok hg hm (k := k) (by omega)).mono ?_
      rintro r ⟨r1, r2⟩
      refine (least_row (k := k) h16 gl r1).mono ?_
      rintro t' ⟨p1, p2⟩
      refine ⟨by omega, (k + 1, t'), ⟨by simp only; omega, p1, fun v hv => ?_⟩, by simp only; omega, by simp only [Int.natCast_add, Int.natCast_one]⟩
      simp only
      rw [p2 v hv]
      by_cases hv1 : r.getD v 0 = -1
      · rw [if_pos hv1]
        have hvn := (r2 v hv).1 hv1
        rcases gF v hv with ⟨h3, h4⟩ | ⟨i, i1, i2, i3, i4⟩
        · refine .inl ⟨h3, fun i hi hh => ?_⟩
          by_cases hik : i = k
          · subst hik; exact hvn hh
          · exact h4 i (by omega) hh
        · exact .inr ⟨i, by omega, i2, i3, i4⟩
      · rw [if_neg hv1]
        have hin : InC es (k : Nat) (v : Nat) := Classical.byContradiction fun h => hv1 ((r2 v hv).2 h)
        exact .inr ⟨k, by omega, rfl, hin, fun i hi hh => hno i hi (hh.trans hin.symm)⟩
  · rintro r ⟨r1, r2⟩
    rw [gives_some]
    refine ⟨r1, fun v hv => ?_⟩
    rcases r2 v hv with ⟨_, h2⟩ | ⟨j, j1, j2, j3, j4⟩
    · exact absurd InC.refl (h2 v hv)
    · constructor
      · intro he
        have : j = v := by omega
        rw [this] at j4; exact j4
      · intro hno
        rcases Nat.lt_trichotomy j v with h | h | h
        · exact absurd j3 (hno j h)
        · rw [j2, h]
        · exact absurd InC.refl (j4 v h)
end Go.Proofs.YtdjckcedpnabpaaDoor
