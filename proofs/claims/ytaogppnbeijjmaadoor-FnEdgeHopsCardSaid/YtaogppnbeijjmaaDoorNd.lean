/- Ways of edges, and hops. -/
import Derived.Test.YtaogppnbeijjmaaDoorMr
import Derived.Test.YtaogppnbeijjmaaDoorNb
set_option linter.unusedSimpArgs false
set_option linter.unusedVariables false
namespace Go.Proofs.YtaogppnbeijjmaaDoor
open Go Go.Av
attribute [local go_sem] gives_chk gives_ite gives_some gives_bind gives_join Sum.elim_inl Sum.elim_inr decide_eq_true_eq decide_eq_false_iff_not Bool.not_eq_true' Bool.not_eq_false' Bool.or_eq_true Bool.and_eq_true Bool.not_eq_eq_eq_not beq_iff_eq bne_iff_ne ne_eq Bool.or_eq_false_iff Bool.and_eq_false_iff Bool.not_eq_true Bool.not_eq_false Bool.not_true Bool.not_false Int.toNat_natCast beq_eq_false_iff_ne bne_eq_false_iff_eq Decidable.not_not Bool.default_bool

/-- A way of k steps. -/
def Wk (R : Nat → Nat → Prop) : Nat → Nat → Nat → Prop
  | 0, a, b => a = b
  | k + 1, a, b => ∃ c, Wk R k a c ∧ R c b
/-- The least number of steps, -1 for none. -/
def HopV (R : Nat → Nat → Prop) (s v : Nat) (x : Int) : Prop := (∃ k : Nat, x = (k : Int) ∧ Wk R k s v ∧ ∀ j, j < k → ¬ Wk R j s v) ∨ (x = -1 ∧ ∀ k, ¬ Wk R k s v)
theorem HopV.uniq {R : Nat → Nat → Prop} {s v : Nat} {x y : Int} (h : HopV R s v x) (g : HopV R s v y) : x = y := by
  rcases h with ⟨k, h1, h2, h3⟩ | ⟨h1, h2⟩ <;> rcases g with ⟨j, g1, g2, g3⟩ | ⟨g1, g2⟩
  · rcases Nat.lt_trichotomy k j with h | h | h
    · exact absurd h2 (g3 k h)
    · omega
    · exact absurd g2 (h3 j h)
  · exact absurd h2 (g2 k)
  · exact absurd g2 (h2 j)
  · omega
def HopL (n : Nat) (R : Nat → Nat → Prop) (s : Nat) (d : List Int) : Prop := d.length = n ∧ ∀ v, v < n → HopV R s v (d.getD v 0)
theorem HopL.uniq {n s : Nat} {R : Nat → Nat → Prop} {d e : List Int} (h : HopL n R s d) (g : HopL n R s e) : d = e :=
  list_eq_of (d := 0) (by rw [h.1, g.1]) fun v hv => (h.2 v (by rw [← h.1]; exact hv)).uniq (g.2 v (by rw [← h.1]; exact hv))

/-! Breadth first. -/
def BL (n : Nat) (R : Nat → Nat → Prop) (s : Nat) (d : List Int) : Prop := d.length = n ∧ d.getD s 0 = 0 ∧ ∀ v, v < n → d.getD v 0 = -1 ∨ (0 ≤ d.getD v 0 ∧ d.getD v 0 + neg d < n ∧ Wk R (d.getD v 0).toNat s v)
def BC (n : Nat) (R : Nat → Nat → Prop) (d : List Int) (P : Nat → Prop) : Prop := ∀ u, u < n → 0 ≤ d.getD u 0 → P u ∨ ∀ w, R u w → 0 ≤ d.getD w 0 ∧ d.getD w 0 ≤ d.getD u 0 + 1
/-- What waits is in order, from D to D + 1; nothing is farther. -/
def BO (n : Nat) (d q : List Int) (D : Int) : Prop := q.Pairwise (fun x y => d.getD x.toNat 0 ≤ d.getD y.toNat 0) ∧ (∀ x ∈ q, D ≤ d.getD x.toNat 0) ∧ ∀ v, v < n → d.getD v 0 ≤ D + 1
def BQ (n : Int) (R : Nat → Nat → Prop) (s : Nat) (d q : List Int) : Prop := BL n.toNat R s d ∧ Inn n q ∧ (∀ x ∈ q, 0 ≤ d.getD x.toNat 0) ∧ BC n.toNat R d (fun u => ((u : Nat) : Int) ∈ q) ∧ ∀ x q', q = x :: q' → BO n.toNat d q (d.getD x.toNat 0)
theorem BL.put {n s v w : Nat} {R : Nat → Nat → Prop} {d : List Int} (h : BL n R s d) (hs : s < n) (hv : v < n) (hpv : 0 ≤ d.getD v 0) (hw : w < n) (hpw : d.getD w 0 < 0) (ha : R v w) : BL n R s (d.set w (d.getD v 0 + 1)) := by
  obtain ⟨hl, hk, hF⟩ := h
  have hng := neg_set (l := d) (x := d.getD v 0 + 1) (by omega) (i := w) (by omega) hpw
  have hget := fun x => getD_set d w x (d.getD v 0 + 1) 0 (by omega)
  refine ⟨by simp [hl], ?_, fun x hx => ?_⟩
  · rw [hget, if_neg (fun e => by rw [← e] at hpw; omega)]; exact hk
  · rw [hget]
    by_cases hxw : x = w
    · rw [if_pos hxw]
      rcases hF v hv with h | ⟨h1, h2, h3⟩
      · omega
      · refine .inr ⟨by omega, by omega, ?_⟩
        rw [hxw, show (d.getD v 0 + 1).toNat = (d.getD v 0).toNat + 1 from by omega]
        exact ⟨v, h3, ha⟩
    · rw [if_neg hxw]
      rcases hF x hx with h | ⟨h1, h2, h3⟩
      · exact .inl h
      · exact .inr ⟨h1, by omega, h3⟩
theorem hop_row {n : Int} {R : Nat → Nat → Prop} {s : Nat} {d q L : List Int} {v : Int} (hn : n ≤ 16) (hs : s < n.toNat) (hR : ∀ a b, R a b → b < n.toNat) (hLi : Inn n L) (hLm : ∀ u : Nat, ((u : Nat) : Int) ∈ L ↔ R v.toNat u) (hLl : L.length ≤ 32)
    (h : BQ n R s d (v :: q)) (h5 : (v :: q).length + neg d ≤ 17) :
    gives (loop (impl_stepsOver_b0 (v :: q) L) (0, d, q)) fun x => BQ n R s x.1 x.2 ∧ x.2.length + neg x.1 = q.length + neg d := by
  obtain ⟨h1, hi, h3, h4, ho⟩ := h
  have hO := ho v q rfl
  obtain ⟨⟨v0, v1⟩, h8⟩ := hi.cons
  have hvn : ((v.toNat : Nat) : Int) = v := by omega
  have hget' : ∀ i, (hi : i < L.length) → L.getD i 0 = L[i] := fun i hi => by rw [List.getD_eq_getElem?_getD, List.getElem?_eq_getElem hi, Option.getD_some]
  simp only [List.length_cons] at h5
  generalize hD : d.getD v.toNat 0 = D at hO
  have hD0 : 0 ≤ D := by rw [← hD]; exact h3 v List.mem_cons_self
  refine loop_to (fun s : Nat × List Int × List Int => ((s.1 : Int), s.2.1, s.2.2)) (fun z => z.1 ≤ L.length ∧ BL n.toNat R s z.2.1 ∧ Inn n z.2.2 ∧ (∀ y ∈ z.2.2, 0 ≤ z.2.1.getD y.toNat 0) ∧ z.2.1.getD v.toNat 0 = D ∧ (∀ i, i < z.1 → 0 ≤ z.2.1.getD (L.getD i 0).toNat 0) ∧
      BC n.toNat R z.2.1 (fun u => ((u : Nat) : Int) = v ∨ ((u : Nat) : Int) ∈ z.2.2) ∧ BO n.toNat z.2.1 z.2.2 D ∧ z.2.2.length + neg z.2.1 = q.length + neg d) (fun z => L.length - z.1) (0, d, q) rfl
    ⟨Nat.zero_le _, h1, h8, fun y hy => h3 y (List.mem_cons_of_mem _ hy), hD, fun i hi => absurd hi (Nat.not_lt_zero _), fun x hx hpx => ?_, ?_, rfl⟩ ?_
  · rcases h4 x hx hpx with h | h
    · exact .inl (List.mem_cons.1 h)
    · exact .inr h
  · exact ⟨(List.pairwise_cons.1 hO.1).2, fun x hx => hO.2.1 x (List.mem_cons_of_mem _ hx), hO.2.2⟩
  rintro ⟨j, t, q'⟩ ⟨g1, g2, g3, g4, g5, g6, g7, g9, g8⟩
  simp only at g1 g2 g3 g4 g5 g6 g7 g8 g9
  have gl := g2.1
  simp only [impl_stepsOver_b0, List.getD_cons_zero, go_sem]
  refine ⟨fun hc => ?_, fun hc => ⟨⟨g2, g3, g4, fun x hx hpx => ?_, fun x q'' e => ⟨g9.1, fun y hy => ?_, fun u hu => ?_⟩⟩, g8⟩⟩
  · have hw := hLi j (by omega)
    have hwn : (((L.getD j 0).toNat : Nat) : Int) = L.getD j 0 := by omega
    have hav : R v.toNat (L.getD j 0).toNat := (hLm _).1 (by rw [hwn, hget' j (by omega)]; exact List.getElem_mem _)
    have hgw := getD_set t (L.getD j 0).toNat
    have hwv := g2.2.2 v.toNat (by omega)
    refine ⟨by omega, by omega, fun hm1 => ?_, fun hm1 => ?_⟩
    · have hput := g2.put (v := v.toNat) (w := (L.getD j 0).toNat) hs (by omega) (by omega) (by omega) (by omega) hav
      have hng := neg_set (l := t) (x := t.getD v.toNat 0 + 1) (by omega) (i := (L.getD j 0).toNat) (by omega) (by omega)
      have hget := fun x => hgw x (t.getD v.toNat 0 + 1) 0 (by omega)
      have hold : ∀ x, 0 ≤ t.getD x 0 → (t.set (L.getD j 0).toNat (t.getD v.toNat 0 + 1)).getD x 0 = t.getD x 0 := fun x hx => by
        rw [hget, if_neg (fun e => by rw [e] at hx; omega)]
      have hmono : ∀ x, 0 ≤ t.getD x 0 → 0 ≤ (t.set (L.getD j 0).toNat (t.getD v.toNat 0 + 1)).getD x 0 := fun x hx => by rw [hold x hx]; exact hx
      refine ⟨by omega, by omega, by omega, by omega, by omega, (j + 1, _, _), ⟨by simp only; omega, hput, g3.snoc (by omega), fun y hy => ?_, by simp only; rw [hold _ (by omega)]; exact g5, fun i hi => ?_, fun x hx hpx => ?_, ⟨?_, fun x hx => ?_, fun x hx => ?_⟩, by simp only [List.length_append, List.length_cons, List.length_nil]; omega⟩, by simp only; omega, by simp only [Int.natCast_add, Int.natCast_one]⟩
      · rcases List.mem_append.1 hy with hy | hy
        · exact hmono _ (g4 y hy)
        · rw [List.mem_singleton.1 hy]; simp only; rw [hget, if_pos rfl]; omega
      · simp only at hi ⊢
        by_cases hij : i = j
        · subst hij; rw [hget, if_pos rfl]; omega
        · exact hmono _ (g6 i (by omega))
      · simp only at hpx ⊢
        rw [hget] at hpx
        by_cases hxw : x = (L.getD j 0).toNat
        · exact .inl (.inr (List.mem_append_right _ (by rw [hxw, hwn]; simp)))
        · rw [if_neg hxw] at hpx
          rcases g7 x hx hpx with (h | h) | h
          · exact .inl (.inl h)
          · exact .inl (.inr (List.mem_append_left _ h))
          · refine .inr fun w hw => ?_
            have := h w hw
            rw [hold w this.1, hold x hpx]
            exact this
      · simp only
        refine List.pairwise_append.2 ⟨?_, List.pairwise_singleton .., fun x hx y hy => ?_⟩
        · refine List.Pairwise.imp_of_mem ?_ g9.1
          intro x y hx hy hxy
          rw [hold _ (g4 x hx), hold _ (g4 y hy)]
          exact hxy
        · rw [List.mem_singleton.1 hy, hold _ (g4 x hx), hget, if_pos rfl]
          have := g9.2.2 x.toNat (by obtain ⟨i, hi1, hi2⟩ := List.mem_iff_getElem.1 hx; have := g3 i hi1; rw [List.getD_eq_getElem?_getD, List.getElem?_eq_getElem hi1, Option.getD_some, hi2] at this; omega)
          omega
      · simp only at hx ⊢
        rcases List.mem_append.1 hx with hx | hx
        · rw [hold _ (g4 x hx)]; exact g9.2.1 x hx
        · rw [List.mem_singleton.1 hx, hget, if_pos rfl]; omega
      · simp only
        rw [hget]
        split
        · omega
        · exact g9.2.2 x hx
    · refine ⟨by omega, (j + 1, t, q'), ⟨by simp only; omega, g2, g3, g4, g5, fun i hi => ?_, g7, g9, g8⟩, by simp only; omega, by simp only [Int.natCast_add, Int.natCast_one]⟩
      simp only at hi ⊢
      by_cases hij : i = j
      · subst hij
        rcases g2.2.2 (L.getD i 0).toNat (by omega) with h | h
        · omega
        · exact h.1
      · exact g6 i (by omega)
  · rcases g7 x hx hpx with (h | h) | h
    · refine .inr fun w hw => ?_
      rw [show x = v.toNat from by omega] at hw ⊢
      obtain ⟨i, hi1, hi2⟩ := List.mem_iff_getElem.1 ((hLm w).2 hw)
      have h6 := g6 i (by omega)
      rw [hget' i hi1, hi2, Int.toNat_natCast] at h6
      have := g9.2.2 w (hR _ _ hw)
      omega
    · exact .inl h
    · exact .inr h
  · rw [e] at hy g9
    rcases List.mem_cons.1 hy with hy | hy
    · rw [hy]; exact Int.le_refl _
    · exact (List.pairwise_cons.1 g9.1).1 y hy
  · have h6 := g9.2.2 u hu
    have h7 := g9.2.1 x (by rw [e]; exact List.mem_cons_self)
    omega
theorem hop_end {n : Int} {R : Nat → Nat → Prop} {s : Nat} {d : List Int} (hs : s < n.toNat) (hR : ∀ a b, R a b → b < n.toNat) (h : BQ n R s d []) : HopL n.toNat R s d ∧ ∀ v, v < n.toNat → d.getD v 0 < n := by
  obtain ⟨h1, _, _, h4, _⟩ := h
  have hcl : ∀ k w, Wk R k s w → w < n.toNat ∧ 0 ≤ d.getD w 0 ∧ d.getD w 0 ≤ k := by
    intro k
    induction k with
    | zero => intro w hw; simp only [Wk] at hw; subst hw; have := h1.2.1; exact ⟨hs, by omega, by omega⟩
    | succ k ih =>
      rintro w ⟨c, hc, hw⟩
      obtain ⟨i1, i2, i3⟩ := ih c hc
      rcases h4 c i1 i2 with h | h
      · exact absurd h (List.not_mem_nil)
      · have := h w hw
        exact ⟨hR _ _ hw, this.1, by omega⟩
  refine ⟨⟨h1.1, fun v hv => ?_⟩, fun v hv => by rcases h1.2.2 v hv with h | ⟨h2, h3, _⟩ <;> omega⟩
  rcases h1.2.2 v hv with h | ⟨h2, _, h3⟩
  · exact .inr ⟨h, fun k hk => by have := hcl k v hk; omega⟩
  · exact .inl ⟨_, by omega, h3, fun j hj hw => by have := hcl j v hw; omega⟩
theorem hops_ok {n : Int} {R : Nat → Nat → Prop} {ms : List Int} {s : Nat} (h16 : n ≤ 16) (hm : MaskOk n ms R) (hR : ∀ a b, R a b → b < n.toNat) (hs : s < n.toNat) : gives (impl_stepsOver ms (s : Int)) fun d => HopL n.toNat R s d ∧ ∀ v, v < n.toNat → d.getD v 0 < n := by
  have hml := hm.1
  unfold impl_stepsOver
  rw [impl_unknowns_eq (by omega) (by omega)]
  simp only [Option.bind_some, Int.toNat_natCast]
  rw [chk_pos (by simp only [List.length_replicate]; omega)]
  have hz : ∀ x, x < ms.length → (List.replicate ms.length (-1 : Int)).getD x 0 = -1 := fun x hx => by
    simp only [List.getD_eq_getElem?_getD, List.getElem?_replicate]; rw [if_pos hx]; rfl
  have hng := neg_set (l := List.replicate ms.length (-1 : Int)) (x := 0) (by omega) (i := s) (by simp only [List.length_replicate]; omega) (by rw [hz s (by omega)]; omega)
  have hnl := neg_le (List.replicate ms.length (-1 : Int))
  rw [List.length_replicate] at hnl
  have hget := fun x => getD_set (List.replicate ms.length (-1 : Int)) s x 0 0 (by simp only [List.length_replicate]; omega)
  rw [gives_bind]
  refine (loop_to (Q := fun d => HopL n.toNat R s d ∧ ∀ v, v < n.toNat → d.getD v 0 < n) (fun s : List Int × List Int => s) (fun z => BQ n R s z.1 z.2 ∧ z.2.length + neg z.1 ≤ 17) (fun s => s.2.length + neg s.1) ((List.replicate ms.length (-1 : Int)).set s 0, [(s : Int)]) rfl ⟨⟨⟨?_, ?_, ?_⟩, ?_, ?_, ?_, ?_⟩, ?_⟩ ?_).mono fun r hr => gives_some.2 hr
  · simp only [List.length_set, List.length_replicate]; omega
  · simp only; rw [hget, if_pos rfl]
  · intro v hv
    simp only
    rw [hget]
    by_cases hvk : v = s
    · rw [if_pos hvk]; exact .inr ⟨by omega, by omega, by rw [hvk]; rfl⟩
    · rw [if_neg hvk]; exact .inl (hz v (by omega))
  · intro j hj
    simp only [List.length_cons, List.length_nil] at hj
    rw [show j = 0 from by omega]; simp only [List.getD_cons_zero]; omega
  · intro x hx
    simp only at hx ⊢
    rw [List.mem_singleton.1 hx, Int.toNat_natCast, hget, if_pos rfl]; omega
  · intro x hx hpx
    simp only at hpx ⊢
    by_cases hxk : x = s
    · exact .inl (by rw [hxk]; simp)
    · rw [hget, if_neg hxk, hz x (by omega)] at hpx; omega
  · intro x q' e
    simp only at e ⊢
    injection e with e1 e2
    subst e1
    subst e2
    rw [Int.toNat_natCast, hget, if_pos rfl]
    refine ⟨List.pairwise_singleton .., fun y hy => ?_, fun u hu => ?_⟩
    · rw [List.mem_singleton.1 hy, Int.toNat_natCast, hget, if_pos rfl]; omega
    · rw [hget]; split
      · omega
      · rw [hz u (by omega)]; omega
  · simp only [List.length_cons, List.length_nil]; omega
  · rintro ⟨t, q⟩ ⟨g1, g5⟩
    simp only at g1 g5
    simp only [impl_stepsOver_b1]
    cases q with
    | nil =>
      rw [if_neg (by simp), gives_some]
      exact hop_end hs hR g1
    | cons v q =>
      obtain ⟨⟨v0, v1⟩, hq⟩ := g1.2.1.cons
      have hmv := hm.2 v.toNat (by omega)
      have hL : impl_vertexMask_list (ms.getD v.toNat 0) = some (selL (ms.getD v.toNat 0).toNat.testBit 32) := impl_list_eq hmv.1.1 hmv.1.2
      have hd : ((v :: q).take (v :: q).length).drop 1 = q := by simp
      have hLm : ∀ u : Nat, ((u : Nat) : Int) ∈ selL (ms.getD v.toNat 0).toNat.testBit 32 ↔ R v.toNat u := fun u => by
        rw [selL_mem, ← hmv.2 u]
        constructor
        · rintro ⟨j, h1, _, h2⟩
          rw [show u = j from by omega]; exact h2
        · intro h
          have := hR _ _ ((hmv.2 u).1 h)
          exact ⟨u, rfl, by omega, h⟩
      have hLi : Inn n (selL (ms.getD v.toNat 0).toNat.testBit 32) := fun i hi => by
        rw [List.getD_eq_getElem?_getD, List.getElem?_eq_getElem hi, Option.getD_some]
        obtain ⟨j, h1, _, h2⟩ := selL_mem.1 (List.getElem_mem hi)
        rw [h1]
        have := hR _ _ ((hmv.2 j).1 h2)
        omega
      have hr := hop_row h16 hs hR hLi hLm (selL_len _ 32) g1 g5
      simp only [List.length_cons] at g5
      rw [if_pos (by simp only [decide_eq_true_eq, List.length_cons]; omega), chk_pos (by simp only [List.length_cons]; omega), chk_pos (by simp only [List.length_cons]; omega), chk_pos (by simp only [List.getD_cons_zero]; omega), hd, List.getD_cons_zero, hL]
      simp only [Option.bind_some]
      rw [gives_bind]
      refine hr.mono ?_
      rintro ⟨t', q'⟩ ⟨r1, r5⟩
      simp only at r1 r5
      rw [gives_some]
      exact ⟨(t', q'), ⟨r1, by simp only; omega⟩, by simp only [List.length_cons]; omega, rfl⟩

/-! Hops along edges. -/
def NxR (es : List (Int × Int × Int)) (a b : Nat) : Prop := Nxt es es.length (a : Int) (b : Int)
theorem nxt_mem {es : List (Int × Int × Int)} {a b : Int} : Nxt es es.length a b ↔ ∃ e ∈ es, e.1 = a ∧ e.2.1 = b := by
  constructor
  · rintro ⟨j, hj, h⟩
    rw [getE hj] at h
    exact ⟨_, List.getElem_mem hj, h⟩
  · rintro ⟨e, he, h⟩
    obtain ⟨j, hj, rfl⟩ := List.getElem_of_mem he
    exact ⟨j, hj, by rw [getE hj]; exact h⟩
theorem nxr_lt {n : Int} {es : List (Int × Int × Int)} (hg : GOk n es) (a b : Nat) (h : NxR es a b) : b < n.toNat := by
  obtain ⟨j, hj, _, h2⟩ := h
  have := gok_len hg hj
  simp only [EOk] at this
  omega
theorem impl_HopsFrom_ok {n v : Int} {es : List (Int × Int × Int)} (hg : GOk n es) (h0 : 0 ≤ v) (hv : v < n) : gives (impl_HopsFrom n es v) fun d => HopL n.toNat (NxR es) v.toNat d ∧ ∀ v, v < n.toNat → d.getD v 0 < n := by
  have hh : impl_Graph_has n es v = some true := by rw [impl_has_eq, decide_eq_true ⟨h0, hv⟩]
  unfold impl_HopsFrom
  rw [impl_GraphValid_eq, gok_true hg, Option.bind_some, if_pos (by rfl), hh, Option.bind_some, if_neg (by simp), gives_bind]
  refine (impl_nextMasks_ok hg).mono fun ms hm => ?_
  rw [gives_bind, show v = ((v.toNat : Nat) : Int) from by omega]
  exact (hops_ok hg.2.1 hm (nxr_lt hg) (by omega)).mono fun r hr => gives_some.2 hr
theorem impl_HopsFrom_not {n v : Int} {es : List (Int × Int × Int)} (h : ¬ (GOk n es ∧ 0 ≤ v ∧ v < n)) : impl_HopsFrom n es v = some [] := by
  unfold impl_HopsFrom
  by_cases hg : GOk n es
  · have hh : impl_Graph_has n es v = some false := by rw [impl_has_eq, decide_eq_false (fun h2 => h ⟨hg, h2⟩)]
    rw [impl_GraphValid_eq, gok_true hg, Option.bind_some, if_pos (by rfl), hh, Option.bind_some, if_pos (by simp)]
  · rw [impl_GraphValid_eq, gok_false hg, Option.bind_some, if_neg (by simp), Option.bind_some, if_pos (by simp)]
end Go.Proofs.YtaogppnbeijjmaaDoor
