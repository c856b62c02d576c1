/- Ways of edges, and hops. -/
import Derived.Test.YtdjckcedpnabpaaDoorMr
import Derived.Test.YtdjckcedpnabpaaDoorNb
set_option linter.unusedSimpArgs false
set_option linter.unusedVariables false
namespace Go.Proofs.YtdjckcedpnabpaaDoor
open Go Go.Av
attribute [local go_sem] gives_chk gives_ite gives_some gives_bind gives_join Sum.elim_inl Sum.elim_inr decide_eq_true_eq decide_eq_false_iff_not Bool.not_eq_true' Bool.not_eq_false' Bool.or_eq_true Bool.and_eq_true Bool.not_eq_eq_eq_not beq_iff_eq bne_iff_ne ne_eq Bool.or_eq_false_iff Bool.and_eq_false_iff Bool.not_eq_true Bool.not_eq_false Bool.not_true Bool.not_false Int.toNat_natCast beq_eq_false_iff_ne bne_eq_false_iff_eq Decidable.not_not Bool.default_bool

/-- A way of k steps. -/
def Wk (R : Nat → Nat → Prop) : Nat → Nat → Nat → Prop
  | 0, a, b => a = b
  | k + 1, a, b => ∃ c, Wk R k a c ∧ R c b
theorem Wk.front {R : Nat → Nat → Prop} : ∀ {k a b : Nat}, Wk R (k + 1) a b ↔ ∃ c, R a c ∧ Wk R k c b
  | 0, a, b => ⟨fun ⟨c, h, g⟩ => by simp only [Wk] at h; subst h; exact ⟨b, g, rfl⟩, fun ⟨c, h, g⟩ => by simp only [Wk] at g; subst g; exact ⟨a, rfl, h⟩⟩
  | k + 1, a, b => by
    constructor
    · rintro ⟨c, h, g⟩
      obtain ⟨d, h1, h2⟩ := Wk.front.1 h
      exact ⟨d, h1, c, h2, g⟩
    · rintro ⟨d, h1, c, h2, g⟩
      exact ⟨c, Wk.front.2 ⟨d, h1, h2⟩, g⟩
theorem Wk.flip {R S : Nat → Nat → Prop} (h : ∀ a b, R a b ↔ S b a) : ∀ {k a b : Nat}, Wk R k a b ↔ Wk S k b a
  | 0, a, b => ⟨Eq.symm, Eq.symm⟩
  | k + 1, a, b => by
    rw [Wk.front (R := S)]
    constructor
    · rintro ⟨c, h1, h2⟩; exact ⟨c, (h _ _).1 h2, (Wk.flip h).1 h1⟩
    · rintro ⟨c, h1, h2⟩; exact ⟨c, (Wk.flip h).2 h2, (h _ _).2 h1⟩
/-- The least number of steps, -1 for none. -/
def HopV (R : Nat → Nat → Prop) (s v : Nat) (x : Int) : Prop := (∃ k : Nat, x = (k : Int) ∧ Wk R k s v ∧ ∀ j, j < k → ¬ Wk R j s v) ∨ (x = -1 ∧ ∀ k, ¬ Wk R k s v)
theorem HopV.uniq {R : Nat → Nat → Prop} {s v : Nat} {x y : Int} (h : HopV R s v x) (g : HopV R s v y) : x = y := by
  rcases h with ⟨k, h1, h2, h3⟩ | ⟨h1, h2⟩ <;> rcases g with ⟨j, g1, g2, g3⟩ | ⟨g1, g2⟩
  · rcases Nat.lt_trichotomy k j with h | h | h
    · exact absurd h2 (g3 k h)
    · omega
    · exact absurd g2 (h3 j h)
  · exact absurd h2 (g2 k)
  · exact absurd g2 (h2 j)
  · omega
theorem HopV.flip {R S : Nat → Nat → Prop} (hf : ∀ a b, R a b ↔ S b a) {s v : Nat} {x : Int} (h : HopV R s v x) : HopV S v s x := by
  rcases h with ⟨k, h1, h2, h3⟩ | ⟨h1, h2⟩
  · exact .inl ⟨k, h1, (Wk.flip hf).1 h2, fun j hj hw => h3 j hj ((Wk.flip hf).2 hw)⟩
  · exact .inr ⟨h1, fun k hw => h2 k ((Wk.flip hf).2 hw)⟩
def HopL (n : Nat) (R : Nat → Nat → Prop) (s : Nat) (d : List Int) : Prop := d.length = n ∧ ∀ v, v < n → HopV R s v (d.getD v 0)
theorem HopL.uniq {n s : Nat} {R : Nat → Nat → Prop} {d e : List Int} (h : HopL n R s d) (g : HopL n R s e) : d = e :=
  list_eq_of (d := 0) (by rw [h.1, g.1]) fun v hv => (h.2 v (by rw [← h.1]; exact hv)).uniq (g.2 v (by rw [← h.1]; exact hv))

/-! Breadth first. -/
def BL (n : Nat) (R : Nat → Nat → Prop) (s : Nat) (d : List Int) : Prop := d.length = n ∧ d.getD s 0 = 0 ∧ ∀ v, v < n → d.getD v 0 = -1 ∨ (0 ≤ d.getD v 0 ∧ d.getD v 0 + neg d < n ∧ Wk R (d.getD v 0).toNat s v)
def BC (n : Nat) (R : Nat → Nat → Prop) (d : List Int) (P : Nat → Prop) : Prop := ∀ u, u < n → 0 ≤ d.getD u 0 → P u ∨ ∀ w, R u w → 0 ≤ d.getD w 0 ∧ d.getD w 0 ≤ d.getD u 0 + 1
/-- What waits is in order, from D to D + 1; nothing is farther. -/
def BO (n : Nat) (d q : List Int) (D : Int) : Prop := q.Pairwise (fun x y => d.getD x.toNat 0 ≤ d.getD y.toNat 0) ∧ (∀ x ∈ q, D ≤ d.getD x.toNat 0) ∧ ∀ v, v < n → d.getD v 0 ≤ D + 1
def BQ (n : Int) (R : Nat → Nat → Prop) (s : Nat) (d q : List Int) : Prop := BL n.toNat R s d ∧ Inn n q ∧ (∀ x ∈ q, 0 ≤ d.getD x.toNat 0) ∧ BC n.toNat R d (fun u => ((u : Nat) : Int) ∈ q) ∧ ∀ x q', q = x :: q' → BO n.toNat d q (d.getD x.toNat 0)
theorem BL.put {n s v w : Nat} {R : Nat → Nat → Prop} {d : List Int} (h : BL n R s d) (hs : s < n) (hv : v < n) (hpv : 0 ≤ d.getD v 0) (hw : w < n) (hpw : d.getD w 0 < 0) (ha : R v w) : BL n R s (d.set w (d.getD v 0 + 1)) := by
  obtain ⟨hl, hk, hF⟩ := h
  have hng := neg_set (l := d) (x := d.getD v 0 + 1) (by omega) (i := w) (by omega) hpw
  have hget := fun x => getD_set d w x (d.getD v 0 + 1) 0 (by omega)
  refine ⟨by simp [hl], ?_, fun x hx => ?_⟩
  · rw [hget, if_neg (fun e => by rw [← e] at hpw; omega)]; exact hk
  · rw [hget]
    by_cases hxw : x = w
    · rw [if_pos hxw]
      rcases hF v hv with h | ⟨h1, h2, h3⟩
      · omega
      · refine .inr ⟨by omega, by omega, ?_⟩
        rw [hxw, show (d.getD v 0 + 1).toNat = (d.getD v 0).toNat + 1 from by omega]
        exact ⟨v, h3, ha⟩
    · rw [if_neg hxw]
      rcases hF x hx with h | ⟨h1, h2, h3⟩
      · exact .inl h
      · exact .inr ⟨h1, by omega, h3⟩
theorem hop_row {n : Int} {R : Nat → Nat → Prop} {s : Nat} {d q L : List Int} {v : Int} (hn : n ≤ 16) (hs : s < n.toNat) (hR : ∀ a b, R a b → b < n.toNat) (hLi : Inn n L) (hLm : ∀ u : Nat, ((u : Nat) : Int) ∈ L ↔ R v.toNat u) (hLl : L.length ≤ 32)
    (h : BQ n R s d (v :: q)) (h5 : (v :: q).length + neg d ≤ 17) :
    gives (loop (impl_stepsOver_b0 (v :: q) L) (0, d, q)) fun x => BQ n R s x.1 x.2 ∧ x.2.length + neg x.1 = q.length + neg d := by
  obtain ⟨h1, hi, h3, h4, ho⟩ := h
  have hO := ho v q rfl
  obtain ⟨⟨v0, v1⟩, h8⟩ := hi.cons
  have hvn : ((v.toNat : Nat) : Int) = v := by omega
  have hget' : ∀ i, (hi : i < L.length) → L.getD i 0 = L[i] := fun i hi => by rw [List.getD_eq_getElem?_getD, List.getElem?_eq_getElem hi, Option.getD_some]
  simp only [List.length_cons] at h5
  generalize hD : d.getD v.toNat 0 = D at hO
  have hD0 : 0 ≤ D := by rw [← hD]; exact h3 v List.mem_cons_self
  refine loop_to (fun s : Nat × List Int × List Int => ((s.1 : Int), s.2.1, s.2.2)) (fun z => z.1 ≤ L.length ∧ BL n.toNat R s z.2.1 ∧ Inn n z.2.2 ∧ (∀ y ∈ z.2.2, 0 ≤ z.2.1.getD y.toNat 0) ∧ z.2.1.getD v.toNat 0 = D ∧ (∀ i, i < z.1 → 0 ≤ z.2.1.getD (L.getD i 0).toNat 0) ∧
      BC n.toNat R z.2.1 (fun u => ((u : Nat) : Int) = v ∨ ((u : Nat) : Int) ∈ z.2.2) ∧ BO n.toNat z.2.1 z.2.2 D ∧ z.2.2.length + neg z.2.1 = q.length + neg d) (fun z => L.length - z.1) (0, d, q) rfl
    ⟨Nat.zero_le _, h1, h8, fun y hy => h3 y (List.mem_cons_of_mem _ hy), hD, fun i hi => absurd hi (Nat.not_lt_zero _), fun x hx hpx => ?_, ?_, rfl⟩ ?_
  · rcases h4 x hx hpx with h | h
    · exact .inl (List.mem_cons.1 h)
    · exact .inr h
  · exact ⟨(List.pairwise_cons.1 hO.1).2, fun x hx => hO.2.1 x (List.mem_cons_of_mem _ hx), hO.2.2⟩
  rintro ⟨j, t, q'⟩ ⟨g1, g2, g3, g4, g5, g6, g7, g9, g8⟩
  simp only at g1 g2 g3 g4 g5 g6 g7 g8 g9
  have gl := g2.1
  simp only [impl_stepsOver_b0, List.getD_cons_zero, go_sem]
  refine ⟨fun hc => ?_, fun hc => ⟨⟨g2, g3, g4, fun x hx hpx => ?_, fun x q'' e => ⟨g9.1, fun y hy => ?_, fun u hu => ?_⟩⟩, g8⟩⟩
  · have hw := hLi j (by omega)
    have hwn : (((L.getD j 0).toNat : Nat) : Int) = L.getD j 0 := by omega
    have hav : R v.toNat (L.getD j 0).toNat := (hLm _).1 (by rw [hwn, hget' j (by omega)]; exact List.getElem_mem _)
    have hgw := getD_set t (L.getD j 0).toNat
    have hwv := g2.2.2 v.toNat (by omega)
    refine ⟨by omega, by omega, fun hm1 => ?_, fun hm1 => ?_⟩
    · have hput := g2.put (v := v.toNat) (w := (L.getD j 0).toNat) hs (by omega) (by omega) (by omega) (by omega) hav
      have hng := neg_set (l := t) (x := t.getD v.toNat 0 + 1) (by omega) (i := (L.getD j 0).toNat) (by omega) (by omega)
      have hget := fun x => hgw x (t.getD v.toNat 0 + 1) 0 (by omega)
      have hold : ∀ x, 0 ≤ t.getD x 0 → (t.set (L.getD j 0).toNat (t.getD v.toNat 0 + 1)).getD x 0 = t.getD x 0 := fun x hx => by
        rw [hget, if_neg (fun e => by rw [e] at hx; omega)]
      have hmono : ∀ x, 0 ≤ t.getD x 0 → 0 ≤ (t.set (L.getD j 0).toNat (t.getD v.toNat 0 + 1)).getD x 0 := fun x hx => by rw [hold x hx]; exact hx
      refine ⟨by omega, by omega, by omega, by omega, by omega, (j + 1, _, _), ⟨by simp only; omega, hput, g3.snoc (by omega), fun y hy => ?_, by simp only; rw [hold _ (by omega)]; exact g5, fun i hi => ?_, fun x hx hpx => ?_, ⟨?_, fun x hx => ?_, fun x hx => ?_⟩, by simp only [List.length_append, List.length_cons, List.length_nil]; omega⟩, by simp only; omega, by simp only [Int.natCast_add, Int.natCast_one]⟩
      · rcases List.mem_append.1 hy with hy | hy
        · exact hmono _ (g4 y hy)
        · rw [List.mem_singleton.1 hy]; simp only; rw [hget, if_pos rfl]; omega
      · simp only at hi ⊢
        by_cases hij : i = j
        · subst hij; rw [hget, if_pos rfl]; omega
        · exact hmono _ (g6 i (by omega))
      · simp only at hpx ⊢
        rw [hget] at hpx
        by_cases hxw : x = (L.getD j 0).toNat
        · exact .inl (.inr (List.mem_append_right _ (by rw [hxw, hwn]; simp)))
        · rw [if_neg hxw] at hpx
          rcases g7 x hx hpx with (h | h) | h
          · exact .inl (.inl h)
          · exact .inl (.inr (List.mem_append_left _ h))
          · refine .inr fun w hw => ?_
            have := h w hw
            rw [hold w this.1, hold x hpx]
            exact this
      · simp only
        refine List.pairwise_append.2 ⟨?_, List.pairwise_singleton .., fun x hx y hy => ?_⟩
        · refine List.Pairwise.imp_of_mem ?_ g9.1
          intro x y hx hy hxy
          rw [hold _ (g4 x hx), hold _ (g4 y hy)]
          exact hxy
        · rw [List.mem_singleton.1 hy, hold _ (g4 x hx), hget, if_pos rfl]
          have := g9.2.2 x.toNat (by obtain ⟨i, hi1, hi2⟩ := List.mem_iff_getElem.1 hx; have := g3 i hi1; rw [List.getD_eq_getElem?_getD, List.getElem?_eq_getElem hi1, Option.getD_some, hi2] at this; omega)
          omega
      · simp only at hx ⊢
        rcases List.mem_append.1 hx with hx | hx
        · rw [hold _ (g4 x hx)]; exact g9.2.1 x hx
        · rw [List.mem_singleton.1 hx, hget, if_pos rfl]; omega
      · simp only
        rw [hget]
        split
        · omega
        · exact g9.2.2 x hx
    · refine ⟨by omega, (j + 1, t, q'), ⟨by simp only; omega, g2, g3, g4, g5, fun i hi => ?_, g7, g9, g8⟩, by simp only; omega, by simp only [Int.natCast_add, Int.natCast_one]⟩
      simp only at hi ⊢
      by_cases hij : i = j
      · subst hij
        rcases g2.2.2 (L.getD i 0).toNat (by omega) with h | h
        · omega
        · exact h.1
      · exact g6 i (by omega)
  · rcases g7 x hx hpx with (h | h) | h
    · refine .inr fun w hw => ?_
      rw [show x = v.toNat from by omega] at hw ⊢
      obtain ⟨i, hi1, hi2⟩ := List.mem_iff_getElem.1 ((hLm w).2 hw)
      have h6 := g6 i (by omega)
      rw [hget' i hi1, hi2, Int.toNat_natCast] at h6
      have := g9.2.2 w (hR _ _ hw)
      omega
    · exact .inl h
    · exact .inr h
  · rw [e] at hy g9
    rcases List.mem_cons.1 hy with hy | hy
    · rw [hy]; exact Int.le_refl _
    · exact (List.pairwise_cons.1 g9.1).1 y hy
  · have h6 := g9.2.2 u hu
    have h7 := g9.2.1 x (by rw [e]; exact List.mem_cons_self)
    omega
theorem hop_end {n : Int} {R : Nat → Nat → Prop} {s : Nat} {d : List Int} (hs : s < n.toNat) (hR : ∀ a b, R a b → b < n.toNat) (h : BQ n R s d []) : HopL n.toNat R s d ∧ ∀ v, v < n.toNat → d.getD v 0 < n := by
  obtain ⟨h1, _, _, h4, _⟩ := h
  have hcl : ∀ k w, Wk R k s w → w < n.toNat ∧ 0 ≤ d.getD w 0 ∧ d.getD w 0 ≤ k := by
    intro k
    induction k with
    | zero => intro w hw; simp only [Wk] at hw; subst hw; have := h1.2.1; exact ⟨hs, by omega, by omega⟩
    | succ k ih =>
      rintro w ⟨c, hc, hw⟩
      obtain ⟨i1, i2, i3⟩ := ih c hc
      rcases h4 c i1 i2 with h | h
      · exact absurd h (List.not_mem_nil)
      · have := h w hw
        exact ⟨hR _ _ hw, this.1, by omega⟩
  refine ⟨⟨h1.1, fun v hv => ?_⟩, fun v hv => by rcases h1.2.2 v hv with h | ⟨h2, h3, _⟩ <;> omega⟩
  rcases h1.2.2 v hv with h | ⟨h2, _, h3⟩
  · exact .inr ⟨h, fun k hk => by have := hcl k v hk; omega⟩
  · exact .inl ⟨_, by omega, h3, fun j hj hw => by have := hcl j v hw; omega⟩
theorem hops_ok {n : Int} {R : Nat → Nat → Prop} {ms : List Int} {s : Nat} (h16 : n ≤ 16) (hm : MaskOk n ms R) (hR : ∀ a b, R a b → b < n.toNat) (hs : s < n.toNat) : gives (impl_stepsOver ms (s : Int)) fun d => HopL n.toNat R s d ∧ ∀ v, v < n.toNat → d.getD v 0 < n := by
  have hml := hm.1
  unfold impl_stepsOver
  rw [impl_unknowns_eq (by omega) (by omega)]
  simp only [Option.bind_some, Int.toNat_natCast]
  rw [chk_pos (by simp only [List.length_replicate]; omega)]
  have hz : ∀ x, x < ms.length → (List.replicate ms.length (-1 : Int)).getD x 0 = -1 := fun x hx => by
    simp only [List.getD_eq_getElem?_getD, List.getElem?_replicate]; rw [if_pos hx]; rfl
  have hng := neg_set (l := List.replicate ms.length (-1 : Int)) (x := 0) (by omega) (i := s) (by simp only [List.length_replicate]; omega) (by rw [hz s (by omega)]; omega)
  have hnl := neg_le (List.replicate ms.length (-1 : Int))
  rw [List.length_replicate] at hnl
  have hget := fun x => getD_set (List.replicate ms.length (-1 : Int)) s x 0 0 (by simp only [List.length_replicate]; omega)
  rw [gives_bind]
  refine (loop_to (Q := fun d => HopL n.toNat R s d ∧ ∀ v, v < n.toNat → d.getD v 0 < n) (fun s : List Int × List Int => s) (fun z => BQ n R s z.1 z.2 ∧ z.2.length + neg z.1 ≤ 17) (fun s => s.2.length + neg s.1) ((List.replicate ms.length (-1 : Int)).set s 0, [(s : Int)]) rfl ⟨⟨⟨?_, ?_, ?_⟩, ?_, ?_, ?_, ?_⟩, ?_⟩ ?_).mono fun r hr => gives_some.2 hr
  · simp only [List.length_set, List.length_replicate]; omega
  · simp only; rw [hget, if_pos rfl]
  · intro v hv
    simp only
    rw [hget]
    by_cases hvk : v = s
    · rw [if_pos hvk]; exact .inr ⟨by omega, by omega, by rw [hvk]; rfl⟩
    · rw [if_neg hvk]; exact .inl (hz v (by omega))
  · intro j hj
    simp only [List.length_cons, List.length_nil] at hj
    rw [show j = 0 from by omega]; simp only [List.getD_cons_zero]; omega
  · intro x hx
    simp only at hx ⊢
    rw [List.mem_singleton.1 hx, Int.toNat_natCast, hget, if_pos rfl]; omega
  · intro x hx hpx
    simp only at hpx ⊢
    by_cases hxk : x = s
    · exact .inl (by rw [hxk]; simp)
    · rw [hget, if_neg hxk, hz x (by omega)] at hpx; omega
  · intro x q' e
    simp only at e ⊢
    injection e with e1 e2
    subst e1
    subst e2
    rw [Int.toNat_natCast, hget, if_pos rfl]
    refine ⟨List.pairwise_singleton .., fun y hy => ?_, fun u hu => ?_⟩
    · rw [List.mem_singleton.1 hy, Int.toNat_natCast, hget, if_pos rfl]; omega
    · rw [hget]; split
      · omega
      · rw [hz u (by omega)]; omega
  · simp only [List.length_cons, List.length_nil]; omega
  · rintro ⟨t, q⟩ ⟨g1, g5⟩
    simp only at g1 g5
    simp only [impl_stepsOver_b1]
    cases q with
    | nil =>
      rw [if_neg (by simp), gives_some]
      exact hop_end hs hR g1
    | cons v q =>
      obtain ⟨⟨v0, v1⟩, hq⟩ := g1.2.1.cons
      have hmv := hm.2 v.toNat (by omega)
      have hL : impl_vertexMask_list (ms.getD v.toNat 0) = some (selL (ms.getD v.toNat 0).toNat.testBit 32) := impl_list_eq hmv.1.1 hmv.1.2
      have hd : ((v :: q).take (v :: q).length).drop 1 = q := by simp
      have hLm : ∀ u : Nat, ((u : Nat) : Int) ∈ selL (ms.getD v.toNat 0).toNat.testBit 32 ↔ R v.toNat u := fun u => by
        rw [selL_mem, ← hmv.2 u]
        constructor
        · rintro ⟨j, h1, _, h2⟩
          rw [show u = j from by omega]; exact h2
        · intro h
          have := hR _ _ ((hmv.2 u).1 h)
          exact ⟨u, rfl, by omega, h⟩
      have hLi : Inn n (selL (ms.getD v.toNat 0).toNat.testBit 32) := fun i hi => by
        rw [List.getD_eq_getElem?_getD, List.getElem?_eq_getElem hi, Option.getD_some]
        obtain ⟨j, h1, _, h2⟩ := selL_mem.1 (List.getElem_mem hi)
        rw [h1]
        have := hR _ _ ((hmv.2 j).1 h2)
        omega
      have hr := hop_row h16 hs hR hLi hLm (selL_len _ 32) g1 g5
      simp only [List.length_cons] at g5
      rw [if_pos (by simp only [decide_eq_true_eq, List.length_cons]; omega), chk_pos (by simp only [List.length_cons]; omega), chk_pos (by simp only [List.length_cons]; omega), chk_pos (by simp only [List.getD_cons_zero]; omega), hd, List.getD_cons_zero, hL]
      simp only [Option.bind_some]
      rw [gives_bind]
      refine hr.mono ?_
      rintro ⟨t', q'⟩ ⟨r1, r5⟩
      simp only at r1 r5
      rw [gives_some]
      exact ⟨(t', q'), ⟨r1, by simp only; omega⟩, by simp only [List.length_cons]; omega, rfl⟩

/-! Hops along edges. -/
def NxR (es : List (Int × Int × Int)) (a b : Nat) : Prop := Nxt es es.length (a : Int) (b : Int)
theorem nxt_mem {es : List (Int × Int × Int)} {a b : Int} : Nxt es es.length a b ↔ ∃ e ∈ es, e.1 = a ∧ e.2.1 = b := by
  constructor
  · rintro ⟨j, hj, h⟩
    rw [getE hj] at h
    exact ⟨_, List.getElem_mem hj, h⟩
  · rintro ⟨e, he, h⟩
    obtain ⟨j, hj, rfl⟩ := List.getElem_of_mem he
    exact ⟨j, hj, by rw [getE hj]; exact h⟩
theorem nxt_turn {es : List (Int × Int × Int)} {a b : Int} : Nxt (turnF es) (turnF es).length a b ↔ Nxt es es.length b a := by
  rw [nxt_mem, nxt_mem]
  constructor
  · rintro ⟨e, he, h1, h2⟩
    obtain ⟨x, hx, rfl⟩ := List.mem_map.1 ((turnF_perm es).mem_iff.1 he)
    exact ⟨x, hx, h2, h1⟩
  · rintro ⟨e, he, h1, h2⟩
    exact ⟨sw e, (turnF_perm es).mem_iff.2 (List.mem_map.2 ⟨e, he, rfl⟩), h2, h1⟩
theorem adj_turn {es : List (Int × Int × Int)} {a b : Int} : Adj (turnF es) a b ↔ Adj es a b := by
  unfold Adj; rw [nxt_turn, nxt_turn, or_comm]
theorem nxr_lt {n : Int} {es : List (Int × Int × Int)} (hg : GOk n es) (a b : Nat) (h : NxR es a b) : b < n.toNat := by
  obtain ⟨j, hj, _, h2⟩ := h
  have := gok_len hg hj
  simp only [EOk] at this
  omega
theorem impl_HopsFrom_ok {n v : Int} {es : List (Int × Int × Int)} (hg : GOk n es) (h0 : 0 ≤ v) (hv : v < n) : gives (impl_HopsFrom n es v) fun d => HopL n.toNat (NxR es) v.toNat d ∧ ∀ v, v < n.toNat → d.getD v 0 < n := by
  have hh : impl_Graph_has n es v = some true := by rw [impl_has_eq, decide_eq_true ⟨h0, hv⟩]
  unfold impl_HopsFrom
  rw [impl_GraphValid_eq, gok_true hg, Option.bind_some, if_pos (by rfl), hh, Option.bind_some, if_neg (by simp), gives_bind]
  refine (impl_nextMasks_ok hg).mono fun ms hm => ?_
  rw [gives_bind, show v = ((v.toNat : Nat) : Int) from by omega]
  exact (hops_ok hg.2.1 hm (nxr_lt hg) (by omega)).mono fun r hr => gives_some.2 hr
theorem impl_HopsFrom_not {n v : Int} {es : List (Int × Int × Int)} (h : ¬ (GOk n es ∧ 0 ≤ v ∧ v < n)) : impl_HopsFrom n es v = some [] := by
  unfold impl_HopsFrom
  by_cases hg : GOk n es
  · have hh : impl_Graph_has n es v = some false := by rw [impl_has_eq, decide_eq_false (fun h2 => h ⟨hg, h2⟩)]
    rw [impl_GraphValid_eq, gok_true hg, Option.bind_some, if_pos (by rfl), hh, Option.bind_some, if_pos (by simp)]
  · rw [impl_GraphValid_eq, gok_false hg, Option.bind_some, if_neg (by simp), Option.bind_some, if_pos (by simp)]
theorem wk_short {n : Int} {es : List (Int × Int × Int)} (hg : GOk n es) {s u : Nat} (hs : s < n.toNat) (hu : u < n.toNat) (h : ∀ k : Nat, k ≤ n.toNat → ¬ Wk (NxR es) k s u) (k : Nat) : ¬ Wk (NxR es) k s u := by
  obtain ⟨d, _, ⟨_, h1⟩, h2⟩ := impl_HopsFrom_ok (v := (s : Int)) hg (by omega) (by omega)
  rw [Int.toNat_natCast] at h1
  rcases h1 u hu with ⟨j, h3, h4, _⟩ | ⟨_, h3⟩
  · have := h2 u hu
    exact absurd h4 (h j (by omega))
  · exact h3 k
theorem spec_HopsFrom_ok {n v : Int} {es : List (Int × Int × Int)} (hg : GOk n es) (h0 : 0 ≤ v) (hv : v < n) : gives (spec_HopsFrom n es v) (HopL n.toNat (NxR es) v.toNat) := by
  have g0 := hg.1
  have g16 := hg.2.1
  have g40 := hg.2.2.1
  unfold spec_HopsFrom
  rw [spec_GraphValid_eq ⟨by omega, by omega⟩ (by omega), gok_true hg, Option.bind_some, if_neg (by rw [wrap_fits (by omega) (by omega)]; simp; omega), spec_l8Fill_eq (by omega) (by omega), Option.bind_some, gives_chk]
  refine ⟨by simp; omega, ?_⟩
  rw [gives_bind]
  generalize hs : v.toNat = s
  have hsn : s < n.toNat := by omega
  have hz : ∀ x, x < n.toNat → (List.replicate n.toNat (-1 : Int)).getD x 0 = -1 := fun x hx => by
    simp only [List.getD_eq_getElem?_getD, List.getElem?_replicate]; rw [if_pos hx]; rfl
  let ok := fun (m i : Nat) (d : List Int) => d.length = n.toNat ∧ ∀ u, u < n.toNat → (d.getD u 0 = -1 ∧ (∀ k, k ≤ m → ¬ Wk (NxR es) k s u) ∧ ∀ c : Nat, Nxt es i (c : Int) (u : Int) → ¬ Wk (NxR es) m s c) ∨ ∃ k : Nat, k ≤ m + (if i = 0 then 0 else 1) ∧ d.getD u 0 = (k : Int) ∧ Wk (NxR es) k s u ∧ ∀ j, j < k → ¬ Wk (NxR es) j s u
  refine (gives_loop (Q := HopL n.toNat (NxR es) s) (fun z : Nat × List Int => ((z.1 : Int), z.2)) (fun z => z.1 ≤ n.toNat ∧ ok z.1 0 z.2) (fun z => n.toNat - z.1) ?_ (0, (List.replicate n.toNat (-1)).set s 0) ⟨Nat.zero_le _, by simp, fun u hu => ?_⟩).mono fun r hr => gives_some.2 hr
  · rintro ⟨m, d⟩ ⟨hm, hd⟩
    simp only at hm hd
    simp only [spec_HopsFrom_b1]
    rw [gives_ite]
    refine ⟨fun hc => ?_, fun hc => ?_⟩
    · simp only [decide_eq_true_eq] at hc
      rw [gives_bind]
      refine (gives_loop (Q := fun d' => ok (m + 1) 0 d') (fun z : Nat × List Int => ((z.1 : Int), z.2)) (fun z => z.1 ≤ es.length ∧ ok m z.1 z.2) (fun z => es.length - z.1) ?_ (0, d) ⟨Nat.zero_le _, hd⟩).mono fun d' hd' => ?_
      · rintro ⟨i, t⟩ ⟨hi, ht⟩
        simp only at hi ht
        obtain ⟨htl, htu⟩ := ht
        simp only [spec_HopsFrom_b0]
        rw [gives_ite]
        refine ⟨fun hc2 => ?_, fun hc2 => ?_⟩
        · simp only [decide_eq_true_eq] at hc2
          have he := gok_len hg (k := i) (by omega)
          simp only [EOk] at he
          generalize hen : es.getD i (0, 0, 0) = e at he
          have hgw := getD_set t e.2.1.toNat
          simp only [join, Int.toNat_natCast, hen]
          rw [gives_chk, gives_chk, gives_chk, gives_ite]
          have hmono : ∀ {u k : Nat}, k ≤ m + (if i = 0 then 0 else 1) → k ≤ m + (if i + 1 = 0 then 0 else 1) := fun {u k} h => by
            rw [if_neg (by omega)]; split at h <;> omega
          refine ⟨by omega, by omega, fun _ => by omega, fun hset => ?_, fun hno => ?_⟩
          · simp only [Bool.and_eq_true, beq_iff_eq, decide_eq_true_eq] at hset
            rw [gives_chk, gives_chk, gives_chk]
            refine ⟨by omega, by omega, by omega, gives_some.2 ⟨(i + 1, t.set e.2.1.toNat ((m : Int) + 1)), ⟨by simp only; omega, by simp only [List.length_set]; exact htl, fun u hu => ?_⟩, by simp only; omega, rfl⟩⟩
            simp only
            rw [hgw _ _ _ (by omega)]
            have hcm : Wk (NxR es) m s e.1.toNat := by
              rcases htu e.1.toNat (by omega) with h | ⟨k, h1, h2, h3, _⟩
              · omega
              · rw [show m = k from by omega]; exact h3
            by_cases hue : u = e.2.1.toNat
            · rw [if_pos hue]
              right
              refine ⟨m + 1, by rw [if_neg (by omega)]; omega, by omega, ⟨e.1.toNat, hcm, i, by omega, by rw [hen]; omega, by rw [hen]; omega⟩, fun j hj => ?_⟩
              rcases htu u hu with ⟨_, h2, _⟩ | ⟨k, _, h2, _⟩
              · exact h2 j (by omega)
              · rw [hue] at h2; omega
            · rw [if_neg hue]
              rcases htu u hu with ⟨h1, h2, h3⟩ | ⟨k, h1, h2⟩
              · refine .inl ⟨h1, h2, fun c hcu => ?_⟩
                rcases Nxt.succ.1 hcu with h | h
                · exact h3 c h
                · rw [hen] at h; omega
              · exact .inr ⟨k, hmono (u := u) h1, h2⟩
          · simp only [Bool.and_eq_true, beq_iff_eq, decide_eq_true_eq, not_and] at hno
            rw [gives_chk]
            refine ⟨by omega, gives_some.2 ⟨(i + 1, t), ⟨by simp only; omega, htl, fun u hu => ?_⟩, by simp only; omega, rfl⟩⟩
            simp only
            rcases htu u hu with ⟨h1, h2, h3⟩ | ⟨k, h1, h2⟩
            · refine .inl ⟨h1, h2, fun c hcu => ?_⟩
              rcases Nxt.succ.1 hcu with h | h
              · exact h3 c h
              · rw [hen] at h
                intro hw
                have huc : u = e.2.1.toNat := by omega
                have hcc : c = e.1.toNat := by omega
                subst hcc
                rcases htu e.1.toNat (by omega) with ⟨_, h5, _⟩ | ⟨k, h5, h6, h7, h8⟩
                · exact h5 m (Nat.le_refl _) hw
                · have hkm : k ≤ m := by
                    rcases Nat.lt_or_ge m k with h | h
                    · exact absurd hw (h8 m h)
                    · exact h
                  by_cases hk : k = m
                  · have := hno (by omega)
                    rw [← huc] at this
                    omega
                  · exact h2 (k + 1) (by omega) ⟨_, h7, i, by omega, by rw [hen]; omega, by rw [hen]; omega⟩
            · exact .inr ⟨k, hmono (u := u) h1, h2⟩
        · simp only [decide_eq_true_eq] at hc2
          have hil : i = es.length := by omega
          refine gives_some.2 ⟨htl, fun u hu => ?_⟩
          rcases htu u hu with ⟨h1, h2, h3⟩ | ⟨k, h1, h2⟩
          · refine .inl ⟨h1, fun k hk hw => ?_, fun c ⟨j, hj, _⟩ => absurd hj (Nat.not_lt_zero _)⟩
            by_cases hkm : k ≤ m
            · exact h2 k hkm hw
            · have : k = m + 1 := by omega
              subst this
              obtain ⟨c, hw1, hw2⟩ := hw
              exact h3 c (by rw [hil]; exact hw2) hw1
          · exact .inr ⟨k, by rw [if_pos rfl]; split at h1 <;> omega, h2⟩
      · rw [gives_chk]
        exact ⟨by omega, gives_some.2 ⟨(m + 1, d'), ⟨by simp only; omega, hd'⟩, by simp only; omega, rfl⟩⟩
    · simp only [decide_eq_true_eq] at hc
      refine gives_some.2 ⟨hd.1, fun u hu => ?_⟩
      rcases hd.2 u hu with ⟨h1, h2, _⟩ | ⟨k, _, h1, h2, h3⟩
      · exact .inr ⟨h1, wk_short hg hsn hu fun k hk => h2 k (by omega)⟩
      · exact .inl ⟨k, h1, h2, h3⟩
  · simp only
    rw [getD_set _ _ _ _ _ (by simp; omega)]
    by_cases hus : u = s
    · rw [if_pos hus]
      exact .inr ⟨0, Nat.zero_le _, rfl, hus.symm, fun j hj => absurd hj (Nat.not_lt_zero _)⟩
    · rw [if_neg hus]
      refine .inl ⟨hz u hu, fun k hk hw => ?_, fun c ⟨j, hj, _⟩ => absurd hj (Nat.not_lt_zero _)⟩
      have : k = 0 := by omega
      subst this
      exact hus hw.symm
theorem spec_HopsFrom_not {n v : Int} {es : List (Int × Int × Int)} (hn : -9223372036854775808 ≤ n ∧ n ≤ 9223372036854775807) (hx : es.length ≤ 1000000000) (h : ¬ (GOk n es ∧ 0 ≤ v ∧ v < n)) : spec_HopsFrom n es v = some [] := by
  unfold spec_HopsFrom
  rw [spec_GraphValid_eq hn hx]
  by_cases hg : GOk n es
  · have := hg.1
    have h' : ¬ (0 ≤ v ∧ v < n) := fun h2 => h ⟨hg, h2⟩
    rw [gok_true hg, Option.bind_some, if_pos (by rw [wrap_fits (by omega) (by omega)]; simp; omega)]
  · rw [gok_false hg, Option.bind_some, if_pos (by simp)]
theorem At_ok {b : List Int} {p : Int} (hb : Bts b) (hp : 0 ≤ p ∧ p ≤ 700000) : gives (spec_l20At b p) fun r => (-1 ≤ r.1 ∧ r.1 ≤ 17) ∧ r.2.1.length ≤ 20 ∧ (-10 ≤ r.2.2.1 ∧ r.2.2.1 ≤ 100) ∧ 0 ≤ r.2.2.2 ∧ r.2.2.2 ≤ p + 210 := by
  unfold spec_l20At
  rw [gives_bind]
  refine (Graph_ok hb ⟨by omega, by omega⟩).mono ?_
  rintro ⟨n, es, q⟩ ⟨g1, g2, g3, g4⟩
  simp only at g1 g2 g3 g4 ⊢
  rw [gives_bind]
  refine (pick_ok hb ⟨by omega, by omega⟩).mono ?_
  rintro ⟨y0, p0⟩ ⟨e0, f0, f0', _⟩
  simp only at e0 f0 f0' ⊢
  have t0 := f0' (by omega)
  rw [gives_bind]
  refine (pick_ok hb ⟨by omega, by omega⟩).mono ?_
  rintro ⟨y1, p1⟩ ⟨e1, f1, f1', _⟩
  simp only at e1 f1 f1' ⊢
  have t1 := f1' (by omega)
  rw [gives_chk, gives_chk, gives_bind]
  refine ⟨by omega, by omega, ?_⟩
  refine (pick_ok hb ⟨by omega, by omega⟩).mono ?_
  rintro ⟨y2, p2⟩ ⟨e2, f2, f2', _⟩
  simp only at e2 f2 f2' ⊢
  have t2 := f2' (by omega)
  rw [gives_chk, gives_chk, gives_chk]
  exact ⟨by omega, by omega, by omega, gives_some.2 ⟨g1, g2, by simp only; omega, by simp only; omega, by simp only; omega⟩⟩
theorem FnTurnHops_true {b : List Int} (hb : Bts b) : laws_FnTurnHops b = some true := by
  unfold laws_FnTurnHops
  by_cases h0 : (1048576 : Int) < b.length
  · rw [if_pos (by simpa using h0)]
  rw [if_neg (by simpa using h0)]
  obtain ⟨⟨n, es, v⟩, h1, h2, h3⟩ : gives (spec_DrawHopsFrom b) fun r => (-1 ≤ r.1 ∧ r.1 ≤ 17) ∧ r.2.1.length ≤ 20 := by
    unfold spec_DrawHopsFrom
    rw [gives_bind]
    refine (open_ok hb).mono' (by rfl) ?_
    rintro ⟨c, p⟩ ⟨h1, h2, h3⟩
    simp only at h1 h2 h3 ⊢
    rw [gives_bind]
    refine (At_ok h1 ⟨by omega, by omega⟩).mono ?_
    rintro ⟨n, es, v, q⟩ ⟨g1, g2, g3, g4⟩
    exact gives_some.2 ⟨g1, g2⟩
  simp only at h2 h3
  rw [h1, Option.bind_some]
  dsimp only
  by_cases hg : GOk n es ∧ 0 ≤ v ∧ v < n
  · obtain ⟨hg, hv0, hv1⟩ := hg
    have h16 := hg.2.1
    obtain ⟨x, hx1, hx2, _⟩ := impl_HopsFrom_ok hg hv0 hv1
    obtain ⟨y, hy1, hy2⟩ := spec_HopsFrom_ok hg hv0 hv1
    have hxy := hx2.uniq hy2
    subst hxy
    rw [hx1, Option.bind_some, hy1, Option.bind_some, sameInts_self (by rw [hx2.1]; omega), Option.bind_some, if_neg (by simp), impl_TurnGraph_eq hg, Option.bind_some]
    dsimp only
    have hgt := turnF_ok hg
    have hxl := hx2.1
    have hloop : loop (laws_FnTurnHops_b0 v x n (turnF es)) 0 = some (.inl ()) := by
      refine gives_eq.1 ?_
      refine gives_loop (fun k : Nat => (k : Int)) (fun k => k ≤ x.length) (fun k => x.length - k) ?_ 0 (Nat.zero_le _)
      intro k hk
      unfold laws_FnTurnHops_b0
      rw [gives_ite]
      refine ⟨fun hc => ?_, fun _ => gives_some.2 rfl⟩
      simp only [decide_eq_true_eq] at hc
      have hkl : k < n.toNat := by omega
      obtain ⟨z, hz1, ⟨hz2, hz3⟩, _⟩ := impl_HopsFrom_ok (v := (k : Int)) hgt (by omega) (by omega)
      rw [Int.toNat_natCast] at hz3
      have hzk : z.getD v.toNat 0 = x.getD k 0 := ((hx2.2 k hkl).flip (S := NxR (turnF es)) (fun a b => nxt_turn.symm)).uniq (hz3 v.toNat (by omega)) |>.symm
      rw [hz1, Option.bind_some, gives_chk, gives_chk, Int.toNat_natCast, hzk, if_neg (by simp; omega), gives_chk]
      exact ⟨fun _ => by omega, fun _ => by omega, by omega, gives_some.2 ⟨k + 1, by omega, by omega, by omega⟩⟩
    rw [hloop, Option.bind_some, Sum.elim_inl, alive_eq, Option.bind_some]
  · rw [impl_HopsFrom_not hg, Option.bind_some, spec_HopsFrom_not ⟨by omega, by omega⟩ (by omega) hg, Option.bind_some, sameInts_self (by simp), Option.bind_some, if_neg (by simp)]
    obtain ⟨⟨n', es'⟩, ht⟩ : ∃ r, impl_TurnGraph n es = some r := by
      by_cases hg2 : GOk n es
      · exact ⟨_, impl_TurnGraph_eq hg2⟩
      · exact ⟨_, impl_TurnGraph_not hg2⟩
    rw [ht, Option.bind_some]
    dsimp only
    have hloop : loop (laws_FnTurnHops_b0 v [] n' es') 0 = some (.inl ()) := by
      refine gives_eq.1 ?_
      refine gives_loop (fun k : Nat => (k : Int)) (fun k => k = 0) (fun k => 0) ?_ 0 rfl
      intro k hk
      subst hk
      unfold laws_FnTurnHops_b0
      rw [if_neg (by simp)]
      exact gives_some.2 rfl
    rw [hloop, Option.bind_some, Sum.elim_inl, alive_eq, Option.bind_some]
end Go.Proofs.YtdjckcedpnabpaaDoor
