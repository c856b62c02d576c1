/- Parts joined: their order does not matter, and all edges are there. -/
import Derived.Test.YtmcdlohjjbmimaaNj
set_option linter.unusedSimpArgs false
set_option linter.unusedVariables false
namespace Go.Proofs.Ytmcdlohjjbmimaa
open Go Go.Av

/-- A part as it may be drawn. -/
def PkG (g : Gr) : Prop := (-1 ≤ g.1 ∧ g.1 ≤ 18) ∧ g.2.length ≤ 40
theorem PartOf_pk {n : Int} {es : List Ed} {w a : Int} (hn : -1 ≤ n ∧ n ≤ 17) (hl : es.length ≤ 20) (hw : -1000 ≤ w ∧ w ≤ 1000) : gives (spec_PartOf n es w a) PkG := by
  by_cases hc : GOk n es ∧ 1 ≤ w ∧ w ≤ 6 ∧ 0 ≤ a ∧ a < w
  · obtain ⟨hg, h1, h2, h3, h4⟩ := hc
    have := partE_le es w a
    exact (gives_eq.2 (spec_PartOf_eq hg h1 h2 h3 h4)).mono fun r hr => by subst hr; exact ⟨⟨by simp only; omega, by simp only; omega⟩, by simp only; omega⟩
  · exact (gives_eq.2 (spec_PartOf_not ⟨by omega, by omega⟩ (by omega) hw hc)).mono fun r hr => by subst hr; exact ⟨by simp, by simp⟩
theorem odd_zero {b : List Int} {p : Int} : spec_l20Rd_odd b p 0 = some (false, p) := by
  simp [spec_l20Rd_odd]
theorem Workers_zero {b : List Int} {p : Int} (hb : Bts b) (hp : 0 ≤ p ∧ p ≤ 900000) : gives (spec_l20Workers b p 0) fun r => 1 ≤ r.1 ∧ r.1 ≤ 6 ∧ 0 ≤ r.2 ∧ r.2 ≤ p + 2 := by
  unfold spec_l20Workers
  rw [odd_zero, Option.bind_some]
  dsimp only
  rw [if_neg (by simp), gives_bind]
  refine (pick_ok hb ⟨by omega, by omega⟩).mono ?_
  rintro ⟨z, q1⟩ ⟨e1, f1, f2, _⟩
  simp only at e1 f1 f2 ⊢
  have := f2 (by omega)
  rw [gives_chk]
  exact ⟨by omega, gives_some.2 ⟨by omega, by omega, by omega, by omega⟩⟩
theorem set_pk {gs : List Gr} {k : Nat} {g : Gr} (h : ∀ x ∈ gs, PkG x) (hg : PkG g) : ∀ x ∈ gs.set k g, PkG x := fun x hx => by
  rcases List.mem_or_eq_of_mem_set hx with h1 | h1
  · exact h x h1
  · rw [h1]; exact hg
theorem DrawJoinParts_ok {b : List Int} (hb : Bts b) : gives (spec_DrawJoinParts b) fun gs => gs.length ≤ 7 ∧ ∀ g ∈ gs, PkG g := by
  unfold spec_DrawJoinParts
  rw [gives_bind]
  refine (open_ok hb).mono' (by rfl) ?_
  rintro ⟨c, p⟩ ⟨h1, h2, h3⟩
  simp only at h1 h2 h3 ⊢
  rw [gives_bind]
  refine (Graph_ok h1 ⟨by omega, by omega⟩).mono ?_
  rintro ⟨n, es, q⟩ ⟨g1, g2, g3, g4⟩
  simp only at g1 g2 g3 g4 ⊢
  rw [gives_bind]
  refine (Workers_zero h1 ⟨by omega, by omega⟩).mono ?_
  rintro ⟨w, q1⟩ ⟨w1, w2, w3, w4⟩
  simp only at w1 w2 w3 w4 ⊢
  rw [gives_bind]
  refine (gives_loop (Q := fun gs : List Gr => (gs.length : Int) = w ∧ ∀ g ∈ gs, PkG g) (body := spec_DrawJoinParts_b0 n es w) (fun L : List Gr => ((L.length : Int), L)) (fun L => (L.length : Int) ≤ w ∧ ∀ g ∈ L, PkG g) (fun L => w.toNat - L.length) ?_ [] ⟨by simp; omega, by simp⟩).mono ?_
  · rintro L ⟨k1, k2⟩
    unfold spec_DrawJoinParts_b0
    rw [gives_ite]
    refine ⟨fun hc => ?_, fun hc => ?_⟩
    · simp only [decide_eq_true_eq] at hc
      rw [gives_bind]
      refine (PartOf_pk g1 g2 ⟨by omega, by omega⟩).mono ?_
      rintro ⟨m, fs⟩ hpk
      simp only
      rw [gives_chk, gives_chk]
      refine ⟨by omega, by omega, gives_some.2 ⟨L ++ [(m, fs)], ⟨by simp; omega, fun g hg => ?_⟩, by simp; omega, ?_⟩⟩
      · rcases List.mem_append.1 hg with h4 | h4
        · exact k2 g h4
        · rw [List.mem_singleton.1 h4]; exact hpk
      · have e1 : (L ++ [(m, ([] : List Ed))]).getD L.length (0, []) = (m, []) := by
          rw [List.getD_eq_getElem?_getD, List.getElem?_append_right (Nat.le_refl _), Nat.sub_self]; rfl
        have e2 : (L ++ [(m, ([] : List Ed))]).set L.length (m, fs) = L ++ [(m, fs)] := by
          rw [List.set_append_right _ _ (Nat.le_refl _), Nat.sub_self, List.set_cons_zero]
        rw [e1, e2]
        simp
    · simp only [decide_eq_true_eq] at hc
      exact gives_some.2 ⟨by omega, k2⟩
  · rintro gs ⟨k1, k2⟩
    rw [gives_join, gives_bind]
    refine (odd_ok h1 ⟨by omega, by omega⟩).mono ?_
    rintro ⟨y, q2⟩ hq2
    simp only at hq2 ⊢
    rw [gives_ite]
    refine ⟨fun _ => ?_, fun _ => gives_some.2 ⟨by omega, k2⟩⟩
    rw [gives_bind]
    refine (pick_ok h1 ⟨by omega, by omega⟩).mono ?_
    rintro ⟨y1, q3⟩ ⟨e1, f1, f2, _⟩
    simp only at e1 f1 f2 ⊢
    rw [gives_ite]
    refine ⟨fun _ => gives_some.2 ⟨by simp, by simp⟩, fun _ => ?_⟩
    rw [gives_ite]
    refine ⟨fun _ => ?_, fun _ => ?_⟩
    · rw [gives_chk, gives_chk]
      exact ⟨by omega, by omega, gives_some.2 ⟨by rw [List.length_set]; omega, set_pk k2 ⟨⟨by simp only; omega, by simp only; omega⟩, by simp only; omega⟩⟩⟩
    · rw [gives_ite]
      refine ⟨fun _ => ?_, fun _ => ?_⟩
      · rw [gives_chk, gives_chk]
        refine ⟨by omega, by omega, gives_some.2 ⟨by simp; omega, fun g hg => ?_⟩⟩
        rcases List.mem_append.1 hg with h4 | h4
        · exact k2 g h4
        · rw [List.mem_singleton.1 h4]; exact ⟨⟨by simp only; omega, by simp only; omega⟩, by simp⟩
      · rw [gives_bind]
        refine (pick_ok h1 ⟨by omega, by omega⟩).mono ?_
        rintro ⟨y2, q4⟩ ⟨e2, f3, f4, _⟩
        simp only at e2 f3 f4 ⊢
        have := f4 (by omega)
        rw [gives_bind]
        refine (Graph_ok h1 ⟨by omega, by omega⟩).mono ?_
        rintro ⟨m, fs, q5⟩ ⟨m1, m2, _, _⟩
        simp only at m1 m2 ⊢
        rw [gives_chk, gives_chk]
        exact ⟨by omega, by omega, gives_some.2 ⟨by rw [List.length_set]; omega, set_pk k2 ⟨⟨by simp only; omega, by simp only; omega⟩, by simp only; omega⟩⟩⟩
theorem flat_len {gs : List Gr} (h : ∀ g ∈ gs, PkG g) : (flat gs).length ≤ 40 * gs.length := by
  induction gs with
  | nil => simp [flat]
  | cons g gs ih =>
    have h1 := (h g (List.mem_cons_self ..)).2
    have h2 := ih fun x hx => h x (List.mem_cons_of_mem _ hx)
    simp only [flat, List.flatMap_cons, List.length_append, List.length_cons] at h2 ⊢
    omega
theorem gr_mem {gs : List Gr} {k : Nat} (h : k < gs.length) : gs.getD k (0, []) ∈ gs := by
  rw [List.getD_eq_getElem?_getD, List.getElem?_eq_getElem h]; exact List.getElem_mem _
theorem flat_rev (gs : List Gr) : (flat gs.reverse).Perm (flat gs) := (List.reverse_perm gs).flatMap_right _
/-- What came out of joined parts comes out of them in the other order. -/
theorem joinR_rev {gs : List Gr} {n : Int} {r : List Ed} (h : joinR gs = (n, r, true)) : joinR gs.reverse = (n, r, true) ∧ GOk n r ∧ r.length = (flat gs).length := by
  unfold joinR at h
  split at h
  · rename_i r' hr'
    simp only [Prod.mk.injEq, and_true] at h
    obtain ⟨h1, rfl⟩ := h
    split at hr'
    · rename_i hc
      obtain ⟨h6, hall⟩ := hc
      rw [h1] at hr' hall
      have hv : ∀ g ∈ gs, GOk g.1 g.2 ∧ g.1 = n := fun g hg => by
        have := List.all_eq_true.1 hall g hg
        rw [Bool.and_eq_true, beq_iff_eq] at this
        exact ⟨gokP this.1, this.2⟩
      have hg0 := (hv _ (gr_mem (by omega : 0 < gs.length)))
      have h0 := hg0.1.1; have h16 := hg0.1.2.1
      rw [hg0.2] at h0 h16
      have hnil := gok_nil h0 h16
      obtain ⟨k1, k2, k3, k4, k5⟩ := goI_had hnil hr'
      rw [List.nil_append] at k4
      have hp := flat_rev gs
      obtain ⟨r2, m1, m2, m3⟩ := goI_all hnil (F := flat gs.reverse) (fun e he => k1 e (hp.mem_iff.1 he)) (perm_dfE hp.symm k2) (by simp) (by rw [hp.length_eq, ← k4.length_eq]; simpa using k5.2.2.1)
      have hr2 : r2 = r' := ltE_uniq (gok_iff.1 m3).2.2.2.2 (gok_iff.1 k5).2.2.2.2 (m2.trans (by rw [List.nil_append]; exact hp.trans k4.symm))
      refine ⟨?_, k5, k4.length_eq⟩
      have hz : (gs.reverse.getD 0 (0, [])).1 = n := (hv _ (List.mem_reverse.1 (gr_mem (by rw [List.length_reverse]; omega)))).2
      unfold joinR
      rw [hz, if_pos ⟨by rw [List.length_reverse]; exact h6, by rw [List.all_eq_true]; exact fun g hg => List.all_eq_true.1 hall g (List.mem_reverse.1 hg)⟩, m1, hr2]
    · cases hr'
  · simp at h
theorem joinR_no {gs : List Gr} {n : Int} {r : List Ed} (h : joinR gs = (n, r, false)) : n = 0 ∧ r = [] := by
  unfold joinR at h
  split at h
  · simp at h
  · simp only [Prod.mk.injEq, and_true] at h
    exact ⟨h.1.symm, h.2.symm⟩
theorem FnJoinParts_true {b : List Int} (hb : Bts b) : laws_FnJoinParts b = some true := by
  unfold laws_FnJoinParts
  by_cases h0 : (1048576 : Int) < b.length
  · rw [if_pos (by simpa using h0)]
  rw [if_neg (by simpa using h0)]
  obtain ⟨gs, h1, h2, h3⟩ := DrawJoinParts_ok hb
  rw [h1, Option.bind_some]
  have hfl := flat_len h3
  have hL : ∀ k, k < gs.length → (gs.getD k (0, [])).2.length ≤ 1000000000 := fun k hk => by
    have := (h3 _ (gr_mem hk)).2; omega
  have hB : ∀ k, k < gs.length → fits64 (gs.getD k (0, [])).1 ∧ (gs.getD k (0, [])).2.length ≤ 1000000000 := fun k hk => by
    have := (h3 _ (gr_mem hk)).1
    exact ⟨by unfold fits64; omega, hL k hk⟩
  rw [joinI_eq hL, Option.bind_some]
  have hS := joinS_eq (gs := gs) (by omega) (by omega) hB
  have hloop : loop (laws_FnJoinParts_b0 gs) (0, ((gs.length : Int) - 1), []) = some (((flat gs).length : Int), gs.reverse) := by
    refine gives_eq.1 ?_
    have key := gives_loop (Q := fun x : Int × List Gr => x = (((flat gs).length : Int), gs.reverse)) (body := laws_FnJoinParts_b0 gs) (fun j : Nat => (((flat (gs.drop j)).length : Int), (j : Int) - 1, (gs.drop j).reverse)) (fun j => j ≤ gs.length ∧ (flat (gs.drop j)).length ≤ (flat gs).length) (fun j => j) ?_ gs.length ⟨Nat.le_refl _, by simp [flat]⟩
    · rw [List.drop_length] at key
      exact key
    · rintro j ⟨hj, hjf⟩
      unfold laws_FnJoinParts_b0
      rw [gives_ite]
      refine ⟨fun hc => ?_, fun hc => ?_⟩
      · simp only [decide_eq_true_eq] at hc
        obtain ⟨i, rfl⟩ : ∃ i, j = i + 1 := ⟨j - 1, by omega⟩
        have hi : i < gs.length := by omega
        have e1 : (((i + 1 : Nat) : Int) - 1).toNat = i := by omega
        have hd := drop_cons_getD (0, []) hi
        have hpk := (h3 _ (gr_mem hi)).2
        have hdl : (flat (gs.drop i)).length = (gs.getD i (0, [])).2.length + (flat (gs.drop (i + 1))).length := by rw [hd, flat, List.flatMap_cons, List.length_append]; rfl
        have htot : (flat (gs.drop i)).length ≤ (flat gs).length := by
          have e2 : flat gs = flat (gs.take i) ++ flat (gs.drop i) := by unfold flat; rw [← List.flatMap_append, List.take_append_drop]
          rw [e2, List.length_append]; omega
        rw [gives_chk, gives_chk, gives_chk, gives_chk, gives_chk, gives_chk, gives_chk, e1]
        have hrl : ((gs.drop (i + 1)).reverse).length ≤ 7 := by rw [List.length_reverse, List.length_drop]; omega
        refine ⟨hi, by omega, by omega, hi, by omega, by omega, by omega, gives_some.2 ⟨i, ⟨by omega, htot⟩, by omega, ?_⟩⟩
        rw [hdl, hd, List.reverse_cons]
        refine Prod.ext ?_ (Prod.ext ?_ rfl)
        · simp only; omega
        · simp only; omega
      · simp only [decide_eq_true_eq] at hc
        have : j = 0 := by omega
        subst this
        exact gives_some.2 (by rw [List.drop_zero])
  have hLr : ∀ k, k < gs.reverse.length → (gs.reverse.getD k (0, [])).2.length ≤ 1000000000 := fun k hk => by
    have := (h3 _ (List.mem_reverse.1 (gr_mem hk))).2; omega
  cases hj : joinR gs with
  | mk n rest =>
    obtain ⟨r, ok⟩ := rest
    rw [hj] at hS
    dsimp only
    rw [hS, Option.bind_some]
    dsimp only
    cases ok with
    | false =>
      obtain ⟨rfl, rfl⟩ := joinR_no hj
      rw [sameGraph_self (by simp), Option.bind_some, if_neg (by simp), if_pos (by rfl), if_pos (by rfl), alive_eq]
      rfl
    | true =>
      obtain ⟨k1, k2, k3⟩ := joinR_rev hj
      rw [sameGraph_self (by omega), Option.bind_some, if_neg (by simp), if_neg (by simp), chk_pos (by omega), hloop, Option.bind_some]
      dsimp only
      rw [joinI_eq hLr, k1, Option.bind_some]
      dsimp only
      rw [impl_GraphValid_eq, gok_true k2, Option.bind_some, if_pos (by rfl), sameGraph_self (by omega), Option.bind_some, k3]
      simp
end Go.Proofs.Ytmcdlohjjbmimaa
