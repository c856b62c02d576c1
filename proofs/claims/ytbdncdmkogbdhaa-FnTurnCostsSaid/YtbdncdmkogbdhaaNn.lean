/- Least costs by a heap; turned, they are the same. -/
import Derived.Test.YtbdncdmkogbdhaaNm
set_option linter.unusedSimpArgs false
set_option linter.unusedVariables false
namespace Go.Proofs.Ytbdncdmkogbdhaa
open Go Go.Av
/-- The state between two pops. -/
structure DI (n : Int) (es : List E3) (s : Int) (c : List Int) (h : List Pr2) : Prop where
  len : c.length = n.toNat
  opt : ∀ u : Nat, u < n.toNat → (c.getD u 0 = -1 ∨ (0 ≤ c.getD u 0 ∧ Opt es s (u : Int) (c.getD u 0)))
  heap : HpO h h.length
  ent : ∀ p ∈ h, (0 ≤ p.2 ∧ p.2 < n) ∧ (∃ k, WW es s k p.2 p.1) ∧ p.1 + 20 * (neg c : Int) ≤ 320
  front : ∀ e ∈ es, c.getD e.1.toNat 0 ≠ -1 → c.getD e.2.1.toNat 0 = -1 → ∃ p ∈ h, p.2 = e.2.1 ∧ p.1 ≤ c.getD e.1.toNat 0 + e.2.2
  src : c.getD s.toNat 0 = -1 → ∃ p ∈ h, p.2 = s ∧ p.1 ≤ 0
  size : h.length + 41 * neg c ≤ 700
theorem neg_of {l : List Int} {i : Nat} (hi : i < l.length) (h : l.getD i 0 < 0) : 0 < neg l := by
  unfold neg
  rw [List.countP_pos_iff]
  exact ⟨l[i], List.getElem_mem hi, by rw [List.getD_eq_getElem?_getD, List.getElem?_eq_getElem hi] at h; simpa using h⟩
theorem leastCosts_ok {n s : Int} {es : List E3} (hg : GOk n es) (h0 : 0 ≤ s) (hs : s < n) : gives (impl_leastCosts (mks (fun v => outs es es.length (v : Int)) n.toNat) s) (CL n.toNat es s) := by
  obtain ⟨g0, g16, g40, gE, gP_⟩ := gok_iff.1 hg
  unfold impl_leastCosts
  rw [mks_len, impl_unknowns_eq (by omega) (by omega), Option.bind_some, gives_bind, Int.toNat_natCast]
  have hz : ∀ x, x < n.toNat → (List.replicate n.toNat (-1 : Int)).getD x 0 = -1 := fun x hx => by
    simp only [List.getD_eq_getElem?_getD, List.getElem?_replicate]; rw [if_pos hx]; rfl
  have hneg0 : neg (List.replicate n.toNat (-1 : Int)) ≤ n.toNat := by have := neg_le (List.replicate n.toNat (-1 : Int)); simpa using this
  refine (gives_loop (Q := CL n.toNat es s) (body := impl_leastCosts_b1 (mks (fun v => outs es es.length (v : Int)) n.toNat)) (fun z : List Int × List Pr2 => (z.1, z.2)) (fun z => DI n es s z.1 z.2) (fun z => z.2.length + 41 * neg z.1) ?_ (List.replicate n.toNat (-1), [(0, s)]) ?_).mono fun r hr => gives_some.2 hr
  · rintro ⟨c, h⟩ hD
    replace hD : DI n es s c h := hD
    have hlen := hD.len
    have hsz := hD.size
    unfold impl_leastCosts_b1 impl_reachedHeap_Len
    dsimp only
    rw [Option.bind_some, gives_ite]
    refine ⟨fun hc => ?_, fun hc => ?_⟩
    · simp only [decide_eq_true_eq] at hc
      rw [gives_bind]
      refine (Pop_ok (l := h) (by omega) (by omega) hD.heap).mono ?_
      rintro ⟨d, u, h'⟩ ⟨k1, k2, k3⟩
      simp only at k1 k2 k3 ⊢
      have hl' : h.length = h'.length + 1 := by rw [k1.length_eq, List.length_cons]
      obtain ⟨⟨u0, un⟩, ⟨ku, hku⟩, hbd⟩ := hD.ent (d, u) (k1.mem_iff.2 (List.mem_cons_self ..))
      simp only at u0 un hku hbd
      have huc : ((u.toNat : Nat) : Int) = u := Int.toNat_of_nonneg u0
      have hul : u.toNat < c.length := by omega
      have hsub : ∀ p ∈ h', p ∈ h := fun p hp => k1.mem_iff.2 (List.mem_cons_of_mem _ hp)
      have hback : ∀ p ∈ h, p.2 ≠ u → p ∈ h' := fun p hp hne => by
        rcases List.mem_cons.1 (k1.mem_iff.1 hp) with rfl | h2
        · exact absurd rfl hne
        · exact h2
      rw [gives_chk, gives_ite]
      refine ⟨by omega, fun hc2 => ?_, fun hc2 => ?_⟩
      · rw [bne_iff_ne] at hc2
        refine gives_some.2 ⟨(c, h'), ⟨hD.len, hD.opt, k2, fun p hp => hD.ent p (hsub p hp), fun e he h1 h2 => ?_, fun h1 => ?_, by simp only; omega⟩, by simp only; omega, rfl⟩
        · obtain ⟨p, hp, hp2, hp3⟩ := hD.front e he h1 h2
          exact ⟨p, hback p hp (fun hh => by rw [hp2] at hh; rw [← hh] at hc2; exact hc2 h2), hp2, hp3⟩
        · obtain ⟨p, hp, hp2, hp3⟩ := hD.src h1
          exact ⟨p, hback p hp (fun hh => by rw [hp2] at hh; rw [← hh] at hc2; exact hc2 h1), hp2, hp3⟩
      · have hcu : c.getD u.toNat 0 = -1 := by simpa using hc2
        have hnp := neg_of hul (by omega : c.getD u.toNat 0 < 0)
        have hd0 : 0 ≤ d := hku.nn gE
        have hng := neg_set (l := c) (x := d) hd0 hul (by omega)
        have hgs := fun x => getD_set c u.toNat x d 0 hul
        have hlc : (c.set u.toNat d).length = c.length := List.length_set
        -- what is popped is least
        have hmin : ∀ k t x, WW es s k t x → c.getD t.toNat 0 = -1 → d ≤ x := by
          intro k
          induction k with
          | zero =>
            intro t x hw ht
            rw [hw.1] at ht
            obtain ⟨p, hp, hp2, hp3⟩ := hD.src ht
            have := (k3 p hp).fst
            rw [hw.2]
            simp only at this
            omega
          | succ k ih =>
            intro t x hw ht
            obtain ⟨e, he, c', h1, rfl, rfl⟩ := hw
            have hen := gE e he
            unfold EN at hen
            by_cases hce : c.getD e.1.toNat 0 = -1
            · have := ih _ _ h1 hce; omega
            · obtain ⟨p, hp, hp2, hp3⟩ := hD.front e he hce ht
              have h2 := (k3 p hp).fst
              simp only at h2
              rcases hD.opt e.1.toNat (by omega) with h3 | ⟨_, h3⟩
              · exact absurd h3 hce
              · have := h3.2 k c' (by rw [show ((e.1.toNat : Nat) : Int) = e.1 from by omega]; exact h1)
                omega
        have hopt : Opt es s u d := ⟨⟨ku, hku⟩, fun k x hw => hmin k u x hw hcu⟩
        rw [gives_chk, gives_chk, gives_chk, gives_bind]
        refine ⟨by omega, by rw [mks_len]; omega, by rw [mks_len]; omega, ?_⟩
        have hL : (mks (fun v => outs es es.length (v : Int)) n.toNat).getD u.toNat [] = outs es es.length u := by
          rw [mks_get (by omega)]
          simp only [huc]
        have hLl := outs_len es es.length u
        let ok := fun (t : Nat) (hh : List Pr2) => t ≤ (outs es es.length u).length ∧ HpO hh hh.length ∧ (∀ p ∈ h', p ∈ hh) ∧ (∀ p ∈ hh, p ∈ h' ∨ ∃ e ∈ es, e.1 = u ∧ p = (d + e.2.2, e.2.1)) ∧
          (∀ j, j < t → (c.set u.toNat d).getD ((outs es es.length u).getD j (0, 0, 0)).2.1.toNat 0 = -1 → (d + ((outs es es.length u).getD j (0, 0, 0)).2.2, ((outs es es.length u).getD j (0, 0, 0)).2.1) ∈ hh) ∧ hh.length ≤ h'.length + t
        refine (gives_loop (Q := fun hh => ok (outs es es.length u).length hh) (body := impl_leastCosts_b0 (mks (fun v => outs es es.length (v : Int)) n.toNat) c d u) (fun z : Nat × List Pr2 => ((z.1 : Int), z.2)) (fun z => ok z.1 z.2) (fun z => (outs es es.length u).length - z.1) ?_ (0, h') ⟨Nat.zero_le _, k2, fun p hp => hp, fun p hp => .inl hp, fun j hj => absurd hj (by omega), Nat.le_refl _⟩).mono ?_
        · rintro ⟨t, hh⟩ ⟨t1, t2, t3, t4, t5, t6⟩
          simp only at t1 t2 t3 t4 t5 t6 ⊢
          simp only [impl_leastCosts_b0]
          rw [gives_ite, hL]
          refine ⟨fun hc3 => ?_, fun hc3 => ?_⟩
          · simp only [decide_eq_true_eq] at hc3
            have htl : t < (outs es es.length u).length := by omega
            have hem : (outs es es.length u).getD t (0, 0, 0) ∈ outs es es.length u := by
              rw [getE htl]; exact List.getElem_mem htl
            rw [Int.toNat_natCast]
            generalize hee : (outs es es.length u).getD t (0, 0, 0) = e at hem ⊢
            obtain ⟨heu, ke, hke, hek⟩ := outs_mem.1 hem
            have hes : e ∈ es := by rw [hek, getE hke]; exact List.getElem_mem hke
            have hen := gE e hes
            unfold EN at hen
            obtain ⟨a1, a2, a3, a4, a5, a6, a7⟩ := hen
            rw [gives_join, gives_chk, gives_chk]
            refine ⟨by omega, by rw [hlc]; omega, ?_⟩
            rw [gives_ite]
            refine ⟨fun hc4 => ?_, fun hc4 => ?_⟩
            · rw [gives_chk, gives_bind]
              refine ⟨by omega, ?_⟩
              refine (Push_ok (l := hh) (a := d + e.2.2) (b := e.2.1) (by omega) t2).mono ?_
              rintro h2 ⟨p1, p2⟩
              rw [gives_chk]
              refine ⟨by omega, gives_some.2 ⟨(t + 1, h2), ⟨by simp only; omega, p2, fun p hp => p1.mem_iff.2 (List.mem_cons_of_mem _ (t3 p hp)), fun p hp => ?_, fun j hj hcj => ?_, by simp only; rw [p1.length_eq, List.length_cons]; omega⟩, by simp only; omega, rfl⟩⟩
              · rcases List.mem_cons.1 (p1.mem_iff.1 hp) with rfl | hp'
                · exact .inr ⟨e, hes, heu, rfl⟩
                · exact t4 p hp'
              · simp only at hj ⊢
                by_cases hjt : j = t
                · subst hjt
                  rw [hee]
                  exact p1.mem_iff.2 (List.mem_cons_self ..)
                · exact p1.mem_iff.2 (List.mem_cons_of_mem _ (t5 j (by omega) hcj))
            · rw [gives_chk]
              refine ⟨by omega, gives_some.2 ⟨(t + 1, hh), ⟨by simp only; omega, t2, t3, t4, fun j hj hcj => ?_, by simp only; omega⟩, by simp only; omega, rfl⟩⟩
              simp only at hj ⊢
              by_cases hjt : j = t
              · subst hjt
                rw [hee] at hcj
                rw [beq_iff_eq] at hc4
                exact absurd hcj hc4
              · exact t5 j (by omega) hcj
          · simp only [decide_eq_true_eq] at hc3
            have : t = (outs es es.length u).length := by omega
            subst this
            exact gives_some.2 ⟨t1, t2, t3, t4, t5, t6⟩
        · rintro hh ⟨t1, t2, t3, t4, t5, t6⟩
          refine gives_some.2 ⟨(c.set u.toNat d, hh), ⟨by rw [List.length_set]; exact hD.len, fun w hw => ?_, t2, fun p hp => ?_, fun e he h1 h2 => ?_, fun h1 => ?_, by simp only; omega⟩, by simp only; omega, rfl⟩
          · simp only
            rw [hgs]
            by_cases hwu : w = u.toNat
            · rw [if_pos hwu]
              subst hwu
              rw [huc]
              exact .inr ⟨hd0, hopt⟩
            · rw [if_neg hwu]; exact hD.opt w hw
          · simp only
            rcases t4 p hp with h1 | ⟨e, he, heu, rfl⟩
            · obtain ⟨e1, e2, e3⟩ := hD.ent p (hsub p h1)
              exact ⟨e1, e2, by omega⟩
            · have hen := gE e he
              unfold EN at hen
              refine ⟨⟨hen.2.2.1, hen.2.2.2.1⟩, ⟨ku + 1, e, he, d, by rw [heu]; exact hku, rfl, rfl⟩, ?_⟩
              simp only
              omega
          · simp only at h1 h2 ⊢
            have hen := gE e he
            unfold EN at hen
            have h2' := h2
            rw [hgs] at h1 h2 ⊢
            by_cases heu : e.1 = u
            · rw [if_pos (by rw [heu])]
              have hm : e ∈ outs es es.length u := by
                obtain ⟨j, hj, rfl⟩ := List.getElem_of_mem he
                exact outs_mem.2 ⟨heu, j, hj, (getE hj).symm⟩
              obtain ⟨j, hj, hje⟩ := List.getElem_of_mem hm
              have hje' : (outs es es.length u).getD j (0, 0, 0) = e := by rw [getE hj]; exact hje
              have := t5 j hj (by rw [hje']; exact h2')
              rw [hje'] at this
              exact ⟨_, this, rfl, Int.le_refl _⟩
            · have hne1 : ¬ e.1.toNat = u.toNat := by omega
              rw [if_neg hne1] at h1 ⊢
              by_cases hev : e.2.1.toNat = u.toNat
              · rw [if_pos hev] at h2; omega
              · rw [if_neg hev] at h2
                obtain ⟨p, hp, hp2, hp3⟩ := hD.front e he h1 h2
                exact ⟨p, t3 p (hback p hp (by rw [hp2]; omega)), hp2, hp3⟩
          · simp only at h1 ⊢
            rw [hgs] at h1
            by_cases hsu : s.toNat = u.toNat
            · rw [if_pos hsu] at h1; omega
            · rw [if_neg hsu] at h1
              obtain ⟨p, hp, hp2, hp3⟩ := hD.src h1
              exact ⟨p, t3 p (hback p hp (by rw [hp2]; omega)), hp2, hp3⟩
    · simp only [decide_eq_true_eq] at hc
      have hnil : h = [] := List.eq_nil_of_length_eq_zero (by omega)
      subst hnil
      have hreach : ∀ k t x, WW es s k t x → c.getD t.toNat 0 ≠ -1 := by
        intro k
        induction k with
        | zero =>
          intro t x hw ht
          rw [hw.1] at ht
          obtain ⟨p, hp, _⟩ := hD.src ht
          cases hp
        | succ k ih =>
          intro t x hw ht
          obtain ⟨e, he, c', h1, rfl, rfl⟩ := hw
          obtain ⟨p, hp, _⟩ := hD.front e he (ih _ _ h1) ht
          cases hp
      refine gives_some.2 ⟨hD.len, fun u hu => ?_⟩
      rcases hD.opt u hu with h1 | h1
      · exact .inr ⟨h1, fun k x hw => by have := hreach k _ x hw; rw [Int.toNat_natCast] at this; exact this h1⟩
      · exact .inl h1
  · refine ⟨by simp, fun u hu => .inl (hz u hu), fun k hk hkl => ?_, fun p hp => ?_, fun e he h1 h2 => ?_, fun _ => ⟨(0, s), List.mem_cons_self .., rfl, Int.le_refl _⟩, by simp only [List.length_cons, List.length_nil]; omega⟩
    · simp only [List.length_cons, List.length_nil] at hkl; omega
    · rw [List.mem_singleton.1 hp]
      exact ⟨⟨h0, hs⟩, ⟨0, rfl, rfl⟩, by simp only; omega⟩
    · have hen := gE e he
      unfold EN at hen
      exact absurd (hz e.1.toNat (by omega)) h1
theorem impl_CostsFrom_ok {n v : Int} {es : List E3} (hg : GOk n es) (h0 : 0 ≤ v) (hv : v < n) : gives (impl_CostsFrom n es v) (CL n.toNat es v) := by
  unfold impl_CostsFrom impl_Graph_has
  rw [impl_GraphValid_eq, gok_true hg, Option.bind_some, if_pos (by simp), Option.bind_some, if_neg (by simp; omega), impl_lists hg, Option.bind_some, gives_bind]
  exact (leastCosts_ok hg h0 hv).mono fun r hr => gives_some.2 hr
theorem impl_CostsFrom_not {n v : Int} {es : List E3} (h : ¬ (GOk n es ∧ 0 ≤ v ∧ v < n)) : impl_CostsFrom n es v = some [] := by
  unfold impl_CostsFrom impl_Graph_has
  rw [impl_GraphValid_eq, Option.bind_some]
  by_cases hg : GOk n es
  · rw [gok_true hg, if_pos (by simp), Option.bind_some, if_pos ?_]
    have : ¬ (0 ≤ v ∧ v < n) := fun hh => h ⟨hg, hh⟩
    simp only [Bool.not_true, Bool.false_or, Bool.not_eq_true', Bool.and_eq_false_iff, decide_eq_false_iff_not]
    omega
  · rw [gok_false hg, if_neg (by simp), Option.bind_some, if_pos (by rfl)]
theorem FnTurnCosts_true {b : List Int} (hb : Bts b) : laws_FnTurnCosts b = some true := by
  unfold laws_FnTurnCosts
  by_cases h0 : (1048576 : Int) < b.length
  · rw [if_pos (by simpa using h0)]
  rw [if_neg (by simpa using h0)]
  obtain ⟨⟨n, es, v⟩, h1, h2, h3⟩ : gives (spec_DrawCostsFrom b) fun r => (-1 ≤ r.1 ∧ r.1 ≤ 17) ∧ r.2.1.length ≤ 20 := by
    unfold spec_DrawCostsFrom
    rw [gives_bind]
    refine (open_ok hb).mono' (by rfl) ?_
    rintro ⟨c, p⟩ ⟨h1, h2, h3⟩
    simp only at h1 h2 h3 ⊢
    rw [gives_bind]
    refine (At_ok h1 ⟨by omega, by omega⟩).mono ?_
    rintro ⟨n, es, v, q⟩ ⟨g1, g2, g3, g4⟩
    exact gives_some.2 ⟨g1, g2⟩
  simp only at h2 h3
  rw [h1, Option.bind_some]
  dsimp only
  by_cases hg : GOk n es ∧ 0 ≤ v ∧ v < n
  · obtain ⟨hg, hv0, hv1⟩ := hg
    have h16 := hg.2.1
    obtain ⟨x, hx1, hx2⟩ := impl_CostsFrom_ok hg hv0 hv1
    obtain ⟨y, hy1, hy2⟩ := spec_CostsFrom_ok hg hv0 hv1
    have hxy := hx2.uniq hy2
    subst hxy
    rw [hx1, Option.bind_some, hy1, Option.bind_some, sameInts_self (by rw [hx2.1]; omega), Option.bind_some, if_neg (by simp), impl_TurnGraph_eq hg, Option.bind_some]
    dsimp only
    have hgt := turnF_ok hg
    have hxl := hx2.1
    have hloop : loop (laws_FnTurnCosts_b0 v x n (turnF es)) 0 = some (.inl ()) := by
      refine gives_eq.1 ?_
      refine gives_loop (fun k : Nat => (k : Int)) (fun k => k ≤ x.length) (fun k => x.length - k) ?_ 0 (Nat.zero_le _)
      intro k hk
      unfold laws_FnTurnCosts_b0
      rw [gives_ite]
      refine ⟨fun hc => ?_, fun _ => gives_some.2 rfl⟩
      simp only [decide_eq_true_eq] at hc
      have hkl : k < n.toNat := by omega
      obtain ⟨z, hz1, hz2, hz3⟩ := impl_CostsFrom_ok (v := (k : Int)) hgt (by omega) (by omega)
      have hzk : z.getD v.toNat 0 = x.getD k 0 := by
        have e1 := hz3 v.toNat (by omega)
        rw [show ((v.toNat : Nat) : Int) = v from by omega] at e1
        exact e1.uniq ((hx2.2 k hkl).flip hg)
      rw [hz1, Option.bind_some, gives_chk, gives_chk, Int.toNat_natCast, hzk, if_neg (by simp; omega), gives_chk]
      exact ⟨fun _ => by omega, fun _ => by omega, by omega, gives_some.2 ⟨k + 1, by omega, by omega, by omega⟩⟩
    rw [hloop, Option.bind_some, Sum.elim_inl, alive_eq, Option.bind_some]
  · rw [impl_CostsFrom_not hg, Option.bind_some, spec_CostsFrom_not ⟨by omega, by omega⟩ (by omega) hg, Option.bind_some, sameInts_self (by simp), Option.bind_some, if_neg (by simp)]
    obtain ⟨⟨n', es'⟩, ht⟩ : ∃ r, impl_TurnGraph n es = some r := by
      by_cases hgg : GOk n es
      · exact ⟨_, impl_TurnGraph_eq hgg⟩
      · exact ⟨_, impl_TurnGraph_not hgg⟩
    rw [ht, Option.bind_some]
    dsimp only
    have hloop : loop (laws_FnTurnCosts_b0 v [] n' es') 0 = some (.inl ()) := by
      refine gives_eq.1 ?_
      refine gives_loop (fun k : Nat => (k : Int)) (fun k => k = 0) (fun k => 0) ?_ 0 rfl
      intro k hk
      subst hk
      unfold laws_FnTurnCosts_b0
      rw [if_neg (by simp)]
      exact gives_some.2 rfl
    rw [hloop, Option.bind_some, Sum.elim_inl, alive_eq, Option.bind_some]
end Go.Proofs.Ytbdncdmkogbdhaa
