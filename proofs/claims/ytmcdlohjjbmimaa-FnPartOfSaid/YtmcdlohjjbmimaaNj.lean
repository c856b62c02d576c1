/- Parts of graphs: every edge goes to the part of its first end's worker; joined, they are the graph again. -/
import Derived.Test.YtmcdlohjjbmimaaNi
set_option linter.unusedSimpArgs false
set_option linter.unusedVariables false
namespace Go.Proofs.Ytmcdlohjjbmimaa
open Go Go.Av

/-- Of a sorted list with an edge that is new to it. -/
theorem goI_new {n : Int} {es : List Ed} {e : Ed} (hg : GOk n es) (he : EN n e) (hd : ∀ y ∈ es, dfE y e) (hl : es.length < 40) :
    gok n (insE es e) = true ∧ (insE es e).length = es.length + 1 ∧ (insE es e).Perm (e :: es) := by
  obtain ⟨g1, g2, g3, g4, g5⟩ := gok_iff.1 hg
  obtain ⟨A1, M, A2, ⟨q1, q2, q3, q4⟩, h⟩ := insE_cut g5 e
  have hM : M = [] := by
    rcases q4 with h1 | ⟨m, rfl, h1, h2⟩
    · exact h1
    · exact (hd m (by rw [q1]; simp) ⟨h1, h2⟩).elim
  subst hM
  rw [List.nil_append] at q1
  rw [q1] at g5
  have hp := List.pairwise_append.1 g5
  have hperm : (insE es e).Perm (e :: es) := by rw [h, q1]; exact List.perm_middle
  have hlen : (insE es e).length = es.length + 1 := by rw [hperm.length_eq, List.length_cons]
  refine ⟨gok_true (gok_iff.2 ⟨g1, g2, by omega, fun y hy => ?_, ?_⟩), hlen, hperm⟩
  · rcases List.mem_cons.1 (hperm.mem_iff.1 hy) with rfl | h1
    · exact he
    · exact g4 y h1
  · rw [h]
    refine List.pairwise_append.2 ⟨hp.1, List.pairwise_cons.2 ⟨q3, hp.2.1⟩, fun a ha b hb => ?_⟩
    rcases List.mem_cons.1 hb with rfl | h1
    · exact q2 a ha
    · exact hp.2.2 a ha b h1
theorem dfE.symm {x y : Ed} (h : dfE x y) : dfE y x := fun e => h ⟨e.1.symm, e.2.symm⟩
/-- Edges that all have other ends go in, in whatever order. -/
theorem goI_all {n : Int} : ∀ {F es : List Ed}, GOk n es → (∀ e ∈ F, EN n e) → F.Pairwise dfE → (∀ x ∈ es, ∀ y ∈ F, dfE x y) → es.length + F.length ≤ 40 →
    ∃ r, goI n es F = some r ∧ r.Perm (es ++ F) ∧ GOk n r
  | [], es, hg, _, _, _, _ => ⟨es, rfl, by simp, hg⟩
  | e :: F, es, hg, hE, hP, hX, hl => by
    have hP' := List.pairwise_cons.1 hP
    rw [List.length_cons] at hl
    obtain ⟨h1, h2, h3⟩ := goI_new hg (hE e (List.mem_cons_self ..)) (fun y hy => hX y hy e (List.mem_cons_self ..)) (by omega)
    obtain ⟨r, k1, k2, k3⟩ := goI_all (F := F) (gokP h1) (fun x hx => hE x (List.mem_cons_of_mem _ hx)) hP'.2 (fun x hx y hy => by
      rcases List.mem_cons.1 (h3.mem_iff.1 hx) with rfl | h4
      · exact hP'.1 y hy
      · exact hX x h4 y (List.mem_cons_of_mem _ hy)) (by omega)
    refine ⟨r, ?_, ?_, k3⟩
    · simp only [goI]
      rw [if_pos ⟨h1, by omega⟩, k1]
    · refine k2.trans ?_
      refine (List.Perm.append_right F h3).trans ?_
      rw [List.cons_append]
      exact List.perm_middle.symm
/-! Owners. -/
def ownW (v w : Int) : Int := (13 * v + 5) % 17 % w
theorem ownW_range {v w : Int} (hw : 0 < w) : 0 ≤ ownW v w ∧ ownW v w < w := ⟨Int.emod_nonneg _ (by omega), Int.emod_lt_of_pos _ hw⟩
theorem table_ok {w : Int} (hw : 0 < w) : gives (impl_ownerTable w) fun r => r.length = 16 ∧ ∀ j : Nat, j < 16 → r.getD j 0 = ownW j w := by
  unfold impl_ownerTable
  rw [gives_bind]
  refine (gives_loop (Q := fun r : List Int => r.length = 16 ∧ ∀ j : Nat, j < 16 → r.getD j 0 = ownW j w) (body := impl_ownerTable_b0 w) (fun s : Nat × List Int => ((s.1 : Int), s.2)) (fun s => s.1 ≤ 16 ∧ s.2.length = 16 ∧ ∀ j : Nat, j < s.1 → s.2.getD j 0 = ownW j w) (fun s => 16 - s.1) ?_ (0, zeros 16) ⟨by omega, by simp [zeros], fun j hj => absurd hj (by simp)⟩).mono ?_
  · rintro ⟨k, xs⟩ ⟨h1, h2, h3⟩
    simp only at h1 h2 h3 ⊢
    unfold impl_ownerTable_b0
    rw [gives_ite]
    refine ⟨fun hc => ?_, fun hc => ?_⟩
    · simp only [decide_eq_true_eq] at hc
      have hm := Int.emod_nonneg (13 * (k : Int) + 5) (b := 17) (by omega)
      rw [gives_chk, gives_chk, gives_chk, gives_chk, gives_chk, gives_chk, gives_chk, Int.toNat_natCast]
      refine ⟨by omega, by omega, by omega, ⟨hm, hw⟩, by omega, by omega, by omega, gives_some.2 ⟨(k + 1, xs.set k (ownW k w)), ⟨by omega, by rw [List.length_set]; exact h2, fun j hj => ?_⟩, by simp only; omega, rfl⟩⟩
      simp only at hj ⊢
      by_cases he : j = k
      · subst he
        rw [List.getD_eq_getElem?_getD, List.getElem?_set_self (by omega)]; rfl
      · rw [List.getD_eq_getElem?_getD, List.getElem?_set_ne (Ne.symm he), ← List.getD_eq_getElem?_getD]
        exact h3 j (by omega)
    · simp only [decide_eq_true_eq] at hc
      refine gives_some.2 ⟨h2, fun j hj => h3 j (by omega)⟩
  · intro r hr
    rw [gives_chk, gives_chk, gives_chk]
    exact ⟨hr.1, ⟨hr.1, by simp [zeros]⟩, hr.1, gives_some.2 hr⟩
theorem impl_OwnerOf_eq {v w : Int} (h0 : 0 ≤ v) (h16 : v < 16) (hw : 1 ≤ w) (hw6 : w ≤ 6) : impl_OwnerOf v w = some (ownW v w) := by
  unfold impl_OwnerOf impl_workersFit
  refine gives_eq.1 ?_
  rw [if_pos (by simp; omega), Option.bind_some, if_neg (by simp; omega), gives_bind]
  refine (table_ok (w := w) (by omega)).mono ?_
  intro r ⟨h1, h2⟩
  rw [gives_chk]
  refine ⟨by omega, gives_some.2 ?_⟩
  rw [h2 v.toNat (by omega), Int.toNat_of_nonneg h0]
theorem spec_OwnerOf_eq {v w : Int} (h0 : 0 ≤ v) (h16 : v < 16) (hw : 1 ≤ w) (hw6 : w ≤ 6) : spec_OwnerOf v w = some (ownW v w) := by
  unfold spec_OwnerOf
  have hm := Int.emod_nonneg (13 * v + 5) (b := 17) (by omega)
  rw [if_neg (by simp; omega), chk_pos (by omega), chk_pos (by omega), chk_pos (by omega), chk_pos ⟨hm, by omega⟩]
  rfl

/-! The part of one worker. -/
def partE (es : List Ed) (w a : Int) : List Ed := es.filter fun e => ownW e.1 w == a
theorem take_next {es : List Ed} {k : Nat} (h : k < es.length) : es.take (k + 1) = es.take k ++ [es.getD k (0, 0, 0)] := by
  rw [← List.take_append_getElem h, List.getD_eq_getElem?_getD, List.getElem?_eq_getElem h]; rfl
theorem partE_next {es : List Ed} {k : Nat} {w a : Int} (h : k < es.length) : partE (es.take (k + 1)) w a = if ownW (es.getD k (0, 0, 0)).1 w = a then partE (es.take k) w a ++ [es.getD k (0, 0, 0)] else partE (es.take k) w a := by
  unfold partE
  rw [take_next h, List.filter_append]
  by_cases hc : ownW (es.getD k (0, 0, 0)).1 w = a
  · rw [if_pos hc, List.filter_cons_of_pos (by simpa using hc), List.filter_nil]
  · rw [if_neg hc, List.filter_cons_of_neg (by simpa using hc), List.filter_nil, List.append_nil]
theorem partE_le (es : List Ed) (w a : Int) : (partE es w a).length ≤ es.length := List.length_filter_le ..
theorem part_ok {n : Int} {es : List Ed} (hg : GOk n es) (w a : Int) : GOk n (partE es w a) := by
  obtain ⟨g1, g2, g3, g4, g5⟩ := gok_iff.1 hg
  refine gok_iff.2 ⟨g1, g2, Nat.le_trans (partE_le es w a) g3, fun e he => g4 e (List.mem_filter.1 he).1, g5.filter _⟩
theorem gD_mem {es : List Ed} {k : Nat} (h : k < es.length) : es.getD k (0, 0, 0) ∈ es := by
  rw [List.getD_eq_getElem?_getD, List.getElem?_eq_getElem h]; exact List.getElem_mem _
theorem impl_PartOf_eq {n : Int} {es : List Ed} {w a : Int} (hg : GOk n es) (hw : 1 ≤ w) (hw6 : w ≤ 6) (h0 : 0 ≤ a) (ha : a < w) : impl_PartOf n es w a = some (n, partE es w a) := by
  obtain ⟨g1, g2, g3, g4, g5⟩ := gok_iff.1 hg
  unfold impl_PartOf impl_workersFit
  refine gives_eq.1 ?_
  rw [impl_GraphValid_eq, gok_true hg, Option.bind_some, if_pos (by simp), Option.bind_some, if_neg (by simp; omega), gives_bind]
  refine (table_ok (w := w) (by omega)).mono ?_
  intro T ⟨h1, h2⟩
  rw [gives_chk, gives_bind]
  refine ⟨⟨h1, by simp [zeros]⟩, ?_⟩
  refine (gives_loop (Q := fun r : List Ed => r = partE es w a) (body := impl_PartOf_b0 es a T) (fun k : Nat => ((k : Int), partE (es.take k) w a)) (fun k => k ≤ es.length) (fun k => es.length - k) ?_ 0 (Nat.zero_le _)).mono ?_
  · intro k hk
    unfold impl_PartOf_b0
    rw [gives_ite]
    refine ⟨fun hc => ?_, fun hc => ?_⟩
    · simp only [decide_eq_true_eq] at hc
      have hkl : k < es.length := by omega
      have he := g4 _ (gD_mem hkl)
      unfold EN at he
      have hpl := partE_le (es.take k) w a
      have htl : (es.take k).length ≤ es.length := by rw [List.length_take]; omega
      rw [gives_join, gives_chk, gives_chk, gives_chk, Int.toNat_natCast, h2 _ (by omega), Int.toNat_of_nonneg he.1]
      refine ⟨by omega, by omega, by omega, ?_⟩
      rw [gives_ite]
      refine ⟨fun hb => ?_, fun hb => ?_⟩
      · rw [beq_iff_eq] at hb
        rw [gives_chk, gives_chk]
        exact ⟨by omega, by omega, gives_some.2 ⟨k + 1, by omega, by omega, by rw [partE_next hkl, if_pos hb]; rfl⟩⟩
      · rw [beq_iff_eq] at hb
        rw [gives_chk]
        exact ⟨by omega, gives_some.2 ⟨k + 1, by omega, by omega, by rw [partE_next hkl, if_neg hb]; rfl⟩⟩
    · simp only [decide_eq_true_eq] at hc
      refine gives_some.2 ?_
      rw [List.take_of_length_le (by omega)]
  · rintro _ rfl
    exact gives_some.2 rfl
theorem impl_PartOf_not {n : Int} {es : List Ed} {w a : Int} (h : ¬ (GOk n es ∧ 1 ≤ w ∧ w ≤ 6 ∧ 0 ≤ a ∧ a < w)) : impl_PartOf n es w a = some (0, []) := by
  unfold impl_PartOf impl_workersFit
  rw [impl_GraphValid_eq, Option.bind_some]
  by_cases hg : GOk n es
  · rw [gok_true hg, if_pos (by simp), Option.bind_some, if_pos ?_]
    simp only [Bool.not_true, Bool.false_or, Bool.or_eq_true, Bool.not_eq_true', Bool.and_eq_false_iff, decide_eq_true_eq, decide_eq_false_iff_not]
    have : ¬ (1 ≤ w ∧ w ≤ 6 ∧ 0 ≤ a ∧ a < w) := fun hh => h ⟨hg, hh⟩
    omega
  · rw [gok_false hg, if_neg (by simp), Option.bind_some, if_pos (by rfl)]
theorem spec_PartOf_eq {n : Int} {es : List Ed} {w a : Int} (hg : GOk n es) (hw : 1 ≤ w) (hw6 : w ≤ 6) (h0 : 0 ≤ a) (ha : a < w) : spec_PartOf n es w a = some (n, partE es w a) := by
  obtain ⟨g1, g2, g3, g4, g5⟩ := gok_iff.1 hg
  have h3 : spec_l1OwnGraph n es = some (n, es) := by unfold spec_l1OwnGraph; rw [chk_pos (by omega)]; rfl
  unfold spec_PartOf
  refine gives_eq.1 ?_
  rw [h3, Option.bind_some]
  dsimp only
  rw [spec_GraphValid_eq ⟨by omega, by omega⟩ (by omega), gok_true hg, Option.bind_some, if_neg (by rw [wrap_fits (by omega) (by omega)]; simp; omega), gives_bind]
  refine (gives_loop (Q := fun r : List Ed => r = partE es w a) (body := spec_PartOf_b0 w a es) (fun k : Nat => ((k : Int), partE (es.take k) w a)) (fun k => k ≤ es.length) (fun k => es.length - k) ?_ 0 (Nat.zero_le _)).mono ?_
  · intro k hk
    unfold spec_PartOf_b0
    rw [gives_ite]
    refine ⟨fun hc => ?_, fun hc => ?_⟩
    · simp only [decide_eq_true_eq] at hc
      have hkl : k < es.length := by omega
      have he := g4 _ (gD_mem hkl)
      unfold EN at he
      have hpl := partE_le (es.take k) w a
      have htl : (es.take k).length ≤ es.length := by rw [List.length_take]; omega
      rw [gives_join, gives_chk, Int.toNat_natCast, spec_OwnerOf_eq he.1 (by omega) hw hw6, Option.bind_some]
      refine ⟨by omega, ?_⟩
      rw [gives_ite]
      refine ⟨fun hb => ?_, fun hb => ?_⟩
      · rw [beq_iff_eq] at hb
        rw [gives_chk, gives_chk, gives_chk]
        exact ⟨by omega, by omega, by omega, gives_some.2 ⟨k + 1, by omega, by omega, by rw [partE_next hkl, if_pos hb]; rfl⟩⟩
      · rw [beq_iff_eq] at hb
        rw [gives_chk]
        exact ⟨by omega, gives_some.2 ⟨k + 1, by omega, by omega, by rw [partE_next hkl, if_neg hb]; rfl⟩⟩
    · simp only [decide_eq_true_eq] at hc
      refine gives_some.2 ?_
      rw [List.take_of_length_le (by omega)]
  · rintro _ rfl
    exact gives_some.2 rfl
theorem spec_PartOf_not {n : Int} {es : List Ed} {w a : Int} (hn : -9223372036854775808 ≤ n ∧ n ≤ 9223372036854775807) (hx : es.length ≤ 1000000000) (hw : -1000 ≤ w ∧ w ≤ 1000) (h : ¬ (GOk n es ∧ 1 ≤ w ∧ w ≤ 6 ∧ 0 ≤ a ∧ a < w)) : spec_PartOf n es w a = some (0, []) := by
  have h3 : spec_l1OwnGraph n es = some (n, es) := by unfold spec_l1OwnGraph; rw [chk_pos (by omega)]; rfl
  unfold spec_PartOf
  rw [h3, Option.bind_some]
  dsimp only
  rw [spec_GraphValid_eq hn hx, Option.bind_some, wrap_fits (by omega) (by omega)]
  by_cases hg : GOk n es
  · rw [gok_true hg, if_pos ?_]
    simp only [Bool.not_true, Bool.false_or, Bool.or_eq_true, Bool.not_eq_true', Bool.and_eq_false_iff, decide_eq_true_eq, decide_eq_false_iff_not]
    have : ¬ (1 ≤ w ∧ w ≤ 6 ∧ 0 ≤ a ∧ a < w) := fun hh => h ⟨hg, hh⟩
    omega
  · rw [gok_false hg, if_pos (by rfl)]

/-! All parts together. -/
theorem flatC {α : Type} {f g : Nat → List α} : ∀ {l : List Nat}, (∀ k ∈ l, f k = g k) → l.flatMap f = l.flatMap g
  | [], _ => rfl
  | a :: l, h => by rw [List.flatMap_cons, List.flatMap_cons, h a (List.mem_cons_self ..), flatC fun k hk => h k (List.mem_cons_of_mem _ hk)]
theorem put_one {α : Type} {e : α} {k0 : Nat} {g : Nat → List α} : ∀ {l : List Nat}, l.Nodup → k0 ∈ l → (l.flatMap fun k => if k = k0 then e :: g k else g k).Perm (e :: l.flatMap g)
  | [], _, h => by cases h
  | a :: l, hn, h => by
    have hn' := List.nodup_cons.1 hn
    rw [List.flatMap_cons, List.flatMap_cons]
    by_cases ha : a = k0
    · subst ha
      rw [if_pos rfl]
      have : (l.flatMap fun k => if k = a then e :: g k else g k) = l.flatMap g := by
        refine flatC fun k hk => ?_
        rw [if_neg (fun h : k = a => hn'.1 (h ▸ hk))]
      rw [this, List.cons_append]
    · rw [if_neg ha]
      rcases List.mem_cons.1 h with h1 | h1
      · exact (ha h1.symm).elim
      · exact ((put_one hn'.2 h1).append_left _).trans List.perm_middle
theorem parts_perm {w : Nat} (hw : 0 < w) : ∀ es : List Ed, ((List.range w).flatMap fun k : Nat => partE es (w : Int) (k : Int)).Perm es
  | [] => by simp [partE]
  | e :: es => by
    have hr := ownW_range (v := e.1) (w := (w : Int)) (by omega)
    have h1 : ((List.range w).flatMap fun k : Nat => partE (e :: es) (w : Int) (k : Int)) = (List.range w).flatMap fun k : Nat => if k = (ownW e.1 w).toNat then e :: partE es (w : Int) (k : Int) else partE es (w : Int) (k : Int) := by
      refine flatC fun k hk => ?_
      unfold partE
      by_cases hc : k = (ownW e.1 w).toNat
      · rw [if_pos hc, List.filter_cons_of_pos (by rw [beq_iff_eq]; omega)]
      · rw [if_neg hc, List.filter_cons_of_neg (by rw [beq_iff_eq]; omega)]
    rw [h1]
    refine (put_one List.nodup_range (List.mem_range.2 (by omega))).trans ?_
    exact (parts_perm hw es).cons e
def partsL (n : Int) (es : List Ed) (w : Nat) : List Gr := (List.range w).map fun k : Nat => (n, partE es (w : Int) (k : Int))
theorem partsL_get {n : Int} {es : List Ed} {w k : Nat} (h : k < w) : (partsL n es w).getD k (0, []) = (n, partE es (w : Int) (k : Int)) := by
  unfold partsL
  rw [List.getD_eq_getElem?_getD, List.getElem?_map, List.getElem?_eq_getElem (by simpa using h)]
  simp
theorem asc_dfE {es : List Ed} (h : es.Pairwise ltE) : es.Pairwise dfE := h.imp fun {x y} hxy => by unfold ltE at hxy; unfold dfE; omega
theorem perm_dfE {A B : List Ed} (h : A.Perm B) (hA : A.Pairwise dfE) : B.Pairwise dfE := (h.pairwise_iff (fun {x y} hxy => dfE.symm hxy)).1 hA
theorem joinR_parts {n : Int} {es : List Ed} {w : Nat} (hg : GOk n es) (hw : 1 ≤ w) (hw6 : w ≤ 6) : joinR (partsL n es w) = (n, es, true) := by
  obtain ⟨g1, g2, g3, g4, g5⟩ := gok_iff.1 hg
  have hlen : (partsL n es w).length = w := by unfold partsL; simp
  have h0 : ((partsL n es w).getD 0 (0, [])).1 = n := by rw [partsL_get (by omega)]
  have hall : (partsL n es w).all (fun g => gok g.1 g.2 && g.1 == n) = true := by
    rw [List.all_eq_true]
    intro g hgm
    obtain ⟨k, _, rfl⟩ := List.mem_map.1 hgm
    simp [gok_true (part_ok hg (w : Int) (k : Int))]
  have hfl : flat (partsL n es w) = (List.range w).flatMap fun k : Nat => partE es (w : Int) (k : Int) := by
    unfold flat partsL; rw [List.flatMap_map]
  have hperm := parts_perm (w := w) (by omega) es
  rw [← hfl] at hperm
  obtain ⟨r, k1, k2, k3⟩ := goI_all (n := n) (F := flat (partsL n es w)) (es := []) (gok_nil g1 g2) (fun e he => g4 e (hperm.mem_iff.1 he)) (perm_dfE hperm.symm (asc_dfE g5)) (by simp) (by rw [hperm.length_eq]; simpa using g3)
  have hr : r = es := ltE_uniq (gok_iff.1 k3).2.2.2.2 g5 (k2.trans (by rw [List.nil_append]; exact hperm))
  unfold joinR
  rw [h0, if_pos ⟨by omega, hall⟩, k1, hr]

/-! The law. -/
theorem Workers_ok {b : List Int} {p n : Int} (hb : Bts b) (hp : 0 ≤ p ∧ p ≤ 900000) : gives (spec_l20Workers b p n) fun r => -1 ≤ r.1 ∧ r.1 ≤ 7 ∧ 0 ≤ r.2 ∧ r.2 ≤ p + 2 := by
  unfold spec_l20Workers
  rw [gives_bind]
  refine (odd_ok hb ⟨by omega, by omega⟩).mono ?_
  rintro ⟨y, q⟩ hq
  simp only at hq ⊢
  rw [gives_ite]
  refine ⟨fun _ => ?_, fun _ => ?_⟩
  · rw [gives_bind]
    refine (pick_ok hb ⟨by omega, by omega⟩).mono ?_
    rintro ⟨z, q1⟩ ⟨e1, f1, f2, _⟩
    simp only at e1 f1 f2 ⊢
    have := f2 (by omega)
    rw [gives_chk]
    refine ⟨by omega, gives_some.2 ?_⟩
    simp only
    have hz : z = 0 ∨ z = 1 ∨ z = 2 := by omega
    rcases hz with rfl | rfl | rfl
    · simp; omega
    · simp; omega
    · simp; omega
  · rw [gives_bind]
    refine (pick_ok hb ⟨by omega, by omega⟩).mono ?_
    rintro ⟨z, q1⟩ ⟨e1, f1, f2, _⟩
    simp only at e1 f1 f2 ⊢
    have := f2 (by omega)
    rw [gives_chk]
    exact ⟨by omega, gives_some.2 ⟨by omega, by omega, by omega, by omega⟩⟩
theorem DrawPartOf_ok {b : List Int} (hb : Bts b) : gives (spec_DrawPartOf b) fun r => (-1 ≤ r.1 ∧ r.1 ≤ 17) ∧ r.2.1.length ≤ 20 ∧ -1 ≤ r.2.2.1 ∧ r.2.2.1 ≤ 7 := by
  unfold spec_DrawPartOf
  rw [gives_bind]
  refine (open_ok hb).mono' (by rfl) ?_
  rintro ⟨c, p⟩ ⟨h1, h2, h3⟩
  simp only at h1 h2 h3 ⊢
  rw [gives_bind]
  refine (Graph_ok h1 ⟨by omega, by omega⟩).mono ?_
  rintro ⟨n, es, q⟩ ⟨g1, g2, g3, g4⟩
  simp only at g1 g2 g3 g4 ⊢
  rw [gives_bind]
  refine (Workers_ok h1 ⟨by omega, by omega⟩).mono ?_
  rintro ⟨w, q1⟩ ⟨w1, w2, w3, w4⟩
  simp only at w1 w2 w3 w4 ⊢
  rw [gives_bind]
  refine (pick_ok h1 ⟨by omega, by omega⟩).mono ?_
  rintro ⟨y, p1⟩ ⟨e1, f1, f2, _⟩
  simp only at e1 f1 f2 ⊢
  have := f2 (by omega)
  rw [gives_bind]
  refine (pick_ok h1 ⟨by omega, by omega⟩).mono ?_
  rintro ⟨z, p2⟩ ⟨e2, f3, f4, _⟩
  simp only at e2 f3 f4 ⊢
  have := f4 (by omega)
  rw [gives_chk, gives_chk]
  exact ⟨by omega, by omega, gives_some.2 ⟨g1, g2, w1, w2⟩⟩
theorem partsL_next {n : Int} {es : List Ed} {w k : Nat} : ((List.range (k + 1)).map fun j : Nat => ((n, partE es (w : Int) (j : Int)) : Gr)) = ((List.range k).map fun j : Nat => ((n, partE es (w : Int) (j : Int)) : Gr)) ++ [(n, partE es (w : Int) (k : Int))] := by
  rw [List.range_succ, List.map_append]; rfl
theorem FnPartOf_true {b : List Int} (hb : Bts b) : laws_FnPartOf b = some true := by
  unfold laws_FnPartOf
  by_cases h0 : (1048576 : Int) < b.length
  · rw [if_pos (by simpa using h0)]
  rw [if_neg (by simpa using h0)]
  obtain ⟨⟨n, es, w, a⟩, h1, h2, h3, h4, h5⟩ := DrawPartOf_ok hb
  simp only at h2 h3 h4 h5
  rw [h1, Option.bind_some]
  dsimp only
  by_cases hc : GOk n es ∧ 1 ≤ w ∧ w ≤ 6 ∧ 0 ≤ a ∧ a < w
  · obtain ⟨hg, hw, hw6, ha0, haw⟩ := hc
    have h16 := hg.2.1
    have g40 := hg.2.2.1
    have hpl := partE_le es w a
    rw [impl_PartOf_eq hg hw hw6 ha0 haw, Option.bind_some]
    dsimp only
    rw [spec_PartOf_eq hg hw hw6 ha0 haw, Option.bind_some]
    dsimp only
    rw [sameGraph_self (by omega), Option.bind_some, if_neg (by simp), spec_GraphValid_eq ⟨by omega, by omega⟩ (by omega), gok_true hg, Option.bind_some, if_neg (by simp; omega)]
    have hl1 : loop (laws_FnPartOf_b0 n es w) (0, []) = some (partsL n es w.toNat) := by
      refine gives_eq.1 ?_
      refine gives_loop (Q := fun r : List Gr => r = partsL n es w.toNat) (fun k : Nat => ((k : Int), (List.range k).map fun j : Nat => ((n, partE es (w.toNat : Int) (j : Int)) : Gr))) (fun k => k ≤ w.toNat) (fun k => w.toNat - k) ?_ 0 (Nat.zero_le _)
      intro k hk
      unfold laws_FnPartOf_b0
      rw [gives_ite]
      refine ⟨fun hc => ?_, fun hc => ?_⟩
      · simp only [decide_eq_true_eq] at hc
        rw [impl_PartOf_eq hg hw hw6 (by omega) hc, Option.bind_some]
        dsimp only
        have hll : ((List.range k).map fun j : Nat => ((n, partE es (w.toNat : Int) (j : Int)) : Gr)).length = k := by simp
        have hset : ∀ (L : List Gr) (x y : Gr), L.length = k → (L ++ [x]).set k y = L ++ [y] := fun L x y hL => by
          rw [List.set_append_right _ _ (by omega), hL, Nat.sub_self, List.set_cons_zero]
        have hget : ∀ (L : List Gr) (x : Gr), L.length = k → (L ++ [x]).getD k (0, []) = x := fun L x hL => by
          rw [List.getD_eq_getElem?_getD, List.getElem?_append_right (by omega), hL, Nat.sub_self]; rfl
        rw [gives_chk, gives_chk, hll]
        refine ⟨by omega, by omega, gives_some.2 ⟨k + 1, by omega, by omega, ?_⟩⟩
        rw [hget _ _ hll, hset _ _ _ hll, partsL_next, show ((w.toNat : Nat) : Int) = w from by omega]
        rfl
      · simp only [decide_eq_true_eq] at hc
        refine gives_some.2 ?_
        have : k = w.toNat := by omega
        subst this
        rfl
    have hl2 : loop (laws_FnPartOf_b1 w a (partE es w a)) 0 = some (.inl ()) := by
      refine gives_eq.1 ?_
      refine gives_loop (fun k : Nat => (k : Int)) (fun k => k ≤ (partE es w a).length) (fun k => (partE es w a).length - k) ?_ 0 (Nat.zero_le _)
      intro k hk
      unfold laws_FnPartOf_b1
      rw [gives_ite]
      refine ⟨fun hc => ?_, fun _ => gives_some.2 rfl⟩
      simp only [decide_eq_true_eq] at hc
      have hkl : k < (partE es w a).length := by omega
      have hm : (partE es w a).getD k (0, 0, 0) ∈ es ∧ (ownW ((partE es w a).getD k (0, 0, 0)).1 w == a) = true := List.mem_filter.1 (gD_mem hkl)
      have he := (gok_iff.1 hg).2.2.2.1 _ hm.1
      have ho := hm.2
      unfold EN at he
      rw [beq_iff_eq] at ho
      rw [gives_chk, Int.toNat_natCast, impl_OwnerOf_eq he.1 (by omega) hw hw6, Option.bind_some, ho, if_neg (by simp), gives_chk]
      exact ⟨by omega, by omega, gives_some.2 ⟨k + 1, by omega, by omega, by omega⟩⟩
    rw [hl1, Option.bind_some, hl2, Option.bind_some, Sum.elim_inl, joinI_eq (fun k hk => ?_), joinR_parts hg (by omega) (by omega), Option.bind_some]
    · dsimp only
      rw [impl_GraphValid_eq, gok_true (part_ok hg w a), Option.bind_some, if_pos (by rfl), sameGraph_self (by omega), Option.bind_some]
      rfl
    · have hk' : k < w.toNat := by simpa [partsL] using hk
      rw [partsL_get hk']
      have := partE_le es (w.toNat : Int) (k : Int)
      simp only
      omega
  · rw [impl_PartOf_not hc, Option.bind_some]
    dsimp only
    rw [spec_PartOf_not ⟨by omega, by omega⟩ (by omega) ⟨by omega, by omega⟩ hc, Option.bind_some]
    dsimp only
    rw [sameGraph_self (by simp), Option.bind_some, if_neg (by simp), spec_GraphValid_eq ⟨by omega, by omega⟩ (by omega), Option.bind_some, if_pos ?_, if_pos (by rfl), alive_eq]
    · rfl
    · by_cases hg : GOk n es
      · have : ¬ (1 ≤ w ∧ w ≤ 6 ∧ 0 ≤ a ∧ a < w) := fun hh => hc ⟨hg, hh⟩
        simp only [gok_true hg, Bool.not_true, Bool.false_or, Bool.or_eq_true, decide_eq_true_eq]
        omega
      · rw [gok_false hg]; rfl
end Go.Proofs.Ytmcdlohjjbmimaa
