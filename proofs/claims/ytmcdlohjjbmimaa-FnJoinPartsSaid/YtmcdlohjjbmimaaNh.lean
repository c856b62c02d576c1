/- Edges put at their place; with an edge more no hops grow. -/
import Derived.Test.YtmcdlohjjbmimaaNd
set_option linter.unusedSimpArgs false
set_option linter.unusedVariables false
namespace Go.Proofs.Ytmcdlohjjbmimaa
open Go Go.Av
attribute [local go_sem] gives_chk gives_ite gives_some gives_bind gives_join Sum.elim_inl Sum.elim_inr decide_eq_true_eq decide_eq_false_iff_not Bool.not_eq_true' Bool.not_eq_false' Bool.or_eq_true Bool.and_eq_true Bool.not_eq_eq_eq_not beq_iff_eq bne_iff_ne ne_eq Bool.or_eq_false_iff Bool.and_eq_false_iff Bool.not_eq_true Bool.not_eq_false Bool.not_true Bool.not_false Int.toNat_natCast beq_eq_false_iff_ne bne_eq_false_iff_eq Decidable.not_not Bool.default_bool

/-- Where an edge has its place. -/
def CutE (es : List (Int × Int × Int)) (e : Int × Int × Int) (A1 M A2 : List (Int × Int × Int)) : Prop := es = A1 ++ (M ++ A2) ∧ (∀ y ∈ A1, ltE y e) ∧ (∀ y ∈ A2, ltE e y) ∧ (M = [] ∨ ∃ m, M = [m] ∧ m.1 = e.1 ∧ m.2.1 = e.2.1)
theorem cutE_is : ∀ {es : List (Int × Int × Int)} (_ : es.Pairwise ltE) (e : Int × Int × Int), ∃ A1 M A2, CutE es e A1 M A2
  | [], _, e => ⟨[], [], [], rfl, by simp, by simp, .inl rfl⟩
  | y :: es, hP, e => by
    obtain ⟨h1, h2⟩ := List.pairwise_cons.1 hP
    by_cases hy : ltE y e
    · obtain ⟨A1, M, A2, q1, q2, q3, q4⟩ := cutE_is h2 e
      refine ⟨y :: A1, M, A2, by rw [q1]; rfl, fun z hz => ?_, q3, q4⟩
      rcases List.mem_cons.1 hz with rfl | hz
      · exact hy
      · exact q2 z hz
    · by_cases hs : y.1 = e.1 ∧ y.2.1 = e.2.1
      · refine ⟨[], [y], es, rfl, by simp, fun z hz => ?_, .inr ⟨y, rfl, hs⟩⟩
        have := h1 z hz
        unfold ltE at this ⊢
        omega
      · have he : ltE e y := by unfold ltE at hy ⊢; omega
        refine ⟨[], [], y :: es, rfl, by simp, fun z hz => ?_, .inl rfl⟩
        rcases List.mem_cons.1 hz with rfl | hz
        · exact he
        · exact he.trans (h1 z hz)
theorem CutE.uniq {es : List (Int × Int × Int)} {e : Int × Int × Int} {A1 M A2 B1 L B2 : List (Int × Int × Int)} (h : CutE es e A1 M A2) (g : CutE es e B1 L B2) : A1 ++ e :: A2 = B1 ++ e :: B2 := by
  classical
  have key : ∀ {C1 K C2 : List (Int × Int × Int)}, CutE es e C1 K C2 → C1 = es.filter (fun y => decide (ltE y e)) ∧ C2 = es.filter (fun y => decide (ltE e y)) := by
    rintro C1 K C2 ⟨q1, q2, q3, q4⟩
    have nK : ∀ y ∈ K, ¬ ltE y e ∧ ¬ ltE e y := fun y hy => by
      rcases q4 with rfl | ⟨m, rfl, m1, m2⟩
      · cases hy
      · rw [List.mem_singleton.1 hy]; unfold ltE; omega
    constructor
    · rw [q1, List.filter_append, List.filter_append, List.filter_eq_self.2 (fun y hy => by simpa using q2 y hy), List.filter_eq_nil_iff.2 (fun y hy => by simpa using (nK y hy).1), List.filter_eq_nil_iff.2 (fun y hy => by simpa using fun h => h.asymm (q3 y hy))]
      simp
    · rw [q1, List.filter_append, List.filter_append, List.filter_eq_nil_iff.2 (fun y hy => by simpa using fun h => h.asymm (q2 y hy)), List.filter_eq_nil_iff.2 (fun y hy => by simpa using (nK y hy).2), List.filter_eq_self.2 (fun y hy => by simpa using q3 y hy)]
      simp
  rw [(key h).1, (key h).2, (key g).1, (key g).2]
theorem cmpE_zero (a b d e : Int) : orF [cmpI a d, cmpI b e] = 0 ↔ (a = d ∧ b = e) := by
  simp only [orF, cmpI]; repeat' split
  all_goals omega
theorem search_ok {es : List (Int × Int × Int)} {e : Int × Int × Int} {A1 M A2 : List (Int × Int × Int)} (hl : es.length ≤ 1000) (h : CutE es e A1 M A2) :
    slices_BinarySearchFunc_impl_Edge_impl_Edge_impl_Edge__impl_compareEnds es e.1 e.2.1 e.2.2 = some ((A1.length : Int), decide (M ≠ [])) := by
  obtain ⟨q1, q2, q3, q4⟩ := h
  have hel : es.length = A1.length + (M.length + A2.length) := by rw [q1]; simp
  have hlow : ∀ k, k < A1.length → ltE (es.getD k (0, 0, 0)) e := fun k hk => by
    rw [q1, List.getD_eq_getElem?_getD, List.getElem?_append_left hk, List.getElem?_eq_getElem hk]
    exact q2 _ (List.getElem_mem hk)
  have hhigh : ∀ k, A1.length ≤ k → k < es.length → ¬ ltE (es.getD k (0, 0, 0)) e := fun k hk hkl => by
    have hm : es.getD k (0, 0, 0) ∈ M ++ A2 := by
      rw [q1, List.getD_eq_getElem?_getD, List.getElem?_append_right hk, List.getElem?_eq_getElem (by simp; omega)]
      exact List.getElem_mem _
    rcases List.mem_append.1 hm with hm | hm
    · rcases q4 with h | ⟨m, h, m1, m2⟩
      · rw [h] at hm; cases hm
      · rw [h] at hm; rw [List.mem_singleton.1 hm]; unfold ltE; omega
    · exact fun h => h.asymm (q3 _ hm)
  refine gives_eq.1 ?_
  unfold slices_BinarySearchFunc_impl_Edge_impl_Edge_impl_Edge__impl_compareEnds
  rw [gives_bind]
  refine (gives_loop (Q := fun r : Int => r = (A1.length : Int)) (fun s : Nat × Nat => ((s.1 : Int), (s.2 : Int))) (fun s => s.1 ≤ A1.length ∧ A1.length ≤ s.2 ∧ s.2 ≤ es.length) (fun s => s.2 - s.1) ?_ (0, es.length) ⟨Nat.zero_le _, by simp only; omega, Nat.le_refl _⟩).mono ?_
  · rintro ⟨i, j⟩ ⟨h1, h2, h3⟩
    simp only at h1 h2 h3
    unfold slices_BinarySearchFunc_impl_Edge_impl_Edge_impl_Edge__impl_compareEnds_b0
    dsimp only
    rw [gives_ite]
    refine ⟨fun hc => ?_, fun hc => gives_some.2 (by simp only [decide_eq_true_eq] at hc; omega)⟩
    simp only [decide_eq_true_eq] at hc
    obtain ⟨k, hk⟩ : ∃ k, k = (i + j) / 2 := ⟨_, rfl⟩
    have hw : (IntKind.u64.wrap ((i : Int) + (j : Int))).fdiv 2 = (k : Int) := by
      rw [wrap_u64 (by omega) (by omega), Int.fdiv_eq_ediv_of_nonneg _ (by omega)]
      omega
    rw [hw, gives_chk, gives_chk, gives_chk, Int.toNat_natCast, gives_ite]
    have hcmp := cmpE_neg (es.getD k (0, 0, 0)).1 (es.getD k (0, 0, 0)).2.1 e.1 e.2.1
    refine ⟨by omega, by omega, by omega, fun hlt => ?_, fun hge => ?_⟩
    · rw [decide_eq_true_eq, hcmp] at hlt
      have hka : k < A1.length := by
        rcases Nat.lt_or_ge k A1.length with h | h
        · exact h
        · exact absurd hlt (hhigh k h (by omega))
      rw [gives_chk]
      exact ⟨by omega, gives_some.2 ⟨(k + 1, j), ⟨by simp only; omega, h2, h3⟩, by simp only; omega, by simp⟩⟩
    · rw [decide_eq_true_eq, hcmp] at hge
      have hka : A1.length ≤ k := by
        rcases Nat.lt_or_ge k A1.length with h | h
        · exact absurd (hlow k h) hge
        · exact h
      exact gives_some.2 ⟨(i, k), ⟨h1, hka, by simp only; omega⟩, by simp only; omega, rfl⟩
  · rintro _ rfl
    rw [gives_chk, Int.toNat_natCast]
    refine ⟨fun hc => ?_, gives_some.2 ?_⟩
    · simp only [decide_eq_true_eq] at hc; omega
    refine Prod.ext rfl ?_
    simp only
    rw [Bool.eq_iff_iff, Bool.and_eq_true, decide_eq_true_eq, beq_iff_eq, cmpE_zero, decide_eq_true_eq]
    constructor
    · rintro ⟨hc, h1, h2⟩ hM
      subst hM
      have hm : es.getD A1.length (0, 0, 0) ∈ A2 := by
        rw [q1, List.getD_eq_getElem?_getD, List.getElem?_append_right (Nat.le_refl _), List.nil_append, List.getElem?_eq_getElem (by simp at hel ⊢; omega)]
        exact List.getElem_mem _
      have := q3 _ hm
      unfold ltE at this
      omega
    · intro hM
      rcases q4 with h | ⟨m, h, m1, m2⟩
      · exact absurd h hM
      · have : es.getD A1.length (0, 0, 0) = m := by
          rw [q1, h, List.getD_eq_getElem?_getD, List.getElem?_append_right (Nat.le_refl _), Nat.sub_self]; rfl
        rw [this]
        refine ⟨?_, m1, m2⟩
        rw [h] at hel
        simp only [List.length_cons, List.length_nil] at hel
        omega
theorem impl_AddEdge_is {n : Int} {es : List (Int × Int × Int)} {e : Int × Int × Int} {A1 M A2 : List (Int × Int × Int)} (hg : GOk n es) (h : CutE es e A1 M A2) :
    impl_AddEdge n es e.1 e.2.1 e.2.2 = some (if gok n (A1 ++ e :: A2) = true then (n, A1 ++ e :: A2, true) else (n, es, false)) := by
  have h40 := hg.2.2.1
  have hel : es.length = A1.length + (M.length + A2.length) := by rw [h.1]; simp
  have hcp : impl_Graph_copied n es = some (n, es) := by unfold impl_Graph_copied; rw [cloneE (by omega)]; rfl
  have hend : ∀ (R : List (Int × Int × Int)), ((impl_GraphValid n R).bind fun y_6 => if (!y_6) then (some (n, es)).bind fun x : Int × List (Int × Int × Int) => some (x.1, x.2, false) else some (n, R, true)) = some (if gok n R = true then (n, R, true) else (n, es, false)) := fun R => by
    rw [impl_GraphValid_eq, Option.bind_some]
    cases gok n R
    · rw [if_pos (by rfl)]; rfl
    · rw [if_neg (by simp)]; rfl
  unfold impl_AddEdge
  rw [impl_GraphValid_eq, gok_true hg, Option.bind_some, if_neg (by simp), search_ok (by omega) h, Option.bind_some]
  dsimp only
  rw [hcp, Option.bind_some]
  dsimp only [join]
  obtain ⟨q1, q2, q3, q4⟩ := h
  rcases q4 with hM | ⟨m, hM, m1, m2⟩
  · subst hM
    rw [if_neg (by simp)]
    have hins : insF es (A1.length : Int) [(e.1, e.2.1, e.2.2)] = some (A1 ++ e :: A2) := by
      unfold insF
      rw [chk_pos (by rfl), chk_pos (by omega), chk_pos (by omega), Int.toNat_natCast]
      congr 1
      rw [q1, List.nil_append, List.take_left, List.drop_left]
      simp
    rw [hins, Option.bind_some]
    exact hend _
  · subst hM
    rw [if_pos (by simp), chk_pos (by simp at hel; omega), Int.toNat_natCast]
    have hset : es.set A1.length (e.1, e.2.1, e.2.2) = A1 ++ e :: A2 := by
      rw [q1]
      exact setDN rfl
    rw [hset]
    exact hend _
theorem spec_put {n : Int} {es : List (Int × Int × Int)} {e : Int × Int × Int} (hg : GOk n es) :
    gives (loop (spec_AddEdge_b0 e.1 e.2.1 e.2.2 es) (false, 0, [])) fun r => ∃ A1 M A2, CutE es e A1 M A2 ∧ ((r.1 = false ∧ r.2 = A1 ∧ A2 = []) ∨ (r.1 = true ∧ r.2 = A1 ++ e :: A2)) := by
  obtain ⟨h0, h16, h40, hE, hP⟩ := gok_iff.1 hg
  refine gives_loop (fun s : Bool × Nat × List (Int × Int × Int) => (s.1, (s.2.1 : Int), s.2.2)) (fun s => ∃ A B, es = A ++ B ∧ s.2.1 = A.length ∧ ((s.1 = false ∧ s.2.2 = A ∧ ∀ y ∈ A, ltE y e) ∨ (s.1 = true ∧ ∃ A1 M A2, CutE A e A1 M A2 ∧ s.2.2 = A1 ++ e :: A2 ∧ (M ≠ [] ∨ A2 ≠ []))))
    (fun s => es.length - s.2.1) ?_ (false, 0, []) ⟨[], es, rfl, rfl, .inl ⟨rfl, rfl, by simp⟩⟩
  rintro ⟨t, k, out⟩ ⟨A, B, hx, hk, hs⟩
  simp only at hk hs
  have hxl : es.length = A.length + B.length := by rw [hx]; simp
  have hol : out.length ≤ A.length + 1 := by
    rcases hs with ⟨_, h, _⟩ | ⟨_, A1, M, A2, h1, h2, _⟩
    · rw [h]; omega
    · rw [h2, h1.1]; simp; omega
  simp only [spec_AddEdge_b0, join]
  rw [gives_ite]
  refine ⟨fun hc => ?_, fun hc => ?_⟩
  · simp only [decide_eq_true_eq] at hc
    rcases B with _ | ⟨y, B⟩
    · simp only [List.length_nil] at hxl; omega
    simp only [List.length_cons] at hxl
    have ey : es.getD k (0, 0, 0) = y := by rw [hx]; exact gDN hk
    have hAy : ∀ z ∈ A, ltE z y := fun z hz => (List.pairwise_append.1 (hx ▸ hP)).2.2 z hz y (List.mem_cons_self ..)
    rw [gives_chk, Int.toNat_natCast, ey, gives_ite]
    refine ⟨by omega, fun hb => ?_, fun hb => ?_⟩
    · simp only [Bool.and_eq_true, Bool.not_eq_true', decide_eq_false_iff_not] at hb
      obtain ⟨ht, hny⟩ := hb
      subst ht
      obtain ⟨ho, hA⟩ : out = A ∧ ∀ y ∈ A, ltE y e := by
        rcases hs with ⟨_, ho, hA⟩ | ⟨h, _⟩
        · exact ⟨ho, hA⟩
        · cases h
      clear hs
      subst ho
      rw [gives_chk, gives_ite]
      refine ⟨by omega, fun hsame => ?_, fun hdiff => ?_⟩
      · simp only [Bool.and_eq_true, beq_iff_eq] at hsame
        rw [gives_chk]
        refine ⟨by omega, gives_some.2 ⟨(true, k + 1, out ++ [e]), ⟨out ++ [y], B, by rw [hx]; simp, by simp; omega, .inr ⟨rfl, out, [y], [], ⟨by simp, hA, by simp, .inr ⟨y, rfl, hsame⟩⟩, by simp, .inl (by simp)⟩⟩, by simp only; omega, rfl⟩⟩
      · simp only [Bool.and_eq_true, beq_iff_eq] at hdiff
        rw [gives_chk, gives_chk]
        refine ⟨by simp; omega, by omega, gives_some.2 ⟨(true, k + 1, (out ++ [e]) ++ [y]), ⟨out ++ [y], B, by rw [hx]; simp, by simp; omega, .inr ⟨rfl, out, [], [y], ⟨by simp, hA, fun z hz => ?_, .inl rfl⟩, by simp, .inr (by simp)⟩⟩, by simp only; omega, rfl⟩⟩
        rw [List.mem_singleton.1 hz]
        unfold ltE
        omega
    · rw [gives_chk, gives_chk]
      refine ⟨by omega, by omega, gives_some.2 ⟨(t, k + 1, out ++ [y]), ⟨A ++ [y], B, by rw [hx]; simp, by simp; omega, ?_⟩, by simp only; omega, rfl⟩⟩
      rcases hs with ⟨ht, ho, hA⟩ | ⟨ht, A1, M, A2, ⟨c1, c2, c3, c4⟩, ho, hne⟩
      · left
        subst ht
        simp only [Bool.and_eq_true, Bool.not_eq_true', decide_eq_false_iff_not, true_and, Decidable.not_not] at hb
        refine ⟨rfl, by simp only; rw [ho], fun z hz => ?_⟩
        rcases List.mem_append.1 hz with hz | hz
        · exact hA z hz
        · rw [List.mem_singleton.1 hz]; exact hb
      · right
        refine ⟨ht, A1, M, A2 ++ [y], ⟨by rw [c1]; simp, c2, fun z hz => ?_, c4⟩, by simp only; rw [ho]; simp, .inr (by simp)⟩
        rcases List.mem_append.1 hz with hz | hz
        · exact c3 z hz
        · rw [List.mem_singleton.1 hz]
          rcases A2 with _ | ⟨z', A2⟩
          · rcases c4 with h | ⟨m, h, m1, m2⟩
            · rcases hne with hne | hne
              · exact absurd h hne
              · exact absurd rfl hne
            · have := hAy m (by rw [c1, h]; simp)
              unfold ltE at this ⊢
              omega
          · exact (c3 z' (List.mem_cons_self ..)).trans (hAy z' (by rw [c1]; simp))
  · simp only [decide_eq_true_eq] at hc
    have hB : B = [] := List.eq_nil_of_length_eq_zero (by omega)
    subst hB
    simp only [List.append_nil] at hx
    subst hx
    refine gives_some.2 ?_
    rcases hs with ⟨ht, ho, hA⟩ | ⟨ht, A1, M, A2, hcut, ho, _⟩
    · exact ⟨es, [], [], ⟨by simp, hA, by simp, .inl rfl⟩, .inl ⟨ht, ho, rfl⟩⟩
    · exact ⟨A1, M, A2, hcut, .inr ⟨ht, ho⟩⟩
theorem spec_AddEdge_is {n : Int} {es : List (Int × Int × Int)} {e : Int × Int × Int} {A1 M A2 : List (Int × Int × Int)} (hg : GOk n es) (h : CutE es e A1 M A2) :
    spec_AddEdge n es e.1 e.2.1 e.2.2 = some (if gok n (A1 ++ e :: A2) = true then (n, A1 ++ e :: A2, true) else (n, es, false)) := by
  have h0 := hg.1
  have h16 := hg.2.1
  have h40 := hg.2.2.1
  obtain ⟨⟨t, out⟩, hl, B1, L, B2, hc, hr⟩ := spec_put (e := e) hg
  have hu := h.uniq hc
  have hel : es.length = B1.length + (L.length + B2.length) := by rw [hc.1]; simp
  unfold spec_AddEdge
  have h3 : spec_l1OwnGraph n es = some (n, es) := by unfold spec_l1OwnGraph; rw [chk_pos (by omega)]; rfl
  rw [h3, Option.bind_some]
  dsimp only
  rw [spec_GraphValid_eq ⟨by omega, by omega⟩ (by omega), gok_true hg, Option.bind_some, if_neg (by simp), hl, Option.bind_some]
  dsimp only [join]
  simp only at hr
  have hend : ∀ (R : List (Int × Int × Int)), R.length ≤ 1000 → ((spec_GraphValid n R).bind fun y_3 => if (!y_3) then chk ((0 + es.length) * 24 ≤ 140737488355328) <| some (n, ([] ++ es), false) else some (n, R, true)) = some (if gok n R = true then (n, R, true) else (n, es, false)) := fun R hR => by
    rw [spec_GraphValid_eq ⟨by omega, by omega⟩ (by omega), Option.bind_some]
    cases gok n R
    · rw [if_pos (by rfl), chk_pos (by omega)]; rfl
    · rw [if_neg (by simp)]; rfl
  rcases hr with ⟨ht, ho, hB⟩ | ⟨ht, ho⟩
  · subst ht ho hB
    rw [if_pos (by rfl), chk_pos (by omega), show out ++ [(e.1, e.2.1, e.2.2)] = A1 ++ e :: A2 from hu.symm]
    exact hend _ (by rw [hu]; simp; omega)
  · subst ht ho
    rw [if_neg (by simp), ← hu]
    exact hend _ (by rw [hu]; simp; omega)
theorem Wk.mono {R S : Nat → Nat → Prop} (h : ∀ a b, R a b → S a b) : ∀ {k a b : Nat}, Wk R k a b → Wk S k a b
  | 0, _, _, hw => hw
  | k + 1, _, _, ⟨c, h1, h2⟩ => ⟨c, Wk.mono h h1, h _ _ h2⟩
theorem HopV.less {R S : Nat → Nat → Prop} (h : ∀ a b, R a b → S a b) {s v : Nat} {x y : Int} (hx : HopV R s v x) (hy : HopV S s v y) (h0 : 0 ≤ x) : 0 ≤ y ∧ y ≤ x := by
  rcases hx with ⟨k, h1, h2, h3⟩ | ⟨h1, _⟩
  · rcases hy with ⟨j, g1, g2, g3⟩ | ⟨g1, g2⟩
    · refine ⟨by omega, ?_⟩
      rcases Nat.lt_or_ge k j with hkj | hkj
      · exact absurd (h2.mono h) (g3 k hkj)
      · omega
    · exact absurd (h2.mono h) (g2 k)
  · omega
end Go.Proofs.Ytmcdlohjjbmimaa
