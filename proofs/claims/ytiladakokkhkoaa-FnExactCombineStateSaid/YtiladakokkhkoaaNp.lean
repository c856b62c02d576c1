/- Messages sorted by buckets. -/
import Derived.Test.YtiladakokkhkoaaNo
set_option linter.unusedSimpArgs false
set_option linter.unusedVariables false
namespace Go.Proofs.Ytiladakokkhkoaa
open Go Go.Av
attribute [local go_sem] gives_chk gives_ite gives_some gives_bind gives_join Sum.elim_inl Sum.elim_inr decide_eq_true_eq decide_eq_false_iff_not Bool.not_eq_true' Bool.not_eq_false' Bool.or_eq_true Bool.and_eq_true Bool.not_eq_eq_eq_not beq_iff_eq bne_iff_ne ne_eq Bool.or_eq_false_iff Bool.and_eq_false_iff Bool.not_eq_true Bool.not_eq_false Bool.not_true Bool.not_false Int.toNat_natCast beq_eq_false_iff_ne bne_eq_false_iff_eq Decidable.not_not Bool.default_bool

theorem ltM_msgC (x y : Mg) : msgC x y < 0 ↔ ltM x y := msgC_neg x y
theorem srtT_msgC (xs : List Mg) : srtT msgC xs = srtM xs := by
  obtain ⟨h1, h2⟩ := srtT_all msgSWO xs
  refine srtM_of h1 (h2.imp fun {a b} h => ?_)
  unfold leM
  rw [← ltM_msgC]
  exact h
theorem sortM_eq {xs : List Mg} (hx : xs.length ≤ 1000000000) : slices_SortFunc__impl_compareMessages xs = some (srtM xs) := by
  unfold slices_SortFunc__impl_compareMessages
  rw [chk_pos (by omega), srtT_msgC]
theorem sortI_eq {xs : List Int} (hx : xs.length ≤ 1000000000) : slices_Sort_int_int xs = some (srtI xs) := by
  unfold slices_Sort_int_int
  rw [chk_pos (by omega)]
theorem srtI_perm (xs : List Int) : (srtI xs).Perm xs := List.mergeSort_perm ..
theorem srtI_asc {xs : List Int} (h : xs.Nodup) : (srtI xs).Pairwise (· < ·) := by
  have h1 := List.pairwise_mergeSort (le := fun x y : Int => decide (x ≤ y)) (fun a b c h k => by simp only [decide_eq_true_eq] at *; omega) (fun a b => by
    simp only [Bool.or_eq_true, decide_eq_true_eq]; omega) xs
  have h2 : (srtI xs).Nodup := (srtI_perm xs).nodup_iff.2 h
  have h3 := List.pairwise_and_iff.2 ⟨h1, h2⟩
  exact h3.imp fun {a b} h => by
    have h4 := h.1
    simp only [decide_eq_true_eq] at h4
    have := h.2
    omega

/-! Maps. -/
theorem getM_cons (a : Int) (d : List Mg) (m : List (Int × List Mg)) (k : Int) : getM ((a, d) :: m) k = if a = k then d else getM m k := by
  unfold getM
  rw [List.find?_cons]
  by_cases h : a = k
  · rw [if_pos h]; simp [h]
  · have h' : (a == k) = false := by simpa using h
    rw [if_neg h]; simp only [h']
theorem getM_set (m : List (Int × List Mg)) (k : Int) (d : List Mg) (k' : Int) : getM (setM m k d) k' = if k' = k ∧ (m.any fun x => x.1 == k) = true then d else getM m k' := by
  induction m with
  | nil => simp [setM]
  | cons x m ih =>
    obtain ⟨a, e⟩ := x
    have e1 : setM ((a, e) :: m) k d = (if a = k then (k, d) else (a, e)) :: setM m k d := rfl
    rw [e1, getM_cons]
    by_cases h : a = k
    · subst h
      rw [if_pos rfl, getM_cons, ih]
      by_cases h2 : a = k'
      · subst h2; simp
      · rw [if_neg h2, if_neg h2, if_neg (fun h => h2 h.1.symm), if_neg (fun h => h2 h.1.symm)]
    · rw [if_neg h, getM_cons, ih]
      by_cases h2 : a = k'
      · subst h2
        rw [if_pos rfl, if_pos rfl, if_neg (fun h3 => h h3.1)]
      · have h' : (a == k) = false := by simpa using h
        rw [if_neg h2, if_neg h2]
        simp only [List.any_cons, h', Bool.false_or]
theorem getM_set_self (m : List (Int × List Mg)) (k k' : Int) : getM (setM m k (getM m k)) k' = getM m k' := by
  rw [getM_set]
  split
  · rename_i h; rw [h.1]
  · rfl
theorem getM_append (m : List (Int × List Mg)) (k : Int) (d : List Mg) (k' : Int) (h : (m.any fun x => x.1 == k) = false) : getM (m ++ [(k, d)]) k' = if k' = k then d else getM m k' := by
  induction m with
  | nil =>
    rw [List.nil_append, getM_cons]
    by_cases h : k = k'
    · subst h; simp
    · rw [if_neg h, if_neg (Ne.symm h)]
  | cons x m ih =>
    obtain ⟨a, e⟩ := x
    simp only [List.any_cons, Bool.or_eq_false_iff, beq_eq_false_iff_ne, ne_eq] at h
    rw [List.cons_append, getM_cons, getM_cons, ih h.2]
    by_cases h2 : a = k'
    · subst h2; rw [if_pos rfl, if_pos rfl, if_neg h.1]
    · rw [if_neg h2, if_neg h2]
theorem getM_ups (m : List (Int × List Mg)) (k : Int) (d : List Mg) (k' : Int) : getM (upsM m k d) k' = if k' = k then d else getM m k' := by
  unfold upsM
  split
  · rename_i h
    rw [getM_set]
    simp [h]
  · rename_i h
    rw [getM_append _ _ _ _ (Bool.eq_false_iff.2 h)]

/-! Buckets. -/
theorem filter_or {α : Type} {p q : α → Bool} (h : ∀ x, ¬ (p x = true ∧ q x = true)) : ∀ xs : List α, (xs.filter p ++ xs.filter q).Perm (xs.filter fun x => p x || q x)
  | [] => .refl _
  | x :: xs => by
    have ih := filter_or h xs
    rw [List.filter_cons, List.filter_cons, List.filter_cons]
    by_cases h1 : p x = true
    · have h2 : q x = false := by
        have := h x
        cases hq : q x
        · rfl
        · exact absurd ⟨h1, hq⟩ this
      rw [if_pos h1, if_neg (by simp [h2]), if_pos (by simp [h1]), List.cons_append]
      exact ih.cons _
    · rw [if_neg h1]
      by_cases h2 : q x = true
      · rw [if_pos h2, if_pos (by simp [h2])]
        exact List.perm_middle.trans (ih.cons _)
      · rw [if_neg h2, if_neg (by simp [h1, h2])]
        exact ih
theorem buckets_perm {xs : List Mg} : ∀ {T : List Int}, T.Nodup → (T.flatMap fun t => srtM (xs.filter fun m => m.1 == t)).Perm (xs.filter fun m => T.contains m.1)
  | [], _ => by
    rw [List.flatMap_nil]
    have : (xs.filter fun m => ([] : List Int).contains m.1) = [] := by simp
    rw [this]
  | t :: T, h => by
    have h' := List.nodup_cons.1 h
    rw [List.flatMap_cons]
    refine (((srtM_perm _).append (buckets_perm h'.2)).trans (filter_or (fun x hx => ?_) xs)).trans ?_
    · simp only [beq_iff_eq, List.contains_iff_mem] at hx
      exact h'.1 (hx.1 ▸ hx.2)
    · have : (fun x : Mg => (x.1 == t || T.contains x.1)) = fun m => (t :: T).contains m.1 := by
        funext x; rw [List.contains_cons]
      rw [this]
theorem buckets_srt {xs : List Mg} {T : List Int} (h : T.Pairwise (· < ·)) : (T.flatMap fun t => srtM (xs.filter fun m => m.1 == t)).Pairwise leM := by
  rw [List.pairwise_flatMap]
  refine ⟨fun t _ => srtM_srt _, h.imp fun {a b} hab x hx y hy => ?_⟩
  have h1 := ((srtM_perm _).mem_iff.1 hx)
  have h2 := ((srtM_perm _).mem_iff.1 hy)
  simp only [List.mem_filter, beq_iff_eq] at h1 h2
  unfold leM ltM
  have := h1.2; have := h2.2
  omega
theorem flat_take_snoc {T : List Int} {k : Nat} {f : Int → List Mg} (h : k < T.length) : (T.take (k + 1)).flatMap f = (T.take k).flatMap f ++ f (T.getD k 0) := by
  have e : T.take (k + 1) = T.take k ++ [T.getD k 0] := by
    rw [List.getD_eq_getElem?_getD, List.getElem?_eq_getElem h, Option.getD_some, List.take_append_getElem]
  rw [e, List.flatMap_append]; simp
theorem buckets_len {xs : List Mg} {T : List Int} (h : T.Nodup) (k : Nat) : ((T.take k).flatMap fun t => srtM (xs.filter fun m => m.1 == t)).length ≤ xs.length := by
  rw [(buckets_perm (h.sublist (List.take_sublist k T))).length_eq]
  exact List.length_filter_le ..

def TosOk (xs : List Mg) (k : Nat) (M : List (Int × List Mg)) (T : List Int) : Prop :=
  k ≤ xs.length ∧ T.length ≤ k ∧ T.Nodup ∧ (∀ t, getM M t = (xs.take k).filter fun m => m.1 == t) ∧ ∀ t, t ∈ T ↔ ∃ m ∈ xs.take k, m.1 = t
theorem inOrder_b0 {xs : List Mg} (hx : xs.length ≤ 1000000000) :
    gives (loop (impl_inOrder_b0 xs) (0, [], [])) fun r => TosOk xs xs.length r.1 r.2 := by
  refine gives_loop (fun s : Nat × List (Int × List Mg) × List Int => ((s.1 : Int), s.2.1, s.2.2)) (fun s => TosOk xs s.1 s.2.1 s.2.2) (fun s => xs.length - s.1) ?_ (0, [], []) ⟨Nat.zero_le _, by simp, .nil, fun t => by simp [getM], fun t => by simp⟩
  rintro ⟨k, M, T⟩ ⟨h1, h2, h3, h4, h5⟩
  simp only at h1 h2 h3 h4 h5
  simp only [impl_inOrder_b0]
  by_cases h : k < xs.length
  · rw [if_pos (by simpa using h), chk_pos (by omega), Int.toNat_natCast]
    generalize hm : xs.getD k (0, 0, 0) = m
    have htk : xs.take (k + 1) = xs.take k ++ [m] := by rw [take_snoc h, hm]
    have hgl : ∀ t, (getM M t).length ≤ k := fun t => by
      rw [h4]
      refine Nat.le_trans (List.length_filter_le ..) ?_
      rw [List.length_take]; omega
    have hM : ∀ t, getM (upsM (setM M m.1 (getM M m.1)) m.1 (getM (setM M m.1 (getM M m.1)) m.1 ++ [(m.1, m.2.1, m.2.2)])) t = (xs.take (k + 1)).filter fun m => m.1 == t := fun t => by
      rw [getM_ups, getM_set_self, getM_set_self, htk, List.filter_append, h4, h4]
      by_cases ht : t = m.1
      · subst ht; simp
      · rw [if_neg ht, List.filter_cons_of_neg (by simpa using Ne.symm ht)]; simp
    have fin : ∀ T', T'.length ≤ k + 1 → T'.Nodup → (∀ t, t ∈ T' ↔ ∃ m ∈ xs.take (k + 1), m.1 = t) →
        gives (chk (((getM (setM M m.1 (getM M m.1)) m.1).length + 1) * 24 ≤ 140737488355328) <| chk (-9223372036854775808 ≤ ((k : Int) + 1) ∧ ((k : Int) + 1) ≤ 9223372036854775807) <| some (Sum.inl (((k : Int) + 1), (upsM (setM M m.1 (getM M m.1)) m.1 ((getM (setM M m.1 (getM M m.1)) m.1) ++ [(m.1, m.2.1, m.2.2)])), T')) : Option ((Int × (List (Int × List Mg)) × List Int) ⊕ ((List (Int × List Mg)) × List Int)))
          fun r => match r with
            | .inl t => ∃ s' : Nat × List (Int × List Mg) × List Int, TosOk xs s'.1 s'.2.1 s'.2.2 ∧ xs.length - s'.1 < xs.length - k ∧ t = ((s'.1 : Int), s'.2.1, s'.2.2)
            | .inr x => TosOk xs xs.length x.1 x.2 := fun T' g1 g2 g3 => by
      have := hgl m.1
      rw [getM_set_self, chk_pos (by omega), chk_pos (by omega)]
      refine gives_some.2 ⟨(k + 1, upsM (setM M m.1 (getM M m.1)) m.1 ((getM (setM M m.1 (getM M m.1)) m.1) ++ [(m.1, m.2.1, m.2.2)]), T'), ⟨by simp only; omega, g1, g2, fun t => ?_, g3⟩, by simp only; omega, ?_⟩
      · exact hM t
      · rw [getM_set_self]; rfl
    unfold join; dsimp only
    by_cases h0 : (getM M m.1).length = 0
    · rw [if_pos (by simp [h0]), chk_pos (by omega)]
      refine (fin (T ++ [m.1]) (by simp; omega) ?_ ?_).mono fun r hr => by cases r <;> exact hr
      · rw [List.nodup_append]
        refine ⟨h3, by simp, fun a ha b hb => ?_⟩
        simp only [List.mem_singleton] at hb
        subst hb
        rintro rfl
        obtain ⟨m', hm', e⟩ := (h5 _).1 ha
        have h6 := List.eq_nil_of_length_eq_zero h0
        rw [h4] at h6
        have : m' ∈ (xs.take k).filter fun x => x.1 == m.1 := List.mem_filter.2 ⟨hm', by simpa using e⟩
        rw [h6] at this; simp at this
      · intro t
        rw [List.mem_append, h5, htk]
        simp only [List.mem_singleton, List.mem_append]
        constructor
        · rintro (⟨x, hx, e⟩ | rfl)
          · exact ⟨x, .inl hx, e⟩
          · exact ⟨m, .inr rfl, rfl⟩
        · rintro ⟨x, hx | rfl, e⟩
          · exact .inl ⟨x, hx, e⟩
          · exact .inr e.symm
    · rw [if_neg (by simpa using h0)]
      refine (fin T (by omega) h3 ?_).mono fun r hr => by cases r <;> exact hr
      intro t
      rw [h5, htk]
      simp only [List.mem_singleton, List.mem_append]
      constructor
      · rintro ⟨x, hx, e⟩
        exact ⟨x, .inl hx, e⟩
      · rintro ⟨x, hx | rfl, e⟩
        · exact ⟨x, hx, e⟩
        · have h6 : getM M x.1 ≠ [] := fun h => h0 (by rw [h]; rfl)
          rw [h4] at h6
          obtain ⟨y, hy⟩ := List.exists_mem_of_ne_nil _ h6
          simp only [List.mem_filter, beq_iff_eq] at hy
          exact ⟨y, hy.1, hy.2.trans e⟩
  · rw [if_neg (by simpa using h)]
    refine gives_some.2 ?_
    have : k = xs.length := by omega
    subst this
    exact ⟨Nat.le_refl _, h2, h3, h4, h5⟩
theorem inOrder_b1 {xs : List Mg} (hx : xs.length ≤ 1000000000) {M : List (Int × List Mg)} {T : List Int} (hl : T.length ≤ 1000000000) (hT : T.Nodup) (hM : ∀ t, getM M t = xs.filter fun m => m.1 == t) :
    loop (impl_inOrder_b1 T) (0, M, []) = some (T.flatMap fun t => srtM (xs.filter fun m => m.1 == t)) := by
  refine gives_eq.1 ?_
  refine gives_loop (fun s : Nat × List (Int × List Mg) => ((s.1 : Int), s.2, (T.take s.1).flatMap fun t => srtM (xs.filter fun m => m.1 == t))) (fun s => s.1 ≤ T.length ∧ ∀ t, t ∉ T.take s.1 → getM s.2 t = xs.filter fun m => m.1 == t) (fun s => T.length - s.1) ?_ (0, M) ⟨Nat.zero_le _, fun t _ => hM t⟩
  rintro ⟨k, M'⟩ ⟨h1, h2⟩
  simp only at h1 h2
  simp only [impl_inOrder_b1]
  by_cases h : k < T.length
  · have hb1 := buckets_len (xs := xs) hT k
    have hb2 := buckets_len (xs := xs) hT (k + 1)
    rw [flat_take_snoc h, List.length_append] at hb2
    have hn : T.getD k 0 ∉ T.take k := by
      have e : T.take (k + 1) = T.take k ++ [T.getD k 0] := by
        rw [List.getD_eq_getElem?_getD, List.getElem?_eq_getElem h, Option.getD_some, List.take_append_getElem]
      have := hT.sublist (List.take_sublist (k + 1) T)
      rw [e, List.nodup_append] at this
      exact fun hc => this.2.2 _ hc _ (List.mem_singleton_self _) rfl
    have hfl := List.length_filter_le (fun m : Mg => m.1 == T.getD k 0) xs
    rw [if_pos (by simpa using h), chk_pos (by omega), Int.toNat_natCast, h2 _ hn, sortM_eq (by omega)]
    simp only [Option.bind_some]
    rw [chk_pos (by omega), chk_pos (by omega)]
    refine gives_some.2 ⟨(k + 1, setM M' (T.getD k 0) (srtM (xs.filter fun m => m.1 == T.getD k 0))), ⟨by simp only; omega, fun t ht => ?_⟩, by simp only; omega, ?_⟩
    · have e : T.take (k + 1) = T.take k ++ [T.getD k 0] := by
        rw [List.getD_eq_getElem?_getD, List.getElem?_eq_getElem h, Option.getD_some, List.take_append_getElem]
      simp only [e, List.mem_append, List.mem_singleton, not_or] at ht
      simp only
      rw [getM_set, if_neg (fun hc => ht.2 hc.1)]
      exact h2 t ht.1
    · rw [flat_take_snoc h]; rfl
  · rw [if_neg (by simpa using h)]
    refine gives_some.2 ?_
    rw [List.take_of_length_le (by omega)]
theorem inOrder_eq {xs : List Mg} (hx : xs.length ≤ 1000000000) : impl_inOrder xs = some (srtM xs) := by
  refine gives_eq.1 ?_
  unfold impl_inOrder
  refine gives_bind.2 ((inOrder_b0 hx).mono ?_)
  rintro ⟨M, T⟩ ⟨-, h2, h3, h4, h5⟩
  simp only at h2 h3 h4 h5 ⊢
  rw [List.take_length] at h4 h5
  rw [sortI_eq (by omega)]
  simp only [Option.bind_some, List.replicate_zero]
  have hl : (srtI T).length = T.length := (srtI_perm T).length_eq
  rw [chk_pos (by omega), inOrder_b1 hx (by omega) ((srtI_perm T).nodup_iff.2 h3) h4]
  refine gives_some.2 (srtM_of ((buckets_perm ((srtI_perm T).nodup_iff.2 h3)).trans ?_) (buckets_srt (srtI_asc h3)))
  rw [List.filter_eq_self.2 fun m hm => ?_]
  rw [List.contains_iff_mem, (srtI_perm T).mem_iff, h5]
  exact ⟨m, hm, rfl⟩
end Go.Proofs.Ytiladakokkhkoaa
