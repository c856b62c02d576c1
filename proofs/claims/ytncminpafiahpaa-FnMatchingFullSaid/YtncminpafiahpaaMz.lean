/- Matchings taken greedily. -/
import Derived.Test.YtncminpafiahpaaMi
import Derived.Test.YtncminpafiahpaaMy
set_option linter.unusedSimpArgs false
set_option linter.unusedVariables false
namespace Go.Proofs.Ytncminpafiahpaa
open Go Go.Av
attribute [local go_sem] gives_chk gives_ite gives_some gives_bind gives_join Sum.elim_inl Sum.elim_inr decide_eq_true_eq decide_eq_false_iff_not Bool.not_eq_true' Bool.not_eq_false' Bool.or_eq_true Bool.and_eq_true Bool.not_eq_eq_eq_not beq_iff_eq bne_iff_ne ne_eq Bool.or_eq_false_iff Bool.and_eq_false_iff Bool.not_eq_true Bool.not_eq_false Bool.not_true Bool.not_false Int.toNat_natCast beq_eq_false_iff_ne bne_eq_false_iff_eq Decidable.not_not Bool.default_bool

/-- What an edge of a graph says. -/
def EV (n : Int) (e : Int × Int × Int) : Prop := 0 ≤ e.1 ∧ e.1 < n ∧ 0 ≤ e.2.1 ∧ e.2.1 < n ∧ ¬ e.1 = e.2.1 ∧ 0 ≤ e.2.2 ∧ e.2.2 ≤ 20
theorem EV.of {n : Int} {es : List (Int × Int × Int)} (hg : GOk n es) : ∀ e ∈ es, EV n e := fun e he => by
  obtain ⟨k, hk, hek⟩ := List.getElem_of_mem he
  have h := gok_len hg hk
  simp only [EOk, List.getD_eq_getElem?_getD, List.getElem?_eq_getElem hk, Option.getD_some, hek] at h
  exact ⟨h.1, h.2.1, h.2.2.1, h.2.2.2.1, h.2.2.2.2.1, h.2.2.2.2.2.1, h.2.2.2.2.2.2.1⟩
def gst (m : List Int) (e : Int × Int × Int) : List Int := if m.getD e.1.toNat 0 = -1 ∧ m.getD e.2.1.toNat 0 = -1 then (m.set e.1.toNat e.2.1).set e.2.1.toNat e.1 else m
def Mt (n : Int) (m : List Int) : Prop := (m.length : Int) = n ∧ ∀ v, v < m.length → m.getD v 0 = -1 ∨ (0 ≤ m.getD v 0 ∧ m.getD v 0 < n)
theorem Mt.init {n : Int} (h : 0 ≤ n) : Mt n (List.replicate n.toNat (-1)) := ⟨by simp; omega, fun v hv => .inl (by simp only [List.length_replicate] at hv; simp [List.getD_eq_getElem?_getD, List.getElem?_replicate, hv])⟩
theorem Mt.step {n : Int} {m : List Int} (h : Mt n m) {e : Int × Int × Int} (he : EV n e) : Mt n (gst m e) := by
  obtain ⟨h1, h2⟩ := h
  obtain ⟨e1, e2, e3, e4, e5, e6⟩ := he
  unfold gst
  split
  · refine ⟨by simpa using h1, fun v hv => ?_⟩
    simp only [List.length_set] at hv
    rw [getD_set _ _ _ _ _ (by simp; omega), getD_set _ _ _ _ _ (by omega)]
    split
    · right; omega
    · split
      · right; omega
      · exact h2 v hv
  · exact ⟨h1, h2⟩
theorem Mt.fold {n : Int} : ∀ {C : List (Int × Int × Int)} {m : List Int}, Mt n m → (∀ e ∈ C, EV n e) → Mt n (C.foldl gst m)
  | [], m, h, _ => h
  | e :: C, m, h, he => Mt.fold (C := C) (h.step (he e (List.mem_cons_self ..))) fun x hx => he x (List.mem_cons_of_mem _ hx)
theorem take_get {C : List (Int × Int × Int)} {k : Nat} (h : k < C.length) : C.take (k + 1) = C.take k ++ [C.getD k (0, 0, 0)] := by
  rw [List.take_add_one, List.getElem?_eq_getElem h, List.getD_eq_getElem?_getD, List.getElem?_eq_getElem h]; rfl
theorem mem_getD {C : List (Int × Int × Int)} {k : Nat} (h : k < C.length) : C.getD k (0, 0, 0) ∈ C := by
  rw [List.getD_eq_getElem?_getD, List.getElem?_eq_getElem h]; exact List.getElem_mem h
theorem impl_pass {n : Int} {C : List (Int × Int × Int)} {m0 : List Int} (hm : Mt n m0) (hC : ∀ e ∈ C, EV n e) (hl : C.length ≤ 1000) : loop (impl_MatchingOf_b0 C) (0, m0) = some (C.foldl gst m0) := by
  refine gives_eq.1 ?_
  refine gives_loop (fun s : Nat × List Int => ((s.1 : Int), s.2)) (fun s => s.1 ≤ C.length ∧ s.2 = (C.take s.1).foldl gst m0) (fun s => C.length - s.1) ?_ (0, m0) ⟨Nat.zero_le _, by simp⟩
  rintro ⟨k, m⟩ ⟨hk, hs⟩
  simp only at hk hs
  have hM : Mt n m := by rw [hs]; exact hm.fold fun e he => hC e (List.mem_of_mem_take he)
  simp only [impl_MatchingOf_b0, go_sem]
  refine ⟨fun hc => ?_, fun hc => by rw [hs, List.take_of_length_le (by omega)]⟩
  have hkl : k < C.length := by omega
  obtain ⟨e1, e2, e3, e4, e5, e6⟩ := hC _ (mem_getD hkl)
  have hml := hM.1
  have hst : (C.take (k + 1)).foldl gst m0 = gst m (C.getD k (0, 0, 0)) := by rw [take_get hkl, List.foldl_append, ← hs]; rfl
  simp only [List.length_set]
  refine ⟨by omega, by omega, fun _ => by omega, fun hp => ⟨by omega, by omega, by omega, (k + 1, _), ⟨by simp only; omega, ?_⟩, by simp only; omega, rfl⟩, fun hp => ⟨by omega, (k + 1, m), ⟨by simp only; omega, ?_⟩, by simp only; omega, rfl⟩⟩
  · simp only
    rw [hst, gst, if_pos hp]
  · simp only
    rw [hst, gst, if_neg hp]
theorem spec_pass {n : Int} {C : List (Int × Int × Int)} {m0 : List Int} {w : Int} (hm : Mt n m0) (hC : ∀ e ∈ C, EV n e) (hl : C.length ≤ 1000) : loop (spec_MatchingOf_b0 C w) (0, m0) = some ((ofW w C).foldl gst m0) := by
  refine gives_eq.1 ?_
  refine gives_loop (fun s : Nat × List Int => ((s.1 : Int), s.2)) (fun s => s.1 ≤ C.length ∧ s.2 = (ofW w (C.take s.1)).foldl gst m0) (fun s => C.length - s.1) ?_ (0, m0) ⟨Nat.zero_le _, by simp [ofW]⟩
  rintro ⟨k, m⟩ ⟨hk, hs⟩
  simp only at hk hs
  have hM : Mt n m := by rw [hs]; exact hm.fold fun e he => hC e (List.mem_of_mem_take (mem_ofW.1 he).1)
  simp only [spec_MatchingOf_b0, go_sem]
  refine ⟨fun hc => ?_, fun hc => by rw [hs, List.take_of_length_le (by omega)]⟩
  have hkl : k < C.length := by omega
  obtain ⟨e1, e2, e3, e4, e5, e6⟩ := hC _ (mem_getD hkl)
  have hml := hM.1
  have hst : (ofW w (C.take (k + 1))).foldl gst m0 = if (C.getD k (0, 0, 0)).2.2 = w then gst m (C.getD k (0, 0, 0)) else m := by
    rw [take_get hkl, ofW_append, List.foldl_append, ← hs]
    unfold ofW
    rw [List.filter_cons]
    by_cases hw : (C.getD k (0, 0, 0)).2.2 = w
    · rw [if_pos hw, if_pos (by simpa using hw)]; rfl
    · rw [if_neg hw, if_neg (by simpa using hw)]; rfl
  have g1 := hM.2 (C.getD k (0, 0, 0)).1.toNat (by omega)
  have g2 := hM.2 (C.getD k (0, 0, 0)).2.1.toNat (by omega)
  simp only [List.length_set]
  refine ⟨by omega, fun _ => by omega, fun _ => by omega, fun hp => ⟨by omega, by omega, by omega, (k + 1, _), ⟨by simp only; omega, ?_⟩, by simp only; omega, rfl⟩, fun hp => ⟨by omega, (k + 1, m), ⟨by simp only; omega, ?_⟩, by simp only; omega, rfl⟩⟩
  · simp only
    rw [hst, if_pos hp.1.1, gst, if_pos ⟨by omega, by omega⟩]
  · simp only
    rw [hst]
    split
    · rename_i hw
      rw [gst, if_neg fun h => hp ⟨⟨hw, by omega⟩, by omega⟩]
    · rfl
/-- The edges, heaviest first. -/
def PL (es : List (Int × Int × Int)) : Nat → List (Int × Int × Int)
  | 0 => []
  | k + 1 => PL es k ++ ofW (20 - (k : Int)) es
theorem PL_w {es : List (Int × Int × Int)} : ∀ {k : Nat} {e : Int × Int × Int}, e ∈ PL es k ↔ e ∈ es ∧ 20 - (k : Int) < e.2.2 ∧ e.2.2 ≤ 20
  | 0, e => by simp only [PL, List.not_mem_nil, false_iff]; omega
  | k + 1, e => by
    rw [PL, List.mem_append, PL_w, mem_ofW]
    constructor
    · rintro (⟨h1, h2, h3⟩ | ⟨h1, h2⟩)
      · exact ⟨h1, by omega, h3⟩
      · exact ⟨h1, by omega, by omega⟩
    · rintro ⟨h1, h2, h3⟩
      by_cases h : e.2.2 = 20 - (k : Int)
      · exact .inr ⟨h1, h⟩
      · exact .inl ⟨h1, by omega, h3⟩
theorem PL_srt (es : List (Int × Int × Int)) : ∀ k, Srt (PL es k)
  | 0 => List.Pairwise.nil
  | k + 1 => Srt.append.2 ⟨PL_srt es k, List.pairwise_of_forall_mem_list fun a ha b hb => by rw [(mem_ofW.1 ha).2, (mem_ofW.1 hb).2]; exact Int.le_refl _, fun a ha b hb => by
      have h1 := (PL_w.1 ha).2.1
      have h2 := (mem_ofW.1 hb).2
      omega⟩
theorem ofW_ofW (w w' : Int) (L : List (Int × Int × Int)) : ofW w (ofW w' L) = if w = w' then ofW w L else [] := by
  split
  · rename_i h; subst h; simp [ofW, List.filter_filter]
  · rename_i h; exact ofW_none fun e he hw => h (hw.symm.trans (mem_ofW.1 he).2)
theorem ofW_PL (w : Int) (es : List (Int × Int × Int)) : ∀ k : Nat, ofW w (PL es k) = if 20 - (k : Int) < w ∧ w ≤ 20 then ofW w es else []
  | 0 => by rw [if_neg (by omega)]; rfl
  | k + 1 => by
    rw [PL, ofW_append, ofW_PL w es k, ofW_ofW]
    by_cases h : w = 20 - (k : Int)
    · rw [if_neg (by omega), if_pos h, if_pos (by omega)]; simp
    · rw [if_neg h, List.append_nil]
      by_cases h2 : 20 - (k : Int) < w ∧ w ≤ 20
      · rw [if_pos h2, if_pos (by omega)]
      · rw [if_neg h2, if_neg (by omega)]
theorem PL_eqv {n : Int} {es : List (Int × Int × Int)} (h : ∀ e ∈ es, EV n e) : Eqv (PL es 21) es := fun w => by
  rw [ofW_PL]
  split
  · rfl
  · rename_i hw
    refine (ofW_none fun e he hew => ?_).symm
    obtain ⟨_, _, _, _, _, h6, h7⟩ := h e he
    omega
/-- The matching that is taken. -/
noncomputable def mo (n : Int) (es : List (Int × Int × Int)) : List Int := (PL es 21).foldl gst (List.replicate n.toNat (-1))
theorem clone_eq {es : List (Int × Int × Int)} (h : es.length ≤ 1000) : slices_Clone_impl_Edge_impl_Edge es = some es := by
  unfold slices_Clone_impl_Edge_impl_Edge both
  by_cases h0 : es.length = 0
  · rw [List.eq_nil_of_length_eq_zero h0]; simp [chk]
  · simp [h0, chk]; omega
theorem impl_MatchingOf_eq {n : Int} {es : List (Int × Int × Int)} (hg : GOk n es) : impl_MatchingOf n es = some (mo n es) := by
  unfold impl_MatchingOf
  have h0 := hg.1
  have h16 := hg.2.1
  have h40 := hg.2.2.1
  obtain ⟨C, h1, hCl, h2, h3⟩ := SortStable_ok h40
  have hE := EV.of hg
  have hC : C = PL es 21 := h2.uniq (PL_srt es 21) (h3.trans (PL_eqv hE).symm)
  have hCE : ∀ e ∈ C, EV n e := fun e he => hE e ((h3.mem e).1 he)
  rw [impl_GraphValid_eq, gok_true hg, Option.bind_some, if_neg (by simp), clone_eq (by omega), Option.bind_some, h1, Option.bind_some, impl_unknowns_eq h0 (by omega), Option.bind_some, impl_pass (Mt.init h0) hCE (by omega), Option.bind_some, hC]
  rfl
theorem impl_MatchingOf_not {n : Int} {es : List (Int × Int × Int)} (hg : ¬ GOk n es) : impl_MatchingOf n es = some [] := by
  unfold impl_MatchingOf
  rw [impl_GraphValid_eq, gok_false hg, Option.bind_some, if_pos (by rfl)]
theorem spec_MatchingOf_not {n : Int} {es : List (Int × Int × Int)} (hn : -9223372036854775808 ≤ n ∧ n ≤ 9223372036854775807) (hx : es.length ≤ 1000000000) (hg : ¬ GOk n es) : spec_MatchingOf n es = some [] := by
  unfold spec_MatchingOf
  rw [spec_GraphValid_eq hn hx, gok_false hg, Option.bind_some, if_pos (by rfl)]
theorem spec_MatchingOf_is {n : Int} {es : List (Int × Int × Int)} (hg : GOk n es) : spec_MatchingOf n es = some (mo n es) := by
  unfold spec_MatchingOf
  have h0 := hg.1
  have h16 := hg.2.1
  have h40 := hg.2.2.1
  have hE := EV.of hg
  rw [spec_GraphValid_eq ⟨by omega, by omega⟩ (by omega), gok_true hg, Option.bind_some, if_neg (by simp), spec_l8Fill_eq h0 (by omega), Option.bind_some]
  refine gives_eq.1 ?_
  rw [gives_bind]
  have := gives_loop (Q := fun x => x = mo n es) (body := spec_MatchingOf_b1 es) (fun s : Nat × List Int => (20 - (s.1 : Int), s.2)) (fun s => s.1 ≤ 21 ∧ s.2 = (PL es s.1).foldl gst (List.replicate n.toNat (-1))) (fun s => 21 - s.1) ?_ (0, List.replicate n.toNat (-1)) ⟨Nat.zero_le _, rfl⟩
  · refine (show gives (loop (spec_MatchingOf_b1 es) (20, List.replicate n.toNat (-1))) _ from this).mono fun x hx => gives_some.2 hx
  rintro ⟨k, m⟩ ⟨hk, hs⟩
  simp only at hk hs
  have hM : Mt n m := by rw [hs]; exact (Mt.init h0).fold fun e he => hE e (PL_w.1 he).1
  simp only [spec_MatchingOf_b1, go_sem]
  refine ⟨fun hc => ?_, fun hc => by rw [hs, show k = 21 by omega]; rfl⟩
  rw [spec_pass hM hE (by omega)]
  refine gives_some.2 ⟨by omega, (k + 1, _), ⟨by simp only; omega, ?_⟩, by simp only; omega, Prod.ext (by simp only; omega) rfl⟩
  simp only
  rw [PL, List.foldl_append, ← hs]

/-! The laws. -/
theorem mo_len {n : Int} {es : List (Int × Int × Int)} (hg : GOk n es) : ((mo n es).length : Int) = n :=
  ((Mt.init hg.1).fold fun e he => EV.of hg e (PL_w.1 he).1).1
theorem matching_eq {n : Int} {es : List (Int × Int × Int)} (hn : -9223372036854775808 ≤ n ∧ n ≤ 9223372036854775807) (hx : es.length ≤ 1000000000) :
    ∃ cs, impl_MatchingOf n es = some cs ∧ spec_MatchingOf n es = some cs ∧ cs.length ≤ 16 ∧ (GOk n es → cs = mo n es) ∧ (¬ GOk n es → cs = []) := by
  by_cases hg : GOk n es
  · have h16 := hg.2.1
    have hl := mo_len hg
    exact ⟨_, impl_MatchingOf_eq hg, spec_MatchingOf_is hg, by omega, fun _ => rfl, fun h => absurd hg h⟩
  · exact ⟨[], impl_MatchingOf_not hg, spec_MatchingOf_not hn hx hg, by simp, fun h => absurd h hg, fun _ => rfl⟩
theorem adj_of {es : List (Int × Int × Int)} {e : Int × Int × Int} (he : e ∈ es) : Nxt es es.length e.1 e.2.1 := by
  obtain ⟨k, hk, hek⟩ := List.getElem_of_mem he
  exact ⟨k, hk, by rw [List.getD_eq_getElem?_getD, List.getElem?_eq_getElem hk, Option.getD_some, hek], by rw [List.getD_eq_getElem?_getD, List.getElem?_eq_getElem hk, Option.getD_some, hek]⟩
theorem gst_get {n : Int} {m : List Int} {e : Int × Int × Int} (hl : (m.length : Int) = n) (he : EV n e) (v : Nat) :
    (gst m e).getD v 0 = if m.getD e.1.toNat 0 = -1 ∧ m.getD e.2.1.toNat 0 = -1 then (if v = e.2.1.toNat then e.1 else if v = e.1.toNat then e.2.1 else m.getD v 0) else m.getD v 0 := by
  obtain ⟨e1, e2, e3, e4, e5, e6⟩ := he
  unfold gst
  split
  · rw [getD_set _ _ _ _ _ (by simp; omega), getD_set _ _ _ _ _ (by omega)]
  · rfl
theorem gst_len {m : List Int} {e : Int × Int × Int} : (gst m e).length = m.length := by
  unfold gst; split <;> simp
theorem MatOk.step {n : Int} {es : List (Int × Int × Int)} {m : List Int} (h : MatOk n es m) {e : Int × Int × Int} (he : e ∈ es) : MatOk n es (gst m e) := by
  obtain ⟨h1, h2, h3⟩ := h
  have hE := EV.of h1 e he
  refine ⟨h1, by rw [gst_len]; exact h2, fun k hk => ?_⟩
  rw [gst_len] at hk
  have g := gst_get h2 hE
  obtain ⟨e1, e2, e3, e4, e5, e6⟩ := hE
  simp only [g]
  by_cases hc : m.getD e.1.toNat 0 = -1 ∧ m.getD e.2.1.toNat 0 = -1
  · simp only [if_pos hc]
    by_cases hb : k = e.2.1.toNat
    · simp only [if_pos hb]
      right
      refine ⟨e1, e2, .inr ?_, ?_⟩
      · rw [show (k : Int) = e.2.1 by omega]; exact adj_of he
      · rw [if_neg (by omega)]; rw [if_pos trivial]; omega
    · simp only [if_neg hb]
      by_cases ha : k = e.1.toNat
      · simp only [if_pos ha]
        right
        refine ⟨e3, e4, .inl ?_, ?_⟩
        · rw [show (k : Int) = e.1 by omega]; exact adj_of he
        · rw [if_pos trivial]; omega
      · simp only [if_neg ha]
        rcases h3 k hk with q | ⟨q1, q2, q3, q4⟩
        · exact .inl q
        · right
          refine ⟨q1, q2, q3, ?_⟩
          rw [if_neg (fun hx => by rw [hx, hc.2] at q4; omega), if_neg (fun hx => by rw [hx, hc.1] at q4; omega)]
          exact q4
  · simp only [if_neg hc]
    exact h3 k hk
theorem gst_keep {n : Int} {m : List Int} {e : Int × Int × Int} (hl : (m.length : Int) = n) (he : EV n e) {v : Nat} (hv : m.getD v 0 ≠ -1) : (gst m e).getD v 0 ≠ -1 := by
  rw [gst_get hl he]
  obtain ⟨e1, e2, e3, e4, e5, e6⟩ := he
  split
  · split
    · omega
    · split
      · omega
      · exact hv
  · exact hv
theorem gst_cov {n : Int} {m : List Int} {e : Int × Int × Int} (hl : (m.length : Int) = n) (he : EV n e) : (gst m e).getD e.2.1.toNat 0 ≠ -1 ∨ (gst m e).getD e.1.toNat 0 ≠ -1 := by
  rw [gst_get hl he, gst_get hl he]
  obtain ⟨e1, e2, e3, e4, e5, e6⟩ := he
  by_cases hc : m.getD e.1.toNat 0 = -1 ∧ m.getD e.2.1.toNat 0 = -1
  · left; rw [if_pos hc, if_pos rfl]; omega
  · rw [if_neg hc, if_neg hc]
    by_cases h : m.getD e.2.1.toNat 0 = -1
    · exact .inr fun h' => hc ⟨h', h⟩
    · exact .inl h
theorem fold_full {n : Int} {es : List (Int × Int × Int)} : ∀ (C : List (Int × Int × Int)) (m : List Int), MatOk n es m → (∀ e ∈ C, e ∈ es) →
    MatOk n es (C.foldl gst m) ∧ (∀ v, m.getD v 0 ≠ -1 → (C.foldl gst m).getD v 0 ≠ -1) ∧ ∀ e ∈ C, (C.foldl gst m).getD e.2.1.toNat 0 ≠ -1 ∨ (C.foldl gst m).getD e.1.toNat 0 ≠ -1
  | [], m, h, _ => ⟨h, fun _ h => h, fun e he => absurd he List.not_mem_nil⟩
  | e :: C, m, h, hC => by
    have he := hC e (List.mem_cons_self ..)
    have hE := EV.of h.1 e he
    obtain ⟨h1, h2, h3⟩ := fold_full C (gst m e) (h.step he) fun x hx => hC x (List.mem_cons_of_mem _ hx)
    refine ⟨h1, fun v hv => h2 v (gst_keep h.2.1 hE hv), fun x hx => ?_⟩
    rcases List.mem_cons.1 hx with hx | hx
    · subst hx
      rcases gst_cov h.2.1 hE with g | g
      · exact .inl (h2 _ g)
      · exact .inr (h2 _ g)
    · exact h3 x hx
theorem mo_full {n : Int} {es : List (Int × Int × Int)} (hg : GOk n es) : FullOk n es (mo n es) := by
  have h0 := hg.1
  have hi : MatOk n es (List.replicate n.toNat (-1)) := ⟨hg, by simp; omega, fun k hk => .inl (by simp only [List.length_replicate] at hk; simp [List.getD_eq_getElem?_getD, List.getElem?_replicate, hk])⟩
  obtain ⟨h1, _, h3⟩ := fold_full (PL es 21) _ hi fun e he => (PL_w.1 he).1
  refine ⟨h1, fun k hk hc => ?_⟩
  have hm := mem_getD hk
  obtain ⟨_, _, _, _, _, q1, q2⟩ := EV.of hg _ hm
  rcases h3 _ (PL_w.2 ⟨hm, by omega, q2⟩) with g | g
  · exact g hc.2
  · exact g hc.1
theorem impl_Full_yes {n : Int} {es : List (Int × Int × Int)} {ps : List Int} (h : FullOk n es ps) : impl_MatchingFull n es ps = some true := by
  unfold impl_MatchingFull
  have hg := h.1.1
  have h40 := hg.2.2.1
  have hl := h.1.2.1
  rw [impl_MatchingRight_eq, show matOk n es ps = true from yes_true h.1, Option.bind_some, if_neg (by simp)]
  refine gives_eq.1 ?_
  rw [gives_bind]
  refine (gives_loop (Q := fun r : Unit ⊕ Unit => r = .inl ()) (fun k : Nat => (k : Int)) (fun k => k ≤ es.length) (fun k => es.length - k) ?_ 0 (Nat.zero_le _)).mono ?_
  · intro k hk
    simp only [impl_MatchingFull_b0, go_sem]
    refine ⟨fun hc => ?_, fun _ => trivial⟩
    have hkl : k < es.length := by omega
    obtain ⟨e1, e2, e3, e4, e5, e6⟩ := EV.of hg _ (mem_getD hkl)
    refine ⟨by omega, by omega, fun _ => by omega, fun hx => absurd hx (h.2 k hkl), fun _ => ⟨by omega, k + 1, by omega, by omega, by omega⟩⟩
  · rintro _ rfl
    exact gives_some.2 rfl
def cnt (f : List Int) (k : Nat) : Nat := ((List.range k).filter fun i => decide (0 ≤ f.getD i 0)).length
theorem cnt_succ (f : List Int) (k : Nat) : cnt f (k + 1) = cnt f k + if 0 ≤ f.getD k 0 then 1 else 0 := by
  unfold cnt
  rw [List.range_succ, List.filter_append, List.length_append, List.filter_cons]
  by_cases h : 0 ≤ f.getD k 0
  · rw [if_pos h, if_pos (by simpa using h)]; rfl
  · rw [if_neg h, if_neg (by simpa using h)]; rfl
theorem cnt_le (f : List Int) (k : Nat) : cnt f k ≤ k := by
  have := List.length_filter_le (fun i => decide (0 ≤ f.getD i 0)) (List.range k)
  rw [List.length_range] at this
  exact this
theorem nodup_le : ∀ {A B : List Nat}, A.Nodup → (∀ x ∈ A, x ∈ B) → A.length ≤ B.length
  | [], _, _, _ => Nat.zero_le _
  | x :: A, B, hA, h => by
    obtain ⟨h1, h2⟩ := List.nodup_cons.1 hA
    have hx := h x (List.mem_cons_self ..)
    have := nodup_le (A := A) (B := B.erase x) h2 fun y hy => (List.mem_erase_of_ne fun e => by subst e; exact h1 hy).2 (h y (List.mem_cons_of_mem _ hy))
    rw [List.length_erase_of_mem hx] at this
    have := List.length_pos_of_mem hx
    simp only [List.length_cons]
    omega
theorem half_full {n : Int} {es : List (Int × Int × Int)} {ps qs : List Int} (hp : FullOk n es ps) (hq : MatOk n es qs) : cnt qs n.toNat ≤ 2 * cnt ps n.toNat := by
  obtain ⟨⟨hg, lp, p1⟩, p2⟩ := hp
  obtain ⟨_, lq, q1⟩ := hq
  have hcov : ∀ a b : Int, 0 ≤ a → a < n → 0 ≤ b → b < n → Nxt es es.length a b → 0 ≤ ps.getD a.toNat 0 ∨ 0 ≤ ps.getD b.toNat 0 := fun a b a0 a1 b0 b1 ⟨j, hj, j1, j2⟩ => by
    have := p2 j hj
    rw [j1, j2] at this
    have g1 := p1 a.toNat (by omega)
    have g2 := p1 b.toNat (by omega)
    omega
  have hW : ((List.range n.toNat).filter fun i => decide (0 ≤ qs.getD i 0 ∧ ¬ 0 ≤ ps.getD i 0)).length ≤ cnt ps n.toNat := by
    have h1 := nodup_le (A := (((List.range n.toNat).filter fun i => decide (0 ≤ qs.getD i 0 ∧ ¬ 0 ≤ ps.getD i 0)).map fun i => (qs.getD i 0).toNat)) (B := (List.range n.toNat).filter fun i => decide (0 ≤ ps.getD i 0)) ?_ ?_
    · rw [List.length_map] at h1; exact h1
    · refine List.pairwise_map.2 (List.Pairwise.imp_of_mem ?_ (List.Pairwise.filter _ List.nodup_range))
      intro a b ha hb hab he
      simp only [List.mem_filter, List.mem_range, decide_eq_true_eq] at ha hb
      have g1 := q1 a (by omega)
      have g2 := q1 b (by omega)
      rcases g1 with g1 | ⟨_, _, _, g1⟩
      · omega
      rcases g2 with g2 | ⟨_, _, _, g2⟩
      · omega
      rw [he] at g1
      rw [g1] at g2
      exact hab (by omega)
    · intro x hx
      obtain ⟨i, hi, rfl⟩ := List.mem_map.1 hx
      simp only [List.mem_filter, List.mem_range, decide_eq_true_eq] at hi ⊢
      rcases q1 i (by omega) with g1 | ⟨g0, g1, g2, g3⟩
      · omega
      refine ⟨by omega, ?_⟩
      rcases g2 with g2 | g2
      · have := hcov _ _ (by omega) (by omega) g0 g1 g2
        simp only [Int.toNat_natCast] at this
        omega
      · have := hcov _ _ g0 g1 (by omega) (by omega) g2
        simp only [Int.toNat_natCast] at this
        omega
  have hS : ∀ k, cnt qs k ≤ cnt ps k + ((List.range k).filter fun i => decide (0 ≤ qs.getD i 0 ∧ ¬ 0 ≤ ps.getD i 0)).length := by
    intro k
    induction k with
    | zero => simp [cnt]
    | succ k ih =>
      rw [cnt_succ, cnt_succ, List.range_succ, List.filter_append, List.length_append, List.filter_cons]
      by_cases h1 : 0 ≤ qs.getD k 0
      · by_cases h2 : 0 ≤ ps.getD k 0
        · rw [if_pos h1, if_pos h2, if_neg (by simp only [decide_eq_true_eq]; exact fun h => h.2 h2)]
          simp only [List.filter_nil, List.length_nil]; omega
        · rw [if_pos h1, if_neg h2, if_pos (by simp only [decide_eq_true_eq]; exact ⟨h1, h2⟩)]
          simp only [List.filter_nil, List.length_nil, List.length_cons]; omega
      · by_cases h2 : 0 ≤ ps.getD k 0
        · rw [if_neg h1, if_pos h2, if_neg (by simp only [decide_eq_true_eq]; exact fun h => h1 h.1)]
          simp only [List.filter_nil, List.length_nil]; omega
        · rw [if_neg h1, if_neg h2, if_neg (by simp only [decide_eq_true_eq]; exact fun h => h1 h.1)]
          simp only [List.filter_nil, List.length_nil]; omega
  have := hS n.toNat
  omega
theorem count_loop {ps qs : List Int} {N : Nat} (hp : ps.length = N) (hq : qs.length = N) (hN : N ≤ 1000) : loop (laws_FnMatchingFull_b0 ps qs) (0, 0, 0) = some ((cnt ps N : Int), (cnt qs N : Int)) := by
  refine gives_eq.1 ?_
  refine gives_loop (fun k : Nat => ((cnt ps k : Int), (cnt qs k : Int), (k : Int))) (fun k => k ≤ N) (fun k => N - k) ?_ 0 (Nat.zero_le _)
  intro k hk
  have b1 := cnt_le ps k
  have b2 := cnt_le qs k
  have s1 := cnt_succ ps k
  have s2 := cnt_succ qs k
  simp only [laws_FnMatchingFull_b0, go_sem]
  refine ⟨fun hc => ⟨by omega, fun h1 => ⟨by omega, by omega, fun h2 => ⟨by omega, by omega, k + 1, by omega, by omega, ?_⟩, fun h2 => ⟨by omega, k + 1, by omega, by omega, ?_⟩⟩, fun h1 => ⟨by omega, fun h2 => ⟨by omega, by omega, k + 1, by omega, by omega, ?_⟩, fun h2 => ⟨by omega, k + 1, by omega, by omega, ?_⟩⟩⟩, fun hc => by rw [show k = N by omega]⟩
  · rw [s1, s2, if_pos h1, if_pos h2]; exact Prod.ext (by simp only; omega) (Prod.ext (by simp only; omega) (by simp only; omega))
  · rw [s1, s2, if_pos h1, if_neg h2]; exact Prod.ext (by simp only; omega) (Prod.ext (by simp only; omega) (by simp only; omega))
  · rw [s1, s2, if_neg h1, if_pos h2]; exact Prod.ext (by simp only; omega) (Prod.ext (by simp only; omega) (by simp only; omega))
  · rw [s1, s2, if_neg h1, if_neg h2]; exact Prod.ext (by simp only; omega) (Prod.ext (by simp only; omega) (by simp only; omega))
theorem FnMatchingFull_true {b : List Int} (hb : Bts b) : laws_FnMatchingFull b = some true := by
  unfold laws_FnMatchingFull
  by_cases h0 : (1048576 : Int) < b.length
  · rw [if_pos (by simpa using h0)]
  rw [if_neg (by simpa using h0)]
  obtain ⟨⟨n, es, ps⟩, h1, h2, h3, h4⟩ : gives (spec_DrawMatchingFull b) fun r => (-1 ≤ r.1 ∧ r.1 ≤ 17) ∧ r.2.1.length ≤ 20 ∧ r.2.2.length ≤ 16 := by
    unfold spec_DrawMatchingFull
    rw [gives_bind]
    refine (DrawMatchingRight_ok hb).mono ?_
    rintro ⟨n, es, ps⟩ h
    exact gives_some.2 h
  simp only at h2 h3 h4
  rw [h1, Option.bind_some]
  dsimp only
  rw [impl_MatchingFull_eq, Option.bind_some, spec_MatchingFull_eq (n := n) (es := es) (ps := ps) ⟨by omega, by omega⟩ (by omega), Option.bind_some, if_neg (by simp)]
  by_cases hf : FullOk n es ps
  · have hg := hf.1.1
    have h0 := hg.1
    have h16 := hg.2.1
    have lp := hf.1.2.1
    have lm := mo_len hg
    have hc := half_full hf (mo_full hg).1
    have b1 := cnt_le ps n.toNat
    rw [show fullOk n es ps = true from yes_true hf, if_neg (by simp), impl_MatchingOf_eq hg, Option.bind_some, count_loop (N := n.toNat) (by omega) (by omega) (by omega), Option.bind_some]
    dsimp only
    rw [chk_pos (by omega), if_pos (by simp; omega), impl_MatchingRight_eq, Option.bind_some, show matOk n es ps = true from yes_true hf.1]
    simp; omega
  · rw [show fullOk n es ps = false from yes_false hf, if_pos (by rfl), alive_eq]; rfl
end Go.Proofs.Ytncminpafiahpaa
