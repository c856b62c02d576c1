/- Graphs joined: their edges put in one after the other. -/
import Derived.Test.YtmcdlohjjbmimaaNh
set_option linter.unusedSimpArgs false
set_option linter.unusedVariables false
namespace Go.Proofs.Ytmcdlohjjbmimaa
open Go Go.Av
abbrev Ed := Int × Int × Int
abbrev Gr := Int × List Ed

open Classical in
/-- The edges with an edge put at its place. -/
noncomputable def insE (es : List Ed) (e : Ed) : List Ed := if h : ∃ R A1 M A2, CutE es e A1 M A2 ∧ R = A1 ++ e :: A2 then Classical.choose h else []
theorem insE_cut {es : List Ed} (hP : es.Pairwise ltE) (e : Ed) : ∃ A1 M A2, CutE es e A1 M A2 ∧ insE es e = A1 ++ e :: A2 := by
  have h : ∃ R A1 M A2, CutE es e A1 M A2 ∧ R = A1 ++ e :: A2 := by
    obtain ⟨A1, M, A2, h⟩ := cutE_is hP e
    exact ⟨_, A1, M, A2, h, rfl⟩
  unfold insE
  rw [dif_pos h]
  exact Classical.choose_spec h
theorem insE_len {es : List Ed} (hP : es.Pairwise ltE) (e : Ed) : es.length ≤ (insE es e).length ∧ (insE es e).length ≤ es.length + 1 := by
  obtain ⟨A1, M, A2, ⟨q1, _, _, q4⟩, h⟩ := insE_cut hP e
  have hm : M.length ≤ 1 := by
    rcases q4 with rfl | ⟨m, rfl, _⟩
    · simp
    · simp
  have h1 : es.length = A1.length + (M.length + A2.length) := by rw [q1]; simp
  have h2 : (insE es e).length = A1.length + (A2.length + 1) := by rw [h]; simp
  omega
theorem gokP {n : Int} {es : List Ed} (h : gok n es = true) : GOk n es := by
  by_cases hg : GOk n es
  · exact hg
  · rw [gok_false hg] at h; cases h
theorem lpl {S X : Type} {body : S → Option (S ⊕ X)} {s s' : S} (h : body s = some (.inl s')) : loop body s = loop body s' := by rw [loop_eq, h]
theorem lpr {S X : Type} {body : S → Option (S ⊕ X)} {s : S} {x : X} (h : body s = some (.inr x)) : loop body s = some x := by rw [loop_eq, h]
theorem add_i {n : Int} {es : List Ed} (hg : GOk n es) (e : Ed) : impl_AddEdge n es e.1 e.2.1 e.2.2 = some (if gok n (insE es e) = true then (n, insE es e, true) else (n, es, false)) := by
  obtain ⟨A1, M, A2, h, h2⟩ := insE_cut (gok_iff.1 hg).2.2.2.2 e
  rw [h2]; exact impl_AddEdge_is hg h
theorem add_s {n : Int} {es : List Ed} (hg : GOk n es) (e : Ed) : spec_AddEdge n es e.1 e.2.1 e.2.2 = some (if gok n (insE es e) = true then (n, insE es e, true) else (n, es, false)) := by
  obtain ⟨A1, M, A2, h, h2⟩ := insE_cut (gok_iff.1 hg).2.2.2.2 e
  rw [h2]; exact spec_AddEdge_is hg h

open Classical in
noncomputable def goI (n : Int) : List Ed → List Ed → Option (List Ed)
  | es, [] => some es
  | es, e :: E => if gok n (insE es e) = true ∧ (insE es e).length ≠ es.length then goI n (insE es e) E else none
noncomputable def goS (n : Int) : List Ed → List Ed → Option (List Ed)
  | es, [] => some es
  | es, e :: E => if gok n (insE es e) = true then goS n (insE es e) E else none
theorem goS_ok {n : Int} : ∀ {E es r : List Ed}, GOk n es → goS n es E = some r → GOk n r ∧ r.length ≤ es.length + E.length
  | [], es, r, hg, h => by simp only [goS, Option.some.injEq] at h; subst h; exact ⟨hg, by simp⟩
  | e :: E, es, r, hg, h => by
    simp only [goS] at h
    split at h
    · rename_i hk
      have := insE_len (gok_iff.1 hg).2.2.2.2 e
      obtain ⟨h1, h2⟩ := goS_ok (gokP hk) h
      exact ⟨h1, by rw [List.length_cons]; omega⟩
    · cases h
theorem goI_ok {n : Int} : ∀ {E es r : List Ed}, GOk n es → goI n es E = some r → GOk n r
  | [], es, r, hg, h => by simp only [goI, Option.some.injEq] at h; subst h; exact hg
  | e :: E, es, r, hg, h => by
    simp only [goI] at h
    split at h
    · rename_i hk; exact goI_ok (gokP hk.1) h
    · cases h
theorem goI_goS {n : Int} : ∀ {E es : List Ed}, GOk n es → goI n es E = (goS n es E).bind fun r => if r.length = es.length + E.length then some r else none
  | [], es, hg => by simp [goI, goS]
  | e :: E, es, hg => by
    have hl := insE_len (gok_iff.1 hg).2.2.2.2 e
    simp only [goI, goS]
    by_cases hk : gok n (insE es e) = true
    · rw [if_pos hk]
      by_cases he : (insE es e).length = es.length
      · rw [if_neg (fun h => h.2 he)]
        cases hr : goS n (insE es e) E with
        | none => rfl
        | some r =>
          have := (goS_ok (gokP hk) hr).2
          rw [Option.bind_some, if_neg (by rw [List.length_cons]; omega)]
      · rw [if_pos ⟨hk, he⟩, goI_goS (gokP hk)]
        cases hr : goS n (insE es e) E with
        | none => rfl
        | some r =>
          simp only [Option.bind_some, List.length_cons]
          by_cases hx : r.length = (insE es e).length + E.length
          · rw [if_pos hx, if_pos (by omega)]
          · rw [if_neg hx, if_neg (by omega)]
    · rw [if_neg hk, if_neg (fun h => hk h.1)]; rfl
theorem goI_append {n : Int} : ∀ {E es F : List Ed}, goI n es (E ++ F) = (goI n es E).bind fun r => goI n r F
  | [], es, F => by simp [goI]
  | e :: E, es, F => by
    simp only [List.cons_append, goI]
    split
    · exact goI_append
    · rfl
theorem goS_append {n : Int} : ∀ {E es F : List Ed}, goS n es (E ++ F) = (goS n es E).bind fun r => goS n r F
  | [], es, F => by simp [goS]
  | e :: E, es, F => by
    simp only [List.cons_append, goS]
    split
    · exact goS_append
    · rfl
theorem drop_cons_getD {α : Type} {xs : List α} {k : Nat} (d : α) (h : k < xs.length) : xs.drop k = xs.getD k d :: xs.drop (k + 1) := by
  rw [List.drop_eq_getElem_cons h, List.getD_eq_getElem?_getD, List.getElem?_eq_getElem h]; rfl
/-- What a fold answers, as the loops end. -/
def outG (n : Int) : Option (List Ed) → (Int × List Ed) ⊕ Unit
  | some r => .inl (n, r)
  | none => .inr ()
theorem joinI_inner {gs : List Gr} {t : Nat} {n : Int} (ht : t < gs.length) (hL : (gs.getD t (0, [])).2.length ≤ 1000000000) : ∀ (m k : Nat) (es : List Ed), GOk n es → k + m = (gs.getD t (0, [])).2.length →
    loop (impl_JoinParts_b1 gs t) ((k : Int), n, es) = some (outG n (goI n es ((gs.getD t (0, [])).2.drop k))) := by
  intro m
  induction m with
  | zero =>
    intro k es hg hk
    rw [List.drop_of_length_le (by omega)]
    refine lpr ?_
    simp only [impl_JoinParts_b1, Int.toNat_natCast, decide_eq_true_eq]
    rw [if_neg (by omega)]; rfl
  | succ m ih =>
    intro k es hg hk
    have hkl : k < (gs.getD t (0, [])).2.length := by omega
    rw [drop_cons_getD (0, 0, 0) hkl]
    have hb : impl_JoinParts_b1 gs t ((k : Int), n, es) = some (if gok n (insE es ((gs.getD t (0, [])).2.getD k (0, 0, 0))) = true ∧ (insE es ((gs.getD t (0, [])).2.getD k (0, 0, 0))).length ≠ es.length then .inl (((k + 1 : Nat) : Int), n, insE es ((gs.getD t (0, [])).2.getD k (0, 0, 0))) else .inr (.inr ())) := by
      simp only [impl_JoinParts_b1, Int.toNat_natCast, decide_eq_true_eq]
      rw [if_pos (by omega), chk_pos (by omega), add_i hg, Option.bind_some]
      by_cases hk1 : gok n (insE es ((gs.getD t (0, [])).2.getD k (0, 0, 0))) = true
      · rw [if_pos hk1]
        by_cases hk2 : (insE es ((gs.getD t (0, [])).2.getD k (0, 0, 0))).length = es.length
        · dsimp only
          rw [if_pos (by rw [hk2]; simp), if_neg (fun h => h.2 hk2)]
        · dsimp only
          rw [if_neg (by simp only [Bool.not_true, Bool.false_or, beq_iff_eq]; omega), chk_pos (by omega), if_pos ⟨hk1, hk2⟩]
          rfl
      · rw [if_neg hk1]
        dsimp only
        rw [if_pos (by simp), if_neg (fun h => hk1 h.1)]
    simp only [goI]
    by_cases hc : gok n (insE es ((gs.getD t (0, [])).2.getD k (0, 0, 0))) = true ∧ (insE es ((gs.getD t (0, [])).2.getD k (0, 0, 0))).length ≠ es.length
    · rw [if_pos hc] at hb
      rw [lpl hb, ih (k + 1) _ (gokP hc.1) (by omega), if_pos hc]
    · rw [if_neg hc] at hb
      rw [lpr hb, if_neg hc]; rfl
theorem joinS_inner {gs : List Gr} {t : Nat} {n : Int} (ht : t < gs.length) (hL : (gs.getD t (0, [])).2.length ≤ 1000000000) : ∀ (m k : Nat) (es : List Ed), GOk n es → k + m = (gs.getD t (0, [])).2.length →
    loop (spec_JoinParts_b0 gs t) ((k : Int), n, es) = some (outG n (goS n es ((gs.getD t (0, [])).2.drop k))) := by
  intro m
  induction m with
  | zero =>
    intro k es hg hk
    rw [List.drop_of_length_le (by omega)]
    refine lpr ?_
    simp only [spec_JoinParts_b0, Int.toNat_natCast, decide_eq_true_eq]
    rw [chk_pos ht, chk_pos (by omega), if_neg (by omega)]; rfl
  | succ m ih =>
    intro k es hg hk
    have hkl : k < (gs.getD t (0, [])).2.length := by omega
    rw [drop_cons_getD (0, 0, 0) hkl]
    have hb : spec_JoinParts_b0 gs t ((k : Int), n, es) = some (if gok n (insE es ((gs.getD t (0, [])).2.getD k (0, 0, 0))) = true then .inl (((k + 1 : Nat) : Int), n, insE es ((gs.getD t (0, [])).2.getD k (0, 0, 0))) else .inr (.inr ())) := by
      simp only [spec_JoinParts_b0, Int.toNat_natCast, decide_eq_true_eq]
      rw [chk_pos ht, chk_pos (by omega), if_pos (by omega), chk_pos ht, chk_pos (by omega), chk_pos (by omega), add_s hg, Option.bind_some]
      by_cases hk1 : gok n (insE es ((gs.getD t (0, [])).2.getD k (0, 0, 0))) = true
      · rw [if_pos hk1]
        dsimp only
        rw [if_neg (by simp), chk_pos (by omega), if_pos hk1]
        rfl
      · rw [if_neg hk1]
        dsimp only
        rw [if_pos (by simp), if_neg hk1]
    simp only [goS]
    by_cases hc : gok n (insE es ((gs.getD t (0, [])).2.getD k (0, 0, 0))) = true
    · rw [if_pos hc] at hb
      rw [lpl hb, ih (k + 1) _ (gokP hc) (by omega), if_pos hc]
    · rw [if_neg hc] at hb
      rw [lpr hb, if_neg hc]; rfl
theorem joinI_inner0 {gs : List Gr} {t : Nat} {n : Int} {es : List Ed} (ht : t < gs.length) (hL : (gs.getD t (0, [])).2.length ≤ 1000000000) (hg : GOk n es) : loop (impl_JoinParts_b1 gs t) (0, n, es) = some (outG n (goI n es (gs.getD t (0, [])).2)) := by
  have h := joinI_inner (n := n) ht hL (gs.getD t (0, [])).2.length 0 es hg (Nat.zero_add _)
  have e : ((0 : Nat) : Int) = 0 := rfl
  rw [List.drop_zero, e] at h
  exact h
theorem joinS_inner0 {gs : List Gr} {t : Nat} {n : Int} {es : List Ed} (ht : t < gs.length) (hL : (gs.getD t (0, [])).2.length ≤ 1000000000) (hg : GOk n es) : loop (spec_JoinParts_b0 gs t) (0, n, es) = some (outG n (goS n es (gs.getD t (0, [])).2)) := by
  have h := joinS_inner (n := n) ht hL (gs.getD t (0, [])).2.length 0 es hg (Nat.zero_add _)
  have e : ((0 : Nat) : Int) = 0 := rfl
  rw [List.drop_zero, e] at h
  exact h
/-- All edges, part by part. -/
def flat (gs : List Gr) : List Ed := gs.flatMap fun g => g.2
theorem joinI_outer {gs : List Gr} {n : Int} (hN : gs.length ≤ 1000000000) (hL : ∀ k, k < gs.length → (gs.getD k (0, [])).2.length ≤ 1000000000) : ∀ (m k : Nat) (es : List Ed), GOk n es → k + m = gs.length →
    loop (impl_JoinParts_b2 gs) ((k : Int), n, es) = some (outG n (goI n es (flat (gs.drop k)))) := by
  intro m
  induction m with
  | zero =>
    intro k es hg hk
    rw [List.drop_of_length_le (by omega)]
    refine lpr ?_
    simp only [impl_JoinParts_b2, Int.toNat_natCast, decide_eq_true_eq]
    rw [if_neg (by omega)]; rfl
  | succ m ih =>
    intro k es hg hk
    have hkl : k < gs.length := by omega
    rw [drop_cons_getD (0, []) hkl, flat, List.flatMap_cons, goI_append]
    have hin := joinI_inner0 (n := n) hkl (hL k hkl) hg
    have hb : impl_JoinParts_b2 gs ((k : Int), n, es) = some (match goI n es (gs.getD k (0, [])).2 with | some r => .inl (((k + 1 : Nat) : Int), n, r) | none => .inr (.inr ())) := by
      simp only [impl_JoinParts_b2, Int.toNat_natCast, decide_eq_true_eq]
      rw [if_pos (by omega), chk_pos hkl, chk_pos (by omega)]
      rw [hin, Option.bind_some]
      cases goI n es (gs.getD k (0, [])).2 with
      | none => simp only [outG, Sum.elim_inr]
      | some r =>
        rw [show outG n (some r) = Sum.inl (n, r) from rfl, Sum.elim_inl]
        rw [chk_pos (by omega), show (((k + 1 : Nat) : Int)) = (k : Int) + 1 from by omega]
    cases hr : goI n es (gs.getD k (0, [])).2 with
    | none => rw [hr] at hb; rw [lpr hb]; rfl
    | some r => rw [hr] at hb; rw [lpl hb, ih (k + 1) r (goI_ok hg hr) (by omega), Option.bind_some, flat]
theorem joinScan {gs : List Gr} (hN : gs.length ≤ 1000000000) : ∀ (m k : Nat), k + m = gs.length →
    loop (impl_JoinParts_b0 gs) (k : Int) = some (if (gs.drop k).all (fun g => gok g.1 g.2 && g.1 == (gs.getD 0 (0, [])).1) = true then .inl () else .inr ()) := by
  intro m
  induction m with
  | zero =>
    intro k hk
    rw [List.drop_of_length_le (by omega)]
    refine lpr ?_
    simp only [impl_JoinParts_b0, Int.toNat_natCast, decide_eq_true_eq]
    rw [if_neg (by omega)]; rfl
  | succ m ih =>
    intro k hk
    have hkl : k < gs.length := by omega
    rw [drop_cons_getD (0, []) hkl, List.all_cons]
    have hb : impl_JoinParts_b0 gs (k : Int) = some (if (gok (gs.getD k (0, [])).1 (gs.getD k (0, [])).2 && (gs.getD k (0, [])).1 == (gs.getD 0 (0, [])).1) = true then .inl ((k + 1 : Nat) : Int) else .inr (.inr ())) := by
      simp only [impl_JoinParts_b0, Int.toNat_natCast, decide_eq_true_eq, impl_GraphValid_eq, Option.bind_some]
      rw [if_pos (by omega), chk_pos hkl, chk_pos (by omega), chk_pos (fun _ => by omega)]
      cases gok (gs.getD k (0, [])).1 (gs.getD k (0, [])).2 with
      | false => rfl
      | true =>
        by_cases he : (gs.getD k (0, [])).1 = (gs.getD 0 (0, [])).1
        · rw [if_neg (by rw [he]; simp), chk_pos (by omega), if_pos (by rw [he]; simp)]; rfl
        · rw [if_pos (by rw [Bool.not_true, Bool.false_or, bne_iff_ne]; exact he), if_neg (by rw [Bool.true_and, beq_iff_eq]; exact he)]
    by_cases hc : (gok (gs.getD k (0, [])).1 (gs.getD k (0, [])).2 && (gs.getD k (0, [])).1 == (gs.getD 0 (0, [])).1) = true
    · rw [if_pos hc] at hb
      rw [lpl hb, ih (k + 1) (by omega), hc, Bool.true_and]
    · rw [if_neg hc] at hb
      rw [lpr hb, if_neg (by rw [Bool.and_eq_true]; exact fun h => hc h.1)]
/-- Part by part, each looked at first. -/
noncomputable def goP (n : Int) : List Ed → List Gr → Option (List Ed)
  | es, [] => some es
  | es, g :: gs => if (gok g.1 g.2 && g.1 == n) = true then (goS n es g.2).bind fun r => goP n r gs else none
theorem goP_eq {n : Int} : ∀ {gs : List Gr} {es : List Ed}, goP n es gs = if gs.all (fun g => gok g.1 g.2 && g.1 == n) = true then goS n es (flat gs) else none
  | [], es => by simp [goP, flat, goS]
  | g :: gs, es => by
    have ih := fun r => goP_eq (n := n) (gs := gs) (es := r)
    simp only [goP, ih, List.all_cons, flat, List.flatMap_cons, goS_append]
    cases (gok g.1 g.2 && g.1 == n) with
    | false => simp
    | true =>
      cases (gs.all fun g => gok g.1 g.2 && g.1 == n) with
      | false => simp
      | true => simp
def outS (n : Int) (t : Int) : Option (List Ed) → (Int × Int × List Ed) ⊕ Unit
  | some r => .inl (t, n, r)
  | none => .inr ()
theorem joinS_outer {gs : List Gr} {n : Int} (hN : gs.length ≤ 1000000000) (hL : (flat gs).length ≤ 1000000000) (hB : ∀ k, k < gs.length → fits64 (gs.getD k (0, [])).1 ∧ (gs.getD k (0, [])).2.length ≤ 1000000000) : ∀ (m k : Nat) (t : Nat) (es : List Ed), (0 ≤ n → n ≤ 16 → GOk n es) → k + m = gs.length → t + (flat (gs.drop k)).length = (flat gs).length →
    loop (spec_JoinParts_b1 gs) ((t : Int), (k : Int), n, es) = some (outS n ((flat gs).length : Int) (goP n es (gs.drop k))) := by
  intro m
  induction m with
  | zero =>
    intro k t es hg hk ht
    rw [List.drop_of_length_le (by omega)] at ht ⊢
    refine lpr ?_
    simp only [spec_JoinParts_b1, Int.toNat_natCast, decide_eq_true_eq]
    rw [if_neg (by omega)]
    rw [show (t : Int) = ((flat gs).length : Int) from by rw [← ht]; simp [flat]]
    rfl
  | succ m ih =>
    intro k t es hg hk ht
    have hkl : k < gs.length := by omega
    rw [drop_cons_getD (0, []) hkl] at ht ⊢
    simp only [flat, List.flatMap_cons, List.length_append] at ht
    have hb0 := hB k hkl
    have hf := hb0.1
    unfold fits64 at hf
    simp only [goP]
    have hv := spec_GraphValid_eq (n := (gs.getD k (0, [])).1) (es := (gs.getD k (0, [])).2) hf hb0.2
    have hb : spec_JoinParts_b1 gs ((t : Int), (k : Int), n, es) = some (if (gok (gs.getD k (0, [])).1 (gs.getD k (0, [])).2 && (gs.getD k (0, [])).1 == n) = true then (match goS n es (gs.getD k (0, [])).2 with | some r => .inl (((t + (gs.getD k (0, [])).2.length : Nat) : Int), ((k + 1 : Nat) : Int), n, r) | none => .inr (.inr ())) else .inr (.inr ())) := by
      simp only [spec_JoinParts_b1, Int.toNat_natCast, decide_eq_true_eq]
      rw [if_pos (by omega), chk_pos hkl, chk_pos (by omega), hv, Option.bind_some, chk_pos (fun _ => by omega)]
      cases hgo : gok (gs.getD k (0, [])).1 (gs.getD k (0, [])).2 with
      | false => rfl
      | true =>
        by_cases he : (gs.getD k (0, [])).1 = n
        · have hgk := gokP hgo
          rw [he] at hgk
          have hge := hg hgk.1 hgk.2.1
          have hin := joinS_inner0 (n := n) hkl hb0.2 hge
          rw [if_neg (by rw [he]; simp), chk_pos hkl, chk_pos (by omega), chk_pos (by unfold flat at hL; omega), hin, Option.bind_some, if_pos (by rw [he]; simp)]
          cases goS n es (gs.getD k (0, [])).2 with
          | none => simp only [outG, Sum.elim_inr]
          | some r =>
            rw [show outG n (some r) = Sum.inl (n, r) from rfl, Sum.elim_inl]
            rw [chk_pos (by omega), show (((k + 1 : Nat) : Int)) = (k : Int) + 1 from by omega, show (((t + (gs.getD k (0, [])).2.length : Nat) : Int)) = (t : Int) + ((gs.getD k (0, [])).2.length : Int) from by omega]
        · rw [if_pos (by rw [Bool.not_true, Bool.false_or, bne_iff_ne]; exact he), if_neg (by rw [Bool.true_and, beq_iff_eq]; exact he)]
    by_cases hc : (gok (gs.getD k (0, [])).1 (gs.getD k (0, [])).2 && (gs.getD k (0, [])).1 == n) = true
    · rw [if_pos hc] at hb ⊢
      have hgk : GOk n (gs.getD k (0, [])).2 := by
        rw [Bool.and_eq_true, beq_iff_eq] at hc
        have := gokP hc.1
        rw [hc.2] at this
        exact this
      cases hr : goS n es (gs.getD k (0, [])).2 with
      | none => rw [hr] at hb; rw [lpr hb]; rfl
      | some r =>
        rw [hr] at hb
        rw [lpl hb, ih (k + 1) _ r (fun _ _ => (goS_ok (hg hgk.1 hgk.2.1) hr).1) (by omega) (by unfold flat; omega), Option.bind_some]
    · rw [if_neg hc] at hb ⊢
      rw [lpr hb]; rfl
/-- What both answer. -/
noncomputable def joinR (gs : List Gr) : Int × List Ed × Bool :=
  match (if (1 ≤ gs.length ∧ gs.length ≤ 6) ∧ gs.all (fun g => gok g.1 g.2 && g.1 == (gs.getD 0 (0, [])).1) = true then goI (gs.getD 0 (0, [])).1 [] (flat gs) else none) with
  | some r => ((gs.getD 0 (0, [])).1, r, true)
  | none => (0, [], false)
theorem gok_nil {n : Int} (h0 : 0 ≤ n) (h16 : n ≤ 16) : GOk n [] := gok_iff.2 ⟨h0, h16, by simp, by simp, by simp⟩
theorem joinI_eq {gs : List Gr} (hL : ∀ k, k < gs.length → (gs.getD k (0, [])).2.length ≤ 1000000000) : impl_JoinParts gs = some (joinR gs) := by
  unfold impl_JoinParts impl_workersFit
  rw [Option.bind_some]
  by_cases h6 : 1 ≤ gs.length ∧ gs.length ≤ 6
  · rw [if_neg (by simp; omega)]
    have hs := joinScan (gs := gs) (by omega) gs.length 0 (Nat.zero_add _)
    rw [List.drop_zero, show ((0 : Nat) : Int) = 0 from rfl] at hs
    rw [hs, Option.bind_some]
    unfold joinR
    by_cases ha : gs.all (fun g => gok g.1 g.2 && g.1 == (gs.getD 0 (0, [])).1) = true
    · rw [if_pos ha, if_pos ⟨h6, ha⟩, Sum.elim_inl, chk_pos (by omega)]
      have hg0 : GOk (gs.getD 0 (0, [])).1 (gs.getD 0 (0, [])).2 := by
        have hm : gs.getD 0 (0, []) ∈ gs := by
          rw [List.getD_eq_getElem?_getD, List.getElem?_eq_getElem (by omega : 0 < gs.length)]
          exact List.getElem_mem _
        have := List.all_eq_true.1 ha _ hm
        rw [Bool.and_eq_true] at this
        exact gokP this.1
      have ho := joinI_outer (gs := gs) (by omega) hL gs.length 0 [] (gok_nil hg0.1 hg0.2.1) (Nat.zero_add _)
      rw [List.drop_zero, show ((0 : Nat) : Int) = 0 from rfl] at ho
      rw [ho, Option.bind_some]
      cases goI (gs.getD 0 (0, [])).1 [] (flat gs) with
      | none => rfl
      | some r => rfl
    · rw [if_neg ha, if_neg (fun h => ha h.2), Sum.elim_inr]
  · rw [if_pos (by simp; omega)]
    unfold joinR
    rw [if_neg (fun h => h6 h.1)]
theorem own_list {gs : List Gr} (hN : gs.length ≤ 1000000000) (hL : ∀ k, k < gs.length → (gs.getD k (0, [])).2.length ≤ 1000000000) : spec_l1OwnGraphList gs = some gs := by
  have key : ∀ (m k : Nat), k + m = gs.length → loop (spec_l1OwnGraphList_b0 gs) ((k : Int), gs.take k) = some gs := by
    intro m
    induction m with
    | zero =>
      intro k hk
      rw [List.take_of_length_le (by omega)]
      refine lpr ?_
      simp only [spec_l1OwnGraphList_b0, Int.toNat_natCast, decide_eq_true_eq]
      rw [if_neg (by omega)]
    | succ m ih =>
      intro k hk
      have hkl : k < gs.length := by omega
      have htl : (gs.take k).length = k := by rw [List.length_take]; omega
      have hl := hL k hkl
      have hb : spec_l1OwnGraphList_b0 gs ((k : Int), gs.take k) = some (.inl (((k + 1 : Nat) : Int), gs.take (k + 1))) := by
        simp only [spec_l1OwnGraphList_b0, spec_l1OwnGraph, Int.toNat_natCast, decide_eq_true_eq, htl]
        rw [if_pos (by omega), chk_pos hkl, chk_pos (by omega), chk_pos (by omega), Option.bind_some]
        dsimp only
        rw [chk_pos (by omega), chk_pos (by omega)]
        have e1 : (gs.take k ++ [((gs.getD k (0, [])).1, ([] : List Ed))]).getD k (0, []) = ((gs.getD k (0, [])).1, []) := by
          rw [List.getD_eq_getElem?_getD, List.getElem?_append_right (by omega), htl, Nat.sub_self]; rfl
        have e2 : (gs.take k ++ [((gs.getD k (0, [])).1, ([] : List Ed))]).set k ((gs.getD k (0, [])).1, [] ++ (gs.getD k (0, [])).2) = gs.take (k + 1) := by
          rw [List.set_append_right _ _ (by omega), htl, Nat.sub_self, List.set_cons_zero, List.nil_append, ← List.take_append_getElem hkl, List.getD_eq_getElem?_getD, List.getElem?_eq_getElem hkl]; rfl
        rw [e1]
        rw [show (((k + 1 : Nat) : Int)) = (k : Int) + 1 from by omega]
        exact congrArg (fun z => some (Sum.inl ((k : Int) + 1, z))) e2
      rw [lpl hb, ih (k + 1) (by omega)]
  unfold spec_l1OwnGraphList
  have h := key gs.length 0 (Nat.zero_add _)
  rw [List.take_zero, show ((0 : Nat) : Int) = 0 from rfl] at h
  rw [h]; rfl
theorem joinS_eq {gs : List Gr} (hN : gs.length ≤ 1000000000) (hL : (flat gs).length ≤ 1000000000) (hB : ∀ k, k < gs.length → fits64 (gs.getD k (0, [])).1 ∧ (gs.getD k (0, [])).2.length ≤ 1000000000) : spec_JoinParts gs = some (joinR gs) := by
  unfold spec_JoinParts
  rw [own_list hN (fun k hk => (hB k hk).2), Option.bind_some]
  by_cases h6 : 1 ≤ gs.length ∧ gs.length ≤ 6
  · rw [if_neg (by simp; omega), chk_pos (by omega)]
    have ho := joinS_outer (n := (gs.getD 0 (0, [])).1) hN hL hB gs.length 0 0 [] (fun a b => gok_nil a b) (Nat.zero_add _) (by rw [List.drop_zero, Nat.zero_add])
    rw [List.drop_zero, show ((0 : Nat) : Int) = 0 from rfl, goP_eq] at ho
    rw [ho, Option.bind_some]
    unfold joinR
    by_cases ha : gs.all (fun g => gok g.1 g.2 && g.1 == (gs.getD 0 (0, [])).1) = true
    · rw [if_pos ha, if_pos ⟨h6, ha⟩]
      have hg0 : GOk (gs.getD 0 (0, [])).1 (gs.getD 0 (0, [])).2 := by
        have hm : gs.getD 0 (0, []) ∈ gs := by
          rw [List.getD_eq_getElem?_getD, List.getElem?_eq_getElem (by omega : 0 < gs.length)]
          exact List.getElem_mem _
        have := List.all_eq_true.1 ha _ hm
        rw [Bool.and_eq_true] at this
        exact gokP this.1
      rw [goI_goS (gok_nil hg0.1 hg0.2.1)]
      cases goS (gs.getD 0 (0, [])).1 [] (flat gs) with
      | none => rfl
      | some r =>
        rw [Option.bind_some, List.length_nil, Nat.zero_add, show outS (gs.getD 0 (0, [])).1 ((flat gs).length : Int) (some r) = Sum.inl (((flat gs).length : Int), (gs.getD 0 (0, [])).1, r) from rfl, Sum.elim_inl]
        by_cases hr : r.length = (flat gs).length
        · rw [if_pos hr]
          dsimp only
          rw [if_neg (by rw [hr]; simp)]
        · rw [if_neg hr]
          dsimp only
          rw [if_pos (by rw [bne_iff_ne]; omega)]
    · rw [if_neg ha, if_neg (fun h => ha h.2)]; rfl
  · rw [if_pos (by simp; omega)]
    unfold joinR
    rw [if_neg (fun h => h6 h.1)]
end Go.Proofs.Ytmcdlohjjbmimaa
