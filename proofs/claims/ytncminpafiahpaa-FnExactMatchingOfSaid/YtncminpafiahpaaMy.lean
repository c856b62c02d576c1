/- A stable sort of edges by weight. -/
import Derived.Test.YtncminpafiahpaaMg
set_option linter.unusedSimpArgs false
set_option linter.unusedVariables false
namespace Go.Proofs.Ytncminpafiahpaa
open Go Go.Av
attribute [local go_sem] gives_chk gives_ite gives_some gives_bind gives_join Sum.elim_inl Sum.elim_inr decide_eq_true_eq decide_eq_false_iff_not Bool.not_eq_true' Bool.not_eq_false' Bool.or_eq_true Bool.and_eq_true Bool.not_eq_eq_eq_not beq_iff_eq bne_iff_ne ne_eq Bool.or_eq_false_iff Bool.and_eq_false_iff Bool.not_eq_true Bool.not_eq_false Bool.not_true Bool.not_false Int.toNat_natCast beq_eq_false_iff_ne bne_eq_false_iff_eq Decidable.not_not Bool.default_bool

theorem cmpI_neg (a b : Int) : cmpI a b < 0 ↔ a < b := by
  unfold cmpI
  split
  · simp [*]
  · split <;> simp [*]; try omega
def ofW (w : Int) (L : List (Int × Int × Int)) : List (Int × Int × Int) := L.filter fun e => decide (e.2.2 = w)
theorem ofW_append (w : Int) (A B : List (Int × Int × Int)) : ofW w (A ++ B) = ofW w A ++ ofW w B := List.filter_append ..
theorem mem_ofW {w : Int} {L : List (Int × Int × Int)} {e : Int × Int × Int} : e ∈ ofW w L ↔ e ∈ L ∧ e.2.2 = w := by simp [ofW]
theorem ofW_none {w : Int} {L : List (Int × Int × Int)} (h : ∀ e ∈ L, e.2.2 ≠ w) : ofW w L = [] := by
  simpa [ofW] using h
/-- The same edges of every weight, in the same order. -/
def Eqv (L L' : List (Int × Int × Int)) : Prop := ∀ w, ofW w L = ofW w L'
theorem Eqv.rfl' {L : List (Int × Int × Int)} : Eqv L L := fun _ => rfl
theorem Eqv.symm {L L' : List (Int × Int × Int)} (h : Eqv L L') : Eqv L' L := fun w => (h w).symm
theorem Eqv.trans {L L' L'' : List (Int × Int × Int)} (h : Eqv L L') (h' : Eqv L' L'') : Eqv L L'' := fun w => (h w).trans (h' w)
theorem Eqv.app {A A' B B' : List (Int × Int × Int)} (h : Eqv A A') (h' : Eqv B B') : Eqv (A ++ B) (A' ++ B') := fun w => by rw [ofW_append, ofW_append, h w, h' w]
theorem Eqv.mem {L L' : List (Int × Int × Int)} (h : Eqv L L') (e : Int × Int × Int) : e ∈ L ↔ e ∈ L' := by
  have h1 : e ∈ ofW e.2.2 L ↔ e ∈ ofW e.2.2 L' := by rw [h e.2.2]
  rw [mem_ofW, mem_ofW] at h1
  exact ⟨fun x => (h1.1 ⟨x, rfl⟩).1, fun x => (h1.2 ⟨x, rfl⟩).1⟩
theorem Eqv.swap {A B : List (Int × Int × Int)} (h : ∀ a ∈ A, ∀ b ∈ B, a.2.2 ≠ b.2.2) : Eqv (A ++ B) (B ++ A) := fun w => by
  rw [ofW_append, ofW_append]
  by_cases hx : ∃ a ∈ A, a.2.2 = w
  · obtain ⟨a, ha, hw⟩ := hx
    rw [ofW_none (L := B) fun b hb hbw => h a ha b hb (hw.trans hbw.symm)]
    simp
  · rw [ofW_none (L := A) fun a ha haw => hx ⟨a, ha, haw⟩]
    simp
/-- Heavier edges come first. -/
def Srt (L : List (Int × Int × Int)) : Prop := L.Pairwise fun a b => b.2.2 ≤ a.2.2
theorem Srt.append {A B : List (Int × Int × Int)} : Srt (A ++ B) ↔ Srt A ∧ Srt B ∧ ∀ a ∈ A, ∀ b ∈ B, b.2.2 ≤ a.2.2 := List.pairwise_append
theorem Srt.uniq : ∀ {C D : List (Int × Int × Int)}, Srt C → Srt D → Eqv C D → C = D
  | [], D, _, _, h => by
    cases D with
    | nil => rfl
    | cons y D => exact absurd ((h.mem y).2 (List.mem_cons_self ..)) (List.not_mem_nil)
  | x :: C, [], _, _, h => absurd ((h.mem x).1 (List.mem_cons_self ..)) (List.not_mem_nil)
  | x :: C, y :: D, hC, hD, h => by
    have hC' := List.pairwise_cons.1 hC
    have hD' := List.pairwise_cons.1 hD
    have h1 : x.2.2 ≤ y.2.2 := by
      rcases List.mem_cons.1 ((h.mem x).1 (List.mem_cons_self ..)) with e | e
      · rw [e]; exact Int.le_refl _
      · exact hD'.1 x e
    have h2 : y.2.2 ≤ x.2.2 := by
      rcases List.mem_cons.1 ((h.mem y).2 (List.mem_cons_self ..)) with e | e
      · rw [e]; exact Int.le_refl _
      · exact hC'.1 y e
    have hw : x.2.2 = y.2.2 := by omega
    have h3 := h x.2.2
    simp only [ofW, List.filter_cons, hw, decide_true, if_true] at h3
    injection h3 with h4 h5
    subst h4
    have h6 : Eqv C D := fun w => by
      have h7 := h w
      simp only [ofW, List.filter_cons] at h7
      by_cases hxw : x.2.2 = w
      · simp only [hxw, decide_true, if_true] at h7
        injection h7
      · simpa [hxw, ofW] using h7
    rw [Srt.uniq hC'.2 hD'.2 h6]
theorem gD {α : Type} {P Q : List α} {x d : α} {k : Nat} (h : k = P.length) : (P ++ x :: Q).getD k d = x := by
  subst h; simp [List.getD_eq_getElem?_getD]
theorem setD {α : Type} {P Q : List α} {x y : α} {k : Nat} (h : k = P.length) : (P ++ x :: Q).set k y = P ++ y :: Q := by
  subst h; simp [List.set_append]
theorem swp {A B C : List (Int × Int × Int)} {x y d : Int × Int × Int} {L : List (Int × Int × Int)} {i j : Nat} (hL : L = A ++ x :: (B ++ y :: C)) (hi : i = A.length) (hj : j = A.length + 1 + B.length) :
    (L.set i ((L.getD j d).1, (L.getD j d).2.1, (L.getD j d).2.2)).set j ((L.getD i d).1, (L.getD i d).2.1, (L.getD i d).2.2) = A ++ y :: (B ++ x :: C) := by
  have e1 : L.getD i d = x := by rw [hL]; exact gD hi
  have e2 : L.getD j d = y := by
    rw [hL, show A ++ x :: (B ++ y :: C) = (A ++ x :: B) ++ y :: C by simp]; exact gD (by simp; omega)
  rw [e1, e2, hL]
  show (List.set _ i y).set j x = _
  rw [setD hi, show A ++ y :: (B ++ y :: C) = (A ++ y :: B) ++ y :: C by simp, setD (by simp; omega)]
  simp
theorem swp' {A B C : List (Int × Int × Int)} {x y d : Int × Int × Int} {L : List (Int × Int × Int)} {i j : Nat} (hL : L = A ++ x :: (B ++ y :: C)) (hi : i = A.length) (hj : j = A.length + 1 + B.length) :
    (L.set j ((L.getD i d).1, (L.getD i d).2.1, (L.getD i d).2.2)).set i ((L.getD j d).1, (L.getD j d).2.1, (L.getD j d).2.2) = A ++ y :: (B ++ x :: C) := by
  rw [List.set_comm _ _ (by omega)]
  exact swp hL hi hj
theorem gD2 {A B C : List (Int × Int × Int)} {x y d : Int × Int × Int} {L : List (Int × Int × Int)} {j : Nat} (hL : L = A ++ x :: (B ++ y :: C)) (hj : j = A.length + 1 + B.length) : L.getD j d = y := by
  rw [hL, show A ++ x :: (B ++ y :: C) = (A ++ x :: B) ++ y :: C by simp]; exact gD (by simp; omega)

/-! Insertion. -/
theorem ins_in {P A R : List (Int × Int × Int)} {x : Int × Int × Int} {a : Int} (ha : a = P.length) (hm : P.length + A.length + R.length ≤ 1000000000) (hs : Srt A) :
    gives (loop (slices_insertionSortCmpFunc_impl_Edge__impl_MatchingOf_1_b0 a) (((P.length + A.length : Nat) : Int), P ++ (A ++ x :: R))) fun r => ∃ C, r = P ++ (C ++ R) ∧ C.length = A.length + 1 ∧ Srt C ∧ Eqv C (A ++ [x]) := by
  refine gives_loop (fun s : Nat × List (Int × Int × Int) => ((s.1 : Int), s.2)) (fun s => ∃ A1 A2, A = A1 ++ A2 ∧ s.2 = P ++ (A1 ++ x :: (A2 ++ R)) ∧ s.1 = P.length + A1.length ∧ ∀ z ∈ A2, z.2.2 < x.2.2) (fun s => s.1) ?_ (P.length + A.length, P ++ (A ++ x :: R)) ⟨A, [], by simp, by simp, rfl, by simp⟩
  rintro ⟨j, L⟩ ⟨A1, A2, hA, hL, hj, hz⟩
  simp only at hL hj
  have hend : (∀ z ∈ A1, x.2.2 ≤ z.2.2) → ∃ C, L = P ++ (C ++ R) ∧ C.length = A.length + 1 ∧ Srt C ∧ Eqv C (A ++ [x]) := fun h1 => by
    have h2 := Srt.append.1 (hA ▸ hs)
    refine ⟨A1 ++ x :: A2, by rw [hL]; simp, by rw [hA]; simp; omega, Srt.append.2 ⟨h2.1, List.pairwise_cons.2 ⟨fun z hz' => by have := hz z hz'; omega, h2.2.1⟩, fun u hu v hv => ?_⟩, ?_⟩
    · rcases List.mem_cons.1 hv with e | e
      · subst e; exact h1 u hu
      · exact h2.2.2 u hu v e
    · rw [hA, List.append_assoc]
      refine Eqv.app Eqv.rfl' ?_
      exact (Eqv.swap (A := A2) (B := [x]) fun u hu v hv => by have := hz u hu; simp only [List.mem_singleton] at hv; subst hv; omega).symm
  rcases List.eq_nil_or_concat A1 with h | ⟨A1', y, h⟩
  · subst h
    replace hj : j = P.length := by simpa using hj
    simp only [slices_insertionSortCmpFunc_impl_Edge__impl_MatchingOf_1_b0, go_sem]
    refine ⟨fun hc => by omega, by omega, fun hc => by omega, fun hc => by omega, fun _ => hend (by simp)⟩
  · rw [List.concat_eq_append] at h
    subst h
    replace hj : j = P.length + (A1'.length + 1) := by simpa using hj
    have e3 : ((j : Int) - 1).toNat = j - 1 := by omega
    have hL' : L = (P ++ A1') ++ y :: ([] ++ x :: (A2 ++ R)) := by rw [hL]; simp
    have e1 : L.getD j (0, 0, 0) = x := gD2 hL' (by simp; omega)
    have e2 : L.getD (j - 1) (0, 0, 0) = y := by rw [hL']; exact gD (by simp; omega)
    have hl : L.length = P.length + A1'.length + 2 + A2.length + R.length := by rw [hL]; simp; omega
    have hla : A.length = A1'.length + 1 + A2.length := by rw [hA]; simp; omega
    simp only [slices_insertionSortCmpFunc_impl_Edge__impl_MatchingOf_1_b0, go_sem, e3]
    rw [swp' hL' (i := j - 1) (j := j) (by simp; omega) (by simp; omega)]
    simp only [e1, e2, cmpI_neg, List.length_set, hl]
    refine ⟨fun hc => by omega, by omega, fun hc => by omega, fun hc => ⟨by omega, by omega, by omega, by omega, by omega, (j - 1, _), ⟨A1', y :: A2, by rw [hA]; simp, by simp, by simp only; omega, fun z hz' => ?_⟩, by simp only; omega, Prod.ext (by simp only; omega) rfl⟩, fun hc => hend fun z hz' => ?_⟩
    · rcases List.mem_cons.1 hz' with e | e
      · subst e; exact hc.2
      · exact hz z e
    · have h2 : x.2.2 ≤ y.2.2 := by
        refine Classical.byContradiction fun h3 => hc ⟨by omega, by omega⟩
      rcases List.mem_append.1 hz' with e | e
      · have h4 := Srt.append.1 (Srt.append.1 (hA ▸ hs)).1
        have := h4.2.2 z e y (by simp)
        omega
      · simp only [List.mem_singleton] at e; subst e; exact h2
theorem ins_ok {P A R : List (Int × Int × Int)} {a b : Int} (ha : a = P.length) (hb : b = P.length + A.length) (hm : P.length + A.length + R.length ≤ 1000000000) :
    gives (slices_insertionSortCmpFunc_impl_Edge__impl_MatchingOf_1 (P ++ (A ++ R)) a b) fun r => ∃ C, r = P ++ (C ++ R) ∧ C.length = A.length ∧ Srt C ∧ Eqv C A := by
  unfold slices_insertionSortCmpFunc_impl_Edge__impl_MatchingOf_1
  simp only [go_sem]
  refine ⟨by omega, ?_⟩
  rcases A with _ | ⟨x, A⟩
  · simp only [List.length_nil] at hb
    rw [loop_eq]
    simp only [slices_insertionSortCmpFunc_impl_Edge__impl_MatchingOf_1_b1, decide_eq_true_eq]
    rw [if_neg (by omega)]
    exact ⟨_, rfl, [], rfl, rfl, List.Pairwise.nil, Eqv.rfl'⟩
  · simp only [List.length_cons] at hb hm ⊢
    have := gives_loop (Q := fun r => ∃ C, r = P ++ (C ++ R) ∧ C.length = A.length + 1 ∧ Srt C ∧ Eqv C (x :: A)) (body := slices_insertionSortCmpFunc_impl_Edge__impl_MatchingOf_1_b1 a b) (fun s : Nat × List (Int × Int × Int) => ((s.1 : Int), s.2)) (fun s => ∃ A1 A2 C, x :: A = A1 ++ A2 ∧ s.2 = P ++ (C ++ (A2 ++ R)) ∧ s.1 = P.length + A1.length ∧ C.length = A1.length ∧ Srt C ∧ Eqv C A1) (fun s => P.length + (A.length + 1) - s.1) ?_ (P.length + 1, P ++ (x :: A ++ R)) ⟨[x], A, [x], rfl, by simp, rfl, rfl, List.pairwise_singleton .., Eqv.rfl'⟩
    · rw [show a + 1 = ((P.length + 1 : Nat) : Int) by omega]; exact this
    rintro ⟨j, L⟩ ⟨A1, A2, C, hA, hL, hj, hc, hs, he⟩
    simp only at hL hj
    have hla : A.length + 1 = A1.length + A2.length := by have := congrArg List.length hA; simpa using this
    simp only [slices_insertionSortCmpFunc_impl_Edge__impl_MatchingOf_1_b1, go_sem]
    refine ⟨fun hjb => ?_, fun hjb => ?_⟩
    · rcases A2 with _ | ⟨y, A2⟩
      · simp only [List.length_nil] at hla; omega
      · simp only [List.length_cons] at hla
        have h1 := ins_in (P := P) (A := C) (R := A2 ++ R) (x := y) ha (by simp; omega) hs
        rw [hL, show (j : Int) = ((P.length + C.length : Nat) : Int) by omega]
        refine h1.mono fun r ⟨D, h2, h3, h4, h5⟩ => ⟨by omega, (j + 1, r), ⟨A1 ++ [y], A2, D, by rw [hA]; simp, h2, by simp; omega, by simp; omega, h4, h5.trans (he.app Eqv.rfl')⟩, by simp only; omega, Prod.ext (by simp only; omega) rfl⟩
    · rcases A2 with _ | ⟨y, A2⟩
      · simp only [List.append_nil, List.nil_append] at hA hL
        exact ⟨C, hL, by simp only [List.length_nil] at hla; omega, hs, hA ▸ he⟩
      · simp only [List.length_cons] at hla; omega

/-! Blocks that change places. -/
theorem swr_ok {P X M Y Q : List (Int × Int × Int)} {a b n : Int} (ha : a = P.length) (hb : b = P.length + X.length + M.length) (hn : n = X.length) (hxy : Y.length = X.length) (hm : P.length + X.length + M.length + Y.length + Q.length ≤ 1000000000) :
    slices_swapRangeCmpFunc_impl_Edge__impl_MatchingOf_1 (P ++ (X ++ (M ++ (Y ++ Q)))) a b n = some (P ++ (Y ++ (M ++ (X ++ Q)))) := by
  refine gives_eq.1 ?_
  unfold slices_swapRangeCmpFunc_impl_Edge__impl_MatchingOf_1
  simp only [go_sem]
  have := gives_loop (Q := fun r => r = P ++ (Y ++ (M ++ (X ++ Q)))) (body := slices_swapRangeCmpFunc_impl_Edge__impl_MatchingOf_1_b0 a b n) (fun s : Nat × List (Int × Int × Int) => ((s.1 : Int), s.2)) (fun s => ∃ X1 X2 Y1 Y2, X = X1 ++ X2 ∧ Y = Y1 ++ Y2 ∧ s.1 = X1.length ∧ Y1.length = X1.length ∧ s.2 = P ++ (Y1 ++ (X2 ++ (M ++ (X1 ++ (Y2 ++ Q)))))) (fun s => X.length - s.1) ?_ (0, P ++ (X ++ (M ++ (Y ++ Q)))) ⟨[], X, [], Y, rfl, rfl, rfl, rfl, rfl⟩
  · exact this
  rintro ⟨k, L⟩ ⟨X1, X2, Y1, Y2, hX, hY, hk, h1, hL⟩
  simp only at hk hL
  have hXl : X.length = X1.length + X2.length := by rw [hX]; simp
  have hYl : Y.length = Y1.length + Y2.length := by rw [hY]; simp
  simp only [slices_swapRangeCmpFunc_impl_Edge__impl_MatchingOf_1_b0, go_sem]
  refine ⟨fun hc => ?_, fun hc => ?_⟩
  · rcases X2 with _ | ⟨x, X2⟩
    · simp only [List.length_nil] at hXl; omega
    rcases Y2 with _ | ⟨y, Y2⟩
    · simp only [List.length_nil, List.length_cons] at hXl hYl; omega
    simp only [List.length_cons] at hXl hYl
    have hL' : L = (P ++ Y1) ++ x :: ((X2 ++ (M ++ X1)) ++ y :: (Y2 ++ Q)) := by rw [hL]; simp
    have hl : L.length = P.length + X.length + M.length + Y.length + Q.length := by rw [hL]; simp; omega
    rw [swp hL' (i := (a + k).toNat) (j := (b + k).toNat) (by simp; omega) (by simp; omega)]
    simp only [List.length_set, hl]
    exact ⟨by omega, by omega, by omega, by omega, by omega, by omega, (k + 1, _), ⟨X1 ++ [x], X2, Y1 ++ [y], Y2, by rw [hX]; simp, by rw [hY]; simp, by simp; omega, by simp; omega, by simp⟩, by simp only; omega, Prod.ext (by simp only; omega) rfl⟩
  · have h2 : X2 = [] := List.eq_nil_of_length_eq_zero (by omega)
    have h3 : Y2 = [] := List.eq_nil_of_length_eq_zero (by omega)
    subst h2 h3
    simp only [List.append_nil] at hX hY
    rw [hL, hX, hY]; simp
theorem rot_ok {P A B Q : List (Int × Int × Int)} {a m b : Int} (ha : a = P.length) (hm : m = P.length + A.length) (hb : b = P.length + A.length + B.length) (hA : 0 < A.length) (hB : 0 < B.length) (hx : P.length + A.length + B.length + Q.length ≤ 1000000000) :
    slices_rotateCmpFunc_impl_Edge__impl_MatchingOf_1 (P ++ (A ++ (B ++ Q))) a m b = some (P ++ (B ++ (A ++ Q))) := by
  refine gives_eq.1 ?_
  unfold slices_rotateCmpFunc_impl_Edge__impl_MatchingOf_1
  simp only [go_sem]
  refine ⟨by omega, by omega, ?_⟩
  have := gives_loop (Q := fun r : Int × List (Int × Int × Int) => ∃ C1 U V C2, r = ((U.length : Int), P ++ (C1 ++ (U ++ (V ++ (C2 ++ Q))))) ∧ U.length = V.length ∧ C1.length + U.length = A.length ∧ C1 ++ (V ++ (U ++ C2)) = B ++ A) (body := slices_rotateCmpFunc_impl_Edge__impl_MatchingOf_1_b0 m)
    (fun s : Nat × Nat × List (Int × Int × Int) => ((s.1 : Int), (s.2.1 : Int), s.2.2)) (fun s => ∃ C1 U V C2, s.1 = U.length ∧ s.2.1 = V.length ∧ 0 < U.length ∧ 0 < V.length ∧ s.2.2 = P ++ (C1 ++ (U ++ (V ++ (C2 ++ Q)))) ∧ C1.length + U.length = A.length ∧ C1 ++ (V ++ (U ++ C2)) = B ++ A) (fun s => s.1 + s.2.1) ?_
    (A.length, B.length, P ++ (A ++ (B ++ Q))) ⟨[], A, B, [], rfl, rfl, hA, hB, by simp, by simp, by simp⟩
  · simp only at this
    rw [show m - a = (A.length : Int) by omega, show b - m = (B.length : Int) by omega]
    refine this.mono ?_
    rintro _ ⟨C1, U, V, C2, rfl, hUV, hC, hE⟩
    have hl := congrArg List.length hE
    simp only [List.length_append] at hl
    simp only
    refine ⟨by omega, ?_⟩
    have h2 := swr_ok (P := P ++ C1) (X := U) (M := []) (Y := V) (Q := C2 ++ Q) (a := m - U.length) (b := m) (n := U.length) (by simp; omega) (by simp; omega) rfl hUV.symm (by simp; omega)
    simp only [List.append_assoc, List.nil_append] at h2
    rw [h2]
    refine gives_some.2 ?_
    have h3 : P ++ ((B ++ A) ++ Q) = P ++ (B ++ (A ++ Q)) := by simp
    rw [← h3, ← hE]; simp
  rintro ⟨i, j, L⟩ ⟨C1, U, V, C2, hi, hj, hU, hV, hL, hC, hE⟩
  simp only at hi hj hL
  have hl := congrArg List.length hE
  simp only [List.length_append] at hl
  simp only [slices_rotateCmpFunc_impl_Edge__impl_MatchingOf_1_b0, go_sem]
  refine ⟨fun hne => ⟨fun hlt => ⟨by omega, ?_⟩, fun hlt => ⟨by omega, by omega, by omega, ?_⟩⟩, fun he => ⟨C1, U, V, C2, by rw [hL, hi], by omega, hC, hE⟩⟩
  · obtain ⟨U1, U2, hU12, hU1⟩ : ∃ U1 U2, U = U1 ++ U2 ∧ U1.length = V.length := ⟨U.take V.length, U.drop V.length, (List.take_append_drop ..).symm, by simp; omega⟩
    subst hU12
    simp only [List.length_append] at hi hU hC hl
    have h2 := swr_ok (P := P ++ C1) (X := U1) (M := U2) (Y := V) (Q := C2 ++ Q) (a := m - i) (b := m) (n := j) (by simp; omega) (by simp; omega) (by omega) (by omega) (by simp; omega)
    simp only [List.append_assoc, List.nil_append] at h2
    rw [hL]
    simp only [List.append_assoc]
    rw [h2]
    exact gives_some.2 ⟨by omega, (i - j, j, _), ⟨C1 ++ V, U2, U1, C2, by simp only; omega, by simp only; omega, by omega, by omega, by simp, by simp; omega, by rw [← hE]; simp⟩, by simp only; omega, Prod.ext (by simp only; omega) rfl⟩
  · obtain ⟨V1, V2, hV12, hV2⟩ : ∃ V1 V2, V = V1 ++ V2 ∧ V2.length = U.length := ⟨V.take (V.length - U.length), V.drop (V.length - U.length), (List.take_append_drop ..).symm, by simp; omega⟩
    subst hV12
    simp only [List.length_append] at hj hV hl
    have h2 := swr_ok (P := P ++ C1) (X := U) (M := V1) (Y := V2) (Q := C2 ++ Q) (a := m - i) (b := m + j - i) (n := i) (by simp; omega) (by simp; omega) (by omega) (by omega) (by simp; omega)
    simp only [List.append_assoc, List.nil_append] at h2
    rw [hL]
    simp only [List.append_assoc]
    rw [h2]
    exact gives_some.2 ⟨by omega, (i, j - i, _), ⟨C1, V2, V1, U ++ C2, by simp only; omega, by simp only; omega, by omega, by omega, by simp, by omega, by rw [← hE]; simp⟩, by simp only; omega, Prod.ext rfl (Prod.ext (by simp only; omega) rfl)⟩

/-! Merging in place. -/
theorem half_eq {i j : Nat} (h : i + j < 4294967296) : (IntKind.u64.wrap ((i : Int) + (j : Int))).fdiv 2 = (((i + j) / 2 : Nat) : Int) := by
  rw [wrap_u64 (by omega) (by omega), Int.fdiv_eq_ediv_of_nonneg _ (by omega)]
  omega
theorem bsearch {p : Nat → Prop} {lo hi : Nat} {l h : Int} {body : Int × Int → Option ((Int × Int) ⊕ Int)} (hl : l = lo) (hh : h = hi) (hle : lo ≤ hi)
    (hb : ∀ i j : Nat, lo ≤ i → j ≤ hi → i < j → gives (body ((i : Int), (j : Int))) fun r => ((p ((i + j) / 2) ∧ r = .inl ((((i + j) / 2 : Nat) : Int) + 1, (j : Int))) ∨ (¬ p ((i + j) / 2) ∧ r = .inl ((i : Int), (((i + j) / 2 : Nat) : Int)))))
    (he : ∀ i j : Nat, ¬ i < j → body ((i : Int), (j : Int)) = some (.inr (i : Int))) :
    gives (loop body (l, h)) fun r => ∃ k : Nat, r = k ∧ lo ≤ k ∧ k ≤ hi ∧ (lo < k → p (k - 1)) ∧ (k < hi → ¬ p k) := by
  subst hl hh
  refine gives_loop (fun s : Nat × Nat => ((s.1 : Int), (s.2 : Int))) (fun s => lo ≤ s.1 ∧ s.1 ≤ s.2 ∧ s.2 ≤ hi ∧ (lo < s.1 → p (s.1 - 1)) ∧ (s.2 < hi → ¬ p s.2)) (fun s => s.2 - s.1) ?_ (lo, hi) ⟨Nat.le_refl _, hle, Nat.le_refl _, fun h => absurd h (Nat.lt_irrefl _), fun h => absurd h (Nat.lt_irrefl _)⟩
  rintro ⟨i, j⟩ ⟨h1, h2, h3, h4, h5⟩
  simp only at h1 h2 h3 h4 h5
  by_cases hij : i < j
  · refine (hb i j h1 h3 hij).mono ?_
    rintro _ (⟨hp, rfl⟩ | ⟨hp, rfl⟩)
    · exact ⟨((i + j) / 2 + 1, j), ⟨by simp only; omega, by simp only; omega, h3, fun _ => hp, h5⟩, by simp only; omega, rfl⟩
    · exact ⟨(i, (i + j) / 2), ⟨h1, by simp only; omega, by simp only; omega, h4, fun _ => hp⟩, by simp only; omega, rfl⟩
  · rw [he i j hij]
    have hij' : i = j := by omega
    subst hij'
    exact gives_some.2 ⟨i, rfl, h1, h3, h4, h5⟩
theorem spl {P B R L : List (Int × Int × Int)} {k : Nat} (hL : L = P ++ (B ++ R)) (h1 : P.length ≤ k) (h2 : k ≤ P.length + B.length) (hs : Srt B) :
    ∃ B1 B2, B = B1 ++ B2 ∧ k = P.length + B1.length ∧ (∀ z ∈ B1, (L.getD (k - 1) (0, 0, 0)).2.2 ≤ z.2.2) ∧ (∀ z ∈ B2, z.2.2 ≤ (L.getD k (0, 0, 0)).2.2) := by
  obtain ⟨B1, B2, hB, hl⟩ : ∃ B1 B2, B = B1 ++ B2 ∧ B1.length = k - P.length := ⟨B.take (k - P.length), B.drop (k - P.length), (List.take_append_drop ..).symm, by simp; omega⟩
  subst hB
  have hs' := Srt.append.1 hs
  refine ⟨B1, B2, rfl, by omega, ?_, ?_⟩
  · rcases List.eq_nil_or_concat B1 with h | ⟨B1', y, h⟩
    · subst h; simp
    · rw [List.concat_eq_append] at h
      subst h
      simp only [List.length_append, List.length_cons, List.length_nil] at hl
      have e : L.getD (k - 1) (0, 0, 0) = y := by
        rw [hL, show P ++ (((B1' ++ [y]) ++ B2) ++ R) = (P ++ B1') ++ y :: (B2 ++ R) by simp]; exact gD (by simp; omega)
      rw [e]
      intro z hz
      rcases List.mem_append.1 hz with hz | hz
      · exact (Srt.append.1 hs'.1).2.2 z hz y (by simp)
      · simp only [List.mem_singleton] at hz; subst hz; exact Int.le_refl _
  · rcases B2 with _ | ⟨y, B2⟩
    · simp
    · have e : L.getD k (0, 0, 0) = y := by
        rw [hL, show P ++ ((B1 ++ y :: B2) ++ R) = (P ++ B1) ++ y :: (B2 ++ R) by simp]; exact gD (by simp; omega)
      rw [e]
      intro z hz
      rcases List.mem_cons.1 hz with hz | hz
      · subst hz; exact Int.le_refl _
      · exact (List.pairwise_cons.1 hs'.2.1).1 z hz
theorem sm_one {P B Q : List (Int × Int × Int)} {x : Int × Int × Int} {a m b : Int} (ha : a = P.length) (hm : m = P.length + 1) (hb : b = P.length + 1 + B.length) (hs : Srt B) (hx : P.length + 1 + B.length + Q.length ≤ 1000000000) :
    gives (loop (slices_symMergeCmpFunc_impl_Edge__impl_MatchingOf_1_b0 (P ++ x :: (B ++ Q)) a) (m, b)) fun t => gives (loop (slices_symMergeCmpFunc_impl_Edge__impl_MatchingOf_1_b1 t) (a, P ++ x :: (B ++ Q))) fun r => ∃ C, r = P ++ (C ++ Q) ∧ C.length = B.length + 1 ∧ Srt C ∧ Eqv C (x :: B) := by
  have ea : (P ++ x :: (B ++ Q)).getD a.toNat (0, 0, 0) = x := gD (by omega)
  have hl : (P ++ x :: (B ++ Q)).length = P.length + 1 + B.length + Q.length := by simp; omega
  refine (bsearch (p := fun h => x.2.2 < ((P ++ x :: (B ++ Q)).getD h (0, 0, 0)).2.2) (lo := P.length + 1) (hi := P.length + 1 + B.length) (by omega) (by omega) (by omega) ?_ ?_).mono ?_
  · intro i j h1 h2 h3
    simp only [slices_symMergeCmpFunc_impl_Edge__impl_MatchingOf_1_b0, half_eq (i := i) (j := j) (by omega), go_sem, hl, ea, cmpI_neg]
    exact ⟨fun _ => ⟨by omega, by omega, by omega, by omega, fun h => ⟨by omega, .inl ⟨h, trivial⟩⟩, fun h => .inr ⟨h, trivial⟩⟩, fun h => absurd h (by omega)⟩
  · intro i j h
    simp only [slices_symMergeCmpFunc_impl_Edge__impl_MatchingOf_1_b0, decide_eq_true_eq]
    rw [if_neg (by omega)]
  rintro _ ⟨k, rfl, h1, h2, h3, h4⟩
  obtain ⟨B1, B2, hB, hk, h5, h6⟩ := spl (P := P ++ [x]) (B := B) (R := Q) (L := P ++ x :: (B ++ Q)) (k := k) (by simp) (by simp; omega) (by simp; omega) hs
  simp only [List.length_append, List.length_cons, List.length_nil] at hk
  have hBl : B.length = B1.length + B2.length := by rw [hB]; simp
  have h7 : ∀ z ∈ B1, x.2.2 < z.2.2 := fun z hz => by
    have := List.length_pos_of_mem hz
    have := h3 (by omega)
    have := h5 z hz
    omega
  have h8 : ∀ z ∈ B2, z.2.2 ≤ x.2.2 := fun z hz => by
    have := List.length_pos_of_mem hz
    have := h4 (by omega)
    have := h6 z hz
    omega
  have hs' := Srt.append.1 (hB ▸ hs)
  have := gives_loop (Q := fun r => ∃ C, r = P ++ (C ++ Q) ∧ C.length = B.length + 1 ∧ Srt C ∧ Eqv C (x :: B)) (body := slices_symMergeCmpFunc_impl_Edge__impl_MatchingOf_1_b1 (k : Int)) (fun s : Nat × List (Int × Int × Int) => ((s.1 : Int), s.2)) (fun s => ∃ D1 D2, B1 = D1 ++ D2 ∧ s.2 = P ++ (D1 ++ x :: (D2 ++ (B2 ++ Q))) ∧ s.1 = P.length + D1.length) (fun s => k - s.1) ?_ (P.length, P ++ x :: (B ++ Q)) ⟨[], B1, rfl, by rw [hB]; simp, rfl⟩
  · rw [ha]; exact this
  rintro ⟨j, L⟩ ⟨D1, D2, hD, hL, hj⟩
  simp only at hL hj
  have hDl : B1.length = D1.length + D2.length := by rw [hD]; simp
  simp only [slices_symMergeCmpFunc_impl_Edge__impl_MatchingOf_1_b1, go_sem]
  refine ⟨by omega, fun hc => ?_, fun hc => ?_⟩
  · rcases D2 with _ | ⟨y, D2⟩
    · simp only [List.length_nil] at hDl; omega
    have hL' : L = (P ++ D1) ++ x :: ([] ++ y :: (D2 ++ (B2 ++ Q))) := by rw [hL]; simp
    have hl' : L.length = P.length + 1 + B.length + Q.length := by rw [hL]; simp; simp only [List.length_cons] at hDl; omega
    rw [swp hL' (i := j) (j := ((j : Int) + 1).toNat) (by simp; omega) (by simp; omega)]
    simp only [List.length_set, hl']
    exact ⟨by omega, by omega, by omega, by omega, by omega, (j + 1, _), ⟨D1 ++ [y], D2, by rw [hD]; simp, by simp, by simp; omega⟩, by simp only; omega, Prod.ext (by simp only; omega) rfl⟩
  · have h9 : D2 = [] := List.eq_nil_of_length_eq_zero (by omega)
    subst h9
    simp only [List.append_nil, List.nil_append] at hD hL
    subst hD
    refine ⟨B1 ++ x :: B2, by rw [hL]; simp, by simp; omega, Srt.append.2 ⟨hs'.1, List.pairwise_cons.2 ⟨h8, hs'.2.1⟩, fun u hu v hv => ?_⟩, ?_⟩
    · rcases List.mem_cons.1 hv with e | e
      · subst e; have := h7 u hu; omega
      · exact hs'.2.2 u hu v e
    · rw [hB, show B1 ++ x :: B2 = (B1 ++ [x]) ++ B2 by simp, show x :: (B1 ++ B2) = ([x] ++ B1) ++ B2 by simp]
      refine Eqv.app (Eqv.swap fun u hu v hv => ?_) Eqv.rfl'
      simp only [List.mem_singleton] at hv; subst hv
      have := h7 u hu; omega
theorem sm_last {P A Q : List (Int × Int × Int)} {x : Int × Int × Int} {a m : Int} (ha : a = P.length) (hm : m = P.length + A.length) (hs : Srt A) (hx : P.length + 1 + A.length + Q.length ≤ 1000000000) :
    gives (loop (slices_symMergeCmpFunc_impl_Edge__impl_MatchingOf_1_b2 (P ++ (A ++ x :: Q)) m) (a, m)) fun t => gives (loop (slices_symMergeCmpFunc_impl_Edge__impl_MatchingOf_1_b3 t) (m, P ++ (A ++ x :: Q))) fun r => ∃ C, r = P ++ (C ++ Q) ∧ C.length = A.length + 1 ∧ Srt C ∧ Eqv C (A ++ [x]) := by
  have ea : (P ++ (A ++ x :: Q)).getD m.toNat (0, 0, 0) = x := by rw [← List.append_assoc]; exact gD (by simp; omega)
  have hl : (P ++ (A ++ x :: Q)).length = P.length + 1 + A.length + Q.length := by simp; omega
  refine (bsearch (p := fun h => x.2.2 ≤ ((P ++ (A ++ x :: Q)).getD h (0, 0, 0)).2.2) (lo := P.length) (hi := P.length + A.length) (by omega) (by omega) (by omega) ?_ ?_).mono ?_
  · intro i j h1 h2 h3
    simp only [slices_symMergeCmpFunc_impl_Edge__impl_MatchingOf_1_b2, half_eq (i := i) (j := j) (by omega), go_sem, hl, ea, cmpI_neg]
    exact ⟨fun _ => ⟨by omega, by omega, by omega, by omega, fun h => ⟨by omega, .inl ⟨by omega, trivial⟩⟩, fun h => .inr ⟨by omega, trivial⟩⟩, fun h => absurd h (by omega)⟩
  · intro i j h
    simp only [slices_symMergeCmpFunc_impl_Edge__impl_MatchingOf_1_b2, decide_eq_true_eq]
    rw [if_neg (by omega)]
  rintro _ ⟨k, rfl, h1, h2, h3, h4⟩
  obtain ⟨A1, A2, hA, hk, h5, h6⟩ := spl (P := P) (B := A) (R := x :: Q) (L := P ++ (A ++ x :: Q)) (k := k) rfl h1 h2 hs
  have hAl : A.length = A1.length + A2.length := by rw [hA]; simp
  have h7 : ∀ z ∈ A1, x.2.2 ≤ z.2.2 := fun z hz => by
    have := List.length_pos_of_mem hz
    have := h3 (by omega)
    have := h5 z hz
    omega
  have h8 : ∀ z ∈ A2, z.2.2 < x.2.2 := fun z hz => by
    have := List.length_pos_of_mem hz
    have := h4 (by omega)
    have := h6 z hz
    omega
  have hs' := Srt.append.1 (hA ▸ hs)
  have := gives_loop (Q := fun r => ∃ C, r = P ++ (C ++ Q) ∧ C.length = A.length + 1 ∧ Srt C ∧ Eqv C (A ++ [x])) (body := slices_symMergeCmpFunc_impl_Edge__impl_MatchingOf_1_b3 (k : Int)) (fun s : Nat × List (Int × Int × Int) => ((s.1 : Int), s.2)) (fun s => ∃ D1 D2, A2 = D1 ++ D2 ∧ s.2 = P ++ (A1 ++ (D1 ++ x :: (D2 ++ Q))) ∧ s.1 = k + D1.length) (fun s => s.1) ?_ (P.length + A.length, P ++ (A ++ x :: Q)) ⟨A2, [], by simp, by rw [hA]; simp, by simp only; omega⟩
  · rw [show m = ((P.length + A.length : Nat) : Int) by omega]; exact this
  rintro ⟨j, L⟩ ⟨D1, D2, hD, hL, hj⟩
  simp only at hL hj
  have hDl : A2.length = D1.length + D2.length := by rw [hD]; simp
  simp only [slices_symMergeCmpFunc_impl_Edge__impl_MatchingOf_1_b3, go_sem]
  refine ⟨fun hc => ?_, fun hc => ?_⟩
  · rcases List.eq_nil_or_concat D1 with h | ⟨D1', y, h⟩
    · subst h; simp only [List.length_nil] at hj; omega
    rw [List.concat_eq_append] at h
    subst h
    simp only [List.length_append, List.length_cons, List.length_nil] at hj hDl
    have e3 : ((j : Int) - 1).toNat = j - 1 := by omega
    have hL' : L = (P ++ (A1 ++ D1')) ++ y :: ([] ++ x :: (D2 ++ Q)) := by rw [hL]; simp
    have hl' : L.length = P.length + 1 + A.length + Q.length := by rw [hL]; simp; omega
    rw [e3, swp' hL' (i := j - 1) (j := j) (by simp; omega) (by simp; omega)]
    simp only [List.length_set, hl']
    exact ⟨by omega, by omega, by omega, by omega, by omega, (j - 1, _), ⟨D1', y :: D2, by rw [hD]; simp, by simp, by simp only; omega⟩, by simp only; omega, Prod.ext (by simp only; omega) rfl⟩
  · have h9 : D1 = [] := List.eq_nil_of_length_eq_zero (by omega)
    subst h9
    simp only [List.append_nil, List.nil_append] at hD hL
    subst hD
    refine ⟨A1 ++ x :: A2, by rw [hL]; simp, by simp; omega, Srt.append.2 ⟨hs'.1, List.pairwise_cons.2 ⟨fun z hz => by have := h8 z hz; omega, hs'.2.1⟩, fun u hu v hv => ?_⟩, ?_⟩
    · rcases List.mem_cons.1 hv with e | e
      · subst e; exact h7 u hu
      · exact hs'.2.2 u hu v e
    · rw [hA, show A1 ++ x :: A2 = A1 ++ ([x] ++ A2) by simp, List.append_assoc]
      refine Eqv.app Eqv.rfl' (Eqv.swap fun u hu v hv => ?_)
      simp only [List.mem_singleton] at hu; subst hu
      have := h8 v hv; omega
theorem gives_join_ib {A X : Type} {c : Prop} [Decidable c] {x : Option A} {L : A} {K : A → Option X} {R : A → Prop} {Q : X → Prop} (h1 : c → gives x R) (h2 : ¬ c → R L) (hk : ∀ v, R v → gives (K v) Q) :
    gives (join (fun k : A → Option X => if c then x.bind (fun y => k y) else k L) K) Q := by
  rw [gives_join, gives_ite, gives_bind]
  exact ⟨fun h => (h1 h).mono hk, fun h => hk _ (h2 h)⟩
theorem gives_join_ci {V X : Type} {c p : Prop} [Decidable c] [Decidable p] {v w : V} {K : V → Option X} {Q : X → Prop} (h1 : c → p) (hk : ∀ u, (c → u = v) → (¬ c → u = w) → gives (K u) Q) :
    gives (join (fun k : V → Option X => if c then chk p (k v) else k w) K) Q := by
  rw [gives_join, gives_ite, gives_chk]
  exact ⟨fun h => ⟨h1 h, hk _ (fun _ => rfl) fun h' => absurd h h'⟩, fun h => hk _ (fun h' => absurd h' h) fun _ => rfl⟩
theorem sm_cut {P A B Q L : List (Int × Int × Int)} {a m b c lo hi : Nat} (hL : L = P ++ (A ++ (B ++ Q))) (ha : a = P.length) (hm : m = P.length + A.length) (hb : b = m + B.length) (hc : c = (a + b) / 2)
    (hA : 0 < A.length) (hB : 0 < B.length) (sA : Srt A) (sB : Srt B) (hx : b + Q.length ≤ 1000000000)
    (f1 : a ≤ lo) (f2 : lo ≤ hi) (f3 : hi ≤ m) (f4 : hi ≤ c) (f5 : c + m ≤ b + lo) (f6 : lo = a ∨ lo + b = c + m) (f7 : hi = m ∨ hi = c) :
    gives (loop (slices_symMergeCmpFunc_impl_Edge__impl_MatchingOf_1_b4 L a m b) ((lo : Int), (hi : Int))) fun t => ∃ s : Nat, t = s ∧ ∃ A1 A2 B1 B2, A = A1 ++ A2 ∧ B = B1 ++ B2 ∧ s = a + A1.length ∧ c + m = s + (m + B1.length) ∧ (∀ z ∈ A1, ∀ u ∈ B2, u.2.2 ≤ z.2.2) ∧ (∀ z ∈ A2, ∀ u ∈ B1, z.2.2 < u.2.2) := by
  have hl : L.length = b + Q.length := by rw [hL]; simp; omega
  refine (bsearch (p := fun h => (L.getD (c + m - 1 - h) (0, 0, 0)).2.2 ≤ (L.getD h (0, 0, 0)).2.2) rfl rfl f2 ?_ ?_).mono ?_
  · intro i j h1 h2 h3
    have e : ((((c : Int) + m) - 1) - (((i + j) / 2 : Nat) : Int)).toNat = c + m - 1 - (i + j) / 2 := by omega
    simp only [slices_symMergeCmpFunc_impl_Edge__impl_MatchingOf_1_b4, half_eq (i := i) (j := j) (by omega), half_eq (i := a) (j := b) (by omega), ← hc, go_sem, hl, cmpI_neg, e]
    exact ⟨fun _ => ⟨by omega, by omega, by omega, by omega, by omega, fun h => ⟨by omega, .inl ⟨by omega, trivial⟩⟩, fun h => .inr ⟨by omega, trivial⟩⟩, fun h => absurd h (by omega)⟩
  · intro i j h
    simp only [slices_symMergeCmpFunc_impl_Edge__impl_MatchingOf_1_b4, decide_eq_true_eq]
    rw [if_neg (by omega)]
  rintro _ ⟨s, rfl, h1, h2, h3, h4⟩
  obtain ⟨A1, A2, hA12, hs, h5, h6⟩ := spl (P := P) (B := A) (R := B ++ Q) (L := L) (k := s) hL (by omega) (by omega) sA
  obtain ⟨B1, B2, hB12, he, h7, h8⟩ := spl (P := P ++ A) (B := B) (R := Q) (L := L) (k := c + m - s) (by rw [hL]; simp) (by simp; omega) (by simp; omega) sB
  simp only [List.length_append] at he
  have hAl : A.length = A1.length + A2.length := by rw [hA12]; simp
  have hBl : B.length = B1.length + B2.length := by rw [hB12]; simp
  refine ⟨s, rfl, A1, A2, B1, B2, hA12, hB12, by omega, by omega, fun z hz u hu => ?_, fun z hz u hu => ?_⟩
  · have g1 := List.length_pos_of_mem hz
    have g2 := List.length_pos_of_mem hu
    have g3 := h3 (by omega)
    rw [show c + m - 1 - (s - 1) = c + m - s by omega] at g3
    have := h5 z hz
    have := h8 u hu
    omega
  · have g1 := List.length_pos_of_mem hz
    have g2 := List.length_pos_of_mem hu
    have g3 := h4 (by omega)
    rw [show c + m - 1 - s = c + m - s - 1 by omega] at g3
    have := h6 z hz
    have := h7 u hu
    omega
theorem sm_f : ∀ (nf : Nat) {P A B Q : List (Int × Int × Int)} {a m b : Nat}, a = P.length → m = P.length + A.length → b = m + B.length → 0 < A.length → 0 < B.length → Srt A → Srt B → A.length + B.length < nf → b + Q.length ≤ 1000000000 →
    gives (slices_symMergeCmpFunc_impl_Edge__impl_MatchingOf_1_f nf (P ++ (A ++ (B ++ Q))) (a : Int) (m : Int) (b : Int)) fun r => ∃ C, r = P ++ (C ++ Q) ∧ C.length = A.length + B.length ∧ Srt C ∧ Eqv C (A ++ B) := by
  intro nf
  induction nf with
  | zero => intros; omega
  | succ nf ih =>
  intro P A B Q a m b ha hm hb hA hB sA sB hn hx
  obtain ⟨c, hc⟩ : ∃ c, c = (a + b) / 2 := ⟨_, rfl⟩
  simp only [slices_symMergeCmpFunc_impl_Edge__impl_MatchingOf_1_f, half_eq (i := a) (j := b) (by omega), ← hc]
  rw [gives_chk, gives_ite]
  refine ⟨by omega, fun h1 => ?_, fun h1 => ?_⟩
  · simp only [beq_iff_eq] at h1
    obtain ⟨x, rfl⟩ : ∃ x, A = [x] := List.length_eq_one_iff.1 (by omega)
    simp only [List.length_cons, List.length_nil] at hm
    rw [gives_bind]
    refine (sm_one (P := P) (B := B) (Q := Q) (x := x) (a := a) (m := m) (b := b) (by omega) (by omega) (by omega) sB (by omega)).mono fun t ht => ?_
    rw [gives_bind]
    exact ht.mono fun r ⟨C, g1, g2, g3, g4⟩ => gives_some.2 ⟨C, g1, by rw [g2]; simp; omega, g3, g4⟩
  rw [gives_chk, gives_ite]
  refine ⟨by omega, fun h2 => ?_, fun h2 => ?_⟩
  · simp only [beq_iff_eq] at h2
    obtain ⟨x, rfl⟩ : ∃ x, B = [x] := List.length_eq_one_iff.1 (by omega)
    simp only [List.length_cons, List.length_nil] at hb
    rw [gives_bind]
    refine (sm_last (P := P) (A := A) (Q := Q) (x := x) (a := a) (m := m) (by omega) (by omega) sA (by omega)).mono fun t ht => ?_
    rw [gives_bind]
    exact ht.mono fun r ⟨C, g1, g2, g3, g4⟩ => gives_some.2 ⟨C, g1, by rw [g2]; simp, g3, g4⟩
  simp only [beq_iff_eq] at h1 h2
  rw [gives_chk, gives_chk, gives_chk]
  refine ⟨by omega, by omega, by omega, ?_⟩
  refine gives_join_ci (fun h => by simp only [decide_eq_true_eq] at h; omega) ?_
  rintro ⟨t20, t21⟩ u1 u2
  simp only [decide_eq_true_eq, Prod.mk.injEq] at u1 u2
  obtain ⟨lo, hi, e1, e2, f1, f2, f3, f4, f5, f6, f7⟩ : ∃ lo hi : Nat, t20 = lo ∧ t21 = hi ∧ a ≤ lo ∧ lo ≤ hi ∧ hi ≤ m ∧ hi ≤ c ∧ c + m ≤ b + lo ∧ (lo = a ∨ lo + b = c + m) ∧ (hi = m ∨ hi = c) := by
    by_cases h3 : (c : Int) < m
    · have := u1 h3
      exact ⟨c + m - b, c, by omega, by omega, by omega, by omega, by omega, by omega, by omega, by omega, by omega⟩
    · have := u2 h3
      exact ⟨a, m, by omega, by omega, by omega, by omega, by omega, by omega, by omega, by omega, by omega⟩
  subst e1 e2
  simp only
  rw [gives_chk, gives_bind]
  refine ⟨by omega, ?_⟩
  refine (sm_cut rfl ha hm hb hc hA hB sA sB hx f1 f2 f3 f4 f5 f6 f7).mono ?_
  rintro _ ⟨s, rfl, A1, A2, B1, B2, hA12, hB12, hs, he, g1, g2⟩
  have hAl : A.length = A1.length + A2.length := by rw [hA12]; simp
  have hBl : B.length = B1.length + B2.length := by rw [hB12]; simp
  have sA' := Srt.append.1 (hA12 ▸ sA)
  have sB' := Srt.append.1 (hB12 ▸ sB)
  have hE : (c : Int) + m - s = ((m + B1.length : Nat) : Int) := by omega
  rw [gives_chk, hE]
  refine ⟨by omega, ?_⟩
  refine gives_join_ib (R := fun v => v = P ++ (A1 ++ (B1 ++ (A2 ++ (B2 ++ Q))))) (fun h => ?_) (fun h => ?_) ?_
  · simp only [Bool.and_eq_true, decide_eq_true_eq] at h
    have := rot_ok (P := P ++ A1) (A := A2) (B := B1) (Q := B2 ++ Q) (a := s) (m := m) (b := ((m + B1.length : Nat) : Int)) (by simp; omega) (by simp; omega) (by simp; omega) (by omega) (by omega) (by simp; omega)
    rw [hA12, hB12]
    simp only [List.append_assoc] at this ⊢
    rw [this]
    exact gives_some.2 rfl
  · simp only [Bool.and_eq_true, decide_eq_true_eq] at h
    rw [hA12, hB12]
    by_cases h3 : A2.length = 0
    · have := List.eq_nil_of_length_eq_zero h3; subst this; simp
    · have := List.eq_nil_of_length_eq_zero (l := B1) (by omega); subst this; simp
  rintro _ rfl
  refine gives_join_ib (R := fun v => ∃ C1, v = P ++ (C1 ++ (A2 ++ (B2 ++ Q))) ∧ C1.length = A1.length + B1.length ∧ Srt C1 ∧ Eqv C1 (A1 ++ B1)) (fun h => ?_) (fun h => ?_) ?_
  · simp only [Bool.and_eq_true, decide_eq_true_eq] at h
    exact ih (P := P) (A := A1) (B := B1) (Q := A2 ++ (B2 ++ Q)) (a := a) (m := s) (b := c) ha (by omega) (by omega) (by omega) (by omega) sA'.1 sB'.1 (by omega) (by simp; omega)
  · simp only [Bool.and_eq_true, decide_eq_true_eq] at h
    refine ⟨A1 ++ B1, by simp, by simp, ?_, Eqv.rfl'⟩
    by_cases h3 : A1.length = 0
    · have := List.eq_nil_of_length_eq_zero h3; subst this; exact sB'.1
    · have := List.eq_nil_of_length_eq_zero (l := B1) (by omega); subst this; simpa using sA'.1
  rintro _ ⟨C1, rfl, k1, k2, k3⟩
  have hfin : ∀ C2 : List (Int × Int × Int), C2.length = A2.length + B2.length → Srt C2 → Eqv C2 (A2 ++ B2) → ∃ C, P ++ (C1 ++ (C2 ++ Q)) = P ++ (C ++ Q) ∧ C.length = A.length + B.length ∧ Srt C ∧ Eqv C (A ++ B) := fun C2 l1 l2 l3 => by
    refine ⟨C1 ++ C2, by simp, by simp; omega, Srt.append.2 ⟨k2, l2, fun z hz u hu => ?_⟩, ?_⟩
    · have z1 := (k3.mem z).1 hz
      have z2 := (l3.mem u).1 hu
      rcases List.mem_append.1 z1 with z1 | z1 <;> rcases List.mem_append.1 z2 with z2 | z2
      · exact sA'.2.2 z z1 u z2
      · exact g1 z z1 u z2
      · have := g2 u z2 z z1; omega
      · exact sB'.2.2 z z1 u z2
    · refine (k3.app l3).trans ?_
      rw [hA12, hB12, show (A1 ++ B1) ++ (A2 ++ B2) = A1 ++ ((B1 ++ A2) ++ B2) by simp, show (A1 ++ A2) ++ (B1 ++ B2) = A1 ++ ((A2 ++ B1) ++ B2) by simp]
      exact Eqv.app Eqv.rfl' (Eqv.app (Eqv.swap fun u hu v hv => by have := g2 v hv u hu; omega) Eqv.rfl')
  rw [gives_ite]
  refine ⟨fun h => ?_, fun h => ?_⟩
  · simp only [Bool.and_eq_true, decide_eq_true_eq] at h
    rw [gives_bind]
    have := ih (P := P ++ C1) (A := A2) (B := B2) (Q := Q) (a := c) (m := m + B1.length) (b := b) (by simp; omega) (by simp; omega) (by omega) (by omega) (by omega) sA'.2.1 sB'.2.1 (by omega) hx
    simp only [List.append_assoc] at this
    refine this.mono ?_
    rintro _ ⟨C2, rfl, l1, l2, l3⟩
    exact gives_some.2 (hfin C2 l1 l2 l3)
  · simp only [Bool.and_eq_true, decide_eq_true_eq] at h
    have hs2 : Srt (A2 ++ B2) := by
      by_cases h3 : A2.length = 0
      · have := List.eq_nil_of_length_eq_zero h3; subst this; exact sB'.2.1
      · have := List.eq_nil_of_length_eq_zero (l := B2) (by omega); subst this; simpa using sA'.2.1
    have := hfin (A2 ++ B2) (by simp) hs2 Eqv.rfl'
    simp only [List.append_assoc] at this
    exact gives_some.2 this
theorem sm_ok {P A B Q : List (Int × Int × Int)} {a m b : Nat} (ha : a = P.length) (hm : m = P.length + A.length) (hb : b = m + B.length) (hA : 0 < A.length) (hB : 0 < B.length) (sA : Srt A) (sB : Srt B) (hx : b + Q.length ≤ 1000000000) :
    ∃ C, slices_symMergeCmpFunc_impl_Edge__impl_MatchingOf_1 (P ++ (A ++ (B ++ Q))) (a : Int) (m : Int) (b : Int) = some (P ++ (C ++ Q)) ∧ C.length = A.length + B.length ∧ Srt C ∧ Eqv C (A ++ B) := by
  obtain ⟨_, h1, C, rfl, h2, h3, h4⟩ := sm_f (A.length + B.length + 1) ha hm hb hA hB sA sB (by omega) hx
  refine ⟨C, fixO_eq (A.length + B.length + 1) fun n hn => ?_, h2, h3, h4⟩
  obtain ⟨_, k1, D, rfl, k2, k3, k4⟩ := sm_f n ha hm hb hA hB sA sB (by omega) hx
  rw [k1, Srt.uniq k3 h3 (k4.trans h4.symm)]
theorem loop_inl {S X : Type} {body : S → Option (S ⊕ X)} {s s' : S} (h : body s = some (.inl s')) : loop body s = loop body s' := by rw [loop_eq, h]
theorem loop_inr {S X : Type} {body : S → Option (S ⊕ X)} {s : S} {x : X} (h : body s = some (.inr x)) : loop body s = some x := by rw [loop_eq, h]

/-! The whole sort. -/
theorem stable_ok {L : List (Int × Int × Int)} (h : L.length ≤ 40) : ∃ C, slices_stableCmpFunc_impl_Edge__impl_MatchingOf_1 L (L.length : Int) = some C ∧ C.length = L.length ∧ Srt C ∧ Eqv C L := by
  by_cases h20 : L.length < 20
  · obtain ⟨_, e, C, rfl, h1, h2, h3⟩ := ins_ok (P := []) (A := L) (R := []) (a := 0) (b := L.length) (by simp) (by simp) (by simp; omega)
    simp only [List.nil_append, List.append_nil] at e
    refine ⟨C, ?_, h1, h2, h3⟩
    unfold slices_stableCmpFunc_impl_Edge__impl_MatchingOf_1
    rw [loop_inr (x := (0, L)) (by simp only [slices_stableCmpFunc_impl_Edge__impl_MatchingOf_1_b0]; rw [if_neg (by simp; omega)]), Option.bind_some]
    dsimp only
    rw [e, Option.bind_some, loop_inr (x := C) (by simp only [slices_stableCmpFunc_impl_Edge__impl_MatchingOf_1_b2]; rw [if_neg (by simp; omega)]), Option.bind_some]
  obtain ⟨A, B, hL, hA⟩ : ∃ A B, L = A ++ B ∧ A.length = 20 := ⟨L.take 20, L.drop 20, (List.take_append_drop ..).symm, by simp; omega⟩
  have hl : L.length = 20 + B.length := by rw [hL]; simp; omega
  obtain ⟨_, e1, C1, rfl, a1, a2, a3⟩ := ins_ok (P := []) (A := A) (R := B) (a := 0) (b := 20) (by simp) (by simp; omega) (by simp; omega)
  simp only [List.nil_append, List.append_nil] at e1
  rw [← hL] at e1
  obtain ⟨_, e2, C2, rfl, b1, b2, b3⟩ := ins_ok (P := C1) (A := B) (R := []) (a := 20) (b := L.length) (by omega) (by omega) (by simp; omega)
  simp only [List.append_nil] at e2
  have s1 : slices_stableCmpFunc_impl_Edge__impl_MatchingOf_1_b0 (L.length : Int) (0, 20, L) = some (.inl (20, 20 + 20, C1 ++ B)) := by
    simp only [slices_stableCmpFunc_impl_Edge__impl_MatchingOf_1_b0]
    rw [if_pos (by simp; omega), e1, Option.bind_some, chk_pos (by omega)]
  have hEq : Eqv (C1 ++ C2) L := by rw [hL]; exact a3.app b3
  by_cases h40 : L.length < 40
  · have s2 : slices_stableCmpFunc_impl_Edge__impl_MatchingOf_1_b0 (L.length : Int) (20, 20 + 20, C1 ++ B) = some (.inr (20, C1 ++ B)) := by
      simp only [slices_stableCmpFunc_impl_Edge__impl_MatchingOf_1_b0]
      rw [if_neg (by simp; omega)]
    unfold slices_stableCmpFunc_impl_Edge__impl_MatchingOf_1
    rw [loop_inl s1, loop_inr s2, Option.bind_some]
    dsimp only
    rw [e2, Option.bind_some]
    by_cases hB : B.length = 0
    · have hC2 : C2 = [] := List.eq_nil_of_length_eq_zero (by omega)
      subst hC2
      rw [loop_inr (x := C1 ++ []) (by simp only [slices_stableCmpFunc_impl_Edge__impl_MatchingOf_1_b2]; rw [if_neg (by simp; omega)]), Option.bind_some]
      exact ⟨_, rfl, by simp; omega, by simpa using a2, hEq⟩
    · obtain ⟨C, m1, m2, m3, m4⟩ := sm_ok (P := []) (A := C1) (B := C2) (Q := []) (a := 0) (m := 20) (b := L.length) (by simp) (by simp; omega) (by omega) (by omega) (by omega) a2 b2 (by simp; omega)
      simp only [List.nil_append, List.append_nil] at m1
      have s3 : slices_stableCmpFunc_impl_Edge__impl_MatchingOf_1_b1 (L.length : Int) 20 (0, 2 * 20, C1 ++ C2) = some (.inr (0, C1 ++ C2)) := by
        simp only [slices_stableCmpFunc_impl_Edge__impl_MatchingOf_1_b1]
        rw [if_neg (by simp; omega)]
      have s4 : slices_stableCmpFunc_impl_Edge__impl_MatchingOf_1_b2 (L.length : Int) (20, C1 ++ C2) = some (.inl (20 * 2, C)) := by
        simp only [slices_stableCmpFunc_impl_Edge__impl_MatchingOf_1_b2]
        rw [if_pos (by simp; omega), chk_pos (by omega), loop_inr s3, Option.bind_some]
        dsimp only
        dsimp only [join]
        rw [chk_pos (by omega), if_pos (by simp; omega)]
        rw [show slices_symMergeCmpFunc_impl_Edge__impl_MatchingOf_1 (C1 ++ C2) 0 (0 + 20) (L.length : Int) = some C from m1, Option.bind_some, chk_pos (by omega)]
      rw [loop_inl s4, loop_inr (x := C) (by simp only [slices_stableCmpFunc_impl_Edge__impl_MatchingOf_1_b2]; rw [if_neg (by simp; omega)]), Option.bind_some]
      exact ⟨C, rfl, by omega, m3, m4.trans hEq⟩
  · have hb20 : B.length = 20 := by omega
    have e2' : slices_insertionSortCmpFunc_impl_Edge__impl_MatchingOf_1 (C1 ++ B) 20 (20 + 20) = some (C1 ++ C2) := by
      rw [show (20 + 20 : Int) = (L.length : Int) by omega]; exact e2
    have s2 : slices_stableCmpFunc_impl_Edge__impl_MatchingOf_1_b0 (L.length : Int) (20, 20 + 20, C1 ++ B) = some (.inl (20 + 20, 20 + 20 + 20, C1 ++ C2)) := by
      simp only [slices_stableCmpFunc_impl_Edge__impl_MatchingOf_1_b0]
      rw [if_pos (by simp; omega), e2', Option.bind_some, chk_pos (by omega)]
    have s3 : slices_stableCmpFunc_impl_Edge__impl_MatchingOf_1_b0 (L.length : Int) (20 + 20, 20 + 20 + 20, C1 ++ C2) = some (.inr (20 + 20, C1 ++ C2)) := by
      simp only [slices_stableCmpFunc_impl_Edge__impl_MatchingOf_1_b0]
      rw [if_neg (by simp; omega)]
    obtain ⟨_, e3, C3, rfl, c1, c2, c3⟩ := ins_ok (P := C1 ++ C2) (A := []) (R := []) (a := 20 + 20) (b := L.length) (by simp; omega) (by simp; omega) (by simp; omega)
    have hC3 : C3 = [] := List.eq_nil_of_length_eq_zero c1
    subst hC3
    simp only [List.append_nil] at e3
    unfold slices_stableCmpFunc_impl_Edge__impl_MatchingOf_1
    rw [loop_inl s1, loop_inl s2, loop_inr s3, Option.bind_some]
    dsimp only
    rw [e3, Option.bind_some]
    obtain ⟨C, m1, m2, m3, m4⟩ := sm_ok (P := []) (A := C1) (B := C2) (Q := []) (a := 0) (m := 20) (b := 40) (by simp) (by simp; omega) (by omega) (by omega) (by omega) a2 b2 (by simp)
    simp only [List.nil_append, List.append_nil] at m1
    have t1 : slices_stableCmpFunc_impl_Edge__impl_MatchingOf_1_b1 (L.length : Int) 20 (0, 2 * 20, C1 ++ C2) = some (.inl (2 * 20, 2 * 20 + 2 * 20, C)) := by
      simp only [slices_stableCmpFunc_impl_Edge__impl_MatchingOf_1_b1]
      rw [if_pos (by simp; omega), chk_pos (by omega), show slices_symMergeCmpFunc_impl_Edge__impl_MatchingOf_1 (C1 ++ C2) 0 (0 + 20) (2 * 20) = some C from m1, Option.bind_some, chk_pos (by omega), chk_pos (by omega)]
    have t2 : slices_stableCmpFunc_impl_Edge__impl_MatchingOf_1_b1 (L.length : Int) 20 (2 * 20, 2 * 20 + 2 * 20, C) = some (.inr (2 * 20, C)) := by
      simp only [slices_stableCmpFunc_impl_Edge__impl_MatchingOf_1_b1]
      rw [if_neg (by simp; omega)]
    have s4 : slices_stableCmpFunc_impl_Edge__impl_MatchingOf_1_b2 (L.length : Int) (20, C1 ++ C2) = some (.inl (20 * 2, C)) := by
      simp only [slices_stableCmpFunc_impl_Edge__impl_MatchingOf_1_b2]
      rw [if_pos (by simp; omega), chk_pos (by omega), loop_inl t1, loop_inr t2, Option.bind_some]
      dsimp only
      dsimp only [join]
      rw [chk_pos (by omega), if_neg (by simp; omega)]
      rw [chk_pos (by omega)]
    rw [loop_inl s4, loop_inr (x := C) (by simp only [slices_stableCmpFunc_impl_Edge__impl_MatchingOf_1_b2]; rw [if_neg (by simp; omega)]), Option.bind_some]
    exact ⟨C, rfl, by omega, m3, m4.trans hEq⟩
theorem SortStable_ok {L : List (Int × Int × Int)} (h : L.length ≤ 40) : ∃ C, slices_SortStableFunc_impl_Edge_impl_Edge__impl_MatchingOf_1 L = some C ∧ C.length = L.length ∧ Srt C ∧ Eqv C L := by
  obtain ⟨C, h1, h2⟩ := stable_ok h
  refine ⟨C, ?_, h2⟩
  unfold slices_SortStableFunc_impl_Edge_impl_Edge__impl_MatchingOf_1
  rw [h1, Option.bind_some]
end Go.Proofs.Ytncminpafiahpaa
