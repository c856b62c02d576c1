/- Graphs turned. -/
import Derived.Test.YtbdncdmkogbdhaaMm
set_option linter.unusedSimpArgs false
set_option linter.unusedVariables false
namespace Go.Proofs.Ytbdncdmkogbdhaa
open Go Go.Av
attribute [local go_sem] gives_chk gives_ite gives_some gives_bind gives_join Sum.elim_inl Sum.elim_inr decide_eq_true_eq decide_eq_false_iff_not Bool.not_eq_true' Bool.not_eq_false' Bool.or_eq_true Bool.and_eq_true Bool.not_eq_eq_eq_not beq_iff_eq bne_iff_ne ne_eq Bool.or_eq_false_iff Bool.and_eq_false_iff Bool.not_eq_true Bool.not_eq_false Bool.not_true Bool.not_false Int.toNat_natCast beq_eq_false_iff_ne bne_eq_false_iff_eq Decidable.not_not Bool.default_bool

def ltE (x y : Int × Int × Int) : Prop := x.1 < y.1 ∨ x.1 = y.1 ∧ x.2.1 < y.2.1
theorem ltE.trans {x y z : Int × Int × Int} (h : ltE x y) (k : ltE y z) : ltE x z := by unfold ltE at *; omega
theorem ltE.asymm {x y : Int × Int × Int} (h : ltE x y) (k : ltE y x) : False := by unfold ltE at *; omega
def EN (n : Int) (e : Int × Int × Int) : Prop := 0 ≤ e.1 ∧ e.1 < n ∧ 0 ≤ e.2.1 ∧ e.2.1 < n ∧ ¬ e.1 = e.2.1 ∧ 0 ≤ e.2.2 ∧ e.2.2 ≤ 20
theorem getE {es : List (Int × Int × Int)} {k : Nat} (h : k < es.length) : es.getD k (0, 0, 0) = es[k] := by
  rw [List.getD_eq_getElem?_getD, List.getElem?_eq_getElem h]; rfl
theorem gok_iff {n : Int} {es : List (Int × Int × Int)} : GOk n es ↔ 0 ≤ n ∧ n ≤ 16 ∧ es.length ≤ 40 ∧ (∀ e ∈ es, EN n e) ∧ es.Pairwise ltE := by
  constructor
  · rintro ⟨h0, h1, h2, h3⟩
    refine ⟨h0, h1, h2, fun e he => ?_, ?_⟩
    · obtain ⟨k, hk, rfl⟩ := List.getElem_of_mem he
      have h := h3 k hk
      simp only [EOk, getE hk] at h
      exact ⟨h.1, h.2.1, h.2.2.1, h.2.2.2.1, h.2.2.2.2.1, h.2.2.2.2.2.1, h.2.2.2.2.2.2.1⟩
    · rw [List.pairwise_iff_getElem]
      have step : ∀ d i (h : i + d + 1 < es.length), ltE (es[i]'(by omega)) es[i + d + 1] := by
        intro d
        induction d with
        | zero =>
          intro i h
          have h5 := (h3 (i + 1) h).2.2.2.2.2.2.2 (by omega)
          rw [Nat.add_sub_cancel, getE (by omega), getE h] at h5
          exact h5
        | succ d ih =>
          intro i h
          have h5 := (h3 (i + (d + 1) + 1) h).2.2.2.2.2.2.2 (by omega)
          rw [Nat.add_sub_cancel, getE (by omega), getE h] at h5
          exact (ih i (by omega)).trans h5
      intro i j hi hj hij
      have := step (j - i - 1) i (by omega)
      simp only [show i + (j - i - 1) + 1 = j by omega] at this
      exact this
  · rintro ⟨h0, h1, h2, h3, h4⟩
    refine ⟨h0, h1, h2, fun k hk => ?_⟩
    obtain ⟨a1, a2, a3, a4, a5, a6, a7⟩ := h3 _ (List.getElem_mem hk)
    simp only [EOk, getE hk]
    refine ⟨a1, a2, a3, a4, a5, a6, a7, fun hk0 => ?_⟩
    rw [getE (show k - 1 < es.length by omega)]
    exact List.pairwise_iff_getElem.1 h4 (k - 1) k (by omega) hk (by omega)
theorem ltE_uniq : ∀ {A B : List (Int × Int × Int)}, A.Pairwise ltE → B.Pairwise ltE → A.Perm B → A = B
  | [], B, _, _, h => (List.nil_perm.1 h).symm
  | x :: A, [], _, _, h => absurd h.length_eq (by simp)
  | x :: A, y :: B, hA, hB, h => by
    have hA' := List.pairwise_cons.1 hA
    have hB' := List.pairwise_cons.1 hB
    have hxy : x = y := by
      rcases List.mem_cons.1 (h.mem_iff.1 (List.mem_cons_self ..)) with e | e
      · exact e
      rcases List.mem_cons.1 (h.mem_iff.2 (List.mem_cons_self ..)) with e' | e'
      · exact e'.symm
      exact ((hB'.1 x e).asymm (hA'.1 y e')).elim
    subst hxy
    rw [ltE_uniq hA'.2 hB'.2 h.cons_inv]
def sw (e : Int × Int × Int) : Int × Int × Int := (e.2.1, e.1, e.2.2)
theorem EN.sw {n : Int} {e : Int × Int × Int} (h : EN n e) : EN n (sw e) := by
  obtain ⟨h1, h2, h3, h4, h5, h6⟩ := h
  exact ⟨h3, h4, h1, h2, fun he => h5 he.symm, h6⟩
def dfE (x y : Int × Int × Int) : Prop := ¬ (x.1 = y.1 ∧ x.2.1 = y.2.1)
theorem sw_dist {es : List (Int × Int × Int)} (h : es.Pairwise ltE) : (es.map sw).Pairwise dfE :=
  List.pairwise_map.2 (h.imp fun {x y} hxy => by unfold ltE at hxy; unfold dfE Go.Proofs.Ytbdncdmkogbdhaa.sw; simp only; omega)
/-- The edges of the turned graph. -/
noncomputable def turnF (es : List (Int × Int × Int)) : List (Int × Int × Int) := srtT endsC (es.map sw)
theorem turnF_perm (es : List (Int × Int × Int)) : (turnF es).Perm (es.map sw) := (srtT_all endsSWO _).1
theorem turnF_asc {es : List (Int × Int × Int)} (h : es.Pairwise ltE) : (turnF es).Pairwise ltE := by
  have h1 := (srtT_all endsSWO (es.map sw)).2
  have h2 : (turnF es).Pairwise dfE := ((turnF_perm es).pairwise_iff (fun {x y} hxy => by unfold dfE at *; omega)).2 (sw_dist h)
  refine (h1.and h2).imp fun {x y} hxy => ?_
  have h3 := hxy.1
  rw [endsC_neg] at h3
  have h4 := hxy.2
  unfold dfE at h4
  unfold ltE
  omega
theorem turnF_ok {n : Int} {es : List (Int × Int × Int)} (hg : GOk n es) : GOk n (turnF es) := by
  obtain ⟨h0, h1, h2, h3, h4⟩ := gok_iff.1 hg
  refine gok_iff.2 ⟨h0, h1, by rw [(turnF_perm es).length_eq, List.length_map]; exact h2, fun e he => ?_, turnF_asc h4⟩
  obtain ⟨x, hx, rfl⟩ := List.mem_map.1 ((turnF_perm es).mem_iff.1 he)
  exact (h3 x hx).sw
theorem gDN {P Q : List (Int × Int × Int)} {x d : Int × Int × Int} {k : Nat} (h : k = P.length) : (P ++ x :: Q).getD k d = x := by
  subst h; simp [List.getD_eq_getElem?_getD]
theorem setDN {P Q : List (Int × Int × Int)} {x y : Int × Int × Int} {k : Nat} (h : k = P.length) : (P ++ x :: Q).set k y = P ++ y :: Q := by
  subst h; simp [List.set_append]
theorem turn_loop {es : List (Int × Int × Int)} (hl : es.length ≤ 1000) : loop (impl_TurnGraph_b0 es) (0, es) = some (es.map sw) := by
  refine gives_eq.1 ?_
  refine gives_loop (fun s : Nat × List (Int × Int × Int) => ((s.1 : Int), s.2)) (fun s => ∃ A B, es = A ++ B ∧ s.1 = A.length ∧ s.2 = A.map sw ++ B) (fun s => es.length - s.1) ?_ (0, es) ⟨[], es, rfl, rfl, rfl⟩
  rintro ⟨k, L⟩ ⟨A, B, he, hk, hL⟩
  simp only at hk hL
  have hlen : es.length = A.length + B.length := by rw [he]; simp
  simp only [impl_TurnGraph_b0, go_sem]
  refine ⟨fun hc => ?_, fun hc => ?_⟩
  · rcases B with _ | ⟨x, B⟩
    · simp only [List.length_nil] at hlen; omega
    simp only [List.length_cons] at hlen
    have hl' : L.length = es.length := by rw [hL]; simp; omega
    have e1 : L.getD k (0, 0, 0) = x := by rw [hL]; exact gDN (by simp; omega)
    rw [e1]
    refine ⟨by omega, by omega, by omega, (k + 1, _), ⟨A ++ [x], B, by rw [he]; simp, by simp; omega, ?_⟩, by simp only; omega, Prod.ext (by simp only; omega) rfl⟩
    simp only
    rw [hL, setDN (by simp; omega)]
    simp [sw]
  · have hB : B = [] := List.eq_nil_of_length_eq_zero (by omega)
    subst hB
    rw [hL, he]; simp
theorem cloneE {es : List (Int × Int × Int)} (h : es.length ≤ 1000) : slices_Clone_impl_Edge_impl_Edge es = some es := by
  unfold slices_Clone_impl_Edge_impl_Edge both
  by_cases h0 : es.length = 0
  · rw [List.eq_nil_of_length_eq_zero h0]; simp [chk]
  · simp [h0, chk]; omega
theorem impl_TurnGraph_eq {n : Int} {es : List (Int × Int × Int)} (hg : GOk n es) : impl_TurnGraph n es = some (n, turnF es) := by
  have h40 := hg.2.2.1
  unfold impl_TurnGraph
  rw [impl_GraphValid_eq, gok_true hg, Option.bind_some, if_neg (by simp)]
  unfold impl_Graph_copied
  rw [cloneE (by omega), Option.bind_some, Option.bind_some]
  dsimp only
  rw [turn_loop (by omega), Option.bind_some]
  unfold slices_SortFunc__impl_compareEnds
  rw [chk_pos (by simp; omega), Option.bind_some]
  rfl
theorem impl_TurnGraph_not {n : Int} {es : List (Int × Int × Int)} (hg : ¬ GOk n es) : impl_TurnGraph n es = some (0, []) := by
  unfold impl_TurnGraph
  rw [impl_GraphValid_eq, gok_false hg, Option.bind_some, if_pos (by rfl)]

end Go.Proofs.Ytbdncdmkogbdhaa
