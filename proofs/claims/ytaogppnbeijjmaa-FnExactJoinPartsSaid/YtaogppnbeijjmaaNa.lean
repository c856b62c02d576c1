/- Graphs turned. -/
import Derived.Test.YtaogppnbeijjmaaMm
set_option linter.unusedSimpArgs false
set_option linter.unusedVariables false
namespace Go.Proofs.Ytaogppnbeijjmaa
open Go Go.Av
attribute [local go_sem] gives_chk gives_ite gives_some gives_bind gives_join Sum.elim_inl Sum.elim_inr decide_eq_true_eq decide_eq_false_iff_not Bool.not_eq_true' Bool.not_eq_false' Bool.or_eq_true Bool.and_eq_true Bool.not_eq_eq_eq_not beq_iff_eq bne_iff_ne ne_eq Bool.or_eq_false_iff Bool.and_eq_false_iff Bool.not_eq_true Bool.not_eq_false Bool.not_true Bool.not_false Int.toNat_natCast beq_eq_false_iff_ne bne_eq_false_iff_eq Decidable.not_not Bool.default_bool

def ltE (x y : Int × Int × Int) : Prop := x.1 < y.1 ∨ x.1 = y.1 ∧ x.2.1 < y.2.1
theorem ltE.trans {x y z : Int × Int × Int} (h : ltE x y) (k : ltE y z) : ltE x z := by unfold ltE at *; omega
theorem ltE.asymm {x y : Int × Int × Int} (h : ltE x y) (k : ltE y x) : False := by unfold ltE at *; omega
def EN (n : Int) (e : Int × Int × Int) : Prop := 0 ≤ e.1 ∧ e.1 < n ∧ 0 ≤ e.2.1 ∧ e.2.1 < n ∧ ¬ e.1 = e.2.1 ∧ 0 ≤ e.2.2 ∧ e.2.2 ≤ 20
theorem getE {es : List (Int × Int × Int)} {k : Nat} (h : k < es.length) : es.getD k (0, 0, 0) = es[k] := by
  rw [List.getD_eq_getElem?_getD, List.getElem?_eq_getElem h]; rfl
theorem gok_iff {n : Int} {es : List (Int × Int × Int)} : GOk n es ↔ 0 ≤ n ∧ n ≤ 16 ∧ es.length ≤ 40 ∧ (∀ e ∈ es, EN n e) ∧ es.Pairwise ltE := by
  constructor
  · rintro ⟨h0, h1, h2, h3⟩
    refine ⟨h0, h1, h2, fun e he => ?_, ?_⟩
    · obtain ⟨k, hk, rfl⟩ := List.getElem_of_mem he
      have h := h3 k hk
      simp only [EOk, getE hk] at h
      exact ⟨h.1, h.2.1, h.2.2.1, h.2.2.2.1, h.2.2.2.2.1, h.2.2.2.2.2.1, h.2.2.2.2.2.2.1⟩
    · rw [List.pairwise_iff_getElem]
      have step : ∀ d i (h : i + d + 1 < es.length), ltE (es[i]'(by omega)) es[i + d + 1] := by
        intro d
        induction d with
        | zero =>
          intro i h
          have h5 := (h3 (i + 1) h).2.2.2.2.2.2.2 (by omega)
          rw [Nat.add_sub_cancel, getE (by omega), getE h] at h5
          exact h5
        | succ d ih =>
          intro i h
          have h5 := (h3 (i + (d + 1) + 1) h).2.2.2.2.2.2.2 (by omega)
          rw [Nat.add_sub_cancel, getE (by omega), getE h] at h5
          exact (ih i (by omega)).trans h5
      intro i j hi hj hij
      have := step (j - i - 1) i (by omega)
      simp only [show i + (j - i - 1) + 1 = j by omega] at this
      exact this
  · rintro ⟨h0, h1, h2, h3, h4⟩
    refine ⟨h0, h1, h2, fun k hk => ?_⟩
    obtain ⟨a1, a2, a3, a4, a5, a6, a7⟩ := h3 _ (List.getElem_mem hk)
    simp only [EOk, getE hk]
    refine ⟨a1, a2, a3, a4, a5, a6, a7, fun hk0 => ?_⟩
    rw [getE (show k - 1 < es.length by omega)]
    exact List.pairwise_iff_getElem.1 h4 (k - 1) k (by omega) hk (by omega)
theorem gDN {P Q : List (Int × Int × Int)} {x d : Int × Int × Int} {k : Nat} (h : k = P.length) : (P ++ x :: Q).getD k d = x := by
  subst h; simp [List.getD_eq_getElem?_getD]
theorem setDN {P Q : List (Int × Int × Int)} {x y : Int × Int × Int} {k : Nat} (h : k = P.length) : (P ++ x :: Q).set k y = P ++ y :: Q := by
  subst h; simp [List.set_append]
theorem cloneE {es : List (Int × Int × Int)} (h : es.length ≤ 1000) : slices_Clone_impl_Edge_impl_Edge es = some es := by
  unfold slices_Clone_impl_Edge_impl_Edge both
  by_cases h0 : es.length = 0
  · rw [List.eq_nil_of_length_eq_zero h0]; simp [chk]
  · simp [h0, chk]; omega
/-! The law. -/
def mkE (k : Int) (j : Nat) : Int × Int × Int := (k + 3 * (j : Int), k + 3 * (j : Int) + 1, k + 3 * (j : Int) + 2)
theorem setE {L : List (Int × Int × Int)} {j : Nat} (h : j < L.length) {x : Int × Int × Int} : (L.set j x).getD j (0, 0, 0) = x := by
  rw [getD_set _ _ _ _ _ h, if_pos rfl]
theorem setE2 {L : List (Int × Int × Int)} {j : Nat} (h : j < L.length) {x y : Int × Int × Int} : ((L.set j x).set j y).getD j (0, 0, 0) = y := setE (by rw [List.length_set]; exact h)
theorem markGraph_full {n : Int} {es : List (Int × Int × Int)} {k : Int} (hx : es.length ≤ 1000000000) (h0 : 0 ≤ k) (h1 : k ≤ 10000000000) : laws_markGraph n es k = some (k + 3 * (es.length : Int), mks (mkE k) es.length) := by
  refine gives_eq.1 ?_
  unfold laws_markGraph laws_markEdgeS
  simp only [go_sem]
  refine loop_to (fun j : Nat => (k + 3 * (j : Int), (j : Int), mks (mkE k) j ++ es.drop j)) (fun j => j ≤ es.length) (fun j => es.length - j) 0 (by simp [mks]) (Nat.zero_le _) ?_
  intro j hj
  have hl : (mks (mkE k) j ++ es.drop j).length = es.length := by simp [mks_len]; omega
  simp only [laws_markEdgeS_b0, go_sem, List.length_set, hl]
  refine ⟨fun hc => ?_, fun hc => ?_⟩
  · have hjl : j < (mks (mkE k) j ++ es.drop j).length := by omega
    refine ⟨by omega, by omega, by omega, by omega, by omega, by omega, by omega, j + 1, by omega, by omega, ?_⟩
    have e := mks_set (f := mkE k) (xs := es) (j := j) (by omega)
    simp only [setE hjl, setE2 hjl, List.set_set]
    rw [← e]
    refine Prod.ext (by simp only; omega) (Prod.ext (by simp only; omega) ?_)
    simp only [mkE]
    congr 1
    exact Prod.ext rfl (Prod.ext rfl (by simp only; omega))
  · rw [show j = es.length from by omega]; simp
theorem heldGraph_eq {n : Int} {m : Nat} {k : Int} (hx : m ≤ 1000000000) (h0 : 0 ≤ k) (h1 : k ≤ 10000000000) : laws_heldGraph n (mks (mkE k) m) k = some (k + 3 * (m : Int)) := by
  have h : laws_heldEdgeS (mks (mkE k) m) k = some (k + 3 * (m : Int)) := by
    refine gives_eq.1 ?_
    unfold laws_heldEdgeS
    simp only [go_sem]
    refine loop_to (fun j : Nat => (k + 3 * (j : Int), (j : Int))) (fun j => j ≤ m) (fun j => m - j) 0 (by simp) (Nat.zero_le _) ?_
    intro j hj
    simp only [laws_heldEdgeS_b0, mks_len, go_sem]
    refine ⟨fun hc => ?_, fun hc => ?_⟩
    · rw [mks_get (f := mkE k) (by omega)]
      simp only [mkE]
      refine ⟨by omega, fun h => absurd trivial h, fun _ => ⟨by omega, by omega, fun h => absurd trivial h, fun _ => ⟨by omega, by omega, fun h => ?_, fun _ => ⟨by omega, by omega, j + 1, by omega, by omega, Prod.ext (by simp only; omega) (by simp only; omega)⟩⟩⟩⟩
      exact absurd (by omega) h
    · rw [show j = m from by omega]
  unfold laws_heldGraph
  rw [h, Option.bind_some, if_neg (by simp; omega)]
end Go.Proofs.Ytaogppnbeijjmaa
