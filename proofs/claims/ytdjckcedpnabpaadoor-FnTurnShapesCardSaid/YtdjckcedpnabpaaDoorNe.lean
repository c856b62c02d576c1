/- Weights of edges; neighbours in both directions. -/
import Derived.Test.YtdjckcedpnabpaaDoorNd
set_option linter.unusedSimpArgs false
set_option linter.unusedVariables false
namespace Go.Proofs.YtdjckcedpnabpaaDoor
open Go Go.Av
attribute [local go_sem] gives_chk gives_ite gives_some gives_bind gives_join Sum.elim_inl Sum.elim_inr decide_eq_true_eq decide_eq_false_iff_not Bool.not_eq_true' Bool.not_eq_false' Bool.or_eq_true Bool.and_eq_true Bool.not_eq_eq_eq_not beq_iff_eq bne_iff_ne ne_eq Bool.or_eq_false_iff Bool.and_eq_false_iff Bool.not_eq_true Bool.not_eq_false Bool.not_true Bool.not_false Int.toNat_natCast beq_eq_false_iff_ne bne_eq_false_iff_eq Decidable.not_not Bool.default_bool

/-! Weights. -/
def WV (es : List (Int × Int × Int)) (a b w : Int) : Prop := (∃ e ∈ es, e.1 = a ∧ e.2.1 = b ∧ w = e.2.2) ∨ (w = -1 ∧ ∀ e ∈ es, ¬ (e.1 = a ∧ e.2.1 = b))
theorem ends_uniq {es : List (Int × Int × Int)} (hP : es.Pairwise ltE) {x y : Int × Int × Int} (hx : x ∈ es) (hy : y ∈ es) (h1 : x.1 = y.1) (h2 : x.2.1 = y.2.1) : x = y := by
  obtain ⟨i, hi, rfl⟩ := List.getElem_of_mem hx
  obtain ⟨j, hj, rfl⟩ := List.getElem_of_mem hy
  rcases Nat.lt_trichotomy i j with h | h | h
  · have := List.pairwise_iff_getElem.1 hP i j hi hj h
    unfold ltE at this; omega
  · subst h; rfl
  · have := List.pairwise_iff_getElem.1 hP j i hj hi h
    unfold ltE at this; omega
theorem WV.uniq {n : Int} {es : List (Int × Int × Int)} (hg : GOk n es) {a b v w : Int} (h : WV es a b v) (g : WV es a b w) : v = w := by
  rcases h with ⟨x, x1, x2, x3, x4⟩ | ⟨x1, x2⟩ <;> rcases g with ⟨y, y1, y2, y3, y4⟩ | ⟨y1, y2⟩
  · have := ends_uniq (gok_iff.1 hg).2.2.2.2 x1 y1 (by omega) (by omega)
    rw [x4, y4, this]
  · exact absurd ⟨x2, x3⟩ (y2 x x1)
  · exact absurd ⟨y2, y3⟩ (x2 y y1)
  · omega
theorem WV.turn {es : List (Int × Int × Int)} {a b w : Int} (h : WV es a b w) : WV (turnF es) b a w := by
  rcases h with ⟨x, x1, x2, x3, x4⟩ | ⟨x1, x2⟩
  · exact .inl ⟨sw x, (turnF_perm es).mem_iff.2 (List.mem_map.2 ⟨x, x1, rfl⟩), x3, x2, x4⟩
  · refine .inr ⟨x1, fun e he h => ?_⟩
    obtain ⟨x, hx, rfl⟩ := List.mem_map.1 ((turnF_perm es).mem_iff.1 he)
    exact x2 x hx ⟨h.2, h.1⟩
/-! Neighbours. -/
theorem selL_asc {p : Nat → Bool} : ∀ n, (selL p n).Pairwise (· < ·)
  | 0 => List.Pairwise.nil
  | n + 1 => by
    simp only [selL]
    split
    · refine List.pairwise_append.2 ⟨selL_asc n, List.pairwise_singleton .., fun x hx y hy => ?_⟩
      obtain ⟨j, h1, h2, _⟩ := selL_mem.1 hx
      rw [List.mem_singleton.1 hy]; omega
    · exact selL_asc n
end Go.Proofs.YtdjckcedpnabpaaDoor
