/- Matchings that are drawn. -/
import Derived.Test.YtdjckcedpnabpaaDoorMf
set_option linter.unusedSimpArgs false
set_option linter.unusedVariables false
namespace Go.Proofs.YtdjckcedpnabpaaDoor
open Go Go.Av
attribute [local go_sem] gives_chk gives_ite gives_some gives_bind gives_join Sum.elim_inl Sum.elim_inr decide_eq_true_eq decide_eq_false_iff_not Bool.not_eq_true' Bool.not_eq_false' Bool.or_eq_true Bool.and_eq_true Bool.not_eq_eq_eq_not beq_iff_eq bne_iff_ne ne_eq Bool.or_eq_false_iff Bool.and_eq_false_iff Bool.not_eq_true Bool.not_eq_false Bool.not_true Bool.not_false Int.toNat_natCast beq_eq_false_iff_ne bne_eq_false_iff_eq Decidable.not_not Bool.default_bool

theorem MatOk.cut {n : Int} {es : List (Int × Int × Int)} {ps : List Int} (h : MatOk n es ps) {k : Nat} (hk : k < ps.length) (hp : 0 ≤ ps.getD k 0 ∧ ps.getD k 0 < (ps.length : Int)) : MatOk n es ((ps.set (ps.getD k 0).toNat (-1)).set k (-1)) := by
  obtain ⟨hg, hl, hm⟩ := h
  refine ⟨hg, by simpa using hl, fun j hj => ?_⟩
  simp only [List.length_set] at hj
  have gs : ∀ i : Nat, i < ps.length → ((ps.set (ps.getD k 0).toNat (-1)).set k (-1)).getD i 0 = if i = k ∨ i = (ps.getD k 0).toNat then -1 else ps.getD i 0 := fun i hi => by
    simp only [List.getD_eq_getElem?_getD, List.getElem?_set, List.length_set]
    by_cases h1 : k = i
    · rw [if_pos h1, if_pos (by omega), if_pos (.inl h1.symm)]; rfl
    · rw [if_neg h1]
      by_cases h2 : (ps[k]?.getD 0).toNat = i
      · rw [if_pos h2, if_pos (by omega), if_pos (.inr h2.symm)]; rfl
      · rw [if_neg h2, if_neg (by omega)]
  rw [gs j hj]
  split
  · exact .inl rfl
  · rename_i hjk
    rcases hm j hj with h1 | ⟨h1, h2, h3, h4⟩
    · exact .inl h1
    · refine .inr ⟨h1, h2, h3, ?_⟩
      rw [gs _ (by omega), if_neg, h4]
      rintro (h5 | h5)
      · rw [h5] at h4; exact hjk (.inr (by rw [h4]; omega))
      · rcases hm k hk with h6 | ⟨_, _, _, h6⟩
        · omega
        · rw [h5, h6] at h4; exact hjk (.inl (by omega))
end Go.Proofs.YtdjckcedpnabpaaDoor
