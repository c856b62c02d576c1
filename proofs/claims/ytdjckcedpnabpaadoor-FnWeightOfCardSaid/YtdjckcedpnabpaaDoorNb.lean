/- Graphs turned twice. -/
import Derived.Test.YtdjckcedpnabpaaDoorNa
set_option linter.unusedSimpArgs false
set_option linter.unusedVariables false
namespace Go.Proofs.YtdjckcedpnabpaaDoor
open Go Go.Av
attribute [local go_sem] gives_chk gives_ite gives_some gives_bind gives_join Sum.elim_inl Sum.elim_inr decide_eq_true_eq decide_eq_false_iff_not Bool.not_eq_true' Bool.not_eq_false' Bool.or_eq_true Bool.and_eq_true Bool.not_eq_eq_eq_not beq_iff_eq bne_iff_ne ne_eq Bool.or_eq_false_iff Bool.and_eq_false_iff Bool.not_eq_true Bool.not_eq_false Bool.not_true Bool.not_false Int.toNat_natCast beq_eq_false_iff_ne bne_eq_false_iff_eq Decidable.not_not Bool.default_bool

theorem turnF_turnF {n : Int} {es : List (Int × Int × Int)} (hg : GOk n es) : turnF (turnF es) = es := by
  have hP := (gok_iff.1 hg).2.2.2.2
  refine ltE_uniq (turnF_asc (turnF_asc hP)) hP ((turnF_perm _).trans (((turnF_perm es).map sw).trans ?_))
  have h : (es.map sw).map sw = es := by
    rw [List.map_map]
    have : sw ∘ sw = id := by funext x; rfl
    rw [this, List.map_id]
  rw [h]
theorem WeightOf_hit {n : Int} {es : List (Int × Int × Int)} (hg : GOk n es) {e : Int × Int × Int} (he : e ∈ es) : impl_WeightOf n es e.1 e.2.1 = some e.2.2 := by
  have hP := (gok_iff.1 hg).2.2.2.2
  have h40 := hg.2.2.1
  obtain ⟨k0, hk0, hke⟩ := List.getElem_of_mem he
  unfold impl_WeightOf
  rw [impl_GraphValid_eq, gok_true hg, Option.bind_some, if_neg (by simp)]
  refine gives_eq.1 ?_
  rw [gives_bind]
  refine (gives_loop (Q := fun r : Unit ⊕ Int => r = .inr e.2.2) (body := impl_WeightOf_b0 es e.1 e.2.1) (fun k : Nat => (k : Int)) (fun k => k ≤ k0) (fun k => k0 - k) ?_ 0 (Nat.zero_le _)).mono ?_
  · intro k hk
    have hkl : k < es.length := by omega
    have hlt : k < k0 → ltE (es.getD k (0, 0, 0)) e := fun h => by
      rw [getE hkl, ← hke]; exact List.pairwise_iff_getElem.1 hP k k0 hkl hk0 h
    have heq : k = k0 → es.getD k (0, 0, 0) = e := fun h => by subst h; rw [getE hkl, hke]
    simp only [impl_WeightOf_b0, go_sem]
    refine ⟨fun hc => ⟨by omega, fun h => ?_, fun h => ?_⟩, fun hc => absurd hc (by omega)⟩
    · by_cases hk2 : k = k0
      · rw [heq hk2]
      · have := hlt (by omega)
        unfold ltE at this
        omega
    · by_cases hk2 : k = k0
      · rw [heq hk2] at h; exact absurd ⟨rfl, rfl⟩ h
      · exact ⟨by omega, k + 1, by omega, by omega, by omega⟩
  · rintro _ rfl
    exact gives_some.2 rfl
end Go.Proofs.YtdjckcedpnabpaaDoor
