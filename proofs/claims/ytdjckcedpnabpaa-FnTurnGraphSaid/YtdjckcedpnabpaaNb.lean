/- Graphs turned twice. -/
import Derived.Test.YtdjckcedpnabpaaNa
set_option linter.unusedSimpArgs false
set_option linter.unusedVariables false
namespace Go.Proofs.Ytdjckcedpnabpaa
open Go Go.Av
attribute [local go_sem] gives_chk gives_ite gives_some gives_bind gives_join Sum.elim_inl Sum.elim_inr decide_eq_true_eq decide_eq_false_iff_not Bool.not_eq_true' Bool.not_eq_false' Bool.or_eq_true Bool.and_eq_true Bool.not_eq_eq_eq_not beq_iff_eq bne_iff_ne ne_eq Bool.or_eq_false_iff Bool.and_eq_false_iff Bool.not_eq_true Bool.not_eq_false Bool.not_true Bool.not_false Int.toNat_natCast beq_eq_false_iff_ne bne_eq_false_iff_eq Decidable.not_not Bool.default_bool

theorem turnF_turnF {n : Int} {es : List (Int × Int × Int)} (hg : GOk n es) : turnF (turnF es) = es := by
  have hP := (gok_iff.1 hg).2.2.2.2
  refine ltE_uniq (turnF_asc (turnF_asc hP)) hP ((turnF_perm _).trans (((turnF_perm es).map sw).trans ?_))
  have h : (es.map sw).map sw = es := by
    rw [List.map_map]
    have : sw ∘ sw = id := by funext x; rfl
    rw [this, List.map_id]
  rw [h]
theorem sameGraph_self {n : Int} {es : List (Int × Int × Int)} (hl : es.length ≤ 1000000000) : laws_sameGraph n es n es = some true := by
  unfold laws_sameGraph
  rw [if_neg (by simp)]
  refine gives_eq.1 ?_
  rw [gives_bind]
  refine (gives_loop (Q := fun r : Unit ⊕ Unit => r = .inl ()) (body := laws_sameGraph_b0 es es) (fun k : Nat => (k : Int)) (fun k => k ≤ es.length) (fun k => es.length - k) ?_ 0 (Nat.zero_le _)).mono ?_
  · intro k hk
    unfold laws_sameGraph_b0
    rw [gives_ite]
    refine ⟨fun hc => ?_, fun _ => gives_some.2 rfl⟩
    simp only [decide_eq_true_eq] at hc
    rw [gives_chk, gives_chk, if_neg (by simp), gives_chk]
    exact ⟨by omega, by omega, by omega, gives_some.2 ⟨k + 1, by omega, by omega, by omega⟩⟩
  · rintro _ rfl
    exact gives_some.2 rfl
theorem WeightOf_hit {n : Int} {es : List (Int × Int × Int)} (hg : GOk n es) {e : Int × Int × Int} (he : e ∈ es) : impl_WeightOf n es e.1 e.2.1 = some e.2.2 := by
  have hP := (gok_iff.1 hg).2.2.2.2
  have h40 := hg.2.2.1
  obtain ⟨k0, hk0, hke⟩ := List.getElem_of_mem he
  unfold impl_WeightOf
  rw [impl_GraphValid_eq, gok_true hg, Option.bind_some, if_neg (by simp)]
  refine gives_eq.1 ?_
  rw [gives_bind]
  refine (gives_loop (Q := fun r : Unit ⊕ Int => r = .inr e.2.2) (body := impl_WeightOf_b0 es e.1 e.2.1) (fun k : Nat => (k : Int)) (fun k => k ≤ k0) (fun k => k0 - k) ?_ 0 (Nat.zero_le _)).mono ?_
  · intro k hk
    have hkl : k < es.length := by omega
    have hlt : k < k0 → ltE (es.getD k (0, 0, 0)) e := fun h => by
      rw [getE hkl, ← hke]; exact List.pairwise_iff_getElem.1 hP k k0 hkl hk0 h
    have heq : k = k0 → es.getD k (0, 0, 0) = e := fun h => by subst h; rw [getE hkl, hke]
    simp only [impl_WeightOf_b0, go_sem]
    refine ⟨fun hc => ⟨by omega, fun h => ?_, fun h => ?_⟩, fun hc => absurd hc (by omega)⟩
    · by_cases hk2 : k = k0
      · rw [heq hk2]
      · have := hlt (by omega)
        unfold ltE at this
        omega
    · by_cases hk2 : k = k0
      · rw [heq hk2] at h; exact absurd ⟨rfl, rfl⟩ h
      · exact ⟨by omega, k + 1, by omega, by omega, by omega⟩
  · rintro _ rfl
    exact gives_some.2 rfl
theorem FnTurnGraph_true {b : List Int} (hb : Bts b) : laws_FnTurnGraph b = some true := by
  unfold laws_FnTurnGraph
  by_cases h0 : (1048576 : Int) < b.length
  · rw [if_pos (by simpa using h0)]
  rw [if_neg (by simpa using h0)]
  obtain ⟨⟨n, es⟩, h1, h2, h3⟩ : gives (spec_DrawTurnGraph b) fun r => (-1 ≤ r.1 ∧ r.1 ≤ 17) ∧ r.2.length ≤ 20 := by
    unfold spec_DrawTurnGraph
    rw [gives_bind]
    refine (open_ok hb).mono' (by rfl) ?_
    rintro ⟨c, p⟩ ⟨h1, h2, h3⟩
    simp only at h1 h2 h3 ⊢
    rw [gives_bind]
    refine (Graph_ok h1 ⟨by omega, by omega⟩).mono ?_
    rintro ⟨n, es, q⟩ ⟨g1, g2, g3, g4⟩
    exact gives_some.2 ⟨g1, g2⟩
  simp only at h2 h3
  rw [h1, Option.bind_some]
  dsimp only
  by_cases hg : GOk n es
  · have hgt := turnF_ok hg
    have hl := turnF_len es
    rw [impl_TurnGraph_eq hg, Option.bind_some]
    dsimp only
    rw [spec_TurnGraph_eq hg, Option.bind_some]
    dsimp only
    rw [sameGraph_self (by omega), Option.bind_some, if_neg (by simp), spec_GraphValid_eq ⟨by omega, by omega⟩ (by omega), gok_true hg, Option.bind_some, if_neg (by simp)]
    have hloop : loop (laws_FnTurnGraph_b0 es n (turnF es)) 0 = some (.inl ()) := by
      refine gives_eq.1 ?_
      refine gives_loop (fun k : Nat => (k : Int)) (fun k => k ≤ es.length) (fun k => es.length - k) ?_ 0 (Nat.zero_le _)
      intro k hk
      unfold laws_FnTurnGraph_b0
      rw [gives_ite]
      refine ⟨fun hc => ?_, fun _ => gives_some.2 rfl⟩
      simp only [decide_eq_true_eq] at hc
      have hkl : k < es.length := by omega
      have hm : sw (es.getD k (0, 0, 0)) ∈ turnF es := (turnF_perm es).mem_iff.2 (List.mem_map.2 ⟨_, by rw [getE hkl]; exact List.getElem_mem hkl, rfl⟩)
      rw [gives_chk, gives_bind, Int.toNat_natCast]
      refine ⟨by omega, .of (WeightOf_hit hgt hm) ?_⟩
      rw [if_neg (by simp [sw]), gives_chk]
      exact ⟨by omega, gives_some.2 ⟨k + 1, by omega, by omega, by omega⟩⟩
    rw [hloop, Option.bind_some]
    show Option.bind (impl_GraphValid n (turnF es)) _ = _
    rw [impl_GraphValid_eq, gok_true hgt, Option.bind_some, if_pos rfl, impl_TurnGraph_eq hgt, Option.bind_some]
    dsimp only
    rw [if_pos rfl, turnF_turnF hg, sameGraph_self (by omega), Option.bind_some]
    rfl
  · rw [impl_TurnGraph_not hg, Option.bind_some]
    dsimp only
    rw [spec_TurnGraph_not ⟨by omega, by omega⟩ (by omega) hg, Option.bind_some]
    dsimp only
    rw [sameGraph_self (by simp), Option.bind_some, if_neg (by simp), spec_GraphValid_eq ⟨by omega, by omega⟩ (by omega), gok_false hg, Option.bind_some, if_pos (by rfl), if_pos (by rfl), alive_eq]
    rfl
end Go.Proofs.Ytdjckcedpnabpaa
