/- Combined messages: the program's and the reference's. -/
import Derived.Test.YtiladakokkhkoaaNq
set_option linter.unusedSimpArgs false
set_option linter.unusedVariables false
namespace Go.Proofs.Ytiladakokkhkoaa
open Go Go.Av
attribute [local go_sem] gives_chk gives_ite gives_some gives_bind gives_join Sum.elim_inl Sum.elim_inr decide_eq_true_eq decide_eq_false_iff_not Bool.not_eq_true' Bool.not_eq_false' Bool.or_eq_true Bool.and_eq_true Bool.not_eq_eq_eq_not beq_iff_eq bne_iff_ne ne_eq Bool.or_eq_false_iff Bool.and_eq_false_iff Bool.not_eq_true Bool.not_eq_false Bool.not_true Bool.not_false Int.toNat_natCast beq_eq_false_iff_ne bne_eq_false_iff_eq Decidable.not_not Bool.default_bool

/-- The first message of each run of messages to one vertex. -/
def loF (ys : List Mg) : Nat → List Mg
  | 0 => []
  | k + 1 => if k = 0 ∨ ¬ (ys.getD (k - 1) (0, 0, 0)).1 = (ys.getD k (0, 0, 0)).1 then loF ys k ++ [ys.getD k (0, 0, 0)] else loF ys k
theorem loF_len (ys : List Mg) : ∀ k, (loF ys k).length ≤ k
  | 0 => Nat.le_refl _
  | k + 1 => by
    have := loF_len ys k
    unfold loF
    split
    · rw [List.length_append]; simp; omega
    · omega
theorem loF_last (ys : List Mg) : ∀ k, 0 < k → 0 < (loF ys k).length ∧ ((loF ys k).getD ((loF ys k).length - 1) (0, 0, 0)).1 = (ys.getD (k - 1) (0, 0, 0)).1
  | 0, h => absurd h (by omega)
  | k + 1, _ => by
    rw [Nat.add_sub_cancel]
    unfold loF
    split
    · rw [List.length_append, List.length_singleton, Nat.add_sub_cancel]
      refine ⟨by omega, ?_⟩
      rw [gDN rfl]
    · rename_i h
      have hk : 0 < k := by omega
      obtain ⟨h1, h2⟩ := loF_last ys k hk
      refine ⟨h1, h2.trans ?_⟩
      exact Decidable.not_not.1 fun h3 => h (.inr h3)
theorem leastOnly_eq {ys : List Mg} (hy : ys.length ≤ 1000000000) : impl_leastOnly ys = some (loF ys ys.length) := by
  refine gives_eq.1 ?_
  unfold impl_leastOnly
  refine gives_bind.2 ?_
  refine gives_loop (Q := fun t => gives (some t) fun b => b = loF ys ys.length) (fun k : Nat => ((k : Int), loF ys k)) (fun k => k ≤ ys.length) (fun k => ys.length - k) ?_ 0 (Nat.zero_le _)
  intro k hk
  simp only [impl_leastOnly_b0]
  by_cases h : k < ys.length
  · have hl := loF_len ys k
    rw [if_pos (by simpa using h), Int.toNat_natCast]
    unfold join; dsimp only
    rw [chk_pos (by omega), chk_pos (by omega), chk_pos (by intro h; simp at h; omega)]
    by_cases h0 : k = 0 ∨ ¬ (ys.getD (k - 1) (0, 0, 0)).1 = (ys.getD k (0, 0, 0)).1
    · rw [if_pos (by
        simp only [Bool.or_eq_true, beq_iff_eq, bne_iff_ne, ne_eq]
        rcases h0 with h0 | h0
        · exact .inl (by omega)
        · rw [show ((k : Int) - 1).toNat = k - 1 by omega]; exact .inr h0), chk_pos (by omega), chk_pos (by omega)]
      refine gives_some.2 ⟨k + 1, by omega, by omega, ?_⟩
      rw [loF, if_pos h0]; rfl
    · rw [if_neg (by
        simp only [Bool.or_eq_true, beq_iff_eq, bne_iff_ne, ne_eq]
        rw [show ((k : Int) - 1).toNat = k - 1 by omega]
        exact fun hc => h0 (hc.imp (fun h => by omega) id)), chk_pos (by omega)]
      refine gives_some.2 ⟨k + 1, by omega, by omega, ?_⟩
      rw [loF, if_neg h0]; rfl
  · rw [if_neg (by simpa using h)]
    refine gives_some.2 (gives_some.2 ?_)
    rw [show k = ys.length by omega]
/-- Messages combined. -/
noncomputable def combM (k s d : Int) (ms : List Mg) : List Mg := if PComb k s d then loF (srtM ms) ms.length else srtM ms
theorem combM_len (k s d : Int) (ms : List Mg) : (combM k s d ms).length ≤ ms.length := by
  unfold combM
  split
  · exact loF_len ..
  · rw [srtM_len]; omega
theorem impl_CombineMessages_eq {k s d : Int} {ms : List Mg} (hp : POk k s d) (hm : ms.length ≤ 2000) : impl_CombineMessages k s d ms = some (combM k s d ms) := by
  unfold impl_CombineMessages
  rw [impl_ProgramValid_eq, Option.bind_some, if_neg (by simp only [hp, decide_true, Bool.not_true, Bool.false_or, decide_eq_true_eq]; omega), inOrder_eq (by omega), Option.bind_some, impl_CanCombine_eq, Option.bind_some]
  unfold combM
  by_cases h : PComb k s d
  · rw [if_pos (by simpa using h), leastOnly_eq (by rw [srtM_len]; omega), if_pos h, srtM_len]; rfl
  · rw [if_neg (by simpa using h), if_neg h]
theorem spec_CombineMessages_eq {k s d : Int} {ms : List Mg} (hp : POk k s d) (hm : ms.length ≤ 2000) : spec_CombineMessages k s d ms = some (combM k s d ms) := by
  unfold spec_CombineMessages
  rw [spec_SortMessages_eq hm, Option.bind_some]
  have hl : (srtM ms).length = ms.length := srtM_len ms
  generalize hy : srtM ms = ys at hl
  refine gives_eq.1 (gives_bind.2 ?_)
  let st : Nat → List Mg := fun j => if PComb k s d then loF ys j else ys.take j
  have hst : ∀ j, st j = if PComb k s d then loF ys j else ys.take j := fun j => rfl
  refine gives_loop (Q := fun t => gives (some t) fun b => b = combM k s d ms) (fun j : Nat => ((j : Int), st j)) (fun j => j ≤ ys.length) (fun j => ys.length - j) ?_ 0 (Nat.zero_le _) |>.mono ?_ |> (by simpa [st, loF] using ·)
  · intro j hj
    simp only [spec_CombineMessages_b0]
    have hsl : (st j).length ≤ j := by
      rw [hst]
      split
      · exact loF_len ..
      · rw [List.length_take]; omega
    by_cases h : j < ys.length
    · rw [if_pos (by simpa using h), spec_ProgramValid_eq, Option.bind_some, if_pos (by simp [hp, h]), Int.toNat_natCast]
      unfold join; dsimp only
      rw [chk_pos (by omega), chk_pos (by intro h; simp only [decide_eq_false_iff_not] at h; omega), chk_pos (by intro _; omega)]
      have e1 : (((st j).length : Int) - 1).toNat = (st j).length - 1 := by omega
      rw [e1, spec_CanCombine_eq]
      generalize hbb : (if (!(decide (((st j).length : Int) - 1 < 0) || ((st j).getD ((st j).length - 1) (0, 0, 0)).fst != (ys.getD j (0, 0, 0)).fst)) = true then some (decide (PComb k s d)) else some default) = bb
      by_cases hpush : (st j).length = 0 ∨ ¬ ((st j).getD ((st j).length - 1) (0, 0, 0)).1 = (ys.getD j (0, 0, 0)).1 ∨ ¬ PComb k s d
      · have hb : gives bb fun y_2 => ((decide (((st j).length : Int) - 1 < 0) || ((st j).getD ((st j).length - 1) (0, 0, 0)).fst != (ys.getD j (0, 0, 0)).fst) || !y_2) = true := by
          subst hbb
          split
          · refine gives_some.2 ?_
            rcases hpush with hq | hq | hq
            · rw [Bool.or_eq_true, Bool.or_eq_true, decide_eq_true_eq]; exact .inl (.inl (by omega))
            · rw [Bool.or_eq_true, Bool.or_eq_true, bne_iff_ne]; exact .inl (.inr hq)
            · rw [decide_eq_false hq]; simp
          · rename_i hq
            refine gives_some.2 ?_
            rw [Bool.not_eq_true', Bool.not_eq_false] at hq
            rw [hq]; rfl
        obtain ⟨y2, rfl, hb⟩ := hb
        rw [Option.bind_some, if_pos hb, chk_pos (by omega), chk_pos (by omega), chk_pos (by omega)]
        refine gives_some.2 ⟨j + 1, by omega, by omega, ?_⟩
        have : st (j + 1) = st j ++ [ys.getD j (0, 0, 0)] := by
          rw [hst, hst]
          by_cases hc : PComb k s d
          · rw [if_pos hc, if_pos hc, loF, if_pos]
            by_cases hj0 : j = 0
            · exact .inl hj0
            · right
              obtain ⟨g1, g2⟩ := loF_last ys j (by omega)
              rw [hst, if_pos hc] at hpush
              rw [← g2]
              rcases hpush with hq | hq | hq
              · omega
              · exact hq
              · exact absurd hc hq
          · rw [if_neg hc, if_neg hc, take_snoc h]
        rw [this]; rfl
      · have hpush' := not_or.1 hpush
        have hpc := Decidable.not_not.1 (not_or.1 hpush'.2).2
        have hbb' : bb = some true := by
          rw [← hbb, if_pos, decide_eq_true hpc]
          rw [Bool.not_eq_true', Bool.or_eq_false_iff, decide_eq_false_iff_not, bne_eq_false_iff_eq]
          exact ⟨by omega, Decidable.not_not.1 (not_or.1 hpush'.2).1⟩
        subst hbb'
        rw [Option.bind_some, if_neg (by
          rw [Bool.not_true, Bool.or_false, Bool.or_eq_true, decide_eq_true_eq, bne_iff_ne]
          rintro (hc | hc)
          · omega
          · exact hc (Decidable.not_not.1 (not_or.1 hpush'.2).1)), chk_pos (by omega)]
        refine gives_some.2 ⟨j + 1, by omega, by omega, ?_⟩
        have : st (j + 1) = st j := by
          rw [hst, hst, if_pos hpc, if_pos hpc, loF, if_neg]
          rw [hst, if_pos hpc] at hpush'
          by_cases hj0 : j = 0
          · subst hj0; exact absurd rfl hpush'.1
          · obtain ⟨g1, g2⟩ := loF_last ys j (by omega)
            have := Decidable.not_not.1 (not_or.1 hpush'.2).1
            rw [g2] at this
            exact fun hc => hc.elim hj0 (fun hc => hc this)
        rw [this]; rfl
    · rw [if_neg (by simpa using h), Option.bind_some, if_neg (by simp <;> omega)]
      refine gives_some.2 (gives_some.2 ?_)
      unfold combM
      rw [hst, hy]
      split
      · rw [show j = ms.length by omega]
      · rw [List.take_of_length_le (by omega)]
  · exact fun a h => h
end Go.Proofs.Ytiladakokkhkoaa
