/- Channels: quiet ones, runs, finished ones. -/
import Derived.Test.YtncminpafiahpaaMu
set_option linter.unusedSimpArgs false
set_option linter.unusedVariables false
namespace Go.Proofs.Ytncminpafiahpaa
open Go Go.Av
attribute [local go_sem] gives_chk gives_ite gives_some gives_bind gives_join Sum.elim_inl Sum.elim_inr decide_eq_true_eq decide_eq_false_iff_not Bool.not_eq_true' Bool.not_eq_false' Bool.or_eq_true Bool.and_eq_true Bool.not_eq_eq_eq_not beq_iff_eq bne_iff_ne ne_eq Bool.or_eq_false_iff Bool.and_eq_false_iff Bool.not_eq_true Bool.not_eq_false Bool.not_true Bool.not_false Int.toNat_natCast beq_eq_false_iff_ne bne_eq_false_iff_eq Decidable.not_not Bool.default_bool

/-- All packets are delivered. -/
def delAll (gs : List Int) : Pk → List Int
  | [] => gs
  | p :: q => delAll (if p.1 = gs.length then gs ++ [p.2] else gs) q
/-- All receipts are read. -/
def learnAll (k : Int) : List Int → Int
  | [] => k
  | r :: q => learnAll (max k r) q
section
variable {vs gs rs : List Int} {k : Int} {ps : Pk}
theorem CvOk.deliver {p : Int × Int} {q : Pk} (h : CvOk vs k gs (p :: q) rs) : CvOk vs k (if p.1 = gs.length then gs ++ [p.2] else gs) q rs := by
  have := chStep_ok (a := 1) h
  simpa [chStep] using this
theorem CvOk.learn {r : Int} {q : List Int} (h : CvOk vs k gs ps (r :: q)) : CvOk vs (max k r) gs ps q := by
  have := chStep_ok (a := 6) h
  simpa [chStep] using this
theorem step1_cons {p : Int × Int} {q : Pk} : chStep vs k gs (p :: q) rs 1 = (true, k, if p.1 = gs.length then gs ++ [p.2] else gs, q, rs) := by simp [chStep]
theorem step1_nil : chStep vs k gs [] rs 1 = (false, k, gs, [], rs) := by simp [chStep]
theorem step6_cons {r : Int} {q : List Int} : chStep vs k gs ps (r :: q) 6 = (true, max k r, gs, ps, q) := by simp [chStep]
theorem step6_nil : chStep vs k gs ps [] 6 = (false, k, gs, ps, []) := by simp [chStep]
theorem del_loop {S X : Type} (st : List Int → Pk → S) (ex : List Int → X) {body : S → Option (S ⊕ X)}
    (h0 : ∀ gs, CvOk vs k gs [] rs → body (st gs []) = some (.inr (ex gs))) (h1 : ∀ gs p q, CvOk vs k gs (p :: q) rs → body (st gs (p :: q)) = some (.inl (st (if p.1 = gs.length then gs ++ [p.2] else gs) q))) :
    ∀ (ps : Pk) (gs : List Int), CvOk vs k gs ps rs → loop body (st gs ps) = some (ex (delAll gs ps)) ∧ CvOk vs k (delAll gs ps) [] rs
  | [], gs, h => by rw [loop_eq, h0 gs h]; exact ⟨rfl, h⟩
  | p :: q, gs, h => by
    obtain ⟨e1, e2⟩ := del_loop st ex h0 h1 q _ h.deliver
    rw [loop_eq, h1 gs p q h]
    exact ⟨e1, e2⟩
theorem learn_loop {S X : Type} (st : Int → List Int → S) (ex : Int → X) {body : S → Option (S ⊕ X)}
    (h0 : ∀ k, CvOk vs k gs ps [] → body (st k []) = some (.inr (ex k))) (h1 : ∀ k r q, CvOk vs k gs ps (r :: q) → body (st k (r :: q)) = some (.inl (st (max k r) q))) :
    ∀ (rs : List Int) (k : Int), CvOk vs k gs ps rs → loop body (st k rs) = some (ex (learnAll k rs)) ∧ CvOk vs (learnAll k rs) gs ps []
  | [], k, h => by rw [loop_eq, h0 k h]; exact ⟨rfl, h⟩
  | r :: q, k, h => by
    obtain ⟨e1, e2⟩ := learn_loop st ex h0 h1 q _ h.learn
    rw [loop_eq, h1 k r q h]
    exact ⟨e1, e2⟩
theorem CvOk.lens (h : CvOk vs k gs ps rs) : vs.length ≤ 100 ∧ gs.length ≤ 100 ∧ List.length ps ≤ 100 ∧ rs.length ≤ 100 := ⟨by have := h.vl; omega, by have := h.vl; have := h.gl; omega, h.pl, h.rl⟩
/-! Runs. -/
/-- n steps: how many were possible, and what came of them. -/
def runN (vs : List Int) (s : Int × Int × List Int × Pk × List Int) (script : List Int) : Nat → Int × Int × List Int × Pk × List Int
  | 0 => s
  | n + 1 => let r := runN vs s script n
    let q := chStep vs r.2.1 r.2.2.1 r.2.2.2.1 r.2.2.2.2 (script.getD n 0)
    (if q.1 = true then r.1 + 1 else r.1, q.2)
theorem runN_ok (h : CvOk vs k gs ps rs) (script : List Int) : ∀ n, CvOk vs (runN vs (0, k, gs, ps, rs) script n).2.1 (runN vs (0, k, gs, ps, rs) script n).2.2.1 (runN vs (0, k, gs, ps, rs) script n).2.2.2.1 (runN vs (0, k, gs, ps, rs) script n).2.2.2.2 ∧
    0 ≤ (runN vs (0, k, gs, ps, rs) script n).1 ∧ (runN vs (0, k, gs, ps, rs) script n).1 ≤ n
  | 0 => ⟨h, by simp [runN], by simp [runN]⟩
  | n + 1 => by
    obtain ⟨h1, h2, h3⟩ := runN_ok h script n
    have h4 := chStep_ok (a := script.getD n 0) h1
    refine ⟨h4, ?_, ?_⟩ <;> simp only [runN] <;> split <;> omega
theorem impl_Run_eq {script : List Int} : impl_ChannelRun vs k gs ps rs script = some (if cvok vs k gs ps rs = true ∧ script.length ≤ 200 then
    (vs, (runN vs (0, k, gs, ps, rs) script script.length).2.1, (runN vs (0, k, gs, ps, rs) script script.length).2.2.1, (runN vs (0, k, gs, ps, rs) script script.length).2.2.2.1, (runN vs (0, k, gs, ps, rs) script script.length).2.2.2.2, (runN vs (0, k, gs, ps, rs) script script.length).1) else ([], 0, [], [], [], -1)) := by
  unfold impl_ChannelRun
  rw [impl_ChannelValid_eq]
  simp only [Option.bind_some]
  by_cases hc : cvok vs k gs ps rs = true ∧ script.length ≤ 200
  · rw [if_neg (by rw [hc.1]; simp; omega), if_pos hc]
    have h : CvOk vs k gs ps rs := yes_iff.1 hc.1
    have hl := hc.2
    rw [copied_eq h]
    simp only [Option.bind_some]
    have key : loop (impl_ChannelRun_b0 script vs) (0, 0, k, gs, ps, rs) = some (runN vs (0, k, gs, ps, rs) script script.length) := by
      refine gives_eq.1 ?_
      refine loop_to (fun j : Nat => ((runN vs (0, k, gs, ps, rs) script j).1, (j : Int), (runN vs (0, k, gs, ps, rs) script j).2)) (fun j => j ≤ script.length) (fun j => script.length - j) 0 rfl (Nat.zero_le _) ?_
      intro j hj
      obtain ⟨h1, h2, h3⟩ := runN_ok h script j
      simp only [impl_ChannelRun_b0]
      by_cases hlt : j < script.length
      · rw [if_pos (by simp only [decide_eq_true_eq]; omega)]
        unfold join
        dsimp only
        rw [chk_pos (by omega), Int.toNat_natCast, impl_do_eq h1, Option.bind_some]
        generalize hq : chStep vs (runN vs (0, k, gs, ps, rs) script j).2.1 (runN vs (0, k, gs, ps, rs) script j).2.2.1 (runN vs (0, k, gs, ps, rs) script j).2.2.2.1 (runN vs (0, k, gs, ps, rs) script j).2.2.2.2 (script.getD j 0) = q
        obtain ⟨q1, q2, q3, q4, q5⟩ := q
        have hn : runN vs (0, k, gs, ps, rs) script (j + 1) = (if q1 = true then (runN vs (0, k, gs, ps, rs) script j).1 + 1 else (runN vs (0, k, gs, ps, rs) script j).1, q2, q3, q4, q5) := by
          simp only [runN, hq]
        dsimp only
        by_cases hq1 : q1 = true
        · rw [if_pos hq1, chk_pos (by omega), chk_pos (by omega)]
          rw [if_pos hq1] at hn
          exact gives_some.2 ⟨j + 1, by omega, by omega, by rw [hn]; simp⟩
        · rw [if_neg hq1, chk_pos (by omega)]
          rw [if_neg hq1] at hn
          exact gives_some.2 ⟨j + 1, by omega, by omega, by rw [hn]; simp⟩
      · rw [if_neg (by simp only [decide_eq_true_eq]; omega), show j = script.length from by omega]
        exact gives_some.2 rfl
    rw [key]; rfl
  · rw [if_neg hc, if_pos]
    simp only [Bool.or_eq_true, Bool.not_eq_true', decide_eq_true_eq]
    by_cases h : cvok vs k gs ps rs = true
    · exact .inr (by have : ¬ script.length ≤ 200 := fun g => hc ⟨h, g⟩
                     omega)
    · exact .inl (by simpa using h)
theorem spec_Run_eq {script : List Int} (h1 : vs.length ≤ 1000000000) (h2 : gs.length ≤ 1000000000) (h3 : ps.length ≤ 1000000000) (h4 : rs.length ≤ 1000000000) : spec_ChannelRun vs k gs ps rs script = some (if cvok vs k gs ps rs = true ∧ script.length ≤ 200 then
    (vs, (runN vs (0, k, gs, ps, rs) script script.length).2.1, (runN vs (0, k, gs, ps, rs) script script.length).2.2.1, (runN vs (0, k, gs, ps, rs) script script.length).2.2.2.1, (runN vs (0, k, gs, ps, rs) script script.length).2.2.2.2, (runN vs (0, k, gs, ps, rs) script script.length).1) else ([], 0, [], [], [], -1)) := by
  unfold spec_ChannelRun
  rw [spec_ChannelValid_eq h1 h2 h3 h4]
  simp only [Option.bind_some]
  by_cases hc : cvok vs k gs ps rs = true ∧ script.length ≤ 200
  · rw [if_neg (by rw [hc.1]; simp; omega), if_pos hc]
    have h : CvOk vs k gs ps rs := yes_iff.1 hc.1
    have hl := hc.2
    let st : Int × Int × List Int × Pk × List Int → Int → Int × Int × Int × List Int × List Int × Pk × List Int := fun r j => (r.1, j, r.2.1, vs, r.2.2.1, r.2.2.2.1, r.2.2.2.2)
    have key : loop (spec_ChannelRun_b0 script) (0, 0, k, vs, gs, ps, rs) = some ((runN vs (0, k, gs, ps, rs) script script.length).1, (runN vs (0, k, gs, ps, rs) script script.length).2.1, vs, (runN vs (0, k, gs, ps, rs) script script.length).2.2.1, (runN vs (0, k, gs, ps, rs) script script.length).2.2.2.1, (runN vs (0, k, gs, ps, rs) script script.length).2.2.2.2) := by
      refine gives_eq.1 ?_
      refine loop_to (fun j : Nat => st (runN vs (0, k, gs, ps, rs) script j) (j : Int)) (fun j => j ≤ script.length) (fun j => script.length - j) 0 rfl (Nat.zero_le _) ?_
      intro j hj
      obtain ⟨h1, h2, h3⟩ := runN_ok h script j
      simp only [spec_ChannelRun_b0, st]
      by_cases hlt : j < script.length
      · rw [if_pos (by simp only [decide_eq_true_eq]; omega)]
        unfold join
        dsimp only
        rw [chk_pos (by omega), Int.toNat_natCast, spec_Step_ok h1, Option.bind_some]
        generalize hq : chStep vs (runN vs (0, k, gs, ps, rs) script j).2.1 (runN vs (0, k, gs, ps, rs) script j).2.2.1 (runN vs (0, k, gs, ps, rs) script j).2.2.2.1 (runN vs (0, k, gs, ps, rs) script j).2.2.2.2 (script.getD j 0) = q
        obtain ⟨q1, q2, q3, q4, q5⟩ := q
        have hn : runN vs (0, k, gs, ps, rs) script (j + 1) = (if q1 = true then (runN vs (0, k, gs, ps, rs) script j).1 + 1 else (runN vs (0, k, gs, ps, rs) script j).1, q2, q3, q4, q5) := by
          simp only [runN, hq]
        dsimp only [chOut]
        by_cases hq1 : q1 = true
        · subst hq1
          rw [if_pos rfl] at hn
          simp only [↓reduceIte]
          rw [chk_pos (by omega), chk_pos (by omega)]
          exact gives_some.2 ⟨j + 1, by omega, by omega, by rw [hn]; simp⟩
        · rw [if_neg hq1] at hn
          have hq2 : q1 = false := by simpa using hq1
          subst hq2
          simp only [Bool.false_eq_true, ↓reduceIte]
          rw [chk_pos (by omega)]
          exact gives_some.2 ⟨j + 1, by omega, by omega, by rw [hn]; simp⟩
      · rw [if_neg (by simp only [decide_eq_true_eq]; omega), show j = script.length from by omega]
        exact gives_some.2 rfl
    obtain ⟨b, _, _⟩ := runN_ok h script script.length
    obtain ⟨m1, m2, m3, m4⟩ := b.lens
    rw [key]
    simp only [Option.bind_some]
    rw [l16Copy_eq (by omega) (by omega) (by omega) (by omega)]
    rfl
  · rw [if_neg hc, if_pos]
    simp only [Bool.or_eq_true, Bool.not_eq_true', decide_eq_true_eq]
    by_cases h : cvok vs k gs ps rs = true
    · exact .inr (by have : ¬ script.length ≤ 200 := fun g => hc ⟨h, g⟩
                     omega)
    · exact .inl (by simpa using h)
theorem FnExactChannelRun_true {script : List Int} (h1 : vs.length ≤ 9223372036854775807) (h2 : gs.length ≤ 9223372036854775807) (h3 : ps.length ≤ 9223372036854775807) (h4 : rs.length ≤ 9223372036854775807) : laws_FnExactChannelRun vs k gs ps rs script = some true := by
  unfold laws_FnExactChannelRun
  by_cases hs : (1048576 : Int) < script.length
  · rw [if_pos (by simp only [decide_eq_true_eq]; exact hs)]
  rw [if_neg (by simp only [decide_eq_true_eq]; exact hs)]
  refine law_channel h1 h2 h3 h4 fun l1 l2 l3 l4 y => ?_
  have hres : ∃ vs' k' gs' ps' rs' n', (if cvok vs k gs ps rs = true ∧ script.length ≤ 200 then
      (vs, (runN vs (0, k, gs, ps, rs) script script.length).2.1, (runN vs (0, k, gs, ps, rs) script script.length).2.2.1, (runN vs (0, k, gs, ps, rs) script script.length).2.2.2.1, (runN vs (0, k, gs, ps, rs) script script.length).2.2.2.2, (runN vs (0, k, gs, ps, rs) script script.length).1) else ([], 0, [], [], [], -1)) = (vs', k', gs', ps', rs', n') ∧
      vs'.length ≤ 100 ∧ gs'.length ≤ 100 ∧ List.length ps' ≤ 100 ∧ rs'.length ≤ 100 := by
    by_cases h : cvok vs k gs ps rs = true ∧ script.length ≤ 200
    · rw [if_pos h]
      exact ⟨_, _, _, _, _, _, rfl, (runN_ok (yes_iff.1 h.1) script script.length).1.lens⟩
    · rw [if_neg h]
      exact ⟨_, _, _, _, _, _, rfl, by simp, by simp, by simp, by simp⟩
  obtain ⟨vs', k', gs', ps', rs', n', hr, b1, b2, b3, b4⟩ := hres
  simp only [toChannel_eq (k := k) (show vs.length ≤ 1000000000 by omega) (show gs.length ≤ 1000000000 by omega) (show ps.length ≤ 1000000000 by omega) (show rs.length ≤ 1000000000 by omega), Option.bind_some, toIntS_eq (ss := script) (by omega), eqIntS_eq (xs := script) (show script.length ≤ 1000000000 by omega),
    spec_Run_eq (k := k) (script := script) (show vs.length ≤ 1000000000 by omega) (show gs.length ≤ 1000000000 by omega) (show ps.length ≤ 1000000000 by omega) (show rs.length ≤ 1000000000 by omega), impl_Run_eq, hr,
    eqChannel_self (k := k') (show vs'.length ≤ 1000000000 by omega) (show gs'.length ≤ 1000000000 by omega) (show ps'.length ≤ 1000000000 by omega) (show rs'.length ≤ 1000000000 by omega),
    eqChannel_self (k := k) (show vs.length ≤ 1000000000 by omega) (show gs.length ≤ 1000000000 by omega) (show ps.length ≤ 1000000000 by omega) (show rs.length ≤ 1000000000 by omega),
    markChannel_eq (k := k) (m := 1) (show vs.length ≤ 10000000 by omega) (show gs.length ≤ 10000000 by omega) (show ps.length ≤ 10000000 by omega) (show rs.length ≤ 10000000 by omega) (by omega) (by omega),
    markIntS_eq (xs := script) (k := 1 + vs.length + gs.length + 2 * (ps.length : Int) + rs.length) (by omega) (by omega) (by omega),
    markChannel_eq (k := k') (m := 1) (show vs'.length ≤ 10000000 by omega) (show gs'.length ≤ 10000000 by omega) (show ps'.length ≤ 10000000 by omega) (show rs'.length ≤ 10000000 by omega) (by omega) (by omega),
    heldChannel_eq (k := k') (m := 1) (show vs'.length ≤ 10000000 by omega) (show gs'.length ≤ 10000000 by omega) (show ps'.length ≤ 10000000 by omega) (show rs'.length ≤ 10000000 by omega) (by omega) (by omega)]
  rw [if_neg (by simp), if_neg (by simp), if_neg (by simp), if_pos (by simp; omega)]
  simp only [Option.bind_some]
  rw [if_neg (by simp; omega), if_neg (by simp; omega), if_neg (by simp), if_neg (by simp), if_neg (by simp; omega), if_neg (by simp)]
end
end Go.Proofs.Ytncminpafiahpaa
