/- Channels: quiet ones, runs, finished ones. -/
import Derived.Test.YtncminpafiahpaaMu
set_option linter.unusedSimpArgs false
set_option linter.unusedVariables false
namespace Go.Proofs.Ytncminpafiahpaa
open Go Go.Av
attribute [local go_sem] gives_chk gives_ite gives_some gives_bind gives_join Sum.elim_inl Sum.elim_inr decide_eq_true_eq decide_eq_false_iff_not Bool.not_eq_true' Bool.not_eq_false' Bool.or_eq_true Bool.and_eq_true Bool.not_eq_eq_eq_not beq_iff_eq bne_iff_ne ne_eq Bool.or_eq_false_iff Bool.and_eq_false_iff Bool.not_eq_true Bool.not_eq_false Bool.not_true Bool.not_false Int.toNat_natCast beq_eq_false_iff_ne bne_eq_false_iff_eq Decidable.not_not Bool.default_bool

/-- All packets are delivered. -/
def delAll (gs : List Int) : Pk → List Int
  | [] => gs
  | p :: q => delAll (if p.1 = gs.length then gs ++ [p.2] else gs) q
/-- All receipts are read. -/
def learnAll (k : Int) : List Int → Int
  | [] => k
  | r :: q => learnAll (max k r) q
section
variable {vs gs rs : List Int} {k : Int} {ps : Pk}
theorem CvOk.deliver {p : Int × Int} {q : Pk} (h : CvOk vs k gs (p :: q) rs) : CvOk vs k (if p.1 = gs.length then gs ++ [p.2] else gs) q rs := by
  have := chStep_ok (a := 1) h
  simpa [chStep] using this
theorem CvOk.learn {r : Int} {q : List Int} (h : CvOk vs k gs ps (r :: q)) : CvOk vs (max k r) gs ps q := by
  have := chStep_ok (a := 6) h
  simpa [chStep] using this
theorem step1_cons {p : Int × Int} {q : Pk} : chStep vs k gs (p :: q) rs 1 = (true, k, if p.1 = gs.length then gs ++ [p.2] else gs, q, rs) := by simp [chStep]
theorem step1_nil : chStep vs k gs [] rs 1 = (false, k, gs, [], rs) := by simp [chStep]
theorem step6_cons {r : Int} {q : List Int} : chStep vs k gs ps (r :: q) 6 = (true, max k r, gs, ps, q) := by simp [chStep]
theorem step6_nil : chStep vs k gs ps [] 6 = (false, k, gs, ps, []) := by simp [chStep]
theorem del_loop {S X : Type} (st : List Int → Pk → S) (ex : List Int → X) {body : S → Option (S ⊕ X)}
    (h0 : ∀ gs, CvOk vs k gs [] rs → body (st gs []) = some (.inr (ex gs))) (h1 : ∀ gs p q, CvOk vs k gs (p :: q) rs → body (st gs (p :: q)) = some (.inl (st (if p.1 = gs.length then gs ++ [p.2] else gs) q))) :
    ∀ (ps : Pk) (gs : List Int), CvOk vs k gs ps rs → loop body (st gs ps) = some (ex (delAll gs ps)) ∧ CvOk vs k (delAll gs ps) [] rs
  | [], gs, h => by rw [loop_eq, h0 gs h]; exact ⟨rfl, h⟩
  | p :: q, gs, h => by
    obtain ⟨e1, e2⟩ := del_loop st ex h0 h1 q _ h.deliver
    rw [loop_eq, h1 gs p q h]
    exact ⟨e1, e2⟩
theorem learn_loop {S X : Type} (st : Int → List Int → S) (ex : Int → X) {body : S → Option (S ⊕ X)}
    (h0 : ∀ k, CvOk vs k gs ps [] → body (st k []) = some (.inr (ex k))) (h1 : ∀ k r q, CvOk vs k gs ps (r :: q) → body (st k (r :: q)) = some (.inl (st (max k r) q))) :
    ∀ (rs : List Int) (k : Int), CvOk vs k gs ps rs → loop body (st k rs) = some (ex (learnAll k rs)) ∧ CvOk vs (learnAll k rs) gs ps []
  | [], k, h => by rw [loop_eq, h0 k h]; exact ⟨rfl, h⟩
  | r :: q, k, h => by
    obtain ⟨e1, e2⟩ := learn_loop st ex h0 h1 q _ h.learn
    rw [loop_eq, h1 k r q h]
    exact ⟨e1, e2⟩
theorem impl_quiet_eq (h : CvOk vs k gs ps rs) : impl_Channel_quiet vs k gs ps rs = some (learnAll k rs, delAll gs ps, [], []) ∧ CvOk vs (learnAll k rs) (delAll gs ps) [] [] := by
  unfold impl_Channel_quiet
  obtain ⟨e1, e2⟩ := del_loop (vs := vs) (k := k) (rs := rs) (body := impl_Channel_quiet_b0 vs) (fun gs ps => (k, gs, ps, rs)) (fun gs => (k, gs, [], rs)) (fun gs h => by
    simp only [impl_Channel_quiet_b0, impl_do_eq h, step1_nil, Option.bind_some, Bool.false_eq_true, ↓reduceIte]) (fun gs p q h => by
    simp only [impl_Channel_quiet_b0, impl_do_eq h, step1_cons, Option.bind_some, ↓reduceIte]) ps gs h
  obtain ⟨e3, e4⟩ := learn_loop (vs := vs) (gs := delAll gs ps) (ps := []) (body := impl_Channel_quiet_b1 vs) (fun k rs => (k, delAll gs ps, [], rs)) (fun k => (k, delAll gs ps, [], [])) (fun k h => by
    simp only [impl_Channel_quiet_b1, impl_do_eq h, step6_nil, Option.bind_some, Bool.false_eq_true, ↓reduceIte]) (fun k r q h => by
    simp only [impl_Channel_quiet_b1, impl_do_eq h, step6_cons, Option.bind_some, ↓reduceIte]) rs k e2
  refine ⟨?_, e4⟩
  simp only [e1, e3, Option.bind_some]
theorem CvOk.lens (h : CvOk vs k gs ps rs) : vs.length ≤ 100 ∧ gs.length ≤ 100 ∧ List.length ps ≤ 100 ∧ rs.length ≤ 100 := ⟨by have := h.vl; omega, by have := h.vl; have := h.gl; omega, h.pl, h.rl⟩
theorem spec_Quiet_ok (h : CvOk vs k gs ps rs) : spec_ChannelQuiet vs k gs ps rs = some (vs, learnAll k rs, delAll gs ps, [], []) := by
  obtain ⟨l1, l2, l3, l4⟩ := h.lens
  unfold spec_ChannelQuiet
  rw [spec_ChannelValid_eq (by omega) (by omega) (by omega) (by omega), cvok, yes_true h]
  simp only [Option.bind_some, Bool.not_true, Bool.false_eq_true, ↓reduceIte]
  obtain ⟨e1, e2⟩ := del_loop (vs := vs) (k := k) (rs := rs) (body := spec_ChannelQuiet_b0) (fun gs ps => (k, vs, gs, ps, rs)) (fun gs => (k, vs, gs, [], rs)) (fun gs h => by
    simp [spec_ChannelQuiet_b0]) (fun gs p q h => by
    simp only [spec_ChannelQuiet_b0, spec_Step_ok h, step1_cons, chOut, Option.bind_some]
    rw [if_pos (by simp)]) ps gs h
  obtain ⟨e3, e4⟩ := learn_loop (vs := vs) (gs := delAll gs ps) (ps := []) (body := spec_ChannelQuiet_b1) (fun k rs => (k, vs, delAll gs ps, [], rs)) (fun k => (k, vs, delAll gs ps, [], [])) (fun k h => by
    simp [spec_ChannelQuiet_b1]) (fun k r q h => by
    simp only [spec_ChannelQuiet_b1, spec_Step_ok h, step6_cons, chOut, Option.bind_some]
    rw [if_pos (by simp)]) rs k e2
  obtain ⟨m1, m2, m3, m4⟩ := e4.lens
  simp only [e1, e3, Option.bind_some, l16Copy_eq (k := learnAll k rs) (show vs.length ≤ 1000000000 by omega) (show (delAll gs ps).length ≤ 1000000000 by omega) (show List.length ([] : Pk) ≤ 1000000000 by simp) (show List.length ([] : List Int) ≤ 1000000000 by simp)]
theorem spec_Quiet_eq (h1 : vs.length ≤ 1000000000) (h2 : gs.length ≤ 1000000000) (h3 : ps.length ≤ 1000000000) (h4 : rs.length ≤ 1000000000) :
    spec_ChannelQuiet vs k gs ps rs = some (if cvok vs k gs ps rs = true then (vs, learnAll k rs, delAll gs ps, [], []) else ([], 0, [], [], [])) := by
  by_cases h : CvOk vs k gs ps rs
  · rw [spec_Quiet_ok h, cvok, yes_true h]; rfl
  · unfold spec_ChannelQuiet
    rw [spec_ChannelValid_eq h1 h2 h3 h4, cvok, yes_false h]; rfl
/-! Runs. -/
/-- n steps: how many were possible, and what came of them. -/
def runN (vs : List Int) (s : Int × Int × List Int × Pk × List Int) (script : List Int) : Nat → Int × Int × List Int × Pk × List Int
  | 0 => s
  | n + 1 => let r := runN vs s script n
    let q := chStep vs r.2.1 r.2.2.1 r.2.2.2.1 r.2.2.2.2 (script.getD n 0)
    (if q.1 = true then r.1 + 1 else r.1, q.2)
theorem runN_ok (h : CvOk vs k gs ps rs) (script : List Int) : ∀ n, CvOk vs (runN vs (0, k, gs, ps, rs) script n).2.1 (runN vs (0, k, gs, ps, rs) script n).2.2.1 (runN vs (0, k, gs, ps, rs) script n).2.2.2.1 (runN vs (0, k, gs, ps, rs) script n).2.2.2.2 ∧
    0 ≤ (runN vs (0, k, gs, ps, rs) script n).1 ∧ (runN vs (0, k, gs, ps, rs) script n).1 ≤ n
  | 0 => ⟨h, by simp [runN], by simp [runN]⟩
  | n + 1 => by
    obtain ⟨h1, h2, h3⟩ := runN_ok h script n
    have h4 := chStep_ok (a := script.getD n 0) h1
    refine ⟨h4, ?_, ?_⟩ <;> simp only [runN] <;> split <;> omega
end
end Go.Proofs.Ytncminpafiahpaa
