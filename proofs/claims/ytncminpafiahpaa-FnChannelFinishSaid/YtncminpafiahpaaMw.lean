/- Channels: finished ones. -/
import Derived.Test.YtncminpafiahpaaMv
set_option linter.unusedSimpArgs false
set_option linter.unusedVariables false
namespace Go.Proofs.Ytncminpafiahpaa
open Go Go.Av
attribute [local go_sem] gives_chk gives_ite gives_some gives_bind gives_join Sum.elim_inl Sum.elim_inr decide_eq_true_eq decide_eq_false_iff_not Bool.not_eq_true' Bool.not_eq_false' Bool.or_eq_true Bool.and_eq_true Bool.not_eq_eq_eq_not beq_iff_eq bne_iff_ne ne_eq Bool.or_eq_false_iff Bool.and_eq_false_iff Bool.not_eq_true Bool.not_eq_false Bool.not_true Bool.not_false Int.toNat_natCast beq_eq_false_iff_ne bne_eq_false_iff_eq Decidable.not_not Bool.default_bool

theorem delAll_app (a b : Pk) : ∀ gs, delAll gs (a ++ b) = delAll (delAll gs a) b := by
  induction a with
  | nil => intro gs; rfl
  | cons p q ih => intro gs; exact ih _
theorem delAll_send (vs gs : List Int) : ∀ m, delAll gs (sendL vs gs.length m) = gs ++ mks (fun j => vs.getD (gs.length + j) 0) m
  | 0 => by simp [sendL, mks, delAll]
  | m + 1 => by
    rw [sendL_succ, delAll_app, delAll_send vs gs m, mks_succ, ← List.append_assoc]
    have hl : (gs ++ mks (fun j => vs.getD (gs.length + j) 0) m).length = gs.length + m := by rw [List.length_append, mks_len]
    simp only [delAll, hl, ↓reduceIte]
/-- What has been got behind a round. -/
def roundG (vs gs : List Int) : List Int := delAll gs (sendL vs gs.length (ahead vs gs.length))
theorem roundG_len (vs gs : List Int) : (roundG vs gs).length = gs.length + ahead vs gs.length := by
  unfold roundG
  rw [delAll_send, List.length_append, mks_len]
section
variable {vs gs rs : List Int} {k : Int} {ps : Pk}
theorem roundG_ok (h : CvOk vs k gs [] []) : CvOk vs gs.length gs [] [] ∧ CvOk vs gs.length gs (sendL vs gs.length (ahead vs gs.length)) [] ∧ CvOk vs gs.length (roundG vs gs) [] [] ∧
    chStep vs k gs [] [] 5 = (true, k, gs, [], [(gs.length : Int)]) ∧ chStep vs k gs [] [(gs.length : Int)] 6 = (true, (gs.length : Int), gs, [], []) ∧ (chStep vs gs.length gs [] [] 0).2 = ((gs.length : Int), gs, sendL vs gs.length (ahead vs gs.length), []) := by
  have h5 : chStep vs k gs [] [] 5 = (true, k, gs, [], [(gs.length : Int)]) := by simp [chStep]
  have hk : max k (gs.length : Int) = gs.length := by have := h.k1; omega
  have h6 : chStep vs k gs [] [(gs.length : Int)] 6 = (true, (gs.length : Int), gs, [], []) := by simp [chStep, hk]
  have g5 := chStep_ok (a := 5) h
  rw [h5] at g5
  have g6 := chStep_ok (a := 6) g5
  rw [h6] at g6
  have hm : ahead vs gs.length ≤ 3 := by have := h.gl; unfold ahead; omega
  have h0 : (chStep vs gs.length gs [] [] 0).2 = ((gs.length : Int), gs, sendL vs gs.length (ahead vs gs.length), []) := by
    unfold chStep
    rw [if_pos rfl]
    by_cases ha : ahead vs gs.length = 0
    · rw [if_pos (.inl ha), ha]; simp [sendL, mks]
    · rw [if_neg (by simp; omega)]; simp
  have g0 := chStep_ok (a := 0) g6
  rw [h0] at g0
  have gq := (impl_quiet_eq g0).2
  exact ⟨g6, g0, by simpa [learnAll, roundG] using gq, h5, h6, h0⟩
/-- Rounds, at most n. -/
def finF (vs : List Int) : Nat → Int × Int × List Int → Int × Int × List Int
  | 0, s => s
  | n + 1, s => if s.2.1 = vs.length then s else finF vs n (s.1 + 1, s.2.2.length, roundG vs s.2.2)
def finM (vs : List Int) (k : Int) (gs : List Int) : Nat := (2 * (vs.length : Int) - k - gs.length).toNat
theorem finM_less (h : CvOk vs k gs [] []) (hk : ¬ k = vs.length) : finM vs gs.length (roundG vs gs) < finM vs k gs := by
  have h1 := h.gl; have h2 := h.k1; have h3 := h.k0
  have h4 := roundG_len vs gs
  have h5 : ahead vs gs.length = (min ((gs.length : Int) + 3) (vs.length : Int) - gs.length).toNat := rfl
  unfold finM; omega
/-- Where rounds lead. -/
theorem finF_end : ∀ (n : Nat) (t : Int) (k : Int) (gs : List Int), CvOk vs k gs [] [] → finM vs k gs ≤ n → 0 ≤ t → (t ≤ gs.length ∨ k = vs.length ∧ t ≤ vs.length + 1) →
    (finF vs n (t, k, gs)).2.1 = vs.length ∧ (finF vs n (t, k, gs)).2.2 = vs ∧ 0 ≤ (finF vs n (t, k, gs)).1 ∧ (finF vs n (t, k, gs)).1 ≤ vs.length + 1
  | n, t, k, gs, h, hn, h0, ht => by
    have h1 := h.gl; have h2 := h.k1; have h3 := h.k0
    by_cases hk : k = vs.length
    · have e : finF vs n (t, k, gs) = (t, k, gs) := by
        cases n with
        | zero => rfl
        | succ n => simp [finF, hk]
      rw [e]
      have hl : gs.length = vs.length := by omega
      refine ⟨hk, ?_, h0, by simp only; omega⟩
      exact list_eq_of (d := 0) hl h.gr
    · cases n with
      | zero =>
        unfold finM at hn
        exact absurd hk (by omega)
      | succ n =>
        have hless := finM_less h hk
        have h4 := roundG_len vs gs
        have h5 : ahead vs gs.length = (min ((gs.length : Int) + 3) (vs.length : Int) - gs.length).toNat := rfl
        simp only [finF, hk, ↓reduceIte]
        exact finF_end n (t + 1) gs.length (roundG vs gs) (roundG_ok h).2.2.1 (by omega) (by omega) (by
          by_cases hg : gs.length = vs.length
          · exact .inr ⟨by omega, by omega⟩
          · exact .inl (by omega))
theorem finF_more (n : Nat) (t k : Int) (gs : List Int) (h : CvOk vs k gs [] []) (hn : finM vs k gs ≤ n) : finF vs n (t, k, gs) = if k = vs.length then (t, k, gs) else finF vs (finM vs gs.length (roundG vs gs)) (t + 1, gs.length, roundG vs gs) := by
  have same : ∀ (n m : Nat) (t k : Int) (gs : List Int), CvOk vs k gs [] [] → finM vs k gs ≤ n → finM vs k gs ≤ m → finF vs n (t, k, gs) = finF vs m (t, k, gs) := by
    intro n
    induction n with
    | zero =>
      intro m t k gs h hn hm
      have hk : k = vs.length := by have h1 := h.gl; have h2 := h.k1; unfold finM at hn; omega
      cases m <;> simp [finF, hk]
    | succ n ih =>
      intro m t k gs h hn hm
      by_cases hk : k = vs.length
      · cases m <;> simp [finF, hk]
      · have hless := finM_less h hk
        cases m with
        | zero => omega
        | succ m =>
          simp only [finF, hk, ↓reduceIte]
          exact ih m _ _ _ (roundG_ok h).2.2.1 (by omega) (by omega)
  by_cases hk : k = vs.length
  · rw [if_pos hk]
    cases n <;> simp [finF, hk]
  · rw [if_neg hk]
    have hless := finM_less h hk
    cases n with
    | zero => omega
    | succ n =>
      simp only [finF, hk, ↓reduceIte]
      exact same n _ _ _ _ (roundG_ok h).2.2.1 (by omega) (Nat.le_refl _)
/-- A finished channel: the rounds. -/
def finT (vs : List Int) (k : Int) (gs : List Int) (ps : Pk) (rs : List Int) : Int := (finF vs (finM vs (learnAll k rs) (delAll gs ps)) (0, learnAll k rs, delAll gs ps)).1
theorem fin_ends (h : CvOk vs k gs ps rs) : finF vs (finM vs (learnAll k rs) (delAll gs ps)) (0, learnAll k rs, delAll gs ps) = (finT vs k gs ps rs, (vs.length : Int), vs) ∧ 0 ≤ finT vs k gs ps rs ∧ finT vs k gs ps rs ≤ vs.length + 1 := by
  have hq := (impl_quiet_eq h).2
  obtain ⟨e1, e2, e3, e4⟩ := finF_end (finM vs (learnAll k rs) (delAll gs ps)) 0 (learnAll k rs) (delAll gs ps) hq (Nat.le_refl _) (Int.le_refl _) (.inl (by omega))
  refine ⟨?_, e3, e4⟩
  unfold finT
  generalize finF vs (finM vs (learnAll k rs) (delAll gs ps)) (0, learnAll k rs, delAll gs ps) = r at e1 e2 ⊢
  obtain ⟨r1, r2, r3⟩ := r
  simp only at e1 e2 ⊢
  subst e1 e2; rfl
theorem impl_Finish_eq : impl_ChannelFinish vs k gs ps rs = some (if cvok vs k gs ps rs = true then (vs, (vs.length : Int), vs, [], [], finT vs k gs ps rs) else ([], 0, [], [], [], -1)) := by
  unfold impl_ChannelFinish
  rw [impl_ChannelValid_eq]
  by_cases h : CvOk vs k gs ps rs
  · obtain ⟨hq1, hq2⟩ := impl_quiet_eq h
    obtain ⟨hf1, hf2, hf3⟩ := fin_ends h
    have hv := h.vl
    rw [cvok, yes_true h, copied_eq h]
    simp only [Option.bind_some, Bool.not_true, Bool.false_eq_true, ↓reduceIte, hq1]
    have key : loop (impl_ChannelFinish_b0 vs) (0, learnAll k rs, delAll gs ps, [], []) = some (finT vs k gs ps rs, (vs.length : Int), vs, [], []) := by
      refine gives_eq.1 ?_
      refine loop_to (fun s : Int × Int × List Int => (s.1, s.2.1, s.2.2, [], [])) (fun s => CvOk vs s.2.1 s.2.2 [] [] ∧ 0 ≤ s.1 ∧ (s.1 ≤ s.2.2.length ∨ s.2.1 = vs.length ∧ s.1 ≤ vs.length + 1) ∧ finF vs (finM vs s.2.1 s.2.2) s = (finT vs k gs ps rs, (vs.length : Int), vs)) (fun s => finM vs s.2.1 s.2.2) (0, learnAll k rs, delAll gs ps) rfl ⟨hq2, by simp, .inl (by simp), hf1⟩ ?_
      rintro ⟨t, k1, g1⟩ ⟨c1, c2, c3, c4⟩
      simp only at c1 c2 c3 c4
      obtain ⟨r1, r2, r3, r4, r5, r6⟩ := roundG_ok c1
      have hgl := c1.gl
      have hm := finF_more _ t k1 g1 c1 (Nat.le_refl _)
      rw [c4] at hm
      unfold impl_ChannelFinish_b0 impl_Channel_done
      dsimp only
      rw [Option.bind_some]
      by_cases hk : k1 = vs.length
      · rw [if_pos hk] at hm
        simp only [Prod.mk.injEq] at hm
        obtain ⟨m1, m2, m3⟩ := hm
        subst m1
        rw [if_neg (by simp [hk])]
        exact gives_some.2 (by rw [hk, ← m3])
      · rw [if_neg hk] at hm
        rw [if_pos (by simp [hk]), impl_do_eq c1, r4]
        rw [Option.bind_some]
        dsimp only
        have g5 := chStep_ok (a := 5) c1
        rw [r4] at g5
        rw [impl_do_eq g5, r5]
        rw [Option.bind_some]
        dsimp only
        rw [impl_do_eq r1]
        obtain ⟨b0, hb0⟩ : ∃ b, chStep vs g1.length g1 [] [] 0 = (b, (g1.length : Int), g1, sendL vs g1.length (ahead vs g1.length), []) := ⟨_, Prod.ext rfl r6⟩
        rw [hb0]
        rw [Option.bind_some]
        dsimp only
        rw [(impl_quiet_eq r2).1]
        rw [Option.bind_some]
        dsimp only [learnAll]
        rw [chk_pos (by omega)]
        have h4 := roundG_len vs g1
        have h5 : ahead vs g1.length = (min ((g1.length : Int) + 3) (vs.length : Int) - g1.length).toNat := rfl
        refine gives_some.2 ⟨(t + 1, g1.length, roundG vs g1), ⟨r3, by simp only; omega, ?_, hm.symm⟩, finM_less c1 hk, rfl⟩
        simp only
        by_cases hg : g1.length = vs.length
        · exact .inr ⟨by omega, by omega⟩
        · exact .inl (by omega)
    rw [key]; rfl
  · rw [cvok, yes_false h]; rfl
theorem spec_Done_eq (h : CvOk vs k gs ps rs) : spec_ChannelDone vs k gs ps rs = some (decide (k = vs.length)) := by
  obtain ⟨l1, l2, l3, l4⟩ := h.lens
  unfold spec_ChannelDone
  rw [spec_ChannelValid_eq (by omega) (by omega) (by omega) (by omega), cvok, yes_true h]
  simp only [Option.bind_some, Bool.true_and]
  rfl
theorem ownChannel_eq (h1 : vs.length ≤ 1000000000) (h2 : gs.length ≤ 1000000000) (h3 : ps.length ≤ 1000000000) (h4 : rs.length ≤ 1000000000) : spec_l1OwnChannel vs k gs ps rs = some (vs, k, gs, ps, rs) := by
  unfold spec_l1OwnChannel
  rw [chk_pos (by omega), chk_pos (by omega), chk_pos (by omega), chk_pos (by omega)]; rfl
theorem spec_Finish_eq (h1 : vs.length ≤ 1000000000) (h2 : gs.length ≤ 1000000000) (h3 : ps.length ≤ 1000000000) (h4 : rs.length ≤ 1000000000) :
    spec_ChannelFinish vs k gs ps rs = some (if cvok vs k gs ps rs = true then (vs, (vs.length : Int), vs, [], [], finT vs k gs ps rs) else ([], 0, [], [], [], -1)) := by
  unfold spec_ChannelFinish
  rw [ownChannel_eq h1 h2 h3 h4]
  simp only [Option.bind_some]
  rw [spec_ChannelValid_eq h1 h2 h3 h4]
  by_cases h : CvOk vs k gs ps rs
  · obtain ⟨hq1, hq2⟩ := impl_quiet_eq h
    obtain ⟨hf1, hf2, hf3⟩ := fin_ends h
    have hv := h.vl
    rw [cvok, yes_true h]
    simp only [Option.bind_some, Bool.not_true, Bool.false_eq_true, ↓reduceIte, spec_Quiet_ok h]
    have key : loop spec_ChannelFinish_b0 (0, learnAll k rs, vs, delAll gs ps, [], []) = some (finT vs k gs ps rs, (vs.length : Int), vs, vs, [], []) := by
      refine gives_eq.1 ?_
      refine loop_to (fun s : Int × Int × List Int => (s.1, s.2.1, vs, s.2.2, [], [])) (fun s => CvOk vs s.2.1 s.2.2 [] [] ∧ 0 ≤ s.1 ∧ (s.1 ≤ s.2.2.length ∨ s.2.1 = vs.length ∧ s.1 ≤ vs.length + 1) ∧ finF vs (finM vs s.2.1 s.2.2) s = (finT vs k gs ps rs, (vs.length : Int), vs)) (fun s => finM vs s.2.1 s.2.2) (0, learnAll k rs, delAll gs ps) rfl ⟨hq2, by simp, .inl (by simp), hf1⟩ ?_
      rintro ⟨t, k1, g1⟩ ⟨c1, c2, c3, c4⟩
      simp only at c1 c2 c3 c4
      obtain ⟨r1, r2, r3, r4, r5, r6⟩ := roundG_ok c1
      have hgl := c1.gl
      have hm := finF_more _ t k1 g1 c1 (Nat.le_refl _)
      rw [c4] at hm
      unfold spec_ChannelFinish_b0
      dsimp only
      rw [spec_Done_eq c1, Option.bind_some]
      by_cases hk : k1 = vs.length
      · rw [if_pos hk] at hm
        simp only [Prod.mk.injEq] at hm
        obtain ⟨m1, m2, m3⟩ := hm
        subst m1
        rw [if_neg (by simp [hk])]
        exact gives_some.2 (by rw [hk, ← m3])
      · rw [if_neg hk] at hm
        rw [if_pos (by simp [hk]), spec_Step_ok c1, r4]
        rw [Option.bind_some]
        dsimp only [chOut]
        have g5 := chStep_ok (a := 5) c1
        rw [r4] at g5
        rw [spec_Step_ok g5, r5]
        rw [Option.bind_some]
        dsimp only [chOut]
        rw [spec_Step_ok r1]
        obtain ⟨b0, hb0⟩ : ∃ b, chStep vs g1.length g1 [] [] 0 = (b, (g1.length : Int), g1, sendL vs g1.length (ahead vs g1.length), []) := ⟨_, Prod.ext rfl r6⟩
        rw [hb0]
        rw [Option.bind_some]
        dsimp only [chOut]
        rw [spec_Quiet_ok r2]
        rw [Option.bind_some]
        dsimp only [learnAll]
        rw [chk_pos (by omega)]
        have h4 := roundG_len vs g1
        have h5 : ahead vs g1.length = (min ((g1.length : Int) + 3) (vs.length : Int) - g1.length).toNat := rfl
        refine gives_some.2 ⟨(t + 1, g1.length, roundG vs g1), ⟨r3, by simp only; omega, ?_, hm.symm⟩, finM_less c1 hk, rfl⟩
        simp only
        by_cases hg : g1.length = vs.length
        · exact .inr ⟨by omega, by omega⟩
        · exact .inl (by omega)
    rw [key]; rfl
  · rw [cvok, yes_false h]; rfl
end
end Go.Proofs.Ytncminpafiahpaa
