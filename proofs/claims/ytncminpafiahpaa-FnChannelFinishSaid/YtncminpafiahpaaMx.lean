/- Channels that are drawn, and what comes in the end. -/
import Derived.Test.YtncminpafiahpaaMw
set_option linter.unusedSimpArgs false
set_option linter.unusedVariables false
namespace Go.Proofs.Ytncminpafiahpaa
open Go Go.Av
attribute [local go_sem] gives_chk gives_ite gives_some gives_bind gives_join Sum.elim_inl Sum.elim_inr decide_eq_true_eq decide_eq_false_iff_not Bool.not_eq_true' Bool.not_eq_false' Bool.or_eq_true Bool.and_eq_true Bool.not_eq_eq_eq_not beq_iff_eq bne_iff_ne ne_eq Bool.or_eq_false_iff Bool.and_eq_false_iff Bool.not_eq_true Bool.not_eq_false Bool.not_true Bool.not_false Int.toNat_natCast beq_eq_false_iff_ne bne_eq_false_iff_eq Decidable.not_not Bool.default_bool

theorem Ints_ok {b : List Int} {p : Int} (hb : Bts b) (hp : 0 ≤ p ∧ p ≤ 900000) : gives (spec_l20Ints b p 9) fun r => r.1.length ≤ 8 ∧ 0 ≤ r.2 ∧ r.2 ≤ p + 20 := by
  unfold spec_l20Ints
  rw [gives_bind]
  refine (pick_ok hb ⟨by omega, by omega⟩).mono ?_
  rintro ⟨y0, p0⟩ ⟨e0, h0⟩
  simp only at e0 h0 ⊢
  rw [gives_bind]
  refine (loop_to (Q := fun x : Int × List Int => (0 ≤ x.1 ∧ x.1 ≤ p + 20) ∧ x.2.length ≤ 8) (fun s : Nat × Int × List Int => ((s.1 : Int), s.2.1, s.2.2))
    (fun s => s.1 ≤ 8 ∧ (0 ≤ s.2.1 ∧ s.2.1 ≤ p + 20 - 2 * s.1) ∧ s.2.2.length ≤ 8 - s.1) (fun s => s.1) (y0.toNat, p0, []) (by simp only; rw [show ((y0.toNat : Nat) : Int) = y0 from by omega]) ⟨by simp only; omega, by simp only; omega, by simp⟩ ?_).mono ?_
  · rintro ⟨k, q, l⟩ ⟨hk, hq, hl⟩
    simp only at hk hq hl
    unfold spec_l20Ints_b0
    dsimp only
    rw [gives_ite]
    refine ⟨fun hc => ?_, fun hc => gives_some.2 ⟨by simp only; omega, by simp only; omega⟩⟩
    have hc := of_decide_eq_true hc
    rw [gives_bind]
    refine (pick_ok hb ⟨by omega, by omega⟩).mono ?_
    rintro ⟨y1, p1⟩ ⟨e1, h1⟩
    simp only at e1 h1 ⊢
    rw [gives_bind]
    refine (pick_ok hb ⟨by omega, by omega⟩).mono ?_
    rintro ⟨y2, p2⟩ ⟨e2, h2⟩
    simp only at e2 h2 ⊢
    rw [gives_chk, gives_chk, gives_chk, gives_chk]
    refine ⟨by omega, by omega, by omega, by omega, gives_some.2 ⟨(k - 1, p2, l ++ [y1 - y2 / 8]), ⟨by simp only; omega, by simp only; omega, by simp only [List.length_append, List.length_singleton]; omega⟩, by simp only; omega, ?_⟩⟩
    simp only
    rw [show ((k - 1 : Nat) : Int) = (k : Int) - 1 from by omega]
  · rintro ⟨q, l⟩ ⟨hq, hl⟩
    exact gives_some.2 ⟨hl, hq⟩
/-- Short channels. -/
def Sh (c : List Int × Int × List Int × Pk × List Int) : Prop := c.1.length ≤ 100 ∧ c.2.2.1.length ≤ 100 ∧ List.length c.2.2.2.1 ≤ 100 ∧ c.2.2.2.2.length ≤ 100
theorem Of_ok {xs : List Int} (h : xs.length ≤ 100) : gives (spec_ChannelOf xs) Sh := by
  unfold spec_ChannelOf
  rw [gives_chk, gives_bind, spec_ChannelValid_eq (by simp; omega) (by simp) (by simp) (by simp), gives_some, gives_ite]
  exact ⟨by omega, fun _ => gives_some.2 ⟨by simp, by simp, by simp, by simp⟩, fun _ => gives_some.2 ⟨by simpa using h, by simp, by simp, by simp⟩⟩
theorem Step_sh {vs gs rs : List Int} {k a : Int} {ps : Pk} (h : Sh (vs, k, gs, ps, rs)) : gives (spec_ChannelStep vs k gs ps rs a) fun r => Sh (r.1, r.2.1, r.2.2.1, r.2.2.2.1, r.2.2.2.2.1) := by
  obtain ⟨h1, h2, h3, h4⟩ := h
  simp only at h1 h2 h3 h4
  rw [spec_Step_eq (by omega) (by omega) (by omega) (by omega), gives_some]
  by_cases hc : CvOk vs k gs ps rs
  · rw [cvok, yes_true hc]
    exact (chStep_ok (a := a) hc).lens
  · rw [cvok, yes_false hc]
    exact ⟨by simp, by simp, by simp, by simp⟩
theorem Channel_ok {b : List Int} {p n : Int} (hb : Bts b) (hp : 0 ≤ p ∧ p ≤ 800000) : gives (spec_l20Channel b p n) fun r => r.1.length ≤ 101 ∧ r.2.2.1.length ≤ 101 ∧ List.length r.2.2.2.1 ≤ 101 ∧ r.2.2.2.2.1.length ≤ 101 := by
  unfold spec_l20Channel
  rw [gives_bind]
  refine (Ints_ok hb ⟨by omega, by omega⟩).mono ?_
  rintro ⟨y0, p0⟩ ⟨e0, h0⟩
  simp only at e0 h0 ⊢
  rw [gives_bind]
  refine (Of_ok (by omega)).mono ?_
  rintro ⟨c0, c1, c2, c3, c4⟩ _
  try simp only
  rw [gives_bind]
  refine (pick_ok hb ⟨by omega, by omega⟩).mono ?_
  rintro ⟨y1, p1⟩ ⟨e1, h1⟩
  simp only at e1 h1 ⊢
  rw [gives_bind]
  refine (loop_to (Q := fun x : Int × List Int => (0 ≤ x.1 ∧ x.1 ≤ p + 40) ∧ x.2.length ≤ 8) (fun s : Nat × Int × List Int => ((s.1 : Int), s.2.1, s.2.2))
    (fun s => s.1 ≤ 8 ∧ (0 ≤ s.2.1 ∧ s.2.1 ≤ p + 40 - s.1) ∧ s.2.2.length ≤ 8 - s.1) (fun s => s.1) (y1.toNat, p1, []) (by simp only; rw [show ((y1.toNat : Nat) : Int) = y1 from by omega]) ⟨by simp only; omega, by simp only; omega, by simp⟩ ?_).mono ?_
  · rintro ⟨k, q, l⟩ ⟨hk, hq, hl⟩
    simp only at hk hq hl
    unfold spec_l20Channel_b0
    dsimp only
    rw [gives_ite]
    refine ⟨fun hc => ?_, fun hc => gives_some.2 ⟨by simp only; omega, by simp only; omega⟩⟩
    have hc := of_decide_eq_true hc
    rw [gives_bind]
    refine (pick_ok hb ⟨by omega, by omega⟩).mono ?_
    rintro ⟨y2, p2⟩ ⟨e2, h2⟩
    simp only at e2 h2 ⊢
    rw [gives_chk, gives_chk]
    refine ⟨by omega, by omega, gives_some.2 ⟨(k - 1, p2, l ++ [y2]), ⟨by simp only; omega, by simp only; omega, by simp only [List.length_append, List.length_singleton]; omega⟩, by simp only; omega, ?_⟩⟩
    simp only
    rw [show ((k - 1 : Nat) : Int) = (k : Int) - 1 from by omega]
  · rintro ⟨q, l⟩ ⟨hq, hl⟩
    simp only at hq hl ⊢
    rw [gives_bind]
    refine (Of_ok (by omega)).mono ?_
    rintro ⟨d0, d1, d2, d3, d4⟩ hd
    try simp only
    rw [gives_bind]
    refine (pick_ok hb ⟨by omega, by omega⟩).mono ?_
    rintro ⟨y3, p3⟩ ⟨e3, h3⟩
    simp only at e3 h3 ⊢
    rw [gives_bind]
    refine (loop_to (Q := fun x : Int × Int × List Int × List Int × Pk × List Int => (0 ≤ x.1 ∧ x.1 ≤ p + 100) ∧ Sh (x.2.2.1, x.2.1, x.2.2.2.1, x.2.2.2.2.1, x.2.2.2.2.2)) (fun s : Nat × Int × Int × List Int × List Int × Pk × List Int => ((s.1 : Int), s.2.1, s.2.2))
      (fun s => s.1 ≤ 19 ∧ (0 ≤ s.2.1 ∧ s.2.1 ≤ p + 100 - s.1) ∧ Sh (s.2.2.2.1, s.2.2.1, s.2.2.2.2.1, s.2.2.2.2.2.1, s.2.2.2.2.2.2)) (fun s => s.1) (y3.toNat, p3, d1, d0, d2, d3, d4) (by simp only; rw [show ((y3.toNat : Nat) : Int) = y3 from by omega]) ⟨by simp only; omega, by simp only; omega, hd⟩ ?_).mono ?_
    · rintro ⟨k, q, f1, f0, f2, f3, f4⟩ ⟨hk, hq, hf⟩
      simp only at hk hq hf
      unfold spec_l20Channel_b1
      dsimp only
      rw [gives_ite]
      refine ⟨fun hc => ?_, fun hc => gives_some.2 ⟨by simp only; omega, hf⟩⟩
      have hc := of_decide_eq_true hc
      rw [gives_bind]
      refine (pick_ok hb ⟨by omega, by omega⟩).mono ?_
      rintro ⟨y4, p4⟩ ⟨e4, h4⟩
      simp only at e4 h4 ⊢
      rw [gives_chk, gives_bind]
      refine ⟨by omega, (Step_sh hf).mono ?_⟩
      rintro ⟨g0, g1, g2, g3, g4, g5⟩ hg
      simp only at hg ⊢
      rw [gives_chk]
      refine ⟨by omega, gives_some.2 ⟨(k - 1, p4, g1, g0, g2, g3, g4), ⟨by simp only; omega, by simp only; omega, hg⟩, by simp only; omega, ?_⟩⟩
      simp only
      rw [show ((k - 1 : Nat) : Int) = (k : Int) - 1 from by omega]
    · rintro ⟨q, f1, f0, f2, f3, f4⟩ ⟨hq, hf⟩
      obtain ⟨m1, m2, m3, m4⟩ := hf
      simp only at hq m1 m2 m3 m4
      simp only [join]
      rw [gives_bind]
      refine (odd_ok hb ⟨by omega, by omega⟩).mono ?_
      rintro ⟨o, q1⟩ ho
      simp only at ho ⊢
      rw [gives_ite]
      refine ⟨fun _ => ?_, fun _ => gives_some.2 ⟨by simp only; omega, by simp only; omega, by simp only; omega, by simp only; omega⟩⟩
      rw [gives_bind]
      refine (pick_ok hb ⟨by omega, by omega⟩).mono ?_
      rintro ⟨c, q2⟩ ⟨e4, h4⟩
      simp only at e4 h4 ⊢
      rw [gives_ite]
      refine ⟨fun _ => ?_, fun _ => ?_⟩
      · rw [gives_chk, gives_bind]
        refine ⟨by omega, (pick_ok hb ⟨by omega, by omega⟩).mono ?_⟩
        rintro ⟨z, q3⟩ ⟨e5, h5⟩
        simp only at e5 h5 ⊢
        rw [gives_chk]
        exact ⟨by omega, gives_some.2 ⟨by simp only; omega, by simp only; omega, by simp only; omega, by simp only; omega⟩⟩
      rw [gives_ite]
      refine ⟨fun _ => ?_, fun _ => ?_⟩
      · rw [gives_chk]
        exact ⟨by omega, gives_some.2 ⟨by simp only; omega, by simp only [List.length_append, List.length_singleton]; omega, by simp only; omega, by simp only; omega⟩⟩
      rw [gives_ite]
      refine ⟨fun _ => ?_, fun _ => ?_⟩
      · rw [gives_chk]
        exact ⟨by omega, gives_some.2 ⟨by simp only; omega, by simp only; omega, by simp only [List.length_append, List.length_singleton]; omega, by simp only; omega⟩⟩
      · rw [gives_chk, gives_chk]
        exact ⟨by omega, by omega, gives_some.2 ⟨by simp only; omega, by simp only; omega, by simp only; omega, by simp only [List.length_append, List.length_singleton]; omega⟩⟩
theorem DrawChannelFinish_ok {b : List Int} (hb : Bts b) : gives (spec_DrawChannelFinish b) fun r => r.1.length ≤ 101 ∧ r.2.2.1.length ≤ 101 ∧ List.length r.2.2.2.1 ≤ 101 ∧ r.2.2.2.2.length ≤ 101 := by
  unfold spec_DrawChannelFinish
  rw [gives_bind]
  refine (open_ok hb).mono ?_
  rintro ⟨ys, p⟩ ⟨h1, h2, h3⟩
  simp only at h1 h2 h3 ⊢
  rw [gives_bind]
  refine (Channel_ok h1 ⟨by omega, by omega⟩).mono ?_
  rintro ⟨c0, c1, c2, c3, c4, c5⟩ h
  exact gives_some.2 h
theorem sameInts_eq {xs ys : List Int} (hx : xs.length ≤ 1000000000) : laws_sameInts xs ys = some (decide (xs = ys)) := by
  unfold laws_sameInts
  by_cases hl : xs.length = ys.length
  · rw [if_neg (by simp; omega)]
    rcases scan_all (N := xs.length) (fun i => xs.getD i 0 = ys.getD i 0) (x := Sum.inl ()) (y := Sum.inr ()) (body := laws_sameInts_b0 xs ys) (fun i hi => by
      simp only [laws_sameInts_b0, Int.toNat_natCast, decide_eq_true_eq]
      refine ⟨fun h hp => ?_, fun h hp => ?_, fun h => ?_⟩
      · rw [if_pos (by omega), chk_pos (by omega), chk_pos (by omega), if_neg (by simpa [-List.getD_eq_getElem?_getD] using hp), chk_pos (by omega)]
      · rw [if_pos (by omega), chk_pos (by omega), chk_pos (by omega), if_pos (by simpa [-List.getD_eq_getElem?_getD] using hp)]
      · rw [if_neg (by omega)]) with ⟨hg, e⟩ | ⟨hg, e⟩ <;> rw [e] <;> simp only [Option.bind_some, Sum.elim_inl, Sum.elim_inr]
    · rw [list_eq_of hl hg]; simp
    · have : ¬ xs = ys := fun e => hg fun i _ => by rw [e]
      simp [this]
  · rw [if_pos (by simp; omega)]
    have : ¬ xs = ys := fun e => hl (by rw [e])
    simp [this]
theorem sameChannel_self {vs gs rs : List Int} {k : Int} {ps : Pk} (h1 : vs.length ≤ 1000000000) (h2 : gs.length ≤ 1000000000) (h3 : ps.length ≤ 1000000000) (h4 : rs.length ≤ 1000000000) : laws_sameChannel vs k gs ps rs vs k gs ps rs = some true := by
  unfold laws_sameChannel
  rw [if_pos (by simp), sameInts_eq h1]
  simp only [Option.bind_some]
  rw [if_pos (by simp), sameInts_eq h2]
  simp only [Option.bind_some]
  rw [if_pos (by simp), sameInts_eq h4]
  simp only [Option.bind_some]
  rw [if_neg (by simp)]
  rcases scan_all (N := ps.length) (fun i => True) (x := Sum.inl ()) (y := Sum.inr ()) (body := laws_sameChannel_b0 ps ps) (fun i hi => by
    unfold laws_sameChannel_b0
    dsimp only
    refine ⟨fun h hp => ?_, fun h hp => absurd trivial hp, fun h => ?_⟩
    · rw [if_pos (by simp only [decide_eq_true_eq]; omega), chk_pos (by omega), chk_pos (by omega), if_neg (by simp), chk_pos (by omega)]
    · rw [if_neg (by simp only [decide_eq_true_eq]; omega)]) with ⟨hg, e⟩ | ⟨hg, e⟩
  · rw [e]; rfl
  · exact absurd (fun _ _ => trivial) hg
theorem CvOk.full {vs gs rs : List Int} {k : Int} {ps : Pk} (h : CvOk vs k gs ps rs) : CvOk vs vs.length vs [] [] :=
  ⟨h.vl, h.vr, Nat.le_refl _, fun _ _ => rfl, by omega, Int.le_refl _, by simp, by simp, by simp, by simp⟩
theorem FnChannelFinish_true {b : List Int} (hb : Bts b) : laws_FnChannelFinish b = some true := by
  unfold laws_FnChannelFinish
  by_cases hs : (1048576 : Int) < b.length
  · rw [if_pos (by simp only [decide_eq_true_eq]; exact hs)]
  rw [if_neg (by simp only [decide_eq_true_eq]; exact hs)]
  obtain ⟨⟨vs, k, gs, ps, rs⟩, e, h1, h2, h3, h4⟩ := DrawChannelFinish_ok hb
  simp only at h1 h2 h3 h4
  rw [e, Option.bind_some]
  dsimp only
  rw [impl_Finish_eq, Option.bind_some, spec_Finish_eq (by omega) (by omega) (by omega) (by omega), Option.bind_some]
  by_cases h : CvOk vs k gs ps rs
  · obtain ⟨_, hf2, hf3⟩ := fin_ends h
    have hv := h.vl
    rw [cvok, yes_true h, if_pos rfl]
    dsimp only
    rw [sameChannel_self (by omega) (by omega) (by simp) (by simp), Option.bind_some, if_neg (by simp), if_neg (by simp only [decide_eq_true_eq]; omega)]
    have hd : impl_ChannelDone vs vs.length vs [] [] = some true := by
      unfold impl_ChannelDone
      rw [impl_ChannelValid_eq, cvok, yes_true h.full, Option.bind_some, if_pos rfl]
      simp [impl_Channel_done]
    rw [hd, Option.bind_some, if_pos rfl, sameInts_eq (by omega), Option.bind_some, chk_pos (by intro _; omega)]
    simp; omega
  · rw [cvok, yes_false h, if_neg (by simp)]
    dsimp only
    rw [sameChannel_self (by simp) (by simp) (by simp) (by simp), Option.bind_some, if_neg (by simp), if_pos (by simp), if_pos (by simp), alive_eq]
    rfl
end Go.Proofs.Ytncminpafiahpaa
