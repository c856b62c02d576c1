/- Channels: what the laws see of them. -/
import Derived.Test.YtncminpafiahpaaMt
set_option linter.unusedSimpArgs false
set_option linter.unusedVariables false
namespace Go.Proofs.Ytncminpafiahpaa
open Go Go.Av
attribute [local go_sem] gives_chk gives_ite gives_some gives_bind gives_join Sum.elim_inl Sum.elim_inr decide_eq_true_eq decide_eq_false_iff_not Bool.not_eq_true' Bool.not_eq_false' Bool.or_eq_true Bool.and_eq_true Bool.not_eq_eq_eq_not beq_iff_eq bne_iff_ne ne_eq Bool.or_eq_false_iff Bool.and_eq_false_iff Bool.not_eq_true Bool.not_eq_false Bool.not_true Bool.not_false Int.toNat_natCast beq_eq_false_iff_ne bne_eq_false_iff_eq Decidable.not_not Bool.default_bool

theorem toPacketS_eq {ps : Pk} (hx : ps.length ≤ 1000000000) : laws_toPacketS ps = some ps := by
  unfold laws_toPacketS
  rw [chk_pos (by omega), Int.toNat_natCast, gives_copy hx]
  · rfl
  · intro k ys hk hl
    unfold laws_toPacketS_b0 laws_toPacket
    dsimp only
    by_cases h : k < ps.length
    · rw [if_pos (by simp only [decide_eq_true_eq]; omega), if_pos h, chk_pos (by omega), Option.bind_some]
      dsimp only
      rw [chk_pos (by omega), chk_pos (by omega), Int.toNat_natCast]
    · rw [if_neg (by simp only [decide_eq_true_eq]; omega), if_neg h]
theorem eqPacketS_self {ps : Pk} (hx : ps.length ≤ 1000000000) : laws_eqPacketS ps ps = some true := by
  unfold laws_eqPacketS
  rw [if_neg (by simp)]
  rcases scan_all (N := ps.length) (fun i => True) (x := Sum.inl ()) (y := Sum.inr ()) (body := laws_eqPacketS_b0 ps ps) (fun i hi => by
    unfold laws_eqPacketS_b0 laws_eqPacket
    dsimp only
    refine ⟨fun h hp => ?_, fun h hp => absurd trivial hp, fun h => ?_⟩
    · rw [if_pos (by simp only [decide_eq_true_eq]; omega), chk_pos (by omega), chk_pos (by omega), if_neg (by simp), if_neg (by simp), Option.bind_some, if_neg (by simp), chk_pos (by omega)]
    · rw [if_neg (by simp only [decide_eq_true_eq]; omega)]) with ⟨hg, e⟩ | ⟨hg, e⟩
  · rw [e]; rfl
  · exact absurd (fun _ _ => trivial) hg
def mkPk (k : Int) (n : Nat) : Pk := mks (fun j => (k + 2 * (j : Int), k + 2 * (j : Int) + 1)) n
theorem markPacketS_eq {xs : Pk} {k : Int} (hx : xs.length ≤ 1000000000) (h0 : 0 ≤ k) (h1 : k ≤ 10000000000) : laws_markPacketS xs k = some (k + 2 * (xs.length : Int), mkPk k xs.length) := by
  refine gives_eq.1 ?_
  unfold laws_markPacketS
  simp only [go_sem]
  refine loop_to (fun j : Nat => (k + 2 * (j : Int), (j : Int), mkPk k j ++ xs.drop j)) (fun j => j ≤ xs.length) (fun j => xs.length - j) 0 (by simp [mkPk, mks]) (Nat.zero_le _) ?_
  intro j hj
  have hl : (mkPk k j ++ xs.drop j).length = xs.length := by simp [mkPk, mks_len]; omega
  simp only [laws_markPacketS_b0, go_sem, List.length_set, hl]
  refine ⟨fun hc => ?_, fun hc => ?_⟩
  · have hjl : j < (mkPk k j ++ xs.drop j).length := by omega
    rw [List.set_set, getD_set _ _ _ _ _ hjl, if_pos rfl]
    refine ⟨by omega, by omega, by omega, by omega, by omega, j + 1, by omega, by omega, ?_⟩
    have := mks_set (f := fun j => (k + 2 * (j : Int), k + 2 * (j : Int) + 1)) (xs := xs) (j := j) (by omega)
    simp only [mkPk] at this ⊢
    rw [this]
    simp only [Prod.mk.injEq, and_true]
    omega
  · rw [show j = xs.length from by omega]; simp
theorem heldPacketS_eq {n : Nat} {k : Int} (hx : n ≤ 1000000000) (h0 : 0 ≤ k) (h1 : k ≤ 10000000000) : laws_heldPacketS (mkPk k n) k = some (k + 2 * (n : Int)) := by
  refine gives_eq.1 ?_
  unfold laws_heldPacketS
  simp only [go_sem]
  refine (loop_to (Q := fun r => r = Sum.inl (k + 2 * (n : Int))) (fun j : Nat => (k + 2 * (j : Int), (j : Int))) (fun j => j ≤ n) (fun j => n - j) 0 (by simp) (Nat.zero_le _) ?_).mono ?_
  · intro j hj
    have hl : (mkPk k n).length = n := mks_len _ _
    simp only [laws_heldPacketS_b0, hl, go_sem]
    refine ⟨fun hc => ?_, fun hc => by rw [show j = n from by omega]⟩
    have hg : (mkPk k n).getD j (0, 0) = (k + 2 * (j : Int), k + 2 * (j : Int) + 1) := mks_get (f := fun j => (k + 2 * (j : Int), k + 2 * (j : Int) + 1)) (by omega)
    rw [hg]
    refine ⟨by omega, fun h => absurd rfl h, fun _ => ⟨by omega, by omega, fun h => absurd rfl h, fun _ => ⟨by omega, by omega, j + 1, by omega, by omega, ?_⟩⟩⟩
    simp only [Prod.mk.injEq]; omega
  · rintro r rfl
    exact gives_some.2 rfl
section
variable {vs gs rs : List Int} {k : Int} {ps : Pk}
theorem toChannel_eq (h1 : vs.length ≤ 1000000000) (h2 : gs.length ≤ 1000000000) (h3 : ps.length ≤ 1000000000) (h4 : rs.length ≤ 1000000000) : laws_toChannel vs k gs ps rs = some (vs, k, gs, ps, rs) := by
  unfold laws_toChannel
  rw [toIntS_eq h1, toIntS_eq h2, toPacketS_eq h3, toIntS_eq h4]; rfl
theorem eqChannel_self (h1 : vs.length ≤ 1000000000) (h2 : gs.length ≤ 1000000000) (h3 : ps.length ≤ 1000000000) (h4 : rs.length ≤ 1000000000) : laws_eqChannel vs k gs ps rs vs k gs ps rs = some true := by
  unfold laws_eqChannel
  rw [eqIntS_eq h1, eqIntS_eq h2, eqPacketS_self h3, eqIntS_eq h4]
  simp
theorem markChannel_eq {m : Int} (h1 : vs.length ≤ 10000000) (h2 : gs.length ≤ 10000000) (h3 : ps.length ≤ 10000000) (h4 : rs.length ≤ 10000000) (m0 : 0 ≤ m) (m1 : m ≤ 10000) :
    laws_markChannel vs k gs ps rs m = some (m + vs.length + gs.length + 2 * (ps.length : Int) + rs.length, mks (fun j => m + (j : Int)) vs.length, mks (fun j => m + vs.length + (j : Int)) gs.length, mkPk (m + vs.length + gs.length) ps.length, mks (fun j => m + vs.length + gs.length + 2 * (ps.length : Int) + (j : Int)) rs.length) := by
  unfold laws_markChannel
  rw [markIntS_eq (by omega) (by omega) (by omega)]
  simp only [Option.bind_some]
  rw [markIntS_eq (by omega) (by omega) (by omega)]
  simp only [Option.bind_some]
  rw [markPacketS_eq (by omega) (by omega) (by omega)]
  simp only [Option.bind_some]
  rw [markIntS_eq (by omega) (by omega) (by omega)]
  rfl
theorem heldChannel_eq {m : Int} {a b c d : Nat} (h1 : a ≤ 10000000) (h2 : b ≤ 10000000) (h3 : c ≤ 10000000) (h4 : d ≤ 10000000) (m0 : 0 ≤ m) (m1 : m ≤ 10000) :
    laws_heldChannel (mks (fun j => m + (j : Int)) a) k (mks (fun j => m + a + (j : Int)) b) (mkPk (m + a + b) c) (mks (fun j => m + a + b + 2 * (c : Int) + (j : Int)) d) m = some (m + a + b + 2 * (c : Int) + d) := by
  unfold laws_heldChannel
  rw [heldIntS_eq (by omega) (by omega) (by omega)]
  simp only [Option.bind_some, decide_eq_true_eq]
  rw [if_neg (by omega), heldIntS_eq (by omega) (by omega) (by omega)]
  simp only [Option.bind_some, decide_eq_true_eq]
  rw [if_neg (by omega), heldPacketS_eq (by omega) (by omega) (by omega)]
  simp only [Option.bind_some, decide_eq_true_eq]
  rw [if_neg (by omega), heldIntS_eq (by omega) (by omega) (by omega)]
  simp only [Option.bind_some, decide_eq_true_eq]
  rw [if_neg (by omega)]
/-- What a law sees of a channel that it takes in. -/
theorem law_channel (h1 : vs.length ≤ 9223372036854775807) (h2 : gs.length ≤ 9223372036854775807) (h3 : ps.length ≤ 9223372036854775807) (h4 : rs.length ≤ 9223372036854775807) {f : Int → Option Bool}
    (h : vs.length ≤ 1048576 → gs.length ≤ 1048576 → ps.length ≤ 1048576 → rs.length ≤ 1048576 → ∀ y, f y = some true) :
    ((laws_szChannel vs k gs ps rs 1048576).bind fun y => if (decide (y < 0)) then some true else f y) = some true := by
  have sz : ∀ (xs : List Int) (a : Int), xs.length ≤ 9223372036854775807 → 0 ≤ a → a ≤ 1048576 → laws_szIntS xs a = some (if a < xs.length then -1 else a - xs.length) := by
    intro xs a hx a0 a1
    unfold laws_szIntS
    rw [chk_pos (by omega)]
    by_cases hc : a < xs.length
    · rw [if_pos (by simp only [decide_eq_true_eq]; omega), if_pos hc]
    · rw [if_neg (by simp only [decide_eq_true_eq]; omega), if_neg hc]
  have szp : ∀ (xs : Pk) (a : Int), xs.length ≤ 9223372036854775807 → 0 ≤ a → a ≤ 1048576 → laws_szPacketS xs a = some (if a < xs.length then -1 else a - xs.length) := by
    intro xs a hx a0 a1
    unfold laws_szPacketS
    rw [chk_pos (by omega)]
    by_cases hc : a < xs.length
    · rw [if_pos (by simp only [decide_eq_true_eq]; omega), if_pos hc]
    · rw [if_neg (by simp only [decide_eq_true_eq]; omega), if_neg hc]
  unfold laws_szChannel
  rw [sz _ _ h1 (by omega) (by omega)]
  by_cases c1 : (1048576 : Int) < vs.length
  · rw [if_pos c1]; rfl
  rw [if_neg c1]
  simp only [Option.bind_some, decide_eq_true_eq]
  rw [if_neg (by omega), sz _ _ h2 (by omega) (by omega)]
  by_cases c2 : (1048576 : Int) - vs.length < gs.length
  · rw [if_pos c2]; rfl
  rw [if_neg c2]
  simp only [Option.bind_some, decide_eq_true_eq]
  rw [if_neg (by omega), szp _ _ h3 (by omega) (by omega)]
  by_cases c3 : (1048576 : Int) - vs.length - gs.length < ps.length
  · rw [if_pos c3]; rfl
  rw [if_neg c3]
  simp only [Option.bind_some, decide_eq_true_eq]
  rw [if_neg (by omega), sz _ _ h4 (by omega) (by omega)]
  by_cases c4 : (1048576 : Int) - vs.length - gs.length - ps.length < rs.length
  · rw [if_pos c4]; rfl
  rw [if_neg c4]
  simp only [Option.bind_some, decide_eq_true_eq]
  rw [if_neg (by omega)]
  simp only [Option.bind_some]
  rw [if_neg (by omega)]
  exact h (by omega) (by omega) (by omega) (by omega) _
theorem spec_Step_eq {a : Int} (h1 : vs.length ≤ 1000000000) (h2 : gs.length ≤ 1000000000) (h3 : ps.length ≤ 1000000000) (h4 : rs.length ≤ 1000000000) :
    spec_ChannelStep vs k gs ps rs a = some (if cvok vs k gs ps rs = true then chOut vs (chStep vs k gs ps rs a) else ([], 0, [], [], [], false)) := by
  by_cases h : CvOk vs k gs ps rs
  · rw [spec_Step_ok h, cvok, yes_true h]; rfl
  · rw [spec_Step_bad h1 h2 h3 h4 h, cvok, yes_false h]; rfl
end
end Go.Proofs.Ytncminpafiahpaa
