/- Channels: valid ones, their steps, runs, quiet and finished ones. -/
import Derived.Test.YtncminpafiahpaaMi
set_option linter.unusedSimpArgs false
set_option linter.unusedVariables false
namespace Go.Proofs.Ytncminpafiahpaa
open Go Go.Av
attribute [local go_sem] gives_chk gives_ite gives_some gives_bind gives_join Sum.elim_inl Sum.elim_inr decide_eq_true_eq decide_eq_false_iff_not Bool.not_eq_true' Bool.not_eq_false' Bool.or_eq_true Bool.and_eq_true Bool.not_eq_eq_eq_not beq_iff_eq bne_iff_ne ne_eq Bool.or_eq_false_iff Bool.and_eq_false_iff Bool.not_eq_true Bool.not_eq_false Bool.not_true Bool.not_false Int.toNat_natCast beq_eq_false_iff_ne bne_eq_false_iff_eq Decidable.not_not Bool.default_bool

abbrev Pk := List (Int × Int)
/-- A packet is one of a channel's values. -/
def PkIn (vs : List Int) (p : Int × Int) : Prop := 0 ≤ p.1 ∧ p.1 < vs.length ∧ p.2 = vs.getD p.1.toNat 0
/-- Valid channels. -/
structure CvOk (vs : List Int) (k : Int) (gs : List Int) (ps : Pk) (rs : List Int) : Prop where
  vl : vs.length ≤ 20
  vr : ∀ i, i < vs.length → 0 ≤ vs.getD i 0 ∧ vs.getD i 0 ≤ 1000000
  gl : gs.length ≤ vs.length
  gr : ∀ i, i < gs.length → gs.getD i 0 = vs.getD i 0
  k0 : 0 ≤ k
  k1 : k ≤ gs.length
  pl : ps.length ≤ 100
  rl : rs.length ≤ 100
  pr : ∀ i, i < ps.length → PkIn vs (ps.getD i (0, 0))
  rr : ∀ i, i < rs.length → 0 ≤ rs.getD i 0 ∧ rs.getD i 0 ≤ gs.length
noncomputable def cvok (vs : List Int) (k : Int) (gs : List Int) (ps : Pk) (rs : List Int) : Bool := yes (CvOk vs k gs ps rs)
theorem yes_eq {p : Prop} {b : Bool} (h : b = true ↔ p) : b = yes p := by
  by_cases hp : p
  · rw [yes_true hp]; exact h.2 hp
  · rw [yes_false hp]; cases b <;> simp_all

/-- A loop that looks for a bad one. -/
theorem scan_all {X : Type} {N : Nat} (p : Nat → Prop) (x y : X) {body : Int → Option (Int ⊕ X)} (hb : ∀ k : Nat, k ≤ N → (k < N → p k → body k = some (.inl ((k : Int) + 1))) ∧ (k < N → ¬ p k → body k = some (.inr y)) ∧ (¬ k < N → body k = some (.inr x))) :
    (∀ k, k < N → p k) ∧ loop body 0 = some x ∨ (¬ ∀ k, k < N → p k) ∧ loop body 0 = some y := by
  classical
  have key := loop_scan (N := N) (p := p) (fun k : Nat => (k : Int)) x y (body := body) (fun k hk _ => by
    obtain ⟨h1, h2, h3⟩ := hb k hk
    split
    · rename_i h
      split
      · rename_i hp; rw [h1 h hp]; simp
      · rename_i hp; exact h2 h hp
    · rename_i h; exact h3 h)
  by_cases h : ∀ k, k < N → p k
  · rw [if_pos h] at key; exact .inl ⟨h, key⟩
  · rw [if_neg h] at key; exact .inr ⟨h, key⟩

section
variable {vs gs rs : List Int} {k : Int} {ps : Pk}
theorem spec_ChannelValid_eq (h1 : vs.length ≤ 1000000000) (h2 : gs.length ≤ 1000000000) (h3 : ps.length ≤ 1000000000) (h4 : rs.length ≤ 1000000000) : spec_ChannelValid vs k gs ps rs = some (cvok vs k gs ps rs) := by
  unfold spec_ChannelValid
  rcases scan_all (N := vs.length) (fun i => 0 ≤ vs.getD i 0 ∧ vs.getD i 0 ≤ 1000000) (x := Sum.inl ()) (y := Sum.inr ()) (body := spec_ChannelValid_b0 vs) (fun i hi => by
    simp only [spec_ChannelValid_b0, Int.toNat_natCast, decide_eq_true_eq]
    refine ⟨fun h hp => ?_, fun h hp => ?_, fun h => ?_⟩
    · rw [if_pos (by omega), chk_pos (by omega), if_neg (by simp [-List.getD_eq_getElem?_getD] <;> omega), chk_pos (by omega)]
    · rw [if_pos (by omega), chk_pos (by omega), if_pos (by simp [-List.getD_eq_getElem?_getD] <;> omega)]
    · rw [if_neg (by omega)]) with ⟨hv, e⟩ | ⟨hv, e⟩ <;> rw [e] <;> simp only [Option.bind_some, Sum.elim_inl, Sum.elim_inr]
  · by_cases hb : vs.length ≤ 20 ∧ gs.length ≤ vs.length ∧ (0 ≤ k ∧ k ≤ gs.length) ∧ ps.length ≤ 100 ∧ rs.length ≤ 100
    · rw [if_neg (by simp [-List.getD_eq_getElem?_getD] <;> omega)]
      rcases scan_all (N := gs.length) (fun i => gs.getD i 0 = vs.getD i 0) (x := Sum.inl ()) (y := Sum.inr ()) (body := spec_ChannelValid_b1 vs gs) (fun i hi => by
        simp only [spec_ChannelValid_b1, Int.toNat_natCast, decide_eq_true_eq]
        refine ⟨fun h hp => ?_, fun h hp => ?_, fun h => ?_⟩
        · rw [if_pos (by omega), chk_pos (by omega), chk_pos (by omega), if_neg (by simpa [-List.getD_eq_getElem?_getD] using hp), chk_pos (by omega)]
        · rw [if_pos (by omega), chk_pos (by omega), chk_pos (by omega), if_pos (by simpa [-List.getD_eq_getElem?_getD] using hp)]
        · rw [if_neg (by omega)]) with ⟨hg, e⟩ | ⟨hg, e⟩ <;> rw [e] <;> simp only [Option.bind_some, Sum.elim_inl, Sum.elim_inr]
      · rcases scan_all (N := ps.length) (fun i => PkIn vs (ps.getD i (0, 0))) (x := Sum.inl ()) (y := Sum.inr ()) (body := spec_ChannelValid_b2 vs ps) (fun i hi => by
          simp only [spec_ChannelValid_b2, Int.toNat_natCast, decide_eq_true_eq]
          refine ⟨fun h hp => ?_, fun h hp => ?_, fun h => ?_⟩
          · obtain ⟨p1, p2, p3⟩ := hp
            rw [if_pos (by omega), chk_pos (by omega), chk_pos (by omega), chk_pos (by omega), chk_pos (by intro _; omega), if_neg (by simp [-List.getD_eq_getElem?_getD] <;> omega), chk_pos (by omega)]
          · rw [if_pos (by omega), chk_pos (by omega), chk_pos (by omega), chk_pos (by omega), chk_pos (by simp [-List.getD_eq_getElem?_getD] <;> omega), if_pos ?_]
            simp only [Bool.or_eq_true, Bool.not_eq_true', Bool.and_eq_false_iff, decide_eq_false_iff_not, bne_iff_ne, ne_eq]
            unfold PkIn at hp
            by_cases h1 : 0 ≤ (ps.getD i (0, 0)).1
            · by_cases h2 : (ps.getD i (0, 0)).1 < vs.length
              · exact .inr fun h3 => hp ⟨h1, h2, h3⟩
              · exact .inl (.inr (by omega))
            · exact .inl (.inl h1)
          · rw [if_neg (by omega)]) with ⟨hp, e⟩ | ⟨hp, e⟩ <;> rw [e] <;> simp only [Option.bind_some, Sum.elim_inl, Sum.elim_inr]
        · rcases scan_all (N := rs.length) (fun i => 0 ≤ rs.getD i 0 ∧ rs.getD i 0 ≤ gs.length) (x := Sum.inl ()) (y := Sum.inr ()) (body := spec_ChannelValid_b3 gs rs) (fun i hi => by
            simp only [spec_ChannelValid_b3, Int.toNat_natCast, decide_eq_true_eq]
            refine ⟨fun h hp => ?_, fun h hp => ?_, fun h => ?_⟩
            · rw [if_pos (by omega), chk_pos (by omega), if_neg (by simp [-List.getD_eq_getElem?_getD] <;> omega), chk_pos (by omega)]
            · rw [if_pos (by omega), chk_pos (by omega), if_pos (by simp [-List.getD_eq_getElem?_getD] <;> omega)]
            · rw [if_neg (by omega)]) with ⟨hr, e⟩ | ⟨hr, e⟩ <;> rw [e] <;> simp only [Option.bind_some, Sum.elim_inl, Sum.elim_inr]
          · rw [cvok, yes_true ⟨hb.1, hv, hb.2.1, hg, hb.2.2.1.1, hb.2.2.1.2, hb.2.2.2.1, hb.2.2.2.2, hp, hr⟩]
          · rw [cvok, yes_false fun h => hr h.rr]
        · rw [cvok, yes_false fun h => hp h.pr]
      · rw [cvok, yes_false fun h => hg h.gr]
    · rw [if_pos (by simp [-List.getD_eq_getElem?_getD] <;> omega), cvok, yes_false fun h => hb ⟨h.vl, h.gl, ⟨h.k0, h.k1⟩, h.pl, h.rl⟩]
  · rw [cvok, yes_false fun h => hv h.vr]

theorem sliceEq_eq {xs ys : List Int} (hx : xs.length ≤ 1000000000) : slices_Equal_int_int xs ys = some (decide (xs = ys)) := by
  unfold slices_Equal_int_int
  by_cases hl : xs.length = ys.length
  · rw [if_neg (by simp [-List.getD_eq_getElem?_getD] <;> omega)]
    rcases scan_all (N := xs.length) (fun i => xs.getD i 0 = ys.getD i 0) (x := Sum.inl ()) (y := Sum.inr ()) (body := slices_Equal_int_int_b0 xs ys) (fun i hi => by
      simp only [slices_Equal_int_int_b0, Int.toNat_natCast, decide_eq_true_eq]
      refine ⟨fun h hp => ?_, fun h hp => ?_, fun h => ?_⟩
      · rw [if_pos (by omega), chk_pos (by omega), chk_pos (by omega), if_neg (by simpa [-List.getD_eq_getElem?_getD] using hp), chk_pos (by omega)]
      · rw [if_pos (by omega), chk_pos (by omega), chk_pos (by omega), if_pos (by simpa [-List.getD_eq_getElem?_getD] using hp)]
      · rw [if_neg (by omega)]) with ⟨hg, e⟩ | ⟨hg, e⟩ <;> rw [e] <;> simp only [Option.bind_some, Sum.elim_inl, Sum.elim_inr]
    · rw [list_eq_of hl hg]; simp
    · have : ¬ xs = ys := fun e => hg fun i _ => by rw [e]
      simp [this]
  · rw [if_pos (by simp [-List.getD_eq_getElem?_getD] <;> omega)]
    have : ¬ xs = ys := fun e => hl (by rw [e])
    simp [this]
theorem take_eq_iff {gs vs : List Int} (hl : gs.length ≤ vs.length) : gs = vs.take gs.length ↔ ∀ i, i < gs.length → gs.getD i 0 = vs.getD i 0 := by
  constructor
  · intro h i hi
    have h2 : (vs.take gs.length).getD i 0 = vs.getD i 0 := by
      simp [List.getD_eq_getElem?_getD, List.getElem?_take, hi]
    rw [← h2, ← h]
  · intro h
    refine list_eq_of (d := 0) (by simp [-List.getD_eq_getElem?_getD] <;> omega) fun i hi => ?_
    rw [h i hi]
    simp [List.getD_eq_getElem?_getD, List.getElem?_take, hi]
theorem numberFits_eq (a : Int) : impl_numberFits a = some (decide (0 ≤ a ∧ a ≤ 1000000)) := by
  unfold impl_numberFits; simp
theorem impl_valuesFit_eq : impl_channelValuesFit vs = some (yes (vs.length ≤ 20 ∧ ∀ i, i < vs.length → 0 ≤ vs.getD i 0 ∧ vs.getD i 0 ≤ 1000000)) := by
  unfold impl_channelValuesFit
  by_cases hl : vs.length ≤ 20
  · rw [if_neg (by simp [-List.getD_eq_getElem?_getD] <;> omega)]
    rcases scan_all (N := vs.length) (fun i => 0 ≤ vs.getD i 0 ∧ vs.getD i 0 ≤ 1000000) (x := Sum.inl ()) (y := Sum.inr ()) (body := impl_channelValuesFit_b0 vs) (fun i hi => by
      simp only [impl_channelValuesFit_b0, Int.toNat_natCast, decide_eq_true_eq, numberFits_eq, Option.bind_some]
      refine ⟨fun h hp => ?_, fun h hp => ?_, fun h => ?_⟩
      · rw [if_pos (by omega), chk_pos (by omega), if_neg (by simp [-List.getD_eq_getElem?_getD] <;> omega), chk_pos (by omega)]
      · rw [if_pos (by omega), chk_pos (by omega), if_pos (by simp [-List.getD_eq_getElem?_getD] <;> omega)]
      · rw [if_neg (by omega)]) with ⟨hg, e⟩ | ⟨hg, e⟩ <;> rw [e] <;> simp only [Option.bind_some, Sum.elim_inl, Sum.elim_inr]
    · rw [yes_true ⟨hl, hg⟩]
    · rw [yes_false fun h => hg h.2]
  · rw [if_pos (by simp [-List.getD_eq_getElem?_getD] <;> omega), yes_false fun h => hl h.1]
theorem impl_ChannelValid_eq : impl_ChannelValid vs k gs ps rs = some (cvok vs k gs ps rs) := by
  unfold impl_ChannelValid
  rw [impl_valuesFit_eq]
  simp only [Option.bind_some]
  by_cases hv : vs.length ≤ 20 ∧ ∀ i, i < vs.length → 0 ≤ vs.getD i 0 ∧ vs.getD i 0 ≤ 1000000
  · rw [yes_true hv]
    by_cases hl : gs.length ≤ vs.length
    · rw [if_neg (by simp [-List.getD_eq_getElem?_getD] <;> omega), chk_pos (by omega), sliceEq_eq (by omega)]
      simp only [Option.bind_some, Int.toNat_natCast, List.drop_zero]
      by_cases hg : gs = vs.take gs.length
      · have hg' := (take_eq_iff hl).1 hg
        by_cases hk : 0 ≤ k ∧ k ≤ gs.length
        · rw [if_neg (by rw [← hg]; simp; omega)]
          by_cases hb : ps.length ≤ 100 ∧ rs.length ≤ 100
          · rw [if_neg (by simp [-List.getD_eq_getElem?_getD] <;> omega)]
            rcases scan_all (N := ps.length) (fun i => PkIn vs (ps.getD i (0, 0))) (x := Sum.inl ()) (y := Sum.inr ()) (body := impl_ChannelValid_b0 vs ps) (fun i hi => by
              simp only [impl_ChannelValid_b0, Int.toNat_natCast, decide_eq_true_eq]
              refine ⟨fun h hp => ?_, fun h hp => ?_, fun h => ?_⟩
              · obtain ⟨p1, p2, p3⟩ := hp
                rw [if_pos (by omega), chk_pos (by omega), chk_pos (by intro _; omega), if_neg (by simp [-List.getD_eq_getElem?_getD] <;> omega), chk_pos (by omega)]
              · rw [if_pos (by omega), chk_pos (by omega), chk_pos (by simp [-List.getD_eq_getElem?_getD] <;> omega), if_pos ?_]
                simp only [Bool.or_eq_true, decide_eq_true_eq, bne_iff_ne, ne_eq]
                unfold PkIn at hp
                by_cases h1 : 0 ≤ (ps.getD i (0, 0)).1
                · by_cases h2 : (ps.getD i (0, 0)).1 < vs.length
                  · exact .inr fun h3 => hp ⟨h1, h2, h3⟩
                  · exact .inl (.inr (by omega))
                · exact .inl (.inl (by omega))
              · rw [if_neg (by omega)]) with ⟨hp, e⟩ | ⟨hp, e⟩ <;> rw [e] <;> simp only [Option.bind_some, Sum.elim_inl, Sum.elim_inr]
            · rcases scan_all (N := rs.length) (fun i => 0 ≤ rs.getD i 0 ∧ rs.getD i 0 ≤ gs.length) (x := Sum.inl ()) (y := Sum.inr ()) (body := impl_ChannelValid_b1 gs rs) (fun i hi => by
                simp only [impl_ChannelValid_b1, Int.toNat_natCast, decide_eq_true_eq]
                refine ⟨fun h hp => ?_, fun h hp => ?_, fun h => ?_⟩
                · rw [if_pos (by omega), chk_pos (by omega), if_neg (by simp [-List.getD_eq_getElem?_getD] <;> omega), chk_pos (by omega)]
                · rw [if_pos (by omega), chk_pos (by omega), if_pos (by simp [-List.getD_eq_getElem?_getD] <;> omega)]
                · rw [if_neg (by omega)]) with ⟨hr, e⟩ | ⟨hr, e⟩ <;> rw [e] <;> simp only [Option.bind_some, Sum.elim_inl, Sum.elim_inr]
              · rw [cvok, yes_true ⟨hv.1, hv.2, hl, hg', hk.1, hk.2, hb.1, hb.2, hp, hr⟩]
              · rw [cvok, yes_false fun h => hr h.rr]
            · rw [cvok, yes_false fun h => hp h.pr]
          · rw [if_pos (by simp [-List.getD_eq_getElem?_getD] <;> omega), cvok, yes_false fun h => hb ⟨h.pl, h.rl⟩]
        · rw [if_pos (by simp [-List.getD_eq_getElem?_getD] <;> omega), cvok, yes_false fun h => hk ⟨h.k0, h.k1⟩]
      · rw [if_pos (by simp [hg]), cvok, yes_false fun h => hg ((take_eq_iff hl).2 h.gr)]
    · rw [if_pos (by simp [-List.getD_eq_getElem?_getD] <;> omega), cvok, yes_false fun h => hl h.gl]
  · rw [yes_false hv, if_pos (by simp), cvok, yes_false fun h => hv ⟨h.vl, h.vr⟩]
end

/-! Steps. -/
theorem all_mem {α : Type} {d : α} {l : List α} {P : α → Prop} : (∀ i, i < l.length → P (l.getD i d)) ↔ ∀ x ∈ l, P x := by
  constructor
  · intro h x hx
    obtain ⟨i, hi, rfl⟩ := List.getElem_of_mem hx
    have := h i hi
    simpa [List.getD_eq_getElem?_getD, List.getElem?_eq_getElem hi] using this
  · intro h i hi
    have : l.getD i d = l[i] := by simp [List.getD_eq_getElem?_getD, List.getElem?_eq_getElem hi]
    rw [this]; exact h _ (List.getElem_mem hi)
def sendL (vs : List Int) (k m : Nat) : Pk := mks (fun j => (((k + j : Nat) : Int), vs.getD (k + j) 0)) m
theorem sendL_len (vs : List Int) (k m : Nat) : (sendL vs k m).length = m := mks_len _ _
theorem sendL_succ (vs : List Int) (k m : Nat) : sendL vs k (m + 1) = sendL vs k m ++ [(((k + m : Nat) : Int), vs.getD (k + m) 0)] := mks_succ _ _
def ahead (vs : List Int) (k : Int) : Nat := (min (k + 3) (vs.length : Int) - k).toNat
theorem send_loop {vs : List Int} {k : Int} {ps : Pk} {m : Nat} {body : Int × Pk → Option ((Int × Pk) ⊕ Pk)}
    (hb : ∀ j : Nat, j ≤ m → body (k + j, ps ++ sendL vs k.toNat j) = if j < m then some (.inl (k + j + 1, ps ++ sendL vs k.toNat (j + 1))) else some (.inr (ps ++ sendL vs k.toNat j))) :
    loop body (k, ps) = some (ps ++ sendL vs k.toNat m) := by
  refine gives_eq.1 ?_
  refine loop_to (fun j : Nat => (k + (j : Int), ps ++ sendL vs k.toNat j)) (fun j => j ≤ m) (fun j => m - j) 0 (by simp [sendL, mks]) (Nat.zero_le _) ?_
  intro j hj
  rw [hb j hj]
  split
  · exact gives_some.2 ⟨j + 1, by omega, by omega, by simp only [Int.natCast_add, Int.natCast_one, Int.add_assoc]⟩
  · rw [show j = m from by omega]; exact gives_some.2 rfl
/-- A step: is it possible, and what comes of it. -/
def chStep (vs : List Int) (k : Int) (gs : List Int) (ps : Pk) (rs : List Int) (a : Int) : Bool × Int × List Int × Pk × List Int :=
  if a = 0 then (if ahead vs k = 0 ∨ 100 < ps.length + ahead vs k then (false, k, gs, ps, rs) else (true, k, gs, ps ++ sendL vs k.toNat (ahead vs k), rs))
  else if a = 1 then (if ps.length = 0 then (false, k, gs, ps, rs) else (true, k, if (ps.getD 0 (0, 0)).1 = gs.length then gs ++ [(ps.getD 0 (0, 0)).2] else gs, ps.drop 1, rs))
  else if a = 2 then (if ps.length = 0 then (false, k, gs, ps, rs) else (true, k, gs, ps.drop 1, rs))
  else if a = 3 then (if ps.length = 0 ∨ 100 ≤ ps.length then (false, k, gs, ps, rs) else (true, k, gs, ps ++ [ps.getD 0 (0, 0)], rs))
  else if a = 4 then (if ps.length = 0 then (false, k, gs, ps, rs) else (true, k, gs, ps.drop 1 ++ [ps.getD 0 (0, 0)], rs))
  else if a = 5 then (if 100 ≤ rs.length then (false, k, gs, ps, rs) else (true, k, gs, ps, rs ++ [(gs.length : Int)]))
  else if a = 6 then (if rs.length = 0 then (false, k, gs, ps, rs) else (true, max k (rs.getD 0 0), gs, ps, rs.drop 1))
  else if a = 7 then (if rs.length = 0 then (false, k, gs, ps, rs) else (true, k, gs, ps, rs.drop 1))
  else (false, k, gs, ps, rs)

section
variable {vs gs rs : List Int} {k a : Int} {ps : Pk}
theorem impl_send_eq (h : CvOk vs k gs ps rs) : impl_Channel_send vs k gs ps rs = some (if ahead vs k = 0 ∨ 100 < ps.length + ahead vs k then (false, ps) else (true, ps ++ sendL vs k.toNat (ahead vs k))) := by
  have h1 := h.vl; have h2 := h.gl; have h3 := h.k0; have h4 := h.k1; have h5 := h.pl
  have hm : min (k + 3) (vs.length : Int) = k + (ahead vs k : Nat) := by unfold ahead; omega
  have hm2 : ahead vs k ≤ 3 := by unfold ahead; omega
  unfold impl_Channel_send
  rw [chk_pos (by omega), chk_pos (by intro _; omega), chk_pos (by omega), hm]
  by_cases hc : ahead vs k = 0 ∨ 100 < ps.length + ahead vs k
  · rw [if_pos (by simp only [Bool.or_eq_true, beq_iff_eq, decide_eq_true_eq]; omega), if_pos hc]
  · rw [if_neg (by simp only [Bool.or_eq_true, beq_iff_eq, decide_eq_true_eq]; omega), if_neg hc, send_loop (m := ahead vs k)]
    · rfl
    · intro j hj
      simp only [impl_Channel_send_b0, hm, decide_eq_true_eq, List.length_append, sendL_len]
      by_cases hj2 : j < ahead vs k
      · rw [if_pos (by omega), if_pos hj2, chk_pos (by omega), chk_pos (by omega), chk_pos (by omega), sendL_succ]
        have e1 : (k + (j : Int)).toNat = k.toNat + j := by omega
        have e2 : k + (j : Int) = ((k.toNat + j : Nat) : Int) := by omega
        rw [e1, List.append_assoc]
        congr 6
        rw [e2]
      · rw [if_neg (by omega), if_neg hj2]
theorem take_all {α : Type} (l : List α) : (l.take l.length).drop 1 = l.drop 1 := by rw [List.take_length]
theorem impl_do_eq (h : CvOk vs k gs ps rs) : impl_Channel_do vs k gs ps rs a = some (chStep vs k gs ps rs a) := by
  have h1 := h.vl; have h2 := h.gl; have h3 := h.k0; have h4 := h.k1; have h5 := h.pl; have h6 := h.rl
  unfold impl_Channel_do chStep
  by_cases a0 : a = 0
  · rw [if_pos (by simpa using a0), if_pos a0, impl_send_eq h]
    simp only [Option.bind_some]
    split <;> rfl
  rw [if_neg (by simpa using a0), if_neg a0]
  have pk : 1 ≤ a ∧ a ≤ 4 → impl_Channel_packetStep vs k gs ps rs a = some (if a = 1 then (if ps.length = 0 then (false, gs, ps) else (true, if (ps.getD 0 (0, 0)).1 = gs.length then gs ++ [(ps.getD 0 (0, 0)).2] else gs, ps.drop 1))
      else if a = 2 then (if ps.length = 0 then (false, gs, ps) else (true, gs, ps.drop 1))
      else if a = 3 then (if ps.length = 0 ∨ 100 ≤ ps.length then (false, gs, ps) else (true, gs, ps ++ [ps.getD 0 (0, 0)]))
      else (if ps.length = 0 then (false, gs, ps) else (true, gs, ps.drop 1 ++ [ps.getD 0 (0, 0)]))) := by
    intro ha
    unfold impl_Channel_packetStep
    by_cases hp : ps.length = 0
    · rw [if_pos (by simp only [beq_iff_eq]; omega)]
      simp only [hp, ↓reduceIte, true_or]
      repeat' split
      all_goals rfl
    · rw [if_neg (by simp only [beq_iff_eq]; omega), chk_pos (by omega), chk_pos (by omega)]
      simp only [join, take_all, if_neg hp, hp, false_or]
      by_cases a1 : a = 1
      · rw [if_pos (by simpa using a1), if_pos a1]
        by_cases he : (ps.getD 0 (0, 0)).1 = gs.length
        · rw [if_pos (by simpa [-List.getD_eq_getElem?_getD] using he), if_pos he, chk_pos (by omega)]; rfl
        · rw [if_neg (by simpa [-List.getD_eq_getElem?_getD] using he), if_neg he]; rfl
      rw [if_neg (by simpa using a1), if_neg a1]
      by_cases a2 : a = 2
      · rw [if_pos (by simpa using a2), if_pos a2]; rfl
      rw [if_neg (by simpa using a2), if_neg a2]
      by_cases a3 : a = 3
      · rw [if_pos (by simpa using a3), if_pos a3]
        by_cases hl : 100 ≤ ps.length
        · rw [if_pos (by simp only [decide_eq_true_eq]; omega), if_pos hl]
        · rw [if_neg (by simp only [decide_eq_true_eq]; omega), if_neg hl, chk_pos (by omega)]
      rw [if_neg (by simpa using a3), if_neg a3]
      have a4 : a = 4 := by omega
      rw [if_pos (by simpa using a4), chk_pos (by simp <;> omega)]; rfl
  by_cases hpk : 1 ≤ a ∧ a ≤ 4
  · have hj : (join (fun k_1 : Bool → Option (Bool × Int × List Int × Pk × List Int) => if (a == 1) then k_1 (a == 1) else if (a == 2) then k_1 (a == 2) else if (a == 3) then k_1 (a == 3) else k_1 (a == 4)) = fun f => f true) := by
      funext f
      unfold join
      rcases (by omega : a = 1 ∨ a = 2 ∨ a = 3 ∨ a = 4) with rfl | rfl | rfl | rfl <;> rfl
    rw [hj]
    simp only [↓reduceIte]
    rw [pk hpk]
    simp only [Option.bind_some]
    rcases (by omega : a = 1 ∨ a = 2 ∨ a = 3 ∨ a = 4) with rfl | rfl | rfl | rfl <;> simp only [Int.reduceEq, ↓reduceIte] <;> split <;> rfl
  · have hj : (join (fun k_1 : Bool → Option (Bool × Int × List Int × Pk × List Int) => if (a == 1) then k_1 (a == 1) else if (a == 2) then k_1 (a == 2) else if (a == 3) then k_1 (a == 3) else k_1 (a == 4)) = fun f => f false) := by
      funext f
      unfold join
      have b1 : (a == 1) = false := by simp; omega
      have b2 : (a == 2) = false := by simp; omega
      have b3 : (a == 3) = false := by simp; omega
      have b4 : (a == 4) = false := by simp; omega
      simp only [b1, b2, b3, b4, Bool.false_eq_true, ↓reduceIte]
    rw [hj]
    rw [if_neg (show ¬ a = 1 by omega), if_neg (show ¬ a = 2 by omega), if_neg (show ¬ a = 3 by omega), if_neg (show ¬ a = 4 by omega)]
    simp only [Bool.false_eq_true, ↓reduceIte]
    by_cases a5 : a = 5
    · rw [if_pos (by simpa using a5), if_pos a5]
      unfold impl_Channel_receipt
      by_cases hl : 100 ≤ rs.length
      · rw [if_pos (by simp only [decide_eq_true_eq]; omega), if_pos hl]; rfl
      · rw [if_neg (by simp only [decide_eq_true_eq]; omega), if_neg hl, chk_pos (by omega)]; rfl
    rw [if_neg (by simpa using a5), if_neg a5]
    by_cases hq : a = 6 ∨ a = 7
    · have hj : (join (fun k_1 : Bool → Option (Bool × Int × List Int × Pk × List Int) => if (a == 6) then k_1 (a == 6) else k_1 (a == 7)) = fun f => f true) := by
        funext f
        unfold join
        rcases hq with rfl | rfl <;> rfl
      rw [hj]
      simp only [↓reduceIte]
      unfold impl_Channel_receiptStep
      by_cases hp : rs.length = 0
      · rw [if_pos (by simp only [beq_iff_eq]; omega)]
        simp only [hp, ↓reduceIte, Option.bind_some]
        rcases hq with rfl | rfl <;> rfl
      · rw [if_neg (by simp only [beq_iff_eq]; omega)]
        simp only [join, take_all, if_neg hp]
        rcases hq with rfl | rfl
        · rw [if_pos (by rfl), chk_pos (by omega), chk_pos (by omega)]; rfl
        · rw [if_neg (by decide), chk_pos (by omega)]; rfl
    · have hj : (join (fun k_1 : Bool → Option (Bool × Int × List Int × Pk × List Int) => if (a == 6) then k_1 (a == 6) else k_1 (a == 7)) = fun f => f false) := by
        funext f
        unfold join
        have b1 : (a == 6) = false := by simp; omega
        have b2 : (a == 7) = false := by simp; omega
        simp only [b1, b2, Bool.false_eq_true, ↓reduceIte]
      rw [hj]
      rw [if_neg (show ¬ a = 6 by omega), if_neg (show ¬ a = 7 by omega)]
      simp only [Bool.false_eq_true, ↓reduceIte]
theorem l16Copy_eq (h1 : vs.length ≤ 1000000000) (h2 : gs.length ≤ 1000000000) (h3 : ps.length ≤ 1000000000) (h4 : rs.length ≤ 1000000000) : spec_l16Copy vs k gs ps rs = some (vs, k, gs, ps, rs) := by
  unfold spec_l16Copy
  rw [chk_pos (by omega), chk_pos (by omega), chk_pos (by omega), chk_pos (by omega)]; rfl
/-- What a step hands back. -/
def chOut (vs : List Int) (r : Bool × Int × List Int × Pk × List Int) : List Int × Int × List Int × Pk × List Int × Bool := (vs, r.2.1, r.2.2.1, r.2.2.2.1, r.2.2.2.2, r.1)
theorem spec_Step_ok (h : CvOk vs k gs ps rs) : spec_ChannelStep vs k gs ps rs a = some (chOut vs (chStep vs k gs ps rs a)) := by
  have h1 := h.vl; have h2 := h.gl; have h3 := h.k0; have h4 := h.k1; have h5 := h.pl; have h6 := h.rl
  have hc := l16Copy_eq (k := k) (vs := vs) (gs := gs) (ps := ps) (rs := rs) (by omega) (by omega) (by omega) (by omega)
  unfold spec_ChannelStep
  rw [spec_ChannelValid_eq (by omega) (by omega) (by omega) (by omega), cvok, yes_true h, hc]
  simp only [Option.bind_some, Bool.not_true, Bool.false_eq_true, ↓reduceIte, join, take_all]
  by_cases hbad : (1 ≤ a ∧ a ≤ 4) ∧ ps.length = 0 ∨ (6 ≤ a ∧ a ≤ 7) ∧ rs.length = 0
  · rw [if_pos (by simp only [Bool.or_eq_true, Bool.and_eq_true, beq_iff_eq, decide_eq_true_eq]; omega)]
    unfold chStep
    rcases hbad with ⟨h7, h8⟩ | ⟨h7, h8⟩
    · rcases (by omega : a = 1 ∨ a = 2 ∨ a = 3 ∨ a = 4) with rfl | rfl | rfl | rfl <;> simp [h8, chOut]
    · rcases (by omega : a = 6 ∨ a = 7) with rfl | rfl <;> simp [h8, chOut]
  rw [if_neg (by simp only [Bool.or_eq_true, Bool.and_eq_true, beq_iff_eq, decide_eq_true_eq]; omega)]
  unfold chStep
  by_cases a0 : a = 0
  · rw [if_pos (by simpa using a0), if_pos a0]
    have hm : min (k + 3) (vs.length : Int) = k + (ahead vs k : Nat) := by unfold ahead; omega
    have hm2 : ahead vs k ≤ 3 := by unfold ahead; omega
    rw [send_loop (vs := vs) (m := ahead vs k)]
    · simp only [Option.bind_some, List.length_append, sendL_len]
      by_cases hc2 : ahead vs k = 0 ∨ 100 < ps.length + ahead vs k
      · rw [if_pos (by simp only [Bool.or_eq_true, beq_iff_eq, decide_eq_true_eq]; omega), if_pos hc2]; rfl
      · rw [if_neg (by simp only [Bool.or_eq_true, beq_iff_eq, decide_eq_true_eq]; omega), if_neg hc2]; rfl
    · intro j hj
      simp only [spec_ChannelStep_b0, Bool.and_eq_true, decide_eq_true_eq, List.length_append, sendL_len]
      rw [chk_pos (by intro _; omega)]
      by_cases hj2 : j < ahead vs k
      · rw [if_pos (by omega), if_pos hj2, chk_pos (by omega), chk_pos (by omega), chk_pos (by omega), sendL_succ]
        have e1 : (k + (j : Int)).toNat = k.toNat + j := by omega
        have e2 : k + (j : Int) = ((k.toNat + j : Nat) : Int) := by omega
        rw [e1, List.append_assoc]
        congr 6
        rw [e2]
      · rw [if_neg (by omega), if_neg hj2]
  rw [if_neg (by simpa using a0), if_neg a0]
  by_cases a1 : a = 1
  · rw [if_pos (by simpa using a1), if_pos a1, if_neg (show ¬ ps.length = 0 by omega), chk_pos (by omega)]
    by_cases he : (ps.getD 0 (0, 0)).1 = gs.length
    · rw [if_pos (by simpa [-List.getD_eq_getElem?_getD] using he), if_pos he, chk_pos (by omega), chk_pos (by omega), chk_pos (by omega)]; rfl
    · rw [if_neg (by simpa [-List.getD_eq_getElem?_getD] using he), if_neg he, chk_pos (by omega)]; rfl
  rw [if_neg (by simpa using a1), if_neg a1]
  by_cases a2 : a = 2
  · rw [if_pos (by simpa using a2), if_pos a2, if_neg (show ¬ ps.length = 0 by omega), chk_pos (by omega)]; rfl
  rw [if_neg (by simpa using a2), if_neg a2]
  by_cases a3 : a = 3
  · rw [if_pos (by simpa using a3), if_pos a3]
    by_cases hl : ps.length = 100
    · rw [if_pos (by simp only [beq_iff_eq]; omega), if_pos (by omega)]; rfl
    · rw [if_neg (by simp only [beq_iff_eq]; omega), if_neg (by omega), chk_pos (by omega), chk_pos (by omega)]; rfl
  rw [if_neg (by simpa using a3), if_neg a3]
  by_cases a4 : a = 4
  · rw [if_pos (by simpa using a4), if_pos a4, if_neg (show ¬ ps.length = 0 by omega), chk_pos (by omega), chk_pos (by omega), chk_pos (by simp <;> omega)]; rfl
  rw [if_neg (by simpa using a4), if_neg a4]
  by_cases a5 : a = 5
  · rw [if_pos (by simpa using a5), if_pos a5]
    by_cases hl : rs.length = 100
    · rw [if_pos (by simp only [beq_iff_eq]; omega), if_pos (by omega)]; rfl
    · rw [if_neg (by simp only [beq_iff_eq]; omega), if_neg (by omega), chk_pos (by omega)]; rfl
  rw [if_neg (by simpa using a5), if_neg a5]
  by_cases a6 : a = 6
  · rw [if_pos (by simpa using a6), if_pos a6, if_neg (show ¬ rs.length = 0 by omega), chk_pos (by omega), chk_pos (by omega)]; rfl
  rw [if_neg (by simpa using a6), if_neg a6]
  by_cases a7 : a = 7
  · rw [if_pos (by simpa using a7), if_pos a7, if_neg (show ¬ rs.length = 0 by omega), chk_pos (by omega)]; rfl
  rw [if_neg (by simpa using a7), if_neg a7]; rfl
theorem spec_Step_bad (h1 : vs.length ≤ 1000000000) (h2 : gs.length ≤ 1000000000) (h3 : ps.length ≤ 1000000000) (h4 : rs.length ≤ 1000000000) (h : ¬ CvOk vs k gs ps rs) :
    spec_ChannelStep vs k gs ps rs a = some ([], 0, [], [], [], false) := by
  unfold spec_ChannelStep
  rw [spec_ChannelValid_eq h1 h2 h3 h4, cvok, yes_false h]; rfl
theorem cloneI_eq {xs : List Int} (h : xs.length ≤ 1000000000) : slices_Clone_int_int xs = some xs := by
  unfold slices_Clone_int_int
  rw [both_eq]
  · simp only [Bool.false_eq_true, ↓reduceIte]; rw [chk_pos (by omega)]; rfl
  · intro h0
    simp only [Bool.false_eq_true, ↓reduceIte]; rw [chk_pos (by omega), List.eq_nil_of_length_eq_zero h0]; rfl
theorem cloneP_eq {xs : Pk} (h : xs.length ≤ 1000000000) : slices_Clone_impl_Packet_impl_Packet xs = some xs := by
  unfold slices_Clone_impl_Packet_impl_Packet
  rw [both_eq]
  · simp only [Bool.false_eq_true, ↓reduceIte]; rw [chk_pos (by omega)]; rfl
  · intro h0
    simp only [Bool.false_eq_true, ↓reduceIte]; rw [chk_pos (by omega), List.eq_nil_of_length_eq_zero h0]; rfl
theorem copied_eq (h : CvOk vs k gs ps rs) : impl_Channel_copied vs k gs ps rs = some (vs, k, gs, ps, rs) := by
  have h1 := h.vl; have h2 := h.gl; have h5 := h.pl; have h6 := h.rl
  unfold impl_Channel_copied
  rw [cloneI_eq (by omega), cloneI_eq (xs := gs) (by omega), cloneP_eq (by omega), cloneI_eq (xs := rs) (by omega)]; rfl
/-- A step leads to a valid channel. -/
theorem chStep_ok (h : CvOk vs k gs ps rs) : CvOk vs (chStep vs k gs ps rs a).2.1 (chStep vs k gs ps rs a).2.2.1 (chStep vs k gs ps rs a).2.2.2.1 (chStep vs k gs ps rs a).2.2.2.2 := by
  have h1 := h.vl; have h2 := h.gl; have h3 := h.k0; have h4 := h.k1; have h5 := h.pl; have h6 := h.rl
  have hpr := (all_mem (d := (0, 0)) (P := PkIn vs)).1 h.pr
  have hrr := (all_mem (d := 0) (P := fun n : Int => 0 ≤ n ∧ n ≤ gs.length)).1 h.rr
  have hd : ∀ p ∈ ps.drop 1, PkIn vs p := fun p hp => hpr p (List.mem_of_mem_drop hp)
  have hrd : ∀ n ∈ rs.drop 1, 0 ≤ n ∧ n ≤ (gs.length : Int) := fun n hn => hrr n (List.mem_of_mem_drop hn)
  have hdl : (ps.drop 1).length = ps.length - 1 := by simp
  have hrl : (rs.drop 1).length = rs.length - 1 := by simp
  have h0 : ps.length ≠ 0 → PkIn vs (ps.getD 0 (0, 0)) := fun h => by refine ‹CvOk vs k gs ps rs›.pr 0 (by omega)
  have hr0 : rs.length ≠ 0 → 0 ≤ rs.getD 0 0 ∧ rs.getD 0 0 ≤ gs.length := fun h => by refine ‹CvOk vs k gs ps rs›.rr 0 (by omega)
  have mkp : ∀ {ps' : Pk}, ps'.length ≤ 100 → (∀ p ∈ ps', PkIn vs p) → CvOk vs k gs ps' rs := fun hl hm => ⟨h1, h.vr, h2, h.gr, h3, h4, hl, h6, (all_mem (d := (0, 0))).2 hm, h.rr⟩
  unfold chStep
  repeat' split
  all_goals first | exact h | dsimp only
  · rename_i ha hc
    have hm2 : ahead vs k ≤ 3 := by unfold ahead; omega
    refine mkp (by rw [List.length_append, sendL_len]; omega) fun p hp => ?_
    rcases List.mem_append.1 hp with hp | hp
    · exact hpr p hp
    · obtain ⟨j, hj, rfl⟩ := List.mem_map.1 hp
      have hj := List.mem_range.1 hj
      refine ⟨by omega, ?_, by show vs.getD _ _ = vs.getD _ _; rw [Int.toNat_natCast]⟩
      have : k + (j : Int) < vs.length := by have := (show ahead vs k = (min (k + 3) (vs.length : Int) - k).toNat from rfl); omega
      omega
  · rename_i hn he
    obtain ⟨p1, p2, p3⟩ := h0 hn
    refine ⟨h1, h.vr, by rw [List.length_append, List.length_singleton]; omega, fun i hi => ?_, h3, by rw [List.length_append, List.length_singleton]; omega, by omega, h6, (all_mem (d := (0, 0))).2 hd, fun i hi => ?_⟩
    · rw [List.length_append, List.length_singleton] at hi
      by_cases hi2 : i < gs.length
      · rw [← h.gr i hi2]; simp [List.getD_eq_getElem?_getD, List.getElem?_append_left hi2]
      · have : i = gs.length := by omega
        subst this
        simp only [List.getD_eq_getElem?_getD, List.getElem?_append_right (Nat.le_refl _), Nat.sub_self, List.getElem?_cons_zero, Option.getD_some]
        rw [← List.getD_eq_getElem?_getD, p3, he]; simp
    · have := h.rr i hi
      rw [List.length_append, List.length_singleton]; omega
  · exact mkp (by omega) hd
  · exact mkp (by omega) hd
  · rename_i hn
    refine mkp (by rw [List.length_append, List.length_singleton]; omega) fun p hp => ?_
    rcases List.mem_append.1 hp with hp | hp
    · exact hpr p hp
    · rw [List.mem_singleton.1 hp]; exact h0 (by omega)
  · rename_i hn
    refine mkp (by rw [List.length_append, List.length_singleton]; omega) fun p hp => ?_
    rcases List.mem_append.1 hp with hp | hp
    · exact hd p hp
    · rw [List.mem_singleton.1 hp]; exact h0 (by omega)
  · refine ⟨h1, h.vr, h2, h.gr, h3, h4, h5, by rw [List.length_append, List.length_singleton]; omega, h.pr, (all_mem (d := 0) (P := fun n : Int => 0 ≤ n ∧ n ≤ gs.length)).2 fun n hn => ?_⟩
    rcases List.mem_append.1 hn with hn | hn
    · exact hrr n hn
    · rw [List.mem_singleton.1 hn]; omega
  · rename_i hn
    have := hr0 hn
    exact ⟨h1, h.vr, h2, h.gr, by omega, by omega, h5, by omega, h.pr, (all_mem (d := 0) (P := fun n : Int => 0 ≤ n ∧ n ≤ gs.length)).2 hrd⟩
  · exact ⟨h1, h.vr, h2, h.gr, h3, h4, h5, by omega, h.pr, (all_mem (d := 0) (P := fun n : Int => 0 ≤ n ∧ n ≤ gs.length)).2 hrd⟩
end
end Go.Proofs.Ytncminpafiahpaa
