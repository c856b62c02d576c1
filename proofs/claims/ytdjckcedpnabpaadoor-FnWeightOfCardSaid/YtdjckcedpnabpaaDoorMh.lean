/- Forests: the tops that both sides find. -/
import Derived.Test.YtdjckcedpnabpaaDoorMg
set_option linter.unusedSimpArgs false
set_option linter.unusedVariables false
namespace Go.Proofs.YtdjckcedpnabpaaDoor
open Go Go.Av
attribute [local go_sem] gives_chk gives_ite gives_some gives_bind gives_join Sum.elim_inl Sum.elim_inr decide_eq_true_eq decide_eq_false_iff_not Bool.not_eq_true' Bool.not_eq_false' Bool.or_eq_true Bool.and_eq_true Bool.not_eq_eq_eq_not beq_iff_eq bne_iff_ne ne_eq Bool.or_eq_false_iff Bool.and_eq_false_iff Bool.not_eq_true Bool.not_eq_false Bool.not_true Bool.not_false Int.toNat_natCast beq_eq_false_iff_ne bne_eq_false_iff_eq Decidable.not_not Bool.default_bool

def stepF (ps : List Int) (v : Int) : Int := if 0 ≤ ps.getD v.toNat 0 ∧ ps.getD v.toNat 0 < (ps.length : Int) then ps.getD v.toNat 0 else v
def itF (ps : List Int) : Nat → Int → Int
  | 0, v => v
  | m + 1, v => itF ps m (stepF ps v)
theorem itF_stuck {ps : List Int} {v : Int} (h : stepF ps v = v) : ∀ m, itF ps m v = v
  | 0 => rfl
  | m + 1 => by rw [itF, h]; exact itF_stuck h m
theorem stepF_in {ps : List Int} {v : Int} (h : 0 ≤ v ∧ v < (ps.length : Int)) : 0 ≤ stepF ps v ∧ stepF ps v < (ps.length : Int) := by
  unfold stepF; split
  · assumption
  · exact h
theorem itF_in {ps : List Int} : ∀ {m : Nat} {v : Int}, 0 ≤ v ∧ v < (ps.length : Int) → 0 ≤ itF ps m v ∧ itF ps m v < (ps.length : Int)
  | 0, _, h => h
  | m + 1, v, h => by rw [itF]; exact itF_in (m := m) (stepF_in h)
/-- Both walks end at one top. -/
theorem endF_it {ps : List Int} : ∀ (m : Nat) (v : Int) (s : Nat), 0 ≤ v ∧ v < (ps.length : Int) → if ps.getD (itF ps m v).toNat 0 = itF ps m v then ∃ d, endF ps (m + 1) v s = some (itF ps m v, d) else endF ps (m + 1) v s = none
  | m, v, s, h => by
    by_cases he : ps.getD v.toNat 0 = v
    · have hs : stepF ps v = v := by unfold stepF; split; exact he; rfl
      rw [itF_stuck hs, if_pos he]
      exact ⟨s, endF_found (by omega) h.1 h.2 he⟩
    · cases m with
      | zero => rw [itF, if_neg he, endF_step rfl h.1 h.2 he]; rfl
      | succ m =>
        by_cases hr : 0 ≤ ps.getD v.toNat 0 ∧ ps.getD v.toNat 0 < (ps.length : Int)
        · have hs : stepF ps v = ps.getD v.toNat 0 := by unfold stepF; rw [if_pos hr]
          rw [itF, hs, endF_step rfl h.1 h.2 he]
          exact endF_it m _ (s + 1) hr
        · have hs : stepF ps v = v := by unfold stepF; rw [if_neg hr]
          rw [itF_stuck hs, if_neg he, endF_step rfl h.1 h.2 he]
          exact endF_out (by omega)
def topL (ps : List Int) (k : Nat) : List Int := (List.range k).map fun j => itF ps ps.length (j : Nat)
theorem topL_len (ps : List Int) (k : Nat) : (topL ps k).length = k := by simp [topL]
theorem topL_get {ps : List Int} {k j : Nat} (h : j < k) : (topL ps k).getD j 0 = itF ps ps.length (j : Nat) := by
  simp only [topL, List.getD_eq_getElem?_getD, List.getElem?_map, List.getElem?_range h, Option.map_some, Option.getD_some]
theorem topL_succ (ps : List Int) (k : Nat) : topL ps (k + 1) = topL ps k ++ [itF ps ps.length (k : Nat)] := by
  simp only [topL, List.range_succ, List.map_append, List.map_cons, List.map_nil]
def VOk (es : List (Int × Int × Int)) (ps : List Int) (k : Nat) : Prop := (0 ≤ ps.getD k 0 ∧ ps.getD k 0 < (ps.length : Int)) ∧ (ps.getD k 0 = k ∨ Adj es k (ps.getD k 0)) ∧ ps.getD (itF ps ps.length (k : Nat)).toNat 0 = itF ps ps.length (k : Nat)
def ForOk (n : Int) (es : List (Int × Int × Int)) (ps : List Int) : Prop := GOk n es ∧ (ps.length : Int) = n ∧ (∀ k, k < ps.length → VOk es ps k) ∧ ∀ k, k < es.length → itF ps ps.length (es.getD k (0, 0, 0)).1 = itF ps ps.length (es.getD k (0, 0, 0)).2.1
noncomputable def forOk (n : Int) (es : List (Int × Int × Int)) (ps : List Int) : Bool := yes (ForOk n es ps)
theorem topL_fill {ps : List Int} {k : Nat} (hk : k < ps.length) : (topL ps k ++ List.replicate (ps.length - k) 0).set k (itF ps ps.length (k : Nat)) = topL ps (k + 1) ++ List.replicate (ps.length - (k + 1)) 0 := by
  rw [topL_succ, List.set_append_right _ _ (by rw [topL_len]; exact Nat.le_refl _), topL_len, Nat.sub_self, show ps.length - k = (ps.length - (k + 1)) + 1 from by omega, List.replicate_succ, List.set_cons_zero, List.append_assoc]
  rfl
end Go.Proofs.YtdjckcedpnabpaaDoor
