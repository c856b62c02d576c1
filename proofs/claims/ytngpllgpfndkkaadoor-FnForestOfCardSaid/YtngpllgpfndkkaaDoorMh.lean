/- Forests: the tops that both sides find. -/
import Derived.Test.YtngpllgpfndkkaaDoorMg
set_option linter.unusedSimpArgs false
set_option linter.unusedVariables false
namespace Go.Proofs.YtngpllgpfndkkaaDoor
open Go Go.Av
attribute [local go_sem] gives_chk gives_ite gives_some gives_bind gives_join Sum.elim_inl Sum.elim_inr decide_eq_true_eq decide_eq_false_iff_not Bool.not_eq_true' Bool.not_eq_false' Bool.or_eq_true Bool.and_eq_true Bool.not_eq_eq_eq_not beq_iff_eq bne_iff_ne ne_eq Bool.or_eq_false_iff Bool.and_eq_false_iff Bool.not_eq_true Bool.not_eq_false Bool.not_true Bool.not_false Int.toNat_natCast beq_eq_false_iff_ne bne_eq_false_iff_eq Decidable.not_not Bool.default_bool

def stepF (ps : List Int) (v : Int) : Int := if 0 ≤ ps.getD v.toNat 0 ∧ ps.getD v.toNat 0 < (ps.length : Int) then ps.getD v.toNat 0 else v
def itF (ps : List Int) : Nat → Int → Int
  | 0, v => v
  | m + 1, v => itF ps m (stepF ps v)
theorem itF_stuck {ps : List Int} {v : Int} (h : stepF ps v = v) : ∀ m, itF ps m v = v
  | 0 => rfl
  | m + 1 => by rw [itF, h]; exact itF_stuck h m
theorem stepF_in {ps : List Int} {v : Int} (h : 0 ≤ v ∧ v < (ps.length : Int)) : 0 ≤ stepF ps v ∧ stepF ps v < (ps.length : Int) := by
  unfold stepF; split
  · assumption
  · exact h
theorem itF_in {ps : List Int} : ∀ {m : Nat} {v : Int}, 0 ≤ v ∧ v < (ps.length : Int) → 0 ≤ itF ps m v ∧ itF ps m v < (ps.length : Int)
  | 0, _, h => h
  | m + 1, v, h => by rw [itF]; exact itF_in (m := m) (stepF_in h)
/-- Both walks end at one top. -/
theorem endF_it {ps : List Int} : ∀ (m : Nat) (v : Int) (s : Nat), 0 ≤ v ∧ v < (ps.length : Int) → if ps.getD (itF ps m v).toNat 0 = itF ps m v then ∃ d, endF ps (m + 1) v s = some (itF ps m v, d) else endF ps (m + 1) v s = none
  | m, v, s, h => by
    by_cases he : ps.getD v.toNat 0 = v
    · have hs : stepF ps v = v := by unfold stepF; split; exact he; rfl
      rw [itF_stuck hs, if_pos he]
      exact ⟨s, endF_found (by omega) h.1 h.2 he⟩
    · cases m with
      | zero => rw [itF, if_neg he, endF_step rfl h.1 h.2 he]; rfl
      | succ m =>
        by_cases hr : 0 ≤ ps.getD v.toNat 0 ∧ ps.getD v.toNat 0 < (ps.length : Int)
        · have hs : stepF ps v = ps.getD v.toNat 0 := by unfold stepF; rw [if_pos hr]
          rw [itF, hs, endF_step rfl h.1 h.2 he]
          exact endF_it m _ (s + 1) hr
        · have hs : stepF ps v = v := by unfold stepF; rw [if_neg hr]
          rw [itF_stuck hs, if_neg he, endF_step rfl h.1 h.2 he]
          exact endF_out (by omega)
def topL (ps : List Int) (k : Nat) : List Int := (List.range k).map fun j => itF ps ps.length (j : Nat)
theorem topL_len (ps : List Int) (k : Nat) : (topL ps k).length = k := by simp [topL]
theorem topL_get {ps : List Int} {k j : Nat} (h : j < k) : (topL ps k).getD j 0 = itF ps ps.length (j : Nat) := by
  simp only [topL, List.getD_eq_getElem?_getD, List.getElem?_map, List.getElem?_range h, Option.map_some, Option.getD_some]
theorem topL_succ (ps : List Int) (k : Nat) : topL ps (k + 1) = topL ps k ++ [itF ps ps.length (k : Nat)] := by
  simp only [topL, List.range_succ, List.map_append, List.map_cons, List.map_nil]
def VOk (es : List (Int × Int × Int)) (ps : List Int) (k : Nat) : Prop := (0 ≤ ps.getD k 0 ∧ ps.getD k 0 < (ps.length : Int)) ∧ (ps.getD k 0 = k ∨ Adj es k (ps.getD k 0)) ∧ ps.getD (itF ps ps.length (k : Nat)).toNat 0 = itF ps ps.length (k : Nat)
def ForOk (n : Int) (es : List (Int × Int × Int)) (ps : List Int) : Prop := GOk n es ∧ (ps.length : Int) = n ∧ (∀ k, k < ps.length → VOk es ps k) ∧ ∀ k, k < es.length → itF ps ps.length (es.getD k (0, 0, 0)).1 = itF ps ps.length (es.getD k (0, 0, 0)).2.1
noncomputable def forOk (n : Int) (es : List (Int × Int × Int)) (ps : List Int) : Bool := yes (ForOk n es ps)
theorem topL_fill {ps : List Int} {k : Nat} (hk : k < ps.length) : (topL ps k ++ List.replicate (ps.length - k) 0).set k (itF ps ps.length (k : Nat)) = topL ps (k + 1) ++ List.replicate (ps.length - (k + 1)) 0 := by
  rw [topL_succ, List.set_append_right _ _ (by rw [topL_len]; exact Nat.le_refl _), topL_len, Nat.sub_self, show ps.length - k = (ps.length - (k + 1)) + 1 from by omega, List.replicate_succ, List.set_cons_zero, List.append_assoc]
  rfl
theorem for_places {n : Int} {es : List (Int × Int × Int)} {ps ms : List Int} (hg : GOk n es) (hl : (ps.length : Int) = n) (hm : MaskOk n ms fun v w => Adj es v w) :
    gives (loop (impl_ForestRight_b0 n es ps ms) (0, List.replicate n.toNat 0)) fun x => (match x with | .inl pl => pl = topL ps ps.length ∧ ∀ k, k < ps.length → VOk es ps k | .inr _ => ¬ ∀ k, k < ps.length → VOk es ps k) := by
  have h0 := hg.1
  have h16 := hg.2.1
  have hs := loop_scan (N := ps.length) (p := VOk es ps) (fun k : Nat => ((k : Int), topL ps k ++ List.replicate (ps.length - k) 0)) (Sum.inl (topL ps ps.length) : List Int ⊕ Unit) (Sum.inr ()) (body := impl_ForestRight_b0 n es ps ms) (fun k hk _ => by
    simp only [impl_ForestRight_b0, impl_has_eq, Int.toNat_natCast, decide_eq_true_eq, Option.bind_some, Bool.not_not]
    by_cases hlt : k < ps.length
    · rw [if_pos (by omega), if_pos hlt, chk_pos (by omega)]
      by_cases hr : 0 ≤ ps.getD k 0 ∧ ps.getD k 0 < n
      · have hml : ms.length = n.toNat := hm.1
        rw [decide_eq_true hr, chk_pos (fun _ _ => by omega)]
        have hv : ((if (ps.getD k 0 != (k : Int)) = true then if (true : Bool) = true then impl_vertexMask_has (ms.getD k 0) (ps.getD k 0) else some default else some default).bind fun y_3 => some ((!true) || (ps.getD k 0 != (k : Int)) && !y_3)) = some (yes (¬ (ps.getD k 0 = k ∨ Adj es k (ps.getD k 0)))) := by
          by_cases h1 : ps.getD k 0 = (k : Int)
          · rw [if_neg (by simpa using h1), yes_false (fun h => h (.inl h1))]
            have h2 : (ps.getD k 0 != (k : Int)) = false := by simpa using h1
            simp only [Option.bind_some, h2]; rfl
          · have h2 : (ps.getD k 0 != (k : Int)) = true := by simpa using h1
            obtain ⟨m1, m2⟩ := hm.2 k (by omega)
            have m3 : (ms.getD k 0).toNat.testBit (ps.getD k 0).toNat = true ↔ Adj es k (((ps.getD k 0).toNat : Nat) : Int) := m2 (ps.getD k 0).toNat
            rw [show (((ps.getD k 0).toNat : Nat) : Int) = ps.getD k 0 from by omega] at m3
            rw [if_pos h2, if_pos rfl, impl_vmHas_eq m1 (by omega) (by omega), h2]
            simp only [Option.bind_some, Bool.not_true, Bool.false_or, Bool.true_and]
            by_cases h3 : Adj es k (ps.getD k 0)
            · rw [m3.2 h3, yes_false (fun h => h (.inr h3))]; rfl
            · rw [yes_true (by rintro (h | h); exact h1 h; exact h3 h)]
              cases hb : (ms.getD k 0).toNat.testBit (ps.getD k 0).toNat
              · rfl
              · exact absurd (m3.1 hb) h3
        obtain ⟨y3, hx, hy⟩ := Option.bind_eq_some_iff.1 hv
        have hy' := Option.some.inj hy
        simp only [Bool.not_true, Bool.not_false, ↓reduceIte, Bool.false_or] at hx hy' ⊢
        simp only [if_pos hr, hx, Option.bind_some, hy']
        by_cases h3 : ps.getD k 0 = k ∨ Adj es k (ps.getD k 0)
        · rw [yes_false (fun h => h h3), if_neg (by simp), impl_endOf_eq (by omega)]
          have he := endF_it (ps := ps) ps.length k 0 (by omega)
          by_cases h4 : ps.getD (itF ps ps.length (k : Nat)).toNat 0 = itF ps ps.length (k : Nat)
          · rw [if_pos h4] at he
            obtain ⟨d, he⟩ := he
            have hll := topL_len ps k
            rw [he, if_pos ⟨by omega, h3, h4⟩]
            simp only [endV, Option.bind_some, Bool.not_true, Bool.false_eq_true, ↓reduceIte]
            rw [chk_pos (by simp only [List.length_append, List.length_replicate]; omega), chk_pos (by omega), topL_fill hlt]; rfl
          · rw [if_neg h4] at he
            rw [he, if_neg (fun h => h4 h.2.2)]; rfl
        · rw [yes_true h3, if_pos rfl, if_neg (fun h => h3 h.2.1)]
      · rw [decide_eq_false hr, chk_pos (by simp)]
        rw [if_neg (show ¬ VOk es ps k from fun h => hr (by rw [← hl]; exact h.1))]
        cases hx : (if (ps.getD k 0 != (k : Int)) = true then (if (false : Bool) = true then impl_vertexMask_has (ms.getD k 0) (ps.getD k 0) else some default) else some default) with
        | none => split at hx <;> simp at hx
        | some y =>
          simp only [Bool.not_true, Bool.not_false, if_neg hr, Bool.true_or, ↓reduceIte]
          split <;> rfl
    · rw [if_neg (by omega), if_neg hlt, show k = ps.length from by omega]
      simp)
  rw [show topL ps 0 ++ List.replicate (ps.length - 0) (0 : Int) = List.replicate n.toNat 0 from by simp only [topL, List.range_zero, List.map_nil, List.nil_append]; congr 1; omega] at hs
  refine ⟨_, hs, ?_⟩
  split
  · rename_i h1; exact ⟨rfl, h1⟩
  · assumption
end Go.Proofs.YtngpllgpfndkkaaDoor
