/- Forests as they are made: a tree for every part. -/
import Derived.Test.YtaogppnbeijjmaaDoorMo
import Derived.Test.YtaogppnbeijjmaaDoorMp
set_option linter.unusedSimpArgs false
set_option linter.unusedVariables false
namespace Go.Proofs.YtaogppnbeijjmaaDoor
open Go Go.Av
attribute [local go_sem] gives_chk gives_ite gives_some gives_bind gives_join Sum.elim_inl Sum.elim_inr decide_eq_true_eq decide_eq_false_iff_not Bool.not_eq_true' Bool.not_eq_false' Bool.or_eq_true Bool.and_eq_true Bool.not_eq_eq_eq_not beq_iff_eq bne_iff_ne ne_eq Bool.or_eq_false_iff Bool.and_eq_false_iff Bool.not_eq_true Bool.not_eq_false Bool.not_true Bool.not_false Int.toNat_natCast beq_eq_false_iff_ne bne_eq_false_iff_eq Decidable.not_not Bool.default_bool

/-- v lies in the part of k. -/
def InC (es : List (Int × Int × Int)) (k v : Int) : Prop := ∀ S : Int → Prop, (∀ u w, S u → Adj es u w → S w) → S k → S v
theorem Adj.symm {es : List (Int × Int × Int)} {a b : Int} (h : Adj es a b) : Adj es b a := h.elim .inr .inl
theorem InC.refl {es : List (Int × Int × Int)} {k : Int} : InC es k k := fun _ _ h => h
theorem InC.step {es : List (Int × Int × Int)} {k u w : Int} (h : InC es k u) (ha : Adj es u w) : InC es k w := fun S hS hk => hS u w (h S hS hk) ha
theorem InC.trans {es : List (Int × Int × Int)} {a b c : Int} (h : InC es a b) (g : InC es b c) : InC es a c := fun S hS hk => g S hS (h S hS hk)
theorem InC.symm {es : List (Int × Int × Int)} {k v : Int} (h : InC es k v) : InC es v k :=
  h (fun x => InC es x k) (fun _ _ hu ha => (InC.refl.step ha.symm).trans hu) InC.refl
/-- Trees that lead upwards. -/
def TreF (n : Nat) (es : List (Int × Int × Int)) (ps : List Int) (B : Nat) (d rt : Nat → Nat) : Prop := ∀ v, v < n → 0 ≤ ps.getD v 0 →
  rt v < B ∧ InC es (rt v : Nat) (v : Nat) ∧ (∀ j : Nat, j < rt v → ¬ InC es (j : Nat) (v : Nat)) ∧ d v + neg ps < n ∧
    ((ps.getD v 0 = (v : Nat) ∧ rt v = v ∧ d v = 0) ∨ ∃ u : Nat, u < n ∧ ps.getD v 0 = (u : Nat) ∧ u ≠ v ∧ Adj es (v : Nat) (u : Nat) ∧ 0 ≤ ps.getD u 0 ∧ d v = d u + 1 ∧ rt u = rt v)
def Tre (n : Nat) (es : List (Int × Int × Int)) (ps : List Int) (B : Nat) : Prop := ps.length = n ∧ Mm ps ∧ ∃ d rt : Nat → Nat, TreF n es ps B d rt
theorem Tre.put {n B v w : Nat} {es : List (Int × Int × Int)} {ps : List Int} (h : Tre n es ps B) (hv : v < n) (hpv : 0 ≤ ps.getD v 0) (hw : w < n) (hpw : ps.getD w 0 < 0) (ha : Adj es (v : Nat) (w : Nat)) : Tre n es (ps.set w (v : Nat)) B := by
  obtain ⟨hl, hm, d, rt, hF⟩ := h
  have hng := neg_set (l := ps) (x := ((v : Nat) : Int)) (by omega) (i := w) (by omega) hpw
  have hvw : v ≠ w := fun e => by subst e; omega
  have hget := fun x => getD_set ps w x ((v : Nat) : Int) 0 (by omega)
  refine ⟨by simp [hl], hm.set (by omega) (by omega), fun x => if x = w then d v + 1 else d x, fun x => if x = w then rt v else rt x, fun x hx hpx => ?_⟩
  by_cases hxw : x = w
  · subst hxw
    obtain ⟨a1, a2, a3, a4, _⟩ := hF v hv hpv
    simp only [↓reduceIte]
    refine ⟨a1, a2.step ha, fun j hj hh => a3 j hj (hh.step ha.symm), by omega, .inr ⟨v, hv, by rw [hget, if_pos rfl], hvw, ha.symm, by rw [hget, if_neg hvw]; exact hpv, by rw [if_neg hvw], by rw [if_neg hvw]⟩⟩
  · rw [hget, if_neg hxw] at hpx
    obtain ⟨a1, a2, a3, a4, a5⟩ := hF x hx hpx
    simp only [if_neg hxw]
    refine ⟨a1, a2, a3, by omega, ?_⟩
    rcases a5 with ⟨b1, b2, b3⟩ | ⟨u, b1, b2, b3, b4, b5, b6, b7⟩
    · exact .inl ⟨by rw [hget, if_neg hxw]; exact b1, b2, b3⟩
    · have huw : u ≠ w := fun e => by subst e; omega
      exact .inr ⟨u, b1, by rw [hget, if_neg hxw]; exact b2, b3, b4, by rw [hget, if_neg huw]; exact b5, by rw [if_neg huw]; exact b6, by rw [if_neg huw]; exact b7⟩
theorem Tre.more {n B C : Nat} {es : List (Int × Int × Int)} {ps : List Int} (h : Tre n es ps B) (hc : B ≤ C) : Tre n es ps C := by
  obtain ⟨hl, hm, d, rt, hF⟩ := h
  exact ⟨hl, hm, d, rt, fun v hv hp => ⟨by have := (hF v hv hp).1; omega, (hF v hv hp).2⟩⟩
/-! The least of every part. -/
def SOk (n : Nat) (es : List (Int × Int × Int)) (k : Nat) (t : List Int) : Prop := t.length = n ∧ 0 ≤ t.getD k 0 ∧ ∀ v, v < n → t.getD v 0 = -1 ∨ (0 ≤ t.getD v 0 ∧ t.getD v 0 + neg t < n ∧ InC es (k : Nat) (v : Nat))
theorem SOk.put {n k v w : Nat} {es : List (Int × Int × Int)} {t : List Int} (h : SOk n es k t) (hv : v < n) (hpv : 0 ≤ t.getD v 0) (hw : w < n) (hpw : t.getD w 0 < 0) (ha : Adj es (v : Nat) (w : Nat)) : SOk n es k (t.set w (t.getD v 0 + 1)) := by
  obtain ⟨hl, hk, hF⟩ := h
  have hng := neg_set (l := t) (x := t.getD v 0 + 1) (by omega) (i := w) (by omega) hpw
  have hget := fun x => getD_set t w x (t.getD v 0 + 1) 0 (by omega)
  refine ⟨by simp [hl], ?_, fun x hx => ?_⟩
  · rw [hget]; split <;> omega
  · rw [hget]
    by_cases hxw : x = w
    · rw [if_pos hxw]
      rcases hF v hv with h | ⟨h1, h2, h3⟩
      · omega
      · exact .inr ⟨by omega, by omega, by rw [hxw]; exact h3.step ha⟩
    · rw [if_neg hxw]
      rcases hF x hx with h | ⟨h1, h2, h3⟩
      · exact .inl h
      · exact .inr ⟨h1, by omega, h3⟩
end Go.Proofs.YtaogppnbeijjmaaDoor
