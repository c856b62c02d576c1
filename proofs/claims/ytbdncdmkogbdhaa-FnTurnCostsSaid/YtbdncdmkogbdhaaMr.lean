/- Forests as they are made: a tree for every part. -/
import Derived.Test.YtbdncdmkogbdhaaMo
import Derived.Test.YtbdncdmkogbdhaaMp
set_option linter.unusedSimpArgs false
set_option linter.unusedVariables false
namespace Go.Proofs.Ytbdncdmkogbdhaa
open Go Go.Av
attribute [local go_sem] gives_chk gives_ite gives_some gives_bind gives_join Sum.elim_inl Sum.elim_inr decide_eq_true_eq decide_eq_false_iff_not Bool.not_eq_true' Bool.not_eq_false' Bool.or_eq_true Bool.and_eq_true Bool.not_eq_eq_eq_not beq_iff_eq bne_iff_ne ne_eq Bool.or_eq_false_iff Bool.and_eq_false_iff Bool.not_eq_true Bool.not_eq_false Bool.not_true Bool.not_false Int.toNat_natCast beq_eq_false_iff_ne bne_eq_false_iff_eq Decidable.not_not Bool.default_bool

/-- v lies in the part of k. -/
def InC (es : List (Int × Int × Int)) (k v : Int) : Prop := ∀ S : Int → Prop, (∀ u w, S u → Adj es u w → S w) → S k → S v
theorem Adj.symm {es : List (Int × Int × Int)} {a b : Int} (h : Adj es a b) : Adj es b a := h.elim .inr .inl
theorem InC.refl {es : List (Int × Int × Int)} {k : Int} : InC es k k := fun _ _ h => h
theorem InC.step {es : List (Int × Int × Int)} {k u w : Int} (h : InC es k u) (ha : Adj es u w) : InC es k w := fun S hS hk => hS u w (h S hS hk) ha
theorem InC.trans {es : List (Int × Int × Int)} {a b c : Int} (h : InC es a b) (g : InC es b c) : InC es a c := fun S hS hk => g S hS (h S hS hk)
theorem InC.symm {es : List (Int × Int × Int)} {k v : Int} (h : InC es k v) : InC es v k :=
  h (fun x => InC es x k) (fun _ _ hu ha => (InC.refl.step ha.symm).trans hu) InC.refl
/-- Trees that lead upwards. -/
def TreF (n : Nat) (es : List (Int × Int × Int)) (ps : List Int) (B : Nat) (d rt : Nat → Nat) : Prop := ∀ v, v < n → 0 ≤ ps.getD v 0 →
  rt v < B ∧ InC es (rt v : Nat) (v : Nat) ∧ (∀ j : Nat, j < rt v → ¬ InC es (j : Nat) (v : Nat)) ∧ d v + neg ps < n ∧
    ((ps.getD v 0 = (v : Nat) ∧ rt v = v ∧ d v = 0) ∨ ∃ u : Nat, u < n ∧ ps.getD v 0 = (u : Nat) ∧ u ≠ v ∧ Adj es (v : Nat) (u : Nat) ∧ 0 ≤ ps.getD u 0 ∧ d v = d u + 1 ∧ rt u = rt v)
def Tre (n : Nat) (es : List (Int × Int × Int)) (ps : List Int) (B : Nat) : Prop := ps.length = n ∧ Mm ps ∧ ∃ d rt : Nat → Nat, TreF n es ps B d rt
theorem Tre.more {n B C : Nat} {es : List (Int × Int × Int)} {ps : List Int} (h : Tre n es ps B) (hc : B ≤ C) : Tre n es ps C := by
  obtain ⟨hl, hm, d, rt, hF⟩ := h
  exact ⟨hl, hm, d, rt, fun v hv hp => ⟨by have := (hF v hv hp).1; omega, (hF v hv hp).2⟩⟩
end Go.Proofs.Ytbdncdmkogbdhaa
