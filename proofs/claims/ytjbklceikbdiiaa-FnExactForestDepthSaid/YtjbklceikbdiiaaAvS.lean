/- Small functions over values, by contract. -/
import Derived.Test.YtjbklceikbdiiaaAvR
namespace Go.Av
open Go

variable {P : Program} {N : Nat} {pin : List Nat}

theorem PureF.of {f : FuncId} {g : List Value → Option (Prop × Value)} (hen : Enters P f) (h : ∀ vs q r, g vs = some (q, r) → q → FnA P f (vs.map ofConst) [] [] (fun x _ => x = .v r)) : PureF P f g :=
  ⟨hen, fun vs q r hg hq w => by
    have h1 := (h vs q r hg hq).calls (fun _ => none) [] vs w ⟨rfl, fun o ob ho => by simp at ho, fun b o hb => by cases hb⟩ ⟨by simp, fun j y u hy hu => by
      rw [List.getElem?_map, hu] at hy
      simp at hy; subst hy
      exact ofConst_rel _ _⟩
    refine h1.mono fun e w' ⟨r', x, γ', ρ', H', h2, h3, h4, h5, h6, h7⟩ => ?_
    subst h3
    have : r' = r := h4
    subst this
    exact ⟨h2, h6.os, h6.tape, h6.output, h6.size, fun b hb => (h6.keep b hb rfl).1⟩⟩

def ftNone : FuncId → Option (List Value → Option (Prop × Value)) := fun _ => none
theorem ftNoneOk : PTab P ftNone := fun f g h => by cases h
def ftAdd (k : FuncId) (g : List Value → Option (Prop × Value)) (t : FuncId → Option (List Value → Option (Prop × Value))) : FuncId → Option (List Value → Option (Prop × Value)) := fun f => if f = k then some g else t f
theorem ftAddOk {k : FuncId} {g : List Value → Option (Prop × Value)} {t : FuncId → Option (List Value → Option (Prop × Value))} (h : PureF P k g) (ht : PTab P t) : PTab P (ftAdd k g t) := fun f g' hg => by
  unfold ftAdd at hg
  split at hg
  · rename_i he; subst he; simp at hg; subst hg; exact h
  · exact ht f g' hg

/-- Two codes, with a state of a family between them. -/
theorem awp_cut {σ : Type} (ok : σ → Prop) (I : σ → Env) (J : σ → List AObj) {x y : Code} {Q : Exit → Env → List AObj → Prop} {E : Env} {H : List AObj} (h : awp P N pin x (Thn (fun E' H' => ∃ s, ok s ∧ Red N pin E' H' (I s) (J s)) Q) E H)
    (k : ∀ s, ok s → awp P N pin y Q (I s) (J s)) : awp P N pin (.seq x y) Q E H :=
  awp_seq fun K hK => awp_mono h fun e E' H' hq => by
    cases e with
    | normal => obtain ⟨s, h1, h2⟩ := hq; exact hK _ _ (awp_red h2 (k s h1))
    | _ => exact hq

end Go.Av
