import Derived.Test.YtbhbaijbdciafaaGreatDoorAvIz
set_option linter.unusedSimpArgs false
set_option linter.unusedVariables false
namespace Go.Av
open Go
def seqY {A S X : Type} (f : A → S → Option (S ⊕ X)) (x : A) : S ⊕ X → Option (Bool × (S ⊕ X))
 | .inl s => (f x s).map fun u => (u.isLeft, u)
 | .inr _ => none
def jOf {S X : Type} (Jx : X → Code) : S ⊕ X → Option Code
 | .inl _ => none
 | .inr x => some (Jx x)
def RQ {S X : Type} (N : Nat) (pin : List Nat) (Hf : S → List AObj) (Hx : X → List AObj) (Jx : X → Code) (Ψ : ExtP) (u : S ⊕ X) (e : Exit) (E' : Env) (H' : List AObj) : Prop :=
 e = exitOf (jOf Jx u) ∧ Red N pin E' H' [] (Sum.elim Hf Hx u ++ [.ext Ψ])
section
variable {S X : Type} {N : Nat} {pin : List Nat} {Hf : S → List AObj} {Hx : X → List AObj} {Jx : X → Code} {Ψ : ExtP} {E' : Env} {H' : List AObj}
theorem RQ.next {s : S} (Ht : List AObj) (h : Red N pin E' H' [] Ht) (ht : Hf s ++ [.ext Ψ] = Ht := by rfl) : RQ N pin Hf Hx Jx Ψ (.inl s) .normal E' H' := ⟨rfl, by subst ht; exact h⟩
theorem RQ.out {x : X} {e : Exit} (Ht : List AObj) (h : Red N pin E' H' [] Ht) (hj : exitOf (some (Jx x)) = e := by rfl) (ht : Hx x ++ [.ext Ψ] = Ht := by rfl) : RQ N pin Hf Hx Jx Ψ (.inr x) e E' H' := ⟨hj.symm, by subst ht; exact h⟩
theorem RQ.asg {E1 : Env} {H1 : List AObj} (Et : Env) (Ht : List AObj) (h : Red N pin E' H' Et Ht) (he : E1 = Et := by rfl) (ht : H1 = Ht := by rfl) : Exit.normal = .normal ∧ Red N pin E' H' E1 H1 := ⟨rfl, by subst he ht; exact h⟩
end
def noView (n : Nat) : AObj → Bool
 | .view s _ => !(Nat.beq s n)
 | _ => true
variable {P : Program} {N : Nat} {pin : List Nat} {H : List AObj}
def matchY (H : List AObj) : List Nat → List AObj → Prop
 | [], [] => True
 | o :: m, ob :: Ha => (H[o]? = some ob ∧ ∃ (own : Bool) (k : Cont), ob = .row own k) ∧ matchY H m Ha
 | _, _ => False
theorem awp_isnilC {rq : Option Nat} {id : Nat} {t0 t3 t4 : Nat} {T e T' ty3 ty4 : TypeId} {p3 p4 : String} {af3 af4 : Array Edge} {o : Nat} {c : Cont} {rest : List Oper} {y : Code} {Q : Exit → Env → List AObj → Prop} {E : Env}
 (he : E.lookup t0 = some (.sl o)) (hr : rd H o = some c) (hT : P.underlying T = some (.slice e)) (h3 : dstOk N (some t3) = true) (h4 : dstOk N (some t4) = true) (hnd : noDefer (⟨some t3, .move (.tmp t0), ty3, p3, af3, none⟩ :: ⟨some t4, .binOp .eql T (.tmp t3) (.const (.slice none 0 0)) T', ty4, p4, af4, none⟩ :: rest).toArray = true)
 (hk : ∀ b : Bool, (b = true → c.len = 0) → ∃ (E1 : Env) (H1 : List AObj), (∀ K : Env → List AObj → Prop, (∀ E' H', Red N pin E' H' E1 H1 → K E' H') →
   wpA P N pin (⟨some t3, .move (.tmp t0), ty3, p3, af3, none⟩ :: ⟨some t4, .binOp .eql T (.tmp t3) (.const (.slice none 0 0)) T', ty4, p4, af4, none⟩ :: rest).toArray rest K ((t4, .v (.bool b)) :: (t3, .sl o) :: E) H) ∧ awp rq P N pin y Q E1 H1) :
 awp rq P N pin (.seq (.region id (⟨some t3, .move (.tmp t0), ty3, p3, af3, none⟩ :: ⟨some t4, .binOp .eql T (.tmp t3) (.const (.slice none 0 0)) T', ty4, p4, af4, none⟩ :: rest).toArray false) y) Q E H := by
 refine awp_seq fun K hK => awp_regionA ?_ hnd
 have he' : ev E (.tmp t0) = .sl o := by simp [ev, he]
 have e2 : ev ((t3, .sl o) :: E) (.tmp t3) = .sl o := by simp [ev]
 refine wpA_opK rfl (OpOk.opK (OpOk.quiet (q := True) (x := .sl o) h3 (by simp [quiet, he']) trivial) ?_)
 refine wpA_opK rfl (OpK_isnil (o := o) (c := c) e2 hr hT h4 fun b hb => ?_)
 obtain ⟨E1, H1, h1, h2⟩ := hk b hb
 exact h1 _ fun E' H' hred => hK _ _ (awp_red hred h2)
def guardOk (E : Env) (ops : Array Oper) (j : Nat) (want : Bool) : Prop := match guardV E ops j with | some (_, b) => b = want | none => False
end Go.Av
