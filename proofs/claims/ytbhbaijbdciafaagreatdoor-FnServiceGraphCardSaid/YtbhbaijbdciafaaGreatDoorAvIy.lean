import Derived.Test.YtbhbaijbdciafaaGreatDoorAvIt
set_option linter.unusedSimpArgs false
set_option linter.unusedVariables false
namespace Go.Av
open Go
variable {P : Program} {N : Nat} {pin : List Nat} {rq : Option Nat} {H : List AObj}
def OpKI (rq : Option Nat) (P : Program) (N : Nat) (pin : List Nat) (o : Oper) (K : Env → List AObj → Prop) (E : Env) (H : List AObj) : Prop :=
 ∀ πv γ ρ a w, St N pin πv γ ρ E H a w → ∀ (K' : Act → World → Prop) (Q' : Exit → Act → World → Prop),
  (∀ v w' γ' ρ' E' H', K E' H' → St N pin πv γ' ρ' E' H' (a.put o.dst v) w' → Fr γ w γ' w' → K' (a.put o.dst v) w') → o.wpIn (FW rq) 0 P a w K' Q'
def deadAll (cs : List Nat) (H : List AObj) : List AObj := cs.foldl (fun H o => H.set o .dead) H
def pastY (e : Nat) (cs : List Nat) (H : List AObj) (x : AObj) : List AObj := (deadAll cs (H.map (AObj.gone (e :: cs)))).set e x
end Go.Av
