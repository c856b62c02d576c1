import Derived.Test.YtbhbaijbdciafaaGreatDoorAvIy
import Derived.Below
set_option linter.unusedSimpArgs false
set_option linter.unusedVariables false
namespace Go.Av
open Go
variable {P : Program} {N : Nat} {pin : List Nat} {H : List AObj}
def matchIt (H : List AObj) (m : List Nat) (p : Nat) : AObj → Prop
 | .row false c => H[p]? = some (.row false c)
 | .rbox cells => match H[p]? with | some (.rbox cells') => fit1s m cells cells' | _ => False
 | _ => False
def matchIts (H : List AObj) (m : List Nat) : List Nat → List AObj → Prop
 | [], [] => True
 | p :: l, ob :: Hc => p < H.length ∧ matchIt H m p ob ∧ matchIts H m l Hc
 | _, _ => False
end Go.Av
