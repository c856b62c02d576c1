import Derived.Test.YtbhbaijbdciafaaGreatDoorAvZ
import Derived.Test.YtbhbaijbdciafaaGreatDoorPf
import Derived.Lib.Tables
set_option maxRecDepth 100000
set_option maxHeartbeats 4000000
set_option linter.unusedSimpArgs false
set_option linter.unusedVariables false
namespace Go.Proofs.YtbhbaijbdciafaaGreatDoor
open Go Go.Av
noncomputable def insA (a0 : List (Int × Int × Int)) (a1 : Int) (a2 : List (Int × Int × Int)) : Option ((List (Int × Int × Int)) × (List (Int × Int × Int))) := chk (0 ≤ a1 ∧ a1 ≤ (a0.length : Int) ∧ (a0.length : Int) ≤ a0.length) <| if ((a2.length : Int) == 0) then some (a0, a2) else if (a1 == (a0.length : Int)) then chk ((a0.length + a2.length) * 24 ≤ 140737488355328) <| some ((a0 ++ a2), a2) else none
noncomputable def insF (a0 : List (Int × Int × Int)) (a1 : Int) (a2 : List (Int × Int × Int)) : Option (List (Int × Int × Int)) :=
 chk (a2.length = 1) <| chk (0 ≤ a1 ∧ a1 ≤ (a0.length : Int)) <| chk ((a0.length + 1) * 24 ≤ 140737488355328) <| some (a0.take a1.toNat ++ a2 ++ a0.drop a1.toNat)
end Go.Proofs.YtbhbaijbdciafaaGreatDoor
