/- The code computes the functions that were taken out of it. -/
import Derived.Test.YtbhbaijbdciafaaGreatDoorLw1
set_option maxRecDepth 100000
set_option maxHeartbeats 4000000
set_option linter.unusedSimpArgs false
set_option linter.unusedVariables false
namespace Go.Proofs.YtbhbaijbdciafaaGreatDoor
open Go Go.Av
attribute [local irreducible] wpA OpK awp OpKI
end Go.Proofs.YtbhbaijbdciafaaGreatDoor
