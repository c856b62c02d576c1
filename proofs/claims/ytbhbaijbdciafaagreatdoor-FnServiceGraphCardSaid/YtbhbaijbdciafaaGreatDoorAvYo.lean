import Derived.Test.YtbhbaijbdciafaaGreatDoorAvT
set_option linter.unusedSimpArgs false
set_option linter.unusedVariables false
namespace Go.Av
open Go Go.ChangeShapes Go.RowKit
variable {P : Program} {W : World} {H : Type} {enc : TypeId × Value → H}
end Go.Av
