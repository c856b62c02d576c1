import Derived.Test.YtbhbaijbdciafaaGreatDoorAvZ
import Derived.Shelf.Spec.SlicesGrow
set_option linter.unusedSimpArgs false
set_option linter.unusedVariables false
namespace Go.Av
open Go Go.Proofs
end Go.Av
