/- Bytes as arguments. -/
import Derived.Test.YteoedigfnfjopaaAvW
set_option linter.unusedSimpArgs false
set_option linter.unusedVariables false
namespace Go.Av
open Go Go.ChangeShapes Go.WideShapes Go.ChangeAt Go.RowKit

abbrev U8 := {x : Int // 0 ≤ x ∧ x ≤ 255}
section
variable {P : Program} {w : World} {H : Type} {enc : TypeId × Value → H}
end
section
variable {P : Program} {w : World} {H : Type} {enc : TypeId × Value → H}
end

/-- A graph: a number and a list of triples, within bounds. -/
abbrev GEl := {g : Int × List (Int × Int × Int) // fits64 g.1 ∧ g.2.length ≤ maxLen}
section
variable {P : Program} {w : World} {H : Type} {enc : TypeId × Value → H}
end
end Go.Av
