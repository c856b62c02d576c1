/-
  DERIVED. GIVEN WITH THE SEED: THE CARDS: each row of YtaogppnbeijjmaaDoorRows.lean that lists a variable, with what it lists TIED to the program's text (the seventh form; the later family's looks); each row that meets fmt, with fmt's text TOLD by the authors' own Lean function (tested against real Go, not proved from fmt's source: count such statements apart). THE CARD IS WHAT COUNTS. Prove the row's statement (the work); the ties are given (YtaogppnbeijjmaaDoorTie.lean); close each card by the builder's one call (the guide's Derived/Test/ToyasCard.lean, 'card_holds'). Laid BY PROGRAM, IN A SANDBOX (cutbox-door.mjs). By AI agents, Wed Nov 11 2026. No macro, syntax, notation, axiom, sorry.
-/
import Derived.Test.YtaogppnbeijjmaaDoorRows
import GoSem.ClaimSeven
namespace Go.Proofs.YtaogppnbeijjmaaDoor
namespace Rows

/-- THE TIED CARD OF 'laws.FnEdgeHops'. -/
def fnEdgeHopsCard : Claim7 := { stood := { row := fnEdgeHopsRow, standIns := [], harness := (true, "c87875a20338dc4b6830beaf829e4b2f5b411311a2b7be221fa1d8b3a245ff4f"), looks := false }, kinds := [], alts := [], laidByText := true, laidKinds := [.data], laidTests := true, laidLooks := .later }
def FnEdgeHopsCardSaid : Prop := Claim7.holds Tryd.pinned (.plain (OpenSpec.ofChange fnEdgeHopsSpec)) fnEdgeHopsCard

/-- THE SECOND FORM's CARD OF 'laws.FnEdgeHops'. -/
def fnEdgeHopsUptoCard : Claim7 := { stood := { row := fnEdgeHopsUptoRow, standIns := [], harness := (true, "c87875a20338dc4b6830beaf829e4b2f5b411311a2b7be221fa1d8b3a245ff4f"), looks := false }, kinds := [], alts := [], laidByText := true, laidKinds := [.data], laidTests := true, laidLooks := .later }
def FnEdgeHopsUptoCardSaid : Prop := Claim7.holds Tryd.pinned (.plain (OpenSpec.upto fnEdgeHopsSpec)) fnEdgeHopsUptoCard
end Rows
end Go.Proofs.YtaogppnbeijjmaaDoor
