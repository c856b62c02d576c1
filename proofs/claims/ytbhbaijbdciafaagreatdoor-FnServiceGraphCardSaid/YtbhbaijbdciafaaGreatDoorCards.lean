/-
  DERIVED. GIVEN WITH THE SEED: THE CARDS: each row of YtbhbaijbdciafaaGreatDoorRows.lean that lists a variable, with what it lists TIED to the program's text (the seventh form; the later family's looks); each row that meets fmt, with fmt's text TOLD by the authors' own Lean function (tested against real Go, not proved from fmt's source: count such statements apart). THE CARD IS WHAT COUNTS. Prove the row's statement (the work); the ties are given (YtbhbaijbdciafaaGreatDoorTie.lean); close each card by the builder's one call (the guide's Derived/Test/ToyasCard.lean, 'card_holds'). Laid BY PROGRAM, IN A SANDBOX (cutbox-door.mjs). By AI agents, Wed Nov 11 2026. No macro, syntax, notation, axiom, sorry.
-/
import Derived.Test.YtbhbaijbdciafaaGreatDoorRows
import GoSem.ClaimSeven
namespace Go.Proofs.YtbhbaijbdciafaaGreatDoor
namespace Rows

/-- THE TIED CARD OF 'laws.FnServiceGraph'. -/
def fnServiceGraphCard : Claim7 := { stood := { row := fnServiceGraphRow, standIns := [], harness := (true, "b3e1870858f7e09b655ad2270ebf24888f1715b65b35f286736b57f1a76f131d"), looks := false }, kinds := [], alts := [], goes := true, laidByText := true, laidKinds := [.data, .data, .data, .data, .pinned], laidTests := true, laidLooks := .later }
def FnServiceGraphCardSaid : Prop := Claim7.holds Tryz.pinned (.plain (OpenSpec.ofChange fnServiceGraphSpec)) fnServiceGraphCard

/-- THE SECOND FORM's CARD OF 'laws.FnServiceGraph'. -/
def fnServiceGraphUptoCard : Claim7 := { stood := { row := fnServiceGraphUptoRow, standIns := [], harness := (true, "b3e1870858f7e09b655ad2270ebf24888f1715b65b35f286736b57f1a76f131d"), looks := false }, kinds := [], alts := [], goes := true, laidByText := true, laidKinds := [.data, .data, .data, .data, .pinned], laidTests := true, laidLooks := .later }
def FnServiceGraphUptoCardSaid : Prop := Claim7.holds Tryz.pinned (.plain (OpenSpec.upto fnServiceGraphSpec)) fnServiceGraphUptoCard
end Rows
end Go.Proofs.YtbhbaijbdciafaaGreatDoor
