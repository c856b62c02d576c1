/-
  DERIVED. GIVEN WITH THE SEED: THE CARDS: each row of YtdjckcedpnabpaaDoorRows.lean that lists a variable, with what it lists TIED to the program's text (the seventh form; the later family's looks); each row that meets fmt, with fmt's text TOLD by the authors' own Lean function (tested against real Go, not proved from fmt's source: count such statements apart). THE CARD IS WHAT COUNTS. Prove the row's statement (the work); the ties are given (YtdjckcedpnabpaaDoorTie.lean); close each card by the builder's one call (the guide's Derived/Test/ToyasCard.lean, 'card_holds'). Laid BY PROGRAM, IN A SANDBOX (cutbox-door.mjs). By AI agents, Wed Nov 11 2026. No macro, syntax, notation, axiom, sorry.
-/
import Derived.Test.YtdjckcedpnabpaaDoorRows
import GoSem.ClaimSeven
namespace Go.Proofs.YtdjckcedpnabpaaDoor
namespace Rows

/-- THE TIED CARD OF 'laws.FnWeightOf'. -/
def fnWeightOfCard : Claim7 := { stood := { row := fnWeightOfRow, standIns := [], harness := (true, "213a60d40816359bf3892e8c08606a295c74e13e8e65dbd396d35ac88d9ae97c"), looks := false }, kinds := [], alts := [], laidByText := true, laidKinds := [.data], laidTests := true, laidLooks := .later }
def FnWeightOfCardSaid : Prop := Claim7.holds Tryd.pinned (.plain (OpenSpec.ofChange fnWeightOfSpec)) fnWeightOfCard

/-- THE TIED CARD OF 'laws.FnNearOf'. -/
def fnNearOfCard : Claim7 := { stood := { row := fnNearOfRow, standIns := [], harness := (true, "213a60d40816359bf3892e8c08606a295c74e13e8e65dbd396d35ac88d9ae97c"), looks := false }, kinds := [], alts := [], laidByText := true, laidKinds := [.data], laidTests := true, laidLooks := .later }
def FnNearOfCardSaid : Prop := Claim7.holds Tryd.pinned (.plain (OpenSpec.ofChange fnNearOfSpec)) fnNearOfCard

/-- THE TIED CARD OF 'laws.FnTurnHops'. -/
def fnTurnHopsCard : Claim7 := { stood := { row := fnTurnHopsRow, standIns := [], harness := (true, "213a60d40816359bf3892e8c08606a295c74e13e8e65dbd396d35ac88d9ae97c"), looks := false }, kinds := [], alts := [], laidByText := true, laidKinds := [.data], laidTests := true, laidLooks := .later }
def FnTurnHopsCardSaid : Prop := Claim7.holds Tryd.pinned (.plain (OpenSpec.ofChange fnTurnHopsSpec)) fnTurnHopsCard

/-- THE TIED CARD OF 'laws.FnForwardOrder'. -/
def fnForwardOrderCard : Claim7 := { stood := { row := fnForwardOrderRow, standIns := [], harness := (true, "213a60d40816359bf3892e8c08606a295c74e13e8e65dbd396d35ac88d9ae97c"), looks := false }, kinds := [], alts := [], laidByText := true, laidKinds := [.data], laidTests := true, laidLooks := .later }
def FnForwardOrderCardSaid : Prop := Claim7.holds Tryd.pinned (.plain (OpenSpec.ofChange fnForwardOrderSpec)) fnForwardOrderCard

/-- THE TIED CARD OF 'laws.FnOrderForward'. -/
def fnOrderForwardCard : Claim7 := { stood := { row := fnOrderForwardRow, standIns := [], harness := (true, "213a60d40816359bf3892e8c08606a295c74e13e8e65dbd396d35ac88d9ae97c"), looks := false }, kinds := [], alts := [], laidByText := true, laidKinds := [.data], laidTests := true, laidLooks := .later }
def FnOrderForwardCardSaid : Prop := Claim7.holds Tryd.pinned (.plain (OpenSpec.ofChange fnOrderForwardSpec)) fnOrderForwardCard

/-- THE TIED CARD OF 'laws.FnTurnShapes'. -/
def fnTurnShapesCard : Claim7 := { stood := { row := fnTurnShapesRow, standIns := [], harness := (true, "213a60d40816359bf3892e8c08606a295c74e13e8e65dbd396d35ac88d9ae97c"), looks := false }, kinds := [], alts := [], laidByText := true, laidKinds := [.data], laidTests := true, laidLooks := .later }
def FnTurnShapesCardSaid : Prop := Claim7.holds Tryd.pinned (.plain (OpenSpec.ofChange fnTurnShapesSpec)) fnTurnShapesCard

/-- THE SECOND FORM's CARD OF 'laws.FnWeightOf'. -/
def fnWeightOfUptoCard : Claim7 := { stood := { row := fnWeightOfUptoRow, standIns := [], harness := (true, "213a60d40816359bf3892e8c08606a295c74e13e8e65dbd396d35ac88d9ae97c"), looks := false }, kinds := [], alts := [], laidByText := true, laidKinds := [.data], laidTests := true, laidLooks := .later }
def FnWeightOfUptoCardSaid : Prop := Claim7.holds Tryd.pinned (.plain (OpenSpec.upto fnWeightOfSpec)) fnWeightOfUptoCard

/-- THE SECOND FORM's CARD OF 'laws.FnNearOf'. -/
def fnNearOfUptoCard : Claim7 := { stood := { row := fnNearOfUptoRow, standIns := [], harness := (true, "213a60d40816359bf3892e8c08606a295c74e13e8e65dbd396d35ac88d9ae97c"), looks := false }, kinds := [], alts := [], laidByText := true, laidKinds := [.data], laidTests := true, laidLooks := .later }
def FnNearOfUptoCardSaid : Prop := Claim7.holds Tryd.pinned (.plain (OpenSpec.upto fnNearOfSpec)) fnNearOfUptoCard

/-- THE SECOND FORM's CARD OF 'laws.FnTurnHops'. -/
def fnTurnHopsUptoCard : Claim7 := { stood := { row := fnTurnHopsUptoRow, standIns := [], harness := (true, "213a60d40816359bf3892e8c08606a295c74e13e8e65dbd396d35ac88d9ae97c"), looks := false }, kinds := [], alts := [], laidByText := true, laidKinds := [.data], laidTests := true, laidLooks := .later }
def FnTurnHopsUptoCardSaid : Prop := Claim7.holds Tryd.pinned (.plain (OpenSpec.upto fnTurnHopsSpec)) fnTurnHopsUptoCard

/-- THE SECOND FORM's CARD OF 'laws.FnForwardOrder'. -/
def fnForwardOrderUptoCard : Claim7 := { stood := { row := fnForwardOrderUptoRow, standIns := [], harness := (true, "213a60d40816359bf3892e8c08606a295c74e13e8e65dbd396d35ac88d9ae97c"), looks := false }, kinds := [], alts := [], laidByText := true, laidKinds := [.data], laidTests := true, laidLooks := .later }
def FnForwardOrderUptoCardSaid : Prop := Claim7.holds Tryd.pinned (.plain (OpenSpec.upto fnForwardOrderSpec)) fnForwardOrderUptoCard

/-- THE SECOND FORM's CARD OF 'laws.FnOrderForward'. -/
def fnOrderForwardUptoCard : Claim7 := { stood := { row := fnOrderForwardUptoRow, standIns := [], harness := (true, "213a60d40816359bf3892e8c08606a295c74e13e8e65dbd396d35ac88d9ae97c"), looks := false }, kinds := [], alts := [], laidByText := true, laidKinds := [.data], laidTests := true, laidLooks := .later }
def FnOrderForwardUptoCardSaid : Prop := Claim7.holds Tryd.pinned (.plain (OpenSpec.upto fnOrderForwardSpec)) fnOrderForwardUptoCard

/-- THE SECOND FORM's CARD OF 'laws.FnTurnShapes'. -/
def fnTurnShapesUptoCard : Claim7 := { stood := { row := fnTurnShapesUptoRow, standIns := [], harness := (true, "213a60d40816359bf3892e8c08606a295c74e13e8e65dbd396d35ac88d9ae97c"), looks := false }, kinds := [], alts := [], laidByText := true, laidKinds := [.data], laidTests := true, laidLooks := .later }
def FnTurnShapesUptoCardSaid : Prop := Claim7.holds Tryd.pinned (.plain (OpenSpec.upto fnTurnShapesSpec)) fnTurnShapesUptoCard
end Rows
end Go.Proofs.YtdjckcedpnabpaaDoor
