/-
  DERIVED. GIVEN WITH THE SEED: THE CARDS: each row of YtngpllgpfndkkaaDoorRows.lean that lists a variable, with what it lists TIED to the program's text (the seventh form; the later family's looks); each row that meets fmt, with fmt's text TOLD by the authors' own Lean function (tested against real Go, not proved from fmt's source: count such statements apart). THE CARD IS WHAT COUNTS. Prove the row's statement (the work); the ties are given (YtngpllgpfndkkaaDoorTie.lean); close each card by the builder's one call (the guide's Derived/Test/ToyasCard.lean, 'card_holds'). Laid BY PROGRAM, IN A SANDBOX (cutbox-door.mjs). By AI agents, Wed Nov 11 2026. No macro, syntax, notation, axiom, sorry.
-/
import Derived.Test.YtngpllgpfndkkaaDoorRows
import GoSem.ClaimSeven
namespace Go.Proofs.YtngpllgpfndkkaaDoor
namespace Rows

/-- THE TIED CARD OF 'laws.FnExactColorsOf'. -/
def fnExactColorsOfCard : Claim7 := { stood := { row := fnExactColorsOfRow, standIns := [], harness := (true, "a6577167e406496f3c3a217da53f258aa11d6cfe394ef1fa7ace9aa6f73824c5"), looks := false }, kinds := [], alts := [], laidByText := true, laidKinds := [.data], laidTests := true, laidLooks := .later }
def FnExactColorsOfCardSaid : Prop := Claim7.holds Tryd.pinned (.plain (OpenSpec.ofChange fnExactColorsOfSpec)) fnExactColorsOfCard

/-- THE TIED CARD OF 'laws.FnExactForwardOrder'. -/
def fnExactForwardOrderCard : Claim7 := { stood := { row := fnExactForwardOrderRow, standIns := [], harness := (true, "a6577167e406496f3c3a217da53f258aa11d6cfe394ef1fa7ace9aa6f73824c5"), looks := false }, kinds := [], alts := [], laidByText := true, laidKinds := [.data], laidTests := true, laidLooks := .later }
def FnExactForwardOrderCardSaid : Prop := Claim7.holds Tryd.pinned (.plain (OpenSpec.ofChange fnExactForwardOrderSpec)) fnExactForwardOrderCard

/-- THE TIED CARD OF 'laws.FnExactForestOf'. -/
def fnExactForestOfCard : Claim7 := { stood := { row := fnExactForestOfRow, standIns := [], harness := (true, "a6577167e406496f3c3a217da53f258aa11d6cfe394ef1fa7ace9aa6f73824c5"), looks := false }, kinds := [], alts := [], laidByText := true, laidKinds := [.data], laidTests := true, laidLooks := .later }
def FnExactForestOfCardSaid : Prop := Claim7.holds Tryd.pinned (.plain (OpenSpec.ofChange fnExactForestOfSpec)) fnExactForestOfCard

/-- THE TIED CARD OF 'laws.FnColorsOf'. -/
def fnColorsOfCard : Claim7 := { stood := { row := fnColorsOfRow, standIns := [], harness := (true, "a6577167e406496f3c3a217da53f258aa11d6cfe394ef1fa7ace9aa6f73824c5"), looks := false }, kinds := [], alts := [], laidByText := true, laidKinds := [.data], laidTests := true, laidLooks := .later }
def FnColorsOfCardSaid : Prop := Claim7.holds Tryd.pinned (.plain (OpenSpec.ofChange fnColorsOfSpec)) fnColorsOfCard

/-- THE TIED CARD OF 'laws.FnExactLongestWays'. -/
def fnExactLongestWaysCard : Claim7 := { stood := { row := fnExactLongestWaysRow, standIns := [], harness := (true, "a6577167e406496f3c3a217da53f258aa11d6cfe394ef1fa7ace9aa6f73824c5"), looks := false }, kinds := [], alts := [], laidByText := true, laidKinds := [.data], laidTests := true, laidLooks := .later }
def FnExactLongestWaysCardSaid : Prop := Claim7.holds Tryd.pinned (.plain (OpenSpec.ofChange fnExactLongestWaysSpec)) fnExactLongestWaysCard

/-- THE TIED CARD OF 'laws.FnLongestWays'. -/
def fnLongestWaysCard : Claim7 := { stood := { row := fnLongestWaysRow, standIns := [], harness := (true, "a6577167e406496f3c3a217da53f258aa11d6cfe394ef1fa7ace9aa6f73824c5"), looks := false }, kinds := [], alts := [], laidByText := true, laidKinds := [.data], laidTests := true, laidLooks := .later }
def FnLongestWaysCardSaid : Prop := Claim7.holds Tryd.pinned (.plain (OpenSpec.ofChange fnLongestWaysSpec)) fnLongestWaysCard

/-- THE TIED CARD OF 'laws.FnForestOf'. -/
def fnForestOfCard : Claim7 := { stood := { row := fnForestOfRow, standIns := [], harness := (true, "a6577167e406496f3c3a217da53f258aa11d6cfe394ef1fa7ace9aa6f73824c5"), looks := false }, kinds := [], alts := [], laidByText := true, laidKinds := [.data], laidTests := true, laidLooks := .later }
def FnForestOfCardSaid : Prop := Claim7.holds Tryd.pinned (.plain (OpenSpec.ofChange fnForestOfSpec)) fnForestOfCard

/-- THE SECOND FORM's CARD OF 'laws.FnExactColorsOf'. -/
def fnExactColorsOfUptoCard : Claim7 := { stood := { row := fnExactColorsOfUptoRow, standIns := [], harness := (true, "a6577167e406496f3c3a217da53f258aa11d6cfe394ef1fa7ace9aa6f73824c5"), looks := false }, kinds := [], alts := [], laidByText := true, laidKinds := [.data], laidTests := true, laidLooks := .later }
def FnExactColorsOfUptoCardSaid : Prop := Claim7.holds Tryd.pinned (.plain (OpenSpec.upto fnExactColorsOfSpec)) fnExactColorsOfUptoCard

/-- THE SECOND FORM's CARD OF 'laws.FnExactForwardOrder'. -/
def fnExactForwardOrderUptoCard : Claim7 := { stood := { row := fnExactForwardOrderUptoRow, standIns := [], harness := (true, "a6577167e406496f3c3a217da53f258aa11d6cfe394ef1fa7ace9aa6f73824c5"), looks := false }, kinds := [], alts := [], laidByText := true, laidKinds := [.data], laidTests := true, laidLooks := .later }
def FnExactForwardOrderUptoCardSaid : Prop := Claim7.holds Tryd.pinned (.plain (OpenSpec.upto fnExactForwardOrderSpec)) fnExactForwardOrderUptoCard

/-- THE SECOND FORM's CARD OF 'laws.FnExactForestOf'. -/
def fnExactForestOfUptoCard : Claim7 := { stood := { row := fnExactForestOfUptoRow, standIns := [], harness := (true, "a6577167e406496f3c3a217da53f258aa11d6cfe394ef1fa7ace9aa6f73824c5"), looks := false }, kinds := [], alts := [], laidByText := true, laidKinds := [.data], laidTests := true, laidLooks := .later }
def FnExactForestOfUptoCardSaid : Prop := Claim7.holds Tryd.pinned (.plain (OpenSpec.upto fnExactForestOfSpec)) fnExactForestOfUptoCard

/-- THE SECOND FORM's CARD OF 'laws.FnColorsOf'. -/
def fnColorsOfUptoCard : Claim7 := { stood := { row := fnColorsOfUptoRow, standIns := [], harness := (true, "a6577167e406496f3c3a217da53f258aa11d6cfe394ef1fa7ace9aa6f73824c5"), looks := false }, kinds := [], alts := [], laidByText := true, laidKinds := [.data], laidTests := true, laidLooks := .later }
def FnColorsOfUptoCardSaid : Prop := Claim7.holds Tryd.pinned (.plain (OpenSpec.upto fnColorsOfSpec)) fnColorsOfUptoCard

/-- THE SECOND FORM's CARD OF 'laws.FnExactLongestWays'. -/
def fnExactLongestWaysUptoCard : Claim7 := { stood := { row := fnExactLongestWaysUptoRow, standIns := [], harness := (true, "a6577167e406496f3c3a217da53f258aa11d6cfe394ef1fa7ace9aa6f73824c5"), looks := false }, kinds := [], alts := [], laidByText := true, laidKinds := [.data], laidTests := true, laidLooks := .later }
def FnExactLongestWaysUptoCardSaid : Prop := Claim7.holds Tryd.pinned (.plain (OpenSpec.upto fnExactLongestWaysSpec)) fnExactLongestWaysUptoCard

/-- THE SECOND FORM's CARD OF 'laws.FnLongestWays'. -/
def fnLongestWaysUptoCard : Claim7 := { stood := { row := fnLongestWaysUptoRow, standIns := [], harness := (true, "a6577167e406496f3c3a217da53f258aa11d6cfe394ef1fa7ace9aa6f73824c5"), looks := false }, kinds := [], alts := [], laidByText := true, laidKinds := [.data], laidTests := true, laidLooks := .later }
def FnLongestWaysUptoCardSaid : Prop := Claim7.holds Tryd.pinned (.plain (OpenSpec.upto fnLongestWaysSpec)) fnLongestWaysUptoCard

/-- THE SECOND FORM's CARD OF 'laws.FnForestOf'. -/
def fnForestOfUptoCard : Claim7 := { stood := { row := fnForestOfUptoRow, standIns := [], harness := (true, "a6577167e406496f3c3a217da53f258aa11d6cfe394ef1fa7ace9aa6f73824c5"), looks := false }, kinds := [], alts := [], laidByText := true, laidKinds := [.data], laidTests := true, laidLooks := .later }
def FnForestOfUptoCardSaid : Prop := Claim7.holds Tryd.pinned (.plain (OpenSpec.upto fnForestOfSpec)) fnForestOfUptoCard
end Rows
end Go.Proofs.YtngpllgpfndkkaaDoor
