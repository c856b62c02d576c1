/-
  NARROWER THAN 'FOR EVERY INPUT', by the rows' own cells (each row's printed sentence says how): FnExactColorsOf: laid · FnExactForwardOrder: laid · FnExactForestOf: laid · FnColorsOf: laid · FnExactLongestWays: laid · FnLongestWays: laid · FnForestOf: laid.
  DERIVED. THE GIVEN ROWS OF THIS SEAT. 7 by the template 'for every input the law returns true; each argument reads behind the call as it read before'; 0 by the template 'total and deterministic' (their statements: YtngpllgpfndkkaaDoorTotals.lean).
  GIVEN WITH THE SEED: the statements are not yours to turn. If you find one false, say at which input.
  Laid BY PROGRAM, IN A SANDBOX (cutbox-rows.mjs): the forced cells as the released guide's own fill.sh prints them over the translation c9b19998d33a6525… (all of the seat's roots in one cut). By AI agents, Wed Nov 11 2026. No macro, syntax, notation, axiom, sorry.
-/
import Derived.Test.YtngpllgpfndkkaaDoorChecked
import GoSem.Claim
import GoSem.ClaimJoined
import GoSem.ClaimMapViews
import Derived.JoinedTies
import Derived.KernelRfl
namespace Go.Proofs.YtngpllgpfndkkaaDoor
/- THE CELL 'sum', in the pinned program and in every row, IS THE sha256 OF THE DUMP (.gsa) THAT YtngpllgpfndkkaaDoorProg.lean LOADS. Nothing in Lean hashes anything: it is a label: what it is worth is what the hold of that sum in a sandbox is worth. -/
noncomputable def Tryd.pinned : Pinned := { name := "ytngpllgpfndkkaadoor", sum := "c9b19998d33a6525b7607ece01c89bf370176607bd10a99dd7fe7fef6ae39bcf", checked := Tryd.checked }
namespace Rows
def none {H : Type} : Left H := { results := [], args := [] }

/- WHAT THE LISTED PACKAGE-LEVEL VARIABLES READ AS WHEN THE CALL BEGINS. Each datum BY PROGRAM (the guide's laid-datum.mjs) off the statement by which the dump's own 'gosem.cut.vars' lays the variable. In a bare row this is a premise. The card (YtngpllgpfndkkaaDoorCards.lean) ties it to the program's text. -/
def laid_math_bits_deBruijn32tab {H : Type} : DataW H := .agg [.lit (.int .u8 0), .lit (.int .u8 1), .lit (.int .u8 28), .lit (.int .u8 2), .lit (.int .u8 29), .lit (.int .u8 14), .lit (.int .u8 24), .lit (.int .u8 3), .lit (.int .u8 30), .lit (.int .u8 22), .lit (.int .u8 20), .lit (.int .u8 15), .lit (.int .u8 25), .lit (.int .u8 17), .lit (.int .u8 4), .lit (.int .u8 8), .lit (.int .u8 31), .lit (.int .u8 27), .lit (.int .u8 13), .lit (.int .u8 23), .lit (.int .u8 21), .lit (.int .u8 19), .lit (.int .u8 16), .lit (.int .u8 7), .lit (.int .u8 26), .lit (.int .u8 12), .lit (.int .u8 18), .lit (.int .u8 6), .lit (.int .u8 11), .lit (.int .u8 5), .lit (.int .u8 10), .lit (.int .u8 9)]

/-- 'laws.FnExactColorsOf': WHATEVER THE INPUT: true; the input reads as it did. -/
def fnExactColorsOfSpec : ChangeSpec := { name := "fnExactColorsOf", fn := fun _ => fun
  | [d] => { results := [.lit (.bool true)], args := [d] }
  | _ => none }
def fnExactColorsOfRow : OpenClaim := { program := "ytngpllgpfndkkaadoor", sum := "c9b19998d33a6525b7607ece01c89bf370176607bd10a99dd7fe7fef6ae39bcf", func := "loop.example/graphcluster/laws.FnExactColorsOf", spec := "fnExactColorsOf", named := ["math/bits.deBruijn32tab"], apart := false, laid := [("math/bits.deBruijn32tab", laid_math_bits_deBruijn32tab)] }
def FnExactColorsOfSaid : Prop := fnExactColorsOfRow.holds Tryd.pinned (OpenSpec.ofChange fnExactColorsOfSpec)

/-- ITS FALSE NEIGHBOUR: 'it returns false'. Refute it at one input. -/
def fnExactColorsOfWrong : ChangeSpec := { name := "fnExactColorsOf", fn := fun _ => fun
  | [d] => { results := [.lit (.bool false)], args := [d] }
  | _ => none }
def FnExactColorsOfWrongFalsely : Prop := fnExactColorsOfRow.holds Tryd.pinned (OpenSpec.ofChange fnExactColorsOfWrong)

/-- 'laws.FnExactForwardOrder': WHATEVER THE INPUT: true; the input reads as it did. -/
def fnExactForwardOrderSpec : ChangeSpec := { name := "fnExactForwardOrder", fn := fun _ => fun
  | [d] => { results := [.lit (.bool true)], args := [d] }
  | _ => none }
def fnExactForwardOrderRow : OpenClaim := { program := "ytngpllgpfndkkaadoor", sum := "c9b19998d33a6525b7607ece01c89bf370176607bd10a99dd7fe7fef6ae39bcf", func := "loop.example/graphcluster/laws.FnExactForwardOrder", spec := "fnExactForwardOrder", named := ["math/bits.deBruijn32tab"], apart := false, laid := [("math/bits.deBruijn32tab", laid_math_bits_deBruijn32tab)] }
def FnExactForwardOrderSaid : Prop := fnExactForwardOrderRow.holds Tryd.pinned (OpenSpec.ofChange fnExactForwardOrderSpec)

/-- ITS FALSE NEIGHBOUR: 'it returns false'. Refute it at one input. -/
def fnExactForwardOrderWrong : ChangeSpec := { name := "fnExactForwardOrder", fn := fun _ => fun
  | [d] => { results := [.lit (.bool false)], args := [d] }
  | _ => none }
def FnExactForwardOrderWrongFalsely : Prop := fnExactForwardOrderRow.holds Tryd.pinned (OpenSpec.ofChange fnExactForwardOrderWrong)

/-- 'laws.FnExactForestOf': WHATEVER THE INPUT: true; the input reads as it did. -/
def fnExactForestOfSpec : ChangeSpec := { name := "fnExactForestOf", fn := fun _ => fun
  | [d] => { results := [.lit (.bool true)], args := [d] }
  | _ => none }
def fnExactForestOfRow : OpenClaim := { program := "ytngpllgpfndkkaadoor", sum := "c9b19998d33a6525b7607ece01c89bf370176607bd10a99dd7fe7fef6ae39bcf", func := "loop.example/graphcluster/laws.FnExactForestOf", spec := "fnExactForestOf", named := ["math/bits.deBruijn32tab"], apart := false, laid := [("math/bits.deBruijn32tab", laid_math_bits_deBruijn32tab)] }
def FnExactForestOfSaid : Prop := fnExactForestOfRow.holds Tryd.pinned (OpenSpec.ofChange fnExactForestOfSpec)

/-- ITS FALSE NEIGHBOUR: 'it returns false'. Refute it at one input. -/
def fnExactForestOfWrong : ChangeSpec := { name := "fnExactForestOf", fn := fun _ => fun
  | [d] => { results := [.lit (.bool false)], args := [d] }
  | _ => none }
def FnExactForestOfWrongFalsely : Prop := fnExactForestOfRow.holds Tryd.pinned (OpenSpec.ofChange fnExactForestOfWrong)

/-- 'laws.FnColorsOf': WHATEVER THE INPUT: true; the input reads as it did. -/
def fnColorsOfSpec : ChangeSpec := { name := "fnColorsOf", fn := fun _ => fun
  | [d] => { results := [.lit (.bool true)], args := [d] }
  | _ => none }
def fnColorsOfRow : OpenClaim := { program := "ytngpllgpfndkkaadoor", sum := "c9b19998d33a6525b7607ece01c89bf370176607bd10a99dd7fe7fef6ae39bcf", func := "loop.example/graphcluster/laws.FnColorsOf", spec := "fnColorsOf", named := ["math/bits.deBruijn32tab"], apart := false, laid := [("math/bits.deBruijn32tab", laid_math_bits_deBruijn32tab)] }
def FnColorsOfSaid : Prop := fnColorsOfRow.holds Tryd.pinned (OpenSpec.ofChange fnColorsOfSpec)

/-- ITS FALSE NEIGHBOUR: 'it returns false'. Refute it at one input. -/
def fnColorsOfWrong : ChangeSpec := { name := "fnColorsOf", fn := fun _ => fun
  | [d] => { results := [.lit (.bool false)], args := [d] }
  | _ => none }
def FnColorsOfWrongFalsely : Prop := fnColorsOfRow.holds Tryd.pinned (OpenSpec.ofChange fnColorsOfWrong)

/-- 'laws.FnExactLongestWays': WHATEVER THE INPUT: true; the input reads as it did. -/
def fnExactLongestWaysSpec : ChangeSpec := { name := "fnExactLongestWays", fn := fun _ => fun
  | [d] => { results := [.lit (.bool true)], args := [d] }
  | _ => none }
def fnExactLongestWaysRow : OpenClaim := { program := "ytngpllgpfndkkaadoor", sum := "c9b19998d33a6525b7607ece01c89bf370176607bd10a99dd7fe7fef6ae39bcf", func := "loop.example/graphcluster/laws.FnExactLongestWays", spec := "fnExactLongestWays", named := ["math/bits.deBruijn32tab"], apart := false, laid := [("math/bits.deBruijn32tab", laid_math_bits_deBruijn32tab)] }
def FnExactLongestWaysSaid : Prop := fnExactLongestWaysRow.holds Tryd.pinned (OpenSpec.ofChange fnExactLongestWaysSpec)

/-- ITS FALSE NEIGHBOUR: 'it returns false'. Refute it at one input. -/
def fnExactLongestWaysWrong : ChangeSpec := { name := "fnExactLongestWays", fn := fun _ => fun
  | [d] => { results := [.lit (.bool false)], args := [d] }
  | _ => none }
def FnExactLongestWaysWrongFalsely : Prop := fnExactLongestWaysRow.holds Tryd.pinned (OpenSpec.ofChange fnExactLongestWaysWrong)

/-- 'laws.FnLongestWays': WHATEVER THE INPUT: true; the input reads as it did. -/
def fnLongestWaysSpec : ChangeSpec := { name := "fnLongestWays", fn := fun _ => fun
  | [d] => { results := [.lit (.bool true)], args := [d] }
  | _ => none }
def fnLongestWaysRow : OpenClaim := { program := "ytngpllgpfndkkaadoor", sum := "c9b19998d33a6525b7607ece01c89bf370176607bd10a99dd7fe7fef6ae39bcf", func := "loop.example/graphcluster/laws.FnLongestWays", spec := "fnLongestWays", named := ["math/bits.deBruijn32tab"], apart := false, laid := [("math/bits.deBruijn32tab", laid_math_bits_deBruijn32tab)] }
def FnLongestWaysSaid : Prop := fnLongestWaysRow.holds Tryd.pinned (OpenSpec.ofChange fnLongestWaysSpec)

/-- ITS FALSE NEIGHBOUR: 'it returns false'. Refute it at one input. -/
def fnLongestWaysWrong : ChangeSpec := { name := "fnLongestWays", fn := fun _ => fun
  | [d] => { results := [.lit (.bool false)], args := [d] }
  | _ => none }
def FnLongestWaysWrongFalsely : Prop := fnLongestWaysRow.holds Tryd.pinned (OpenSpec.ofChange fnLongestWaysWrong)

/-- 'laws.FnForestOf': WHATEVER THE INPUT: true; the input reads as it did. -/
def fnForestOfSpec : ChangeSpec := { name := "fnForestOf", fn := fun _ => fun
  | [d] => { results := [.lit (.bool true)], args := [d] }
  | _ => none }
def fnForestOfRow : OpenClaim := { program := "ytngpllgpfndkkaadoor", sum := "c9b19998d33a6525b7607ece01c89bf370176607bd10a99dd7fe7fef6ae39bcf", func := "loop.example/graphcluster/laws.FnForestOf", spec := "fnForestOf", named := ["math/bits.deBruijn32tab"], apart := false, laid := [("math/bits.deBruijn32tab", laid_math_bits_deBruijn32tab)] }
def FnForestOfSaid : Prop := fnForestOfRow.holds Tryd.pinned (OpenSpec.ofChange fnForestOfSpec)

/-- ITS FALSE NEIGHBOUR: 'it returns false'. Refute it at one input. -/
def fnForestOfWrong : ChangeSpec := { name := "fnForestOf", fn := fun _ => fun
  | [d] => { results := [.lit (.bool false)], args := [d] }
  | _ => none }
def FnForestOfWrongFalsely : Prop := fnForestOfRow.holds Tryd.pinned (OpenSpec.ofChange fnForestOfWrong)

/- THE SECOND FORM. 'bulk': how many values and letters a reading holds, each counted each time it is reached (what is shared counts as often as it is met; a slice's spare places count too). A statement '..UptoSaid' is the law's where the arguments, and the package variables that the reading takes, are together of bulk at most 1048576: NARROWER than '..Said'. Prove '..Said' where nothing that the law and all that it calls make is longer than what came in: it says more and counts as full. Else prove '..UptoSaid'. A law counts once. -/
mutual
def uptoBulk {H : Type} : DataW H → Nat
  | .lit (.string bytes) => bytes.length + 1
  | .lit _ => 1
  | .nil => 1
  | .ptr d => uptoBulk d + 1
  | .slice elems spare => uptoBulkAll elems + uptoBulkAll spare + 1
  | .agg parts => uptoBulkAll parts + 1
  | .iface _ d => uptoBulk d + 1
  | .map entries => uptoBulkEntries entries + 1
  | .held _ => 1
def uptoBulkAll {H : Type} : List (DataW H) → Nat
  | [] => 0
  | d :: r => uptoBulk d + uptoBulkAll r
def uptoBulkEntries {H : Type} : List (Lit × DataW H) → Nat
  | [] => 0
  | x :: r => uptoBulkEntry x + uptoBulkEntries r
def uptoBulkEntry {H : Type} : Lit × DataW H → Nat
  | (.string bytes, d) => bytes.length + uptoBulk d + 1
  | (_, d) => uptoBulk d + 1
 end
def uptoSmall : (H : Type) → List (DataW H) → Bool := fun _ ds => decide (uptoBulkAll ds ≤ 1048576)
def OpenSpec.upto (s : _root_.Go.ChangeSpec) : _root_.Go.OpenSpec := { _root_.Go.OpenSpec.ofChange s with cond := some uptoSmall }

/-- 'laws.FnExactColorsOf', WHERE WHAT IT READS IS OF BULK AT MOST 1048576: true; the input reads as it did. -/
def fnExactColorsOfUptoRow : OpenClaim := { program := "ytngpllgpfndkkaadoor", sum := "c9b19998d33a6525b7607ece01c89bf370176607bd10a99dd7fe7fef6ae39bcf", func := "loop.example/graphcluster/laws.FnExactColorsOf", spec := "fnExactColorsOf", named := ["math/bits.deBruijn32tab"], apart := false, laid := [("math/bits.deBruijn32tab", laid_math_bits_deBruijn32tab)], narrowed := true }
def FnExactColorsOfUptoSaid : Prop := fnExactColorsOfUptoRow.holds Tryd.pinned (OpenSpec.upto fnExactColorsOfSpec)

/-- 'laws.FnExactForwardOrder', WHERE WHAT IT READS IS OF BULK AT MOST 1048576: true; the input reads as it did. -/
def fnExactForwardOrderUptoRow : OpenClaim := { program := "ytngpllgpfndkkaadoor", sum := "c9b19998d33a6525b7607ece01c89bf370176607bd10a99dd7fe7fef6ae39bcf", func := "loop.example/graphcluster/laws.FnExactForwardOrder", spec := "fnExactForwardOrder", named := ["math/bits.deBruijn32tab"], apart := false, laid := [("math/bits.deBruijn32tab", laid_math_bits_deBruijn32tab)], narrowed := true }
def FnExactForwardOrderUptoSaid : Prop := fnExactForwardOrderUptoRow.holds Tryd.pinned (OpenSpec.upto fnExactForwardOrderSpec)

/-- 'laws.FnExactForestOf', WHERE WHAT IT READS IS OF BULK AT MOST 1048576: true; the input reads as it did. -/
def fnExactForestOfUptoRow : OpenClaim := { program := "ytngpllgpfndkkaadoor", sum := "c9b19998d33a6525b7607ece01c89bf370176607bd10a99dd7fe7fef6ae39bcf", func := "loop.example/graphcluster/laws.FnExactForestOf", spec := "fnExactForestOf", named := ["math/bits.deBruijn32tab"], apart := false, laid := [("math/bits.deBruijn32tab", laid_math_bits_deBruijn32tab)], narrowed := true }
def FnExactForestOfUptoSaid : Prop := fnExactForestOfUptoRow.holds Tryd.pinned (OpenSpec.upto fnExactForestOfSpec)

/-- 'laws.FnColorsOf', WHERE WHAT IT READS IS OF BULK AT MOST 1048576: true; the input reads as it did. -/
def fnColorsOfUptoRow : OpenClaim := { program := "ytngpllgpfndkkaadoor", sum := "c9b19998d33a6525b7607ece01c89bf370176607bd10a99dd7fe7fef6ae39bcf", func := "loop.example/graphcluster/laws.FnColorsOf", spec := "fnColorsOf", named := ["math/bits.deBruijn32tab"], apart := false, laid := [("math/bits.deBruijn32tab", laid_math_bits_deBruijn32tab)], narrowed := true }
def FnColorsOfUptoSaid : Prop := fnColorsOfUptoRow.holds Tryd.pinned (OpenSpec.upto fnColorsOfSpec)

/-- 'laws.FnExactLongestWays', WHERE WHAT IT READS IS OF BULK AT MOST 1048576: true; the input reads as it did. -/
def fnExactLongestWaysUptoRow : OpenClaim := { program := "ytngpllgpfndkkaadoor", sum := "c9b19998d33a6525b7607ece01c89bf370176607bd10a99dd7fe7fef6ae39bcf", func := "loop.example/graphcluster/laws.FnExactLongestWays", spec := "fnExactLongestWays", named := ["math/bits.deBruijn32tab"], apart := false, laid := [("math/bits.deBruijn32tab", laid_math_bits_deBruijn32tab)], narrowed := true }
def FnExactLongestWaysUptoSaid : Prop := fnExactLongestWaysUptoRow.holds Tryd.pinned (OpenSpec.upto fnExactLongestWaysSpec)

/-- 'laws.FnLongestWays', WHERE WHAT IT READS IS OF BULK AT MOST 1048576: true; the input reads as it did. -/
def fnLongestWaysUptoRow : OpenClaim := { program := "ytngpllgpfndkkaadoor", sum := "c9b19998d33a6525b7607ece01c89bf370176607bd10a99dd7fe7fef6ae39bcf", func := "loop.example/graphcluster/laws.FnLongestWays", spec := "fnLongestWays", named := ["math/bits.deBruijn32tab"], apart := false, laid := [("math/bits.deBruijn32tab", laid_math_bits_deBruijn32tab)], narrowed := true }
def FnLongestWaysUptoSaid : Prop := fnLongestWaysUptoRow.holds Tryd.pinned (OpenSpec.upto fnLongestWaysSpec)

/-- 'laws.FnForestOf', WHERE WHAT IT READS IS OF BULK AT MOST 1048576: true; the input reads as it did. -/
def fnForestOfUptoRow : OpenClaim := { program := "ytngpllgpfndkkaadoor", sum := "c9b19998d33a6525b7607ece01c89bf370176607bd10a99dd7fe7fef6ae39bcf", func := "loop.example/graphcluster/laws.FnForestOf", spec := "fnForestOf", named := ["math/bits.deBruijn32tab"], apart := false, laid := [("math/bits.deBruijn32tab", laid_math_bits_deBruijn32tab)], narrowed := true }
def FnForestOfUptoSaid : Prop := fnForestOfUptoRow.holds Tryd.pinned (OpenSpec.upto fnForestOfSpec)

end Rows
end Go.Proofs.YtngpllgpfndkkaaDoor
