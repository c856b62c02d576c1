/-
  NARROWER THAN 'FOR EVERY INPUT', by the rows' own cells (each row's printed sentence says how): FnWeightOf: laid · FnNearOf: laid · FnTurnHops: laid · FnForwardOrder: laid · FnOrderForward: laid · FnTurnShapes: laid.
  DERIVED. THE GIVEN ROWS OF THIS SEAT. 6 by the template 'for every input the law returns true; each argument reads behind the call as it read before'; 0 by the template 'total and deterministic' (their statements: YtdjckcedpnabpaaDoorTotals.lean).
  GIVEN WITH THE SEED: the statements are not yours to turn. If you find one false, say at which input.
  Laid BY PROGRAM, IN A SANDBOX (cutbox-rows.mjs): the forced cells as the released guide's own fill.sh prints them over the translation fce9e915d726dc35… (all of the seat's roots in one cut). By AI agents, Wed Nov 11 2026. No macro, syntax, notation, axiom, sorry.
-/
import Derived.Test.YtdjckcedpnabpaaDoorChecked
import GoSem.Claim
import GoSem.ClaimJoined
import GoSem.ClaimMapViews
import Derived.JoinedTies
import Derived.KernelRfl
namespace Go.Proofs.YtdjckcedpnabpaaDoor
/- THE CELL 'sum', in the pinned program and in every row, IS THE sha256 OF THE DUMP (.gsa) THAT YtdjckcedpnabpaaDoorProg.lean LOADS. Nothing in Lean hashes anything: it is a label: what it is worth is what the hold of that sum in a sandbox is worth. -/
noncomputable def Tryd.pinned : Pinned := { name := "ytdjckcedpnabpaadoor", sum := "fce9e915d726dc35db912274433a5a55019ce45d6fc56c2f9111a745ba143a89", checked := Tryd.checked }
namespace Rows
def none {H : Type} : Left H := { results := [], args := [] }

/- WHAT THE LISTED PACKAGE-LEVEL VARIABLES READ AS WHEN THE CALL BEGINS. Each datum BY PROGRAM (the guide's laid-datum.mjs) off the statement by which the dump's own 'gosem.cut.vars' lays the variable. In a bare row this is a premise. The card (YtdjckcedpnabpaaDoorCards.lean) ties it to the program's text. -/
def laid_math_bits_deBruijn32tab {H : Type} : DataW H := .agg [.lit (.int .u8 0), .lit (.int .u8 1), .lit (.int .u8 28), .lit (.int .u8 2), .lit (.int .u8 29), .lit (.int .u8 14), .lit (.int .u8 24), .lit (.int .u8 3), .lit (.int .u8 30), .lit (.int .u8 22), .lit (.int .u8 20), .lit (.int .u8 15), .lit (.int .u8 25), .lit (.int .u8 17), .lit (.int .u8 4), .lit (.int .u8 8), .lit (.int .u8 31), .lit (.int .u8 27), .lit (.int .u8 13), .lit (.int .u8 23), .lit (.int .u8 21), .lit (.int .u8 19), .lit (.int .u8 16), .lit (.int .u8 7), .lit (.int .u8 26), .lit (.int .u8 12), .lit (.int .u8 18), .lit (.int .u8 6), .lit (.int .u8 11), .lit (.int .u8 5), .lit (.int .u8 10), .lit (.int .u8 9)]

/-- 'laws.FnWeightOf': WHATEVER THE INPUT: true; the input reads as it did. -/
def fnWeightOfSpec : ChangeSpec := { name := "fnWeightOf", fn := fun _ => fun
  | [d] => { results := [.lit (.bool true)], args := [d] }
  | _ => none }
def fnWeightOfRow : OpenClaim := { program := "ytdjckcedpnabpaadoor", sum := "fce9e915d726dc35db912274433a5a55019ce45d6fc56c2f9111a745ba143a89", func := "loop.example/graphcluster/laws.FnWeightOf", spec := "fnWeightOf", unfollowed := true, recurses := true, named := ["math/bits.deBruijn32tab"], apart := false, laid := [("math/bits.deBruijn32tab", laid_math_bits_deBruijn32tab)] }
def FnWeightOfSaid : Prop := fnWeightOfRow.holds Tryd.pinned (OpenSpec.ofChange fnWeightOfSpec)

/-- ITS FALSE NEIGHBOUR: 'it returns false'. Refute it at one input. -/
def fnWeightOfWrong : ChangeSpec := { name := "fnWeightOf", fn := fun _ => fun
  | [d] => { results := [.lit (.bool false)], args := [d] }
  | _ => none }
def FnWeightOfWrongFalsely : Prop := fnWeightOfRow.holds Tryd.pinned (OpenSpec.ofChange fnWeightOfWrong)

/-- 'laws.FnNearOf': WHATEVER THE INPUT: true; the input reads as it did. -/
def fnNearOfSpec : ChangeSpec := { name := "fnNearOf", fn := fun _ => fun
  | [d] => { results := [.lit (.bool true)], args := [d] }
  | _ => none }
def fnNearOfRow : OpenClaim := { program := "ytdjckcedpnabpaadoor", sum := "fce9e915d726dc35db912274433a5a55019ce45d6fc56c2f9111a745ba143a89", func := "loop.example/graphcluster/laws.FnNearOf", spec := "fnNearOf", unfollowed := true, recurses := true, named := ["math/bits.deBruijn32tab"], apart := false, laid := [("math/bits.deBruijn32tab", laid_math_bits_deBruijn32tab)] }
def FnNearOfSaid : Prop := fnNearOfRow.holds Tryd.pinned (OpenSpec.ofChange fnNearOfSpec)

/-- ITS FALSE NEIGHBOUR: 'it returns false'. Refute it at one input. -/
def fnNearOfWrong : ChangeSpec := { name := "fnNearOf", fn := fun _ => fun
  | [d] => { results := [.lit (.bool false)], args := [d] }
  | _ => none }
def FnNearOfWrongFalsely : Prop := fnNearOfRow.holds Tryd.pinned (OpenSpec.ofChange fnNearOfWrong)

/-- 'laws.FnTurnHops': WHATEVER THE INPUT: true; the input reads as it did. -/
def fnTurnHopsSpec : ChangeSpec := { name := "fnTurnHops", fn := fun _ => fun
  | [d] => { results := [.lit (.bool true)], args := [d] }
  | _ => none }
def fnTurnHopsRow : OpenClaim := { program := "ytdjckcedpnabpaadoor", sum := "fce9e915d726dc35db912274433a5a55019ce45d6fc56c2f9111a745ba143a89", func := "loop.example/graphcluster/laws.FnTurnHops", spec := "fnTurnHops", unfollowed := true, recurses := true, named := ["math/bits.deBruijn32tab"], apart := false, laid := [("math/bits.deBruijn32tab", laid_math_bits_deBruijn32tab)] }
def FnTurnHopsSaid : Prop := fnTurnHopsRow.holds Tryd.pinned (OpenSpec.ofChange fnTurnHopsSpec)

/-- ITS FALSE NEIGHBOUR: 'it returns false'. Refute it at one input. -/
def fnTurnHopsWrong : ChangeSpec := { name := "fnTurnHops", fn := fun _ => fun
  | [d] => { results := [.lit (.bool false)], args := [d] }
  | _ => none }
def FnTurnHopsWrongFalsely : Prop := fnTurnHopsRow.holds Tryd.pinned (OpenSpec.ofChange fnTurnHopsWrong)

/-- 'laws.FnForwardOrder': WHATEVER THE INPUT: true; the input reads as it did. -/
def fnForwardOrderSpec : ChangeSpec := { name := "fnForwardOrder", fn := fun _ => fun
  | [d] => { results := [.lit (.bool true)], args := [d] }
  | _ => none }
def fnForwardOrderRow : OpenClaim := { program := "ytdjckcedpnabpaadoor", sum := "fce9e915d726dc35db912274433a5a55019ce45d6fc56c2f9111a745ba143a89", func := "loop.example/graphcluster/laws.FnForwardOrder", spec := "fnForwardOrder", unfollowed := true, recurses := true, named := ["math/bits.deBruijn32tab"], apart := false, laid := [("math/bits.deBruijn32tab", laid_math_bits_deBruijn32tab)] }
def FnForwardOrderSaid : Prop := fnForwardOrderRow.holds Tryd.pinned (OpenSpec.ofChange fnForwardOrderSpec)

/-- ITS FALSE NEIGHBOUR: 'it returns false'. Refute it at one input. -/
def fnForwardOrderWrong : ChangeSpec := { name := "fnForwardOrder", fn := fun _ => fun
  | [d] => { results := [.lit (.bool false)], args := [d] }
  | _ => none }
def FnForwardOrderWrongFalsely : Prop := fnForwardOrderRow.holds Tryd.pinned (OpenSpec.ofChange fnForwardOrderWrong)

/-- 'laws.FnOrderForward': WHATEVER THE INPUT: true; the input reads as it did. -/
def fnOrderForwardSpec : ChangeSpec := { name := "fnOrderForward", fn := fun _ => fun
  | [d] => { results := [.lit (.bool true)], args := [d] }
  | _ => none }
def fnOrderForwardRow : OpenClaim := { program := "ytdjckcedpnabpaadoor", sum := "fce9e915d726dc35db912274433a5a55019ce45d6fc56c2f9111a745ba143a89", func := "loop.example/graphcluster/laws.FnOrderForward", spec := "fnOrderForward", unfollowed := true, recurses := true, named := ["math/bits.deBruijn32tab"], apart := false, laid := [("math/bits.deBruijn32tab", laid_math_bits_deBruijn32tab)] }
def FnOrderForwardSaid : Prop := fnOrderForwardRow.holds Tryd.pinned (OpenSpec.ofChange fnOrderForwardSpec)

/-- ITS FALSE NEIGHBOUR: 'it returns false'. Refute it at one input. -/
def fnOrderForwardWrong : ChangeSpec := { name := "fnOrderForward", fn := fun _ => fun
  | [d] => { results := [.lit (.bool false)], args := [d] }
  | _ => none }
def FnOrderForwardWrongFalsely : Prop := fnOrderForwardRow.holds Tryd.pinned (OpenSpec.ofChange fnOrderForwardWrong)

/-- 'laws.FnTurnShapes': WHATEVER THE INPUT: true; the input reads as it did. -/
def fnTurnShapesSpec : ChangeSpec := { name := "fnTurnShapes", fn := fun _ => fun
  | [d] => { results := [.lit (.bool true)], args := [d] }
  | _ => none }
def fnTurnShapesRow : OpenClaim := { program := "ytdjckcedpnabpaadoor", sum := "fce9e915d726dc35db912274433a5a55019ce45d6fc56c2f9111a745ba143a89", func := "loop.example/graphcluster/laws.FnTurnShapes", spec := "fnTurnShapes", unfollowed := true, recurses := true, named := ["math/bits.deBruijn32tab"], apart := false, laid := [("math/bits.deBruijn32tab", laid_math_bits_deBruijn32tab)] }
def FnTurnShapesSaid : Prop := fnTurnShapesRow.holds Tryd.pinned (OpenSpec.ofChange fnTurnShapesSpec)

/-- ITS FALSE NEIGHBOUR: 'it returns false'. Refute it at one input. -/
def fnTurnShapesWrong : ChangeSpec := { name := "fnTurnShapes", fn := fun _ => fun
  | [d] => { results := [.lit (.bool false)], args := [d] }
  | _ => none }
def FnTurnShapesWrongFalsely : Prop := fnTurnShapesRow.holds Tryd.pinned (OpenSpec.ofChange fnTurnShapesWrong)

/- THE SECOND FORM. 'bulk': how many values and letters a reading holds, each counted each time it is reached (what is shared counts as often as it is met; a slice's spare places count too). A statement '..UptoSaid' is the law's where the arguments, and the package variables that the reading takes, are together of bulk at most 1048576: NARROWER than '..Said'. Prove '..Said' where nothing that the law and all that it calls make is longer than what came in: it says more and counts as full. Else prove '..UptoSaid'. A law counts once. -/
mutual
def uptoBulk {H : Type} : DataW H → Nat
  | .lit (.string bytes) => bytes.length + 1
  | .lit _ => 1
  | .nil => 1
  | .ptr d => uptoBulk d + 1
  | .slice elems spare => uptoBulkAll elems + uptoBulkAll spare + 1
  | .agg parts => uptoBulkAll parts + 1
  | .iface _ d => uptoBulk d + 1
  | .map entries => uptoBulkEntries entries + 1
  | .held _ => 1
def uptoBulkAll {H : Type} : List (DataW H) → Nat
  | [] => 0
  | d :: r => uptoBulk d + uptoBulkAll r
def uptoBulkEntries {H : Type} : List (Lit × DataW H) → Nat
  | [] => 0
  | x :: r => uptoBulkEntry x + uptoBulkEntries r
def uptoBulkEntry {H : Type} : Lit × DataW H → Nat
  | (.string bytes, d) => bytes.length + uptoBulk d + 1
  | (_, d) => uptoBulk d + 1
 end
def uptoSmall : (H : Type) → List (DataW H) → Bool := fun _ ds => decide (uptoBulkAll ds ≤ 1048576)
def OpenSpec.upto (s : _root_.Go.ChangeSpec) : _root_.Go.OpenSpec := { _root_.Go.OpenSpec.ofChange s with cond := some uptoSmall }

/-- 'laws.FnWeightOf', WHERE WHAT IT READS IS OF BULK AT MOST 1048576: true; the input reads as it did. -/
def fnWeightOfUptoRow : OpenClaim := { program := "ytdjckcedpnabpaadoor", sum := "fce9e915d726dc35db912274433a5a55019ce45d6fc56c2f9111a745ba143a89", func := "loop.example/graphcluster/laws.FnWeightOf", spec := "fnWeightOf", unfollowed := true, recurses := true, named := ["math/bits.deBruijn32tab"], apart := false, laid := [("math/bits.deBruijn32tab", laid_math_bits_deBruijn32tab)], narrowed := true }
def FnWeightOfUptoSaid : Prop := fnWeightOfUptoRow.holds Tryd.pinned (OpenSpec.upto fnWeightOfSpec)

/-- 'laws.FnNearOf', WHERE WHAT IT READS IS OF BULK AT MOST 1048576: true; the input reads as it did. -/
def fnNearOfUptoRow : OpenClaim := { program := "ytdjckcedpnabpaadoor", sum := "fce9e915d726dc35db912274433a5a55019ce45d6fc56c2f9111a745ba143a89", func := "loop.example/graphcluster/laws.FnNearOf", spec := "fnNearOf", unfollowed := true, recurses := true, named := ["math/bits.deBruijn32tab"], apart := false, laid := [("math/bits.deBruijn32tab", laid_math_bits_deBruijn32tab)], narrowed := true }
def FnNearOfUptoSaid : Prop := fnNearOfUptoRow.holds Tryd.pinned (OpenSpec.upto fnNearOfSpec)

/-- 'laws.FnTurnHops', WHERE WHAT IT READS IS OF BULK AT MOST 1048576: true; the input reads as it did. -/
def fnTurnHopsUptoRow : OpenClaim := { program := "ytdjckcedpnabpaadoor", sum := "fce9e915d726dc35db912274433a5a55019ce45d6fc56c2f9111a745ba143a89", func := "loop.example/graphcluster/laws.FnTurnHops", spec := "fnTurnHops", unfollowed := true, recurses := true, named := ["math/bits.deBruijn32tab"], apart := false, laid := [("math/bits.deBruijn32tab", laid_math_bits_deBruijn32tab)], narrowed := true }
def FnTurnHopsUptoSaid : Prop := fnTurnHopsUptoRow.holds Tryd.pinned (OpenSpec.upto fnTurnHopsSpec)

/-- 'laws.FnForwardOrder', WHERE WHAT IT READS IS OF BULK AT MOST 1048576: true; the input reads as it did. -/
def fnForwardOrderUptoRow : OpenClaim := { program := "ytdjckcedpnabpaadoor", sum := "fce9e915d726dc35db912274433a5a55019ce45d6fc56c2f9111a745ba143a89", func := "loop.example/graphcluster/laws.FnForwardOrder", spec := "fnForwardOrder", unfollowed := true, recurses := true, named := ["math/bits.deBruijn32tab"], apart := false, laid := [("math/bits.deBruijn32tab", laid_math_bits_deBruijn32tab)], narrowed := true }
def FnForwardOrderUptoSaid : Prop := fnForwardOrderUptoRow.holds Tryd.pinned (OpenSpec.upto fnForwardOrderSpec)

/-- 'laws.FnOrderForward', WHERE WHAT IT READS IS OF BULK AT MOST 1048576: true; the input reads as it did. -/
def fnOrderForwardUptoRow : OpenClaim := { program := "ytdjckcedpnabpaadoor", sum := "fce9e915d726dc35db912274433a5a55019ce45d6fc56c2f9111a745ba143a89", func := "loop.example/graphcluster/laws.FnOrderForward", spec := "fnOrderForward", unfollowed := true, recurses := true, named := ["math/bits.deBruijn32tab"], apart := false, laid := [("math/bits.deBruijn32tab", laid_math_bits_deBruijn32tab)], narrowed := true }
def FnOrderForwardUptoSaid : Prop := fnOrderForwardUptoRow.holds Tryd.pinned (OpenSpec.upto fnOrderForwardSpec)

/-- 'laws.FnTurnShapes', WHERE WHAT IT READS IS OF BULK AT MOST 1048576: true; the input reads as it did. -/
def fnTurnShapesUptoRow : OpenClaim := { program := "ytdjckcedpnabpaadoor", sum := "fce9e915d726dc35db912274433a5a55019ce45d6fc56c2f9111a745ba143a89", func := "loop.example/graphcluster/laws.FnTurnShapes", spec := "fnTurnShapes", unfollowed := true, recurses := true, named := ["math/bits.deBruijn32tab"], apart := false, laid := [("math/bits.deBruijn32tab", laid_math_bits_deBruijn32tab)], narrowed := true }
def FnTurnShapesUptoSaid : Prop := fnTurnShapesUptoRow.holds Tryd.pinned (OpenSpec.upto fnTurnShapesSpec)

end Rows
end Go.Proofs.YtdjckcedpnabpaaDoor
