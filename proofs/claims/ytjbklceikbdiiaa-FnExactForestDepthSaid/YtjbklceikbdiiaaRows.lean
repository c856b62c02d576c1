/-
  No cell of these rows narrows 'for every input' (looked for: loops, veiled, ifaces, maps, wideKeys, modest, calm, conditions, laid).
  DERIVED. THE GIVEN ROWS OF THIS SEAT. 3 by the template 'for every input the law returns true; each argument reads behind the call as it read before'; 0 by the template 'total and deterministic' (their statements: YtjbklceikbdiiaaTotals.lean).
  GIVEN WITH THE SEED: the statements are not yours to turn. If you find one false, say at which input.
  Laid BY PROGRAM, IN A SANDBOX (cutbox-rows.mjs): the forced cells as the released guide's own fill.sh prints them over the translation 7343ed1582d8c19d… (all of the seat's roots in one cut). By AI agents, Wed Nov 11 2026. No macro, syntax, notation, axiom, sorry.
-/
import Derived.Test.YtjbklceikbdiiaaChecked
import GoSem.Claim
import GoSem.ClaimJoined
import GoSem.ClaimMapViews
import Derived.JoinedTies
import Derived.KernelRfl
namespace Go.Proofs.Ytjbklceikbdiiaa
/- THE CELL 'sum', in the pinned program and in every row, IS THE sha256 OF THE DUMP (.gsa) THAT YtjbklceikbdiiaaProg.lean LOADS. Nothing in Lean hashes anything: it is a label: what it is worth is what the hold of that sum in a sandbox is worth. -/
noncomputable def Try.pinned : Pinned := { name := "ytjbklceikbdiiaa", sum := "7343ed1582d8c19d57e190c1473ffe84d240179e55710eaf715201dd54fcbefa", checked := Try.checked }
namespace Rows
def none {H : Type} : Left H := { results := [], args := [] }

/-- 'laws.FnExactForestDepth': WHATEVER THE INPUT: true; the input reads as it did. -/
def fnExactForestDepthSpec : ChangeSpec := { name := "fnExactForestDepth", fn := fun _ => fun
  | [d1, d2] => { results := [.lit (.bool true)], args := [d1, d2] }
  | _ => none }
def fnExactForestDepthRow : OpenClaim := { program := "ytjbklceikbdiiaa", sum := "7343ed1582d8c19d57e190c1473ffe84d240179e55710eaf715201dd54fcbefa", func := "loop.example/graphcluster/laws.FnExactForestDepth", spec := "fnExactForestDepth", apart := false }
def FnExactForestDepthSaid : Prop := fnExactForestDepthRow.holds Try.pinned (OpenSpec.ofChange fnExactForestDepthSpec)

/-- ITS FALSE NEIGHBOUR: 'it returns false'. Refute it at one input. -/
def fnExactForestDepthWrong : ChangeSpec := { name := "fnExactForestDepth", fn := fun _ => fun
  | [d1, d2] => { results := [.lit (.bool false)], args := [d1, d2] }
  | _ => none }
def FnExactForestDepthWrongFalsely : Prop := fnExactForestDepthRow.holds Try.pinned (OpenSpec.ofChange fnExactForestDepthWrong)

/-- 'laws.FnExactColorGroups': WHATEVER THE INPUT: true; the input reads as it did. -/
def fnExactColorGroupsSpec : ChangeSpec := { name := "fnExactColorGroups", fn := fun _ => fun
  | [d] => { results := [.lit (.bool true)], args := [d] }
  | _ => none }
def fnExactColorGroupsRow : OpenClaim := { program := "ytjbklceikbdiiaa", sum := "7343ed1582d8c19d57e190c1473ffe84d240179e55710eaf715201dd54fcbefa", func := "loop.example/graphcluster/laws.FnExactColorGroups", spec := "fnExactColorGroups", apart := false }
def FnExactColorGroupsSaid : Prop := fnExactColorGroupsRow.holds Try.pinned (OpenSpec.ofChange fnExactColorGroupsSpec)

/-- ITS FALSE NEIGHBOUR: 'it returns false'. Refute it at one input. -/
def fnExactColorGroupsWrong : ChangeSpec := { name := "fnExactColorGroups", fn := fun _ => fun
  | [d] => { results := [.lit (.bool false)], args := [d] }
  | _ => none }
def FnExactColorGroupsWrongFalsely : Prop := fnExactColorGroupsRow.holds Try.pinned (OpenSpec.ofChange fnExactColorGroupsWrong)

/-- 'laws.FnColorGroups': WHATEVER THE INPUT: true; the input reads as it did. -/
def fnColorGroupsSpec : ChangeSpec := { name := "fnColorGroups", fn := fun _ => fun
  | [d] => { results := [.lit (.bool true)], args := [d] }
  | _ => none }
def fnColorGroupsRow : OpenClaim := { program := "ytjbklceikbdiiaa", sum := "7343ed1582d8c19d57e190c1473ffe84d240179e55710eaf715201dd54fcbefa", func := "loop.example/graphcluster/laws.FnColorGroups", spec := "fnColorGroups", apart := false }
def FnColorGroupsSaid : Prop := fnColorGroupsRow.holds Try.pinned (OpenSpec.ofChange fnColorGroupsSpec)

/-- ITS FALSE NEIGHBOUR: 'it returns false'. Refute it at one input. -/
def fnColorGroupsWrong : ChangeSpec := { name := "fnColorGroups", fn := fun _ => fun
  | [d] => { results := [.lit (.bool false)], args := [d] }
  | _ => none }
def FnColorGroupsWrongFalsely : Prop := fnColorGroupsRow.holds Try.pinned (OpenSpec.ofChange fnColorGroupsWrong)

/- THE SECOND FORM. 'bulk': how many values and letters a reading holds, each counted each time it is reached (what is shared counts as often as it is met; a slice's spare places count too). A statement '..UptoSaid' is the law's where the arguments, and the package variables that the reading takes, are together of bulk at most 1048576: NARROWER than '..Said'. Prove '..Said' where nothing that the law and all that it calls make is longer than what came in: it says more and counts as full. Else prove '..UptoSaid'. A law counts once. -/
mutual
def uptoBulk {H : Type} : DataW H → Nat
  | .lit (.string bytes) => bytes.length + 1
  | .lit _ => 1
  | .nil => 1
  | .ptr d => uptoBulk d + 1
  | .slice elems spare => uptoBulkAll elems + uptoBulkAll spare + 1
  | .agg parts => uptoBulkAll parts + 1
  | .iface _ d => uptoBulk d + 1
  | .map entries => uptoBulkEntries entries + 1
  | .held _ => 1
def uptoBulkAll {H : Type} : List (DataW H) → Nat
  | [] => 0
  | d :: r => uptoBulk d + uptoBulkAll r
def uptoBulkEntries {H : Type} : List (Lit × DataW H) → Nat
  | [] => 0
  | x :: r => uptoBulkEntry x + uptoBulkEntries r
def uptoBulkEntry {H : Type} : Lit × DataW H → Nat
  | (.string bytes, d) => bytes.length + uptoBulk d + 1
  | (_, d) => uptoBulk d + 1
 end
def uptoSmall : (H : Type) → List (DataW H) → Bool := fun _ ds => decide (uptoBulkAll ds ≤ 1048576)
def OpenSpec.upto (s : _root_.Go.ChangeSpec) : _root_.Go.OpenSpec := { _root_.Go.OpenSpec.ofChange s with cond := some uptoSmall }

/-- 'laws.FnExactForestDepth', WHERE WHAT IT READS IS OF BULK AT MOST 1048576: true; the input reads as it did. -/
def fnExactForestDepthUptoRow : OpenClaim := { program := "ytjbklceikbdiiaa", sum := "7343ed1582d8c19d57e190c1473ffe84d240179e55710eaf715201dd54fcbefa", func := "loop.example/graphcluster/laws.FnExactForestDepth", spec := "fnExactForestDepth", apart := false, narrowed := true }
def FnExactForestDepthUptoSaid : Prop := fnExactForestDepthUptoRow.holds Try.pinned (OpenSpec.upto fnExactForestDepthSpec)

/-- 'laws.FnExactColorGroups', WHERE WHAT IT READS IS OF BULK AT MOST 1048576: true; the input reads as it did. -/
def fnExactColorGroupsUptoRow : OpenClaim := { program := "ytjbklceikbdiiaa", sum := "7343ed1582d8c19d57e190c1473ffe84d240179e55710eaf715201dd54fcbefa", func := "loop.example/graphcluster/laws.FnExactColorGroups", spec := "fnExactColorGroups", apart := false, narrowed := true }
def FnExactColorGroupsUptoSaid : Prop := fnExactColorGroupsUptoRow.holds Try.pinned (OpenSpec.upto fnExactColorGroupsSpec)

/-- 'laws.FnColorGroups', WHERE WHAT IT READS IS OF BULK AT MOST 1048576: true; the input reads as it did. -/
def fnColorGroupsUptoRow : OpenClaim := { program := "ytjbklceikbdiiaa", sum := "7343ed1582d8c19d57e190c1473ffe84d240179e55710eaf715201dd54fcbefa", func := "loop.example/graphcluster/laws.FnColorGroups", spec := "fnColorGroups", apart := false, narrowed := true }
def FnColorGroupsUptoSaid : Prop := fnColorGroupsUptoRow.holds Try.pinned (OpenSpec.upto fnColorGroupsSpec)

end Rows
end Go.Proofs.Ytjbklceikbdiiaa
