/-
  No cell of these rows narrows 'for every input' (looked for: loops, veiled, ifaces, maps, wideKeys, modest, calm, conditions, laid).
  DERIVED. THE GIVEN ROWS OF THIS SEAT. 5 by the template 'for every input the law returns true; each argument reads behind the call as it read before'; 0 by the template 'total and deterministic' (their statements: YtngpllgpfndkkaaTotals.lean).
  GIVEN WITH THE SEED: the statements are not yours to turn. If you find one false, say at which input.
  Laid BY PROGRAM, IN A SANDBOX (cutbox-rows.mjs): the forced cells as the released guide's own fill.sh prints them over the translation eacafdb9d7e20bad… (all of the seat's roots in one cut). By AI agents, Wed Nov 11 2026. No macro, syntax, notation, axiom, sorry.
-/
import Derived.Test.YtngpllgpfndkkaaChecked
import GoSem.Claim
import GoSem.ClaimJoined
import GoSem.ClaimMapViews
import Derived.JoinedTies
import Derived.KernelRfl
namespace Go.Proofs.Ytngpllgpfndkkaa
/- THE CELL 'sum', in the pinned program and in every row, IS THE sha256 OF THE DUMP (.gsa) THAT YtngpllgpfndkkaaProg.lean LOADS. Nothing in Lean hashes anything: it is a label: what it is worth is what the hold of that sum in a sandbox is worth. -/
noncomputable def Try.pinned : Pinned := { name := "ytngpllgpfndkkaa", sum := "eacafdb9d7e20bad4e68dab56e6f0af2570f3e79909c8bc909920cf7f55568ed", checked := Try.checked }
namespace Rows
def none {H : Type} : Left H := { results := [], args := [] }

/-- 'laws.FnExactForestRight': WHATEVER THE INPUT: true; the input reads as it did. -/
def fnExactForestRightSpec : ChangeSpec := { name := "fnExactForestRight", fn := fun _ => fun
  | [d1, d2] => { results := [.lit (.bool true)], args := [d1, d2] }
  | _ => none }
def fnExactForestRightRow : OpenClaim := { program := "ytngpllgpfndkkaa", sum := "eacafdb9d7e20bad4e68dab56e6f0af2570f3e79909c8bc909920cf7f55568ed", func := "loop.example/graphcluster/laws.FnExactForestRight", spec := "fnExactForestRight", apart := false }
def FnExactForestRightSaid : Prop := fnExactForestRightRow.holds Try.pinned (OpenSpec.ofChange fnExactForestRightSpec)

/-- ITS FALSE NEIGHBOUR: 'it returns false'. Refute it at one input. -/
def fnExactForestRightWrong : ChangeSpec := { name := "fnExactForestRight", fn := fun _ => fun
  | [d1, d2] => { results := [.lit (.bool false)], args := [d1, d2] }
  | _ => none }
def FnExactForestRightWrongFalsely : Prop := fnExactForestRightRow.holds Try.pinned (OpenSpec.ofChange fnExactForestRightWrong)

/-- 'laws.FnExactBetterCut': WHATEVER THE INPUT: true; the input reads as it did. -/
def fnExactBetterCutSpec : ChangeSpec := { name := "fnExactBetterCut", fn := fun _ => fun
  | [d1, d2] => { results := [.lit (.bool true)], args := [d1, d2] }
  | _ => none }
def fnExactBetterCutRow : OpenClaim := { program := "ytngpllgpfndkkaa", sum := "eacafdb9d7e20bad4e68dab56e6f0af2570f3e79909c8bc909920cf7f55568ed", func := "loop.example/graphcluster/laws.FnExactBetterCut", spec := "fnExactBetterCut", apart := false }
def FnExactBetterCutSaid : Prop := fnExactBetterCutRow.holds Try.pinned (OpenSpec.ofChange fnExactBetterCutSpec)

/-- ITS FALSE NEIGHBOUR: 'it returns false'. Refute it at one input. -/
def fnExactBetterCutWrong : ChangeSpec := { name := "fnExactBetterCut", fn := fun _ => fun
  | [d1, d2] => { results := [.lit (.bool false)], args := [d1, d2] }
  | _ => none }
def FnExactBetterCutWrongFalsely : Prop := fnExactBetterCutRow.holds Try.pinned (OpenSpec.ofChange fnExactBetterCutWrong)

/-- 'laws.FnMatchingRight': WHATEVER THE INPUT: true; the input reads as it did. -/
def fnMatchingRightSpec : ChangeSpec := { name := "fnMatchingRight", fn := fun _ => fun
  | [d] => { results := [.lit (.bool true)], args := [d] }
  | _ => none }
def fnMatchingRightRow : OpenClaim := { program := "ytngpllgpfndkkaa", sum := "eacafdb9d7e20bad4e68dab56e6f0af2570f3e79909c8bc909920cf7f55568ed", func := "loop.example/graphcluster/laws.FnMatchingRight", spec := "fnMatchingRight", apart := false }
def FnMatchingRightSaid : Prop := fnMatchingRightRow.holds Try.pinned (OpenSpec.ofChange fnMatchingRightSpec)

/-- ITS FALSE NEIGHBOUR: 'it returns false'. Refute it at one input. -/
def fnMatchingRightWrong : ChangeSpec := { name := "fnMatchingRight", fn := fun _ => fun
  | [d] => { results := [.lit (.bool false)], args := [d] }
  | _ => none }
def FnMatchingRightWrongFalsely : Prop := fnMatchingRightRow.holds Try.pinned (OpenSpec.ofChange fnMatchingRightWrong)

/-- 'laws.FnBetterCut': WHATEVER THE INPUT: true; the input reads as it did. -/
def fnBetterCutSpec : ChangeSpec := { name := "fnBetterCut", fn := fun _ => fun
  | [d] => { results := [.lit (.bool true)], args := [d] }
  | _ => none }
def fnBetterCutRow : OpenClaim := { program := "ytngpllgpfndkkaa", sum := "eacafdb9d7e20bad4e68dab56e6f0af2570f3e79909c8bc909920cf7f55568ed", func := "loop.example/graphcluster/laws.FnBetterCut", spec := "fnBetterCut", apart := false }
def FnBetterCutSaid : Prop := fnBetterCutRow.holds Try.pinned (OpenSpec.ofChange fnBetterCutSpec)

/-- ITS FALSE NEIGHBOUR: 'it returns false'. Refute it at one input. -/
def fnBetterCutWrong : ChangeSpec := { name := "fnBetterCut", fn := fun _ => fun
  | [d] => { results := [.lit (.bool false)], args := [d] }
  | _ => none }
def FnBetterCutWrongFalsely : Prop := fnBetterCutRow.holds Try.pinned (OpenSpec.ofChange fnBetterCutWrong)

/-- 'laws.FnForestRight': WHATEVER THE INPUT: true; the input reads as it did. -/
def fnForestRightSpec : ChangeSpec := { name := "fnForestRight", fn := fun _ => fun
  | [d] => { results := [.lit (.bool true)], args := [d] }
  | _ => none }
def fnForestRightRow : OpenClaim := { program := "ytngpllgpfndkkaa", sum := "eacafdb9d7e20bad4e68dab56e6f0af2570f3e79909c8bc909920cf7f55568ed", func := "loop.example/graphcluster/laws.FnForestRight", spec := "fnForestRight", apart := false }
def FnForestRightSaid : Prop := fnForestRightRow.holds Try.pinned (OpenSpec.ofChange fnForestRightSpec)

/-- ITS FALSE NEIGHBOUR: 'it returns false'. Refute it at one input. -/
def fnForestRightWrong : ChangeSpec := { name := "fnForestRight", fn := fun _ => fun
  | [d] => { results := [.lit (.bool false)], args := [d] }
  | _ => none }
def FnForestRightWrongFalsely : Prop := fnForestRightRow.holds Try.pinned (OpenSpec.ofChange fnForestRightWrong)

/- THE SECOND FORM. 'bulk': how many values and letters a reading holds, each counted each time it is reached (what is shared counts as often as it is met; a slice's spare places count too). A statement '..UptoSaid' is the law's where the arguments, and the package variables that the reading takes, are together of bulk at most 1048576: NARROWER than '..Said'. Prove '..Said' where nothing that the law and all that it calls make is longer than what came in: it says more and counts as full. Else prove '..UptoSaid'. A law counts once. -/
mutual
def uptoBulk {H : Type} : DataW H → Nat
  | .lit (.string bytes) => bytes.length + 1
  | .lit _ => 1
  | .nil => 1
  | .ptr d => uptoBulk d + 1
  | .slice elems spare => uptoBulkAll elems + uptoBulkAll spare + 1
  | .agg parts => uptoBulkAll parts + 1
  | .iface _ d => uptoBulk d + 1
  | .map entries => uptoBulkEntries entries + 1
  | .held _ => 1
def uptoBulkAll {H : Type} : List (DataW H) → Nat
  | [] => 0
  | d :: r => uptoBulk d + uptoBulkAll r
def uptoBulkEntries {H : Type} : List (Lit × DataW H) → Nat
  | [] => 0
  | x :: r => uptoBulkEntry x + uptoBulkEntries r
def uptoBulkEntry {H : Type} : Lit × DataW H → Nat
  | (.string bytes, d) => bytes.length + uptoBulk d + 1
  | (_, d) => uptoBulk d + 1
 end
def uptoSmall : (H : Type) → List (DataW H) → Bool := fun _ ds => decide (uptoBulkAll ds ≤ 1048576)
def OpenSpec.upto (s : _root_.Go.ChangeSpec) : _root_.Go.OpenSpec := { _root_.Go.OpenSpec.ofChange s with cond := some uptoSmall }

/-- 'laws.FnExactForestRight', WHERE WHAT IT READS IS OF BULK AT MOST 1048576: true; the input reads as it did. -/
def fnExactForestRightUptoRow : OpenClaim := { program := "ytngpllgpfndkkaa", sum := "eacafdb9d7e20bad4e68dab56e6f0af2570f3e79909c8bc909920cf7f55568ed", func := "loop.example/graphcluster/laws.FnExactForestRight", spec := "fnExactForestRight", apart := false, narrowed := true }
def FnExactForestRightUptoSaid : Prop := fnExactForestRightUptoRow.holds Try.pinned (OpenSpec.upto fnExactForestRightSpec)

/-- 'laws.FnExactBetterCut', WHERE WHAT IT READS IS OF BULK AT MOST 1048576: true; the input reads as it did. -/
def fnExactBetterCutUptoRow : OpenClaim := { program := "ytngpllgpfndkkaa", sum := "eacafdb9d7e20bad4e68dab56e6f0af2570f3e79909c8bc909920cf7f55568ed", func := "loop.example/graphcluster/laws.FnExactBetterCut", spec := "fnExactBetterCut", apart := false, narrowed := true }
def FnExactBetterCutUptoSaid : Prop := fnExactBetterCutUptoRow.holds Try.pinned (OpenSpec.upto fnExactBetterCutSpec)

/-- 'laws.FnMatchingRight', WHERE WHAT IT READS IS OF BULK AT MOST 1048576: true; the input reads as it did. -/
def fnMatchingRightUptoRow : OpenClaim := { program := "ytngpllgpfndkkaa", sum := "eacafdb9d7e20bad4e68dab56e6f0af2570f3e79909c8bc909920cf7f55568ed", func := "loop.example/graphcluster/laws.FnMatchingRight", spec := "fnMatchingRight", apart := false, narrowed := true }
def FnMatchingRightUptoSaid : Prop := fnMatchingRightUptoRow.holds Try.pinned (OpenSpec.upto fnMatchingRightSpec)

/-- 'laws.FnBetterCut', WHERE WHAT IT READS IS OF BULK AT MOST 1048576: true; the input reads as it did. -/
def fnBetterCutUptoRow : OpenClaim := { program := "ytngpllgpfndkkaa", sum := "eacafdb9d7e20bad4e68dab56e6f0af2570f3e79909c8bc909920cf7f55568ed", func := "loop.example/graphcluster/laws.FnBetterCut", spec := "fnBetterCut", apart := false, narrowed := true }
def FnBetterCutUptoSaid : Prop := fnBetterCutUptoRow.holds Try.pinned (OpenSpec.upto fnBetterCutSpec)

/-- 'laws.FnForestRight', WHERE WHAT IT READS IS OF BULK AT MOST 1048576: true; the input reads as it did. -/
def fnForestRightUptoRow : OpenClaim := { program := "ytngpllgpfndkkaa", sum := "eacafdb9d7e20bad4e68dab56e6f0af2570f3e79909c8bc909920cf7f55568ed", func := "loop.example/graphcluster/laws.FnForestRight", spec := "fnForestRight", apart := false, narrowed := true }
def FnForestRightUptoSaid : Prop := fnForestRightUptoRow.holds Try.pinned (OpenSpec.upto fnForestRightSpec)

end Rows
end Go.Proofs.Ytngpllgpfndkkaa
