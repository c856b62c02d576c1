/-
  No cell of these rows narrows 'for every input' (looked for: loops, veiled, ifaces, maps, wideKeys, modest, calm, conditions, laid).
  DERIVED. THE GIVEN ROWS OF THIS SEAT. 12 by the template 'for every input the law returns true; each argument reads behind the call as it read before'; 0 by the template 'total and deterministic' (their statements: YtlpkjcmiohppcaaTotals.lean).
  GIVEN WITH THE SEED: the statements are not yours to turn. If you find one false, say at which input.
  Laid BY PROGRAM, IN A SANDBOX (cutbox-rows.mjs): the forced cells as the released guide's own fill.sh prints them over the translation 10cf31199351be1b… (all of the seat's roots in one cut). By AI agents, Wed Nov 11 2026. No macro, syntax, notation, axiom, sorry.
-/
import Derived.Test.YtlpkjcmiohppcaaChecked
import GoSem.Claim
import GoSem.ClaimJoined
import GoSem.ClaimMapViews
import Derived.JoinedTies
import Derived.KernelRfl
namespace Go.Proofs.Ytlpkjcmiohppcaa
/- THE CELL 'sum', in the pinned program and in every row, IS THE sha256 OF THE DUMP (.gsa) THAT YtlpkjcmiohppcaaProg.lean LOADS. Nothing in Lean hashes anything: it is a label: what it is worth is what the hold of that sum in a sandbox is worth. -/
noncomputable def Try.pinned : Pinned := { name := "ytlpkjcmiohppcaa", sum := "10cf31199351be1b32332c47d718afffe003084f977bb3439279155182f81fda", checked := Try.checked }
namespace Rows
def none {H : Type} : Left H := { results := [], args := [] }

/-- 'laws.FnExactForestDepth': WHATEVER THE INPUT: true; the input reads as it did. -/
def fnExactForestDepthSpec : ChangeSpec := { name := "fnExactForestDepth", fn := fun _ => fun
  | [d1, d2] => { results := [.lit (.bool true)], args := [d1, d2] }
  | _ => none }
def fnExactForestDepthRow : OpenClaim := { program := "ytlpkjcmiohppcaa", sum := "10cf31199351be1b32332c47d718afffe003084f977bb3439279155182f81fda", func := "loop.example/graphcluster/laws.FnExactForestDepth", spec := "fnExactForestDepth", apart := false }
def FnExactForestDepthSaid : Prop := fnExactForestDepthRow.holds Try.pinned (OpenSpec.ofChange fnExactForestDepthSpec)

/-- ITS FALSE NEIGHBOUR: 'it returns false'. Refute it at one input. -/
def fnExactForestDepthWrong : ChangeSpec := { name := "fnExactForestDepth", fn := fun _ => fun
  | [d1, d2] => { results := [.lit (.bool false)], args := [d1, d2] }
  | _ => none }
def FnExactForestDepthWrongFalsely : Prop := fnExactForestDepthRow.holds Try.pinned (OpenSpec.ofChange fnExactForestDepthWrong)

/-- 'laws.FnExactColorGroups': WHATEVER THE INPUT: true; the input reads as it did. -/
def fnExactColorGroupsSpec : ChangeSpec := { name := "fnExactColorGroups", fn := fun _ => fun
  | [d] => { results := [.lit (.bool true)], args := [d] }
  | _ => none }
def fnExactColorGroupsRow : OpenClaim := { program := "ytlpkjcmiohppcaa", sum := "10cf31199351be1b32332c47d718afffe003084f977bb3439279155182f81fda", func := "loop.example/graphcluster/laws.FnExactColorGroups", spec := "fnExactColorGroups", apart := false }
def FnExactColorGroupsSaid : Prop := fnExactColorGroupsRow.holds Try.pinned (OpenSpec.ofChange fnExactColorGroupsSpec)

/-- ITS FALSE NEIGHBOUR: 'it returns false'. Refute it at one input. -/
def fnExactColorGroupsWrong : ChangeSpec := { name := "fnExactColorGroups", fn := fun _ => fun
  | [d] => { results := [.lit (.bool false)], args := [d] }
  | _ => none }
def FnExactColorGroupsWrongFalsely : Prop := fnExactColorGroupsRow.holds Try.pinned (OpenSpec.ofChange fnExactColorGroupsWrong)

/-- 'laws.FnColorGroups': WHATEVER THE INPUT: true; the input reads as it did. -/
def fnColorGroupsSpec : ChangeSpec := { name := "fnColorGroups", fn := fun _ => fun
  | [d] => { results := [.lit (.bool true)], args := [d] }
  | _ => none }
def fnColorGroupsRow : OpenClaim := { program := "ytlpkjcmiohppcaa", sum := "10cf31199351be1b32332c47d718afffe003084f977bb3439279155182f81fda", func := "loop.example/graphcluster/laws.FnColorGroups", spec := "fnColorGroups", apart := false }
def FnColorGroupsSaid : Prop := fnColorGroupsRow.holds Try.pinned (OpenSpec.ofChange fnColorGroupsSpec)

/-- ITS FALSE NEIGHBOUR: 'it returns false'. Refute it at one input. -/
def fnColorGroupsWrong : ChangeSpec := { name := "fnColorGroups", fn := fun _ => fun
  | [d] => { results := [.lit (.bool false)], args := [d] }
  | _ => none }
def FnColorGroupsWrongFalsely : Prop := fnColorGroupsRow.holds Try.pinned (OpenSpec.ofChange fnColorGroupsWrong)

/-- 'laws.FnExactCutWeight': WHATEVER THE INPUT: true; the input reads as it did. -/
def fnExactCutWeightSpec : ChangeSpec := { name := "fnExactCutWeight", fn := fun _ => fun
  | [d1, d2] => { results := [.lit (.bool true)], args := [d1, d2] }
  | _ => none }
def fnExactCutWeightRow : OpenClaim := { program := "ytlpkjcmiohppcaa", sum := "10cf31199351be1b32332c47d718afffe003084f977bb3439279155182f81fda", func := "loop.example/graphcluster/laws.FnExactCutWeight", spec := "fnExactCutWeight", apart := false }
def FnExactCutWeightSaid : Prop := fnExactCutWeightRow.holds Try.pinned (OpenSpec.ofChange fnExactCutWeightSpec)

/-- ITS FALSE NEIGHBOUR: 'it returns false'. Refute it at one input. -/
def fnExactCutWeightWrong : ChangeSpec := { name := "fnExactCutWeight", fn := fun _ => fun
  | [d1, d2] => { results := [.lit (.bool false)], args := [d1, d2] }
  | _ => none }
def FnExactCutWeightWrongFalsely : Prop := fnExactCutWeightRow.holds Try.pinned (OpenSpec.ofChange fnExactCutWeightWrong)

/-- 'laws.FnExactColorsRight': WHATEVER THE INPUT: true; the input reads as it did. -/
def fnExactColorsRightSpec : ChangeSpec := { name := "fnExactColorsRight", fn := fun _ => fun
  | [d1, d2] => { results := [.lit (.bool true)], args := [d1, d2] }
  | _ => none }
def fnExactColorsRightRow : OpenClaim := { program := "ytlpkjcmiohppcaa", sum := "10cf31199351be1b32332c47d718afffe003084f977bb3439279155182f81fda", func := "loop.example/graphcluster/laws.FnExactColorsRight", spec := "fnExactColorsRight", apart := false }
def FnExactColorsRightSaid : Prop := fnExactColorsRightRow.holds Try.pinned (OpenSpec.ofChange fnExactColorsRightSpec)

/-- ITS FALSE NEIGHBOUR: 'it returns false'. Refute it at one input. -/
def fnExactColorsRightWrong : ChangeSpec := { name := "fnExactColorsRight", fn := fun _ => fun
  | [d1, d2] => { results := [.lit (.bool false)], args := [d1, d2] }
  | _ => none }
def FnExactColorsRightWrongFalsely : Prop := fnExactColorsRightRow.holds Try.pinned (OpenSpec.ofChange fnExactColorsRightWrong)

/-- 'laws.FnExactCutGain': WHATEVER THE INPUT: true; the input reads as it did. -/
def fnExactCutGainSpec : ChangeSpec := { name := "fnExactCutGain", fn := fun _ => fun
  | [d1, d2, d3] => { results := [.lit (.bool true)], args := [d1, d2, d3] }
  | _ => none }
def fnExactCutGainRow : OpenClaim := { program := "ytlpkjcmiohppcaa", sum := "10cf31199351be1b32332c47d718afffe003084f977bb3439279155182f81fda", func := "loop.example/graphcluster/laws.FnExactCutGain", spec := "fnExactCutGain", apart := false }
def FnExactCutGainSaid : Prop := fnExactCutGainRow.holds Try.pinned (OpenSpec.ofChange fnExactCutGainSpec)

/-- ITS FALSE NEIGHBOUR: 'it returns false'. Refute it at one input. -/
def fnExactCutGainWrong : ChangeSpec := { name := "fnExactCutGain", fn := fun _ => fun
  | [d1, d2, d3] => { results := [.lit (.bool false)], args := [d1, d2, d3] }
  | _ => none }
def FnExactCutGainWrongFalsely : Prop := fnExactCutGainRow.holds Try.pinned (OpenSpec.ofChange fnExactCutGainWrong)

/-- 'laws.FnExactOrderForward': WHATEVER THE INPUT: true; the input reads as it did. -/
def fnExactOrderForwardSpec : ChangeSpec := { name := "fnExactOrderForward", fn := fun _ => fun
  | [d1, d2] => { results := [.lit (.bool true)], args := [d1, d2] }
  | _ => none }
def fnExactOrderForwardRow : OpenClaim := { program := "ytlpkjcmiohppcaa", sum := "10cf31199351be1b32332c47d718afffe003084f977bb3439279155182f81fda", func := "loop.example/graphcluster/laws.FnExactOrderForward", spec := "fnExactOrderForward", apart := false }
def FnExactOrderForwardSaid : Prop := fnExactOrderForwardRow.holds Try.pinned (OpenSpec.ofChange fnExactOrderForwardSpec)

/-- ITS FALSE NEIGHBOUR: 'it returns false'. Refute it at one input. -/
def fnExactOrderForwardWrong : ChangeSpec := { name := "fnExactOrderForward", fn := fun _ => fun
  | [d1, d2] => { results := [.lit (.bool false)], args := [d1, d2] }
  | _ => none }
def FnExactOrderForwardWrongFalsely : Prop := fnExactOrderForwardRow.holds Try.pinned (OpenSpec.ofChange fnExactOrderForwardWrong)

/-- 'laws.FnCutWeight': WHATEVER THE INPUT: true; the input reads as it did. -/
def fnCutWeightSpec : ChangeSpec := { name := "fnCutWeight", fn := fun _ => fun
  | [d] => { results := [.lit (.bool true)], args := [d] }
  | _ => none }
def fnCutWeightRow : OpenClaim := { program := "ytlpkjcmiohppcaa", sum := "10cf31199351be1b32332c47d718afffe003084f977bb3439279155182f81fda", func := "loop.example/graphcluster/laws.FnCutWeight", spec := "fnCutWeight", apart := false }
def FnCutWeightSaid : Prop := fnCutWeightRow.holds Try.pinned (OpenSpec.ofChange fnCutWeightSpec)

/-- ITS FALSE NEIGHBOUR: 'it returns false'. Refute it at one input. -/
def fnCutWeightWrong : ChangeSpec := { name := "fnCutWeight", fn := fun _ => fun
  | [d] => { results := [.lit (.bool false)], args := [d] }
  | _ => none }
def FnCutWeightWrongFalsely : Prop := fnCutWeightRow.holds Try.pinned (OpenSpec.ofChange fnCutWeightWrong)

/-- 'laws.FnForestDepth': WHATEVER THE INPUT: true; the input reads as it did. -/
def fnForestDepthSpec : ChangeSpec := { name := "fnForestDepth", fn := fun _ => fun
  | [d] => { results := [.lit (.bool true)], args := [d] }
  | _ => none }
def fnForestDepthRow : OpenClaim := { program := "ytlpkjcmiohppcaa", sum := "10cf31199351be1b32332c47d718afffe003084f977bb3439279155182f81fda", func := "loop.example/graphcluster/laws.FnForestDepth", spec := "fnForestDepth", apart := false }
def FnForestDepthSaid : Prop := fnForestDepthRow.holds Try.pinned (OpenSpec.ofChange fnForestDepthSpec)

/-- ITS FALSE NEIGHBOUR: 'it returns false'. Refute it at one input. -/
def fnForestDepthWrong : ChangeSpec := { name := "fnForestDepth", fn := fun _ => fun
  | [d] => { results := [.lit (.bool false)], args := [d] }
  | _ => none }
def FnForestDepthWrongFalsely : Prop := fnForestDepthRow.holds Try.pinned (OpenSpec.ofChange fnForestDepthWrong)

/-- 'laws.FnExactMatchingRight': WHATEVER THE INPUT: true; the input reads as it did. -/
def fnExactMatchingRightSpec : ChangeSpec := { name := "fnExactMatchingRight", fn := fun _ => fun
  | [d1, d2] => { results := [.lit (.bool true)], args := [d1, d2] }
  | _ => none }
def fnExactMatchingRightRow : OpenClaim := { program := "ytlpkjcmiohppcaa", sum := "10cf31199351be1b32332c47d718afffe003084f977bb3439279155182f81fda", func := "loop.example/graphcluster/laws.FnExactMatchingRight", spec := "fnExactMatchingRight", apart := false }
def FnExactMatchingRightSaid : Prop := fnExactMatchingRightRow.holds Try.pinned (OpenSpec.ofChange fnExactMatchingRightSpec)

/-- ITS FALSE NEIGHBOUR: 'it returns false'. Refute it at one input. -/
def fnExactMatchingRightWrong : ChangeSpec := { name := "fnExactMatchingRight", fn := fun _ => fun
  | [d1, d2] => { results := [.lit (.bool false)], args := [d1, d2] }
  | _ => none }
def FnExactMatchingRightWrongFalsely : Prop := fnExactMatchingRightRow.holds Try.pinned (OpenSpec.ofChange fnExactMatchingRightWrong)

/-- 'laws.FnCutGain': WHATEVER THE INPUT: true; the input reads as it did. -/
def fnCutGainSpec : ChangeSpec := { name := "fnCutGain", fn := fun _ => fun
  | [d] => { results := [.lit (.bool true)], args := [d] }
  | _ => none }
def fnCutGainRow : OpenClaim := { program := "ytlpkjcmiohppcaa", sum := "10cf31199351be1b32332c47d718afffe003084f977bb3439279155182f81fda", func := "loop.example/graphcluster/laws.FnCutGain", spec := "fnCutGain", apart := false }
def FnCutGainSaid : Prop := fnCutGainRow.holds Try.pinned (OpenSpec.ofChange fnCutGainSpec)

/-- ITS FALSE NEIGHBOUR: 'it returns false'. Refute it at one input. -/
def fnCutGainWrong : ChangeSpec := { name := "fnCutGain", fn := fun _ => fun
  | [d] => { results := [.lit (.bool false)], args := [d] }
  | _ => none }
def FnCutGainWrongFalsely : Prop := fnCutGainRow.holds Try.pinned (OpenSpec.ofChange fnCutGainWrong)

/-- 'laws.FnExactMatchingFull': WHATEVER THE INPUT: true; the input reads as it did. -/
def fnExactMatchingFullSpec : ChangeSpec := { name := "fnExactMatchingFull", fn := fun _ => fun
  | [d1, d2] => { results := [.lit (.bool true)], args := [d1, d2] }
  | _ => none }
def fnExactMatchingFullRow : OpenClaim := { program := "ytlpkjcmiohppcaa", sum := "10cf31199351be1b32332c47d718afffe003084f977bb3439279155182f81fda", func := "loop.example/graphcluster/laws.FnExactMatchingFull", spec := "fnExactMatchingFull", apart := false }
def FnExactMatchingFullSaid : Prop := fnExactMatchingFullRow.holds Try.pinned (OpenSpec.ofChange fnExactMatchingFullSpec)

/-- ITS FALSE NEIGHBOUR: 'it returns false'. Refute it at one input. -/
def fnExactMatchingFullWrong : ChangeSpec := { name := "fnExactMatchingFull", fn := fun _ => fun
  | [d1, d2] => { results := [.lit (.bool false)], args := [d1, d2] }
  | _ => none }
def FnExactMatchingFullWrongFalsely : Prop := fnExactMatchingFullRow.holds Try.pinned (OpenSpec.ofChange fnExactMatchingFullWrong)

/- THE SECOND FORM. 'bulk': how many values and letters a reading holds, each counted each time it is reached (what is shared counts as often as it is met; a slice's spare places count too). A statement '..UptoSaid' is the law's where the arguments, and the package variables that the reading takes, are together of bulk at most 1048576: NARROWER than '..Said'. Prove '..Said' where nothing that the law and all that it calls make is longer than what came in: it says more and counts as full. Else prove '..UptoSaid'. A law counts once. -/
mutual
def uptoBulk {H : Type} : DataW H → Nat
  | .lit (.string bytes) => bytes.length + 1
  | .lit _ => 1
  | .nil => 1
  | .ptr d => uptoBulk d + 1
  | .slice elems spare => uptoBulkAll elems + uptoBulkAll spare + 1
  | .agg parts => uptoBulkAll parts + 1
  | .iface _ d => uptoBulk d + 1
  | .map entries => uptoBulkEntries entries + 1
  | .held _ => 1
def uptoBulkAll {H : Type} : List (DataW H) → Nat
  | [] => 0
  | d :: r => uptoBulk d + uptoBulkAll r
def uptoBulkEntries {H : Type} : List (Lit × DataW H) → Nat
  | [] => 0
  | x :: r => uptoBulkEntry x + uptoBulkEntries r
def uptoBulkEntry {H : Type} : Lit × DataW H → Nat
  | (.string bytes, d) => bytes.length + uptoBulk d + 1
  | (_, d) => uptoBulk d + 1
 end
def uptoSmall : (H : Type) → List (DataW H) → Bool := fun _ ds => decide (uptoBulkAll ds ≤ 1048576)
def OpenSpec.upto (s : _root_.Go.ChangeSpec) : _root_.Go.OpenSpec := { _root_.Go.OpenSpec.ofChange s with cond := some uptoSmall }

/-- 'laws.FnExactForestDepth', WHERE WHAT IT READS IS OF BULK AT MOST 1048576: true; the input reads as it did. -/
def fnExactForestDepthUptoRow : OpenClaim := { program := "ytlpkjcmiohppcaa", sum := "10cf31199351be1b32332c47d718afffe003084f977bb3439279155182f81fda", func := "loop.example/graphcluster/laws.FnExactForestDepth", spec := "fnExactForestDepth", apart := false, narrowed := true }
def FnExactForestDepthUptoSaid : Prop := fnExactForestDepthUptoRow.holds Try.pinned (OpenSpec.upto fnExactForestDepthSpec)

/-- 'laws.FnExactColorGroups', WHERE WHAT IT READS IS OF BULK AT MOST 1048576: true; the input reads as it did. -/
def fnExactColorGroupsUptoRow : OpenClaim := { program := "ytlpkjcmiohppcaa", sum := "10cf31199351be1b32332c47d718afffe003084f977bb3439279155182f81fda", func := "loop.example/graphcluster/laws.FnExactColorGroups", spec := "fnExactColorGroups", apart := false, narrowed := true }
def FnExactColorGroupsUptoSaid : Prop := fnExactColorGroupsUptoRow.holds Try.pinned (OpenSpec.upto fnExactColorGroupsSpec)

/-- 'laws.FnColorGroups', WHERE WHAT IT READS IS OF BULK AT MOST 1048576: true; the input reads as it did. -/
def fnColorGroupsUptoRow : OpenClaim := { program := "ytlpkjcmiohppcaa", sum := "10cf31199351be1b32332c47d718afffe003084f977bb3439279155182f81fda", func := "loop.example/graphcluster/laws.FnColorGroups", spec := "fnColorGroups", apart := false, narrowed := true }
def FnColorGroupsUptoSaid : Prop := fnColorGroupsUptoRow.holds Try.pinned (OpenSpec.upto fnColorGroupsSpec)

/-- 'laws.FnExactCutWeight', WHERE WHAT IT READS IS OF BULK AT MOST 1048576: true; the input reads as it did. -/
def fnExactCutWeightUptoRow : OpenClaim := { program := "ytlpkjcmiohppcaa", sum := "10cf31199351be1b32332c47d718afffe003084f977bb3439279155182f81fda", func := "loop.example/graphcluster/laws.FnExactCutWeight", spec := "fnExactCutWeight", apart := false, narrowed := true }
def FnExactCutWeightUptoSaid : Prop := fnExactCutWeightUptoRow.holds Try.pinned (OpenSpec.upto fnExactCutWeightSpec)

/-- 'laws.FnExactColorsRight', WHERE WHAT IT READS IS OF BULK AT MOST 1048576: true; the input reads as it did. -/
def fnExactColorsRightUptoRow : OpenClaim := { program := "ytlpkjcmiohppcaa", sum := "10cf31199351be1b32332c47d718afffe003084f977bb3439279155182f81fda", func := "loop.example/graphcluster/laws.FnExactColorsRight", spec := "fnExactColorsRight", apart := false, narrowed := true }
def FnExactColorsRightUptoSaid : Prop := fnExactColorsRightUptoRow.holds Try.pinned (OpenSpec.upto fnExactColorsRightSpec)

/-- 'laws.FnExactCutGain', WHERE WHAT IT READS IS OF BULK AT MOST 1048576: true; the input reads as it did. -/
def fnExactCutGainUptoRow : OpenClaim := { program := "ytlpkjcmiohppcaa", sum := "10cf31199351be1b32332c47d718afffe003084f977bb3439279155182f81fda", func := "loop.example/graphcluster/laws.FnExactCutGain", spec := "fnExactCutGain", apart := false, narrowed := true }
def FnExactCutGainUptoSaid : Prop := fnExactCutGainUptoRow.holds Try.pinned (OpenSpec.upto fnExactCutGainSpec)

/-- 'laws.FnExactOrderForward', WHERE WHAT IT READS IS OF BULK AT MOST 1048576: true; the input reads as it did. -/
def fnExactOrderForwardUptoRow : OpenClaim := { program := "ytlpkjcmiohppcaa", sum := "10cf31199351be1b32332c47d718afffe003084f977bb3439279155182f81fda", func := "loop.example/graphcluster/laws.FnExactOrderForward", spec := "fnExactOrderForward", apart := false, narrowed := true }
def FnExactOrderForwardUptoSaid : Prop := fnExactOrderForwardUptoRow.holds Try.pinned (OpenSpec.upto fnExactOrderForwardSpec)

/-- 'laws.FnCutWeight', WHERE WHAT IT READS IS OF BULK AT MOST 1048576: true; the input reads as it did. -/
def fnCutWeightUptoRow : OpenClaim := { program := "ytlpkjcmiohppcaa", sum := "10cf31199351be1b32332c47d718afffe003084f977bb3439279155182f81fda", func := "loop.example/graphcluster/laws.FnCutWeight", spec := "fnCutWeight", apart := false, narrowed := true }
def FnCutWeightUptoSaid : Prop := fnCutWeightUptoRow.holds Try.pinned (OpenSpec.upto fnCutWeightSpec)

/-- 'laws.FnForestDepth', WHERE WHAT IT READS IS OF BULK AT MOST 1048576: true; the input reads as it did. -/
def fnForestDepthUptoRow : OpenClaim := { program := "ytlpkjcmiohppcaa", sum := "10cf31199351be1b32332c47d718afffe003084f977bb3439279155182f81fda", func := "loop.example/graphcluster/laws.FnForestDepth", spec := "fnForestDepth", apart := false, narrowed := true }
def FnForestDepthUptoSaid : Prop := fnForestDepthUptoRow.holds Try.pinned (OpenSpec.upto fnForestDepthSpec)

/-- 'laws.FnExactMatchingRight', WHERE WHAT IT READS IS OF BULK AT MOST 1048576: true; the input reads as it did. -/
def fnExactMatchingRightUptoRow : OpenClaim := { program := "ytlpkjcmiohppcaa", sum := "10cf31199351be1b32332c47d718afffe003084f977bb3439279155182f81fda", func := "loop.example/graphcluster/laws.FnExactMatchingRight", spec := "fnExactMatchingRight", apart := false, narrowed := true }
def FnExactMatchingRightUptoSaid : Prop := fnExactMatchingRightUptoRow.holds Try.pinned (OpenSpec.upto fnExactMatchingRightSpec)

/-- 'laws.FnCutGain', WHERE WHAT IT READS IS OF BULK AT MOST 1048576: true; the input reads as it did. -/
def fnCutGainUptoRow : OpenClaim := { program := "ytlpkjcmiohppcaa", sum := "10cf31199351be1b32332c47d718afffe003084f977bb3439279155182f81fda", func := "loop.example/graphcluster/laws.FnCutGain", spec := "fnCutGain", apart := false, narrowed := true }
def FnCutGainUptoSaid : Prop := fnCutGainUptoRow.holds Try.pinned (OpenSpec.upto fnCutGainSpec)

/-- 'laws.FnExactMatchingFull', WHERE WHAT IT READS IS OF BULK AT MOST 1048576: true; the input reads as it did. -/
def fnExactMatchingFullUptoRow : OpenClaim := { program := "ytlpkjcmiohppcaa", sum := "10cf31199351be1b32332c47d718afffe003084f977bb3439279155182f81fda", func := "loop.example/graphcluster/laws.FnExactMatchingFull", spec := "fnExactMatchingFull", apart := false, narrowed := true }
def FnExactMatchingFullUptoSaid : Prop := fnExactMatchingFullUptoRow.holds Try.pinned (OpenSpec.upto fnExactMatchingFullSpec)

end Rows
end Go.Proofs.Ytlpkjcmiohppcaa
