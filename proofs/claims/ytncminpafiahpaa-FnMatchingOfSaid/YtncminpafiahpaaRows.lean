/-
  No cell of these rows narrows 'for every input' (looked for: loops, veiled, ifaces, maps, wideKeys, modest, calm, conditions, laid).
  DERIVED. THE GIVEN ROWS OF THIS SEAT. 11 by the template 'for every input the law returns true; each argument reads behind the call as it read before'; 0 by the template 'total and deterministic' (their statements: YtncminpafiahpaaTotals.lean).
  GIVEN WITH THE SEED: the statements are not yours to turn. If you find one false, say at which input.
  Laid BY PROGRAM, IN A SANDBOX (cutbox-rows.mjs): the forced cells as the released guide's own fill.sh prints them over the translation 16afbaf06fc2e842… (all of the seat's roots in one cut). By AI agents, Wed Nov 11 2026. No macro, syntax, notation, axiom, sorry.
-/
import Derived.Test.YtncminpafiahpaaChecked
import GoSem.Claim
import GoSem.ClaimJoined
import GoSem.ClaimMapViews
import Derived.JoinedTies
import Derived.KernelRfl
namespace Go.Proofs.Ytncminpafiahpaa
/- THE CELL 'sum', in the pinned program and in every row, IS THE sha256 OF THE DUMP (.gsa) THAT YtncminpafiahpaaProg.lean LOADS. Nothing in Lean hashes anything: it is a label: what it is worth is what the hold of that sum in a sandbox is worth. -/
noncomputable def Try.pinned : Pinned := { name := "ytncminpafiahpaa", sum := "16afbaf06fc2e842fe8008c155dd0e329771ef5d5998d729d7d9fe9bc2990538", checked := Try.checked }
namespace Rows
def none {H : Type} : Left H := { results := [], args := [] }

/-- 'laws.FnExactMatchingOf': WHATEVER THE INPUT: true; the input reads as it did. -/
def fnExactMatchingOfSpec : ChangeSpec := { name := "fnExactMatchingOf", fn := fun _ => fun
  | [d] => { results := [.lit (.bool true)], args := [d] }
  | _ => none }
def fnExactMatchingOfRow : OpenClaim := { program := "ytncminpafiahpaa", sum := "16afbaf06fc2e842fe8008c155dd0e329771ef5d5998d729d7d9fe9bc2990538", func := "loop.example/graphcluster/laws.FnExactMatchingOf", spec := "fnExactMatchingOf", unfollowed := true, recurses := true, apart := false }
def FnExactMatchingOfSaid : Prop := fnExactMatchingOfRow.holds Try.pinned (OpenSpec.ofChange fnExactMatchingOfSpec)

/-- ITS FALSE NEIGHBOUR: 'it returns false'. Refute it at one input. -/
def fnExactMatchingOfWrong : ChangeSpec := { name := "fnExactMatchingOf", fn := fun _ => fun
  | [d] => { results := [.lit (.bool false)], args := [d] }
  | _ => none }
def FnExactMatchingOfWrongFalsely : Prop := fnExactMatchingOfRow.holds Try.pinned (OpenSpec.ofChange fnExactMatchingOfWrong)

/-- 'laws.FnChannelFinish': WHATEVER THE INPUT: true; the input reads as it did. -/
def fnChannelFinishSpec : ChangeSpec := { name := "fnChannelFinish", fn := fun _ => fun
  | [d] => { results := [.lit (.bool true)], args := [d] }
  | _ => none }
def fnChannelFinishRow : OpenClaim := { program := "ytncminpafiahpaa", sum := "16afbaf06fc2e842fe8008c155dd0e329771ef5d5998d729d7d9fe9bc2990538", func := "loop.example/graphcluster/laws.FnChannelFinish", spec := "fnChannelFinish", apart := false }
def FnChannelFinishSaid : Prop := fnChannelFinishRow.holds Try.pinned (OpenSpec.ofChange fnChannelFinishSpec)

/-- ITS FALSE NEIGHBOUR: 'it returns false'. Refute it at one input. -/
def fnChannelFinishWrong : ChangeSpec := { name := "fnChannelFinish", fn := fun _ => fun
  | [d] => { results := [.lit (.bool false)], args := [d] }
  | _ => none }
def FnChannelFinishWrongFalsely : Prop := fnChannelFinishRow.holds Try.pinned (OpenSpec.ofChange fnChannelFinishWrong)

/-- 'laws.FnExactChannelStep': WHATEVER THE INPUT: true; the input reads as it did. -/
def fnExactChannelStepSpec : ChangeSpec := { name := "fnExactChannelStep", fn := fun _ => fun
  | [d1, d2] => { results := [.lit (.bool true)], args := [d1, d2] }
  | _ => none }
def fnExactChannelStepRow : OpenClaim := { program := "ytncminpafiahpaa", sum := "16afbaf06fc2e842fe8008c155dd0e329771ef5d5998d729d7d9fe9bc2990538", func := "loop.example/graphcluster/laws.FnExactChannelStep", spec := "fnExactChannelStep", apart := false }
def FnExactChannelStepSaid : Prop := fnExactChannelStepRow.holds Try.pinned (OpenSpec.ofChange fnExactChannelStepSpec)

/-- ITS FALSE NEIGHBOUR: 'it returns false'. Refute it at one input. -/
def fnExactChannelStepWrong : ChangeSpec := { name := "fnExactChannelStep", fn := fun _ => fun
  | [d1, d2] => { results := [.lit (.bool false)], args := [d1, d2] }
  | _ => none }
def FnExactChannelStepWrongFalsely : Prop := fnExactChannelStepRow.holds Try.pinned (OpenSpec.ofChange fnExactChannelStepWrong)

/-- 'laws.FnExactChannelQuiet': WHATEVER THE INPUT: true; the input reads as it did. -/
def fnExactChannelQuietSpec : ChangeSpec := { name := "fnExactChannelQuiet", fn := fun _ => fun
  | [d] => { results := [.lit (.bool true)], args := [d] }
  | _ => none }
def fnExactChannelQuietRow : OpenClaim := { program := "ytncminpafiahpaa", sum := "16afbaf06fc2e842fe8008c155dd0e329771ef5d5998d729d7d9fe9bc2990538", func := "loop.example/graphcluster/laws.FnExactChannelQuiet", spec := "fnExactChannelQuiet", apart := false }
def FnExactChannelQuietSaid : Prop := fnExactChannelQuietRow.holds Try.pinned (OpenSpec.ofChange fnExactChannelQuietSpec)

/-- ITS FALSE NEIGHBOUR: 'it returns false'. Refute it at one input. -/
def fnExactChannelQuietWrong : ChangeSpec := { name := "fnExactChannelQuiet", fn := fun _ => fun
  | [d] => { results := [.lit (.bool false)], args := [d] }
  | _ => none }
def FnExactChannelQuietWrongFalsely : Prop := fnExactChannelQuietRow.holds Try.pinned (OpenSpec.ofChange fnExactChannelQuietWrong)

/-- 'laws.FnExactChannelRun': WHATEVER THE INPUT: true; the input reads as it did. -/
def fnExactChannelRunSpec : ChangeSpec := { name := "fnExactChannelRun", fn := fun _ => fun
  | [d1, d2] => { results := [.lit (.bool true)], args := [d1, d2] }
  | _ => none }
def fnExactChannelRunRow : OpenClaim := { program := "ytncminpafiahpaa", sum := "16afbaf06fc2e842fe8008c155dd0e329771ef5d5998d729d7d9fe9bc2990538", func := "loop.example/graphcluster/laws.FnExactChannelRun", spec := "fnExactChannelRun", apart := false }
def FnExactChannelRunSaid : Prop := fnExactChannelRunRow.holds Try.pinned (OpenSpec.ofChange fnExactChannelRunSpec)

/-- ITS FALSE NEIGHBOUR: 'it returns false'. Refute it at one input. -/
def fnExactChannelRunWrong : ChangeSpec := { name := "fnExactChannelRun", fn := fun _ => fun
  | [d1, d2] => { results := [.lit (.bool false)], args := [d1, d2] }
  | _ => none }
def FnExactChannelRunWrongFalsely : Prop := fnExactChannelRunRow.holds Try.pinned (OpenSpec.ofChange fnExactChannelRunWrong)

/-- 'laws.FnPartOf': WHATEVER THE INPUT: true; the input reads as it did. -/
def fnPartOfSpec : ChangeSpec := { name := "fnPartOf", fn := fun _ => fun
  | [d] => { results := [.lit (.bool true)], args := [d] }
  | _ => none }
def fnPartOfRow : OpenClaim := { program := "ytncminpafiahpaa", sum := "16afbaf06fc2e842fe8008c155dd0e329771ef5d5998d729d7d9fe9bc2990538", func := "loop.example/graphcluster/laws.FnPartOf", spec := "fnPartOf", inPlace := ["slices.overlaps[loop.example/graphcluster/impl.Edge]"], unfollowed := true, recurses := true, apart := false }
def FnPartOfSaid : Prop := fnPartOfRow.holds Try.pinned (OpenSpec.ofChange fnPartOfSpec)

/-- ITS FALSE NEIGHBOUR: 'it returns false'. Refute it at one input. -/
def fnPartOfWrong : ChangeSpec := { name := "fnPartOf", fn := fun _ => fun
  | [d] => { results := [.lit (.bool false)], args := [d] }
  | _ => none }
def FnPartOfWrongFalsely : Prop := fnPartOfRow.holds Try.pinned (OpenSpec.ofChange fnPartOfWrong)

/-- 'laws.FnMatchingOf': WHATEVER THE INPUT: true; the input reads as it did. -/
def fnMatchingOfSpec : ChangeSpec := { name := "fnMatchingOf", fn := fun _ => fun
  | [d] => { results := [.lit (.bool true)], args := [d] }
  | _ => none }
def fnMatchingOfRow : OpenClaim := { program := "ytncminpafiahpaa", sum := "16afbaf06fc2e842fe8008c155dd0e329771ef5d5998d729d7d9fe9bc2990538", func := "loop.example/graphcluster/laws.FnMatchingOf", spec := "fnMatchingOf", unfollowed := true, recurses := true, apart := false }
def FnMatchingOfSaid : Prop := fnMatchingOfRow.holds Try.pinned (OpenSpec.ofChange fnMatchingOfSpec)

/-- ITS FALSE NEIGHBOUR: 'it returns false'. Refute it at one input. -/
def fnMatchingOfWrong : ChangeSpec := { name := "fnMatchingOf", fn := fun _ => fun
  | [d] => { results := [.lit (.bool false)], args := [d] }
  | _ => none }
def FnMatchingOfWrongFalsely : Prop := fnMatchingOfRow.holds Try.pinned (OpenSpec.ofChange fnMatchingOfWrong)

/-- 'laws.FnJoinParts': WHATEVER THE INPUT: true; the input reads as it did. -/
def fnJoinPartsSpec : ChangeSpec := { name := "fnJoinParts", fn := fun _ => fun
  | [d] => { results := [.lit (.bool true)], args := [d] }
  | _ => none }
def fnJoinPartsRow : OpenClaim := { program := "ytncminpafiahpaa", sum := "16afbaf06fc2e842fe8008c155dd0e329771ef5d5998d729d7d9fe9bc2990538", func := "loop.example/graphcluster/laws.FnJoinParts", spec := "fnJoinParts", inPlace := ["slices.overlaps[loop.example/graphcluster/impl.Edge]"], unfollowed := true, recurses := true, apart := false }
def FnJoinPartsSaid : Prop := fnJoinPartsRow.holds Try.pinned (OpenSpec.ofChange fnJoinPartsSpec)

/-- ITS FALSE NEIGHBOUR: 'it returns false'. Refute it at one input. -/
def fnJoinPartsWrong : ChangeSpec := { name := "fnJoinParts", fn := fun _ => fun
  | [d] => { results := [.lit (.bool false)], args := [d] }
  | _ => none }
def FnJoinPartsWrongFalsely : Prop := fnJoinPartsRow.holds Try.pinned (OpenSpec.ofChange fnJoinPartsWrong)

/-- 'laws.FnExactChannelFinish': WHATEVER THE INPUT: true; the input reads as it did. -/
def fnExactChannelFinishSpec : ChangeSpec := { name := "fnExactChannelFinish", fn := fun _ => fun
  | [d] => { results := [.lit (.bool true)], args := [d] }
  | _ => none }
def fnExactChannelFinishRow : OpenClaim := { program := "ytncminpafiahpaa", sum := "16afbaf06fc2e842fe8008c155dd0e329771ef5d5998d729d7d9fe9bc2990538", func := "loop.example/graphcluster/laws.FnExactChannelFinish", spec := "fnExactChannelFinish", apart := false }
def FnExactChannelFinishSaid : Prop := fnExactChannelFinishRow.holds Try.pinned (OpenSpec.ofChange fnExactChannelFinishSpec)

/-- ITS FALSE NEIGHBOUR: 'it returns false'. Refute it at one input. -/
def fnExactChannelFinishWrong : ChangeSpec := { name := "fnExactChannelFinish", fn := fun _ => fun
  | [d] => { results := [.lit (.bool false)], args := [d] }
  | _ => none }
def FnExactChannelFinishWrongFalsely : Prop := fnExactChannelFinishRow.holds Try.pinned (OpenSpec.ofChange fnExactChannelFinishWrong)

/-- 'laws.FnExactJoinParts': WHATEVER THE INPUT: true; the input reads as it did. -/
def fnExactJoinPartsSpec : ChangeSpec := { name := "fnExactJoinParts", fn := fun _ => fun
  | [d] => { results := [.lit (.bool true)], args := [d] }
  | _ => none }
def fnExactJoinPartsRow : OpenClaim := { program := "ytncminpafiahpaa", sum := "16afbaf06fc2e842fe8008c155dd0e329771ef5d5998d729d7d9fe9bc2990538", func := "loop.example/graphcluster/laws.FnExactJoinParts", spec := "fnExactJoinParts", inPlace := ["slices.overlaps[loop.example/graphcluster/impl.Edge]"], unfollowed := true, recurses := true, apart := false }
def FnExactJoinPartsSaid : Prop := fnExactJoinPartsRow.holds Try.pinned (OpenSpec.ofChange fnExactJoinPartsSpec)

/-- ITS FALSE NEIGHBOUR: 'it returns false'. Refute it at one input. -/
def fnExactJoinPartsWrong : ChangeSpec := { name := "fnExactJoinParts", fn := fun _ => fun
  | [d] => { results := [.lit (.bool false)], args := [d] }
  | _ => none }
def FnExactJoinPartsWrongFalsely : Prop := fnExactJoinPartsRow.holds Try.pinned (OpenSpec.ofChange fnExactJoinPartsWrong)

/-- 'laws.FnMatchingFull': WHATEVER THE INPUT: true; the input reads as it did. -/
def fnMatchingFullSpec : ChangeSpec := { name := "fnMatchingFull", fn := fun _ => fun
  | [d] => { results := [.lit (.bool true)], args := [d] }
  | _ => none }
def fnMatchingFullRow : OpenClaim := { program := "ytncminpafiahpaa", sum := "16afbaf06fc2e842fe8008c155dd0e329771ef5d5998d729d7d9fe9bc2990538", func := "loop.example/graphcluster/laws.FnMatchingFull", spec := "fnMatchingFull", unfollowed := true, recurses := true, apart := false }
def FnMatchingFullSaid : Prop := fnMatchingFullRow.holds Try.pinned (OpenSpec.ofChange fnMatchingFullSpec)

/-- ITS FALSE NEIGHBOUR: 'it returns false'. Refute it at one input. -/
def fnMatchingFullWrong : ChangeSpec := { name := "fnMatchingFull", fn := fun _ => fun
  | [d] => { results := [.lit (.bool false)], args := [d] }
  | _ => none }
def FnMatchingFullWrongFalsely : Prop := fnMatchingFullRow.holds Try.pinned (OpenSpec.ofChange fnMatchingFullWrong)

/- THE SECOND FORM. 'bulk': how many values and letters a reading holds, each counted each time it is reached (what is shared counts as often as it is met; a slice's spare places count too). A statement '..UptoSaid' is the law's where the arguments, and the package variables that the reading takes, are together of bulk at most 1048576: NARROWER than '..Said'. Prove '..Said' where nothing that the law and all that it calls make is longer than what came in: it says more and counts as full. Else prove '..UptoSaid'. A law counts once. -/
mutual
def uptoBulk {H : Type} : DataW H → Nat
  | .lit (.string bytes) => bytes.length + 1
  | .lit _ => 1
  | .nil => 1
  | .ptr d => uptoBulk d + 1
  | .slice elems spare => uptoBulkAll elems + uptoBulkAll spare + 1
  | .agg parts => uptoBulkAll parts + 1
  | .iface _ d => uptoBulk d + 1
  | .map entries => uptoBulkEntries entries + 1
  | .held _ => 1
def uptoBulkAll {H : Type} : List (DataW H) → Nat
  | [] => 0
  | d :: r => uptoBulk d + uptoBulkAll r
def uptoBulkEntries {H : Type} : List (Lit × DataW H) → Nat
  | [] => 0
  | x :: r => uptoBulkEntry x + uptoBulkEntries r
def uptoBulkEntry {H : Type} : Lit × DataW H → Nat
  | (.string bytes, d) => bytes.length + uptoBulk d + 1
  | (_, d) => uptoBulk d + 1
 end
def uptoSmall : (H : Type) → List (DataW H) → Bool := fun _ ds => decide (uptoBulkAll ds ≤ 1048576)
def OpenSpec.upto (s : _root_.Go.ChangeSpec) : _root_.Go.OpenSpec := { _root_.Go.OpenSpec.ofChange s with cond := some uptoSmall }

/-- 'laws.FnExactMatchingOf', WHERE WHAT IT READS IS OF BULK AT MOST 1048576: true; the input reads as it did. -/
def fnExactMatchingOfUptoRow : OpenClaim := { program := "ytncminpafiahpaa", sum := "16afbaf06fc2e842fe8008c155dd0e329771ef5d5998d729d7d9fe9bc2990538", func := "loop.example/graphcluster/laws.FnExactMatchingOf", spec := "fnExactMatchingOf", unfollowed := true, recurses := true, apart := false, narrowed := true }
def FnExactMatchingOfUptoSaid : Prop := fnExactMatchingOfUptoRow.holds Try.pinned (OpenSpec.upto fnExactMatchingOfSpec)

/-- 'laws.FnChannelFinish', WHERE WHAT IT READS IS OF BULK AT MOST 1048576: true; the input reads as it did. -/
def fnChannelFinishUptoRow : OpenClaim := { program := "ytncminpafiahpaa", sum := "16afbaf06fc2e842fe8008c155dd0e329771ef5d5998d729d7d9fe9bc2990538", func := "loop.example/graphcluster/laws.FnChannelFinish", spec := "fnChannelFinish", apart := false, narrowed := true }
def FnChannelFinishUptoSaid : Prop := fnChannelFinishUptoRow.holds Try.pinned (OpenSpec.upto fnChannelFinishSpec)

/-- 'laws.FnExactChannelStep', WHERE WHAT IT READS IS OF BULK AT MOST 1048576: true; the input reads as it did. -/
def fnExactChannelStepUptoRow : OpenClaim := { program := "ytncminpafiahpaa", sum := "16afbaf06fc2e842fe8008c155dd0e329771ef5d5998d729d7d9fe9bc2990538", func := "loop.example/graphcluster/laws.FnExactChannelStep", spec := "fnExactChannelStep", apart := false, narrowed := true }
def FnExactChannelStepUptoSaid : Prop := fnExactChannelStepUptoRow.holds Try.pinned (OpenSpec.upto fnExactChannelStepSpec)

/-- 'laws.FnExactChannelQuiet', WHERE WHAT IT READS IS OF BULK AT MOST 1048576: true; the input reads as it did. -/
def fnExactChannelQuietUptoRow : OpenClaim := { program := "ytncminpafiahpaa", sum := "16afbaf06fc2e842fe8008c155dd0e329771ef5d5998d729d7d9fe9bc2990538", func := "loop.example/graphcluster/laws.FnExactChannelQuiet", spec := "fnExactChannelQuiet", apart := false, narrowed := true }
def FnExactChannelQuietUptoSaid : Prop := fnExactChannelQuietUptoRow.holds Try.pinned (OpenSpec.upto fnExactChannelQuietSpec)

/-- 'laws.FnExactChannelRun', WHERE WHAT IT READS IS OF BULK AT MOST 1048576: true; the input reads as it did. -/
def fnExactChannelRunUptoRow : OpenClaim := { program := "ytncminpafiahpaa", sum := "16afbaf06fc2e842fe8008c155dd0e329771ef5d5998d729d7d9fe9bc2990538", func := "loop.example/graphcluster/laws.FnExactChannelRun", spec := "fnExactChannelRun", apart := false, narrowed := true }
def FnExactChannelRunUptoSaid : Prop := fnExactChannelRunUptoRow.holds Try.pinned (OpenSpec.upto fnExactChannelRunSpec)

/-- 'laws.FnPartOf', WHERE WHAT IT READS IS OF BULK AT MOST 1048576: true; the input reads as it did. -/
def fnPartOfUptoRow : OpenClaim := { program := "ytncminpafiahpaa", sum := "16afbaf06fc2e842fe8008c155dd0e329771ef5d5998d729d7d9fe9bc2990538", func := "loop.example/graphcluster/laws.FnPartOf", spec := "fnPartOf", inPlace := ["slices.overlaps[loop.example/graphcluster/impl.Edge]"], unfollowed := true, recurses := true, apart := false, narrowed := true }
def FnPartOfUptoSaid : Prop := fnPartOfUptoRow.holds Try.pinned (OpenSpec.upto fnPartOfSpec)

/-- 'laws.FnMatchingOf', WHERE WHAT IT READS IS OF BULK AT MOST 1048576: true; the input reads as it did. -/
def fnMatchingOfUptoRow : OpenClaim := { program := "ytncminpafiahpaa", sum := "16afbaf06fc2e842fe8008c155dd0e329771ef5d5998d729d7d9fe9bc2990538", func := "loop.example/graphcluster/laws.FnMatchingOf", spec := "fnMatchingOf", unfollowed := true, recurses := true, apart := false, narrowed := true }
def FnMatchingOfUptoSaid : Prop := fnMatchingOfUptoRow.holds Try.pinned (OpenSpec.upto fnMatchingOfSpec)

/-- 'laws.FnJoinParts', WHERE WHAT IT READS IS OF BULK AT MOST 1048576: true; the input reads as it did. -/
def fnJoinPartsUptoRow : OpenClaim := { program := "ytncminpafiahpaa", sum := "16afbaf06fc2e842fe8008c155dd0e329771ef5d5998d729d7d9fe9bc2990538", func := "loop.example/graphcluster/laws.FnJoinParts", spec := "fnJoinParts", inPlace := ["slices.overlaps[loop.example/graphcluster/impl.Edge]"], unfollowed := true, recurses := true, apart := false, narrowed := true }
def FnJoinPartsUptoSaid : Prop := fnJoinPartsUptoRow.holds Try.pinned (OpenSpec.upto fnJoinPartsSpec)

/-- 'laws.FnExactChannelFinish', WHERE WHAT IT READS IS OF BULK AT MOST 1048576: true; the input reads as it did. -/
def fnExactChannelFinishUptoRow : OpenClaim := { program := "ytncminpafiahpaa", sum := "16afbaf06fc2e842fe8008c155dd0e329771ef5d5998d729d7d9fe9bc2990538", func := "loop.example/graphcluster/laws.FnExactChannelFinish", spec := "fnExactChannelFinish", apart := false, narrowed := true }
def FnExactChannelFinishUptoSaid : Prop := fnExactChannelFinishUptoRow.holds Try.pinned (OpenSpec.upto fnExactChannelFinishSpec)

/-- 'laws.FnExactJoinParts', WHERE WHAT IT READS IS OF BULK AT MOST 1048576: true; the input reads as it did. -/
def fnExactJoinPartsUptoRow : OpenClaim := { program := "ytncminpafiahpaa", sum := "16afbaf06fc2e842fe8008c155dd0e329771ef5d5998d729d7d9fe9bc2990538", func := "loop.example/graphcluster/laws.FnExactJoinParts", spec := "fnExactJoinParts", inPlace := ["slices.overlaps[loop.example/graphcluster/impl.Edge]"], unfollowed := true, recurses := true, apart := false, narrowed := true }
def FnExactJoinPartsUptoSaid : Prop := fnExactJoinPartsUptoRow.holds Try.pinned (OpenSpec.upto fnExactJoinPartsSpec)

/-- 'laws.FnMatchingFull', WHERE WHAT IT READS IS OF BULK AT MOST 1048576: true; the input reads as it did. -/
def fnMatchingFullUptoRow : OpenClaim := { program := "ytncminpafiahpaa", sum := "16afbaf06fc2e842fe8008c155dd0e329771ef5d5998d729d7d9fe9bc2990538", func := "loop.example/graphcluster/laws.FnMatchingFull", spec := "fnMatchingFull", unfollowed := true, recurses := true, apart := false, narrowed := true }
def FnMatchingFullUptoSaid : Prop := fnMatchingFullUptoRow.holds Try.pinned (OpenSpec.upto fnMatchingFullSpec)

end Rows
end Go.Proofs.Ytncminpafiahpaa
