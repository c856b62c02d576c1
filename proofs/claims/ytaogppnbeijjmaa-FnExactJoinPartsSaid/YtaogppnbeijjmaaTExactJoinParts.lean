/- The statement FnExactJoinParts: the law answers true for all arguments. -/
import Derived.Test.YtaogppnbeijjmaaRows
import Derived.Test.YtaogppnbeijjmaaLw2
import Derived.Test.YtaogppnbeijjmaaNi
import Derived.Test.YtaogppnbeijjmaaAvX
namespace Go.Proofs.Ytaogppnbeijjmaa
open Go Go.Av Go.ChangeShapes Go.WideShapes Go.ChangeAt Go.RowKit

theorem own : ownKnob Try.prog.godebug = none := by kernel_rfl
theorem laidOut : laidOutB Try.prog = true := by kernel_rfl

set_option maxRecDepth 100000 in
theorem call5 {H : Type} {enc : TypeId × Value → H} (W : World) (base : Nat) (args : Array Value) (ds : List (DataW H)) (ps : List MemPlace) (hval : ∀ (j : Nat) t v, Try.f5.params[j]? = some t → args[j]? = some v → Value.okWide Try.prog W .any base t v)
    (hA : DataW.TrodAll enc Try.prog W 0 (fun _ => true) true Try.f5.params.toList args.toList ds ps) : Calls Try.prog 5 args W fun e w' => e = .returned (.bool true) ∧ Grow W w' := by
  rw [Try.params5] at hA hval
  obtain ⟨v0, vs0, d0, ds0, p0, q0, ha, rfl, rfl, h0, r0⟩ := trodAll_cons hA
  obtain ⟨rfl, rfl, rfl⟩ := trodAll_nil r0
  obtain rfl : args = #[v0] := by cases args; simp_all
  obtain ⟨gs0, o0, hl0, c0⟩ := arg_rows Try.underlying40 (by kernel_rfl) (by decide) (esz := 2) (cv := fun g : GEl => [cI .i64 g.1.1, CV.sl 3 (g.1.2.map fun p => [cI .i64 p.1, cI .i64 p.2.1, cI .i64 p.2.2])]) (fun _ => rfl) (el_graph Try.underlying66 rfl rfl rfl rfl Try.underlying3 (by kernel_rfl) Try.underlying64 (by kernel_rfl) (by kernel_rfl) Try.underlying85 rfl rfl rfl rfl rfl rfl) (hval 0 40 v0 rfl rfl) h0
  exact law_call' (FnA.mono (k_laws_FnExactJoinParts (gs0.map Subtype.val) (h := FnExactJoinParts_true (by have hq : gs0.length ≤ 9223372036854775807 := (by simpa [maxLen] using hl0); rw [List.length_map]; exact hq) (fun g hg => by obtain ⟨x, _, rfl⟩ := List.mem_map.1 hg; exact ⟨x.2.1, by simpa [maxLen] using x.2.2⟩))) (fun _ _ h => h.1)) [v0] rfl ⟨has_graphs rfl c0, trivial⟩
    (.cons ⟨rfl, o0⟩ .nil)

set_option maxRecDepth 100000 in
theorem lifted5 (os : Os) (started : os.Started) (H : Type) (enc : TypeId × Value → H) :
    ReturnsInHanded {} Try.checked os 5 .any (Rows.fnExactJoinPartsSpec.pre6 enc Try.prog Try.f5 Rows.fnExactJoinPartsRow.domain false) (Rows.fnExactJoinPartsSpec.post enc Try.prog Try.f5 false true false false) :=
  law_lifted (C := Try.checked) (tb := 4) own started (by kernel_rfl) Try.func5
    (ChangeSpec.witness6 (enc := enc) (C := Try.checked) false ⟨#[], #[.slice none 0 0], []⟩ 8 (by kernel_rfl) (by kernel_rfl) (by kernel_rfl) (by kernel_rfl))
    laidOut rfl rfl Try.underlying4 (by rw [Try.params5]; simp only [List.mem_cons, List.not_mem_nil, or_false]; rintro t rfl <;> exact ⟨by kernel_rfl, of_decide_eq_true (by kernel_rfl)⟩)
    (fun ds hl => match ds, hl with | [_], _ => ⟨rfl, rfl, rfl⟩) call5

theorem holds5 : Rows.FnExactJoinPartsSaid :=
  OpenClaim.holds_of_wide 5 Try.f5 rfl rfl rfl rfl rfl rfl rfl ⟨rfl, rfl, rfl, rfl, rfl⟩ rfl rfl rfl rfl rfl (by kernel_rfl) Try.func5 (by kernel_rfl)
    (of_decide_eq_true (by kernel_rfl)) (by unfold Func.isWrapper; first | (rw [if_pos (by decide +kernel)]; kernel_rfl) | (rw [if_neg (by decide +kernel)]; exact ⟨rfl, rfl⟩))
    (fun os started H enc _ => lifted5 os started H enc)
end Go.Proofs.Ytaogppnbeijjmaa
