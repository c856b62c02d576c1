/- The statement FnFreshDisk: the law answers true for all arguments. -/
import Derived.Test.YteoedigfnfjopaaGreatRows
import Derived.Test.YteoedigfnfjopaaGreatLw3
import Derived.Test.YteoedigfnfjopaaGreatMm
import Derived.Test.YteoedigfnfjopaaGreatAvX
namespace Go.Proofs.YteoedigfnfjopaaGreat
open Go Go.Av Go.ChangeShapes Go.WideShapes Go.ChangeAt Go.RowKit
set_option linter.unusedVariables false
theorem own : ownKnob Tryz.prog.godebug = none := by kernel_rfl
theorem laidOut : laidOutB Tryz.prog = true := by kernel_rfl
set_option maxRecDepth 100000 in
theorem call3 {H : Type} {enc : TypeId × Value → H} (W : World) (base : Nat) (args : Array Value) (ds : List (DataW H)) (ps : List MemPlace) (hval : ∀ (j : Nat) t v, Tryz.f3.params[j]? = some t → args[j]? = some v → Value.okWide Tryz.prog W .any base t v)
 (hA : DataW.TrodAll enc Tryz.prog W 0 (fun _ => true) true Tryz.f3.params.toList args.toList ds ps) : Calls Tryz.prog 3 args W fun e w' => e = .returned (.bool true) ∧ Grow W w' := by
 rw [Tryz.params3] at hA hval
 obtain ⟨v0, vs0, d0, ds0, p0, q0, ha, rfl, rfl, h0, r0⟩ := trodAll_cons hA
 obtain ⟨rfl, rfl, rfl⟩ := trodAll_nil r0
 obtain rfl : args = #[v0] := by cases args; simp_all
 obtain ⟨ys0, o0, hl0, c0⟩ := arg_rows Tryz.underlying22 (by kernel_rfl) (by decide) (cv := fun x : U8 => [cI .u8 x.1]) (fun _ => rfl) (el_u8 Tryz.underlying5) (hval 0 22 v0 rfl rfl) h0
 exact law_call' (FnA.mono (k_laws_FnFreshDisk (h := FnFreshDisk_true (u8_bounds ys0))) (fun _ _ h => h.1)) [v0] rfl ⟨has_bytes rfl c0, trivial⟩
  (.cons ⟨rfl, o0⟩ .nil)
set_option maxRecDepth 100000 in
theorem lifted3 (os : Os) (started : os.Started) (H : Type) (enc : TypeId × Value → H) :
 ReturnsInHanded {} Tryz.checked os 3 .any (Rows.fnFreshDiskSpec.pre6 enc Tryz.prog Tryz.f3 Rows.fnFreshDiskRow.domain false) (Rows.fnFreshDiskSpec.post enc Tryz.prog Tryz.f3 false true false false) :=
 law_lifted (C := Tryz.checked) (tb := 4) own started (by kernel_rfl) Tryz.func3
  (ChangeSpec.witness6 (enc := enc) (C := Tryz.checked) false ⟨#[], #[.slice none 0 0], []⟩ 8 (by kernel_rfl) (by kernel_rfl) (by kernel_rfl) (by kernel_rfl))
  laidOut rfl rfl Tryz.underlying4 (by rw [Tryz.params3]; simp only [List.mem_cons, List.not_mem_nil, or_false]; rintro t rfl <;> exact ⟨by kernel_rfl, of_decide_eq_true (by kernel_rfl)⟩)
  (fun ds hl => match ds, hl with | [_], _ => ⟨rfl, rfl, rfl⟩) call3
theorem holds3 : Rows.FnFreshDiskSaid :=
 OpenClaim.holds_of_wide 3 Tryz.f3 rfl rfl rfl rfl rfl rfl rfl ⟨rfl, rfl, rfl, rfl, rfl⟩ rfl rfl rfl rfl rfl (by kernel_rfl) Tryz.func3 (by kernel_rfl)
  (of_decide_eq_true (by kernel_rfl)) (by unfold Func.isWrapper; first | (rw [if_pos (by decide +kernel)]; kernel_rfl) | (rw [if_neg (by decide +kernel)]; exact ⟨rfl, rfl⟩))
  (fun os started H enc _ => lifted3 os started H enc)
end Go.Proofs.YteoedigfnfjopaaGreat
