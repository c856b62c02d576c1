/- The statement FnCombineState: the law answers true for all arguments. -/
import Derived.Test.YtoohhgembcdhpaaGreatRows
import Derived.Test.YtoohhgembcdhpaaGreatLw3
import Derived.Test.YtoohhgembcdhpaaGreatMm
import Derived.Test.YtoohhgembcdhpaaGreatAvX
import Derived.Test.YtoohhgembcdhpaaGreatAvYo
namespace Go.Proofs.YtoohhgembcdhpaaGreat
open Go Go.Av Go.ChangeShapes Go.WideShapes Go.ChangeAt Go.RowKit
set_option linter.unusedVariables false
theorem own : ownKnob Tryz.prog.godebug = none := by kernel_rfl
theorem laidOut : laidOutB Tryz.prog = true := by kernel_rfl
set_option maxRecDepth 100000 in
theorem call4 {H : Type} {enc : TypeId × Value → H} (W : World) (base : Nat) (args : Array Value) (ds : List (DataW H)) (ps : List MemPlace) (hS : W.ShapedOpen Tryz.prog) (hval : ∀ (j : Nat) t v, Tryz.f4.params[j]? = some t → args[j]? = some v → Value.okWide Tryz.prog W .any base t v)
 (hA : DataW.TrodAll enc Tryz.prog W 0 (fun _ => true) true Tryz.f4.params.toList args.toList ds ps) : Calls Tryz.prog 4 args W fun e w' => e = .returned (.bool true) ∧ Grow W w' := by
 rw [Tryz.params4] at hA hval
 obtain ⟨v0, vs0, d0, ds0, p0, q0, ha, rfl, rfl, h0, r0⟩ := trodAll_cons hA
 obtain ⟨rfl, rfl, rfl⟩ := trodAll_nil r0
 obtain rfl : args = #[v0] := by cases args; simp_all
 obtain ⟨ys0, o0, hl0, c0⟩ := arg_rows Tryz.underlying22 (by kernel_rfl) (by decide) (cv := fun x : U8 => [cI .u8 x.1]) (fun _ => rfl) (el_u8 Tryz.underlying5) (hval 0 22 v0 rfl rfl) h0
 obtain ⟨tab, hl, hb, g0⟩ := glob_open (ρ := [v0, .bool true]) (o := 1) (g := 0) (t := 195) (e := 5) (n := 32) (zero := #[.int .u8 0, .int .u8 0, .int .u8 0, .int .u8 0, .int .u8 0, .int .u8 0, .int .u8 0, .int .u8 0, .int .u8 0, .int .u8 0, .int .u8 0, .int .u8 0, .int .u8 0, .int .u8 0, .int .u8 0, .int .u8 0, .int .u8 0, .int .u8 0, .int .u8 0, .int .u8 0, .int .u8 0, .int .u8 0, .int .u8 0, .int .u8 0, .int .u8 0, .int .u8 0, .int .u8 0, .int .u8 0, .int .u8 0, .int .u8 0, .int .u8 0, .int .u8 0]) hS (of_decide_eq_true (by kernel_rfl)) (by kernel_rfl) rfl (by kernel_rfl) (by kernel_rfl) (by decide) Tryz.underlying5
 letI : T0 := ⟨tab, hl, hb⟩
 exact law_call' (FnA.mono (k_laws_FnCombineState (ys0.map Subtype.val) (h := FnCombineState_true (u8_bounds ys0))) (fun _ _ h => h.1)) [v0, .bool true] rfl ⟨has_bytes rfl c0, g0, trivial⟩
  (.cons ⟨rfl, o0⟩ .nil)
set_option maxRecDepth 100000 in
theorem lifted4 (os : Os) (started : os.Started) (H : Type) (enc : TypeId × Value → H) :
 ReturnsInHanded {} Tryz.checked os 4 .any (Rows.fnCombineStateSpec.pre6 enc Tryz.prog Tryz.f4 Rows.fnCombineStateRow.domain false) (Rows.fnCombineStateSpec.post enc Tryz.prog Tryz.f4 false true false false) :=
 law_liftedS (C := Tryz.checked) (tb := 4) own started (by kernel_rfl) Tryz.func4
  (ChangeSpec.witness6 (enc := enc) (C := Tryz.checked) false ⟨#[], #[.slice none 0 0], []⟩ 8 (by kernel_rfl) (by kernel_rfl) (by kernel_rfl) (by kernel_rfl))
  laidOut rfl rfl Tryz.underlying4 (by rw [Tryz.params4]; simp only [List.mem_cons, List.not_mem_nil, or_false]; rintro t rfl <;> exact ⟨by kernel_rfl, of_decide_eq_true (by kernel_rfl)⟩)
  (fun ds hl => match ds, hl with | [_], _ => ⟨rfl, rfl, rfl⟩) call4
theorem holds4 : Rows.FnCombineStateSaid :=
 OpenClaim.holds_of_wide 4 Tryz.f4 rfl rfl rfl rfl rfl rfl rfl ⟨rfl, rfl, rfl, rfl, rfl⟩ rfl rfl rfl rfl rfl (by kernel_rfl) Tryz.func4 (by kernel_rfl)
  (of_decide_eq_true (by kernel_rfl)) (by unfold Func.isWrapper; first | (rw [if_pos (by decide +kernel)]; kernel_rfl) | (rw [if_neg (by decide +kernel)]; exact ⟨rfl, rfl⟩))
  (fun os started H enc _ => lifted4 os started H enc)
end Go.Proofs.YtoohhgembcdhpaaGreat
