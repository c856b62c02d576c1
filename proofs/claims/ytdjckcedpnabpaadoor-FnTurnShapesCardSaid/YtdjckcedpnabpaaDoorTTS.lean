/- The statement FnTurnShapes, a tied card: the law answers true for all arguments; the table that is listed is tied to the text. -/
import Derived.Test.YtdjckcedpnabpaaDoorRows
import Derived.Test.YtdjckcedpnabpaaDoorCards
import Derived.Test.YtdjckcedpnabpaaDoorTie
import Derived.SevenTiedAt
import Derived.Test.YtdjckcedpnabpaaDoorAvY
import Derived.Test.YtdjckcedpnabpaaDoorLw3
import Derived.Test.YtdjckcedpnabpaaDoorNg
import Derived.Test.YtdjckcedpnabpaaDoorAvX
namespace Go.Proofs.YtdjckcedpnabpaaDoor
open Go Go.Av Go.ChangeShapes Go.WideShapes Go.ChangeAt Go.RowKit

theorem own : ownKnob Tryd.prog.godebug = none := by kernel_rfl
theorem laidOut : laidOutB Tryd.prog = true := by kernel_rfl

def laidL : List (String × DataW Unit) := [("math/bits.deBruijn32tab", Rows.laid_math_bits_deBruijn32tab)]
set_option maxRecDepth 100000 in
theorem call8 {H : Type} {enc : TypeId × Value → H} (W : World) (base : Nat) (args : Array Value) (ds : List (DataW H)) (ps : List MemPlace) (hval : ∀ (j : Nat) t v, Tryd.f8.params[j]? = some t → args[j]? = some v → Value.okWide Tryd.prog W .any base t v)
    (hA : DataW.TrodAll enc Tryd.prog W 0 (fun _ => true) true Tryd.f8.params.toList args.toList ds ps) (hL : laidMetH Tryd.prog laidL W) : Calls Tryd.prog 8 args W fun e w' => e = .returned (.bool true) ∧ Grow W w' := by
  rw [MakeChecks.laidMetH_plain _ _ _ (by kernel_rfl)] at hL
  obtain ⟨ps0, hL0, _, _⟩ := hL
  have g0 : DataW.LaidVars Tryd.prog W [("math/bits.deBruijn32tab", .agg (tab0.map fun x => .lit (.int .u8 x)))] ps0 := hL0
  rw [Tryd.params8] at hA hval
  obtain ⟨v0, vs0, d0, ds0, p0, q0, ha, rfl, rfl, h0, r0⟩ := trodAll_cons hA
  obtain ⟨rfl, rfl, rfl⟩ := trodAll_nil r0
  obtain rfl : args = #[v0] := by cases args; simp_all
  obtain ⟨ys0, o0, hl0, c0⟩ := arg_rows Tryd.underlying22 (by kernel_rfl) (by decide) (cv := fun x : U8 => [cI .u8 x.1]) (fun _ => rfl) (el_u8 Tryd.underlying5) (hval 0 22 v0 rfl rfl) h0
  exact law_call' (FnA.mono (k_laws_FnTurnShapes (ys0.map Subtype.val) (h := FnTurnShapes_true (u8_bounds ys0))) (fun _ _ h => h.1)) [v0, .bool true] rfl ⟨has_bytes rfl c0, glob_ints g0 (t := 95) (e := 5) (n := 32) (by kernel_rfl) (by kernel_rfl) Tryd.underlying95 Tryd.underlying5 (by kernel_rfl) (by decide), trivial⟩
    (.cons ⟨rfl, o0⟩ .nil)

theorem door_met (os : Os) (args : Array Value) : laidMetH Tryd.prog laidL ((World.doorLaid Tryd.prog 400 os).forCall (fun _ _ => 0) ⟨#[], args, []⟩).memory :=
  laidMetH_of_parts3 (fuel := 8) (laidMet_of_run' 8 (by kernel_rfl) (by kernel_rfl)) (by kernel_rfl) (by kernel_rfl)

set_option maxRecDepth 100000 in
theorem lifted8 (os : Os) (started : os.Started) (H : Type) (enc : TypeId × Value → H) :
    ReturnsInHanded {} Tryd.checked os 8 .any (fun w args => (Rows.fnTurnShapesSpec.pre enc Tryd.prog Tryd.f8 [] false w args ∧ laidMetH Tryd.prog laidL w) ∧ sizedMet enc Tryd.prog Tryd.f8 (OpenSpec.ofChange Rows.fnTurnShapesSpec) false w args) (Rows.fnTurnShapesSpec.post enc Tryd.prog Tryd.f8 false true false false) :=
  law_liftedL (C := Tryd.checked) (tb := 4) own started (by kernel_rfl) Tryd.func8
    (ChangeSpec.witness_shaped (enc := enc) (C := Tryd.checked) (os := os) (X := fun w _ => laidMetH Tryd.prog laidL w) false (World.doorLaid Tryd.prog 400 os) #[.slice none 0 0] 8 rfl (World.shaped_of_RefB (by kernel_rfl) (by kernel_rfl)) (by kernel_rfl) (by kernel_rfl) (by kernel_rfl) (door_met os _))
    laidOut rfl rfl Tryd.underlying4 (by rw [Tryd.params8]; simp only [List.mem_cons, List.not_mem_nil, or_false]; rintro t rfl <;> exact ⟨by kernel_rfl, of_decide_eq_true (by kernel_rfl)⟩)
    (fun ds hl => match ds, hl with | [_], _ => ⟨rfl, rfl, rfl⟩) call8

theorem holds8 : Rows.FnTurnShapesSaid :=
  OpenClaim.holds_of_wide 8 Tryd.f8 rfl rfl rfl rfl rfl rfl rfl ⟨rfl, rfl, rfl, rfl, rfl⟩ rfl rfl rfl rfl rfl (by kernel_rfl) Tryd.func8 (by kernel_rfl)
    (of_decide_eq_true (by kernel_rfl)) (by unfold Func.isWrapper; first | (rw [if_pos (by decide +kernel)]; kernel_rfl) | (rw [if_neg (by decide +kernel)]; exact ⟨rfl, rfl⟩))
    (fun os started H enc _ => lifted8 os started H enc)

theorem card8 : Rows.FnTurnShapesCardSaid :=
  Claim7.holds_tied_plain_at .later [] [.data] true (true, "213a60d40816359bf3892e8c08606a295c74e13e8e65dbd396d35ac88d9ae97c") false
    holds8 (fun _ h => by cases h) (by kernel_rfl) (fun _ h => by cases h) fnTurnShapes_row_tie rfl ⟨rfl, rfl⟩ (by kernel_rfl) rfl
    (fun f fn hf hfn => by
      obtain rfl : f = 8 := Option.some.inj ((show Tryd.prog.funcNamed "loop.example/graphcluster/laws.FnTurnShapes" = some 8 by kernel_rfl).symm.trans hf) |>.symm
      obtain rfl : fn = Tryd.f8 := (Option.some.inj (Tryd.func8.symm.trans hfn)).symm
      exact ⟨by kernel_rfl, fun j t ht => by
        rw [Tryd.params8] at ht
        have hm : t ∈ [22] := by simpa using Array.mem_of_getElem? ht
        have hall : ([22].all fun u => !Tryd.prog.wantsStandIn u) = true := by kernel_rfl
        exact (show Tryd.prog.wantsStandIn t = false by simpa using List.all_eq_true.1 hall t hm)⟩)
    (by kernel_rfl)
end Go.Proofs.YtdjckcedpnabpaaDoor
