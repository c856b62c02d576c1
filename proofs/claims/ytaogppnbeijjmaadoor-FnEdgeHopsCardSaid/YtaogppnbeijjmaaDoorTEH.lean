/- The statement FnEdgeHops, a tied card: the law answers true for all arguments; the table that is listed is tied to the text. -/
import Derived.Test.YtaogppnbeijjmaaDoorRows
import Derived.Test.YtaogppnbeijjmaaDoorCards
import Derived.Test.YtaogppnbeijjmaaDoorTie
import Derived.SevenTiedAt
import Derived.Test.YtaogppnbeijjmaaDoorAvY
import Derived.Test.YtaogppnbeijjmaaDoorLw2
import Derived.Test.YtaogppnbeijjmaaDoorNh
import Derived.Test.YtaogppnbeijjmaaDoorAvX
namespace Go.Proofs.YtaogppnbeijjmaaDoor
open Go Go.Av Go.ChangeShapes Go.WideShapes Go.ChangeAt Go.RowKit

theorem own : ownKnob Tryd.prog.godebug = none := by kernel_rfl
theorem laidOut : laidOutB Tryd.prog = true := by kernel_rfl

def laidL : List (String × DataW Unit) := [("math/bits.deBruijn32tab", Rows.laid_math_bits_deBruijn32tab)]
set_option maxRecDepth 100000 in
theorem call3 {H : Type} {enc : TypeId × Value → H} (W : World) (base : Nat) (args : Array Value) (ds : List (DataW H)) (ps : List MemPlace) (hval : ∀ (j : Nat) t v, Tryd.f3.params[j]? = some t → args[j]? = some v → Value.okWide Tryd.prog W .any base t v)
    (hA : DataW.TrodAll enc Tryd.prog W 0 (fun _ => true) true Tryd.f3.params.toList args.toList ds ps) (hL : laidMetH Tryd.prog laidL W) : Calls Tryd.prog 3 args W fun e w' => e = .returned (.bool true) ∧ Grow W w' := by
  rw [MakeChecks.laidMetH_plain _ _ _ (by kernel_rfl)] at hL
  obtain ⟨ps0, hL0, _, _⟩ := hL
  have g0 : DataW.LaidVars Tryd.prog W [("math/bits.deBruijn32tab", .agg (tab0.map fun x => .lit (.int .u8 x)))] ps0 := hL0
  rw [Tryd.params3] at hA hval
  obtain ⟨v0, vs0, d0, ds0, p0, q0, ha, rfl, rfl, h0, r0⟩ := trodAll_cons hA
  obtain ⟨rfl, rfl, rfl⟩ := trodAll_nil r0
  obtain rfl : args = #[v0] := by cases args; simp_all
  obtain ⟨ys0, o0, hl0, c0⟩ := arg_rows Tryd.underlying22 (by kernel_rfl) (by decide) (cv := fun x : U8 => [cI .u8 x.1]) (fun _ => rfl) (el_u8 Tryd.underlying5) (hval 0 22 v0 rfl rfl) h0
  exact law_call' (FnA.mono (k_laws_FnEdgeHops (ys0.map Subtype.val) (h := FnEdgeHops_true (u8_bounds ys0))) (fun _ _ h => h.1)) [v0, .bool true] rfl ⟨has_bytes rfl c0, glob_ints g0 (t := 73) (e := 5) (n := 32) (by kernel_rfl) (by kernel_rfl) Tryd.underlying73 Tryd.underlying5 (by kernel_rfl) (by decide), trivial⟩
    (.cons ⟨rfl, o0⟩ .nil)

theorem door_met (os : Os) (args : Array Value) : laidMetH Tryd.prog laidL ((World.doorLaid Tryd.prog 400 os).forCall (fun _ _ => 0) ⟨#[], args, []⟩).memory :=
  laidMetH_of_parts3 (fuel := 8) (laidMet_of_run' 8 (by kernel_rfl) (by kernel_rfl)) (by kernel_rfl) (by kernel_rfl)

set_option maxRecDepth 100000 in
theorem lifted3 (os : Os) (started : os.Started) (H : Type) (enc : TypeId × Value → H) :
    ReturnsInHanded {} Tryd.checked os 3 .any (fun w args => (Rows.fnEdgeHopsSpec.pre enc Tryd.prog Tryd.f3 [] false w args ∧ laidMetH Tryd.prog laidL w) ∧ sizedMet enc Tryd.prog Tryd.f3 (OpenSpec.ofChange Rows.fnEdgeHopsSpec) false w args) (Rows.fnEdgeHopsSpec.post enc Tryd.prog Tryd.f3 false true false false) :=
  law_liftedL (C := Tryd.checked) (tb := 4) own started (by kernel_rfl) Tryd.func3
    (ChangeSpec.witness_shaped (enc := enc) (C := Tryd.checked) (os := os) (X := fun w _ => laidMetH Tryd.prog laidL w) false (World.doorLaid Tryd.prog 400 os) #[.slice none 0 0] 8 rfl (World.shaped_of_RefB (by kernel_rfl) (by kernel_rfl)) (by kernel_rfl) (by kernel_rfl) (by kernel_rfl) (door_met os _))
    laidOut rfl rfl Tryd.underlying4 (by rw [Tryd.params3]; simp only [List.mem_cons, List.not_mem_nil, or_false]; rintro t rfl <;> exact ⟨by kernel_rfl, of_decide_eq_true (by kernel_rfl)⟩)
    (fun ds hl => match ds, hl with | [_], _ => ⟨rfl, rfl, rfl⟩) call3

theorem holds3 : Rows.FnEdgeHopsSaid :=
  OpenClaim.holds_of_wide 3 Tryd.f3 rfl rfl rfl rfl rfl rfl rfl ⟨rfl, rfl, rfl, rfl, rfl⟩ rfl rfl rfl rfl rfl (by kernel_rfl) Tryd.func3 (by kernel_rfl)
    (of_decide_eq_true (by kernel_rfl)) (by unfold Func.isWrapper; first | (rw [if_pos (by decide +kernel)]; kernel_rfl) | (rw [if_neg (by decide +kernel)]; exact ⟨rfl, rfl⟩))
    (fun os started H enc _ => lifted3 os started H enc)

theorem card3 : Rows.FnEdgeHopsCardSaid :=
  Claim7.holds_tied_plain_at .later [] [.data] true (true, "c87875a20338dc4b6830beaf829e4b2f5b411311a2b7be221fa1d8b3a245ff4f") false
    holds3 (fun _ h => by cases h) (by kernel_rfl) (fun _ h => by cases h) fnEdgeHops_row_tie rfl ⟨rfl, rfl⟩ (by kernel_rfl) rfl
    (fun f fn hf hfn => by
      obtain rfl : f = 3 := Option.some.inj ((show Tryd.prog.funcNamed "loop.example/graphcluster/laws.FnEdgeHops" = some 3 by kernel_rfl).symm.trans hf) |>.symm
      obtain rfl : fn = Tryd.f3 := (Option.some.inj (Tryd.func3.symm.trans hfn)).symm
      exact ⟨by kernel_rfl, fun j t ht => by
        rw [Tryd.params3] at ht
        have hm : t ∈ [22] := by simpa using Array.mem_of_getElem? ht
        have hall : ([22].all fun u => !Tryd.prog.wantsStandIn u) = true := by kernel_rfl
        exact (show Tryd.prog.wantsStandIn t = false by simpa using List.all_eq_true.1 hall t hm)⟩)
    (by kernel_rfl)
end Go.Proofs.YtaogppnbeijjmaaDoor
