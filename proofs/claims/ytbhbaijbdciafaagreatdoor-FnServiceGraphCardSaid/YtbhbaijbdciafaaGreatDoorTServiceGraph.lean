/- The statement FnServiceGraph, a tied card: the law answers true for all arguments; no goroutine is started on the way; the tables that are listed are tied to the text. -/
import Derived.Test.YtbhbaijbdciafaaGreatDoorRows
import Derived.Test.YtbhbaijbdciafaaGreatDoorCards
import Derived.Test.YtbhbaijbdciafaaGreatDoorTie
import Derived.Test.YtbhbaijbdciafaaGreatDoorAvYz
import Derived.Test.YtbhbaijbdciafaaGreatDoorLw3
import Derived.Test.YtbhbaijbdciafaaGreatDoorMm
import Derived.Test.YtbhbaijbdciafaaGreatDoorAvX
namespace Go.Proofs.YtbhbaijbdciafaaGreatDoor
open Go Go.Av Go.ChangeShapes Go.WideShapes Go.ChangeAt Go.RowKit
set_option linter.unusedVariables false
theorem own : ownKnob Tryz.prog.godebug = none := by kernel_rfl
theorem laidOut : laidOutB Tryz.prog = true := by kernel_rfl
def laidL : List (String × DataW Unit) := [("math/bits.deBruijn32tab", Rows.laid_math_bits_deBruijn32tab), ("math/bits.deBruijn64tab", Rows.laid_math_bits_deBruijn64tab), ("internal/strconv.uint64pow10", Rows.laid_internal_strconv_uint64pow10), ("unicode/utf8.acceptRanges", Rows.laid_unicode_utf8_acceptRanges), ("unicode/utf8.first", Rows.laid_unicode_utf8_first)]
set_option maxRecDepth 100000 in
theorem call3 {H : Type} {enc : TypeId × Value → H} (W : World) (base : Nat) (args : Array Value) (ds : List (DataW H)) (ps : List MemPlace) (hS : W.ShapedOpen Tryz.prog) (hval : ∀ (j : Nat) t v, Tryz.f3.params[j]? = some t → args[j]? = some v → Value.okWide Tryz.prog W .any base t v)
 (hA : DataW.TrodAll enc Tryz.prog W 0 (fun _ => true) true Tryz.f3.params.toList args.toList ds ps) (hL : laidMetH Tryz.prog laidL W) : Calls Tryz.prog 3 args W fun e w' => e = .returned (.bool true) ∧ Grow W w' := by
 clear hL
 rw [Tryz.params3] at hA hval
 obtain ⟨v0, vs0, d0, ds0, p0, q0, ha, rfl, rfl, h0, r0⟩ := trodAll_cons hA
 obtain ⟨rfl, rfl, rfl⟩ := trodAll_nil r0
 obtain rfl : args = #[v0] := by cases args; simp_all
 obtain ⟨ys0, o0, hl0, c0⟩ := arg_rows Tryz.underlying22 (by kernel_rfl) (by decide) (cv := fun x : U8 => [cI .u8 x.1]) (fun _ => rfl) (el_u8 Tryz.underlying5) (hval 0 22 v0 rfl rfl) h0
 obtain ⟨tab, hl, g0⟩ := glob_num (ρ := [v0, .bool true]) (o := 1) (g := 0) (t := 3) (zero := #[.int .i64 0]) hS (of_decide_eq_true (by kernel_rfl)) (by kernel_rfl) rfl (by kernel_rfl) (by kernel_rfl) Tryz.underlying3
 letI : T0 := ⟨tab, hl⟩
 exact law_call' (FnA.mono (k_laws_FnServiceGraph (ys0.map Subtype.val) (h := FnServiceGraph_true (u8_bounds ys0))) (fun _ _ h => h.1)) [v0, .bool true] rfl ⟨has_bytes rfl c0, g0, trivial⟩
  (.cons ⟨rfl, o0⟩ .nil)
set_option maxRecDepth 100000 in
theorem lifted3 (os : Os) (started : os.Started) (H : Type) (enc : TypeId × Value → H) :
 ReturnsInHanded {} Tryz.checked os 3 .any (fun w args => (Rows.fnServiceGraphSpec.pre enc Tryz.prog Tryz.f3 [] false w args ∧ laidMetH Tryz.prog laidL w) ∧ sizedMet enc Tryz.prog Tryz.f3 (OpenSpec.ofChange Rows.fnServiceGraphSpec) false w args) (Rows.fnServiceGraphSpec.post enc Tryz.prog Tryz.f3 false true false false) :=
 law_liftedM (C := Tryz.checked) (tb := 4) own started (by kernel_rfl) Tryz.func3
  (ChangeSpec.witness_shaped (enc := enc) (C := Tryz.checked) (os := os) (X := fun w _ => laidMetH Tryz.prog laidL w) false (World.laidAll Tryz.prog os laidL) #[.slice none 0 0] 8 (World.laidAll_os _ _ _) (World.shaped_of_ZipB (by kernel_rfl) (by kernel_rfl)) (by kernel_rfl) (by kernel_rfl) (by kernel_rfl)
   (by rw [MakeChecks.laidMetH_plain _ _ _ (by kernel_rfl)]; exact laidMet_laidAll _ (by kernel_rfl) (by kernel_rfl)))
  laidOut rfl rfl Tryz.underlying4 (by rw [Tryz.params3]; simp only [List.mem_cons, List.not_mem_nil, or_false]; rintro t rfl <;> exact ⟨by kernel_rfl, of_decide_eq_true (by kernel_rfl)⟩)
  (fun ds hl => match ds, hl with | [_], _ => ⟨rfl, rfl, rfl⟩) call3
theorem holds3 : Rows.FnServiceGraphSaid :=
 OpenClaim.holds_of_wide_leaving 3 Tryz.f3 rfl rfl rfl rfl rfl rfl rfl ⟨rfl, rfl, rfl, rfl, rfl⟩ rfl rfl rfl rfl rfl (by kernel_rfl) Tryz.func3 (by kernel_rfl)
  (of_decide_eq_true (by kernel_rfl)) (by unfold Func.isWrapper; first | (rw [if_pos (by decide +kernel)]; kernel_rfl) | (rw [if_neg (by decide +kernel)]; exact ⟨rfl, rfl⟩))
  (fun os started H enc _ => leaving_of_handed (lifted3 os started H enc))
theorem card3 : Rows.FnServiceGraphCardSaid :=
 card_goes .later [.data, .data, .data, .data, .pinned] true (true, "b3e1870858f7e09b655ad2270ebf24888f1715b65b35f286736b57f1a76f131d") false
  holds3 (by kernel_rfl) fnServiceGraph_row_tie rfl ⟨rfl, rfl⟩ (by kernel_rfl) rfl
  (fun f fn hf hfn => by
    obtain rfl : f = 3 := Option.some.inj ((show Tryz.prog.funcNamed "loop.example/graphcluster/laws.FnServiceGraph" = some 3 by kernel_rfl).symm.trans hf) |>.symm
    obtain rfl : fn = Tryz.f3 := (Option.some.inj (Tryz.func3.symm.trans hfn)).symm
    exact ⟨by kernel_rfl, fun j t ht => by
     rw [Tryz.params3] at ht
     have hm : t ∈ [22] := by simpa using Array.mem_of_getElem? ht
     have hall : ([22].all fun u => !Tryz.prog.wantsStandIn u) = true := by kernel_rfl
     exact (show Tryz.prog.wantsStandIn t = false by simpa using List.all_eq_true.1 hall t hm)⟩)
  (by kernel_rfl)
end Go.Proofs.YtbhbaijbdciafaaGreatDoor
