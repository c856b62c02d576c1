/- The statement FnExactTurnGraph: the law answers true for all arguments. -/
import Derived.Test.YtdjckcedpnabpaaRows
import Derived.Test.YtdjckcedpnabpaaLw2
import Derived.Test.YtdjckcedpnabpaaNa
namespace Go.Proofs.Ytdjckcedpnabpaa
open Go Go.Av Go.ChangeShapes Go.WideShapes Go.ChangeAt Go.RowKit

theorem own : ownKnob Try.prog.godebug = none := by kernel_rfl
theorem laidOut : laidOutB Try.prog = true := by kernel_rfl

set_option maxRecDepth 100000 in
theorem call4 {H : Type} {enc : TypeId × Value → H} (W : World) (base : Nat) (args : Array Value) (ds : List (DataW H)) (ps : List MemPlace) (hval : ∀ (j : Nat) t v, Try.f4.params[j]? = some t → args[j]? = some v → Value.okWide Try.prog W .any base t v)
    (hA : DataW.TrodAll enc Try.prog W 0 (fun _ => true) true Try.f4.params.toList args.toList ds ps) : Calls Try.prog 4 args W fun e w' => e = .returned (.bool true) ∧ Grow W w' := by
  rw [Try.params4] at hA hval
  obtain ⟨v0, vs0, d0, ds0, p0, q0, ha, rfl, rfl, h0, r0⟩ := trodAll_cons hA
  obtain ⟨rfl, rfl, rfl⟩ := trodAll_nil r0
  obtain rfl : args = #[v0] := by cases args; simp_all
  obtain ⟨n0, u0, es0, rfl, hn0, ou0, hl0, cu0⟩ := arg_graph Try.underlying37 rfl rfl rfl rfl Try.underlying3 (by kernel_rfl) (by kernel_rfl) Try.underlying35 (by kernel_rfl) (by kernel_rfl) Try.underlying84 rfl rfl rfl rfl rfl rfl (hval 0 37 v0 rfl rfl) h0
  exact law_call' (FnA.mono (k_laws_FnExactTurnGraph n0 es0 (h := FnExactTurnGraph_true hn0 (by simpa [maxLen] using hl0))) (fun _ _ h => h.1)) [u0] rfl ⟨has_row (c := .trips es0) rfl cu0, trivial⟩
    (.cons ⟨[.int .i64 n0, u0], rfl, rfl, fun j x y hx hy => by
      match j, hx, hy with
      | 0, hx, hy => simp at hx hy; subst hx hy; exact ⟨rfl, rfl⟩
      | 1, hx, hy => simp at hx hy; subst hx hy; exact ⟨rfl, ou0⟩
      | _ + 2, hx, hy => simp at hx⟩ .nil)

set_option maxRecDepth 100000 in
theorem lifted4 (os : Os) (started : os.Started) (H : Type) (enc : TypeId × Value → H) :
    ReturnsInHanded {} Try.checked os 4 .any (Rows.fnExactTurnGraphSpec.pre6 enc Try.prog Try.f4 Rows.fnExactTurnGraphRow.domain false) (Rows.fnExactTurnGraphSpec.post enc Try.prog Try.f4 false true false false) :=
  law_lifted (C := Try.checked) (tb := 4) own started (by kernel_rfl) Try.func4
    (ChangeSpec.witness6 (enc := enc) (C := Try.checked) false ⟨#[], #[.agg #[.int .i64 0, .slice none 0 0]], []⟩ 8 (by kernel_rfl) (by kernel_rfl) (by kernel_rfl) (by kernel_rfl))
    laidOut rfl rfl Try.underlying4 (by rw [Try.params4]; simp only [List.mem_cons, List.not_mem_nil, or_false]; rintro t rfl <;> exact ⟨by kernel_rfl, of_decide_eq_true (by kernel_rfl)⟩)
    (fun ds hl => match ds, hl with | [_], _ => ⟨rfl, rfl, rfl⟩) call4

theorem holds4 : Rows.FnExactTurnGraphSaid :=
  OpenClaim.holds_of_wide 4 Try.f4 rfl rfl rfl rfl rfl rfl rfl ⟨rfl, rfl, rfl, rfl, rfl⟩ rfl rfl rfl rfl rfl (by kernel_rfl) Try.func4 (by kernel_rfl)
    (of_decide_eq_true (by kernel_rfl)) (by unfold Func.isWrapper; first | (rw [if_pos (by decide +kernel)]; kernel_rfl) | (rw [if_neg (by decide +kernel)]; exact ⟨rfl, rfl⟩))
    (fun os started H enc _ => lifted4 os started H enc)
end Go.Proofs.Ytdjckcedpnabpaa
