/- The statement FnExactMatchingOf: the law answers true for all arguments. -/
import Derived.Test.YtncminpafiahpaaRows
import Derived.Test.YtncminpafiahpaaLw2
import Derived.Test.YtncminpafiahpaaMz
import Derived.Test.YtncminpafiahpaaAvX
namespace Go.Proofs.Ytncminpafiahpaa
open Go Go.Av Go.ChangeShapes Go.WideShapes Go.ChangeAt Go.RowKit

theorem own : ownKnob Try.prog.godebug = none := by kernel_rfl
theorem laidOut : laidOutB Try.prog = true := by kernel_rfl

set_option maxRecDepth 100000 in
theorem call3 {H : Type} {enc : TypeId × Value → H} (W : World) (base : Nat) (args : Array Value) (ds : List (DataW H)) (ps : List MemPlace) (hval : ∀ (j : Nat) t v, Try.f3.params[j]? = some t → args[j]? = some v → Value.okWide Try.prog W .any base t v)
    (hA : DataW.TrodAll enc Try.prog W 0 (fun _ => true) true Try.f3.params.toList args.toList ds ps) : Calls Try.prog 3 args W fun e w' => e = .returned (.bool true) ∧ Grow W w' := by
  rw [Try.params3] at hA hval
  obtain ⟨v0, vs0, d0, ds0, p0, q0, ha, rfl, rfl, h0, r0⟩ := trodAll_cons hA
  obtain ⟨rfl, rfl, rfl⟩ := trodAll_nil r0
  obtain rfl : args = #[v0] := by cases args; simp_all
  obtain ⟨n0, u0, es0, rfl, hn0, ou0, hl0, cu0⟩ := arg_graph Try.underlying24 rfl rfl rfl rfl Try.underlying3 (by kernel_rfl) (by kernel_rfl) Try.underlying22 (by kernel_rfl) (by kernel_rfl) Try.underlying119 rfl rfl rfl rfl rfl rfl (hval 0 24 v0 rfl rfl) h0
  exact law_call' (FnA.mono (k_laws_FnExactMatchingOf n0 es0 (h := FnExactMatchingOf_true hn0 (by simpa [maxLen] using hl0))) (fun _ _ h => h.1)) [u0] rfl ⟨has_row (c := .trips es0) rfl cu0, trivial⟩
    (.cons ⟨[.int .i64 n0, u0], rfl, rfl, fun j x y hx hy => by
      match j, hx, hy with
      | 0, hx, hy => simp at hx hy; subst hx hy; exact ⟨rfl, rfl⟩
      | 1, hx, hy => simp at hx hy; subst hx hy; exact ⟨rfl, ou0⟩
      | _ + 2, hx, hy => simp at hx⟩ .nil)

set_option maxRecDepth 100000 in
theorem lifted3 (os : Os) (started : os.Started) (H : Type) (enc : TypeId × Value → H) :
    ReturnsInHanded {} Try.checked os 3 .any (Rows.fnExactMatchingOfSpec.pre6 enc Try.prog Try.f3 Rows.fnExactMatchingOfRow.domain false) (Rows.fnExactMatchingOfSpec.post enc Try.prog Try.f3 false true false false) :=
  law_lifted (C := Try.checked) (tb := 4) own started (by kernel_rfl) Try.func3
    (ChangeSpec.witness6 (enc := enc) (C := Try.checked) false ⟨#[], #[.agg #[.int .i64 0, .slice none 0 0]], []⟩ 8 (by kernel_rfl) (by kernel_rfl) (by kernel_rfl) (by kernel_rfl))
    laidOut rfl rfl Try.underlying4 (by rw [Try.params3]; simp only [List.mem_cons, List.not_mem_nil, or_false]; rintro t rfl <;> exact ⟨by kernel_rfl, of_decide_eq_true (by kernel_rfl)⟩)
    (fun ds hl => match ds, hl with | [_], _ => ⟨rfl, rfl, rfl⟩) call3

theorem holds3 : Rows.FnExactMatchingOfSaid :=
  OpenClaim.holds_of_wide 3 Try.f3 rfl rfl rfl rfl rfl rfl rfl ⟨rfl, rfl, rfl, rfl, rfl⟩ rfl rfl rfl rfl rfl (by kernel_rfl) Try.func3 (by kernel_rfl)
    (of_decide_eq_true (by kernel_rfl)) (by unfold Func.isWrapper; first | (rw [if_pos (by decide +kernel)]; kernel_rfl) | (rw [if_neg (by decide +kernel)]; exact ⟨rfl, rfl⟩))
    (fun os started H enc _ => lifted3 os started H enc)
end Go.Proofs.Ytncminpafiahpaa
