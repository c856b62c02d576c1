/- The statement FnExactChannelQuiet: the law answers true for all arguments. -/
import Derived.Test.YtncminpafiahpaaRows
import Derived.Test.YtncminpafiahpaaLw3
import Derived.Test.YtncminpafiahpaaMv
import Derived.Test.YtncminpafiahpaaAvX
namespace Go.Proofs.Ytncminpafiahpaa
open Go Go.Av Go.ChangeShapes Go.WideShapes Go.ChangeAt Go.RowKit

theorem own : ownKnob Try.prog.godebug = none := by kernel_rfl
theorem laidOut : laidOutB Try.prog = true := by kernel_rfl

set_option maxRecDepth 100000 in
theorem call6 {H : Type} {enc : TypeId × Value → H} (W : World) (base : Nat) (args : Array Value) (ds : List (DataW H)) (ps : List MemPlace) (hval : ∀ (j : Nat) t v, Try.f6.params[j]? = some t → args[j]? = some v → Value.okWide Try.prog W .any base t v)
    (hA : DataW.TrodAll enc Try.prog W 0 (fun _ => true) true Try.f6.params.toList args.toList ds ps) : Calls Try.prog 6 args W fun e w' => e = .returned (.bool true) ∧ Grow W w' := by
  rw [Try.params6] at hA hval
  obtain ⟨v0, vs0, d0, ds0, p0, q0, ha, rfl, rfl, h0, r0⟩ := trodAll_cons hA
  obtain ⟨rfl, rfl, rfl⟩ := trodAll_nil r0
  obtain rfl : args = #[v0] := by cases args; simp_all
  obtain ⟨u0a, u0b, u0c, u0d, vs0, k0, gs0, qs0, rs0, rfl, hk0, ⟨o0a, l0a, c0a⟩, ⟨o0b, l0b, c0b⟩, ⟨o0c, l0c, c0c⟩, ⟨o0d, l0d, c0d⟩⟩ := arg_channel Try.underlying50 rfl rfl rfl rfl rfl rfl rfl rfl rfl rfl Try.underlying3 (by kernel_rfl) (by kernel_rfl) Try.underlying26 (by kernel_rfl) Try.underlying48 (by kernel_rfl) (by kernel_rfl) Try.underlying129 rfl rfl rfl rfl (hval 0 50 v0 rfl rfl) h0
  exact law_call' (FnA.mono (k_laws_FnExactChannelQuiet vs0 k0 gs0 qs0 rs0 (h := FnExactChannelQuiet_true (by simpa [maxLen] using l0a) (by simpa [maxLen] using l0b) (by simpa [maxLen] using l0c) (by simpa [maxLen] using l0d))) (fun _ _ h => h.1)) [u0a, u0b, u0c, u0d] rfl ⟨has_row (c := .ints .i64 vs0) rfl c0a, has_row (c := .ints .i64 gs0) rfl c0b, has_row (c := .pairs qs0) rfl c0c, has_row (c := .ints .i64 rs0) rfl c0d, trivial⟩
    (.cons ⟨[u0a, .int .i64 k0, u0b, u0c, u0d], rfl, rfl, fun j x y hx hy => by
      match j, hx, hy with
      | 0, hx, hy => simp at hx hy; subst hx hy; exact ⟨rfl, o0a⟩
      | 1, hx, hy => simp at hx hy; subst hx hy; exact ⟨rfl, rfl⟩
      | 2, hx, hy => simp at hx hy; subst hx hy; exact ⟨rfl, o0b⟩
      | 3, hx, hy => simp at hx hy; subst hx hy; exact ⟨rfl, o0c⟩
      | 4, hx, hy => simp at hx hy; subst hx hy; exact ⟨rfl, o0d⟩
      | _ + 5, hx, hy => simp at hx⟩ .nil)

set_option maxRecDepth 100000 in
theorem lifted6 (os : Os) (started : os.Started) (H : Type) (enc : TypeId × Value → H) :
    ReturnsInHanded {} Try.checked os 6 .any (Rows.fnExactChannelQuietSpec.pre6 enc Try.prog Try.f6 Rows.fnExactChannelQuietRow.domain false) (Rows.fnExactChannelQuietSpec.post enc Try.prog Try.f6 false true false false) :=
  law_lifted (C := Try.checked) (tb := 4) own started (by kernel_rfl) Try.func6
    (ChangeSpec.witness6 (enc := enc) (C := Try.checked) false ⟨#[], #[.agg #[.slice none 0 0, .int .i64 0, .slice none 0 0, .slice none 0 0, .slice none 0 0]], []⟩ 8 (by kernel_rfl) (by kernel_rfl) (by kernel_rfl) (by kernel_rfl))
    laidOut rfl rfl Try.underlying4 (by rw [Try.params6]; simp only [List.mem_cons, List.not_mem_nil, or_false]; rintro t rfl <;> exact ⟨by kernel_rfl, of_decide_eq_true (by kernel_rfl)⟩)
    (fun ds hl => match ds, hl with | [_], _ => ⟨rfl, rfl, rfl⟩) call6

theorem holds6 : Rows.FnExactChannelQuietSaid :=
  OpenClaim.holds_of_wide 6 Try.f6 rfl rfl rfl rfl rfl rfl rfl ⟨rfl, rfl, rfl, rfl, rfl⟩ rfl rfl rfl rfl rfl (by kernel_rfl) Try.func6 (by kernel_rfl)
    (of_decide_eq_true (by kernel_rfl)) (by unfold Func.isWrapper; first | (rw [if_pos (by decide +kernel)]; kernel_rfl) | (rw [if_neg (by decide +kernel)]; exact ⟨rfl, rfl⟩))
    (fun os started H enc _ => lifted6 os started H enc)
end Go.Proofs.Ytncminpafiahpaa
