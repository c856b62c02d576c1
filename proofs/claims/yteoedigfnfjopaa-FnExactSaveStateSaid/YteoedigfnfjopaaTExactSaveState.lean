/- The statement FnExactSaveState: the law answers true for all arguments. -/
import Derived.Test.YteoedigfnfjopaaRows
import Derived.Test.YteoedigfnfjopaaLw2
import Derived.Test.YteoedigfnfjopaaNu
import Derived.Test.YteoedigfnfjopaaAvX
namespace Go.Proofs.Yteoedigfnfjopaa
open Go Go.Av Go.ChangeShapes Go.WideShapes Go.ChangeAt Go.RowKit

theorem own : ownKnob Try.prog.godebug = none := by kernel_rfl
theorem laidOut : laidOutB Try.prog = true := by kernel_rfl

theorem argS0 {P : Program} {w : World} {H : Type} {enc : TypeId × Value → H} {tg : TypeId} {t0 : TypeId} {t1 : TypeId} {d0 : TypeId} {d1 : TypeId} {f0 f1 : Field} {base : Nat} {v : Value} {d : DataW H} {ps : List MemPlace} (hg : P.underlying tg = some (.struct #[f0, f1])) (hcg : P.cellsOf tg = 2)
    (ht0 : f0.type = t0) (ho0 : f0.offset = 0) (hc0 : P.cellsOf t0 = 1)
    (hu0 : P.underlying t0 = some (.slice d0))
    (hd0 : P.cellsOf d0 = 1) (hx0 : P.underlying d0 = some (.int .i64))
    (ht1 : f1.type = t1) (ho1 : f1.offset = 1) (hc1 : P.cellsOf t1 = 1)
    (hu1 : P.underlying t1 = some (.slice d1))
    (hd1 : P.cellsOf d1 = 1) (hx1 : P.underlying d1 = some (.int .i64))
    (hok : Value.okWide P w .any base tg v) (h : DataW.Trod enc P w 0 (fun _ => true) true tg v d ps) :
    ∃ (u0 : Value) (xs0 : List Int) (u1 : Value) (xs1 : List Int), v = .agg #[u0, u1] ∧ (u0.oneCell' = true ∧ xs0.length ≤ maxLen ∧ CRep false w (fun _ => True) (.sl 1 (Cont.ints .i64 xs0).rows) u0) ∧ (u1.oneCell' = true ∧ xs1.length ≤ maxLen ∧ CRep false w (fun _ => True) (.sl 1 (Cont.ints .i64 xs1).rows) u1) := by
  obtain ⟨k, h⟩ := h
  obtain ⟨hl, m, hf⟩ := trod_struct' hg h
  obtain ⟨z0, k0⟩ := hf f0 (by simp)
  obtain ⟨z1, k1⟩ := hf f1 (by simp)
  rw [ht0, ho0, hc0] at k0
  rw [ht1, ho1, hc1] at k1
  obtain ⟨u0, e0, o0, xs0, c0, l0⟩ := open_rows hu0 hd0 (by decide) (fun _ => rfl) (el_int hx0) k0
  obtain ⟨u1, e1, o1, xs1, c1, l1⟩ := open_rows hu1 hd1 (by decide) (fun _ => rfl) (el_int hx1) k1
  simp only [Value.okWide, hg] at hok
  obtain ⟨cs, rfl, _, _⟩ := hok
  simp only [Value.cells] at e0 e1 hl
  rw [hcg] at hl
  obtain ⟨l⟩ := cs
  match l, hl with
  | [a0, a1], _ =>
    simp at e0 e1
    subst e0 e1
    exact ⟨_, xs0, _, xs1, rfl, ⟨o0, l0, c0⟩, ⟨o1, l1, c1⟩⟩
theorem argS1 {P : Program} {w : World} {H : Type} {enc : TypeId × Value → H} {tg : TypeId} {t0 : TypeId} {t1 : TypeId} {t2 : TypeId} {t3 : TypeId} {d1 : TypeId} {d2 : TypeId} {d3 : TypeId} {f0 f1 f2 f3 : Field} {base : Nat} {v : Value} {d : DataW H} {ps : List MemPlace} (hg : P.underlying tg = some (.struct #[f0, f1, f2, f3])) (hcg : P.cellsOf tg = 4)
    (ht0 : f0.type = t0) (ho0 : f0.offset = 0) (hc0 : P.cellsOf t0 = 1)
    (hu0 : P.underlying t0 = some (.int .i64))
    (ht1 : f1.type = t1) (ho1 : f1.offset = 1) (hc1 : P.cellsOf t1 = 1)
    (hu1 : P.underlying t1 = some (.slice d1))
    (hd1 : P.cellsOf d1 = 1) (hx1 : P.underlying d1 = some (.int .i64))
    (ht2 : f2.type = t2) (ho2 : f2.offset = 2) (hc2 : P.cellsOf t2 = 1)
    (hu2 : P.underlying t2 = some (.slice d2))
    (hd2 : P.cellsOf d2 = 1) (hx2 : P.underlying d2 = some .bool)
    (ht3 : f3.type = t3) (ho3 : f3.offset = 3) (hc3 : P.cellsOf t3 = 1)
    (hu3 : P.underlying t3 = some (.slice d3))
    (hd3 : P.cellsOf d3 = 3) {g3a g3b g3c : Field} (hx3 : P.underlying d3 = some (.struct #[g3a, g3b, g3c]))   {i3 : TypeId} (gt3a : g3a.type = i3) (gt3b : g3b.type = i3) (gt3c : g3c.type = i3) (go3a : g3a.offset = 0) (go3b : g3b.offset = 1) (go3c : g3c.offset = 2) (hi3 : P.underlying i3 = some (.int .i64)) (hn3 : P.cellsOf i3 = 1)
    (hok : Value.okWide P w .any base tg v) (h : DataW.Trod enc P w 0 (fun _ => true) true tg v d ps) :
    ∃ (n0 : Int) (u1 : Value) (xs1 : List Int) (u2 : Value) (xs2 : List Bool) (u3 : Value) (xs3 : List (Int × Int × Int)), v = .agg #[.int .i64 n0, u1, u2, u3] ∧ fits64 n0 ∧ (u1.oneCell' = true ∧ xs1.length ≤ maxLen ∧ CRep false w (fun _ => True) (.sl 1 (Cont.ints .i64 xs1).rows) u1) ∧ (u2.oneCell' = true ∧ xs2.length ≤ maxLen ∧ CRep false w (fun _ => True) (.sl 1 (Cont.bools xs2).rows) u2) ∧ (u3.oneCell' = true ∧ xs3.length ≤ maxLen ∧ CRep false w (fun _ => True) (.sl 3 (Cont.trips xs3).rows) u3) := by
  obtain ⟨k, h⟩ := h
  obtain ⟨hl, m, hf⟩ := trod_struct' hg h
  obtain ⟨z0, k0⟩ := hf f0 (by simp)
  obtain ⟨z1, k1⟩ := hf f1 (by simp)
  obtain ⟨z2, k2⟩ := hf f2 (by simp)
  obtain ⟨z3, k3⟩ := hf f3 (by simp)
  rw [ht0, ho0, hc0] at k0
  rw [ht1, ho1, hc1] at k1
  rw [ht2, ho2, hc2] at k2
  rw [ht3, ho3, hc3] at k3
  obtain ⟨n0, e0, w0⟩ := trod_int' hu0 k0
  obtain ⟨u1, e1, o1, xs1, c1, l1⟩ := open_rows hu1 hd1 (by decide) (fun _ => rfl) (el_int hx1) k1
  obtain ⟨u2, e2, o2, xs2, c2, l2⟩ := open_rows hu2 hd2 (by decide) (fun _ => rfl) (el_bool hx2) k2
  obtain ⟨u3, e3, o3, xs3, c3, l3⟩ := open_rows hu3 hd3 (by decide) (fun _ => rfl) (el_trip hx3 gt3a gt3b gt3c go3a go3b go3c hi3 hn3) k3
  simp only [Value.okWide, hg] at hok
  obtain ⟨cs, rfl, _, _⟩ := hok
  simp only [Value.cells] at e0 e1 e2 e3 hl
  rw [hcg] at hl
  obtain ⟨l⟩ := cs
  match l, hl with
  | [a0, a1, a2, a3], _ =>
    simp at e0 e1 e2 e3
    subst e0 e1 e2 e3
    exact ⟨n0, _, xs1, _, xs2, _, xs3, rfl, fits_of_wf w0, ⟨o1, l1, c1⟩, ⟨o2, l2, c2⟩, ⟨o3, l3, c3⟩⟩
set_option maxRecDepth 100000 in
theorem call4 {H : Type} {enc : TypeId × Value → H} (W : World) (base : Nat) (args : Array Value) (ds : List (DataW H)) (ps : List MemPlace) (hval : ∀ (j : Nat) t v, Try.f4.params[j]? = some t → args[j]? = some v → Value.okWide Try.prog W .any base t v)
    (hA : DataW.TrodAll enc Try.prog W 0 (fun _ => true) true Try.f4.params.toList args.toList ds ps) : Calls Try.prog 4 args W fun e w' => e = .returned (.bool true) ∧ Grow W w' := by
  rw [Try.params4] at hA hval
  obtain ⟨v0, vs0, d0, ds0, p0, q0, ha, rfl, rfl, h0, r0⟩ := trodAll_cons hA
  obtain ⟨v1, vs1, d1, ds1, p1, q1, rfl, rfl, rfl, h1, r1⟩ := trodAll_cons r0
  obtain ⟨rfl, rfl, rfl⟩ := trodAll_nil r1
  obtain rfl : args = #[v0, v1] := by cases args; simp_all
  obtain ⟨u0_0, xs0_0, u0_1, xs0_1, rfl, ⟨o0_0, l0_0, c0_0⟩, ⟨o0_1, l0_1, c0_1⟩⟩ := argS0 Try.underlying41 (by kernel_rfl) rfl rfl (by kernel_rfl) Try.underlying22 (by kernel_rfl) Try.underlying3 rfl rfl (by kernel_rfl) Try.underlying22 (by kernel_rfl) Try.underlying3 (hval 0 41 v0 rfl rfl) h0
  obtain ⟨n1_0, u1_1, xs1_1, u1_2, xs1_2, u1_3, xs1_3, rfl, w1_0, ⟨o1_1, l1_1, c1_1⟩, ⟨o1_2, l1_2, c1_2⟩, ⟨o1_3, l1_3, c1_3⟩⟩ := argS1 Try.underlying26 (by kernel_rfl) rfl rfl (by kernel_rfl) Try.underlying3 rfl rfl (by kernel_rfl) Try.underlying22 (by kernel_rfl) Try.underlying3 rfl rfl (by kernel_rfl) Try.underlying23 (by kernel_rfl) Try.underlying4 rfl rfl (by kernel_rfl) Try.underlying24 (by kernel_rfl) Try.underlying64 rfl rfl rfl rfl rfl rfl Try.underlying3 (by kernel_rfl) (hval 1 26 v1 rfl rfl) h1
  exact law_call' (FnA.mono (k_laws_FnExactSaveState xs0_0 xs0_1 n1_0 xs1_1 xs1_2 xs1_3 (h := FnExactSaveState_true (by simpa [maxLen] using l0_0) (by simpa [maxLen] using l0_1) (by simpa [maxLen] using l1_1) (by simpa [maxLen] using l1_2) (by simpa [maxLen] using l1_3))) (fun _ _ h => h.1)) [u0_0, u0_1, u1_1, u1_2, u1_3] rfl ⟨has_row (c := .ints .i64 xs0_0) rfl c0_0, has_row (c := .ints .i64 xs0_1) rfl c0_1, has_row (c := .ints .i64 xs1_1) rfl c1_1, has_row (c := .bools xs1_2) rfl c1_2, has_row (c := .trips xs1_3) rfl c1_3, trivial⟩
    (.cons ⟨[u0_0, u0_1], rfl, rfl, fun j x y hx hy => by
      match j, hx, hy with
      | 0, hx, hy => simp at hx hy; subst hx hy; exact ⟨rfl, o0_0⟩
      | 1, hx, hy => simp at hx hy; subst hx hy; exact ⟨rfl, o0_1⟩
      | _ + 2, hx, hy => simp at hx⟩ (.cons ⟨[.int .i64 n1_0, u1_1, u1_2, u1_3], rfl, rfl, fun j x y hx hy => by
      match j, hx, hy with
      | 0, hx, hy => simp at hx hy; subst hx hy; exact ⟨rfl, rfl⟩
      | 1, hx, hy => simp at hx hy; subst hx hy; exact ⟨rfl, o1_1⟩
      | 2, hx, hy => simp at hx hy; subst hx hy; exact ⟨rfl, o1_2⟩
      | 3, hx, hy => simp at hx hy; subst hx hy; exact ⟨rfl, o1_3⟩
      | _ + 4, hx, hy => simp at hx⟩ .nil))

set_option maxRecDepth 100000 in
theorem lifted4 (os : Os) (started : os.Started) (H : Type) (enc : TypeId × Value → H) :
    ReturnsInHanded {} Try.checked os 4 .any (Rows.fnExactSaveStateSpec.pre6 enc Try.prog Try.f4 Rows.fnExactSaveStateRow.domain false) (Rows.fnExactSaveStateSpec.post enc Try.prog Try.f4 false true false false) :=
  law_lifted (C := Try.checked) (tb := 4) own started (by kernel_rfl) Try.func4
    (ChangeSpec.witness6 (enc := enc) (C := Try.checked) false ⟨#[], #[.agg #[.slice none 0 0, .slice none 0 0], .agg #[.int .i64 0, .slice none 0 0, .slice none 0 0, .slice none 0 0]], []⟩ 8 (by kernel_rfl) (by kernel_rfl) (by kernel_rfl) (by kernel_rfl))
    laidOut rfl rfl Try.underlying4 (by rw [Try.params4]; simp only [List.mem_cons, List.not_mem_nil, or_false]; rintro t (rfl | rfl) <;> exact ⟨by kernel_rfl, of_decide_eq_true (by kernel_rfl)⟩)
    (fun ds hl => match ds, hl with | [_, _], _ => ⟨rfl, rfl, rfl⟩) call4

theorem holds4 : Rows.FnExactSaveStateSaid :=
  OpenClaim.holds_of_wide 4 Try.f4 rfl rfl rfl rfl rfl rfl rfl ⟨rfl, rfl, rfl, rfl, rfl⟩ rfl rfl rfl rfl rfl (by kernel_rfl) Try.func4 (by kernel_rfl)
    (of_decide_eq_true (by kernel_rfl)) (by unfold Func.isWrapper; first | (rw [if_pos (by decide +kernel)]; kernel_rfl) | (rw [if_neg (by decide +kernel)]; exact ⟨rfl, rfl⟩))
    (fun os started H enc _ => lifted4 os started H enc)
end Go.Proofs.Yteoedigfnfjopaa
