/- Bytes as arguments. -/
import Derived.Test.YtbdncdmkogbdhaaAvW
set_option linter.unusedSimpArgs false
set_option linter.unusedVariables false
namespace Go.Av
open Go Go.ChangeShapes Go.WideShapes Go.ChangeAt Go.RowKit

abbrev U8 := {x : Int // 0 ≤ x ∧ x ≤ 255}
section
variable {P : Program} {w : World} {H : Type} {enc : TypeId × Value → H}
theorem el_u8 {e : TypeId} (he : P.underlying e = some (.int .u8)) (n : Nat) (cs : List Value) (y : DataW H × List MemPlace) (h : DataW.trod enc P w 0 (fun _ => true) true n e cs = some y) : ∃ x : U8, ElemOk w (fun x => [cI .u8 x.1]) cs x := by
  obtain ⟨x, rfl, hw⟩ := trod_int' he h
  exact ⟨⟨x, Go.bounds_u8 hw⟩, ElemOk.one (cv := fun x : U8 => cI .u8 x.1) rfl (.v _ _ rfl)⟩
end
theorem u8_bounds (ys : List U8) (k : Nat) : 0 ≤ (ys.map Subtype.val).getD k 0 ∧ (ys.map Subtype.val).getD k 0 ≤ 255 := by
  simp only [List.getD_eq_getElem?_getD, List.getElem?_map]
  cases h : ys[k]? with
  | none => simp
  | some y => exact y.2
theorem has_bytes {ρ : List Value} {W : World} {o : Nat} {ys : List U8} {v : Value} (hv : ρ[o]? = some v) (h : CRep false W (fun _ => True) (.sl 1 (ys.map fun x => [cI .u8 x.1])) v) : has (fun _ => none) ρ W o (.row false (.ints .u8 (ys.map Subtype.val))) :=
  has_row hv (by
    have e : (Cont.ints .u8 (ys.map Subtype.val)).rows = ys.map fun x => [cI .u8 x.1] := by simp [Cont.rows, List.map_map, Function.comp_def]
    rw [e]; exact h)
section
variable {P : Program} {w : World} {H : Type} {enc : TypeId × Value → H}
/-- A struct of two integers. -/
theorem el_pair {e ti : TypeId} {f0 f1 : Field} (he : P.underlying e = some (.struct #[f0, f1])) (ht0 : f0.type = ti) (ht1 : f1.type = ti) (ho0 : f0.offset = 0) (ho1 : f1.offset = 1)
    (hti : P.underlying ti = some (.int .i64)) (hci : P.cellsOf ti = 1) (n : Nat) (cs : List Value) (y : DataW H × List MemPlace) (h : DataW.trod enc P w 0 (fun _ => true) true n e cs = some y) :
    ∃ x : Int × Int, ElemOk w (fun p => [cI .i64 p.1, cI .i64 p.2]) cs x := by
  obtain ⟨_, m, hf⟩ := trod_struct' he h
  obtain ⟨z0, k0⟩ := hf f0 (by simp)
  obtain ⟨z1, k1⟩ := hf f1 (by simp)
  rw [ht0, ho0, hci] at k0
  rw [ht1, ho1, hci] at k1
  obtain ⟨x0, e0, _⟩ := trod_int' hti k0
  obtain ⟨x1, e1, _⟩ := trod_int' hti k1
  have get : ∀ {j : Nat} {u : Value}, (cs.drop j).take 1 = [u] → cs[j]? = some u := fun {j u} hj => by
    have : ((cs.drop j).take 1)[0]? = some u := by rw [hj]; rfl
    simpa using this
  refine ⟨(x0, x1), fun f c hc => ?_⟩
  match f, hc with
  | 0, hc => simp at hc; subst hc; exact ⟨_, get e0, rfl, .v _ _ rfl⟩
  | 1, hc => simp at hc; subst hc; exact ⟨_, get e1, rfl, .v _ _ rfl⟩
  | _ + 2, hc => simp at hc
/-- A channel handed in: three slices of integers, a number, a slice of pairs. -/
theorem arg_channel {tg ti ts tp te : TypeId} {f0 f1 f2 f3 f4 g0 g1 : Field} {base : Nat} {v : Value} {d : DataW H} {ps : List MemPlace} (hg : P.underlying tg = some (.struct #[f0, f1, f2, f3, f4]))
    (ht0 : f0.type = ts) (ho0 : f0.offset = 0) (ht1 : f1.type = ti) (ho1 : f1.offset = 1) (ht2 : f2.type = ts) (ho2 : f2.offset = 2) (ht3 : f3.type = tp) (ho3 : f3.offset = 3) (ht4 : f4.type = ts) (ho4 : f4.offset = 4)
    (hti : P.underlying ti = some (.int .i64)) (hci : P.cellsOf ti = 1) (hcg : P.cellsOf tg = 5) (hts : P.underlying ts = some (.slice ti)) (hcs : P.cellsOf ts = 1) (htp : P.underlying tp = some (.slice te)) (hcp : P.cellsOf tp = 1) (hce : P.cellsOf te = 2)
    (he : P.underlying te = some (.struct #[g0, g1])) (gt0 : g0.type = ti) (gt1 : g1.type = ti) (go0 : g0.offset = 0) (go1 : g1.offset = 1)
    (hok : Value.okWide P w .any base tg v) (h : DataW.Trod enc P w 0 (fun _ => true) true tg v d ps) :
    ∃ (u0 u2 u3 u4 : Value) (vs : List Int) (k : Int) (gs : List Int) (qs : List (Int × Int)) (rs : List Int), v = .agg #[u0, .int .i64 k, u2, u3, u4] ∧ fits64 k ∧ (u0.oneCell' = true ∧ vs.length ≤ maxLen ∧ CRep false w (fun _ => True) (.sl 1 (Cont.ints .i64 vs).rows) u0) ∧
      (u2.oneCell' = true ∧ gs.length ≤ maxLen ∧ CRep false w (fun _ => True) (.sl 1 (Cont.ints .i64 gs).rows) u2) ∧ (u3.oneCell' = true ∧ qs.length ≤ maxLen ∧ CRep false w (fun _ => True) (.sl 2 (Cont.pairs qs).rows) u3) ∧
      (u4.oneCell' = true ∧ rs.length ≤ maxLen ∧ CRep false w (fun _ => True) (.sl 1 (Cont.ints .i64 rs).rows) u4) := by
  obtain ⟨k, h⟩ := h
  obtain ⟨hl, m, hf⟩ := trod_struct' hg h
  obtain ⟨z0, k0⟩ := hf f0 (by simp)
  obtain ⟨z1, k1⟩ := hf f1 (by simp)
  obtain ⟨z2, k2⟩ := hf f2 (by simp)
  obtain ⟨z3, k3⟩ := hf f3 (by simp)
  obtain ⟨z4, k4⟩ := hf f4 (by simp)
  rw [ht0, ho0, hcs] at k0
  rw [ht1, ho1, hci] at k1
  rw [ht2, ho2, hcs] at k2
  rw [ht3, ho3, hcp] at k3
  rw [ht4, ho4, hcs] at k4
  obtain ⟨n, e1, w1⟩ := trod_int' hti k1
  obtain ⟨u0, e0, o0, vs, c0, l0⟩ := open_rows hts hci (by decide) (fun _ => rfl) (el_int hti) k0
  obtain ⟨u2, e2, o2, gs, c2, l2⟩ := open_rows hts hci (by decide) (fun _ => rfl) (el_int hti) k2
  obtain ⟨u3, e3, o3, qs, c3, l3⟩ := open_rows htp hce (by decide) (fun _ => rfl) (el_pair he gt0 gt1 go0 go1 hti hci) k3
  obtain ⟨u4, e4, o4, rs, c4, l4⟩ := open_rows hts hci (by decide) (fun _ => rfl) (el_int hti) k4
  simp only [Value.okWide, hg] at hok
  obtain ⟨cs, rfl, _, _⟩ := hok
  simp only [Value.cells] at e0 e1 e2 e3 e4 hl
  rw [hcg] at hl
  obtain ⟨l⟩ := cs
  match l, hl with
  | [a0, a1, a2, a3, a4], _ =>
    simp at e0 e1 e2 e3 e4
    subst e0 e1 e2 e3 e4
    exact ⟨_, _, _, _, vs, n, gs, qs, rs, rfl, fits_of_wf w1, ⟨o0, l0, c0⟩, ⟨o2, l2, c2⟩, ⟨o3, l3, c3⟩, ⟨o4, l4, c4⟩⟩
end

/-- A graph: a number and a list of triples, within bounds. -/
abbrev GEl := {g : Int × List (Int × Int × Int) // fits64 g.1 ∧ g.2.length ≤ maxLen}
section
variable {P : Program} {w : World} {H : Type} {enc : TypeId × Value → H}
theorem el_graph {tg ti ts te : TypeId} {f0 f1 g0 g1 g2 : Field} (hg : P.underlying tg = some (.struct #[f0, f1])) (ht0 : f0.type = ti) (ho0 : f0.offset = 0) (ht1 : f1.type = ts) (ho1 : f1.offset = 1)
    (hti : P.underlying ti = some (.int .i64)) (hci : P.cellsOf ti = 1) (hts : P.underlying ts = some (.slice te)) (hcs : P.cellsOf ts = 1) (hce : P.cellsOf te = 3)
    (he : P.underlying te = some (.struct #[g0, g1, g2])) (gt0 : g0.type = ti) (gt1 : g1.type = ti) (gt2 : g2.type = ti) (go0 : g0.offset = 0) (go1 : g1.offset = 1) (go2 : g2.offset = 2)
    (n : Nat) (cs : List Value) (y : DataW H × List MemPlace) (h : DataW.trod enc P w 0 (fun _ => true) true n tg cs = some y) :
    ∃ x : GEl, ElemOk w (fun g : GEl => [cI .i64 g.1.1, CV.sl 3 (g.1.2.map fun p => [cI .i64 p.1, cI .i64 p.2.1, cI .i64 p.2.2])]) cs x := by
  obtain ⟨_, m, hf⟩ := trod_struct' hg h
  obtain ⟨z0, k0⟩ := hf f0 (by simp)
  obtain ⟨z1, k1⟩ := hf f1 (by simp)
  rw [ht0, ho0, hci] at k0
  rw [ht1, ho1, hcs] at k1
  obtain ⟨a, e0, w0⟩ := trod_int' hti k0
  obtain ⟨u, e1, o1, es, c1, l1⟩ := open_rows hts hce (by decide) (fun _ => rfl) (el_trip he gt0 gt1 gt2 go0 go1 go2 hti hci) k1
  have get : ∀ {j : Nat} {u : Value}, (cs.drop j).take 1 = [u] → cs[j]? = some u := fun {j u} hj => by
    have : ((cs.drop j).take 1)[0]? = some u := by rw [hj]; rfl
    simpa using this
  refine ⟨⟨(a, es), fits_of_wf w0, l1⟩, fun f c hc => ?_⟩
  match f, hc with
  | 0, hc => simp at hc; subst hc; exact ⟨_, get e0, rfl, .v _ _ rfl⟩
  | 1, hc => simp at hc; subst hc; exact ⟨_, get e1, o1, c1⟩
  | _ + 2, hc => simp at hc
end
theorem has_graphs {ρ : List Value} {W : World} {o : Nat} {gs : List GEl} {v : Value} (hv : ρ[o]? = some v) (h : CRep false W (fun _ => True) (.sl 2 (gs.map fun g : GEl => [cI .i64 g.1.1, CV.sl 3 (g.1.2.map fun p => [cI .i64 p.1, cI .i64 p.2.1, cI .i64 p.2.2])])) v) : has (fun _ => none) ρ W o (.row false (.graphs (gs.map Subtype.val))) :=
  has_row hv (by
    have e : (Cont.graphs (gs.map Subtype.val)).rows = gs.map fun g : GEl => [cI .i64 g.1.1, CV.sl 3 (g.1.2.map fun p => [cI .i64 p.1, cI .i64 p.2.1, cI .i64 p.2.2])] := by simp [Cont.rows, List.map_map, Function.comp_def]
    rw [e]; exact h)

end Go.Av
