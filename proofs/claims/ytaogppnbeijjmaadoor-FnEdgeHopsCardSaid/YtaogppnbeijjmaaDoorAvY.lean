/- Laws whose rows list package-level tables: a statement out of a contract on calls; a table as an object. -/
import Derived.Test.YtaogppnbeijjmaaDoorAvW
import Derived.LaidMore
import Derived.OpenShut
import Derived.Stop.Joined
set_option linter.unusedSimpArgs false
set_option linter.unusedVariables false
namespace Go.Av
open Go Go.ChangeShapes Go.RowKit Go.ChangeAt

variable {H : Type} {enc : TypeId × Value → H} {P : Program} {w W W' : World}

/-- **A law's statement out of a contract on calls, the tables reading as listed.** -/
theorem law_liftedL {C : Checked} {os : Os} {f : FuncId} {fn : Func} {s : ChangeSpec} {laid : List (String × DataW Unit)} {tb : TypeId} (own : ownKnob C.prog.godebug = none) (started : os.Started) (noInit : C.prog.inits.idxOf? f = none) (hfn : C.prog.funcs[f]? = some fn)
    (witness : ∃ (w : World) (tape : Tape) (i : Input), w.os = os ∧ (w.forCall tape i).Shaped C.prog ∧ i.vars = [] ∧ Input.okWide C.prog (w.forCall tape i) .any w.heap.size f i ∧
      ((s.pre enc C.prog fn [] false (w.forCall tape i).memory i.args ∧ laidMetH C.prog laid (w.forCall tape i).memory) ∧ sizedMet enc C.prog fn (OpenSpec.ofChange s) false (w.forCall tape i).memory i.args) ∧ ({} : Assume).holds C.prog (lone (Frame.enter C.prog f i.args .normal) [] (w.forCall tape i)))
    (hl : laidOutB C.prog = true) (hvars : s.vars = []) (hrt : fn.resultTypes = #[tb]) (hb : C.prog.underlying tb = some .bool) (hrd : ∀ t ∈ fn.params.toList, C.prog.readableRec t = true ∧ t < C.prog.types.size)
    (hs : ∀ ds : List (DataW H), ds.length = fn.params.toList.length → (s.fn H ds).results = [.lit (.bool true)] ∧ (s.fn H ds).args = ds ∧ (s.fn H ds).vars = [])
    (call : ∀ (W : World) (base : Nat) (args : Array Value) (ds : List (DataW H)) (ps : List MemPlace), (∀ (j : Nat) t v, fn.params[j]? = some t → args[j]? = some v → Value.okWide C.prog W .any base t v) →
      DataW.TrodAll enc C.prog W 0 (fun _ => true) true fn.params.toList args.toList ds ps → laidMetH C.prog laid W → Calls C.prog f args W fun e w' => e = .returned (.bool true) ∧ Grow W w') :
    ReturnsInHanded {} C os f .any (fun w args => (s.pre enc C.prog fn [] false w args ∧ laidMetH C.prog laid w) ∧ sizedMet enc C.prog fn (OpenSpec.ofChange s) false w args) (s.post enc C.prog fn false true false false) := by
  refine returnsInHanded_of_change_and (C := C) (X := fun w _ => laidMetH C.prog laid w) (fun _ _ _ hh h => h.of_heap hh) own started noInit hfn witness ?_
  intro W base args ds gs before hval hW _ _ hL _
  have hW' := hW
  obtain ⟨p, q, hA, hV, rfl, hfz, hnd⟩ := hW
  rw [hvars] at hV
  obtain ⟨rfl, rfl⟩ := trodVars_none hV
  refine (call W base args ds p hval hA hL).mono fun e W' ⟨he, hg⟩ => ?_
  subst he
  obtain ⟨h1, h2, h3⟩ := hs ds (TrodAll.len hA).1
  have hlt : ∀ x ∈ p, x.block < W.heap.size := fun x hx => hW'.lt x (List.mem_append_left _ hx)
  have e1 : ds ++ [] = ds := List.append_nil ds
  refine ⟨_, rfl, ds, [], p ++ [], [], p, [], hW', ?_, ?_, ?_, hg.kept _, fun h => by cases h⟩
  · rw [e1, h1, hrt]
    exact trodAll_cons_mk (shut_bool hb _) trodAll_mk0
  · rw [e1, h2]
    exact TrodAll.below hl hg.below hrd hA hlt
  · rw [e1, h3, hvars]
    rfl

/-- A table of integers that reads as listed is an object. -/
theorem glob_ints {ρ : List Value} {o g t e n : Nat} {k : IntKind} {nm : String} {tab : List Int} {rest : List (String × DataW Unit)} {ps : List MemPlace}
    (h : DataW.LaidVars P W ((nm, .agg (tab.map fun x => .lit (.int k x))) :: rest) ps) (hg : P.globalNamed nm = some g) (ht : (P.globals[g]?).map (·.type) = some t)
    (ha : P.underlying t = some (.array n e)) (he : P.underlying e = some (.int k)) (hc : P.cellsOf e = 1) (hn : 0 < n) : has (fun _ => none) ρ W o (.glob g (.ints k tab)) := by
  obtain ⟨g', t', cs, fuel, p, q, hg', ht', hv, hd, _, _⟩ := h
  obtain rfl := Option.some.inj (hg.symm.trans hg')
  obtain rfl := Option.some.inj (ht.symm.trans ht')
  obtain ⟨xs, m, rfl, hx, hlen, hxn, hel⟩ := DataW.trod_array ha hd
  simp only [Prod.mk.injEq, DataW.agg.injEq] at hx
  have hcell : ∀ i, i < tab.length → W.cell? ⟨g, i, none⟩ = some (.int k (tab.getD i 0)) := fun i hi => by
    have hxl : xs.length = tab.length := by have := congrArg List.length hx.1; simpa using this.symm
    have h1 := hel i (by omega)
    rw [hc, Nat.mul_one, List.getElem?_eq_getElem (by omega)] at h1
    obtain ⟨z, e1, e2, _⟩ := DataW.trod_int he h1
    have h2 : (tab.map fun x => (DataW.lit (.int k x) : DataW Unit))[i]? = (xs.map (·.1))[i]? := by rw [hx.1]
    rw [List.getElem?_map, List.getElem?_map, List.getElem?_eq_getElem (show i < xs.length by omega), List.getElem?_eq_getElem hi] at h2
    simp only [Option.map_some, Option.some.injEq, e2] at h2
    have hz : z = tab.getD i 0 := by
      have : tab[i] = z := by simpa using h2
      rw [← this]; simp [List.getD, hi]
    have h3 := World.var?_cell hg hv i
    rw [h3, ← hz]
    have h4 : ((cs.toList.drop i).take 1)[0]? = some (Value.int k z) := by rw [e1]; rfl
    simpa using h4
  have h0 := hcell 0
  by_cases htab : 0 < tab.length
  · have h1 := h0 htab
    refine ⟨rfl, ?_⟩
    unfold World.cell? at h1
    split at h1
    · rename_i arr ty fz hb
      refine ⟨arr, ty, fz, hb, fun i f x hi hx => ?_⟩
      simp only [Cont.cell] at hx
      split at hx
      · rename_i hf
        subst hf
        have h2 := hcell i hi
        unfold World.cell? at h2
        rw [hb] at h2
        simp only at h2
        simp only [Option.some.injEq] at hx
        subst hx
        refine ⟨?_, rfl⟩
        simpa [Cont.esz] using h2
      · cases hx
    · cases h1
  · exfalso
    have hxl : xs.length = tab.length := by have := congrArg List.length hx.1; simpa using this.symm
    omega
end Go.Av
