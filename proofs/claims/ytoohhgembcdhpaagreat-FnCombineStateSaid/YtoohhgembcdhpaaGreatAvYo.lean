import Derived.Test.YtoohhgembcdhpaaGreatAvT
set_option linter.unusedSimpArgs false
set_option linter.unusedVariables false
namespace Go.Av
open Go Go.ChangeShapes Go.RowKit
variable {P : Program} {W : World} {H : Type} {enc : TypeId × Value → H}
theorem law_liftedS {C : Checked} {os : Os} {f : FuncId} {fn : Func} {s : ChangeSpec} {conds : List PathCond} {tb : TypeId} (own : ownKnob C.prog.godebug = none) (started : os.Started) (noInit : C.prog.inits.idxOf? f = none) (hfn : C.prog.funcs[f]? = some fn)
 (witness : ∃ (w : World) (tape : Tape) (i : Input), w.os = os ∧ (w.forCall tape i).Shaped C.prog ∧ i.vars = [] ∧ Input.okWide C.prog (w.forCall tape i) .any w.heap.size f i ∧
   s.pre6 enc C.prog fn conds false (w.forCall tape i).memory i.args ∧ ({} : Assume).holds C.prog (lone (Frame.enter C.prog f i.args .normal) [] (w.forCall tape i)))
 (hl : laidOutB C.prog = true) (hvars : s.vars = []) (hrt : fn.resultTypes = #[tb]) (hb : C.prog.underlying tb = some .bool) (hrd : ∀ t ∈ fn.params.toList, C.prog.readableRec t = true ∧ t < C.prog.types.size)
 (hs : ∀ ds : List (DataW H), ds.length = fn.params.toList.length → (s.fn H ds).results = [.lit (.bool true)] ∧ (s.fn H ds).args = ds ∧ (s.fn H ds).vars = [])
 (call : ∀ (W : World) (base : Nat) (args : Array Value) (ds : List (DataW H)) (ps : List MemPlace), W.ShapedOpen C.prog → (∀ (j : Nat) t v, fn.params[j]? = some t → args[j]? = some v → Value.okWide C.prog W .any base t v) →
   DataW.TrodAll enc C.prog W 0 (fun _ => true) true fn.params.toList args.toList ds ps → Calls C.prog f args W fun e w' => e = .returned (.bool true) ∧ Grow W w') :
 ReturnsInHanded {} C os f .any (s.pre6 enc C.prog fn conds false) (s.post enc C.prog fn false true false false) := by
 refine returnsInHanded_of_calls own started noInit witness ?_
 intro w tape i _ hsh _ hok hpre _
 obtain ⟨_, _, _, fn', hfn', _, _, _, _, hval⟩ := hok
 have e : fn' = fn := Option.some.inj (hfn'.symm.trans hfn)
 subst e
 obtain ⟨⟨ds, gs, before, hw, _⟩, _⟩ := hpre
 have hW : DataW.Whole enc C.prog fn'.params.toList s.vars false (w.forCall tape i) i.args.toList ds gs before := DataW.Whole.of_heap (w' := w.forCall tape i) (by rfl) hw
 have hW' := hW
 obtain ⟨p, q, hA, hV, rfl, hfz, hnd⟩ := hW
 rw [hvars] at hV
 obtain ⟨rfl, rfl⟩ := trodVars_none hV
 refine (call _ w.heap.size i.args ds p hsh hval hA).mono fun e W' ⟨he, hg⟩ => ?_
 subst he
 obtain ⟨h1, h2, h3⟩ := hs ds (TrodAll.len hA).1
 have hlt : ∀ x ∈ p, x.block < (w.forCall tape i).heap.size := fun x hx => hW'.lt x (List.mem_append_left _ hx)
 have e1 : ds ++ [] = ds := List.append_nil ds
 refine ChangeSpec.post_blind (enc := enc) ⟨ds, [], p ++ [], [], p, [], hW', ?_, ?_, ?_, hg.kept _, fun h => by cases h⟩
 ·rw [e1, h1, hrt]
  exact trodAll_cons_mk (shut_bool hb _) trodAll_mk0
 ·rw [e1, h2]
  exact TrodAll.below hl hg.below hrd hA hlt
 ·rw [e1, h3, hvars]
  rfl
theorem glob_open {ρ : List Value} {o g t e n : Nat} {zero : Array Value} (h : W.ShapedOpen P) (hg : g < P.globals.size) (h0 : ((begin P (fun _ _ => 0) default).world.heap[g]?).bind Obj.row? = some (zero, t)) (hz : zero.size = n)
 (hb : P.buildable t = true) (hts : P.cellTypes P.depth t = some (List.replicate n e)) (hn : 0 < n) (he : P.underlying e = some (.int .u8)) :
 ∃ tab : List Int, tab.length = n ∧ (∀ x ∈ tab, 0 ≤ x ∧ x ≤ 255) ∧ has (fun _ => none) ρ W o (.glob g (.ints .u8 tab)) := by
 obtain ⟨cs, h1, h2, h3⟩ := h.1 g zero t hg h0
 obtain ⟨ts, h4, _, h5⟩ := h3 hb
 rw [hts] at h4
 obtain rfl := Option.some.inj h4
 have hcell : ∀ i v, cs[i]? = some v → ∃ m : Int, v = Value.int .u8 m ∧ 0 ≤ m ∧ m ≤ 255 := fun i v hv => by
  obtain ⟨u, hu, hc⟩ := h5 i v hv
  have hu' : u = e := by
   have := List.mem_of_getElem? hu
   exact (List.mem_replicate.1 this).2
  subst hu'
  unfold Cell.ok at hc
  rw [he] at hc
  cases v <;> simp only at hc
  obtain ⟨rfl, hm⟩ := hc
  refine ⟨_, rfl, ?_⟩
  simpa [IntKind.has, IntKind.min, IntKind.max, IntKind.signed, IntKind.bits] using hm
 let num : Value → Int := fun v => match v with | .int _ m => m | _ => 0
 refine ⟨cs.toList.map num, by simp [h2, hz], fun x hx => ?_, rfl, cs, t, _, h1, fun i f x hi hx => ?_⟩
 ·obtain ⟨v, hv, rfl⟩ := List.mem_map.1 hx
  obtain ⟨i, hi⟩ := List.mem_iff_getElem?.1 hv
  obtain ⟨m, rfl, hm⟩ := hcell i v (by simpa using hi)
  exact hm
 ·simp only [Cont.len, List.length_map] at hi
  cases f with
  | succ f => simp [Cont.cell] at hx
  | zero =>
    have hi' : i < cs.size := by simpa using hi
    obtain ⟨m, hm, _⟩ := hcell i cs[i] (Array.getElem?_eq_getElem hi')
    simp [Cont.cell, hi', num, hm] at hx
    subst hx
    refine ⟨?_, rfl⟩
    simp [Cont.esz, hi', hm]
end Go.Av
