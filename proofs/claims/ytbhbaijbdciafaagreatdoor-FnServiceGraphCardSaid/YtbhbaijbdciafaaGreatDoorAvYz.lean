import Derived.Test.YtbhbaijbdciafaaGreatDoorAvYo
import Derived.LaidMore
import Derived.OpenShut
import Derived.Conc.Holds
import Derived.SevenTiedAt
import Derived.Lay
set_option linter.unusedSimpArgs false
set_option linter.unusedVariables false
namespace Go.Av
open Go Go.ChangeShapes Go.RowKit
variable {P : Program} {W : World} {H : Type} {enc : TypeId × Value → H}
theorem leaving_of_handed {a : Assume} {C : Checked} {os : Os} {f : FuncId} {r : Reach} {Pre : World → Array Value → Prop} {Post : World → Array Value → Value → World → Prop} (h : ReturnsInHanded a C os f r Pre Post) : ReturnsInLeavingWide a C os f r Pre Post := fun enter =>
 ReturnsInOpen.mono (fun m w t hq => ⟨hq.2.1, ⟨fun g hg => ⟨0, by
  have := List.all_eq_true.1 hq.1.1 g hg
  exact eq_of_beq this⟩, hq.1.2⟩, hq.2.2⟩) (fun _ h => h) (h enter)
theorem law_liftedM {C : Checked} {os : Os} {f : FuncId} {fn : Func} {s : ChangeSpec} {laid : List (String × DataW Unit)} {tb : TypeId} (own : ownKnob C.prog.godebug = none) (started : os.Started) (noInit : C.prog.inits.idxOf? f = none) (hfn : C.prog.funcs[f]? = some fn)
 (witness : ∃ (w : World) (tape : Tape) (i : Input), w.os = os ∧ (w.forCall tape i).Shaped C.prog ∧ i.vars = [] ∧ Input.okWide C.prog (w.forCall tape i) .any w.heap.size f i ∧
   ((s.pre enc C.prog fn [] false (w.forCall tape i).memory i.args ∧ laidMetH C.prog laid (w.forCall tape i).memory) ∧ sizedMet enc C.prog fn (OpenSpec.ofChange s) false (w.forCall tape i).memory i.args) ∧ ({} : Assume).holds C.prog (lone (Frame.enter C.prog f i.args .normal) [] (w.forCall tape i)))
 (hl : laidOutB C.prog = true) (hvars : s.vars = []) (hrt : fn.resultTypes = #[tb]) (hb : C.prog.underlying tb = some .bool) (hrd : ∀ t ∈ fn.params.toList, C.prog.readableRec t = true ∧ t < C.prog.types.size)
 (hs : ∀ ds : List (DataW H), ds.length = fn.params.toList.length → (s.fn H ds).results = [.lit (.bool true)] ∧ (s.fn H ds).args = ds ∧ (s.fn H ds).vars = [])
 (call : ∀ (W : World) (base : Nat) (args : Array Value) (ds : List (DataW H)) (ps : List MemPlace), W.ShapedOpen C.prog → (∀ (j : Nat) t v, fn.params[j]? = some t → args[j]? = some v → Value.okWide C.prog W .any base t v) →
   DataW.TrodAll enc C.prog W 0 (fun _ => true) true fn.params.toList args.toList ds ps → laidMetH C.prog laid W → Calls C.prog f args W fun e w' => e = .returned (.bool true) ∧ Grow W w') :
 ReturnsInHanded {} C os f .any (fun w args => (s.pre enc C.prog fn [] false w args ∧ laidMetH C.prog laid w) ∧ sizedMet enc C.prog fn (OpenSpec.ofChange s) false w args) (s.post enc C.prog fn false true false false) := by
 refine returnsInHanded_of_calls own started noInit witness ?_
 intro w tape i _ hsh _ hok hpre _
 obtain ⟨_, _, _, fn', hfn', _, _, _, _, hval⟩ := hok
 have e : fn' = fn := Option.some.inj (hfn'.symm.trans hfn)
 subst e
 obtain ⟨⟨⟨ds, gs, before, hw, _⟩, hL⟩, _⟩ := hpre
 have hL' : laidMetH C.prog laid (w.forCall tape i) := laidMetH.of_heap (by rfl) hL
 have hW : DataW.Whole enc C.prog fn'.params.toList s.vars false (w.forCall tape i) i.args.toList ds gs before := DataW.Whole.of_heap (w' := w.forCall tape i) (by rfl) hw
 have hW' := hW
 obtain ⟨p, q, hA, hV, rfl, hfz, hnd⟩ := hW
 rw [hvars] at hV
 obtain ⟨rfl, rfl⟩ := trodVars_none hV
 refine (call _ w.heap.size i.args ds p hsh hval hA hL').mono fun e W' ⟨he, hg⟩ => ?_
 subst he
 obtain ⟨h1, h2, h3⟩ := hs ds (TrodAll.len hA).1
 have hlt : ∀ x ∈ p, x.block < (w.forCall tape i).heap.size := fun x hx => hW'.lt x (List.mem_append_left _ hx)
 have e1 : ds ++ [] = ds := List.append_nil ds
 refine ChangeSpec.post_blind (enc := enc) ⟨ds, [], p ++ [], [], p, [], hW', ?_, ?_, ?_, hg.kept _, fun h => by cases h⟩
 ·rw [e1, h1, hrt]
  exact trodAll_cons_mk (shut_bool hb _) trodAll_mk0
 ·rw [e1, h2]
  exact TrodAll.below hl hg.below hrd hA hlt
 ·rw [e1, h3, hvars]
  rfl
theorem glob_num {ρ : List Value} {o g t : Nat} {zero : Array Value} (h : W.ShapedOpen P) (hg : g < P.globals.size) (h0 : ((begin P (fun _ _ => 0) default).world.heap[g]?).bind Obj.row? = some (zero, t)) (hz : zero.size = 1)
 (hb : P.buildable t = true) (hts : P.cellTypes P.depth t = some [t]) (he : P.underlying t = some (.int .i64)) :
 ∃ tab : List Int, tab.length = 1 ∧ has (fun _ => none) ρ W o (.glob g (.ints .i64 tab)) := by
 obtain ⟨cs, h1, h2, h3⟩ := h.1 g zero t hg h0
 obtain ⟨ts, h4, _, h5⟩ := h3 hb
 rw [hts] at h4
 obtain rfl := Option.some.inj h4
 have hlt : 0 < cs.size := by omega
 obtain ⟨u, hu, hc⟩ := h5 0 cs[0] (by simp [hlt])
 obtain rfl : u = t := by simpa using hu.symm
 unfold Cell.ok at hc
 rw [he] at hc
 obtain ⟨m, hm⟩ : ∃ m : Int, cs[0] = Value.int .i64 m := by
  cases hv : cs[0] <;> rw [hv] at hc <;> simp only at hc
  obtain ⟨rfl, _⟩ := hc
  exact ⟨_, rfl⟩
 refine ⟨[m], rfl, rfl, cs, u, _, h1, fun i f x hi hx => ?_⟩
 simp only [Cont.len, List.length_singleton] at hi
 obtain rfl : i = 0 := by omega
 cases f with
 | succ f => simp [Cont.cell] at hx
 | zero =>
   simp [Cont.cell] at hx
   subst hx
   refine ⟨?_, rfl⟩
   simp [Cont.esz, hlt, hm]
theorem card_goes (Lk : Looks) {p : Pinned} {s : OpenSpec} {c : OpenClaim} (kinds : List LaidKind) (tests : Bool) (har : Bool × String) (lk : Bool)
 (hc : c.holds p s) (hw : c.wfByText s = true) (htie : c.laidByTextAt Lk p kinds tests)
 (hst : c.start = .entering) (hnb : c.noBlocks = false ∧ c.again = false) (hm : p.checked.prog.mainIs = some (har.1, har.2.toList)) (hn : (!har.1 && har.2.isEmpty && !lk) = false)
 (hl : ∀ f fn, p.checked.prog.funcNamed c.func = some f → p.checked.prog.funcs[f]? = some fn → lk = p.checked.prog.looks [] ∧ ∀ (j : Nat) t, fn.params[j]? = some t → p.checked.prog.wantsStandIn t = false)
 (hg : true = c.goesBy p.checked.prog) :
 Claim7.holds p (.plain s) { stood := { row := c, standIns := [], harness := har, looks := lk }, kinds := [], alts := [], goes := true, laidByText := true, laidKinds := kinds, laidTests := tests, laidLooks := Lk } := by
 have h6 : Claim7.isSixth { stood := { row := c, standIns := [], harness := har, looks := lk }, kinds := [] } = false := by simpa [Claim7.isSixth] using hn
 refine ⟨Claim7.tied_new_at Lk kinds tests (Claim7.new_of_sixth hc har lk hst hnb hm h6 hl) hw, fun D hD => ?_, htie, (fun h => by cases h), hg⟩
 cases hD
end Go.Av
