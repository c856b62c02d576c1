import Derived.Test.YtbhbaijbdciafaaGreatDoorAvS
import Derived.ProofKit
import Derived.OpenShut
import Derived.Deep.Slices
set_option linter.unusedSimpArgs false
set_option linter.unusedVariables false
namespace Go.Av
open Go Go.ChangeShapes Go.RowKit
variable {H : Type} {enc : TypeId × Value → H} {P : Program} {w W W' : World}
theorem each {X : Type} {p : Nat → X → Prop} : ∀ (n : Nat), (∀ i, i < n → ∃ x, p i x) → ∃ xs : List X, xs.length = n ∧ ∀ (i : Nat) (x : X), xs[i]? = some x → p i x
 | 0, _ => ⟨[], rfl, fun i x hx => by simp at hx⟩
 | n + 1, h => by
   obtain ⟨xs, h1, h2⟩ := each n fun i hi => h i (by omega)
   obtain ⟨x, hx⟩ := h n (by omega)
   refine ⟨xs ++ [x], by simp [h1], fun i y hy => ?_⟩
   by_cases hi : i < xs.length
   ·rw [List.getElem?_append_left hi] at hy; exact h2 i y hy
   ·rw [List.getElem?_append_right (by omega)] at hy
    have : i = n := by have := (List.getElem?_eq_some_iff.1 hy).1; simp at this; omega
    subst this
    rw [h1] at hy
    simp at hy; subst hy; exact hx
abbrev ElemOk (w : World) {X : Type} (cv : X → List CV) (cs : List Value) (x : X) : Prop := ∀ (f : Nat) (c : CV), (cv x)[f]? = some c → ∃ u, cs[f]? = some u ∧ u.oneCell' = true ∧ CRep false w (fun _ => True) c u
theorem add_cell {a : Addr} {n : Nat} {v : Value} (h : w.cell? (a.add n) = some v) : ∃ arr e fz, w.heap[a.block]? = some (.cells arr e fz) ∧ arr[a.off + n]? = some v := by
 have hb : (a.add n).block = a.block := by unfold Addr.add; split <;> rfl
 have ho : (a.add n).off = a.off + n := by unfold Addr.add; split <;> simp_all
 unfold World.cell? at h
 rw [hb] at h
 split at h
 ·rename_i c x y hh
  split at h
  ·cases h
  ·rw [ho] at h; exact ⟨_, _, _, hh, h⟩
 ·cases h
theorem open_rows {X : Type} {esz : Nat} {cv : X → List CV} {t e : TypeId} {fuel : Nat} {cs : List Value} {y : DataW H × List MemPlace} (ht : P.underlying t = some (.slice e)) (hc : P.cellsOf e = esz) (hpos : 0 < esz)
 (hlen : ∀ x, (cv x).length = esz) (elem : ∀ n cs y, DataW.trod enc P w 0 (fun _ => true) true n e cs = some y → ∃ x : X, ElemOk w cv cs x)
 (h : DataW.trod enc P w 0 (fun _ => true) true fuel t cs = some y) : ∃ v, cs = [v] ∧ v.oneCell' = true ∧ ∃ xs : List X, CRep false w (fun _ => True) (.sl esz (xs.map cv)) v ∧ xs.length ≤ maxLen := by
 rcases Go.Deep.open_slice ht h with ⟨rfl, _⟩ | ⟨a, len, cap, m, n, D, Pl, rfl, _, hl, hm, hmm, _, hx⟩
 ·exact ⟨_, rfl, rfl, [], .nil _ _ _, Nat.zero_le _⟩
 ·simp at hmm
  subst hmm
  refine ⟨_, rfl, rfl, ?_⟩
  rcases Nat.eq_zero_or_pos len with rfl | hp
  ·exact ⟨[], .ronil _ _ _ _ rfl, Nat.zero_le _⟩
  rw [hc] at hx
  have hcell : ∀ i, i < m → ∃ cs', cs'.length = esz ∧ (∀ f, f < esz → w.cell? ((a.add (i * esz)).add f) = cs'[f]?) ∧ DataW.trod enc P w 0 (fun _ => true) true n e cs' = some (D i, Pl i) := fun i hi => by
   obtain ⟨cs', h1, h2⟩ := hx i hi
   obtain ⟨_, h3, h4⟩ := World.cells?_some h1
   exact ⟨cs', h3, h4, h2⟩
  have addadd : ∀ (i f : Nat), (a.add i).add f = a.add (i + f) := fun i f => by
   unfold Addr.add; repeat' split
   all_goals first | rfl | (exfalso; omega) | (simp; omega) | (congr 1; simp_all; done) | (simp_all; done) | (simp [Nat.add_assoc])
  have harr : ∃ arr e fz, w.heap[a.block]? = some (.cells arr e fz) ∧ a.spot = none := by
   obtain ⟨cs', h1, h2, _⟩ := hcell 0 (by omega)
   have h3 := h2 0 hpos
   rw [addadd] at h3
   obtain ⟨u, hu⟩ : ∃ u, cs'[0]? = some u := ⟨cs'[0]'(by omega), List.getElem?_eq_getElem _⟩
   rw [hu] at h3
   obtain ⟨arr, e, fz, h4, h5⟩ := add_cell h3
   refine ⟨arr, e, fz, h4, ?_⟩
   simp [Addr.add, World.cell?, h4] at h3
   cases hs : a.spot with
   | none => rfl
   | some s => simp [hs] at h3
  obtain ⟨arr, e', fz, hb, hs⟩ := harr
  have hidx : ∀ i f, i < m → f < esz → ∃ u, arr[a.off + i * esz + f]? = some u := fun i f hi hf => by
   obtain ⟨cs', h1, h2, _⟩ := hcell i hi
   have h3 := h2 f hf
   rw [addadd] at h3
   obtain ⟨u, hu⟩ : ∃ u, cs'[f]? = some u := ⟨cs'[f]'(by omega), List.getElem?_eq_getElem _⟩
   rw [hu] at h3
   obtain ⟨arr', _, _, h4, h5⟩ := add_cell h3
   rw [hb] at h4
   simp at h4
   rw [← h4.1, ← Nat.add_assoc] at h5
   exact ⟨u, h5⟩
  obtain ⟨xs, hxl, hxs⟩ := each (p := fun i (x : X) => ∃ cs', cs'.length = esz ∧ (∀ f, f < esz → w.cell? ((a.add (i * esz)).add f) = cs'[f]?) ∧ ElemOk w cv cs' x) len fun i hi => by
   obtain ⟨cs', h1, h2, h3⟩ := hcell i (by omega)
   obtain ⟨x, hx⟩ := elem _ _ _ h3
   exact ⟨x, cs', h1, h2, hx⟩
  refine ⟨xs, ?_, by omega⟩
  obtain ⟨ab, ao, as⟩ := a
  simp only at hs hb hidx
  subst hs
  refine .row _ esz _ ab ao m arr e' fz _ (fun i f => (arr[ao + i * esz + f]?).getD undef) (fun _ => (0, 0)) trivial hb (fun h => by cases h) (by simp [hxl]) hl hm ?_ ?_ ?_ ?_
  ·obtain ⟨u, hu⟩ := hidx (m - 1) (esz - 1) (by omega) (by omega)
   have h1 := (Array.getElem?_eq_some_iff.1 hu).1
   have h2 : (m - 1) * esz + esz = m * esz := by rw [← Nat.succ_mul]; congr 1; omega
   omega
  ·intro r hr
   obtain ⟨x, _, rfl⟩ := List.mem_map.1 hr
   exact hlen x
  ·intro i f hi hf
   obtain ⟨u, hu⟩ := hidx i f (by simp [hxl] at hi; omega) hf
   rw [hu]; rfl
  ·intro i f row c hr hc'
   rw [List.getElem?_map] at hr
   cases hxi : xs[i]? with
   | none => rw [hxi] at hr; cases hr
   | some x =>
     rw [hxi] at hr
     simp at hr; subst hr
     obtain ⟨cs', h1, h2, h3⟩ := hxs i x hxi
     obtain ⟨u, h4, _, h5⟩ := h3 f c hc'
     have hf : f < esz := by rw [← h1]; exact (List.getElem?_eq_some_iff.1 h4).1
     have h6 := h2 f hf
     rw [addadd, h4] at h6
     obtain ⟨arr', _, _, h7, h8⟩ := add_cell h6
     simp only at h7 h8
     rw [hb] at h7
     simp at h7
     rw [← h7.1, ← Nat.add_assoc] at h8
     simp only [h8, Option.getD_some]
     exact h5.mono fun b _ => ⟨trivial, fun h => by cases h⟩
theorem ElemOk.one {X : Type} {cv : X → CV} {x : X} {u : Value} (h1 : u.oneCell' = true) (h2 : CRep false w (fun _ => True) (cv x) u) : ElemOk w (fun x => [cv x]) [u] x := fun f c hc => by
 cases f with
 | zero => simp at hc; subst hc; exact ⟨_, rfl, h1, h2⟩
 | succ f => simp at hc
theorem trod_int' {e : TypeId} {k : IntKind} (he : P.underlying e = some (.int k)) {n : Nat} {cs : List Value} {y : DataW H × List MemPlace} (h : DataW.trod enc P w 0 (fun _ => true) true n e cs = some y) : ∃ x : Int, cs = [.int k x] ∧ (Lit.int k x).wf = true := by
 cases n with
 | zero => simp [DataW.trod] at h
 | succ n =>
   unfold DataW.trod at h
   rw [he] at h
   split at h <;> simp_all
theorem Trod.cells {t : TypeId} {v : Value} {d : DataW H} {ps : List MemPlace} {b : Nat} {sp : Nat → Bool} {hd : Bool} (h : DataW.Trod enc P w b sp hd t v d ps) : ∃ n, DataW.trod enc P w b sp hd n t v.cells.toList = some (d, ps) := h
theorem one_of_cells {v u : Value} (h : v.cells.toList = [u]) (hn : ∀ c, v ≠ .agg c) : v = u := by
 cases v <;> simp [Value.cells] at h <;> first | exact h | exact absurd rfl (hn _)
theorem arg_rows {X : Type} {esz : Nat} {cv : X → List CV} {t e : TypeId} {base : Nat} {v : Value} {d : DataW H} {ps : List MemPlace} (ht : P.underlying t = some (.slice e)) (hc : P.cellsOf e = esz) (hpos : 0 < esz) (hlen : ∀ x, (cv x).length = esz)
 (elem : ∀ n cs y, DataW.trod enc P w 0 (fun _ => true) true n e cs = some y → ∃ x : X, ElemOk w cv cs x) (hok : Value.okWide P w .any base t v) (h : DataW.Trod enc P w 0 (fun _ => true) true t v d ps) :
 ∃ xs : List X, v.oneCell' = true ∧ xs.length ≤ maxLen ∧ CRep false w (fun _ => True) (.sl esz (xs.map cv)) v := by
 obtain ⟨n, h⟩ := h
 obtain ⟨u, h1, h2, xs, h3, h4⟩ := open_rows ht hc hpos hlen elem h
 have : v = u := one_of_cells h1 fun c hc => by subst hc; simp [Value.okWide, ht, Cell.okWide, Cell.ok] at hok
 subst this
 exact ⟨xs, h2, h4, h3⟩
theorem TrodAll.below (hl : laidOutB P = true) (hb : Below W.heap.size W W') : ∀ {ts : List TypeId} {vs : List Value} {ds : List (DataW H)} {ps : List MemPlace}, (∀ t ∈ ts, P.readableRec t = true ∧ t < P.types.size) →
 DataW.TrodAll enc P W 0 (fun _ => true) true ts vs ds ps → (∀ x ∈ ps, x.block < W.heap.size) → DataW.TrodAll enc P W' 0 (fun b => decide (b < W.heap.size)) true ts vs ds ps
 | [], _, _, _, _, h, _ => by
   obtain ⟨rfl, rfl, rfl⟩ := trodAll_nil h
   exact trodAll_mk0
 | t :: ts, _, _, _, hr, h, hlt => by
   obtain ⟨v, vs', d, ds', p, q, rfl, rfl, rfl, h1, h2⟩ := trodAll_cons h
   have h0 := hr t (List.mem_cons_self ..)
   exact trodAll_cons_mk (Below.trod hl h0.1 h0.2 h1 hb fun x hx => hlt x (List.mem_append_left _ hx)) (TrodAll.below hl hb (fun t ht => hr t (List.mem_cons_of_mem _ ht)) h2 fun x hx => hlt x (List.mem_append_right _ hx))
theorem Grow.below {w w' : World} (h : Grow w w') : Below w.heap.size w w' := ⟨h.os, h.tape, h.output, h.size, h.keep⟩
theorem Grow.kept {w w' : World} (h : Grow w w') (may : MemPlace → Prop) : w.keptBut w' may := by
 refine ⟨h.os, h.output, fun i hi => ?_⟩
 rw [h.keep i hi]
 cases hx : w.heap[i]? with
 | none => rfl
 | some o => cases o <;> simp
theorem TrodAll.len {sp : Nat → Bool} {hd : Bool} {b : Nat} : ∀ {ts : List TypeId} {vs : List Value} {ds : List (DataW H)} {ps : List MemPlace}, DataW.TrodAll enc P w b sp hd ts vs ds ps → ds.length = ts.length ∧ vs.length = ts.length
 | [], _, _, _, h => by obtain ⟨rfl, rfl, rfl⟩ := trodAll_nil h; exact ⟨rfl, rfl⟩
 | t :: ts, _, _, _, h => by
   obtain ⟨v, vs', d, ds', p, q, rfl, rfl, rfl, h1, h2⟩ := trodAll_cons h
   have := TrodAll.len h2
   simp [this.1, this.2]
theorem law_call {f : FuncId} {as : List AV} {Hs : List AObj} (hF : FnA P f as Hs [] (fun x _ => x = .v (.bool true))) {args : Array Value} (ρ : List Value) (hlen : ρ.length = Hs.length)
 (hob : ∀ o ob, Hs[o]? = some ob → has (fun _ => none) ρ W o ob) (hr : Rels ρ as args.toList) : Calls P f args W (fun e w' => e = .returned (.bool true) ∧ Grow W w') := by
 have h1 := hF.calls (fun _ => none) ρ args.toList W ⟨hlen, hob, fun b o hb => by cases hb⟩ hr
 simp only [Array.toArray_toList] at h1
 refine h1.mono fun e w' ⟨r, x, γ', ρ', H', h2, h3, h4, h5, h6, h7⟩ => ?_
 subst h3
 have : r = .bool true := h4
 subst this
 exact ⟨h2, h6.os, h6.tape, h6.output, h6.size, fun b hb => (h6.keep b hb rfl).1, h6.drawn⟩
theorem Rels.nil {ρ : List Value} : Rels ρ [] [] := ⟨rfl, fun j y u hy => by simp at hy⟩
theorem Rels.cons {ρ : List Value} {x : AV} {u : Value} {as : List AV} {us : List Value} (h : rel ρ x u) (h' : Rels ρ as us) : Rels ρ (x :: as) (u :: us) := ⟨by simp [h'.1], fun j y t hy ht => by
 cases j with
 | zero => simp at hy ht; subst hy ht; exact h
 | succ j => exact h'.2 j y t (by simpa using hy) (by simpa using ht)⟩
def hasAll (ρ : List Value) (w : World) : Nat → List AObj → Prop
 | _, [] => True
 | k, ob :: l => has (fun _ => none) ρ w k ob ∧ hasAll ρ w (k + 1) l
theorem hasAll.at {ρ : List Value} : ∀ {l : List AObj} {k : Nat}, hasAll ρ w k l → ∀ o ob, l[o]? = some ob → has (fun _ => none) ρ w (k + o) ob
 | [], k, _, o, ob, h => by simp at h
 | x :: l, k, hh, o, ob, h => by
   cases o with
   | zero => simp at h; subst h; exact hh.1
   | succ o => rw [show k + (o + 1) = k + 1 + o by omega]; exact hasAll.at hh.2 o ob (by simpa using h)
theorem law_call' {f : FuncId} {as : List AV} {Hs : List AObj} (hF : FnA P f as Hs [] (fun x _ => x = .v (.bool true))) {args : Array Value} (ρ : List Value) (hlen : ρ.length = Hs.length)
 (hob : hasAll ρ W 0 Hs) (hr : Rels ρ as args.toList) : Calls P f args W (fun e w' => e = .returned (.bool true) ∧ Grow W w') :=
 law_call hF ρ hlen (fun o ob ho => by have := hob.at o ob ho; rwa [Nat.zero_add] at this) hr
theorem has_row {ρ : List Value} {o : Nat} {c : Cont} {v : Value} (hv : ρ[o]? = some v) (h : CRep false W (fun _ => True) (.sl c.esz c.rows) v) : has (fun _ => none) ρ W o (.row false c) := ⟨v, hv, h.mono fun b _ => rfl⟩
end Go.Av
