import Derived.Test.YtoohhgembcdhpaaGreatAvIy
import Derived.Below
set_option linter.unusedSimpArgs false
set_option linter.unusedVariables false
namespace Go.Av
open Go
variable {P : Program} {N : Nat} {pin : List Nat} {H : List AObj}
def matchIt (H : List AObj) (m : List Nat) (p : Nat) : AObj → Prop
 | .row false c => H[p]? = some (.row false c)
 | .rbox cells => match H[p]? with | some (.rbox cells') => fit1s m cells cells' | _ => False
 | _ => False
def matchIts (H : List AObj) (m : List Nat) : List Nat → List AObj → Prop
 | [], [] => True
 | p :: l, ob :: Hc => p < H.length ∧ matchIt H m p ob ∧ matchIts H m l Hc
 | _, _ => False
theorem matchIts_spec {m : List Nat} : ∀ {l : List Nat} {Hc : List AObj}, matchIts H m l Hc → l.length = Hc.length ∧ ∀ (j p : Nat) (ob : AObj), l[j]? = some p → Hc[j]? = some ob → p < H.length ∧ matchIt H m p ob
 | [], [], _ => ⟨rfl, fun j o ob h => by simp at h⟩
 | o :: l, ob :: Hc, h => by
   obtain ⟨h1, h2, h3⟩ := h
   obtain ⟨h4, h5⟩ := matchIts_spec h3
   refine ⟨by simp [h4], fun j o' ob' ho hob => ?_⟩
   cases j with
   | zero => simp at ho hob; subst ho hob; exact ⟨h1, h2⟩
   | succ j => exact h5 j o' ob' (by simpa using ho) (by simpa using hob)
 | [], _ :: _, h => h.elim
 | _ :: _, [], h => h.elim
theorem awp_rangeFunc {g : Nat} {ps : Array Tmp} {asg body : Code} {Q : Exit → Env → List AObj → Prop} {E : Env} (pin' : List Nat) (E0 : Env) (m : List Nat) (Hc : List AObj) (J : Option Code) (Hs' : List AObj) {o f : Nat}
 (hit : ∀ (L : LoopC) (πv : Pv), L.asg = asg → L.body = body → L.ps = ps → L.tm.size = N → (∀ x ∈ [(L.d0, Obj.deferred (some []))], x.1 ≠ L.l) → (∀ b, ¬ πv.z b) →
   FnA P f [.v (yv L.l), .pp 1 0] (.ext (L.st E0 pin' πv [(L.d0, .deferred (some []))] none H) :: Hc) [] (fun _ H' => ∃ T, H' = .ext (L.st E0 pin' πv [(L.d0, .deferred (some []))] J Hs') :: T))
 (hk : Q (exitOf J) E0 (Hs' ++ [.dead]))
 (hg : E.lookup g = some (.ip o (.clo f))) (hE : ∀ t x, E0.lookup t = some x → E.lookup t = some x ∨ x = .top) (hm0 : m[0]? = some o) (hmat : matchIts H (H.length :: m) m Hc)
 (hpp : ∀ x ∈ pin, x ∈ pin') (hp' : ∀ x ∈ pin', x < H.length) (hnv : ∀ (p : Nat) (c : Cont), H[p]? ≠ some (.view H.length c))
 (hJ : J = none ∨ J = some .ret ∨ ∃ id, J = some (.exit id)) :
 awp none P N pin (.rangeFunc (.tmp g) ps asg body) Q E H := by
 classical
 intro πv γ ρ a w hst
 have hH := hst.heap
 obtain ⟨b0, hb1, hb2⟩ : ∃ b, ρ[o]? = some (.pointer (some ⟨b, 0, none⟩)) ∧ a.eval (.tmp g) = .func (.func f) #[] #[.pointer (some ⟨b, 0, none⟩)] := by
  obtain ⟨b, h1, h2⟩ := hst.env g _ hg
  exact ⟨b, h1, h2⟩
 obtain ⟨hml, hmt⟩ := matchIts_spec hmat
 have hmp : 0 < Hc.length := by rw [← hml]; exact (List.getElem?_eq_some_iff.1 hm0).1
 refine wpIn_rangeFunc ?_
 intro fn _
 let L : LoopC := { l := w.heap.size + 1, fn := fn, tm := a.tmps, ps := ps, asg := asg, body := body, d0 := w.heap.size }
 let πw : Pv := ⟨fun o => ρ.getD o undef, fun _ => False⟩
 have hL := hit L πw rfl rfl rfl hst.size (fun x hx => by simp at hx; subst hx; simp [L]) (fun _ h => h)
 obtain ⟨W1, hW1⟩ : ∃ W1, (w.alloc (.deferred (some []))).alloc (.loop (L.rcd none)) = W1 := ⟨_, rfl⟩
 have hW1s : W1.heap.size = w.heap.size + 2 := by rw [← hW1]; simp
 have hL1 : W1.heap[w.heap.size + 1]? = some (.loop (L.rcd none)) := by
  rw [← hW1]; have := World.alloc_heap_new (w.alloc (.deferred (some []))) (.loop (L.rcd none)); rwa [World.size_alloc] at this
 have hK1 : W1.heap[w.heap.size]? = some (.deferred (some [])) := by
  rw [← hW1]; exact (Go.RowKit.Below.heap_alloc _ _ _ (by simp)).trans (World.alloc_heap_new w _)
 have hO1 : ∀ b, b < w.heap.size → W1.heap[b]? = w.heap[b]? := fun b hb => by
  rw [← hW1]; exact (Go.RowKit.Below.heap_alloc _ _ _ (by simp; omega)).trans (Go.RowKit.Below.heap_alloc _ _ _ hb)
 have hgn : ∀ b, w.heap.size ≤ b → γ b = none := fun b hb => by
  cases hx : γ b with
  | none => rfl
  | some p => exact absurd (hH.lab b p hx).2 (by omega)
 refine ⟨w.heap.size + 1, [{ target := .collected w.heap.size, args := #[] }], W1, { target := .fn (.func f) #[.pointer (some ⟨b0, 0, none⟩)], args := #[.func (.yield (w.heap.size + 1)) #[] #[]] }, W1, f,
  ([yv L.l, .pointer (some ⟨b0, 0, none⟩)] : List Value).toArray, W1, ?_, ?_, ?_, ?_, fun h => by simp [FW] at h, ?_⟩
 ·rw [← hW1]; exact run_enterLoop_outer _ _ _ _ _
 ·simp only [resolve, hb2]
  simp [go_sem]
 ·intro f' _; trivial
 ·have en := hL.enters
  simp [invoke, go_sem, en #[.func (.yield (w.heap.size + 1)) #[] #[], .pointer (some ⟨b0, 0, none⟩)] W1, yv, L]
 ·let n := H.length
  let γc : Nat → Option Nat := fun b => if b = w.heap.size ∨ b = w.heap.size + 1 then some n else γ b
  let γi : Nat → Option Nat := fun b => if γ b = none ∧ b ≠ w.heap.size ∧ b ≠ w.heap.size + 1 then none else some 0
  have hγi0 : ∀ b, b < w.heap.size → γ b = none → γi b = none := fun b hb hn => by simp only [γi]; rw [if_pos ⟨hn, by omega, by omega⟩]
  have hγin : ∀ b, γi b = none → γ b = none ∧ b ≠ w.heap.size ∧ b ≠ w.heap.size + 1 := fun b hb => by
   simp only [γi] at hb; split at hb
   ·assumption
   ·cases hb
  have hγis : ∀ b p, γi b = some p → p = 0 ∧ b < W1.heap.size := fun b p hb => by
   simp only [γi] at hb; split at hb
   ·cases hb
   ·rename_i h
    refine ⟨by simpa using hb.symm, ?_⟩
    rw [hW1s]
    by_cases hlt : b < w.heap.size
    ·omega
    ·have := hgn b (by omega)
     have h2 : b = w.heap.size ∨ b = w.heap.size + 1 := by
      rcases Nat.lt_or_ge b (w.heap.size + 2) with h3 | h3
      ·omega
      ·exact absurd ⟨this, by omega, by omega⟩ h
     omega
  let ρc := ρ ++ [undef]
  have hρl : ρ.length = n := hH.len
  have hHc : HeapOk γc ρc (H ++ [.dead]) W1 := by
   refine hH.push undef .dead (fun b hb => ⟨hO1 b hb, ?_⟩) (by omega) (fun b p hb hp => ?_) trivial
   ·simp only [γc]; rw [if_neg (by omega)]
   ·simp only [γc] at hp; split at hp
    ·rename_i h; cases hp; exact ⟨rfl, by omega⟩
    ·rw [hgn b hb] at hp; cases hp
  let Φ0 := L.st E0 pin' πw [(L.d0, .deferred (some []))] none H
  have hΦ0 : Φ0.p (fun b => γi b = some 0) (fun b => γi b = none) W1 := by
   refine ⟨hnv, γc, ρc, hHc, fun t x hx => ?_, fun o ho => ?_, fun b hb hn => ?_, fun b p hb hp => ?_, fun x hx => ?_⟩
   ·rcases hE t x hx with h1 | rfl
    ·exact (hst.env t x h1).ext _
    ·exact trivial
   ·have hlt : o < ρ.length := by rw [hρl]; exact hp' o ho
    show (ρ ++ [undef])[o]? = some (ρ.getD o undef)
    rw [List.getElem?_append_left hlt]; simp [List.getD, hlt]
   ·simp only [γc] at hn; split at hn
    ·cases hn
    ·rename_i h
     simp only [γi]; rw [if_pos ⟨hn, by omega, by omega⟩]
   ·simp only [γc] at hb; split at hb
    ·cases hb; exact absurd hp (Nat.lt_irrefl _)
    ·simp only [γi]; rw [if_neg (fun h => by rw [h.1] at hb; cases hb)]
   ·rcases List.mem_cons.1 hx with rfl | hx
    ·exact ⟨by simp only [γi, L]; rw [if_neg (fun h => h.2.2 rfl)], by simp only [γc, L]; rw [if_pos (.inr trivial)], hL1⟩
    ·simp at hx; subst hx
     exact ⟨by simp only [γi, L]; rw [if_neg (fun h => h.2.1 rfl)], by simp only [γc, L]; rw [if_pos (.inl trivial)], hK1⟩
  let ρi : List Value := (H.length :: m).map fun o => ρc.getD o undef
  have hρi : ∀ (j p : Nat), (H.length :: m)[j]? = some p → ρi[j]? = ρc[p]? := fun j p h => by
   have hlt : p < ρc.length := by
    simp only [ρc, List.length_append, hρl, List.length_singleton]
    cases j with
    | zero => simp at h; omega
    | succ j =>
      have hj := (List.getElem?_eq_some_iff.1 (show m[j]? = some p by simpa using h)).1
      have := (hmt j p _ (by simpa using h) (List.getElem?_eq_getElem (by omega : j < Hc.length))).1
      simp only [n]; omega
   show ((H.length :: m).map fun o => ρc.getD o undef)[j]? = _
   rw [List.getElem?_map, h]
   simp [List.getD, hlt]
  have hHi : HeapOk γi ρi (.ext Φ0 :: Hc) W1 := by
   refine ⟨by simp [ρi, hml], fun j ob hob => ?_, fun b p hb => ?_⟩
   ·cases j with
    | zero => simp at hob; subst hob; exact hΦ0
    | succ j =>
      have hob' : Hc[j]? = some ob := by simpa using hob
      have hj : j < m.length := by rw [hml]; exact (List.getElem?_eq_some_iff.1 hob').1
      obtain ⟨p, hp⟩ : ∃ p, m[j]? = some p := ⟨m[j], List.getElem?_eq_getElem hj⟩
      obtain ⟨hpl, hmo⟩ := hmt j p ob hp hob'
      have hρj := hρi (j + 1) p (by simpa using hp)
      have hρp : ρc[p]? = ρ[p]? := List.getElem?_append_left (by omega)
      cases ob with
      | row own c =>
        cases own with
        | true => exact hmo.elim
        | false =>
          obtain ⟨u, g1, g2⟩ := hH.obj p _ hmo
          refine ⟨u, by rw [hρj, hρp]; exact g1, g2.stay fun b hb hlt => ⟨hO1 b hlt, ?_⟩⟩
          simp only [Bool.false_eq_true, if_false] at hb ⊢
          exact hγi0 b hlt hb
      | rbox cells =>
        simp only [matchIt] at hmo
        split at hmo
        ·rename_i cells' heq
         obtain ⟨b, arr, e, fz, g1, g2, g3, g4⟩ := hH.obj _ _ heq
         have hlt := (Array.getElem?_eq_some_iff.1 g3).1
         exact ⟨b, arr, e, fz, by rw [hρj, hρp]; exact g1, hγi0 b hlt g2, (hO1 b hlt).trans g3, fit1s.rel1s hρi hmo (g4.ext _)⟩
        ·exact hmo.elim
      | _ => exact hmo.elim
   ·obtain ⟨h1, h2⟩ := hγis b p hb; exact ⟨by rw [h1]; simp, h2⟩
  have hus : Rels ρi [.v (yv L.l), .pp 1 0] [yv L.l, .pointer (some ⟨b0, 0, none⟩)] := by
   refine ⟨rfl, fun j x u hx hu => ?_⟩
   match j, hx, hu with
   | 0, hx, hu => simp at hx hu; subst hx hu; exact rfl
   | 1, hx, hu =>
     simp at hx hu; subst hx hu
     refine ⟨b0, ?_, rfl⟩
     rw [hρi 1 o (by simpa using hm0)]
     exact (List.getElem?_append_left (List.getElem?_eq_some_iff.1 hb1).1).trans hb1
   | j + 2, hx, hu => simp at hx
  refine callsIn_FW.2 ((hL.calls γi ρi _ W1 hHi hus).mono ?_)
  rintro e w3 ⟨r, x, γ1, ρ1, H1, rfl, ⟨T, rfl⟩, _, hH1, hfr1, _, _⟩
  obtain ⟨hnv', γ4, ρ4, hH4, hE4, hp4, hD4, hS4, hb4⟩ := hH1.obj 0 _ rfl
  obtain ⟨l1, l2, l3⟩ := hb4 (L.l, .loop (L.rcd J)) (List.mem_cons_self ..)
  obtain ⟨d1, d2, d3⟩ := hb4 (L.d0, .deferred (some [])) (List.mem_cons_of_mem _ (List.mem_singleton.2 rfl))
  simp only at l1 l2 l3 d1 d2 d3
  have hnb : (L.rcd J).state ≠ .busy := by unfold LoopC.rcd; cases J <;> simp
  have hend := run_endLoop (P := P) l3 hnb
  generalize hw4 : w3.putObj L.l (.loop { L.rcd J with state := .exhausted }) = w4 at hend
  have hlz : L.l < w3.heap.size := (Array.getElem?_eq_some_iff.1 l3).1
  have hw4o : ∀ b, b ≠ L.l → w4.heap[b]? = w3.heap[b]? := fun b hb => by rw [← hw4]; exact World.putObj_heap_other hb
  have hw4s : w4.heap.size = w3.heap.size := by rw [← hw4]; simp
  let n' := Hs'.length
  let γ' : Nat → Option Nat := fun b => match γ4 b with | some o => if o < n' then some o else none | none => none
  have hg' : ∀ b p, γ4 b = some p → p ≠ n' → γ' b = some p := fun b p hb hp => by
   have := (hH4.lab b p hb).1
   simp only [γ', hb]; rw [if_pos (by simp at this; omega)]
  have hne : ∀ b, γ4 b ≠ some n' → b ≠ L.l := fun b hb e => by subst e; exact hb l2
  have hH5 : HeapOk γ' ρ4 (Hs' ++ [.dead]) w4 := by
   refine ⟨hH4.len, fun p ob hp => ?_, fun b p hb => ?_⟩
   ·have h0 := hH4.obj p ob hp
    by_cases hpn : p = n'
    ·subst hpn; simp [n'] at hp; subst hp; exact trivial
    ·have hpl : p < n' := by have := (List.getElem?_eq_some_iff.1 hp).1; simp at this; omega
     have := has.move (γ' := γ') (ρ' := ρ4) (w' := w4) [n'] h0 (by simpa using hpn) (fun _ _ h => h) (by omega) (fun b p hb => (hH4.lab b p hb).2)
      (fun b p hb hb2 hp => ⟨hw4o b (hne b (by rw [hb2]; simpa using hp)), hg' b p hb2 (by simpa using hp)⟩)
      (fun b hb hb2 _ => ⟨hw4o b (hne b (by rw [hb2]; simp)), by simp only [γ', hb2]⟩)
     have e : ob.gone [n'] = ob := by
      cases ob <;> simp only [AObj.gone]
      rename_i s c
      rw [if_neg]
      intro hs
      have : s = n' := by simpa using hs
      subst this
      rw [List.getElem?_append_left hpl] at hp
      exact hnv' p c hp
     rwa [e] at this
   ·simp only [γ'] at hb
    split at hb
    ·rename_i p' hp'
     split at hb
     ·cases hb; have := hH4.lab b p hp'; exact ⟨this.1, by omega⟩
     ·cases hb
    ·cases hb
  have hkeep : ∀ b, b < w.heap.size → γ b = none → w4.heap[b]? = w.heap[b]? ∧ γ' b = none := fun b hb hn => by
   obtain ⟨k1, k2⟩ := hfr1.keep b (by omega) (hγi0 b hb hn)
   refine ⟨(hw4o b (by simp only [L]; omega)).trans (k1.trans (hO1 b hb)), ?_⟩
   simp only [γ']
   split
   ·rename_i p hp
    rw [if_neg]
    intro hpl
    have := hS4 b p hp hpl
    have this : γ1 b = some 0 := this
    rw [k2] at this; cases this
   ·rfl
  have hfr : Fr γ w γ' w4 := by
   have e1 : W1.os = w.os ∧ W1.tape = w.tape ∧ W1.output = w.output ∧ W1.drawn = w.drawn := by rw [← hW1]; exact ⟨rfl, rfl, rfl, rfl⟩
   have e4 : w4.os = w3.os ∧ w4.tape = w3.tape ∧ w4.output = w3.output ∧ w4.drawn = w3.drawn := by rw [← hw4]; exact ⟨rfl, rfl, rfl, rfl⟩
   refine ⟨e4.1.trans (hfr1.os.trans e1.1), e4.2.1.trans (hfr1.tape.trans e1.2.1), e4.2.2.1.trans (hfr1.output.trans e1.2.2.1), by have := hfr1.size; omega, hkeep, ?_⟩
   have := hfr1.drawn; rw [e4.2.2.2]; rw [e1.2.2.2] at this; exact this
  have hdf : Defs πv.z γ' w4 ([{ target := .collected w.heap.size, args := #[] }] ++ a.defers) := by
   obtain ⟨g0, ks, g1, g2, g3⟩ := hst.defs.keep hkeep
   obtain ⟨q0, ks0, q1, q2, q3⟩ := hst.defs
   have hks : ks = ks0 := by
    rw [g1] at q1
    have key : ∀ (l k : List Nat), l.map markOf = k.map markOf → l = k := by
     intro l
     induction l with
     | nil => intro k h; cases k <;> simp at h ⊢
     | cons x l ih =>
       intro k h
       cases k with
       | nil => simp at h
       | cons y k =>
         simp only [List.map_cons, List.cons.injEq] at h
         have h1 : x = y := by simpa [markOf] using h.1
         rw [h1, ih k h.2]
    exact key ks ks0 q1
   refine ⟨g0, w.heap.size :: ks, by rw [g1]; rfl, List.nodup_cons.2 ⟨fun hm => ?_, g2⟩, fun k hm => ?_⟩
   ·rw [hks] at hm
    exact absurd (Array.getElem?_eq_some_iff.1 (q3 _ hm).2.1).1 (Nat.lt_irrefl _)
   ·rcases List.mem_cons.1 hm with rfl | hm
    ·refine ⟨fun hz => absurd (q0 _ hz).1 (Nat.lt_irrefl _), (hw4o _ (by simp only [L]; omega)).trans d3, ?_⟩
     have d2' : γ4 w.heap.size = some n' := d2
     simp only [γ', d2']; rw [if_neg (Nat.lt_irrefl _)]
    ·exact g3 k hm
  have hst' : St N pin πv γ' ρ4 E0 (Hs' ++ [.dead]) { a with defers := [{ target := .collected w.heap.size, args := #[] }] ++ a.defers } w4 :=
   ⟨hst.size, hdf, hE4, hH5, fun p hp => by
    rw [hp4 p (hpp p hp)]
    have hlt : p < ρ.length := by rw [hρl]; exact hp' p (hpp p hp)
    have := hst.pins p hp
    show some (ρ.getD p undef) = _
    rw [← this]; simp [List.getD, hlt]⟩
  refine ⟨_, w4, hend, ?_⟩
  have hrp : (L.rcd J).pending = J := rfl
  rw [hrp]
  rcases hJ with rfl | rfl | ⟨id, rfl⟩
  ·exact ⟨γ', ρ4, E0, _, hk, hst', hfr⟩
  ·exact wpIn_ret ⟨γ', ρ4, E0, _, hk, hst', hfr⟩
  ·exact wpIn_exit ⟨γ', ρ4, E0, _, hk, hst', hfr⟩
end Go.Av
