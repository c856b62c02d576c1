import Derived.Test.YteoedigfnfjopaaGreatAvZ
import Derived.RangeFuncIn
set_option linter.unusedSimpArgs false
set_option linter.unusedVariables false
namespace Go.Av
open Go
def yv (l : Nat) : Value := .func (.yield l) #[] #[]
def AObj.gone (ex : List Nat) : AObj → AObj
 | .view s c => if ex.contains s then .dead else .view s c
 | x => x
theorem CRep.block_cells {own : Bool} {w : World} {S : Nat → Prop} {esz n cap b off : Nat} {rows : List (List CV)} (h : CRep own w S (.sl esz rows) (.slice (some ⟨b, off, none⟩) n cap)) (hr : 0 < rows.length) : cellsAt w b := by
 cases h with
 | nil => simp at hr
 | ronil => simp at hr
 | row S esz rows b off cap arr e fz n vals lab hS hb hfz hn hcap hmax hsz hrow hval hrep => exact ⟨_, _, _, hb⟩
theorem has.move {γ γ' : Nat → Option Nat} {ρ ρ' : List Value} {w w' : World} {o : Nat} {ob : AObj} (ex : List Nat) (h : has γ ρ w o ob) (ho : o ∉ ex) (hρ : ∀ (i : Nat) (x : Value), ρ[i]? = some x → ρ'[i]? = some x) (hsz : w.heap.size ≤ w'.heap.size)
 (hlab : ∀ b p, γ b = some p → b < w.heap.size) (hn : ∀ b p, b < w.heap.size → γ b = some p → p ∉ ex → w'.heap[b]? = w.heap[b]? ∧ γ' b = some p)
 (h0 : ∀ b, b < w.heap.size → γ b = none → cellsAt w b → w'.heap[b]? = w.heap[b]? ∧ γ' b = none) : has γ' ρ' w' o (ob.gone ex) := by
 have r1 : ∀ (x : AV) (u : Value), rel1 ρ x u → rel1 ρ' x u := by
  intro x u h
  cases x <;> simp only [rel1] at h ⊢
  ·exact h
  ·exact h
  ·exact ⟨hρ _ _ h.1, h.2⟩
  ·obtain ⟨b, h1, h2⟩ := h; exact ⟨b, hρ _ _ h1, h2⟩
  ·obtain ⟨b, ofs, n, cap, h1, h2⟩ := h; exact ⟨b, ofs, n, cap, hρ _ _ h1, h2⟩
  ·obtain ⟨b, h1, h2⟩ := h; exact ⟨b, hρ _ _ h1, h2⟩
 have rs : ∀ {l : List AV} {cs : List Value}, Rel1s ρ l cs → Rel1s ρ' l cs := fun h => ⟨h.1, fun j x u h1 h2 => r1 _ _ (h.2 j x u h1 h2)⟩
 have cst : ∀ {own : Bool} {p : Nat} {S : Nat → Prop} {c : CV} {u : Value}, p ∉ ex → CRep own w S c u → (∀ b, S b → γ b = if own then some p else none) → CRep own w' (fun b => γ' b = if own then some p else none) c u := fun {own p S c u} hp hc hS => hc.cl.stay fun b hb hlt => by
  have h1 := hS b hb.1
  cases own
  ·exact h0 b hlt h1 hb.2
  ·exact hn b p hlt h1 hp
 cases ob <;> simp only [AObj.gone]
 ·exact trivial
 ·obtain ⟨b, arr, e, h1, h2, h3, h4⟩ := h
  obtain ⟨g1, g2⟩ := hn b o (hlab b o h2) h2 ho
  exact ⟨b, arr, e, hρ _ _ h1, g2, g1.trans h3, rs h4⟩
 ·obtain ⟨b, arr, e, fz, h1, h2, h3, h4⟩ := h
  obtain ⟨g1, g2⟩ := h0 b (Array.getElem?_eq_some_iff.1 h3).1 h2 ⟨_, _, _, h3⟩
  exact ⟨b, arr, e, fz, hρ _ _ h1, g2, g1.trans h3, rs h4⟩
 ·rename_i own c
  obtain ⟨u, h1, h2⟩ := h
  exact ⟨u, hρ _ _ h1, cst ho h2 fun b hb => hb⟩
 ·rename_i s c
  by_cases hs : s ∈ ex
  ·rw [if_pos (by simpa using hs)]; exact trivial
  ·rw [if_neg (by simpa using hs)]
   obtain ⟨u, h1, h2⟩ := h
   exact ⟨u, hρ _ _ h1, cst (own := true) hs h2 fun b hb => hb⟩
 ·obtain ⟨h1, arr, e, fz, h2, h3⟩ := h
  obtain ⟨g1, g2⟩ := h0 _ (Array.getElem?_eq_some_iff.1 h2).1 h1 ⟨_, _, _, h2⟩
  exact ⟨g2, arr, e, fz, g1.trans h2, h3⟩
 ·rename_i own c i f p
  obtain ⟨b, ofs, cap, h1, h2, h3, h6, h4⟩ := h
  have hb : b < w.heap.size := h3.block_lt (by simpa [Cont.holed, Cont.len_rows] using Nat.zero_lt_of_lt h2)
  have hbc : cellsAt w b := h3.block_cells (by simpa [Cont.holed, Cont.len_rows] using Nat.zero_lt_of_lt h2)
  have hst : w'.heap[b]? = w.heap[b]? ∧ γ' b = if own then some o else none := by
   cases own
   ·exact h0 b hb h6 hbc
   ·exact hn b o hb h6 ho
  refine ⟨b, ofs, cap, hρ _ _ h1, h2, cst ho h3 fun b hb => hb, hst.2, fun q hq => ?_⟩
  obtain ⟨v, h5, hv1, h7⟩ := h4 q hq
  exact ⟨v, hρ _ _ h5, hv1, by rw [World.cell?_of_block (w := w) hst.1]; exact h7⟩
 ·obtain ⟨u, h1, h2⟩ := h
  exact ⟨u, hρ _ _ h1, h2.cl.stay (fun b hb hlt => hn b o hlt hb ho) (fun b hb hlt => h0 b hlt hb.1 hb.2)⟩
 ·obtain ⟨u, h1, h2⟩ := h
  exact ⟨u, hρ _ _ h1, h2.to (fun b hb hlt => hn b o hlt hb ho) (fun q hq => ⟨q, hq, fun v hv => hρ _ _ hv⟩)⟩
 ·obtain ⟨u, h1, h2⟩ := h
  exact ⟨u, hρ _ _ h1, h2.to (fun b hb hlt => hn b o hlt hb ho)⟩
 ·exact ExtP.stay _ (ExtP.cells _ h) (fun b hlt hb => by rcases hb with hb | hb; exact (hn b o hlt hb ho).1; exact (h0 b hlt hb.1 hb.2).1) hsz (fun b hlt hb => (h0 b hlt hb.1 hb.2).2) (fun b hlt hb => (hn b o hlt hb ho).2)
open Classical in
noncomputable def ownP (Hs : List AObj) (E0 : Env) (tm : Array Value) (pin : List Nat) (πv : Pv) (book : List (Nat × Obj)) : ExtP where
 p S D w := (∀ (o : Nat) (c : Cont), Hs[o]? ≠ some (.view Hs.length c)) ∧ ∃ γc ρc, HeapOk γc ρc (Hs ++ [.dead]) w ∧ EnvOk ρc E0 tm ∧ (∀ o ∈ pin, ρc[o]? = some (πv o)) ∧ (∀ b, b < w.heap.size → γc b = none → D b) ∧
  (∀ b o, γc b = some o → o < Hs.length → S b) ∧ ∀ x ∈ book, S x.1 ∧ γc x.1 = some Hs.length ∧ w.heap[x.1]? = some x.2
 stay := by
  rintro S S' D D' w w' ⟨hv, γc, ρc, hH, hE, hpin, hD, hS, hbk⟩ hk hsz hDD hSS
  let γ' : Nat → Option Nat := fun b => if b < w.heap.size then γc b else if b < w'.heap.size then some Hs.length else none
  have hlt : ∀ b p, γc b = some p → p ≠ Hs.length → p < Hs.length := fun b p hb hp => by have := (hH.lab b p hb).1; simp at this; omega
  have hg : ∀ b, b < w.heap.size → γ' b = γc b := fun b hb => by simp only [γ']; rw [if_pos hb]
  refine ⟨hv, γ', ρc, ⟨hH.len, fun o ob ho => ?_, fun b p hb => ?_⟩, hE, hpin, fun b hb hn => ?_, fun b o hb ho => ?_, fun x hx => ?_⟩
  ·have h0 := hH.obj o ob ho
   by_cases hon : o = Hs.length
   ·subst hon; simp at ho; subst ho; exact trivial
   ·have hol : o < Hs.length := by have := (List.getElem?_eq_some_iff.1 ho).1; simp at this; omega
    have := has.move (γ' := γ') (ρ' := ρc) (w' := w') [Hs.length] h0 (by simpa using hon) (fun _ _ h => h) hsz (fun b p hb => (hH.lab b p hb).2)
     (fun b p hb hb2 hp => ⟨hk b hb (.inl (hS b p hb2 (hlt b p hb2 (by simpa using hp)))), (hg b hb).trans hb2⟩)
     (fun b hb hb2 _ => ⟨hk b hb (.inr (hD b hb hb2)), (hg b hb).trans hb2⟩)
    have e : ob.gone [Hs.length] = ob := by
     cases ob <;> simp only [AObj.gone]
     rename_i s c
     rw [if_neg]
     intro hs
     have : s = Hs.length := by simpa using hs
     subst this
     rw [List.getElem?_append_left hol] at ho
     exact hv o c ho
    rwa [e] at this
  ·simp only [γ'] at hb
   split at hb
   ·rename_i h1; exact ⟨(hH.lab b p hb).1, by omega⟩
   ·split at hb
    ·rename_i h2; cases hb; exact ⟨by simp, h2⟩
    ·cases hb
  ·simp only [γ'] at hn
   split at hn
   ·rename_i h1; exact hDD b h1 (hD b h1 hn)
   ·first | (cases hn; done) | (rw [if_pos hb] at hn; cases hn)
  ·simp only [γ'] at hb
   split at hb
   ·rename_i h1; exact hSS b h1 (hS b o hb ho)
   ·split at hb
    ·cases hb; exact absurd ho (Nat.lt_irrefl _)
    ·cases hb
  ·obtain ⟨g1, g2, g3⟩ := hbk x hx
   have h1 := (Array.getElem?_eq_some_iff.1 g3).1
   exact ⟨hSS _ h1 g1, (hg _ h1).trans g2, (hk _ h1 (.inl g1)).trans g3⟩
 cells := by
  rintro S D w ⟨hv, γc, ρc, hH, hE, hpin, hD, hS, hbk⟩
  let γ' : Nat → Option Nat := fun b => if γc b = none ∧ b < w.heap.size ∧ ¬ cellsAt w b then some Hs.length else γc b
  have hs : ∀ b p, γc b = some p → γ' b = some p := fun b p hb => by simp only [γ', hb]; simp
  refine ⟨hv, γ', ρc, ⟨hH.len, fun o ob ho => ?_, fun b p hb => ?_⟩, hE, hpin, fun b hb hn => ?_, fun b o hb ho => ?_, fun x hx => ?_⟩
  ·have h0 := hH.obj o ob ho
   by_cases hon : o = Hs.length
   ·subst hon; simp at ho; subst ho; exact trivial
   ·have hol : o < Hs.length := by have := (List.getElem?_eq_some_iff.1 ho).1; simp at this; omega
    have := has.move (γ' := γ') (ρ' := ρc) (w' := w) [Hs.length] h0 (by simpa using hon) (fun _ _ h => h) (Nat.le_refl _) (fun b p hb => (hH.lab b p hb).2)
     (fun b p hb hb2 hp => ⟨rfl, hs b p hb2⟩)
     (fun b hb hb2 hc => ⟨rfl, by simp only [γ']; rw [if_neg (fun h => h.2.2 hc)]; exact hb2⟩)
    have e : ob.gone [Hs.length] = ob := by
     cases ob <;> simp only [AObj.gone]
     rename_i s c
     rw [if_neg]
     intro hs
     have : s = Hs.length := by simpa using hs
     subst this
     rw [List.getElem?_append_left hol] at ho
     exact hv o c ho
    rwa [e] at this
  ·simp only [γ'] at hb
   split at hb
   ·rename_i h1; cases hb; exact ⟨by simp, h1.2.1⟩
   ·exact hH.lab b p hb
  ·simp only [γ'] at hn
   split at hn
   ·cases hn
   ·rename_i h1
    refine ⟨hD b hb hn, ?_⟩
    exact Classical.byContradiction fun hc => h1 ⟨hn, hb, hc⟩
  ·simp only [γ'] at hb
   split at hb
   ·cases hb; exact absurd ho (Nat.lt_irrefl _)
   ·exact hS b o hb ho
  ·obtain ⟨g1, g2, g3⟩ := hbk x hx
   exact ⟨g1, hs _ _ g2, g3⟩
def frz (F : Nat → Prop) (w0 : World) : ExtP where
 p S D w := w0.heap.size ≤ w.heap.size ∧ ∀ b, F b → S b ∧ b < w0.heap.size ∧ w.heap[b]? = w0.heap[b]?
 stay := by
  rintro S S' D D' w w' ⟨h1, h2⟩ hk hsz hDD hSS
  refine ⟨Nat.le_trans h1 hsz, fun b hb => ?_⟩
  obtain ⟨g1, g2, g3⟩ := h2 b hb
  exact ⟨hSS b (by omega) g1, g2, (hk b (by omega) (.inl g1)).trans g3⟩
 cells := fun h => h
structure FrS (S T : Nat → Prop) (w w' : World) : Prop where
 os : w'.os = w.os
 tape : w'.tape = w.tape
 output : w'.output = w.output
 size : w.heap.size ≤ w'.heap.size
 keep : ∀ b, b < w.heap.size → ¬ S b → ¬ T b → w'.heap[b]? = w.heap[b]?
 drawn : w.drawn ≤ w'.drawn
structure RoundA (P : Program) (l : Nat) (Φ : ExtP) (as : List AV) (Ha : List AObj) (R : Bool → ExtP → Prop) : Prop where
 calls : ∀ (S D T : Nat → Prop) (γ : Nat → Option Nat) (ρ us : List Value) (w : World), Φ.p S D w → (∀ b, S b → b < w.heap.size ∧ ¬ D b) → ρ.length = Ha.length → (∀ j ob, Ha[j]? = some ob → has γ ρ w j ob) →
  (∀ b, b < w.heap.size → γ b = none → D b) → (∀ b, T b → ∃ j, γ b = some j ∧ j < Ha.length) → (∀ b j, γ b = some j → j < Ha.length → T b) → (∀ b, T b → b < w.heap.size ∧ ¬ S b ∧ ¬ D b) → Rels ρ as us →
  ∃ fn tmps assign body, (Instr.yield l us.toArray).run P w = .ok (.round l fn tmps assign body) w ∧
   RoundIn (FW none) 0 P l fn tmps assign body w fun e w' => ∃ (b : Bool) (Φ' : ExtP) (S' D' : Nat → Prop), e = .returned (.bool b) ∧ R b Φ' ∧ Φ'.p S' D' w' ∧ (∀ b, S' b → b < w'.heap.size ∧ ¬ D' b) ∧
    (∀ b, b < w.heap.size → S' b → S b ∨ T b) ∧ (∀ b, b < w.heap.size → D' b → D b ∨ S b ∨ T b) ∧ FrS S T w w'
structure LoopC where
 l : Nat
 fn : FuncId
 tm : Array Value
 ps : Array Tmp
 asg : Code
 body : Code
 d0 : Nat
def LoopC.rcd (L : LoopC) (j : Option Code) : Loop := { state := if j.isNone then .ready else .done, pending := j, fn := L.fn, tmps := L.tm, params := L.ps, assign := L.asg, body := L.body, defers := L.d0 }
noncomputable def LoopC.st (L : LoopC) (E0 : Env) (pin : List Nat) (πv : Pv) (bk : List (Nat × Obj)) (j : Option Code) (Hs : List AObj) : ExtP := ownP Hs E0 L.tm pin πv ((L.l, .loop (L.rcd j)) :: bk)
def exitOf : Option Code → Exit
 | none => .normal
 | some .ret => .ret
 | some (.exit id) => .exit id
 | some (.goto t) => .goto t
 | _ => .outgrown
def argE (ps : List Tmp) (as : List AV) (E : Env) : Env := (ps.zip as).foldl (fun E p => p :: E) E
def pinV1 (pin : List Nat) : AV → Prop
 | .v _ | .top => True
 | .sl o | .pp o _ | .ep o _ _ _ | .ip o _ => o ∈ pin
 | _ => False
def pinE (pin : List Nat) (E : Env) : Prop := ∀ t x, E.lookup t = some x → pinV1 pin x
theorem EnvOk.pinned {ρ ρ' : List Value} {E : Env} {tm : Array Value} {pin : List Nat} (h : EnvOk ρ E tm) (hp : pinE pin E) (hρ : ∀ o ∈ pin, ρ'[o]? = ρ[o]?) : EnvOk ρ' E tm := fun t x hx => by
 have h1 := h t x hx
 have h2 := hp t x hx
 cases x <;> simp only [pinV1] at h2
 ·exact trivial
 ·exact h1
 ·rename_i o; exact ⟨(hρ o h2).trans h1.1, h1.2⟩
 ·rename_i o f; obtain ⟨b, k1, k2⟩ := h1; exact ⟨b, (hρ o h2).trans k1, k2⟩
 ·rename_i o i e f; obtain ⟨b, ofs, n, cap, k1, k2⟩ := h1; exact ⟨b, ofs, n, cap, (hρ o h2).trans k1, k2⟩
 ·rename_i o k; obtain ⟨b, k1, k2⟩ := h1; exact ⟨b, (hρ o h2).trans k1, k2⟩
theorem argE_ok {ρ : List Value} : ∀ {ps : List Tmp} {as : List AV} {us : List Value} {E : Env} {tm : Array Value}, EnvOk ρ E tm → ps.length = as.length → (∀ p ∈ ps, p < tm.size) → us.length = as.length → (∀ (j : Nat) (y : AV) (u : Value), as[j]? = some y → us[j]? = some u → rel ρ y u) →
 EnvOk ρ (argE ps as E) ((ps.zip us).foldl (fun t (p : Tmp × Value) => t.setIfInBounds p.1 p.2) tm) ∧ ((ps.zip us).foldl (fun t (p : Tmp × Value) => t.setIfInBounds p.1 p.2) tm).size = tm.size
 | [], as, us, E, tm, h, _, _, _, _ => by simpa [argE] using h
 | p :: ps, [], us, E, tm, h, hl, _, _, _ => by simp at hl
 | p :: ps, y :: as, [], E, tm, h, hl, hp, hu, hr => by simp at hu
 | p :: ps, y :: as, u :: us, E, tm, h, hl, hp, hu, hr => by
   have h1 : EnvOk ρ ((p, y) :: E) (tm.setIfInBounds p u) := by
    have := EnvOk.put (a := { tmps := tm, defers := [] }) (d := some p) h (x := y) (v := u) (fun n hn => by cases hn; exact hp p (by simp)) (hr 0 y u rfl rfl)
    simpa [Env.put, Act.put] using this
   have := argE_ok (ps := ps) (as := as) (us := us) h1 (by simpa using hl) (fun q hq => by simpa using hp q (by simp [hq])) (by simpa using hu) (fun j y u hy hu => hr (j + 1) y u (by simpa using hy) (by simpa using hu))
   simpa [argE] using this
theorem rel.shift {ρ2 ρ : List Value} {x : AV} {u : Value} {k : Nat} (h : rel ρ x u) (hk : ∀ (j : Nat) (v : Value), ρ[j]? = some v → ρ2[k + j]? = some v) : rel ρ2 (x.ren fun j => some (k + j)) u :=
 rel.ren (fun o p v ho hv => by cases ho; exact hk o v hv) h
theorem HeapOk.turn {γ : Nat → Option Nat} {ρ : List Value} {Hs Ha : List AObj} {x y : AObj} {w w' : World} {l : Nat} (h : HeapOk γ ρ (Hs ++ x :: Ha) w) (hv : ∀ (o : Nat) (c : Cont), (Hs ++ x :: Ha)[o]? ≠ some (.view Hs.length c)) (hl : γ l = some Hs.length)
 (hk : ∀ b, b ≠ l → w'.heap[b]? = w.heap[b]?) (hsz : w'.heap.size = w.heap.size) (hy : has γ ρ w' Hs.length y) : HeapOk γ ρ (Hs ++ y :: Ha) w' := by
 refine ⟨by simpa using h.len, fun o ob ho => ?_, fun b p hb => by have := h.lab b p hb; exact ⟨by simpa using this.1, by omega⟩⟩
 by_cases hon : o = Hs.length
 ·subst hon
  simp at ho; subst ho; exact hy
 ·have ho' : (Hs ++ x :: Ha)[o]? = some ob := by
   by_cases hlt : o < Hs.length
   ·rw [List.getElem?_append_left hlt] at ho ⊢; exact ho
   ·rw [List.getElem?_append_right (by omega)] at ho ⊢
    obtain ⟨k, hk⟩ : ∃ k, o - Hs.length = k + 1 := ⟨o - Hs.length - 1, by omega⟩
    rw [hk] at ho ⊢
    simpa using ho
  have hne : ∀ b, γ b ≠ some Hs.length → b ≠ l := fun b hb e => by subst e; exact hb hl
  have := has.move (γ' := γ) (ρ' := ρ) (w' := w') [Hs.length] (h.obj o ob ho') (by simpa using hon) (fun _ _ h => h) (by omega) (fun b p hb => (h.lab b p hb).2)
   (fun b p hb hb2 hp => ⟨hk b (hne b (by rw [hb2]; simpa using hp)), hb2⟩) (fun b hb hb2 _ => ⟨hk b (hne b (by rw [hb2]; simp)), hb2⟩)
  have e : ob.gone [Hs.length] = ob := by
   cases ob <;> simp only [AObj.gone]
   rename_i s c
   rw [if_neg]
   intro hs
   have : s = Hs.length := by simpa using hs
   subst this
   exact hv o c ho'
  rwa [e] at this
open Classical in
theorem LoopC.round (L : LoopC) {P : Program} {N : Nat} {pin : List Nat} {πv : Pv} {E0 E1 : Env} {bk : List (Nat × Obj)} {as : List AV} {Ha Hs Hs' : List AObj} {j : Option Code} (hN : L.tm.size = N) (hps : as.length = L.ps.size)
 (hpd : ∀ p ∈ L.ps.toList, p < N) (hrow : ∀ ob ∈ Ha, ∃ own c, ob = .row own c) (hnv' : ∀ (o : Nat) (c : Cont), Hs'[o]? ≠ some (.view Hs'.length c)) (hlen : Hs'.length = Hs.length) (hbk : ∀ x ∈ bk, x.1 ≠ L.l)
 (hz : ∀ b, ¬ πv.z b) (hE0 : pinE pin E0) (hj : exitOf j ≠ .outgrown)
 (hA : ∀ Ψ, awp (some L.l) P N pin L.asg (fun e E' H' => e = .normal ∧ Red N pin E' H' E1 (Hs ++ .ext Ψ :: Ha)) (argE L.ps.toList (as.map (AV.ren fun i => some (Hs.length + 1 + i))) E0) (Hs ++ .ext Ψ :: Ha))
 (hB : ∀ Ψ, awp (some L.l) P N pin L.body (fun e E' H' => e = exitOf j ∧ Red N pin E' H' [] (Hs' ++ [.ext Ψ])) E1 (Hs ++ .ext Ψ :: Ha)) :
 RoundA P L.l (L.st E0 pin πv bk none Hs) as Ha (fun b Φ => b = j.isNone ∧ Φ = L.st E0 pin πv bk j Hs') := by
 refine ⟨fun S D T γa ρa us w hΦ hSl hρa hHa hDa hTa hTa2 hTd hrel => ?_⟩
 obtain ⟨hnv, γc, ρc, hHc, hEc, hpc, hDc, hSc, hbc⟩ := hΦ
 obtain ⟨hl1, hl2, hl3⟩ := hbc (L.l, .loop (L.rcd none)) (List.mem_cons_self ..)
 simp only at hl1 hl2 hl3
 generalize hn : Hs.length = n at *
 have husl : us.toArray.size = (L.rcd none).params.size := by simpa [LoopC.rcd] using hrel.1.trans hps
 refine ⟨_, _, _, _, run_yield hl3 husl, ?_⟩
 let γ2 : Nat → Option Nat := fun b => if b < w.heap.size then (if T b then (γa b).map (fun i => n + 1 + i) else if D b then none else match γc b with | some o => if o < n then some o else some n | none => some n) else none
 have hltn : ∀ b o, γc b = some o → o < n + 1 := fun b o hb => by have := (hHc.lab b o hb).1; simp [hn] at this; omega
 have g2T : ∀ b i, b < w.heap.size → T b → γa b = some i → γ2 b = some (n + 1 + i) := fun b i hb ht hi => by simp only [γ2]; rw [if_pos hb, if_pos ht, hi]; rfl
 have g2D : ∀ b, b < w.heap.size → D b → γ2 b = none := fun b hb hd => by simp only [γ2]; rw [if_pos hb, if_neg (fun ht => (hTd b ht).2.2 hd), if_pos hd]
 have g2S : ∀ b o, γc b = some o → o < n → γ2 b = some o := fun b o hb ho => by
  have hs := hSc b o hb ho
  have hlt := (hHc.lab b o hb).2
  simp only [γ2]; rw [if_pos hlt, if_neg (fun ht => (hTd b ht).2.1 hs), if_neg (hSl b hs).2, hb]; simp only; rw [if_pos ho]
 have g2n : ∀ b, b < w.heap.size → ¬ T b → ¬ D b → (∀ o, γc b = some o → ¬ o < n) → γ2 b = some n := fun b hb ht hd ho => by
  simp only [γ2]; rw [if_pos hb, if_neg ht, if_neg hd]
  cases hc : γc b with
  | none => rfl
  | some o => simp only; rw [if_neg (ho o hc)]
 have g2i : ∀ b o, γ2 b = some o → b < w.heap.size ∧ ((∃ i, T b ∧ γa b = some i ∧ o = n + 1 + i ∧ i < Ha.length) ∨ (o < n ∧ γc b = some o ∧ S b) ∨ (o = n ∧ ¬ T b ∧ ¬ D b)) := fun b o hb => by
  simp only [γ2] at hb
  split at hb
  ·rename_i hlt
   refine ⟨hlt, ?_⟩
   split at hb
   ·rename_i ht
    obtain ⟨i, hi, hil⟩ := hTa b ht
    rw [hi] at hb; simp at hb
    exact .inl ⟨i, ht, hi, hb.symm, hil⟩
   ·rename_i ht
    split at hb
    ·cases hb
    ·rename_i hd
     cases hc : γc b with
     | none => rw [hc] at hb; simp at hb; exact .inr (.inr ⟨hb.symm, ht, hd⟩)
     | some o' =>
       rw [hc] at hb
       simp only at hb
       split at hb
       ·rename_i ho; simp at hb; subst hb; exact .inr (.inl ⟨ho, rfl, hSc b o' hc ho⟩)
       ·simp at hb; exact .inr (.inr ⟨hb.symm, ht, hd⟩)
  ·cases hb
 let F : Nat → Prop := fun b => γ2 b = some n
 have hFl : F L.l := g2n _ (Array.getElem?_eq_some_iff.1 hl3).1 (fun ht => (hTd _ ht).2.1 hl1) (hSl _ hl1).2 (fun o ho => by rw [hl2] at ho; cases ho; exact Nat.lt_irrefl _)
 have hρc : ρc.length = n + 1 := by rw [hHc.len]; simp [hn]
 have hρ2l : ∀ (i : Nat) (x : Value), ρc[i]? = some x → (ρc ++ ρa)[i]? = some x := fun i x hx => getElem?_append_of hx _
 have hρ2r : ∀ (i : Nat) (x : Value), ρa[i]? = some x → (ρc ++ ρa)[n + 1 + i]? = some x := fun i x hx => by
  rw [List.getElem?_append_right (by omega), hρc]; simpa using hx
 have hH2 : HeapOk γ2 (ρc ++ ρa) (Hs ++ .ext (frz F w) :: Ha) w := by
  refine ⟨by simp [hρc, hρa, hn]; omega, fun o ob ho => ?_, fun b o hb => ?_⟩
  ·by_cases hlt : o < n
   ·rw [List.getElem?_append_left (by omega)] at ho
    have h0 := hHc.obj o ob (by rw [List.getElem?_append_left (by omega)]; exact ho)
    have := has.move (γ' := γ2) (ρ' := ρc ++ ρa) (w' := w) [n] h0 (by simp; omega) hρ2l (Nat.le_refl _) (fun b p hb => (hHc.lab b p hb).2)
     (fun b p hb hb2 hp => ⟨rfl, g2S b p hb2 (by have := hltn b p hb2; simp at hp; omega)⟩) (fun b hb hb2 _ => ⟨rfl, g2D b hb (hDc b hb hb2)⟩)
    have e : ob.gone [n] = ob := by
     cases ob <;> simp only [AObj.gone]
     rename_i s c
     rw [if_neg]
     intro hs
     have : s = n := by simpa using hs
     subst this
     exact hnv o c ho
    rwa [e] at this
   ·rw [List.getElem?_append_right (by omega), hn] at ho
    by_cases hon : o = n
    ·subst hon
     simp at ho; subst ho
     exact ⟨Nat.le_refl _, fun b hb => ⟨hb, (g2i b _ hb).1, rfl⟩⟩
    ·obtain ⟨i, rfl⟩ : ∃ i, o = n + 1 + i := ⟨o - n - 1, by omega⟩
     rw [show n + 1 + i - n = i + 1 by omega, List.getElem?_cons_succ] at ho
     obtain ⟨own, c, rfl⟩ := hrow ob (List.mem_of_getElem? ho)
     obtain ⟨u, h1, h2⟩ := hHa i _ ho
     have hil : i < Ha.length := (List.getElem?_eq_some_iff.1 ho).1
     refine ⟨u, hρ2r i u h1, h2.stay fun b hb hlt => ⟨rfl, ?_⟩⟩
     cases own
     ·exact g2D b hlt (hDa b hlt hb)
     ·exact g2T b i hlt (hTa2 b i hb hil) hb
  ·obtain ⟨h1, h2 | h2 | h2⟩ := g2i b o hb
   ·obtain ⟨i, _, _, rfl, hi⟩ := h2; exact ⟨by simp [hn]; omega, h1⟩
   ·exact ⟨by simp [hn]; omega, h1⟩
   ·exact ⟨by simp [hn]; omega, h1⟩
 have hpin2 : ∀ o ∈ pin, (ρc ++ ρa)[o]? = some (πv o) := fun o ho => hρ2l o _ (hpc o ho)
 have hE2 : EnvOk (ρc ++ ρa) E0 L.tm := hEc.ext _
 obtain ⟨hEa, hsza⟩ := argE_ok (ps := L.ps.toList) (as := as.map (AV.ren fun i => some (n + 1 + i))) (us := us) hE2 (by simpa using hps.symm) (fun p hp => by rw [hN]; exact hpd p hp) (by simpa using hrel.1) (fun i y u hy hu => by
  rw [List.getElem?_map] at hy
  cases hx : as[i]? with
  | none => rw [hx] at hy; cases hy
  | some x => rw [hx] at hy; simp at hy; subst hy; exact rel.shift (hrel.2 i x u hx hu) hρ2r)
 have hfold : ((L.rcd none).params.zip us.toArray).foldl (fun tmps (t, a) => tmps.setIfInBounds t a) (L.rcd none).tmps = (L.ps.toList.zip us).foldl (fun t (p : Tmp × Value) => t.setIfInBounds p.1 p.2) L.tm := by
  show (L.ps.zip us.toArray).foldl _ L.tm = _
  rw [← Array.foldl_toList]; simp
 rw [hfold]
 generalize htm : (L.ps.toList.zip us).foldl (fun t (p : Tmp × Value) => t.setIfInBounds p.1 p.2) L.tm = tm2 at hEa hsza
 have hst0 : St N pin πv γ2 (ρc ++ ρa) (argE L.ps.toList (as.map (AV.ren fun i => some (n + 1 + i))) E0) (Hs ++ .ext (frz F w) :: Ha) { tmps := tm2, defers := [] } w := ⟨hsza.trans hN, Defs.nil0 (fun b hb => absurd hb (hz b)), hEa, hH2, hpin2⟩
 refine roundIn_of_wpIn (F := FW none) trivial (wpIn_mono (hA (frz F w) πv γ2 (ρc ++ ρa) _ w hst0) ?_)
 rintro e a1 w1 ⟨γ3, ρ3, E3, H3, ⟨rfl, hred⟩, hst3, hfr3⟩
 obtain ⟨γ4, ρ4, hst4, hfr4⟩ := hred πv γ3 ρ3 a1 w1 hst3
 have hf4 := hfr3.trans hfr4
 have hz4 : (frz F w).p (fun b => γ4 b = some n) (fun b => γ4 b = none) w1 := by
  have := hst4.heap.obj n (.ext (frz F w)) (by rw [List.getElem?_append_right (by omega)]; simp [hn])
  exact this
 have hl4 : w1.heap[L.l]? = some (.loop (L.rcd none)) := (hz4.2 _ hFl).2.2.trans hl3
 refine ⟨_, run_beginRound hl4 rfl, ?_⟩
 generalize hw2 : w1.putObj L.l (.loop { L.rcd none with state := .busy }) = w2
 have hlz1 : L.l < w1.heap.size := (Array.getElem?_eq_some_iff.1 hl4).1
 have hw2o : ∀ b, b ≠ L.l → w2.heap[b]? = w1.heap[b]? := fun b hb => by rw [← hw2]; exact World.putObj_heap_other hb
 have hw2l : w2.heap[L.l]? = some (.loop { L.rcd none with state := .busy }) := by rw [← hw2]; exact World.putObj_heap_same hlz1
 have hw2s : w2.heap.size = w1.heap.size := by rw [← hw2]; simp
 have hg4 : ∀ b, F b → γ4 b = some n := fun b hb => (hz4.2 b hb).1
 have hnv2 : ∀ (o : Nat) (c : Cont), (Hs ++ .ext (frz F w) :: Ha)[o]? ≠ some (.view Hs.length c) := fun o c ho => by
  rw [hn] at ho
  by_cases hlt : o < n
  ·rw [List.getElem?_append_left (by omega)] at ho; exact hnv o c ho
  ·rw [List.getElem?_append_right (by omega)] at ho
   by_cases hon : o - Hs.length = 0
   ·rw [hon] at ho; simp at ho
   ·obtain ⟨k, hk⟩ : ∃ k, o - Hs.length = k + 1 := ⟨o - Hs.length - 1, by omega⟩
    rw [hk, List.getElem?_cons_succ] at ho
    obtain ⟨own, c', hc'⟩ := hrow _ (List.mem_of_getElem? ho)
    cases hc'
 have hH5 : HeapOk γ4 ρ4 (Hs ++ .ext (frz F w2) :: Ha) w2 := hst4.heap.turn hnv2 (by rw [hn]; exact hg4 _ hFl) hw2o hw2s (by
  rw [hn]
  exact ⟨Nat.le_refl _, fun b hb => ⟨hg4 b hb, by have := (hz4.2 b hb).2.1; have := hz4.1; omega, rfl⟩⟩)
 have hst5 : St N pin πv γ4 ρ4 E1 (Hs ++ .ext (frz F w2) :: Ha) a1 w2 := ⟨hst4.size, hst4.defs.keep fun b hb hg => ⟨hw2o b (fun e => by subst e; rw [hg4 _ hFl] at hg; cases hg), hg⟩, hst4.env, hH5, hst4.pins⟩
 refine wpIn_mono (hB (frz F w2) πv γ4 ρ4 a1 w2 hst5) ?_
 rintro e a3 w3 ⟨γ6, ρ6, E6, H6, ⟨rfl, hred6⟩, hst6, hfr6⟩
 obtain ⟨γ7, ρ7, hst7, hfr7⟩ := hred6 πv γ6 ρ6 a3 w3 hst6
 have hf7 := hfr6.trans hfr7
 have hz7 : (frz F w2).p (fun b => γ7 b = some n) (fun b => γ7 b = none) w3 := by
  have := hst7.heap.obj n (.ext (frz F w2)) (by rw [List.getElem?_append_right (by omega)]; simp [hlen])
  exact this
 have hg7 : ∀ b, F b → γ7 b = some n := fun b hb => (hz7.2 b hb).1
 have hl7 : w3.heap[L.l]? = some (.loop { L.rcd none with state := .busy }) := (hz7.2 _ hFl).2.2.trans hw2l
 have hend := run_endRound (P := P) j hl7
 have hrc : ({ { L.rcd none with state := LoopState.busy } with state := if j.isNone then .ready else .done, pending := j } : Loop) = L.rcd j := rfl
 rw [hrc] at hend
 generalize hw4 : w3.putObj L.l (.loop (L.rcd j)) = w4 at hend
 have hlz3 : L.l < w3.heap.size := (Array.getElem?_eq_some_iff.1 hl7).1
 have hw4o : ∀ b, b ≠ L.l → w4.heap[b]? = w3.heap[b]? := fun b hb => by rw [← hw4]; exact World.putObj_heap_other hb
 have hw4l : w4.heap[L.l]? = some (.loop (L.rcd j)) := by rw [← hw4]; exact World.putObj_heap_same hlz3
 have hw4s : w4.heap.size = w3.heap.size := by rw [← hw4]; simp
 have hnv7 : ∀ (o : Nat) (c : Cont), (Hs' ++ .ext (frz F w2) :: [])[o]? ≠ some (.view Hs'.length c) := fun o c ho => by
  by_cases hlt : o < Hs'.length
  ·rw [List.getElem?_append_left hlt] at ho; exact hnv' o c ho
  ·rw [List.getElem?_append_right (by omega)] at ho
   by_cases hon : o - Hs'.length = 0
   ·rw [hon] at ho; simp at ho
   ·obtain ⟨k, hk⟩ : ∃ k, o - Hs'.length = k + 1 := ⟨o - Hs'.length - 1, by omega⟩
    rw [hk] at ho; simp at ho
 have hH8 : HeapOk γ7 ρ7 (Hs' ++ [.dead]) w4 := hst7.heap.turn (y := .dead) hnv7 (by rw [hlen]; exact hg7 _ hFl) hw4o hw4s trivial
 have hkF : ∀ b, F b → b ≠ L.l → w4.heap[b]? = w.heap[b]? := fun b hb hne => (hw4o b hne).trans ((hz7.2 b hb).2.2.trans ((hw2o b hne).trans (hz4.2 b hb).2.2))
 have hkD : ∀ b, b < w.heap.size → γ2 b = none → w4.heap[b]? = w.heap[b]? ∧ γ7 b = none := fun b hb hg => by
  have hne : b ≠ L.l := fun e => by subst e; rw [show γ2 L.l = some n from hFl] at hg; cases hg
  obtain ⟨k1, k2⟩ := hf4.keep b hb hg
  obtain ⟨k3, k4⟩ := hf7.keep b (by rw [hw2s]; have := hf4.size; omega) k2
  exact ⟨(hw4o b hne).trans (k3.trans ((hw2o b hne).trans k1)), k4⟩
 have hsz4 : w.heap.size ≤ w4.heap.size := by have h1 := hf4.size; have h2 := hf7.size; omega
 have hΦ' : (L.st E0 pin πv bk j Hs').p (fun b => b < w4.heap.size ∧ ((∃ o, o < n ∧ γ7 b = some o) ∨ b = L.l ∨ ∃ x ∈ bk, b = x.1)) (fun b => γ7 b = none) w4 := by
  refine ⟨hnv', γ7, ρ7, hH8, ?_, fun o ho => hst7.pins o ho, fun b _ hb => hb, fun b o hb ho => ⟨(hH8.lab b o hb).2, .inl ⟨o, by omega, hb⟩⟩, fun x hx => ?_⟩
  ·exact hEc.pinned hE0 fun o ho => (hst7.pins o ho).trans (hpc o ho).symm
  ·rcases List.mem_cons.1 hx with rfl | hx
   ·exact ⟨⟨(Array.getElem?_eq_some_iff.1 hw4l).1, .inr (.inl rfl)⟩, by rw [hlen]; exact hg7 _ hFl, hw4l⟩
   ·obtain ⟨b1, b2, b3⟩ := hbc x (List.mem_cons_of_mem _ hx)
    have hb := (Array.getElem?_eq_some_iff.1 b3).1
    have hFx : F x.1 := g2n _ hb (fun ht => (hTd _ ht).2.1 b1) (hSl _ b1).2 (fun o ho => by rw [b2] at ho; cases ho; exact Nat.lt_irrefl _)
    exact ⟨⟨by omega, .inr (.inr ⟨x, hx, rfl⟩)⟩, by rw [hlen]; exact hg7 _ hFx, (hkF _ hFx (hbk x hx)).trans b3⟩
 have hfin : ∃ (b : Bool) (Φ' : ExtP) (S' D' : Nat → Prop), Ending.returned (.bool j.isNone) = .returned (.bool b) ∧ (b = j.isNone ∧ Φ' = L.st E0 pin πv bk j Hs') ∧ Φ'.p S' D' w4 ∧ (∀ b, S' b → b < w4.heap.size ∧ ¬ D' b) ∧
  (∀ b, b < w.heap.size → S' b → S b ∨ T b) ∧ (∀ b, b < w.heap.size → D' b → D b ∨ S b ∨ T b) ∧ FrS S T w w4 := by
  refine ⟨_, _, _, _, rfl, ⟨rfl, rfl⟩, hΦ', fun b ⟨h1, h2⟩ => ⟨h1, fun hd => ?_⟩, fun b hb ⟨_, h2⟩ => ?_, fun b hb hd => ?_, ?_⟩
  ·rcases h2 with ⟨o, _, ho⟩ | rfl | ⟨x, hx, rfl⟩
   ·rw [hd] at ho; cases ho
   ·rw [hg7 _ hFl] at hd; cases hd
   ·obtain ⟨b1, b2, b3⟩ := hbc x (List.mem_cons_of_mem _ hx)
    have hFx : F x.1 := g2n _ (Array.getElem?_eq_some_iff.1 b3).1 (fun ht => (hTd _ ht).2.1 b1) (hSl _ b1).2 (fun o ho => by rw [b2] at ho; cases ho; exact Nat.lt_irrefl _)
    rw [hg7 _ hFx] at hd; cases hd
  ·rcases h2 with ⟨o, ho1, ho⟩ | rfl | ⟨x, hx, rfl⟩
   ·by_cases ht : T b
    ·exact .inr ht
    ·left
     apply Classical.byContradiction
     intro hs
     by_cases hd : D b
     ·have := (hkD b hb (g2D b hb hd)).2; rw [this] at ho; cases ho
     ·have hF : F b := g2n b hb ht hd (fun o' ho' hlt' => hs (hSc b o' ho' hlt'))
      rw [hg7 b hF] at ho; cases ho; exact Nat.lt_irrefl _ ho1
   ·exact .inl hl1
   ·exact .inl (hbc x (List.mem_cons_of_mem _ hx)).1
  ·by_cases ht : T b
   ·exact .inr (.inr ht)
   ·by_cases hd' : D b
    ·exact .inl hd'
    ·right; left
     apply Classical.byContradiction
     intro hs
     have hF : F b := g2n b hb ht hd' (fun o' ho' hlt' => hs (hSc b o' ho' hlt'))
     rw [hg7 b hF] at hd; cases hd
  ·have e2 : w2.os = w1.os ∧ w2.tape = w1.tape ∧ w2.output = w1.output ∧ w2.drawn = w1.drawn := by rw [← hw2]; exact ⟨rfl, rfl, rfl, rfl⟩
   have e4 : w4.os = w3.os ∧ w4.tape = w3.tape ∧ w4.output = w3.output ∧ w4.drawn = w3.drawn := by rw [← hw4]; exact ⟨rfl, rfl, rfl, rfl⟩
   refine ⟨e4.1.trans (hf7.os.trans (e2.1.trans hf4.os)), e4.2.1.trans (hf7.tape.trans (e2.2.1.trans hf4.tape)), e4.2.2.1.trans (hf7.output.trans (e2.2.2.1.trans hf4.output)), hsz4, fun b hb hs ht => ?_, ?_⟩
   ·by_cases hd : D b
    ·exact (hkD b hb (g2D b hb hd)).1
    ·have hF : F b := g2n b hb ht hd (fun o' ho' hlt' => hs (hSc b o' ho' hlt'))
     exact hkF b hF (fun e => hs (by subst e; exact hl1))
   ·have h1 := hf4.drawn; have h2 := hf7.drawn; rw [e4.2.2.2]; rw [e2.2.2.2] at h2; omega
 cases j with
 | none => exact ⟨_, _, hend, hfin⟩
 | some c =>
   cases c <;> first | exact absurd rfl hj | exact ⟨_, _, hend, hfin⟩
end Go.Av
