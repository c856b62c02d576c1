import Derived.Test.YtoohhgembcdhpaaGreatAvIt
set_option linter.unusedSimpArgs false
set_option linter.unusedVariables false
namespace Go.Av
open Go
variable {P : Program} {N : Nat} {pin : List Nat} {rq : Option Nat} {H : List AObj}
def OpKI (rq : Option Nat) (P : Program) (N : Nat) (pin : List Nat) (o : Oper) (K : Env → List AObj → Prop) (E : Env) (H : List AObj) : Prop :=
 ∀ πv γ ρ a w, St N pin πv γ ρ E H a w → ∀ (K' : Act → World → Prop) (Q' : Exit → Act → World → Prop),
  (∀ v w' γ' ρ' E' H', K E' H' → St N pin πv γ' ρ' E' H' (a.put o.dst v) w' → Fr γ w γ' w' → K' (a.put o.dst v) w') → o.wpIn (FW rq) 0 P a w K' Q'
theorem oper_toIn2 {P : Program} {o : Oper} {a : Act} {w : World} {K K' : Act → World → Prop} {Q Q' : Exit → Act → World → Prop} (hnd : ∀ c, o.op ≠ .defer c) (hK : ∀ a w, K a w → K' a w)
 (hQ : ∀ e a w, Q e a w → e = .normal) (h : o.wp P a w K Q) : o.wpIn (FW rq) 0 P a w K' Q' := by
 unfold Oper.wpIn
 refine ⟨fun _ _ => trivial, ?_⟩
 rw [Oper.semAt_eq _ _ _ hnd]
 unfold Oper.wp at h
 generalize (execOp a.eval o).run P w = r at *
 cases r with
 | ok x w' =>
   cases x <;> simp only [Oper.upon] at h <;> simp only [Oper.uponIn]
   all_goals first
    | exact hK _ _ h
    | exact ⟨fun h => by simp [FW] at h, callsIn_FW.2 (Calls.mono h (fun e w'' he => by
     cases e
     ·exact hK _ _ he
     ·exact absurd (hQ _ _ _ he) (by simp)
     ·obtain ⟨a0, w0, h0⟩ := he; exact absurd (hQ _ _ _ h0) (by simp)))⟩
    | exact ⟨fun h => by simp [FW] at h, rowsIn_FW (Rows.mono h (fun _ _ he => hK _ _ he))⟩
 | halt x w' => cases x <;> simp only [Oper.upon] at h <;> simp only [Oper.uponIn] <;> first | exact absurd (hQ _ _ _ h) (by simp) | exact h
theorem wpList_toIn {ops : Array Oper} {Q Q' : Exit → Act → World → Prop} {rest : List Oper} (hQ : ∀ e a w, Q e a w → e = .normal)
 (hr : ∀ a w, Q .normal a w → wpListIn (FW rq) 0 P ops Q' rest a w) :
 ∀ (l : List Oper) (a : Act) (w : World), (∀ o ∈ l, noDef1 o = true) → wpList P ops Q l a w → wpListIn (FW rq) 0 P ops Q' (l ++ rest) a w
 | [], a, w, _, h => hr a w h
 | o :: l, a, w, hnd, h => by
   have ih := wpList_toIn hQ hr l
   have hl : ∀ o ∈ l, noDef1 o = true := fun o ho => hnd o (List.mem_cons_of_mem _ ho)
   have ho : ∀ c, o.op ≠ .defer c := fun c hc => by
    have := hnd o (List.mem_cons_self ..)
    unfold noDef1 at this; rw [hc] at this; cases this
   rw [List.cons_append]
   unfold wpList at h
   unfold wpListIn
   split
   ·rename_i hw
    rw [if_pos hw] at h
    rcases h with h | ⟨_, a0, w0, h0⟩
    ·exact oper_toIn2 ho (fun a w h => ih a w hl h) hQ h
    ·exact absurd (hQ _ _ _ h0) (by simp)
   ·rename_i hw
    rw [if_neg hw] at h
    exact ⟨fun _ _ => trivial, ih _ _ hl h⟩
theorem awp_regionY {id : Nat} {l : List Oper} {Q : Exit → Env → List AObj → Prop} {E : Env} (l1 : List Oper) (y : Oper) (l2 : List Oper)
 (h : wpA P N pin l.toArray l1 (OpKI rq P N pin y (wpA P N pin l.toArray l2 (Q .normal))) E H) (hl : l = l1 ++ y :: l2 := by rfl) (hg : y.guard = none := by rfl)
 (hnd1 : l1.all noDef1 = true := by rfl) (hnd2 : l2.all noDef1 = true := by rfl) : awp rq P N pin (.region id l.toArray false) Q E H := fun πv γ ρ a w hst => by
 refine wpIn_region ?_
 have e2 : l.toArray.size = l.length := by simp
 rw [List.range_eq_range', e2, wpOpsIn_eq_wpListIn l 0 (by simp)]
 have h0 := h πv γ ρ a w hst
 conv => arg 6; rw [hl]
 refine wpList_toIn (fun e a w h => h.1) (fun a1 w1 ⟨_, γ1, ρ1, E1, H1, hK, hst1, hfr1⟩ => ?_) l1 a w (fun o ho => List.all_eq_true.1 hnd1 o ho) h0
 unfold wpListIn
 rw [if_pos (by simp [Region.wanted, hg])]
 refine hK πv γ1 ρ1 a1 w1 hst1 _ _ fun v w2 γ2 ρ2 E2 H2 hk2 hst2 hfr2 => ?_
 have h3 := hk2 πv γ2 ρ2 _ w2 hst2
 have := wpList_toIn (rq := rq) (rest := []) (Q' := fun e a' w' => ∃ γ' ρ' E' H', Q e E' H' ∧ St N pin πv γ' ρ' E' H' a' w' ∧ Fr γ w γ' w') (fun e a w h => h.1) (fun a4 w4 ⟨_, γ4, ρ4, E4, H4, hQ, hst4, hfr4⟩ => by
  unfold wpListIn
  exact ⟨γ4, ρ4, E4, H4, hQ, hst4, (hfr1.trans hfr2).trans hfr4⟩) l2 _ w2 (fun o ho => List.all_eq_true.1 hnd2 o ho) h3
 simpa using this
def deadAll (cs : List Nat) (H : List AObj) : List AObj := cs.foldl (fun H o => H.set o .dead) H
theorem deadAll_len : ∀ {cs : List Nat} {H : List AObj}, (deadAll cs H).length = H.length
 | [], H => rfl
 | c :: cs, H => by show (deadAll cs (H.set c .dead)).length = _; rw [deadAll_len]; simp
theorem deadAll_in : ∀ {cs : List Nat} {H : List AObj} {o : Nat} {ob : AObj}, o ∈ cs → (deadAll cs H)[o]? = some ob → ob = .dead
 | c :: cs, H, o, ob, hm, h => by
   by_cases ho : o ∈ cs
   ·exact deadAll_in (cs := cs) (H := H.set c .dead) ho h
   ·have hoc : o = c := by rcases List.mem_cons.1 hm with h | h; exact h; exact absurd h ho
    subst hoc
    rw [show deadAll (o :: cs) H = deadAll cs (H.set o .dead) from rfl] at h
    have hlt : o < H.length := by have := (List.getElem?_eq_some_iff.1 h).1; rw [deadAll_len] at this; simpa using this
    have key : ∀ (cs : List Nat) (H : List AObj), o ∉ cs → (deadAll cs H)[o]? = H[o]? := by
     intro cs
     induction cs with
     | nil => intro H _; rfl
     | cons c cs ih =>
       intro H hn
       rw [List.mem_cons, not_or] at hn
       rw [show deadAll (c :: cs) H = deadAll cs (H.set c .dead) from rfl, ih _ hn.2, List.getElem?_set_ne (Ne.symm hn.1)]
    rw [key cs _ ho, List.getElem?_set_self hlt] at h
    simpa using h.symm
theorem deadAll_out {o : Nat} : ∀ {cs : List Nat} {H : List AObj}, o ∉ cs → (deadAll cs H)[o]? = H[o]?
 | [], H, _ => rfl
 | c :: cs, H, hn => by
   rw [List.mem_cons, not_or] at hn
   rw [show deadAll (c :: cs) H = deadAll cs (H.set c .dead) from rfl, deadAll_out hn.2, List.getElem?_set_ne (Ne.symm hn.1)]
def pastY (e : Nat) (cs : List Nat) (H : List AObj) (x : AObj) : List AObj := (deadAll cs (H.map (AObj.gone (e :: cs)))).set e x
theorem run_call_yield {a : Act} {c : Call} {d : Option Tmp} {ty : TypeId} {pos' : String} {after : Array Edge} {w : World} {x : Operand} {l : Nat} (hc : c.callee = .value x) (hx : a.eval x = yv l) {us : List Value} (hus : c.args.toList.map a.eval = us) :
 (execOp a.eval ⟨d, .call c, ty, pos', after, none⟩).run P w = (Instr.yield l us.toArray).run P w := by
 have e1 : c.args.map a.eval = us.toArray := by rw [← hus]; apply Array.ext'; simp
 simp [execOp, resolve, hc, hx, yv, e1, Deferred.ofValue, invoke]
theorem OpY {l : Nat} {Φ : ExtP} {as : List AV} {Ha : List AObj} {R : Bool → ExtP → Prop} (hy : RoundA P l Φ as Ha R) {d : Option Nat} {c : Call} {x : Operand} {ty : TypeId} {pos' : String} {after : Array Edge} {K : Env → List AObj → Prop} {E : Env} (e : Nat) (m cs : List Nat)
 (hk : ∀ b Φ', R b Φ' → K (E.put d (.v (.bool b))) (pastY e cs H (.ext Φ')))
 (hc : c.callee = .value x) (hE : ev E x = .v (yv l)) (he : H[e]? = some (.ext Φ)) (hargs : fitAll m as (c.args.toList.map (ev E))) (hm : m.Nodup) (hem : e ∉ m) (hml : m.length = Ha.length)
 (hmat : ∀ (j o : Nat) (ob : AObj), m[j]? = some o → Ha[j]? = some ob → H[o]? = some ob ∧ ∃ (own : Bool) (k : Cont), ob = .row own k) (hcs : cs = exIds m Ha) (hd : dstOk N d = true) :
 OpKI rq P N pin ⟨d, .call c, ty, pos', after, none⟩ K E H := by
 classical
 intro πv γ ρ a w hst K' Q' hK
 have hH := hst.heap
 have hxv : a.eval x = yv l := by have := ev_rel hst.env x; rw [hE] at this; exact this
 have hev := evs_rel hst.env c.args.toList
 have hel : e < H.length := (List.getElem?_eq_some_iff.1 he).1
 let S : Nat → Prop := fun b => γ b = some e
 let D : Nat → Prop := fun b => b < w.heap.size ∧ γ b = none
 let T : Nat → Prop := fun b => ∃ o ∈ cs, γ b = some o
 have hcsj : ∀ o, o ∈ cs ↔ ∃ (j : Nat) (k : Cont), m[j]? = some o ∧ Ha[j]? = some (AObj.row true k) := fun o => by
  rw [hcs]
  constructor
  ·intro h
   obtain ⟨j, ob, h1, h2, h3⟩ := exIds_spec h
   obtain ⟨_, own, k, rfl⟩ := hmat j o ob h1 h2
   cases own
   ·simp [AObj.excl] at h3
   ·exact ⟨j, k, h1, h2⟩
  ·rintro ⟨j, k, h1, h2⟩; exact exIds_mem h1 h2 rfl
 have hmlt : ∀ (j o : Nat), m[j]? = some o → o < H.length ∧ j < Ha.length := fun j o h => by
  have hj := (List.getElem?_eq_some_iff.1 h).1
  have h1 := (hmat j o _ h (List.getElem?_eq_getElem (by omega : j < Ha.length))).1
  exact ⟨(List.getElem?_eq_some_iff.1 h1).1, by omega⟩
 have hecs : e ∉ cs := fun h => by obtain ⟨j, k, h1, _⟩ := (hcsj e).1 h; exact hem (List.mem_of_getElem? h1)
 let ρa := m.map fun o => ρ.getD o undef
 have hρa : ∀ (j o : Nat), m[j]? = some o → ρa[j]? = ρ[o]? := fun j o h => by
  have hlt : o < ρ.length := by rw [hH.len]; exact (hmlt j o h).1
  simp [ρa, h, List.getD, hlt]
 let γa : Nat → Option Nat := fun b => match γ b with | none => none | some o => if o ∈ cs then pos m o 0 else some Ha.length
 have hγa : ∀ (b o j : Nat), γ b = some o → o ∈ cs → m[j]? = some o → γa b = some j := fun b o j h1 h2 h3 => by
  simp only [γa, h1]; rw [if_pos h2]
  have := pos_of (k := 0) hm h3
  simpa using this
 have hγai : ∀ (b j : Nat), γa b = some j → j < Ha.length → ∃ o, γ b = some o ∧ o ∈ cs ∧ m[j]? = some o := fun b j h hj => by
  simp only [γa] at h
  split at h
  ·cases h
  ·rename_i o ho
   split at h
   ·rename_i hoc
    obtain ⟨_, h3⟩ := pos_spec h
    exact ⟨o, ho, hoc, by simpa using h3⟩
   ·simp at h; omega
 have h1 := hH.obj e _ he
 have hΦ : Φ.p S D w := Φ.stay h1 (fun _ _ _ => rfl) (Nat.le_refl _) (fun b hb hn => ⟨hb, hn⟩) (fun b _ hb => hb)
 obtain ⟨fn, tmps, assign, body, hrun, hround⟩ := hy.calls S D T γa ρa (c.args.toList.map a.eval) w hΦ (fun b hb => ⟨(hH.lab b e hb).2, fun hd => by have h2 := hd.2; rw [show γ b = some e from hb] at h2; cases h2⟩)
  (by simp [ρa, hml]) (fun j ob hob => by
    have hj : j < m.length := by rw [hml]; exact (List.getElem?_eq_some_iff.1 hob).1
    obtain ⟨o, ho⟩ : ∃ o, m[j]? = some o := ⟨m[j], List.getElem?_eq_getElem hj⟩
    obtain ⟨hHo, ow, k, rfl⟩ := hmat j o ob ho hob
    obtain ⟨u, g1, g2⟩ := hH.obj o _ hHo
    refine ⟨u, by rw [hρa j o ho]; exact g1, g2.mono fun b hb => ?_⟩
    cases ow
    ·simp only [Bool.false_eq_true, if_false] at hb ⊢
     simp only [γa, hb]
    ·simp only [if_true] at hb ⊢
     exact hγa b o j hb ((hcsj o).2 ⟨j, k, ho, hob⟩) ho)
  (fun b hb hn => by
    refine ⟨hb, ?_⟩
    simp only [γa] at hn
    split at hn
    ·assumption
    ·rename_i o ho
     split at hn
     ·rename_i hoc
      obtain ⟨j, k, h1, h2⟩ := (hcsj o).1 hoc
      have := pos_of (k := 0) hm h1
      rw [hn] at this; cases this
     ·cases hn)
  (fun b ⟨o, hoc, hb⟩ => by
    obtain ⟨j, k, h1, h2⟩ := (hcsj o).1 hoc
    exact ⟨j, hγa b o j hb hoc h1, (hmlt j o h1).2⟩)
  (fun b j hb hj => by obtain ⟨o, h1, h2, _⟩ := hγai b j hb hj; exact ⟨o, h2, h1⟩)
  (fun b ⟨o, hoc, hb⟩ => ⟨(hH.lab b o hb).2, fun hs => by rw [show γ b = some e from hs] at hb; cases hb; exact hecs hoc, fun hd => by have h2 := hd.2; rw [h2] at hb; cases hb⟩)
  (fitAll.rels hρa hargs hev)
 unfold Oper.wpIn
 refine ⟨fun _ _ => trivial, ?_⟩
 rw [Oper.semAt_eq _ _ _ (fun c hc => by simp at hc), run_call_yield hc hxv rfl, hrun]
 simp only [Oper.uponIn]
 refine ⟨fun h => by simp [FW] at h, RoundIn.mono (F := FW rq) (show RoundIn (FW rq) 0 P l fn tmps assign body w _ from hround) ?_⟩
 rintro en w' ⟨b, Φ', S', D', rfl, hR, hΦ', hSd, hSo, hDo, hfr⟩
 let γ' : Nat → Option Nat := fun b => if S' b then some e else if D' b then none else if b < w.heap.size ∧ ¬ S b ∧ ¬ T b then γ b else none
 have hkeep : ∀ b, b < w.heap.size → ¬ S b → ¬ T b → w'.heap[b]? = w.heap[b]? ∧ γ' b = γ b := fun b hb hs ht => by
  refine ⟨hfr.keep b hb hs ht, ?_⟩
  simp only [γ']
  rw [if_neg (fun h => (hSo b hb h).elim hs ht)]
  by_cases hd : D' b
  ·rw [if_pos hd]
   rcases hDo b hb hd with h | h | h
   ·exact h.2.symm
   ·exact absurd h hs
   ·exact absurd h ht
  ·rw [if_neg hd, if_pos ⟨hb, hs, ht⟩]
 have hfr' : Fr γ w γ' w' := ⟨hfr.os, hfr.tape, hfr.output, hfr.size, fun b hb hn => by
  have := hkeep b hb (fun h => by rw [show γ b = some e from h] at hn; cases hn) (fun ⟨o, _, h⟩ => by rw [h] at hn; cases hn)
  exact ⟨this.1, this.2.trans hn⟩, hfr.drawn⟩
 have hlen : (pastY e cs H (.ext Φ')).length = H.length := by simp [pastY, deadAll_len]
 have hH' : HeapOk γ' ρ (pastY e cs H (.ext Φ')) w' := by
  refine ⟨by rw [hlen]; exact hH.len, fun o ob ho => ?_, fun b p hb => ?_⟩
  ·by_cases hoe : o = e
   ·subst hoe
    unfold pastY at ho
    rw [List.getElem?_set_self (by rw [deadAll_len]; simpa using hel)] at ho
    simp at ho; subst ho
    refine Φ'.stay hΦ' (fun _ _ _ => rfl) (Nat.le_refl _) (fun b hb hd => ?_) (fun b hb hs => ?_)
    ·simp only [γ']; rw [if_neg (fun h => (hSd b h).2 hd), if_pos hd]
    ·simp only [γ']; rw [if_pos hs]
   ·unfold pastY at ho
    rw [List.getElem?_set_ne (Ne.symm hoe)] at ho
    by_cases hoc : o ∈ cs
    ·rw [deadAll_in hoc ho]; exact trivial
    ·rw [deadAll_out hoc, List.getElem?_map] at ho
     cases hx : H[o]? with
     | none => rw [hx] at ho; cases ho
     | some ob0 =>
       rw [hx] at ho
       simp only [Option.map_some, Option.some.injEq] at ho
       subst ho
       refine has.move (e :: cs) (hH.obj o ob0 hx) (by simp [hoe, hoc]) (fun _ _ h => h) hfr.size (fun b p hb => (hH.lab b p hb).2) (fun b p hb hp hpn => ?_) (fun b hb hn _ => hfr'.keep b hb hn)
       rw [List.mem_cons, not_or] at hpn
       have := hkeep b hb (fun h => by rw [show γ b = some e from h] at hp; cases hp; exact hpn.1 rfl) (fun ⟨o, hoc, h⟩ => by rw [h] at hp; cases hp; exact hpn.2 hoc)
       exact ⟨this.1, this.2.trans hp⟩
  ·rw [hlen]
   simp only [γ'] at hb
   split at hb
   ·rename_i hs; cases hb; exact ⟨hel, (hSd b hs).1⟩
   ·split at hb
    ·cases hb
    ·split at hb
     ·rename_i h; have := hH.lab b p hb; exact ⟨this.1, by have := hfr.size; omega⟩
     ·cases hb
 exact hK _ w' γ' ρ _ _ (hk b Φ' hR) (hst.put hd rfl hst.env hH' (fun _ _ => rfl) hfr'.keep) hfr'
end Go.Av
