import Derived.Test.YteoedigfnfjopaaGreatAvQ
import Derived.OrdersHeld
set_option linter.unusedSimpArgs false
set_option linter.unusedVariables false
namespace Go.Av
open Go
variable {P : Program} {N : Nat} {pin : List Nat} {rq : Option Nat} {γ γ' : Nat → Option Nat} {ρ : List Value} {H : List AObj} {w w' : World}
def roOb : AObj → AObj
 | .row false c => .row false c
 | .rbox m => .rbox m
 | .glob g c => .glob g c
 | _ => .dead
def roH (H : List AObj) : List AObj := H.map roOb
section
variable (P N pin) (ft : FuncId → Option (List Value → Option (Prop × Value)))
def vcD1 (R : List AObj) (o : Oper) (q : Bool) (K : Env → List AObj → Prop) (E : Env) (H : List AObj) : Prop :=
 match q with
 | true => match dstOk N o.dst with
   | true => match quiet P E R o.op with
     | some (p, x) => match x.det with
       | true => p ∧ K (E.put o.dst x) H
       | false => False
     | none => False
   | false => False
 | false => vcOp P N pin ft { o with guard := none } K (OpK P N pin { o with guard := none } K E H) E H
def vcD (ops : Array Oper) (R : List AObj) : List (Nat × Bool) → (Env → List AObj → Prop) → Env → List AObj → Prop
 | [], K, E, H => K E H
 | (i, q) :: r, K, E, H => match ops[i]? with
   | none => False
   | some o => match o.guard with
     | none => vcD1 P N pin ft R o q (vcD ops R r K) E H
     | some (j, want) => match guardV E ops j with
       | some (d, b) => (b = want → vcD1 P N pin ft R o q (vcD ops R r K) ((d, .v (.bool want)) :: E) H) ∧ (b = !want → dstOk N o.dst = true ∧ vcD ops R r K (Env.put ((d, .v (.bool !want)) :: E) o.dst skipV) H)
       | none => match guardU E ops j with
         | true => dstOk N o.dst = true ∧ vcD ops R r K (Env.put E o.dst skipV) H
         | false => False
end
def schedB (ops : Array Oper) : List (Nat × Bool) → Array Bool → Bool
 | [], listed => (Region.ready .any ops listed).isEmpty
 | (i, true) :: r, listed => Region.free .any ops listed i && (Region.ready .any ops listed).contains i && schedB ops r (listed.setIfInBounds i true)
 | (i, false) :: r, listed => (Region.ready .any ops listed == [i]) && schedB ops r (listed.setIfInBounds i true)
def schedOk (ops : Array Oper) (s : List (Nat × Bool)) : Bool := s.length == ops.size && Region.noSelect ops && schedB ops s (Array.replicate ops.size false)
def SW (γ0 : Nat → Option Nat) (w0 w : World) : Prop := w0.heap.size ≤ w.heap.size ∧ ∀ b, b < w0.heap.size → γ0 b = none → w.heap[b]? = w0.heap[b]?
theorem roRd {γ0 : Nat → Option Nat} {ρ0 : List Value} {H0 : List AObj} {w0 : World} (hH : HeapOk γ0 ρ0 H0 w0) (hρ : ∀ (i : Nat) (x : Value), ρ0[i]? = some x → ρ[i]? = some x) (hS : SW γ0 w0 w) : Rd γ0 ρ (roH H0) w := by
 intro o ob ho
 simp only [roH, List.getElem?_map] at ho
 cases hob : H0[o]? with
 | none => rw [hob] at ho; cases ho
 | some ob0 =>
   rw [hob] at ho
   simp at ho
   subst ho
   have h0 := hH.obj o ob0 hob
   cases ob0 <;> simp only [roOb]
   ·exact trivial
   ·exact trivial
   ·obtain ⟨b, arr, e, fz, h1, h2, h3, h4⟩ := h0
    refine ⟨b, arr, e, fz, hρ _ _ h1, h2, (hS.2 b (Array.getElem?_eq_some_iff.1 h3).1 h2).trans h3, h4.1, fun j x u hx hu => ?_⟩
    have := h4.2 j x u hx hu
    cases x <;> simp only [rel1] at this ⊢
    ·exact this
    ·exact this
    ·exact ⟨hρ _ _ this.1, this.2⟩
    ·obtain ⟨b, k1, k2⟩ := this; exact ⟨b, hρ _ _ k1, k2⟩
    ·obtain ⟨b, ofs, n, cap, k1, k2⟩ := this; exact ⟨b, ofs, n, cap, hρ _ _ k1, k2⟩
    ·obtain ⟨b, k1, k2⟩ := this; exact ⟨b, hρ _ _ k1, k2⟩
   ·rename_i own c
    cases own
    ·obtain ⟨u, h1, h2⟩ := h0
     exact ⟨u, hρ _ _ h1, h2.stay fun b hb hlt => ⟨hS.2 b hlt (by simpa using hb), hb⟩⟩
    ·exact trivial
   ·exact trivial
   ·obtain ⟨h1, arr, e, fz, h2, h3⟩ := h0
    exact ⟨h1, arr, e, fz, (hS.2 _ (Array.getElem?_eq_some_iff.1 h2).1 h1).trans h2, h3⟩
   ·exact trivial
   ·exact trivial
   ·exact trivial
   ·exact trivial
   ·exact trivial
theorem vcD1_effect {ft : FuncId → Option (List Value → Option (Prop × Value))} (hft : PTab P ft) {R : List AObj} {o : Oper} {K : Env → List AObj → Prop} {E : Env} (h : vcD1 P N pin ft R o false K E H) : OpK P N pin o K E H := by
 have h : OpK P N pin { o with guard := none } K E H := by
  rcases vcOp_sound hft h with h | ⟨E', H', h1, h2⟩
  ·exact h
  ·exact h1.opK h2
 exact h
theorem vcD_sound {ft : FuncId → Option (List Value → Option (Prop × Value))} (hft : PTab P ft) {ops : Array Oper} (hsel : Region.noSelect ops = true) {πv : Pv} {γ0 : Nat → Option Nat} {ρ0 : List Value} {H0 : List AObj} {w0 : World}
 (hH0 : HeapOk γ0 ρ0 H0 w0) (hpin : ∀ o, o < H0.length → o ∈ pin ∧ ρ0[o]? = some (πv o)) {K : Env → List AObj → Prop} :
 ∀ {s : List (Nat × Bool)} {listed : Array Bool} {γ : Nat → Option Nat} {ρ : List Value} {E : Env} {H : List AObj} {a : Act} {w : World}, schedB ops s listed = true → vcD P N pin ft ops (roH H0) s K E H →
  St N pin πv γ ρ E H a w → Fr γ0 w0 γ w →
  wpAnyH P .any ops (fun e a' w' => e = .normal ∧ ∃ γ' ρ' E' H', K E' H' ∧ St N pin πv γ' ρ' E' H' a' w' ∧ Fr γ0 w0 γ' w') (SW γ0 w0) s.length listed a w
 | [], listed, γ, ρ, E, H, a, w, hs, h, hst, hfr => wpAnyH_done (by simpa [schedB] using hs) ⟨rfl, γ, ρ, E, H, h, hst, hfr⟩ 0
 | (i, q) :: r, listed, γ, ρ, E, H, a, w, hs, h, hst, hfr => by
   have hS : ∀ {γ' : Nat → Option Nat} {w' : World}, Fr γ0 w0 γ' w' → SW γ0 w0 w' := fun hf => ⟨hf.size, fun b hb hg => (hf.keep b hb hg).1⟩
   have hρ : ∀ (i : Nat) (x : Value), ρ0[i]? = some x → ρ[i]? = some x := fun i x hx => by
    have hlt : i < H0.length := by rw [← hH0.len]; exact (List.getElem?_eq_some_iff.1 hx).1
    obtain ⟨h1, h2⟩ := hpin i hlt
    rw [hst.pins i h1, ← h2]; exact hx
   unfold vcD at h
   split at h
   ·exact h.elim
   ·rename_i o ho
    have one : ∀ (E1 : Env), St N pin πv γ ρ E1 H a w → Region.wanted o (yielded ops a.tmps) = true → vcD1 P N pin ft (roH H0) o q (vcD P N pin ft ops (roH H0) r K) E1 H →
     wpAnyH P .any ops (fun e a' w' => e = .normal ∧ ∃ γ' ρ' E' H', K E' H' ∧ St N pin πv γ' ρ' E' H' a' w' ∧ Fr γ0 w0 γ' w') (SW γ0 w0) (r.length + 1) listed a w := by
     intro E1 hst1 hw h
     cases q with
     | true =>
       simp only [schedB, Bool.and_eq_true] at hs
       obtain ⟨⟨hfree, hready⟩, hs'⟩ := hs
       simp only [vcD1] at h
       split at h
       ·rename_i hd
        split at h
        ·rename_i p x hq
         split at h
         ·rename_i hdet
          obtain ⟨v, h1, h2⟩ := quiet_run hst1.env (roRd hH0 hρ (hS hfr)) hq h.1
          refine wpAnyH_take (v := v) ho hsel hfree hready (fun c a w hx => by cases hx.1) (.inl ⟨hw, fun w1 hw1 => ?_⟩) (hS hfr) ?_
          ·obtain ⟨v', h3, h4⟩ := quiet_run hst1.env (roRd hH0 hρ hw1) hq h.1
           have := rel.det hdet h2 h4
           subst this
           exact h3
          ·exact vcD_sound hft hsel hH0 hpin hs' h.2 (hst1.put hd h2 hst1.env hst1.heap (fun _ _ => rfl)) hfr
         ·exact h.elim
        ·exact h.elim
       ·exact h.elim
     | false =>
       simp only [schedB, Bool.and_eq_true, beq_iff_eq] at hs
       obtain ⟨hready, hs'⟩ := hs
       refine wpAnyH_all hready (by simp) fun j hj => ?_
       simp at hj
       subst hj
       unfold wpOp
       simp only [ho]
       rw [if_pos hw]
       left
       refine vcD1_effect hft h πv γ ρ a w hst1 _ _ fun v w' γ' ρ' E' H' hk hst' hfr' => ?_
       have hf2 := hfr.trans hfr'
       exact ⟨hS hf2, vcD_sound hft hsel hH0 hpin hs' hk hst' hf2⟩
    have skip : ∀ (E1 : Env), EnvOk ρ E1 a.tmps → Region.wanted o (yielded ops a.tmps) = false → dstOk N o.dst = true → vcD P N pin ft ops (roH H0) r K (Env.put E1 o.dst skipV) H →
     wpAnyH P .any ops (fun e a' w' => e = .normal ∧ ∃ γ' ρ' E' H', K E' H' ∧ St N pin πv γ' ρ' E' H' a' w' ∧ Fr γ0 w0 γ' w') (SW γ0 w0) (r.length + 1) listed a w := by
     intro E1 hE1 hw hd hk
     have hst1 : St N pin πv γ ρ (Env.put E1 o.dst skipV) H (a.put o.dst undef) w := hst.put (v := undef) (x := skipV) hd rfl hE1 hst.heap (fun _ _ => rfl)
     cases q with
     | true =>
       simp only [schedB, Bool.and_eq_true] at hs
       obtain ⟨⟨hfree, hready⟩, hs'⟩ := hs
       exact wpAnyH_take (v := undef) ho hsel hfree hready (fun c a w hx => by cases hx.1) (.inr ⟨hw, rfl⟩) (hS hfr) (vcD_sound hft hsel hH0 hpin hs' hk hst1 hfr)
     | false =>
       simp only [schedB, Bool.and_eq_true, beq_iff_eq] at hs
       obtain ⟨hready, hs'⟩ := hs
       refine wpAnyH_all hready (by simp) fun j hj => ?_
       simp at hj
       subst hj
       unfold wpOp
       simp only [ho]
       rw [if_neg (by simp [hw])]
       exact ⟨hS hfr, vcD_sound hft hsel hH0 hpin hs' hk hst1 hfr⟩
    split at h
    ·rename_i hg
     exact one E hst (by simp [Region.wanted, hg]) h
    ·rename_i j want hg
     split at h
     ·rename_i d b hgv
      unfold guardV at hgv
      split at hgv
      ·rename_i oj hoj
       split at hgv
       ·rename_i d' hd'
        split at hgv
        ·rename_i b' hb'
         simp at hgv
         obtain ⟨rfl, rfl⟩ := hgv
         have hk := hst.know hb'
         have hy : yielded ops a.tmps j = some b' := by
          have := hk.1
          simp only [Array.getD_eq_getD_getElem?] at this
          cases hx : a.tmps[d']? with
          | none => rw [hx] at this; simp [undef] at this
          | some v => rw [hx] at this; simp at this; subst this; simp [yielded, hoj, hd', hx]
         by_cases hb : b' = want
         ·subst hb
          exact one _ hk.2 (by simp [Region.wanted, hg, hy]) (h.1 rfl)
         ·have hb2 : b' = !want := by cases b' <;> cases want <;> simp_all
          obtain ⟨h1, h2⟩ := h.2 hb2
          subst hb2
          exact skip _ hk.2.env (by simp [Region.wanted, hg, hy]) h1 h2
        ·cases hgv
       ·cases hgv
      ·cases hgv
     ·split at h
      ·rename_i hu
       have hy := guardU_spec hst.env hu
       exact skip E hst.env (by simp [Region.wanted, hg, hy]) h.1 h.2
      ·exact h.elim
theorem awp_draw {ft : FuncId → Option (List Value → Option (Prop × Value))} (hm : P.follows .mixedOrders = true) (hft : PTab P ft) {id : Nat} {l : List Oper} {Q : Exit → Env → List AObj → Prop} {E : Env} {H : List AObj} (s : List (Nat × Bool))
 (hB : schedOk l.toArray s = true) (hp : ∀ o ∈ pin, o < H.length) (h : vcD P N (List.range H.length) ft l.toArray (roH H) s (fun E H => Q .normal E H) E H) (hnd : noDefer l.toArray = true := by rfl) : awp rq P N pin (.region id l.toArray true) Q E H := fun πv γ ρ a w hst => by
 simp only [schedOk, Bool.and_eq_true, beq_iff_eq] at hB
 obtain ⟨⟨hlen, hsel⟩, hsch⟩ := hB
 let w1 : World := { w with drawn := w.drawn + 1 }
 have hfr1 : Fr γ w γ w1 := Fr.drew γ w _ (Nat.le_succ _)
 have hH1 : HeapOk γ ρ H w1 := hst.heap.grow (fun _ _ => rfl) (Nat.le_refl _)
 have hpins : ∀ o, o < H.length → o ∈ List.range H.length ∧ ρ[o]? = some (ρ.getD o undef) := fun o ho => ⟨by simpa using ho, by
  have : o < ρ.length := by rw [hH1.len]; exact ho
  simp [List.getD, this]⟩
 have hst1 : St N (List.range H.length) ⟨fun o => ρ.getD o undef, πv.z⟩ γ ρ E H a w1 := ⟨hst.size, hst.defs.keep hfr1.keep, hst.env, hH1, fun o ho => (hpins o (by simpa using ho)).2⟩
 have key := vcD_sound hft hsel hH1 hpins hsch h hst1 (Fr.refl γ w1)
 rw [hlen] at key
 refine wpIn_mono (wpIn_any hnd (fun _ _ h => by cases h.1) hm (wpAny_of_held _ _ _ _ key)) ?_
 rintro e a' w' ⟨rfl, γ', ρ', E', H', hq, hs, hf⟩
 refine ⟨γ', ρ', E', H', hq, ⟨hs.size, hs.defs, hs.env, hs.heap, fun o ho => ?_⟩, hfr1.trans hf⟩
 have hol := hp o ho
 rw [hs.pins o (by simpa using hol), ← hst.pins o ho]
 exact (hpins o hol).2.symm
theorem Red.freezeBox {E : Env} {o : Nat} {m : List AV} (h : H[o]? = some (.box m)) : Red N pin E H E ((H.map (AObj.unview o)).set o (.rbox m)) := fun πv γ ρ a w hst => by
 have ho : o < H.length := (List.getElem?_eq_some_iff.1 h).1
 have hH := hst.heap
 let γ' : Nat → Option Nat := fun b => if γ b = some o then none else γ b
 have hu := hH.upd (γ' := γ') (w' := w) o ho (ρ.getD o undef) (.rbox m) (fun b _ hg => ⟨rfl, by simp [γ', hg]⟩) (Nat.le_refl _)
  (fun b p hb => by
    simp only [γ'] at hb
    split at hb
    ·cases hb
    ·exact .inl ⟨(hH.lab b p hb).2, hb⟩)
  (by
    obtain ⟨b, arr, e, h1, h2, h3, h4⟩ := hH.obj _ _ h
    have hρ : ρ.set o (ρ.getD o undef) = ρ := by
     apply List.ext_getElem?
     intro i
     rw [List.getElem?_set]
     split
     ·rename_i he; subst he
      have hlt : o < ρ.length := by rw [hH.len]; exact ho
      simp [hlt, List.getD]
     ·rfl
    rw [hρ]
    exact ⟨b, arr, e, _, h1, by simp [γ', h2], h3, h4⟩)
 have hρ : ρ.set o (ρ.getD o undef) = ρ := by
  apply List.ext_getElem?
  intro i
  rw [List.getElem?_set]
  split
  ·rename_i he; subst he
   have hlt : o < ρ.length := by rw [hH.len]; exact ho
   simp [hlt, List.getD]
  ·rfl
 rw [hρ] at hu
 refine ⟨γ', ρ, ⟨hst.size, hst.defs.lab fun b hb => (by simp [γ', hb]), hst.env, ⟨by simpa using hH.len, fun p ob hp => ?_, fun b p hb => ?_⟩, hst.pins⟩, ⟨rfl, rfl, rfl, Nat.le_refl _, fun b _ hg => ⟨rfl, by simp [γ', hg]⟩, Nat.le_refl _⟩⟩
 ·by_cases hpo : p = o
  ·subst hpo
   rw [List.getElem?_set_self (by simpa using ho)] at hp
   simp at hp; subst hp
   exact hu.obj p _ (by rw [List.getElem?_set_self (by simpa using ho)])
  ·rw [List.getElem?_set_ne (Ne.symm hpo), List.getElem?_map] at hp
   cases hH' : H[p]? with
   | none => rw [hH'] at hp; cases hp
   | some ob0 =>
     rw [hH'] at hp; simp at hp; subst hp
     have h0 := hH.obj p ob0 hH'
     have keep : ∀ {own : Bool} {S S' : Nat → Prop} {c : CV} {x : Value}, CRep own w S c x → (∀ b, S b → S' b) → CRep own w S' c x := fun hc h1 => hc.mono h1
     cases ob0 <;> simp only [AObj.unview]
     ·exact trivial
     ·obtain ⟨b, arr, e, h1, h2, h3, h4⟩ := h0
      exact ⟨b, arr, e, h1, by simp [γ', h2, hpo], h3, h4⟩
     ·obtain ⟨b, arr, e, fz, h1, h2, h3, h4⟩ := h0
      exact ⟨b, arr, e, fz, h1, by simp [γ', h2], h3, h4⟩
     ·obtain ⟨x, h1, h2⟩ := h0
      rename_i own c'
      refine ⟨x, h1, keep h2 fun b hb => ?_⟩
      cases own <;> simp at hb ⊢ <;> simp [γ', hb]
      exact hpo
     ·rename_i src c'
      by_cases hsrc : src = o
      ·simp only [if_pos hsrc]; exact trivial
      ·simp only [if_neg hsrc]
       obtain ⟨x, h1, h2⟩ := h0
       exact ⟨x, h1, keep h2 fun b hb => by simp [γ', hb, hsrc]⟩
     ·obtain ⟨h1, h2⟩ := h0
      exact ⟨by simp [γ', h1], h2⟩
     ·rename_i own c' i f q0
      obtain ⟨b, ofs, cap, h1, h2, h3, h6, h4⟩ := h0
      refine ⟨b, ofs, cap, h1, h2, keep h3 fun b hb => ?_, ?_, h4⟩
      ·cases own <;> simp at hb ⊢ <;> simp [γ', hb]
       exact hpo
      ·cases own <;> simp at h6 ⊢ <;> simp [γ', h6]
       exact hpo
     ·obtain ⟨x, h1, h2⟩ := h0
      exact ⟨x, h1, h2.mono (fun b hb => by simp [γ', hb, hpo]) (fun b hb => by simp [γ', hb])⟩
     ·obtain ⟨x, h1, h2⟩ := h0
      exact ⟨x, h1, h2.to (fun b hb _ => ⟨rfl, by simp [γ', hb, hpo]⟩) (fun q hq => ⟨q, hq, fun v hv => hv⟩)⟩
     ·obtain ⟨x, h1, h2⟩ := h0
      exact ⟨x, h1, h2.to (fun b hb _ => ⟨rfl, by simp [γ', hb, hpo]⟩)⟩
     ·exact ExtP.stay _ h0 (fun _ _ _ => rfl) (Nat.le_refl _) (fun b _ hb => by simp only [γ', hb]; simp) (fun b _ hb => by simp [γ', hb, hpo])
 ·simp only [γ'] at hb
  split at hb
  ·cases hb
  ·have := hH.lab b p hb; exact ⟨by simpa using this.1, this.2⟩
end Go.Av
