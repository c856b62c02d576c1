import Derived.Test.YtoohhgembcdhpaaGreatAvW
set_option linter.unusedSimpArgs false
set_option linter.unusedVariables false
namespace Go.Av
open Go
variable {P : Program} {N : Nat} {pin : List Nat} {rq : Option Nat} {H : List AObj}
section
variable (P : Program) (N : Nat) (pin : List Nat) (ft : FuncId → Option (List Value → Option (Prop × Value))) (ops : Array Oper) (R : List AObj)
def frs : List Nat → (Env → List AObj → Prop) → Env → List AObj → Prop
 | [], K, E, H => K E H
 | j :: r, K, E, H => opS P N pin ft ops R j true (frs r K) E H
theorem frs_nil (K : Env → List AObj → Prop) (E : Env) (H : List AObj) : frs P N pin ft ops R [] K E H = K E H := rfl
theorem frs_cons (j : Nat) (r : List Nat) (K : Env → List AObj → Prop) (E : Env) (H : List AObj) : frs P N pin ft ops R (j :: r) K E H = opS P N pin ft ops R j true (frs P N pin ft ops R r K) E H := rfl
def edgesP (L : Nat → Array Bool → Env → List AObj → Prop) : List (Nat × List Nat × Nat × Array Bool) → Env → List AObj → Prop
 | [], _, _ => True
 | e :: r, E, H => opS P N pin ft ops R e.1 false (frs P N pin ft ops R e.2.1 (L e.2.2.1 e.2.2.2)) E H ∧ edgesP L r E H
end
def frOk (ops : Array Oper) : List Nat → Array Bool → Bool
 | [], _ => true
 | j :: r, l => Region.free .any ops l j && (Region.ready .any ops l).contains j && frOk ops r (l.setIfInBounds j true)
def setLs : List Nat → Array Bool → Array Bool
 | [], l => l
 | j :: r, l => setLs r (l.setIfInBounds j true)
def edgesB (ops : Array Oper) (l : Array Bool) (n : Nat) (es : List (Nat × List Nat × Nat × Array Bool)) : Bool :=
 (Region.ready .any ops l == es.map fun e => e.1) && !es.isEmpty && es.all fun e => frOk ops e.2.1 (l.setIfInBounds e.1 true) && (e.2.2.1 + e.2.1.length + 1 == n) && (setLs e.2.1 (l.setIfInBounds e.1 true) == e.2.2.2)
structure LRules (P : Program) (N : Nat) (pins : List Nat) (ft : FuncId → Option (List Value → Option (Prop × Value))) (ops : Array Oper) (R : List AObj) (K : Env → List AObj → Prop) (L : Nat → Array Bool → Env → List AObj → Prop) : Prop where
 fin : ∀ {l : Array Bool} {E : Env} {H : List AObj}, (Region.ready .any ops l).isEmpty = true → K E H → L 0 l E H
 step : ∀ {n : Nat} {l : Array Bool} {E : Env} {H : List AObj} (es : List (Nat × List Nat × Nat × Array Bool)), edgesB ops l n es = true → edgesP P N pins ft ops R L es E H → L n l E H
 red : ∀ {n : Nat} {l : Array Bool} {E E' : Env} {H H' : List AObj}, Red N pins E H E' H' → L n l E' H' → L n l E H
section
variable {ft : FuncId → Option (List Value → Option (Prop × Value))} {γ0 : Nat → Option Nat} {H0 : List AObj} {w0 : World} {πv : Pv} {ops : Array Oper} {K : Env → List AObj → Prop}
theorem frs_sound (hsel : Region.noSelect ops = true) (hro : ∀ {γ : Nat → Option Nat} {ρ : List Value} {E : Env} {H : List AObj} {a : Act} {w w1 : World}, St N pin πv γ ρ E H a w → SW γ0 w0 w1 → Rd γ0 ρ (roH H0) w1)
 {Q : Exit → Act → World → Prop} (hQn : ∀ c a w, ¬ Q (.panic c) a w) {fuel : Nat} :
 ∀ {fs : List Nat} {l : Array Bool} {K : Env → List AObj → Prop} {γ : Nat → Option Nat} {ρ : List Value} {E : Env} {H : List AObj} {a : Act} {w : World}, frOk ops fs l = true →
  (∀ {γ : Nat → Option Nat} {ρ : List Value} {E : Env} {H : List AObj} {a : Act} {w : World}, K E H → St N pin πv γ ρ E H a w → Fr γ0 w0 γ w → wpAnyH P .any ops Q (SW γ0 w0) fuel (setLs fs l) a w) →
  frs P N pin ft ops (roH H0) fs K E H → St N pin πv γ ρ E H a w → Fr γ0 w0 γ w → wpAnyH P .any ops Q (SW γ0 w0) (fuel + fs.length) l a w := by
 have hS : ∀ {γ' : Nat → Option Nat} {w' : World}, Fr γ0 w0 γ' w' → SW γ0 w0 w' := fun hf => ⟨hf.size, fun b hb hg => (hf.keep b hb hg).1⟩
 intro fs
 induction fs with
 | nil => intro l K γ ρ E H a w _ hk h hst hfr; exact hk h hst hfr
 | cons i fs ih =>
   intro l K γ ρ E H a w hB hk h hst hfr
   simp only [frOk, Bool.and_eq_true] at hB
   obtain ⟨⟨hfree, hready⟩, hB'⟩ := hB
   have e : fuel + (i :: fs).length = (fuel + fs.length) + 1 := by simp; omega
   rw [e]
   obtain ⟨o, ho, ⟨E1, hst1, hw, h⟩ | ⟨E1, hE1, hw, hd, h⟩⟩ := opS_cases h hst
   ·simp only [vcD1] at h
    split at h
    ·rename_i hd
     split at h
     ·rename_i p x hq
      split at h
      ·rename_i hdet
       obtain ⟨v, h1, h2⟩ := quiet_run hst1.env (hro hst (hS hfr)) hq h.1
       refine wpAnyH_take (v := v) ho hsel hfree hready (fun c a w hx => (hQn _ _ _ hx).elim) (.inl ⟨hw, fun w1 hw1 => ?_⟩) (hS hfr) ?_
       ·obtain ⟨v', h3, h4⟩ := quiet_run hst1.env (hro hst hw1) hq h.1
        have := rel.det hdet h2 h4
        subst this
        exact h3
       ·exact ih hB' hk h.2 (hst1.put hd h2 hst1.env hst1.heap (fun _ _ => rfl)) hfr
      ·exact h.elim
     ·exact h.elim
    ·exact h.elim
   ·have hst1 : St N pin πv γ ρ (Env.put E1 o.dst skipV) H (a.put o.dst undef) w := hst.put (v := undef) (x := skipV) hd rfl hE1 hst.heap (fun _ _ => rfl)
    exact wpAnyH_take (v := undef) ho hsel hfree hready (fun c a w hx => (hQn _ _ _ hx).elim) (.inr ⟨hw, rfl⟩) (hS hfr) (ih hB' hk h hst1 hfr)
theorem awp_drawL (pins : List Nat) (fs0 : List Nat) (n0 : Nat) (l0 : Array Bool) (hm : P.follows .mixedOrders = true) (hft : PTab P ft) {id : Nat} {l : List Oper} {Q : Exit → Env → List AObj → Prop} {E : Env} {H : List AObj}
 (hB : (Region.noSelect l.toArray && frOk l.toArray fs0 (Array.replicate l.toArray.size false) && (n0 + fs0.length == l.toArray.size) && (setLs fs0 (Array.replicate l.toArray.size false) == l0)) = true)
 (hpk : pinsFrom pins 0 H = true) (hlt : pins.all (fun o => decide (o < H.length)) = true) (hp : ∀ o ∈ pin, o ∈ pins)
 (h : ∀ L, LRules P N pins ft l.toArray (roH H) (fun E H => Q .normal E H) L → frs P N pins ft l.toArray (roH H) fs0 (L n0 l0) E H)  (hnd : noDefer l.toArray = true := by rfl) : awp rq P N pin (.region id l.toArray true) Q E H := fun πv γ ρ a w hst => by
 simp only [Bool.and_eq_true, beq_iff_eq] at hB
 obtain ⟨⟨⟨hsel, hfr0⟩, hn0⟩, hl0⟩ := hB
 have hlt' : ∀ o ∈ pins, o < H.length := fun o ho => by simpa using List.all_eq_true.1 hlt o ho
 let w1 : World := { w with drawn := w.drawn + 1 }
 have hfr1 : Fr γ w γ w1 := Fr.drew γ w _ (Nat.le_succ _)
 have hH1 : HeapOk γ ρ H w1 := hst.heap.grow (fun _ _ => rfl) (Nat.le_refl _)
 have hpins : ∀ o, o ∈ pins → ρ[o]? = some (ρ.getD o undef) := fun o ho => by
  have : o < ρ.length := by rw [hH1.len]; exact hlt' o ho
  simp [List.getD, this]
 have hst1 : St N pins ⟨fun o => ρ.getD o undef, πv.z⟩ γ ρ E H a w1 := ⟨hst.size, hst.defs.keep hfr1.keep, hst.env, hH1, fun o ho => hpins o ho⟩
 let Qf : Exit → Act → World → Prop := fun e a' w' => ∃ γ' ρ' E' H', Q e E' H' ∧ St N pin πv γ' ρ' E' H' a' w' ∧ Fr γ w γ' w'
 let Qn : Exit → Act → World → Prop := fun e a' w' => e = .normal ∧ Qf e a' w'
 have hQn : ∀ c a w, ¬ Qn (.panic c) a w := fun c a w hx => by cases hx.1
 have hro : ∀ {γ1 : Nat → Option Nat} {ρ1 : List Value} {E : Env} {H' : List AObj} {a : Act} {w w2 : World}, St N pins ⟨fun o => ρ.getD o undef, πv.z⟩ γ1 ρ1 E H' a w → SW γ w1 w2 → Rd γ ρ1 (roH H) w2 := fun hs hS => roRdP hH1 hpk (fun i hi x hx => by
  rw [hs.pins i hi]
  have : i < ρ.length := by rw [hH1.len]; exact hlt' i hi
  simp [List.getD, this] at hx ⊢
  exact hx) hS
 have hS : ∀ {γ' : Nat → Option Nat} {w' : World}, Fr γ w1 γ' w' → SW γ w1 w' := fun hf => ⟨hf.size, fun b hb hg => (hf.keep b hb hg).1⟩
 let L : Nat → Array Bool → Env → List AObj → Prop := fun n l' E' H' => ∀ (γ1 : Nat → Option Nat) (ρ1 : List Value) (a1 : Act) (w2 : World), St N pins ⟨fun o => ρ.getD o undef, πv.z⟩ γ1 ρ1 E' H' a1 w2 → Fr γ w1 γ1 w2 → wpAnyH P .any l.toArray Qn (SW γ w1) n l' a1 w2
 have hL : LRules P N pins ft l.toArray (roH H) (fun E H => Q .normal E H) L := by
  refine ⟨fun {l'} {E'} {H'} hr hk γ1 ρ1 a1 w2 hs hf => ?_, fun {n} {l'} {E'} {H'} es hes hP γ1 ρ1 a1 w2 hs hf => ?_, fun {n} {l'} {E'} {E2} {H'} {H2} hr hk γ1 ρ1 a1 w2 hs hf => ?_⟩
  ·refine wpAnyH_done (by simpa using hr) ⟨rfl, γ1, ρ1, E', H', hk, ⟨hs.size, hs.defs, hs.env, hs.heap, fun o ho => ?_⟩, hfr1.trans hf⟩ 0
   have hol := hp o ho
   rw [hs.pins o hol, ← hst.pins o ho]
   exact (hpins o hol).symm
  ·simp only [edgesB, Bool.and_eq_true, beq_iff_eq, Bool.not_eq_true', List.all_eq_true] at hes
   obtain ⟨⟨hready, hne⟩, hall⟩ := hes
   obtain ⟨n', rfl⟩ : ∃ n', n = n' + 1 := by
    cases es with
    | nil => simp at hne
    | cons e r => have := (hall e (by simp)).1.2; exact ⟨e.2.2.1 + e.2.1.length, this.symm⟩
   refine wpAnyH_all hready (by intro h0; simp at h0; subst h0; simp at hne) fun i hi => ?_
   obtain ⟨e, he, rfl⟩ := List.mem_map.1 hi
   obtain ⟨⟨h1, h2⟩, h3⟩ := hall e he
   have hedge : opS P N pins ft l.toArray (roH H) e.1 false (frs P N pins ft l.toArray (roH H) e.2.1 (L e.2.2.1 e.2.2.2)) E' H' := by
    clear hready hne hall hi h1 h2 h3
    induction es with
    | nil => cases he
    | cons e' r ih =>
      rcases List.mem_cons.1 he with rfl | he'
      ·exact hP.1
      ·exact ih hP.2 he'
   have hgo : ∀ {γ2 : Nat → Option Nat} {ρ2 : List Value} {E3 : Env} {H3 : List AObj} {a3 : Act} {w3 : World}, frs P N pins ft l.toArray (roH H) e.2.1 (L e.2.2.1 e.2.2.2) E3 H3 → St N pins ⟨fun o => ρ.getD o undef, πv.z⟩ γ2 ρ2 E3 H3 a3 w3 → Fr γ w1 γ2 w3 →
    wpAnyH P .any l.toArray Qn (SW γ w1) n' (l'.setIfInBounds e.1 true) a3 w3 := by
    intro γ2 ρ2 E3 H3 a3 w3 h4 h5 h6
    have h7 := frs_sound (ft := ft) hsel hro hQn (fuel := e.2.2.1) (fs := e.2.1) h1 (fun {γ4} {ρ4} {E4} {H4} {a4} {w4} hk hs hf => by rw [h3]; exact hk γ4 ρ4 a4 w4 hs hf) h4 h5 h6
    rwa [show e.2.2.1 + e.2.1.length = n' from by omega] at h7
   obtain ⟨o, ho, ⟨E1, hst1, hw, h⟩ | ⟨E1, hE1, hw, hd, h⟩⟩ := opS_cases hedge hs
   ·unfold wpOp
    simp only [ho]
    rw [if_pos hw]
    left
    refine vcD1_effect hft h _ γ1 ρ1 a1 w2 hst1 _ _ fun v w' γ' ρ' E' H' hk hst' hfr' => ?_
    have hf2 := hf.trans hfr'
    exact ⟨hS hf2, hgo hk hst' hf2⟩
   ·have hst1 : St N pins ⟨fun o => ρ.getD o undef, πv.z⟩ γ1 ρ1 (Env.put E1 o.dst skipV) H' (a1.put o.dst undef) w2 := hs.put (v := undef) (x := skipV) hd rfl hE1 hs.heap (fun _ _ => rfl)
    unfold wpOp
    simp only [ho]
    rw [if_neg (by simp [hw])]
    exact ⟨hS hf, hgo h hst1 hf⟩
  ·obtain ⟨γ3, ρ3, h1, h2⟩ := hr _ γ1 ρ1 a1 w2 hs
   exact hk γ3 ρ3 a1 w2 h1 (hf.trans h2)
 have key := frs_sound (ft := ft) hsel hro hQn (fuel := n0) (fs := fs0) (l := Array.replicate l.toArray.size false) hfr0 (fun {γ4} {ρ4} {E4} {H4} {a4} {w4} hk hs hf => by rw [hl0]; exact hk γ4 ρ4 a4 w4 hs hf) (h L hL) hst1 (Fr.refl γ w1)
 rw [hn0] at key
 exact wpIn_mono (wpIn_any (Q := Qn) hnd (fun _ _ h => by cases h.1) hm (wpAny_of_held _ _ _ _ key)) fun e a' w' h => h.2
end
theorem LRules.edge {P : Program} {N : Nat} {pins : List Nat} {ft : FuncId → Option (List Value → Option (Prop × Value))} {ops : Array Oper} {R : List AObj} {K0 : Env → List AObj → Prop} {L : Nat → Array Bool → Env → List AObj → Prop} (hL : LRules P N pins ft ops R K0 L)
 {i m : Nat} {fs : List Nat} {l : Array Bool} {E E1 : Env} {H H1 : List AObj} (hn : L m l E1 H1)
 (hx : ∀ K : Env → List AObj → Prop, (∀ E' H', Red N pins E' H' E1 H1 → K E' H') → opS P N pins ft ops R i false (frs P N pins ft ops R fs K) E H := by
   intro K hK
   simp (maxSteps := 4000000) only [go_sem, Nat.reduceBEq, Nat.reduceLT, Nat.reduceAdd, Nat.reduceLeDiff, Nat.reduceSub, Nat.reduceEqDiff, Int.reduceToNat, reduceCtorEq, ↓reduceIte]
   repeat' (first | refine And.intro ?_ ?_ | intro hg)
   all_goals (try simp (disch := omega) only [wrap_fits])
   all_goals first | (refine hK _ _ ?_; exact Red.auto) | exact trivial | assumption | omega | exact wrap_fits (by omega) (by omega) | (simp (maxSteps := 4000000) only [go_sem, Nat.reduceBEq, Nat.reduceLT, Nat.reduceAdd, Nat.reduceLeDiff, Nat.reduceSub, Nat.reduceEqDiff, Int.reduceToNat, reduceCtorEq, ↓reduceIte]; (repeat' (first | refine And.intro ?_ ?_ | intro hg)); all_goals (try simp (disch := omega) only [wrap_fits]); all_goals first | (refine hK _ _ ?_; exact Red.auto) | exact trivial | assumption | omega | exact wrap_fits (by omega) (by omega)) | (simp_all; done) | (simp_all; omega)) : opS P N pins ft ops R i false (frs P N pins ft ops R fs (L m l)) E H :=
 hx _ fun _ _ h => hL.red h hn
theorem LRules.edgeS {P : Program} {N : Nat} {pins : List Nat} {ft : FuncId → Option (List Value → Option (Prop × Value))} {ops : Array Oper} {R : List AObj} {K0 : Env → List AObj → Prop} {L : Nat → Array Bool → Env → List AObj → Prop} (hL : LRules P N pins ft ops R K0 L)
 (sel : List Nat) {i m : Nat} {fs : List Nat} {l : Array Bool} {E E1 : Env} {H H1 : List AObj} (hn : L m l E1 H1)
 (hx : ∀ K : Env → List AObj → Prop, (∀ E' H', Red N pins (E'.ren (fun x => pos sel x 0)) (selH sel H') E1 H1 → selOk pins sel H'.length → K E' H') → opS P N pins ft ops R i false (frs P N pins ft ops R fs K) E H := by
   intro K hK
   simp (maxSteps := 4000000) only [go_sem, Nat.reduceBEq, Nat.reduceLT, Nat.reduceAdd, Nat.reduceLeDiff, Nat.reduceSub, Nat.reduceEqDiff, Int.reduceToNat, reduceCtorEq, ↓reduceIte]
   repeat' (first | refine And.intro ?_ ?_ | intro hg)
   all_goals (try simp (disch := omega) only [wrap_fits])
   all_goals first | (refine hK _ _ ?_ ?_; exact Red.auto; simp [selOk, pos]) | exact trivial | assumption | omega | exact wrap_fits (by omega) (by omega) | (simp (maxSteps := 4000000) only [go_sem, Nat.reduceBEq, Nat.reduceLT, Nat.reduceAdd, Nat.reduceLeDiff, Nat.reduceSub, Nat.reduceEqDiff, Int.reduceToNat, reduceCtorEq, ↓reduceIte]; (repeat' (first | refine And.intro ?_ ?_ | intro hg)); all_goals (try simp (disch := omega) only [wrap_fits]); all_goals first | (refine hK _ _ ?_ ?_; exact Red.auto; simp [selOk, pos]) | exact trivial | assumption | omega | exact wrap_fits (by omega) (by omega)) | (simp_all; done) | (simp_all; omega)) : opS P N pins ft ops R i false (frs P N pins ft ops R fs (L m l)) E H :=
 hx _ fun _ _ h hs => hL.red (Red.trans (Red.sel sel hs) h) hn
theorem upon_mono' {o : Oper} {a : Act} {K K' : Act → World → Prop} {Q Q' : Exit → Act → World → Prop} (hK : ∀ a w, K a w → K' a w)
 (hQ : ∀ e a w, e ≠ .normal → Q e a w → Q' e a w) {r : Result Next} (h : o.upon P a K Q r) : o.upon P a K' Q' r := by
 cases r with
 | ok n w' =>
   cases n <;> simp only [Oper.upon] at h ⊢ <;>
    first
     | exact hK _ _ h
     | exact Calls.mono h (fun e w'' he => by
      cases e
      ·exact hK _ _ he
      ·exact hQ _ _ _ (by simp) he
      ·obtain ⟨a, w, h⟩ := he; exact ⟨a, w, hQ _ _ _ (by simp) h⟩)
     | exact Rows.mono h (fun _ _ he => hK _ _ he)
     | exact h
 | halt x w' => cases x <;> simp only [Oper.upon] at h ⊢ <;> first | exact hQ _ _ _ (by simp) h | exact h
theorem wpList_append {ops : Array Oper} {X : Act → World → Prop} {Q : Exit → Act → World → Prop} {l2 : List Oper} (hX : ∀ a w, X a w → wpList P ops Q l2 a w) :
 ∀ (l : List Oper) (a : Act) (w : World), wpList P ops (fun e a w => e = .normal ∧ X a w) l a w → wpList P ops Q (l ++ l2) a w
 | [], _, _, h => hX _ _ h.2
 | o :: rest, a, w, h => by
   unfold wpList at h
   rw [List.cons_append]
   unfold wpList
   split
   ·rename_i hw
    rw [if_pos hw] at h
    rcases h with h | ⟨h1, a', w', h2⟩
    ·exact .inl (upon_mono' (wpList_append hX rest) (fun e a w he h => absurd h.1 he) h)
    ·exact absurd h2.1 (by simp)
   ·rename_i hw
    rw [if_neg hw] at h
    exact wpList_append hX rest _ _ h
theorem wpA_cut {ops : Array Oper} {l1 l2 : List Oper} {K : Env → List AObj → Prop} {E : Env} {H : List AObj} (E1 : Env) (H1 : List AObj)
 (h1 : ∀ K : Env → List AObj → Prop, (∀ E' H', Red N pin E' H' E1 H1 → K E' H') → wpA P N pin ops l1 K E H) (h2 : wpA P N pin ops l2 K E1 H1) : wpA P N pin ops (l1 ++ l2) K E H := fun πv γ ρ a w hst => by
 have h3 := h1 (fun E' H' => Red N pin E' H' E1 H1) (fun _ _ h => h) πv γ ρ a w hst
 refine wpList_append (X := fun a' w' => ∃ γ' ρ', St N pin πv γ' ρ' E1 H1 a' w' ∧ Fr γ w γ' w') (fun a' w' ⟨γ', ρ', hs, hf⟩ => ?_) l1 a w
  (wpList_mono (fun e a' w' ⟨he, γ', ρ', E', H', hr, hs, hf⟩ => by
   obtain ⟨γ2, ρ2, hs2, hf2⟩ := hr πv γ' ρ' a' w' hs
   exact ⟨he, γ2, ρ2, hs2, hf.trans hf2⟩) _ _ _ h3)
 exact wpList_mono (fun e a2 w2 ⟨he, γ2, ρ2, E2, H2, hk, hs2, hf2⟩ => ⟨he, γ2, ρ2, E2, H2, hk, hs2, hf.trans hf2⟩) _ _ _ (h2 πv γ' ρ' a' w' hs)
theorem wpA_cutAt (n : Nat) {ops : Array Oper} {l : List Oper} {K : Env → List AObj → Prop} {E : Env} {H : List AObj} (E1 : Env) (H1 : List AObj)
 (h1 : ∀ K : Env → List AObj → Prop, (∀ E' H', Red N pin E' H' E1 H1 → K E' H') → wpA P N pin ops (l.take n) K E H) (h2 : wpA P N pin ops (l.drop n) K E1 H1) : wpA P N pin ops l K E H := by
 have := wpA_cut E1 H1 h1 h2
 rwa [List.take_append_drop] at this
theorem awp_regionA {id : Nat} {l : List Oper} {Q : Exit → Env → List AObj → Prop} {E : Env} {H : List AObj} (h : wpA P N pin l.toArray l (Q .normal) E H) (hnd : noDefer l.toArray = true := by rfl) :
 awp rq P N pin (.region id l.toArray false) Q E H := fun πv γ ρ a w hst =>
 wpIn_mono (wpIn_lit hnd (fun _ _ h => by cases h.1) (h πv γ ρ a w hst)) fun e a w ⟨he, γ2, ρ2, E2, H2, hq, hs⟩ => by subst he; exact ⟨γ2, ρ2, E2, H2, hq, hs⟩
open Classical in
noncomputable def fixO {R : Type} (f : Nat → Option R) : Option R := if h : ∃ r N, ∀ n, N ≤ n → f n = some r then some h.choose else none
end Go.Av
