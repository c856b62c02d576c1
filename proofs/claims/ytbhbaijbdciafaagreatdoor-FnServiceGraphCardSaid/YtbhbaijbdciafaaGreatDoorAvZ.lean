import Derived.Test.YtbhbaijbdciafaaGreatDoorAvW
set_option linter.unusedSimpArgs false
set_option linter.unusedVariables false
namespace Go.Av
open Go
variable {P : Program} {N : Nat} {pin : List Nat} {rq : Option Nat} {H : List AObj}
section
variable (P : Program) (N : Nat) (pin : List Nat) (ft : FuncId → Option (List Value → Option (Prop × Value))) (ops : Array Oper) (R : List AObj)
def frs : List Nat → (Env → List AObj → Prop) → Env → List AObj → Prop
 | [], K, E, H => K E H
 | j :: r, K, E, H => opS P N pin ft ops R j true (frs r K) E H
theorem frs_nil (K : Env → List AObj → Prop) (E : Env) (H : List AObj) : frs P N pin ft ops R [] K E H = K E H := rfl
theorem frs_cons (j : Nat) (r : List Nat) (K : Env → List AObj → Prop) (E : Env) (H : List AObj) : frs P N pin ft ops R (j :: r) K E H = opS P N pin ft ops R j true (frs P N pin ft ops R r K) E H := rfl
def edgesP (L : Nat → Array Bool → Env → List AObj → Prop) : List (Nat × List Nat × Nat × Array Bool) → Env → List AObj → Prop
 | [], _, _ => True
 | e :: r, E, H => opS P N pin ft ops R e.1 false (frs P N pin ft ops R e.2.1 (L e.2.2.1 e.2.2.2)) E H ∧ edgesP L r E H
end
def frOk (ops : Array Oper) : List Nat → Array Bool → Bool
 | [], _ => true
 | j :: r, l => Region.free .any ops l j && (Region.ready .any ops l).contains j && frOk ops r (l.setIfInBounds j true)
def setLs : List Nat → Array Bool → Array Bool
 | [], l => l
 | j :: r, l => setLs r (l.setIfInBounds j true)
def edgesB (ops : Array Oper) (l : Array Bool) (n : Nat) (es : List (Nat × List Nat × Nat × Array Bool)) : Bool :=
 (Region.ready .any ops l == es.map fun e => e.1) && !es.isEmpty && es.all fun e => frOk ops e.2.1 (l.setIfInBounds e.1 true) && (e.2.2.1 + e.2.1.length + 1 == n) && (setLs e.2.1 (l.setIfInBounds e.1 true) == e.2.2.2)
structure LRules (P : Program) (N : Nat) (pins : List Nat) (ft : FuncId → Option (List Value → Option (Prop × Value))) (ops : Array Oper) (R : List AObj) (K : Env → List AObj → Prop) (L : Nat → Array Bool → Env → List AObj → Prop) : Prop where
 fin : ∀ {l : Array Bool} {E : Env} {H : List AObj}, (Region.ready .any ops l).isEmpty = true → K E H → L 0 l E H
 step : ∀ {n : Nat} {l : Array Bool} {E : Env} {H : List AObj} (es : List (Nat × List Nat × Nat × Array Bool)), edgesB ops l n es = true → edgesP P N pins ft ops R L es E H → L n l E H
 red : ∀ {n : Nat} {l : Array Bool} {E E' : Env} {H H' : List AObj}, Red N pins E H E' H' → L n l E' H' → L n l E H
section
variable {ft : FuncId → Option (List Value → Option (Prop × Value))} {γ0 : Nat → Option Nat} {H0 : List AObj} {w0 : World} {πv : Pv} {ops : Array Oper} {K : Env → List AObj → Prop}
end
theorem LRules.edge {P : Program} {N : Nat} {pins : List Nat} {ft : FuncId → Option (List Value → Option (Prop × Value))} {ops : Array Oper} {R : List AObj} {K0 : Env → List AObj → Prop} {L : Nat → Array Bool → Env → List AObj → Prop} (hL : LRules P N pins ft ops R K0 L)
 {i m : Nat} {fs : List Nat} {l : Array Bool} {E E1 : Env} {H H1 : List AObj} (hn : L m l E1 H1)
 (hx : ∀ K : Env → List AObj → Prop, (∀ E' H', Red N pins E' H' E1 H1 → K E' H') → opS P N pins ft ops R i false (frs P N pins ft ops R fs K) E H := by
   intro K hK
   simp (maxSteps := 4000000) only [go_sem, Nat.reduceBEq, Nat.reduceLT, Nat.reduceAdd, Nat.reduceLeDiff, Nat.reduceSub, Nat.reduceEqDiff, Int.reduceToNat, reduceCtorEq, ↓reduceIte]
   repeat' (first | refine And.intro ?_ ?_ | intro hg)
   all_goals (try simp (disch := omega) only [wrap_fits])
   all_goals first | (refine hK _ _ ?_; exact Red.auto) | exact trivial | assumption | omega | exact wrap_fits (by omega) (by omega) | (simp (maxSteps := 4000000) only [go_sem, Nat.reduceBEq, Nat.reduceLT, Nat.reduceAdd, Nat.reduceLeDiff, Nat.reduceSub, Nat.reduceEqDiff, Int.reduceToNat, reduceCtorEq, ↓reduceIte]; (repeat' (first | refine And.intro ?_ ?_ | intro hg)); all_goals (try simp (disch := omega) only [wrap_fits]); all_goals first | (refine hK _ _ ?_; exact Red.auto) | exact trivial | assumption | omega | exact wrap_fits (by omega) (by omega)) | (simp_all; done) | (simp_all; omega)) : opS P N pins ft ops R i false (frs P N pins ft ops R fs (L m l)) E H :=
 hx _ fun _ _ h => hL.red h hn
theorem upon_mono' {o : Oper} {a : Act} {K K' : Act → World → Prop} {Q Q' : Exit → Act → World → Prop} (hK : ∀ a w, K a w → K' a w)
 (hQ : ∀ e a w, e ≠ .normal → Q e a w → Q' e a w) {r : Result Next} (h : o.upon P a K Q r) : o.upon P a K' Q' r := by
 cases r with
 | ok n w' =>
   cases n <;> simp only [Oper.upon] at h ⊢ <;>
    first
     | exact hK _ _ h
     | exact Calls.mono h (fun e w'' he => by
      cases e
      ·exact hK _ _ he
      ·exact hQ _ _ _ (by simp) he
      ·obtain ⟨a, w, h⟩ := he; exact ⟨a, w, hQ _ _ _ (by simp) h⟩)
     | exact Rows.mono h (fun _ _ he => hK _ _ he)
     | exact h
 | halt x w' => cases x <;> simp only [Oper.upon] at h ⊢ <;> first | exact hQ _ _ _ (by simp) h | exact h
theorem wpList_append {ops : Array Oper} {X : Act → World → Prop} {Q : Exit → Act → World → Prop} {l2 : List Oper} (hX : ∀ a w, X a w → wpList P ops Q l2 a w) :
 ∀ (l : List Oper) (a : Act) (w : World), wpList P ops (fun e a w => e = .normal ∧ X a w) l a w → wpList P ops Q (l ++ l2) a w
 | [], _, _, h => hX _ _ h.2
 | o :: rest, a, w, h => by
   unfold wpList at h
   rw [List.cons_append]
   unfold wpList
   split
   ·rename_i hw
    rw [if_pos hw] at h
    rcases h with h | ⟨h1, a', w', h2⟩
    ·exact .inl (upon_mono' (wpList_append hX rest) (fun e a w he h => absurd h.1 he) h)
    ·exact absurd h2.1 (by simp)
   ·rename_i hw
    rw [if_neg hw] at h
    exact wpList_append hX rest _ _ h
theorem wpA_cut {ops : Array Oper} {l1 l2 : List Oper} {K : Env → List AObj → Prop} {E : Env} {H : List AObj} (E1 : Env) (H1 : List AObj)
 (h1 : ∀ K : Env → List AObj → Prop, (∀ E' H', Red N pin E' H' E1 H1 → K E' H') → wpA P N pin ops l1 K E H) (h2 : wpA P N pin ops l2 K E1 H1) : wpA P N pin ops (l1 ++ l2) K E H := fun πv γ ρ a w hst => by
 have h3 := h1 (fun E' H' => Red N pin E' H' E1 H1) (fun _ _ h => h) πv γ ρ a w hst
 refine wpList_append (X := fun a' w' => ∃ γ' ρ', St N pin πv γ' ρ' E1 H1 a' w' ∧ Fr γ w γ' w') (fun a' w' ⟨γ', ρ', hs, hf⟩ => ?_) l1 a w
  (wpList_mono (fun e a' w' ⟨he, γ', ρ', E', H', hr, hs, hf⟩ => by
   obtain ⟨γ2, ρ2, hs2, hf2⟩ := hr πv γ' ρ' a' w' hs
   exact ⟨he, γ2, ρ2, hs2, hf.trans hf2⟩) _ _ _ h3)
 exact wpList_mono (fun e a2 w2 ⟨he, γ2, ρ2, E2, H2, hk, hs2, hf2⟩ => ⟨he, γ2, ρ2, E2, H2, hk, hs2, hf.trans hf2⟩) _ _ _ (h2 πv γ' ρ' a' w' hs)
theorem wpA_cutAt (n : Nat) {ops : Array Oper} {l : List Oper} {K : Env → List AObj → Prop} {E : Env} {H : List AObj} (E1 : Env) (H1 : List AObj)
 (h1 : ∀ K : Env → List AObj → Prop, (∀ E' H', Red N pin E' H' E1 H1 → K E' H') → wpA P N pin ops (l.take n) K E H) (h2 : wpA P N pin ops (l.drop n) K E1 H1) : wpA P N pin ops l K E H := by
 have := wpA_cut E1 H1 h1 h2
 rwa [List.take_append_drop] at this
theorem awp_regionA {id : Nat} {l : List Oper} {Q : Exit → Env → List AObj → Prop} {E : Env} {H : List AObj} (h : wpA P N pin l.toArray l (Q .normal) E H) (hnd : noDefer l.toArray = true := by rfl) :
 awp rq P N pin (.region id l.toArray false) Q E H := fun πv γ ρ a w hst =>
 wpIn_mono (wpIn_lit hnd (fun _ _ h => by cases h.1) (h πv γ ρ a w hst)) fun e a w ⟨he, γ2, ρ2, E2, H2, hq, hs⟩ => by subst he; exact ⟨γ2, ρ2, E2, H2, hq, hs⟩
open Classical in
noncomputable def fixO {R : Type} (f : Nat → Option R) : Option R := if h : ∃ r N, ∀ n, N ≤ n → f n = some r then some h.choose else none
end Go.Av
