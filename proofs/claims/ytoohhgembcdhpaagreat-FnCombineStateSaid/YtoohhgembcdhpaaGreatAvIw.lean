import Derived.Test.YtoohhgembcdhpaaGreatAvIz
set_option linter.unusedSimpArgs false
set_option linter.unusedVariables false
namespace Go.Av
open Go
def seqY {A S X : Type} (f : A → S → Option (S ⊕ X)) (x : A) : S ⊕ X → Option (Bool × (S ⊕ X))
 | .inl s => (f x s).map fun u => (u.isLeft, u)
 | .inr _ => none
def jOf {S X : Type} (Jx : X → Code) : S ⊕ X → Option Code
 | .inl _ => none
 | .inr x => some (Jx x)
def RQ {S X : Type} (N : Nat) (pin : List Nat) (Hf : S → List AObj) (Hx : X → List AObj) (Jx : X → Code) (Ψ : ExtP) (u : S ⊕ X) (e : Exit) (E' : Env) (H' : List AObj) : Prop :=
 e = exitOf (jOf Jx u) ∧ Red N pin E' H' [] (Sum.elim Hf Hx u ++ [.ext Ψ])
section
variable {S X : Type} {N : Nat} {pin : List Nat} {Hf : S → List AObj} {Hx : X → List AObj} {Jx : X → Code} {Ψ : ExtP} {E' : Env} {H' : List AObj}
theorem RQ.next {s : S} (Ht : List AObj) (h : Red N pin E' H' [] Ht) (ht : Hf s ++ [.ext Ψ] = Ht := by rfl) : RQ N pin Hf Hx Jx Ψ (.inl s) .normal E' H' := ⟨rfl, by subst ht; exact h⟩
theorem RQ.out {x : X} {e : Exit} (Ht : List AObj) (h : Red N pin E' H' [] Ht) (hj : exitOf (some (Jx x)) = e := by rfl) (ht : Hx x ++ [.ext Ψ] = Ht := by rfl) : RQ N pin Hf Hx Jx Ψ (.inr x) e E' H' := ⟨hj.symm, by subst ht; exact h⟩
theorem RQ.asg {E1 : Env} {H1 : List AObj} (Et : Env) (Ht : List AObj) (h : Red N pin E' H' Et Ht) (he : E1 = Et := by rfl) (ht : H1 = Ht := by rfl) : Exit.normal = .normal ∧ Red N pin E' H' E1 H1 := ⟨rfl, by subst he ht; exact h⟩
theorem awp_at {rq : Option Nat} {P : Program} {c : Code} {Q : Exit → Env → List AObj → Prop} {E : Env} {H : List AObj} (Et : Env) (Ht : List AObj) (h : awp rq P N pin c Q Et Ht) (he : E = Et := by rfl) (ht : H = Ht := by rfl) : awp rq P N pin c Q E H := by subst he ht; exact h
end
def noView (n : Nat) : AObj → Bool
 | .view s _ => !(Nat.beq s n)
 | _ => true
theorem noViews_spec {n : Nat} {H : List AObj} (h : H.all (noView n) = true) (o : Nat) (c : Cont) : H[o]? ≠ some (.view n c) := fun ho => by
 have := List.all_eq_true.1 h _ (List.mem_of_getElem? ho)
 simp [noView] at this
variable {P : Program} {N : Nat} {pin : List Nat} {H : List AObj}
theorem awp_rangeL {A S X : Type} {f : A → S → Option (S ⊕ X)} {s0 : S} {u' : S ⊕ X} {g : Nat} {ps : Array Tmp} {asg body : Code} {Q : Exit → Env → List AObj → Prop} {E : Env} {o fi : Nat}
 (pin' : List Nat) (E0 : Env) (Hf : S → List AObj) (Hx : X → List AObj) (Jx : X → Code) (E1 : A → Env) (m : List Nat) (Hc : List AObj) (as : A → List AV) (Ha : A → List AObj) (n : Nat)
 (hit : ∀ (l : Nat) (Φ : S ⊕ X → ExtP), (∀ x u b u', seqY f x u = some (b, u') → RoundA P l (Φ u) (as x) (Ha x) (fun b2 Φ2 => b2 = b ∧ Φ2 = Φ u')) →
   FnA P fi [.v (yv l), .pp 1 0] (.ext (Φ (.inl s0)) :: Hc) [] (fun x H' => x = .tup [] ∧ H' = .ext (Φ u') :: Hc))
 (hred : Red N pin E H E0 (Hf s0))
 (hA : ∀ l x s Ψ, awp (some l) P N pin' asg (fun e E' H' => e = .normal ∧ Red N pin' E' H' (E1 x) (Hf s ++ .ext Ψ :: Ha x)) (argE ps.toList ((as x).map (AV.ren fun i => some (n + 1 + i))) E0) (Hf s ++ .ext Ψ :: Ha x))
 (hB : ∀ l x s u' Ψ, f x s = some u' → awp (some l) P N pin' body (RQ N pin' Hf Hx Jx Ψ u') (E1 x) (Hf s ++ .ext Ψ :: Ha x))
 (hk1 : ∀ s, u' = .inl s → Q .normal E0 (Hf s ++ [.dead])) (hk2 : ∀ x, u' = .inr x → Q (exitOf (some (Jx x))) E0 (Hx x ++ [.dead]))
 (hlf : ∀ s, (Hf s).length = n := by intro _; rfl) (hlx : ∀ x, (Hx x).length = n := by intro _; rfl) (hnf : ∀ s, (Hf s).all (noView n) = true := by intro _; rfl) (hnx : ∀ x, (Hx x).all (noView n) = true := by intro _; rfl)
 (hg : E0.lookup g = some (.ip o (.clo fi)) := by rfl) (hm0 : m[0]? = some o := by rfl) (hmat : matchIts (Hf s0) (n :: m) m Hc := by simp [matchIts, matchIt, fit1s, fit1])
 (hpp : ∀ x ∈ pin, x ∈ pin' := by simp) (hp' : ∀ x ∈ pin', x < n := by simp)
 (hJ : ∀ x, Jx x = .ret ∨ ∃ id, Jx x = .exit id := by intro _; simp) (hps : ∀ x, (as x).length = ps.size := by intro _; rfl) (hpd : ∀ p ∈ ps.toList, p < N := by simp) (hrow : ∀ x, ∀ ob ∈ Ha x, ∃ own c, ob = .row own c := by intro _; simp)
 (hE0 : ∀ p ∈ E0, pinV1 pin' p.2 := by simp [pinV1]) : awp none P N pin (.rangeFunc (.tmp g) ps asg body) Q E H := by
 have hk : Q (exitOf (jOf Jx u')) E0 (Sum.elim Hf Hx u' ++ [.dead]) := by
  cases u' with
  | inl s => exact hk1 s rfl
  | inr x => exact hk2 x rfl
 intro πv γ ρ a w hst
 obtain ⟨γ1, ρ1, hst1, hfr1⟩ := hred πv γ ρ a w hst
 have hpe : pinE pin' E0 := fun t x hx => hE0 (t, x) (by
  clear hst1 hst hE0 hk hk1 hk2 hA hit hred hg
  induction E0 with
  | nil => simp at hx
  | cons y E ih =>
    obtain ⟨k, z⟩ := y
    simp only [List.lookup_cons] at hx
    by_cases hkt : t = k
    ·subst hkt; simp at hx; subst hx; exact List.mem_cons_self ..
    ·have : (t == k) = false := by simpa using hkt
     rw [this] at hx; exact List.mem_cons_of_mem _ (ih hx))
 have key : awp none P N pin (.rangeFunc (.tmp g) ps asg body) Q E0 (Hf s0) := by
  refine awp_rangeFunc (o := o) (f := fi) pin' E0 m Hc (jOf Jx u') (Sum.elim Hf Hx u') ?_ hk hg (fun _ _ h => .inl h) hm0 (by rw [hlf]; exact hmat) hpp (by rw [hlf]; exact hp') (by rw [hlf]; exact noViews_spec (hnf _)) ?_
  ·intro L πv hLa hLb hLp hLn hbk hz
   let Φ : S ⊕ X → ExtP := fun u => L.st E0 pin' πv [(L.d0, .deferred (some []))] (jOf Jx u) (Sum.elim Hf Hx u)
   refine (hit L.l Φ ?_).mono fun x H' h => ⟨_, h.2⟩
   rintro x (s | s) b u2 hf
   ·simp only [seqY, Option.map_eq_some_iff, Prod.mk.injEq] at hf
    obtain ⟨u3, hf, rfl, rfl⟩ := hf
    have hl2 : (Sum.elim Hf Hx u3).length = (Hf s).length := by rw [hlf]; cases u3 <;> simp [hlf, hlx]
    have := LoopC.round L (P := P) (N := N) (pin := pin') (πv := πv) (E0 := E0) (E1 := E1 x) (bk := [(L.d0, .deferred (some []))]) (as := as x) (Ha := Ha x) (Hs := Hf s) (Hs' := Sum.elim Hf Hx u3) (j := jOf Jx u3) hLn (by rw [hLp]; exact hps x)
     (by rw [hLp]; exact hpd) (hrow x) (by rw [hl2, hlf]; cases u3; exact noViews_spec (hnf _); exact noViews_spec (hnx _)) hl2 hbk hz hpe (by
       cases u3 with
       | inl _ => simp [jOf, exitOf]
       | inr y => rcases hJ y with h | ⟨id, h⟩ <;> simp [jOf, exitOf, h])
     (fun Ψ => by rw [hLa, hLp, hlf]; exact hA L.l x s Ψ) (fun Ψ => by rw [hLb]; exact hB L.l x s u3 Ψ hf)
    refine ⟨fun S1 D T γ ρ us w => ?_⟩
    have h2 := this.calls S1 D T γ ρ us w
    have e : (jOf Jx u3).isNone = u3.isLeft := by cases u3 <;> rfl
    rw [e] at h2
    exact h2
   ·simp [seqY] at hf
  ·cases u' with
   | inl _ => exact .inl rfl
   | inr y => rcases hJ y with h | ⟨id, h⟩
              ·exact .inr (.inl (by simp [jOf, h]))
              ·exact .inr (.inr ⟨id, by simp [jOf, h]⟩)
 exact wpIn_mono (key πv γ1 ρ1 a w hst1) fun e a w ⟨γ2, ρ2, E2, H2, hq, hs, hf⟩ => ⟨γ2, ρ2, E2, H2, hq, hs, hfr1.trans hf⟩
def matchY (H : List AObj) : List Nat → List AObj → Prop
 | [], [] => True
 | o :: m, ob :: Ha => (H[o]? = some ob ∧ ∃ (own : Bool) (k : Cont), ob = .row own k) ∧ matchY H m Ha
 | _, _ => False
theorem matchY_spec {H : List AObj} : ∀ {m : List Nat} {Ha : List AObj}, matchY H m Ha → m.length = Ha.length ∧ ∀ (j o : Nat) (ob : AObj), m[j]? = some o → Ha[j]? = some ob → H[o]? = some ob ∧ ∃ (own : Bool) (k : Cont), ob = .row own k
 | [], [], _ => ⟨rfl, fun j o ob h => by simp at h⟩
 | o :: m, ob :: Ha, h => by
   obtain ⟨h4, h5⟩ := matchY_spec h.2
   refine ⟨by simp [h4], fun j o' ob' ho hob => ?_⟩
   cases j with
   | zero => simp at ho hob; subst ho hob; exact h.1
   | succ j => exact h5 j o' ob' (by simpa using ho) (by simpa using hob)
 | [], _ :: _, h => h.elim
 | _ :: _, [], h => h.elim
theorem OpYA {rq : Option Nat} {l : Nat} {Φ : ExtP} {as : List AV} {Ha : List AObj} {R : Bool → ExtP → Prop} (hy : RoundA P l Φ as Ha R) {d : Option Nat} {c : Call} {x : Operand} {ty : TypeId} {pos' : String} {after : Array Edge} {K : Env → List AObj → Prop} {E : Env} (e : Nat) (m cs : List Nat)
 (hk : ∀ b Φ', R b Φ' → K (E.put d (.v (.bool b))) (pastY e cs H (.ext Φ')))
 (hc : c.callee = .value x := by rfl) (hE : ev E x = .v (yv l) := by rfl) (he : H[e]? = some (.ext Φ) := by rfl) (hargs : fitAll m as (c.args.toList.map (ev E)) := by first | (simp (maxSteps := 4000000) only [go_sem, Nat.reduceBEq, Nat.reduceLT, Nat.reduceAdd, Nat.reduceLeDiff, Nat.reduceSub, Nat.reduceEqDiff, Int.reduceToNat, reduceCtorEq, ↓reduceIte]; done) | (simp (maxSteps := 4000000) only [go_sem, Nat.reduceBEq, Nat.reduceLT, Nat.reduceAdd, Nat.reduceLeDiff, Nat.reduceSub, Nat.reduceEqDiff, Int.reduceToNat, reduceCtorEq, ↓reduceIte] <;> simp) | simp_all)
 (hm : m.Nodup := by simp) (hem : e ∉ m := by simp) (hmat : matchY H m Ha := by first | exact ⟨⟨rfl, _, _, rfl⟩, trivial⟩ | (simp [matchY]; done)) (hcs : cs = exIds m Ha := by rfl) (hd : dstOk N d = true := by rfl) :
 OpKI rq P N pin ⟨d, .call c, ty, pos', after, none⟩ K E H :=
 OpY hy e m cs hk hc hE he hargs hm hem (matchY_spec hmat).1 (matchY_spec hmat).2 hcs hd
theorem awp_regionYi {rq : Option Nat} (i : Nat) {id : Nat} {l : List Oper} {Q : Exit → Env → List AObj → Prop} {E : Env} {y : Oper}
 (h : wpA P N pin l.toArray (l.take i) (OpKI rq P N pin y (wpA P N pin l.toArray (l.drop (i + 1)) (Q .normal))) E H) (hy : l[i]? = some y := by rfl) (hg : y.guard = none := by rfl)
 (hnd1 : (l.take i).all noDef1 = true := by rfl) (hnd2 : (l.drop (i + 1)).all noDef1 = true := by rfl) : awp rq P N pin (.region id l.toArray false) Q E H := by
 refine awp_regionY (l.take i) y (l.drop (i + 1)) h ?_ hg hnd1 hnd2
 obtain ⟨hlt, e⟩ := List.getElem?_eq_some_iff.1 hy
 rw [← e, ← List.drop_eq_getElem_cons hlt, List.take_append_drop]
def guardOk (E : Env) (ops : Array Oper) (j : Nat) (want : Bool) : Prop := match guardV E ops j with | some (_, b) => b = want | none => False
end Go.Av
