import Derived.Test.YteoedigfnfjopaaGreatAvGr
import Derived.Test.YteoedigfnfjopaaGreatAvIw
set_option linter.unusedSimpArgs false
set_option linter.unusedVariables false
namespace Go.Av
open Go
attribute [go_sem_proc] Nat.reduceBEq Nat.reduceLT Nat.reduceAdd Nat.reduceLeDiff Nat.reduceSub Nat.reduceEqDiff Int.reduceToNat reduceCtorEq
attribute [go_sem_proc ↓] reduceIte
variable {P : Program} {N : Nat} {pin : List Nat} {rq : Option Nat} {ft : FuncId → Option (List Value → Option (Prop × Value))}
theorem al0 {p : Prop} (h : p := by first | (refine hK _ _ ?_; exact Red.auto) | (refine hK _ ?_; exact Red.auto) | exact trivial | assumption | omega | exact wrap_fits (by omega) (by omega)) : p := h
theorem al1 {p : Prop} (h : p := by first | (simp_all; done) | (simp_all; omega)) : p := h
theorem auV {p : Prop} (h : p := by
 simp (maxSteps := 4000000) only [go_sem]
 repeat' (first | refine And.intro ?_ ?_ | intro hg)
 all_goals (try simp (disch := omega) only [wrap_fits])
 all_goals first | (refine hK _ _ ?_; exact Red.auto) | (refine hK _ ?_; exact Red.auto) | exact trivial | assumption | omega | exact wrap_fits (by omega) (by omega) | (simp (maxSteps := 4000000) only [go_sem]; (repeat' (first | refine And.intro ?_ ?_ | intro hg)); all_goals (try simp (disch := omega) only [wrap_fits]); all_goals exact al0) | (simp_all; done) | (simp_all; omega)) : p := h
theorem byg {p : Prop} (h : p := by first | assumption | (simp only [*, Bool.false_or, Bool.true_or, Bool.or_false, Bool.or_true, Bool.false_and, Bool.true_and, Bool.and_false, Bool.and_true, Bool.not_true, Bool.not_false, beq_self_eq_true]; done) | (simp_all; done)) : p := h
theorem bygn {b : Bool} (h : b = false := by exact byg) : (!b) = true := by rw [h]; rfl
abbrev iV (x : Int) : AV := .v (.int .i64 x)
abbrev nV : AV := .v (.slice none 0 0)
abbrev rY (x : List Int) : AObj := .row false (.ints .u8 x)
abbrev bV (x : Bool) : AV := .v (.bool x)
abbrev oI (x : List Int) : AObj := .row true (.ints .i64 x)
abbrev rI (x : List Int) : AObj := .row false (.ints .i64 x)
abbrev oT (x : List (Int × Int × Int)) : AObj := .row true (.trips x)
abbrev rT (x : List (Int × Int × Int)) : AObj := .row false (.trips x)
abbrev oB (x : List Bool) : AObj := .row true (.bools x)
abbrev rB (x : List Bool) : AObj := .row false (.bools x)
attribute [go_sem] iV nV rY bV oI rI oT rT oB rB
def inL (i : Nat) : List Nat → Bool
 | [] => false
 | j :: l => (j == i) || inL i l
def dropE (d : List Nat) (e : Env) : Env → Env
 | [] => e
 | (i, v) :: E => bif inL i d then dropE d e E else (i, v) :: dropE d e E
def updO (a : List AObj) : List (Nat × AObj) → List AObj → List AObj
 | _, [] => a
 | [], b :: H => b :: updO a [] H
 | (0, c) :: u, _ :: H => c :: updO a u H
 | (n + 1, c) :: u, b :: H => b :: updO a ((n, c) :: u) H
theorem awp_if {t : Nat} {b : Bool} {α : Type} {u v : Option α} {r : α} (h : (if b = true then u else v) = some r) {x y : Code} {Q : Exit → Env → List AObj → Prop} {E : Env} {H : List AObj} (ht : b = true → u = some r → awp rq P N pin x Q E H) (hf : b = false → v = some r → awp rq P N pin y Q E H) (hc : E.lookup t = some (.v (.bool b)) := by rfl) :
 awp rq P N pin (.cond (.tmp t) x y) Q E H := awp_cond hc (fun hb => ht hb (bite_t h hb)) (fun hb => hf hb (bite_f h hb))
theorem awp_rS (hft : PTab P ft) (d : List Nat) (e : Env) {E1 : Env} {id : Nat} {l : List Oper} {y : Code} {Q : Exit → Env → List AObj → Prop} {E : Env} {H : List AObj} (hy : awp rq P N pin y Q E1 H)
 (hE : dropE d e E = E1 := by (simp only [dropE, inL, Env.put, argEnv, Nat.reduceBEq, Nat.reduceAdd, Bool.or_false, Bool.or_true, Bool.true_or, Bool.false_or, Bool.or_self, cond_true, cond_false]; exact rfl))
 (hx : ∀ K : Env → List AObj → Prop, (∀ E' H', Red N pin E' H' E1 H → K E' H') → vcOps P N pin ft l.toArray l K E H := by intro K hK; exact auV) (hnd : noDefer l.toArray = true := by rfl) : awp rq P N pin (.seq (.region id l.toArray false) y) Q E H :=
 awp_reg hft E1 H hy hx hnd
theorem awp_qS (hm : P.follows .mixedOrders = true) (hft : PTab P ft) (d : List Nat) (e : Env) {E1 : Env} {id : Nat} {l : List Oper} {y : Code} {Q : Exit → Env → List AObj → Prop} {E : Env} {H : List AObj} (hy : awp rq P N pin y Q E1 H)
 (hE : dropE d e E = E1 := by (simp only [dropE, inL, Env.put, argEnv, Nat.reduceBEq, Nat.reduceAdd, Bool.or_false, Bool.or_true, Bool.true_or, Bool.false_or, Bool.or_self, cond_true, cond_false]; exact rfl))
 (hx : ∀ K : Env → Prop, (∀ E', Red N pin E' H E1 H → K E') → vcQg P N ft l.toArray H l [] K E := by intro K hK; exact auV)
 (hB : Region.lexB .any l.toArray = true := by kernel_rfl) (hnd : noDefer l.toArray = true := by rfl) : awp rq P N pin (.seq (.region id l.toArray true) y) Q E H :=
 awp_regQ hm hft E1 H hy hx hB hnd
theorem awp_rES (hft : PTab P ft) (d : List Nat) (e : Env) {E1 : Env} {id : Nat} {l : List Oper} {Q : Exit → Env → List AObj → Prop} {E : Env} {H : List AObj} (hy : Q .normal E1 H)
 (hE : dropE d e E = E1 := by (simp only [dropE, inL, Env.put, argEnv, Nat.reduceBEq, Nat.reduceAdd, Bool.or_false, Bool.or_true, Bool.true_or, Bool.false_or, Bool.or_self, cond_true, cond_false]; exact rfl))
 (hx : ∀ K : Env → List AObj → Prop, (∀ E' H', Red N pin E' H' E1 H → K E' H') → vcOps P N pin ft l.toArray l K E H := by intro K hK; exact auV) (hnd : noDefer l.toArray = true := by rfl) : awp rq P N pin (.region id l.toArray false) Q E H :=
 awp_regE hft E1 H hy hx hnd
theorem awp_rM (hft : PTab P ft) (d : List Nat) (e : Env) (u : List (Nat × AObj)) (a : List AObj) {E1 : Env} {H1 : List AObj} {id : Nat} {l : List Oper} {y : Code} {Q : Exit → Env → List AObj → Prop} {E : Env} {H : List AObj} (hy : awp rq P N pin y Q E1 H1)
 (hE : dropE d e E = E1 := by (simp only [dropE, inL, Env.put, argEnv, Nat.reduceBEq, Nat.reduceAdd, Bool.or_false, Bool.or_true, Bool.true_or, Bool.false_or, Bool.or_self, cond_true, cond_false]; exact rfl)) (hH : updO a u H = H1 := by (simp only [updO, List.map_cons, List.map_nil, List.set_cons_succ, List.set_cons_zero, AObj.unview, List.cons_append, List.nil_append, List.length_cons, List.length_nil, Nat.reduceAdd, reduceCtorEq, ↓reduceIte, Nat.reduceEqDiff]; exact rfl))
 (hx : ∀ K : Env → List AObj → Prop, (∀ E' H', Red N pin E' H' E1 H1 → K E' H') → vcOps P N pin ft l.toArray l K E H := by intro K hK; exact auV) (hnd : noDefer l.toArray = true := by rfl) : awp rq P N pin (.seq (.region id l.toArray false) y) Q E H :=
 awp_reg hft E1 H1 hy hx hnd
theorem awp_rEM (hft : PTab P ft) (d : List Nat) (e : Env) (u : List (Nat × AObj)) (a : List AObj) {E1 : Env} {H1 : List AObj} {id : Nat} {l : List Oper} {Q : Exit → Env → List AObj → Prop} {E : Env} {H : List AObj} (hy : Q .normal E1 H1)
 (hE : dropE d e E = E1 := by (simp only [dropE, inL, Env.put, argEnv, Nat.reduceBEq, Nat.reduceAdd, Bool.or_false, Bool.or_true, Bool.true_or, Bool.false_or, Bool.or_self, cond_true, cond_false]; exact rfl)) (hH : updO a u H = H1 := by (simp only [updO, List.map_cons, List.map_nil, List.set_cons_succ, List.set_cons_zero, AObj.unview, List.cons_append, List.nil_append, List.length_cons, List.length_nil, Nat.reduceAdd, reduceCtorEq, ↓reduceIte, Nat.reduceEqDiff]; exact rfl))
 (hx : ∀ K : Env → List AObj → Prop, (∀ E' H', Red N pin E' H' E1 H1 → K E' H') → vcOps P N pin ft l.toArray l K E H := by intro K hK; exact auV) (hnd : noDefer l.toArray = true := by rfl) : awp rq P N pin (.region id l.toArray false) Q E H :=
 awp_regE hft E1 H1 hy hx hnd
theorem awp_t (d : List Nat) (e : Env) (u : List (Nat × AObj)) (a : List AObj) {E1 : Env} {H1 : List AObj} {x : Code} {y : Code} {Q : Exit → Env → List AObj → Prop} {E : Env} {H : List AObj}
 (hx : ∀ K : Env → List AObj → Prop, (∀ E' H', Red N pin E' H' E1 H1 → K E' H') → awp rq P N pin x (Thn K Q) E H) (hy : awp rq P N pin y Q E1 H1)
 (hE : dropE d e E = E1 := by (simp only [dropE, inL, Env.put, argEnv, Nat.reduceBEq, Nat.reduceAdd, Bool.or_false, Bool.or_true, Bool.true_or, Bool.false_or, Bool.or_self, cond_true, cond_false]; exact rfl)) (hH : updO a u H = H1 := by (simp only [updO, List.map_cons, List.map_nil, List.set_cons_succ, List.set_cons_zero, AObj.unview, List.cons_append, List.nil_append, List.length_cons, List.length_nil, Nat.reduceAdd, reduceCtorEq, ↓reduceIte, Nat.reduceEqDiff]; exact rfl)) : awp rq P N pin (.seq x y) Q E H := awp_to E1 H1 hx hy
theorem awp_c (hft : PTab P ft) (d : List Nat) (e : Env) (u : List (Nat × AObj)) (a : List AObj) {E1 : Env} {H1 : List AObj} (cs : List (CallC P)) {id : Nat} {l : List Oper} {y : Code} {Q : Exit → Env → List AObj → Prop} {E : Env} {H : List AObj} (hy : awp rq P N pin y Q E1 H1)
 (hE : dropE d e E = E1 := by (simp only [dropE, inL, Env.put, argEnv, Nat.reduceBEq, Nat.reduceAdd, Bool.or_false, Bool.or_true, Bool.true_or, Bool.false_or, Bool.or_self, cond_true, cond_false]; exact rfl)) (hH : updO a u H = H1 := by (simp only [updO, List.map_cons, List.map_nil, List.set_cons_succ, List.set_cons_zero, AObj.unview, List.cons_append, List.nil_append, List.length_cons, List.length_nil, Nat.reduceAdd, reduceCtorEq, ↓reduceIte, Nat.reduceEqDiff]; exact rfl))
 (ho : okCalls cs l := by first | exact ⟨rfl, rfl, trivial⟩ | exact ⟨rfl, rfl, rfl, rfl, trivial⟩ | exact ⟨rfl, rfl, rfl, rfl, rfl, rfl, trivial⟩ | exact ⟨rfl, rfl, rfl, rfl, rfl, rfl, rfl, rfl, trivial⟩ | exact ⟨rfl, rfl, rfl, rfl, rfl, rfl, rfl, rfl, rfl, rfl, trivial⟩) (hx : ∀ K : Env → List AObj → Prop, (∀ E' H', Red N pin E' H' E1 H1 → K E' H') → vcCalls P N pin ft l.toArray cs l K E H := by intro K hK; exact auV) (hnd : noDefer l.toArray = true := by rfl) : awp rq P N pin (.seq (.region id l.toArray false) y) Q E H :=
 awp_regCs hft E1 H1 cs hy ho hx hnd
theorem awp_tE (d : List Nat) (e : Env) (u : List (Nat × AObj)) (a : List AObj) {E1 : Env} {H1 : List AObj} {x : Code} {Q : Exit → Env → List AObj → Prop} {E : Env} {H : List AObj}
 (hx : ∀ K : Env → List AObj → Prop, (∀ E' H', Red N pin E' H' E1 H1 → K E' H') → awp rq P N pin x (Thn K Q) E H) (hy : Q .normal E1 H1)
 (hE : dropE d e E = E1 := by (simp only [dropE, inL, Env.put, argEnv, Nat.reduceBEq, Nat.reduceAdd, Bool.or_false, Bool.or_true, Bool.true_or, Bool.false_or, Bool.or_self, cond_true, cond_false]; exact rfl)) (hH : updO a u H = H1 := by (simp only [updO, List.map_cons, List.map_nil, List.set_cons_succ, List.set_cons_zero, AObj.unview, List.cons_append, List.nil_append, List.length_cons, List.length_nil, Nat.reduceAdd, reduceCtorEq, ↓reduceIte, Nat.reduceEqDiff]; exact rfl)) : awp rq P N pin x Q E H := awp_end E1 H1 hx hy
theorem awp_cE (hft : PTab P ft) (d : List Nat) (e : Env) (u : List (Nat × AObj)) (a : List AObj) {E1 : Env} {H1 : List AObj} (cs : List (CallC P)) {id : Nat} {l : List Oper} {Q : Exit → Env → List AObj → Prop} {E : Env} {H : List AObj} (hy : Q .normal E1 H1)
 (hE : dropE d e E = E1 := by (simp only [dropE, inL, Env.put, argEnv, Nat.reduceBEq, Nat.reduceAdd, Bool.or_false, Bool.or_true, Bool.true_or, Bool.false_or, Bool.or_self, cond_true, cond_false]; exact rfl)) (hH : updO a u H = H1 := by (simp only [updO, List.map_cons, List.map_nil, List.set_cons_succ, List.set_cons_zero, AObj.unview, List.cons_append, List.nil_append, List.length_cons, List.length_nil, Nat.reduceAdd, reduceCtorEq, ↓reduceIte, Nat.reduceEqDiff]; exact rfl))
 (ho : okCalls cs l := by first | exact ⟨rfl, rfl, trivial⟩ | exact ⟨rfl, rfl, rfl, rfl, trivial⟩ | exact ⟨rfl, rfl, rfl, rfl, rfl, rfl, trivial⟩ | exact ⟨rfl, rfl, rfl, rfl, rfl, rfl, rfl, rfl, trivial⟩ | exact ⟨rfl, rfl, rfl, rfl, rfl, rfl, rfl, rfl, rfl, rfl, trivial⟩) (hx : ∀ K : Env → List AObj → Prop, (∀ E' H', Red N pin E' H' E1 H1 → K E' H') → vcCalls P N pin ft l.toArray cs l K E H := by intro K hK; exact auV) (hnd : noDefer l.toArray = true := by rfl) : awp rq P N pin (.region id l.toArray false) Q E H :=
 awp_regECs hft E1 H1 cs hy ho hx hnd
def At (_E : Env) (_H : List AObj) : Prop := True
theorem At.node {E0 : Env} {H0 : List AObj} (_hN : At E0 H0) (L : Nat → Array Bool → Env → List AObj → Prop) (n : Nat) (arr : Array Bool) (m : Nat) (d : List Nat) (e : Env) (u : List (Nat × AObj)) (a : List AObj) {E1 : Env} {H1 : List AObj} {G : Prop}
 (h : L n arr E1 H1) (k : L n arr E1 H1 → At E1 H1 → G) (hE : dropE d e E0 = E1 := by (simp only [dropE, inL, Env.put, argEnv, Nat.reduceBEq, Nat.reduceAdd, Bool.or_false, Bool.or_true, Bool.true_or, Bool.false_or, Bool.or_self, cond_true, cond_false]; exact rfl)) (hH : updO a u (H0.take m) = H1 := by (simp only [updO, List.take_succ_cons, List.take_zero, List.map_cons, List.map_nil, List.set_cons_succ, List.set_cons_zero, AObj.unview, List.cons_append, List.nil_append, List.length_cons, List.length_nil, Nat.reduceAdd, reduceCtorEq, ↓reduceIte, Nat.reduceEqDiff]; exact rfl)) : G := k h trivial
theorem awp_drawM (pins : List Nat) (fs0 : List Nat) (n0 : Nat) (l0 : Array Bool) (hm : P.follows .mixedOrders = true) (hft : PTab P ft) {id : Nat} {l : List Oper} {Q : Exit → Env → List AObj → Prop} {E : Env} {H : List AObj}
 (hB : (Region.noSelect l.toArray && frOk l.toArray fs0 (Array.replicate l.toArray.size false) && (n0 + fs0.length == l.toArray.size) && (setLs fs0 (Array.replicate l.toArray.size false) == l0)) = true)
 (hpk : pinsFrom pins 0 H = true) (hlt : pins.all (fun o => decide (o < H.length)) = true) (hp : ∀ o ∈ pin, o ∈ pins)
 (h : ∀ L, LRules P N pins ft l.toArray (roH H) (fun E H => Q .normal E H) L → At E H → frs P N pins ft l.toArray (roH H) fs0 (L n0 l0) E H)  (hnd : noDefer l.toArray = true := by rfl) : awp rq P N pin (.region id l.toArray true) Q E H :=
 awp_drawL pins fs0 n0 l0 hm hft hB hpk hlt hp (fun L hL => h L hL trivial) hnd
theorem nm {p q : Prop} (h : q) (e : p = q := by first | (simp only [Thn, InBlk, ↓reduceIte, Nat.reduceEqDiff]; exact rfl) | exact rfl) : p := e.symm ▸ h
end Go.Av
