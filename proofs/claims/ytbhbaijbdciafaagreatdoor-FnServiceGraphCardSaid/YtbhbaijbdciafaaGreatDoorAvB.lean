import Derived.Test.YtbhbaijbdciafaaGreatDoorAvA
import Derived.CallsIn
import Derived.TacticsIn
import Derived.OrdersIn
set_option linter.unusedSimpArgs false
set_option linter.unusedVariables false
namespace Go.Av
open Go
def FW (rd : Option Nat) : Fence := { fn := fun _ => True, depth := none, alive := false, round := rd }
theorem FW_room (rd : Option Nat) (n : Nat) : (FW rd).room n := fun _ h => by simp [FW] at h
theorem callsIn_FW {rd : Option Nat} {n : Nat} {P : Program} {f : FuncId} {args : Array Value} {w : World} {R : Ending → World → Prop} : CallsIn (FW rd) n P f args w R ↔ Calls P f args w R :=
 ⟨fun h cs => let ⟨e, w', fr, r, s, x⟩ := h.2 cs (FW_room _ _); ⟨e, w', fr, r, comesIn_wide.1 s, x⟩,
  fun h => ⟨trivial, fun cs _ => let ⟨e, w', fr, r, s, x⟩ := h cs; ⟨e, w', fr, r, comesIn_wide.2 s, x⟩⟩⟩
theorem rowsIn_FW {rd : Option Nat} {n : Nat} {P : Program} {row : String} {args : Array Value} {w : World} {R : Value → World → Prop} (h : Rows P row args w R) : RowsIn (FW rd) n P row args w R :=
 fun c cs _ => let ⟨v, w', r, s⟩ := h c cs; ⟨v, w', r, stepsIn_wide.2 s⟩
def noDef1 (o : Oper) : Bool := match o.op with | .defer _ => false | _ => true
def noDefer (ops : Array Oper) : Bool := ops.toList.all noDef1
theorem noDefer_spec {ops : Array Oper} (h : noDefer ops = true) {i : Nat} {o : Oper} (ho : ops[i]? = some o) : ∀ c, o.op ≠ .defer c := fun c hc => by
 have hm : o ∈ ops.toList := by simpa using Array.mem_of_getElem? ho
 have := List.all_eq_true.1 h o hm
 unfold noDef1 at this
 rw [hc] at this; cases this
theorem oper_toIn {rd : Option Nat} {P : Program} {o : Oper} {a : Act} {w : World} {K K' : Act → World → Prop} {Q : Exit → Act → World → Prop} (hnd : ∀ c, o.op ≠ .defer c) (hK : ∀ a w, K a w → K' a w) (h : o.wp P a w K Q) :
 o.wpIn (FW rd) 0 P a w K' Q := by
 unfold Oper.wpIn
 refine ⟨fun _ _ => trivial, ?_⟩
 rw [Oper.semAt_eq _ _ _ hnd]
 unfold Oper.wp at h
 generalize (execOp a.eval o).run P w = r at *
 cases r with
 | ok x w' =>
   cases x <;> simp only [Oper.upon] at h <;> simp only [Oper.uponIn]
   all_goals first
    | exact hK _ _ h
    | exact ⟨fun h => by simp [FW] at h, callsIn_FW.2 (Calls.mono h (fun e w'' he => by cases e <;> first | exact hK _ _ he | exact he))⟩
    | exact ⟨fun h => by simp [FW] at h, rowsIn_FW (Rows.mono h (fun _ _ he => hK _ _ he))⟩
 | halt x w' => cases x <;> simp only [Oper.upon] at h <;> simp only [Oper.uponIn] <;> exact h
theorem wpOps_toIn {rd : Option Nat} {P : Program} {ops : Array Oper} {Q : Exit → Act → World → Prop} (hnd : noDefer ops = true) (hQ : ∀ a w, ¬ Q .outgrown a w) :
 ∀ (l : List Nat) (a : Act) (w : World), wpOps P ops Q l a w → wpOpsIn (FW rd) 0 P ops Q l a w
 | [], _, _, h => h
 | i :: rest, a, w, h => by
   unfold wpOps at h
   unfold wpOpsIn
   cases ho : ops[i]? with
   | none => rw [ho] at h; simp only at h ⊢; exact wpOps_toIn hnd hQ rest a w h
   | some o =>
     rw [ho] at h
     simp only at h ⊢
     split
     ·rename_i hw
      rw [if_pos hw] at h
      rcases h with h | ⟨_, a', w', h⟩
      ·exact oper_toIn (noDefer_spec hnd ho) (wpOps_toIn hnd hQ rest) h
      ·exact absurd h (hQ a' w')
     ·rename_i hw
      rw [if_neg hw] at h
      exact ⟨fun _ _ => trivial, wpOps_toIn hnd hQ rest _ _ h⟩
theorem wpIn_lit {rd : Option Nat} {P : Program} {id : Nat} {l : List Oper} {Q : Exit → Act → World → Prop} {a : Act} {w : World} (hnd : noDefer l.toArray = true) (hQ : ∀ a w, ¬ Q .outgrown a w) (h : wpList P l.toArray Q l a w) :
 (Code.region id l.toArray false).wpIn (FW rd) 0 P Q a w :=
 wpIn_region (wpOps_toIn hnd hQ _ _ _ (by
  have e := wpOps_eq_wpList (P := P) (ops := l.toArray) (Q := Q) l 0 (by simp)
  rw [List.range_eq_range']
  have e2 : l.toArray.size = l.length := by simp
  rw [e2, e]; exact h))
theorem wpIn_any {rd : Option Nat} {P : Program} {id : Nat} {ops : Array Oper} {Q : Exit → Act → World → Prop} {a : Act} {w : World} (hnd : noDefer ops = true) (hQ : ∀ a w, ¬ Q .outgrown a w) (hm : P.follows .mixedOrders = true)
 (h : wpAny P .any ops Q ops.size (Array.replicate ops.size false) a { w with drawn := w.drawn + 1 }) : (Code.region id ops true).wpIn (FW rd) 0 P Q a w :=
 wpIn_region_draw fun t => by
  simp only [Region.schedule, hm, Bool.true_or, if_true]
  exact wpOps_toIn hnd hQ _ _ _ (wpAny_sound ops.size t _ a _ h)
section
variable (P : Program) (N : Nat) (pin : List Nat)
def wpA (ops : Array Oper) (l : List Oper) (K : Env → List AObj → Prop) (E : Env) (H : List AObj) : Prop :=
 ∀ πv γ ρ a w, St N pin πv γ ρ E H a w →
  wpList P ops (fun e a' w' => e = .normal ∧ ∃ γ' ρ' E' H', K E' H' ∧ St N pin πv γ' ρ' E' H' a' w' ∧ Fr γ w γ' w') l a w
def awp (rq : Option Nat) (P : Program) (N : Nat) (pin : List Nat) (c : Code) (Q : Exit → Env → List AObj → Prop) (E : Env) (H : List AObj) : Prop :=
 ∀ πv γ ρ a w, St N pin πv γ ρ E H a w →
  c.wpIn (FW rq) 0 P (fun e a' w' => ∃ γ' ρ' E' H', Q e E' H' ∧ St N pin πv γ' ρ' E' H' a' w' ∧ Fr γ w γ' w') a w
end
variable {P : Program} {N : Nat} {pin : List Nat}
theorem upon_mono {o : Oper} {a : Act} {K K' : Act → World → Prop} {Q Q' : Exit → Act → World → Prop} (hK : ∀ a w, K a w → K' a w)
 (hQ : ∀ e a w, Q e a w → Q' e a w) {r : Result Next} (h : o.upon P a K Q r) : o.upon P a K' Q' r := by
 cases r with
 | ok n w' =>
   cases n <;> simp only [Oper.upon] at h ⊢ <;>
    first
     | exact hK _ _ h
     | exact Calls.mono h (fun e w'' he => by
      cases e
      ·exact hK _ _ he
      ·exact hQ _ _ _ he
      ·obtain ⟨a, w, h⟩ := he; exact ⟨a, w, hQ _ _ _ h⟩)
     | exact Rows.mono h (fun _ _ he => hK _ _ he)
     | exact h
 | halt x w' => cases x <;> simp only [Oper.upon] at h ⊢ <;> first | exact hQ _ _ _ h | exact h
theorem wpList_mono {ops : Array Oper} {Q Q' : Exit → Act → World → Prop} (hQ : ∀ e a w, Q e a w → Q' e a w) :
 ∀ (l : List Oper) (a : Act) (w : World), wpList P ops Q l a w → wpList P ops Q' l a w
 | [], _, _, h => hQ _ _ _ h
 | o :: rest, a, w, h => by
   unfold wpList at h ⊢
   split
   ·rename_i hw
    rw [if_pos hw] at h
    rcases h with h | ⟨h1, a', w', h2⟩
    ·exact .inl (upon_mono (wpList_mono hQ rest) hQ h)
    ·exact .inr ⟨h1, a', w', hQ _ _ _ h2⟩
   ·rename_i hw
    rw [if_neg hw] at h
    exact wpList_mono hQ rest _ _ h
theorem wpA_mono {ops : Array Oper} {l : List Oper} {K K' : Env → List AObj → Prop} {E : Env} {H : List AObj} (hK : ∀ E H, K E H → K' E H) (h : wpA P N pin ops l K E H) : wpA P N pin ops l K' E H :=
 fun πv γ ρ a w hst => wpList_mono (fun _ _ _ ⟨he, γ2, ρ2, E2, H2, hk, hs⟩ => ⟨he, γ2, ρ2, E2, H2, hK _ _ hk, hs⟩) _ _ _ (h πv γ ρ a w hst)
theorem wpA_nil {ops : Array Oper} {K : Env → List AObj → Prop} {E : Env} {H : List AObj} (h : K E H) : wpA P N pin ops [] K E H :=
 fun _ γ ρ _ _ hst => ⟨rfl, γ, ρ, E, H, h, hst, Fr.refl _ _⟩
def Env.put (E : Env) (d : Option Nat) (x : AV) : Env := match d with | some d => (d, x) :: E | none => E
theorem EnvOk.put {ρ : List Value} {E : Env} {a : Act} (h : EnvOk ρ E a.tmps) {d : Option Nat} {x : AV} {v : Value} (hd : ∀ n, d = some n → n < a.tmps.size) (hx : rel ρ x v) :
 EnvOk ρ (E.put d x) (a.put d v).tmps := by
 intro t y hy
 cases d with
 | none => exact h t y hy
 | some d =>
   simp only [Env.put, Act.put, List.lookup_cons] at hy ⊢
   by_cases hdt : t = d
   ·subst hdt
    simp at hy
    subst hy
    have := hd t rfl
    simpa [Array.getD_eq_getD_getElem?, this] using hx
   ·have hne : (t == d) = false := by simpa using hdt
    rw [hne] at hy
    have := h t y hy
    simpa [Array.getD_eq_getD_getElem?, Array.getElem?_setIfInBounds_ne (Ne.symm hdt)] using this
theorem put_size (a : Act) (d : Option Nat) (v : Value) : (a.put d v).tmps.size = a.tmps.size := by cases d <;> simp [Act.put]
theorem put_defs (a : Act) (d : Option Nat) (v : Value) : (a.put d v).defers = a.defers := by cases d <;> simp [Act.put]
def dstOk (N : Nat) : Option Nat → Bool | some d => decide (d < N) | none => true
theorem St.put {πv : Pv} {γ γ' : Nat → Option Nat} {ρ ρ' : List Value} {E E' : Env} {H H' : List AObj} {a : Act} {w w' : World} {d : Option Nat} {x : AV} {v : Value}
 (h : St N pin πv γ ρ E H a w) (hd : dstOk N d = true) (hx : rel ρ' x v) (hE : EnvOk ρ' E' a.tmps) (hH : HeapOk γ' ρ' H' w') (hp : ∀ o ∈ pin, ρ'[o]? = ρ[o]?) (hf : ∀ b, b < w.heap.size → γ b = none → w'.heap[b]? = w.heap[b]? ∧ γ' b = none := by exact fun _ _ h => ⟨rfl, h⟩) :
 St N pin πv γ' ρ' (E'.put d x) H' (a.put d v) w' :=
 ⟨by rw [put_size]; exact h.size, by rw [put_defs]; exact h.defs.keep hf, hE.put (fun n hn => by subst hn; rw [h.size]; simpa [dstOk] using hd) hx, hH, fun o ho => (hp o ho).trans (h.pins o ho)⟩
def ofConst : Value → AV
 | .agg cs => if cs.toList.all Value.oneCell' then .agg (cs.toList.map .v) else .v (.agg cs)
 | x => .v x
def ev (E : Env) : Operand → AV
 | .tmp t => (E.lookup t).getD .top
 | .const v => ofConst v
 | .func f => .v (.func (.func f) #[] #[])
 | .global g => .v (.pointer (some ⟨g, 0, none⟩))
theorem ofConst_rel (ρ : List Value) (v : Value) : rel ρ (ofConst v) v := by
 cases v <;> try exact rfl
 rename_i cs
 simp only [ofConst]
 split
 ·rename_i h
  refine ⟨cs.toList, by simp, by simp, fun j x u hx hu => ?_⟩
  rw [List.getElem?_map, hu] at hx
  simp at hx
  subst hx
  exact ⟨rfl, List.all_eq_true.1 h u (List.mem_of_getElem? hu)⟩
 ·exact rfl
theorem ev_rel {ρ : List Value} {E : Env} {a : Act} (h : EnvOk ρ E a.tmps) (x : Operand) : rel ρ (ev E x) (a.eval x) := by
 cases x with
 | tmp t =>
   simp only [ev, Act.eval]
   cases hl : E.lookup t with
   | none => exact trivial
   | some y => exact h t y hl
 | const v => exact ofConst_rel ρ v
 | func f => exact rfl
 | global g => exact rfl
end Go.Av
