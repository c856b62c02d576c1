import Derived.Test.YtbhbaijbdciafaaGreatDoorAvO
import Derived.Deep.Quiet
set_option linter.unusedSimpArgs false
set_option linter.unusedVariables false
namespace Go.Av
open Go
variable {P : Program} {N : Nat} {pin : List Nat} {rq : Option Nat} {γ γ' : Nat → Option Nat} {ρ : List Value} {H : List AObj} {w w' : World}
def AV.det1 : AV → Bool | .v _ | .sl _ | .pp .. | .ep .. | .ip .. => true | _ => false
def AV.det : AV → Bool
 | .agg l => l.all AV.det1
 | x => x.det1
theorem rel1.det {x : AV} {u v : Value} (hd : x.det1 = true) (h : rel1 ρ x u) (k : rel1 ρ x v) : u = v := by
 cases x <;> simp only [AV.det1, Bool.false_eq_true] at hd
 ·exact h.1.trans k.1.symm
 ·exact Option.some.inj (h.1.symm.trans k.1)
 ·obtain ⟨b, h1, rfl⟩ := h; obtain ⟨b', k1, rfl⟩ := k
  rw [h1] at k1; simp at k1; subst k1; rfl
 ·obtain ⟨b, ofs, n, cap, h1, rfl⟩ := h; obtain ⟨b', ofs', n', cap', k1, rfl⟩ := k
  rw [h1] at k1; simp at k1; obtain ⟨⟨rfl, rfl⟩, _⟩ := k1; rfl
 ·obtain ⟨b, h1, rfl⟩ := h; obtain ⟨b', k1, rfl⟩ := k
  rw [h1] at k1; simp at k1; subst k1; rfl
theorem rel.det {x : AV} {u v : Value} (hd : x.det = true) (h : rel ρ x u) (k : rel ρ x v) : u = v := by
 cases x
 case agg l =>
  obtain ⟨cs, rfl, h1, h2⟩ := h
  obtain ⟨ds, rfl, k1, k2⟩ := k
  congr 2
  apply List.ext_getElem (by rw [h1, k1])
  intro j hj hj'
  have hl : j < l.length := by rw [← h1]; exact hj
  exact rel1.det (List.all_eq_true.1 hd _ (List.getElem_mem hl)) (h2 j _ _ (List.getElem?_eq_getElem hl) (List.getElem?_eq_getElem hj)) (k2 j _ _ (List.getElem?_eq_getElem hl) (List.getElem?_eq_getElem hj'))
 case v y => exact (rel_v h).trans (rel_v k).symm
 case sl o => exact rel1.det (x := .sl o) rfl h k
 case pp o f => exact rel1.det (x := .pp o f) rfl h k
 case ip o T => exact rel1.det (x := .ip o T) rfl h k
 case ep o i e f => exact rel1.det (x := .ep o i e f) rfl h k
 all_goals (cases hd; done)
section
variable (P N) (ft : FuncId → Option (List Value → Option (Prop × Value)))
def vcQ (o : Oper) (K : Env → Prop) (E : Env) (H : List AObj) : Prop :=
 match dstOk N o.dst with
 | true => match quiet P E H o.op with
   | some (q, x) => match x.det with
     | true => q ∧ K (E.put o.dst x)
     | false => False
   | none => match pcall ft E o.op with
     | some (q, x) => q ∧ K (E.put o.dst x)
     | none => False
 | false => False
def vcQs (ops : Array Oper) (H : List AObj) : List Oper → (Env → Prop) → Env → Prop
 | [], K, E => K E
 | o :: rest, K, E => match o.guard with
   | none => vcQ P N ft o (vcQs ops H rest K) E H
   | some (j, want) => match guardV E ops j with
     | some (d, b) => (b = want → vcQ P N ft o (vcQs ops H rest K) ((d, .v (.bool want)) :: E) H) ∧ (b = !want → dstOk N o.dst = true ∧ vcQs ops H rest K (Env.put ((d, .v (.bool !want)) :: E) o.dst skipV))
     | none => match guardU E ops j with
       | true => dstOk N o.dst = true ∧ vcQs ops H rest K (Env.put E o.dst skipV)
       | false => False
end
def CW (γ : Nat → Option Nat) (ρ : List Value) (H : List AObj) (w0 w : World) : Prop := HeapOk γ ρ H w ∧ Fr γ w0 γ w
theorem vcQ_sound {ft : FuncId → Option (List Value → Option (Prop × Value))} (hft : PTab P ft) {o : Oper} {K : Env → Prop} {E : Env} (h : vcQ P N ft o K E H) {w0 : World} {a : Act} (hE : EnvOk ρ E a.tmps) (hs : a.tmps.size = N)
 (hne : ∃ w, CW γ ρ H w0 w) : ∃ v E', (∀ w, CW γ ρ H w0 w → o.quietAt P a (CW γ ρ H w0) w v) ∧ EnvOk ρ E' (a.put o.dst v).tmps ∧ K E' := by
 unfold vcQ at h
 split at h
 ·rename_i hd
  have hd' : ∀ n, o.dst = some n → n < a.tmps.size := fun n hn => by rw [hs]; rw [hn] at hd; simpa [dstOk] using hd
  split at h
  ·rename_i q x hq
   split at h
   ·rename_i hdet
    obtain ⟨w1, hw1⟩ := hne
    obtain ⟨v, h1, h2⟩ := quiet_run hE hw1.1.obj hq h.1
    refine ⟨v, _, fun w hw => ?_, hE.put hd' h2, h.2⟩
    obtain ⟨v', h3, h4⟩ := quiet_run hE hw.1.obj hq h.1
    have := rel.det hdet h2 h4
    subst this
    unfold Oper.quietAt
    rw [h3]
    exact ⟨rfl, rfl⟩
   ·exact h.elim
  ·split at h
   ·rename_i q x hq
    obtain ⟨dst, op, ty, pos, after, guard⟩ := o
    unfold Av.pcall at hq
    split at hq
    ·rename_i c hop
     simp only at hop
     subst hop
     split at hq
     ·rename_i f hc
      split at hq
      ·rename_i g hg
       split at hq
       ·rename_i vs hvs
        cases hr : g vs with
        | none => rw [hr] at hq; cases hq
        | some r =>
          rw [hr] at hq
          simp only [Option.map_some, Option.some.injEq, Prod.mk.injEq] at hq
          obtain ⟨rfl, rfl⟩ := hq
          have hP := hft f g hg
          have hev := evs_rel hE c.args.toList
          have hus := plain_ok hvs (by rw [hev.1]) (fun j y u hy hu => hev.2 j y u hy hu)
          refine ⟨r.2, _, fun w hw => ?_, hE.put hd' (ofConst_rel ρ r.2), h.2⟩
          unfold Oper.quietAt
          rw [run_call_enterF hE hP.enters hc hus]
          refine ⟨rfl, (hP.calls vs r.1 r.2 (by rw [hr]) h.1 w).mono ?_⟩
          rintro e w' ⟨rfl, hgr⟩
          exact ⟨rfl, hw.1.grow hgr.keep hgr.size, hw.2.trans ⟨hgr.os, hgr.tape, hgr.output, hgr.size, fun b hb hg => ⟨hgr.keep b hb, hg⟩, hgr.drawn⟩⟩
       ·cases hq
      ·cases hq
     ·cases hq
    ·cases hq
   ·exact h.elim
 ·exact h.elim
theorem wpQuiet_mono' {ops : Array Oper} {C : World → Prop} {Q Q' : Act → Prop} (hQ : ∀ a, Q a → Q' a) : ∀ (l : List Oper) (a : Act), wpQuiet P ops C Q l a → wpQuiet P ops C Q' l a
 | [], a, h => hQ a h
 | o :: rest, a, h => by
   unfold wpQuiet at h ⊢
   split
   ·rename_i hw
    rw [if_pos hw] at h
    obtain ⟨v, h1, h2⟩ := h
    exact ⟨v, h1, wpQuiet_mono' hQ rest _ h2⟩
   ·rename_i hw
    rw [if_neg hw] at h
    exact wpQuiet_mono' hQ rest _ h
theorem wpIn_quiet {rd : Option Nat} {id : Nat} {ops : Array Oper} {C : World → Prop} {Q : Exit → Act → World → Prop} {a : Act} {w : World} (hnd : noDefer ops = true) (hm : P.follows .mixedOrders = true) (hB : Region.lexB .any ops = true) (hC : C { w with drawn := w.drawn + 1 })
 (h : wpQuiet P ops C (fun a' => ∀ w', C w' → Q .normal a' w') ops.toList a) : (Code.region id ops true).wpIn (FW rd) 0 P (fun e a w => e = .normal ∧ Q e a w) a w := by
 simp only [Region.lexB, Bool.and_eq_true] at hB
 refine wpIn_any hnd (fun _ _ h => by cases h.1) hm (wpAny_of_quiet (Q := fun a' => ∀ w', C w' → Q .normal a' w') (fun _ w' hw' h => ⟨rfl, h w' hw'⟩) _ _ _ _ hC ?_)
 have := wpAnyQ_lex (C := C) (md := .any) hB.1 ops.toList 0 (Array.replicate ops.size false) a (by simp) (by simpa using hB.2) h
 simpa using this
end Go.Av
