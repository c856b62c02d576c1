import Derived.Test.YteoedigfnfjopaaGreatAvN
import Derived.RangeFuncRecord
set_option linter.unusedSimpArgs false
set_option linter.unusedVariables false
namespace Go.Av
open Go
variable {P : Program} {N : Nat} {pin : List Nat} {rq : Option Nat} {γ γ' : Nat → Option Nat} {ρ : List Value} {H : List AObj} {w w' : World}
def Rels (ρ : List Value) (as : List AV) (us : List Value) : Prop := us.length = as.length ∧ ∀ (j : Nat) (y : AV) (u : Value), as[j]? = some y → us[j]? = some u → rel ρ y u
structure FnA (P : Program) (f : FuncId) (as : List AV) (H : List AObj) (cons : List Nat) (R : AV → List AObj → Prop) : Prop where
 enters : Enters P f
 calls : ∀ γ ρ us w, HeapOk γ ρ H w → Rels ρ as us → Calls P f us.toArray w fun e w' => ∃ r x γ' ρ' H', e = .returned r ∧ R x H' ∧ rel ρ' x r ∧ HeapOk γ' ρ' H' w' ∧ Fr γ w γ' w' ∧ H.length ≤ H'.length ∧
  ∀ o, o < H.length → o ∉ cons → ρ'[o]? = ρ[o]?
theorem FnA.mono {f : FuncId} {as : List AV} {cons : List Nat} {R R' : AV → List AObj → Prop} (h : FnA P f as H cons R) (hr : ∀ x H', R x H' → R' x H') : FnA P f as H cons R' :=
 ⟨h.enters, fun γ ρ us w hh hu => (h.calls γ ρ us w hh hu).mono fun e w' ⟨r, x, γ', ρ', H', h1, h2, h3⟩ => ⟨r, x, γ', ρ', H', h1, hr _ _ h2, h3⟩⟩
def resF (tmps : Array Value) : ResultVar → Sem Value
 | .tmp t => pure (tmps.getD t undef)
 | .cell a t => do loadVar t (← asAddr (tmps.getD a undef))
theorem results_eq (fn : Func) (tmps : Array Value) : results fn tmps = (do let vs ← fn.results.mapM (resF tmps); pure (if h : vs.size = 1 then vs[0] else .tuple vs)) := rfl
def resV (P : Program) (E : Env) (H : List AObj) : ResultVar → Option (Prop × AV)
 | .tmp t => some (True, (E.lookup t).getD .top)
 | .cell t T => match (E.lookup t).getD .top with
   | .pp o k => loadQ P H T (.pp o k)
   | .ep o i e f => loadQ P H T (.ep o i e f)
   | _ => none
def resVs (P : Program) (E : Env) (H : List AObj) : List ResultVar → Option (List (Prop × AV))
 | [] => some []
 | r :: l => match resV P E H r, resVs P E H l with
   | some x, some m => some (x :: m)
   | _, _ => none
def allP : List (Prop × AV) → Prop
 | [] => True
 | x :: l => x.1 ∧ allP l
def AV.detup : AV → AV
 | .tup _ => .top
 | x => x
def oneOrTup : List (Prop × AV) → AV
 | [x] => x.2
 | l => .tup (l.map fun x => x.2.detup)
def EndOk (P : Program) (rs : List ResultVar) (pin : List Nat) (n : Nat) (R : AV → List AObj → Prop) (E : Env) (H : List AObj) : Prop :=
 ∃ l sel, resVs P E H rs = some l ∧ allP l ∧ selOk pin sel H.length ∧ n ≤ sel.length ∧ R ((oneOrTup l).ren (fun x => pos sel x 0)) (selH sel H)
theorem resV_run {E : Env} {a : Act} (hE : EnvOk ρ E a.tmps) (hH : HeapOk γ ρ H w) {r : ResultVar} {q : Prop} {x : AV} (h : resV P E H r = some (q, x)) (hq : q) :
 ∃ v, (resF a.tmps r).run P w = .ok v w ∧ rel ρ x v := by
 cases r with
 | tmp t =>
   simp only [resV, Option.some.injEq, Prod.mk.injEq] at h
   obtain ⟨_, rfl⟩ := h
   exact ⟨_, rfl, ev_rel hE (.tmp t)⟩
 | cell t T =>
   simp only [resV] at h
   split at h
   ·rename_i o k he
    have h1 := ev_rel hE (.tmp t)
    simp only [ev] at h1
    rw [he] at h1
    obtain ⟨v, h2, h3⟩ := loadQ_run hH.obj h hq h1
    refine ⟨v, ?_, h3⟩
    obtain ⟨b, h4, h5⟩ := rel_pp h1
    simp only [Act.eval] at h5
    simp only [Act.eval] at h2
    rw [h5] at h2
    show Sem.run P (do loadVar T (← asAddr (a.tmps.getD t undef))) w = _
    rw [h5]
    simpa [asAddr, Instr.loadAt, Instr.sureAddr] using h2
   ·rename_i o k e f he
    have h1 := ev_rel hE (.tmp t)
    simp only [ev] at h1
    rw [he] at h1
    obtain ⟨v, h2, h3⟩ := loadQ_run hH.obj h hq h1
    refine ⟨v, ?_, h3⟩
    obtain ⟨b, ofs, n, cap, h4, h5⟩ := rel_ep h1
    simp only [Act.eval] at h5
    simp only [Act.eval] at h2
    rw [h5] at h2
    show Sem.run P (do loadVar T (← asAddr (a.tmps.getD t undef))) w = _
    rw [h5]
    simpa [asAddr, Instr.loadAt, Instr.sureAddr] using h2
   ·cases h
theorem rel_detup {x : AV} {u : Value} (h : rel ρ x u) : rel2 ρ x.detup u := by
 cases x <;> first | exact h | exact trivial
theorem results_run {E : Env} {a : Act} (hE : EnvOk ρ E a.tmps) (hH : HeapOk γ ρ H w) : ∀ {rs : List ResultVar} {l : List (Prop × AV)}, resVs P E H rs = some l → allP l →
 ∃ vs : List Value, (rs.mapM (resF a.tmps)).run P w = .ok vs w ∧
  vs.length = l.length ∧ ∀ (j : Nat) (x : Prop × AV) (u : Value), l[j]? = some x → vs[j]? = some u → rel ρ x.2 u
 | [], l, h, _ => by
   simp [resVs] at h; subst h
   exact ⟨[], rfl, rfl, fun j x u hx => by simp at hx⟩
 | r :: rs, l, h, hp => by
   unfold resVs at h
   cases h1 : resV P E H r with
   | none => rw [h1] at h; simp at h
   | some x =>
     cases h2 : resVs P E H rs with
     | none => rw [h1, h2] at h; simp at h
     | some m =>
       rw [h1, h2] at h
       simp at h; subst h
       obtain ⟨v, h3, h4⟩ := resV_run (P := P) (q := x.1) (x := x.2) hE hH h1 hp.1
       obtain ⟨vs, h5, h6, h7⟩ := results_run hE hH h2 hp.2
       refine ⟨v :: vs, ?_, by simp [h6], fun j y u hy hu => ?_⟩
       ·simp only [List.mapM_cons, Sem.run_bind]
        rw [h3]
        simp only [Result.andThen_ok]
        rw [h5]
        rfl
       ·cases j with
        | zero => simp at hy hu; subst hy hu; exact h4
        | succ j => exact h7 j y u (by simpa using hy) (by simpa using hu)
theorem results_ok {fn : Func} {E : Env} {a : Act} (hE : EnvOk ρ E a.tmps) (hH : HeapOk γ ρ H w) {rs : List ResultVar} (hrs : fn.results = rs.toArray) {l : List (Prop × AV)} (h : resVs P E H rs = some l) (hp : allP l) :
 ∃ v, (results fn a.tmps).run P w = .ok v w ∧ rel ρ (oneOrTup l) v := by
 obtain ⟨vs, h1, h2, h3⟩ := results_run (P := P) hE hH h hp
 have h1' : (fn.results.mapM (resF a.tmps)).run P w = .ok vs.toArray w := by
  rw [hrs, List.mapM_toArray]
  have e : (Functor.map List.toArray (rs.mapM (resF a.tmps))) = (rs.mapM (resF a.tmps) >>= fun l => pure l.toArray) := rfl
  rw [e, Sem.run_bind, h1]
  rfl
 have hrun : (results fn a.tmps).run P w = .ok (if h : vs.toArray.size = 1 then vs.toArray[0] else .tuple vs.toArray) w := by
  rw [results_eq, Sem.run_bind, h1']
  rfl
 refine ⟨_, hrun, ?_⟩
 clear h1 h1' hrun h hp hrs
 cases l with
 | nil =>
   have : vs = [] := List.eq_nil_of_length_eq_zero h2
   subst this
   exact ⟨[], rfl, rfl, fun j x u hx => by simp at hx⟩
 | cons x l =>
   cases vs with
   | nil => simp at h2
   | cons v vs =>
     cases l with
     | nil =>
       have : vs = [] := List.eq_nil_of_length_eq_zero (by simpa using h2)
       subst this
       exact h3 0 x v rfl rfl
     | cons y l =>
       cases vs with
       | nil => simp at h2
       | cons u vs =>
         rw [dif_neg (by simp)]
         refine ⟨v :: u :: vs, rfl, by simpa using h2, fun j z t hz ht => ?_⟩
         rw [List.getElem?_map] at hz
         cases hq : (x :: y :: l)[j]? with
         | none => rw [hq] at hz; cases hz
         | some q => rw [hq] at hz; simp at hz; subst hz; exact rel_detup (h3 j q t hq ht)
def argEnv : List AV → Nat → Env
 | [], _ => []
 | x :: l, k => (k, x) :: argEnv l (k + 1)
theorem argEnv_spec : ∀ {as : List AV} {k t : Nat} {x : AV}, (argEnv as k).lookup t = some x → k ≤ t ∧ as[t - k]? = some x
 | [], k, t, x, h => by simp [argEnv] at h
 | y :: l, k, t, x, h => by
   simp only [argEnv, List.lookup_cons] at h
   by_cases htk : t = k
   ·subst htk; simp at h; subst h; simp
   ·have hne : (t == k) = false := by simpa using htk
    rw [hne] at h
    obtain ⟨h1, h2⟩ := argEnv_spec h
    refine ⟨by omega, ?_⟩
    have : t - k = (t - (k + 1)) + 1 := by omega
    rw [this]; simpa using h2
theorem cellsAt_cell {w : World} {a : Addr} {v : Value} (h : w.cell? a = some v) : cellsAt w a.block := by
 unfold World.cell? at h
 cases ho : w.heap[a.block]? with
 | none => simp [ho] at h
 | some o => cases o <;> simp_all [cellsAt]
theorem has.close {γ : Nat → Option Nat} {ρ : List Value} {w w' : World} {o : Nat} {ob : AObj} (h : has γ ρ w o ob) (hlt : ∀ b p, γ b = some p → b < w.heap.size) (hc : ∀ b, cellsAt w b → w'.heap[b]? = w.heap[b]?)
 (ho : ∀ b p, γ b = some p → w'.heap[b]? = w.heap[b]?) (hsz : w.heap.size ≤ w'.heap.size) : has γ ρ w' o ob := by
 cases ob <;> simp only [has] at h ⊢
 ·obtain ⟨b, arr, e, h1, h2, h3, h4⟩ := h
  exact ⟨b, arr, e, h1, h2, (ho b _ h2).trans h3, h4⟩
 ·obtain ⟨b, arr, e, fz, h1, h2, h3, h4⟩ := h
  exact ⟨b, arr, e, fz, h1, h2, (hc b ⟨_, _, _, h3⟩).trans h3, h4⟩
 ·obtain ⟨u, h1, h2⟩ := h
  exact ⟨u, h1, h2.cl.stay fun b hb _ => ⟨hc b hb.2, hb.1⟩⟩
 ·obtain ⟨u, h1, h2⟩ := h
  exact ⟨u, h1, h2.cl.stay fun b hb _ => ⟨hc b hb.2, hb.1⟩⟩
 ·obtain ⟨h1, arr, e, fz, h2, h3⟩ := h
  exact ⟨h1, arr, e, fz, (hc _ ⟨_, _, _, h2⟩).trans h2, h3⟩
 ·obtain ⟨b, ofs, cap, h1, h2, h3, h6, h4⟩ := h
  refine ⟨b, ofs, cap, h1, h2, h3.cl.stay fun b hb _ => ⟨hc b hb.2, hb.1⟩, h6, fun q hq => ?_⟩
  obtain ⟨v, h5, hv1, h7⟩ := h4 q hq
  exact ⟨v, h5, hv1, by rw [World.cell?_of_block (w := w) (hc _ (cellsAt_cell h7))]; exact h7⟩
 ·obtain ⟨u, h1, h2⟩ := h
  exact ⟨u, h1, h2.cl.stay (fun b hb _ => ⟨ho b _ hb, hb⟩) (fun b hb _ => ⟨hc b hb.2, hb.1⟩)⟩
 ·obtain ⟨u, h1, h2⟩ := h
  exact ⟨u, h1, h2.to (fun b hb _ => ⟨ho b _ hb, hb⟩) (fun q hq => ⟨q, hq, fun v hv => hv⟩)⟩
 ·obtain ⟨u, h1, h2⟩ := h
  exact ⟨u, h1, h2.to (fun b hb _ => ⟨ho b _ hb, hb⟩)⟩
 ·exact ExtP.stay _ (ExtP.cells _ h) (fun b _ hb => by rcases hb with hb | hb; exact ho b _ hb; exact hc b hb.2) hsz (fun b _ hb => hb.1) (fun b _ hb => hb)
theorem HeapOk.close1 {γ : Nat → Option Nat} {ρ : List Value} {H : List AObj} {w : World} {k : Nat} {x : Option (List Deferred)} (h : HeapOk γ ρ H w) (hk : w.heap[k]? = some (.deferred x)) (hg : γ k = none) (o : Obj) : HeapOk γ ρ H (w.putObj k o) := by
 have hc : ∀ b, cellsAt w b → (w.putObj k o).heap[b]? = w.heap[b]? := fun b ⟨arr, e, fz, hb⟩ => World.putObj_heap_other (fun h => by subst h; rw [hk] at hb; cases hb)
 have ho : ∀ b p, γ b = some p → (w.putObj k o).heap[b]? = w.heap[b]? := fun b p hb => World.putObj_heap_other (fun h => by subst h; rw [hg] at hb; cases hb)
 exact ⟨h.len, fun p ob hp => (h.obj p ob hp).close (fun b p hb => (h.lab b p hb).2) hc ho (by simp), fun b p hb => by have := h.lab b p hb; exact ⟨this.1, by simpa using this.2⟩⟩
def closeAll : List Nat → World → World
 | [], w => w
 | k :: ks, w => closeAll ks (w.putObj k (.deferred none))
theorem closeAll_spec {γ : Nat → Option Nat} {ρ : List Value} {H : List AObj} : ∀ {ks : List Nat} {w : World}, HeapOk γ ρ H w → ks.Nodup → (∀ k ∈ ks, w.heap[k]? = some (.deferred (some [])) ∧ γ k = none) →
 HeapOk γ ρ H (closeAll ks w) ∧ (closeAll ks w).os = w.os ∧ (closeAll ks w).tape = w.tape ∧ (closeAll ks w).output = w.output ∧ (closeAll ks w).heap.size = w.heap.size ∧ (closeAll ks w).drawn = w.drawn ∧ ∀ b, b ∉ ks → (closeAll ks w).heap[b]? = w.heap[b]?
 | [], w, h, _, _ => ⟨h, rfl, rfl, rfl, rfl, rfl, fun _ _ => rfl⟩
 | k :: ks, w, h, hn, hk => by
   have hn' := List.nodup_cons.1 hn
   have h0 := hk k (List.mem_cons_self ..)
   obtain ⟨g1, g2, g3, g4, g5, g6, g7⟩ := closeAll_spec (ks := ks) (h.close1 h0.1 h0.2 (.deferred none)) hn'.2 (fun j hj => ⟨(World.putObj_heap_other (by rintro rfl; exact hn'.1 hj)).trans (hk j (List.mem_cons_of_mem _ hj)).1, (hk j (List.mem_cons_of_mem _ hj)).2⟩)
   refine ⟨g1, g2, g3, g4, g5.trans (by simp), g6, fun b hb => ?_⟩
   rw [List.mem_cons, not_or] at hb
   exact (g7 b hb.2).trans (World.putObj_heap_other hb.1)
theorem leaves_marks {fn : Func} {tmps : Array Value} {R : Ending → World → Prop} : ∀ {ks : List Nat} {w : World}, ks.Nodup → (∀ k ∈ ks, w.heap[k]? = some (.deferred (some []))) →
 (∃ v, (results fn tmps).run P (closeAll ks w) = .ok v (closeAll ks w) ∧ R (.returned v) (closeAll ks w)) → LeavesInM (FW none) 0 P fn tmps R (ks.map markOf) .returning w
 | [], w, _, _, h => h
 | k :: ks, w, hn, hk, h => by
   have hn' := List.nodup_cons.1 hn
   refine ⟨by simp, .inl ⟨k, _, rfl, run_takeDeferred (hk k (List.mem_cons_self ..)), ?_⟩⟩
   exact leaves_marks hn'.2 (fun j hj => (World.putObj_heap_other (by rintro rfl; exact hn'.1 hj)).trans (hk j (List.mem_cons_of_mem _ hj))) h
theorem FnA.of {f : FuncId} {fn : Func} {c : Code} {as : List AV} {cons pin : List Nat} {rs : List ResultVar} {R : AV → List AObj → Prop} (hf : P.funcs[f]? = some fn) (hb : fn.body = some c) (hen : Enters P f)
 (hn : fn.ntmps = N) (hrs : fn.results = rs.toArray) (has : as.length ≤ N) (hpin : ∀ o, o ∈ pin ↔ (o < H.length ∧ o ∉ cons))
 (h : awp none P N pin c (fun e E' H' => (e = .normal ∨ e = .ret) ∧ EndOk P rs pin H.length R E' H') (argEnv as 0) H) : FnA P f as H cons R := by
 refine ⟨hen, fun γ ρ us w hH hu => (callsIn_FW (rd := none) (n := 0)).1 (callsIn_of_wp_marks hf hb trivial ?_)⟩
 have hsz : (us.toArray ++ Array.replicate (fn.ntmps - us.toArray.size) undef).size = N := by simp; have := hu.1; omega
 have hst : St N pin ⟨fun o => ρ.getD o undef, fun b => b < w.heap.size ∧ γ b = none⟩ γ ρ (argEnv as 0) H { tmps := us.toArray ++ Array.replicate (fn.ntmps - us.toArray.size) undef, defers := [] } w := by
  refine ⟨hsz, Defs.nil0 (fun _ h => h), fun t x hx => ?_, hH, fun o ho => ?_⟩
  ·obtain ⟨_, h2⟩ := argEnv_spec hx
   simp only [Nat.sub_zero] at h2
   have hlt : t < us.length := by rw [hu.1]; exact (List.getElem?_eq_some_iff.1 h2).1
   have h3 := hu.2 t x us[t] h2 (List.getElem?_eq_getElem hlt)
   have e1 : (us.toArray ++ Array.replicate (fn.ntmps - us.toArray.size) undef).getD t undef = us[t] := by
    simp [Array.getD_eq_getD_getElem?, Array.getElem?_append, hlt]
   rw [e1]; exact h3
  ·have hlt : o < ρ.length := by rw [hH.len]; exact ((hpin o).1 ho).1
   simp [List.getD, hlt]
 refine wpIn_mono (h _ γ ρ _ w hst) fun e a2 w2 ⟨γ2, ρ2, E2, H2, hq, hs, hfr⟩ => ?_
 obtain ⟨he, l, sel, h1, h2, h3, h4, h5⟩ := hq
 obtain ⟨hd0, ks, hd1, hd2, hd3⟩ := hs.defs
 obtain ⟨hc1, hc2, hc3, hc4, hc5, hc6, hc7⟩ := closeAll_spec hs.heap hd2 (fun k hk => (hd3 k hk).2)
 have hfc : Fr γ w γ2 (closeAll ks w2) := ⟨hc2.trans hfr.os, hc3.trans hfr.tape, hc4.trans hfr.output, by rw [hc5]; exact hfr.size, fun b hb hg => by
  obtain ⟨k1, k2⟩ := hfr.keep b hb hg
  exact ⟨(hc7 b (fun hk => (hd3 b hk).1 ⟨hb, hg⟩)).trans k1, k2⟩, by rw [hc6]; exact hfr.drawn⟩
 obtain ⟨v, h6, h7⟩ := results_ok hs.env hc1 hrs h1 h2
 obtain ⟨γ3, ρ3, hs3, hfr3⟩ := Red.sel (N := 1) (pin := pin) (E := [(0, oneOrTup l)]) sel h3 ⟨fun o => ρ.getD o undef, fun b => b < w.heap.size ∧ γ b = none⟩ γ2 ρ2 { tmps := #[v], defers := [] } (closeAll ks w2)
  ⟨rfl, Defs.nil0 (fun b hb => by rw [hc5]; exact hd0 b hb), fun t x hx => by
   simp only [List.lookup_cons, List.lookup_nil] at hx
   by_cases ht : t = 0
   ·subst ht
    simp at hx
    subst hx
    exact h7
   ·have hne : (t == 0) = false := by simpa using ht
    rw [hne] at hx
    exact absurd hx (by simp), hc1, hs.pins⟩
 have hx3 : rel ρ3 ((oneOrTup l).ren (fun x => pos sel x 0)) v := hs3.env 0 _ rfl
 have hend : (results fn a2.tmps).run P (closeAll ks w2) = .ok v (closeAll ks w2) := h6
 have hR : (fun e w' => ∃ r x γ' ρ' H', e = Ending.returned r ∧ R x H' ∧ rel ρ' x r ∧ HeapOk γ' ρ' H' w' ∧ Fr γ w γ' w' ∧ H.length ≤ H'.length ∧ ∀ o, o < H.length → o ∉ cons → ρ'[o]? = ρ[o]?) (.returned v) (closeAll ks w2) := by
  refine ⟨v, _, γ3, ρ3, _, rfl, h5, hx3, hs3.heap, hfc.trans hfr3, by simpa [selH] using h4, fun o ho hc => ?_⟩
  have := hs3.pins o ((hpin o).2 ⟨ho, hc⟩)
  rw [this]
  have hlt : o < ρ.length := by rw [hH.len]; exact ho
  simp [List.getD, hlt]
 rcases he with rfl | rfl
 ·show LeavesInM (FW none) 0 P fn a2.tmps _ a2.defers .returning w2
  rw [hd1]; exact leaves_marks hd2 (fun k hk => (hd3 k hk).2.1) ⟨v, hend, hR⟩
 ·show LeavesInM (FW none) 0 P fn a2.tmps _ a2.defers .returning w2
  rw [hd1]; exact leaves_marks hd2 (fun k hk => (hd3 k hk).2.1) ⟨v, hend, hR⟩
end Go.Av
