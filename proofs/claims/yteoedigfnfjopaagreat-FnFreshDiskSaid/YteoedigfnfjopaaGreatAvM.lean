import Derived.Test.YteoedigfnfjopaaGreatAvL
set_option linter.unusedSimpArgs false
set_option linter.unusedVariables false
namespace Go.Av
open Go
variable {P : Program} {N : Nat} {pin : List Nat} {γ γ' : Nat → Option Nat} {ρ : List Value} {H : List AObj} {w w' : World}
def isArrayD : TypeDesc → Bool | .array _ _ => true | _ => false
def allocAE (H : List AObj) (d : TypeDesc) (z : Value) : Option (List AObj × AV) :=
 match d with
 | .array len _ => if arrD z = some (List.replicate len 0) ∧ len ≤ 1000000 then some (H ++ [.row true (.ints .i64 (zeros len))], .ep H.length 0 1 0) else none
 | _ => none
theorem allocAE_run (hH : HeapOk γ ρ H w) {T : TypeId} {d : TypeDesc} {z : Value} {x : AV} {H' : List AObj} (h : allocAE H d z = some (H', x)) :
 ∃ v w' γ' p, Sem.run P (Instr.box T z) w = .ok v w' ∧ HeapOk γ' (ρ ++ [p]) H' w' ∧ rel (ρ ++ [p]) x v ∧ Fr γ w γ' w' := by
 unfold allocAE at h
 split at h
 ·rename_i len e
  split at h
  ·rename_i hc
   simp only [Option.some.injEq, Prod.mk.injEq] at h
   obtain ⟨rfl, rfl⟩ := h
   obtain ⟨hz, hm⟩ := hc
   obtain rfl := arrD_eq hz
   have hm : len ≤ maxLen := Nat.le_trans hm (by decide)
   unfold zeros
   have hrow := hH.row (.ints .i64 (List.replicate len 0)) ((List.replicate len 0).map (Value.int .i64)).toArray T len rfl (by simp [Cont.len]) hm (by simp [Cont.esz]) (fun i f x hi hx => by
    simp only [Cont.len, List.length_replicate] at hi
    simp only [Cont.cell] at hx
    split at hx
    ·rename_i hf; subst hf
     simp at hx
     subst hx
     simp [Cont.esz, hi, List.getD_eq_getElem?_getD]
    ·cases hx)
   refine ⟨.pointer (some ⟨w.heap.size, 0, none⟩), w.alloc (.cells ((List.replicate len 0).map (Value.int .i64)).toArray T), _, _, ?_, hrow, ?_, Fr.alloc _ _ _ _⟩
   ·simp [Instr.box, newVar, newRow, arrV, Value.cells]
   ·exact ⟨w.heap.size, 0, _, _, by rw [← hH.len]; simp; exact ⟨rfl, rfl⟩, rfl⟩
  ·cases h
 ·cases h
def mapZ : Option Value → AObj
 | some (.int .i64 0) => .mi []
 | _ => .mp [] none none
def eff (P : Program) (pin : List Nat) (E : Env) (H : List AObj) (op : Op) : Option (Prop × Env × List AObj × AV) :=
 match op with
 | .box _ x => (boxE H (ev E x)).map fun r => (True, E, r.1, r.2)
 | .alloc T => match tzero P T, P.underlying T with
   | some z, some d => if isArrayD d then (allocAE H d z).map fun r => (True, E, r.1, r.2) else (boxE H (ofConst z)).map fun r => (True, E, r.1, r.2)
   | _, _ => none
 | .store T p x => match storeE P H T (ev E p) (ev E x) with
   | some r => some (r.1, E, r.2, .top)
   | none => (storeXE P H T (ev E p) (ev E x)).map fun r => (r.1, E, r.2, .top)
 | .makeSlice T l c => match makeE P H T (ev E l) (ev E c) with
   | some r => some (r.1, E, r.2.1, r.2.2)
   | none => (makeXE P H T (ev E l) (ev E c)).map fun r => (r.1, E, r.2.1, r.2.2)
 | .buildSlice T n parts => match buildSliceE P H T n (parts.toList.map fun p => (p.1, ev E p.2)) with
   | some r => some (True, E, r.1, r.2)
   | none => (buildXE P H T n (parts.toList.map fun p => (p.1, ev E p.2))).map fun r => (True, E, r.1, r.2)
 | .makeMap T none => match P.underlying T with
   | some (.map _ et) => some (True, E, H ++ [mapZ (tzero P et)], .sl H.length)
   | _ => none
 | .mapUpdate T mm k x => match mapUpE P H T (ev E mm) (ev E k) (ev E x) with
   | some r => some (r.1, E, r.2, .top)
   | none => (mapUpI P H T (ev E mm) (ev E k) (ev E x)).map fun r => (r.1, E, r.2, .top)
 | .slice T x lo hi mx => (sliceE P E H T x lo hi mx).map fun r => (r.1, E, r.2.1, r.2.2)
 | .call c => match c.callee with
   | .builtin .append => match c.args.toList, c.argTypes.toList with
     | [x, y], [T, T'] => if T = T' then (match appendE P pin E H T (ev E x) (ev E y) with | some r => some r | none => match appendXE P pin E H T (ev E x) (ev E y) with | some r => some r | none => appendV P pin E H T (ev E x) (ev E y)) else none
     | _, _ => none
   | _ => none
 | _ => none
theorem pins_ext {πv : Pv} {E : Env} {a : Act} (hst : St N pin πv γ ρ E H a w) (m : List Value) : ∀ o ∈ pin, (ρ ++ m)[o]? = ρ[o]? :=
 fun o ho => List.getElem?_append_left (by have := hst.pins o ho; exact (List.getElem?_eq_some_iff.1 this).1)
theorem eff_run {πv : Pv} {E E' : Env} {a : Act} (hst : St N pin πv γ ρ E H a w) {o : Oper} {q : Prop} {H' : List AObj} {x : AV} (h : eff P pin E H o.op = some (q, E', H', x)) (hq : q) :
 ∃ v w' γ' ρ', ((execOp a.eval o).run P w = .ok (.value v) w' ∨ ((execOp a.eval o).run P w = .ok .skip w' ∧ v = undef)) ∧ EnvOk ρ' E' a.tmps ∧ HeapOk γ' ρ' H' w' ∧ rel ρ' x v ∧ Fr γ w γ' w' ∧
  ∀ o ∈ pin, ρ'[o]? = ρ[o]? := by
 have hH := hst.heap
 have E0 : ∀ y, rel ρ (ev E y) (a.eval y) := ev_rel hst.env
 obtain ⟨dst, op, ty, pos, after, guard⟩ := o
 simp only at h
 cases op <;> simp only [eff] at h
 case box T y =>
  cases hb : boxE H (ev E y) with
  | none => rw [hb] at h; cases h
  | some r =>
    rw [hb] at h
    simp only [Option.map_some, Option.some.injEq, Prod.mk.injEq] at h
    obtain ⟨_, rfl, rfl, rfl⟩ := h
    obtain ⟨v, w', γ', p, h1, h2, h3, h4⟩ := boxE_run (P := P) (T := T) hH (H' := r.1) (y := r.2) hb (E0 y)
    exact ⟨v, w', γ', _, .inl (by simp [execOp, h1]), hst.env.ext _, h2, h3, h4, pins_ext hst _⟩
 case alloc T =>
  split at h
  ·rename_i z d hz hd
   split at h
   ·cases hb : allocAE H d z with
    | none => rw [hb] at h; cases h
    | some r =>
      rw [hb] at h
      simp only [Option.map_some, Option.some.injEq, Prod.mk.injEq] at h
      obtain ⟨_, rfl, rfl, rfl⟩ := h
      obtain ⟨v, w', γ', p, h1, h2, h3, h4⟩ := allocAE_run (P := P) (T := T) hH (H' := r.1) (x := r.2) hb
      refine ⟨v, w', γ', _, .inl ?_, hst.env.ext _, h2, h3, h4, pins_ext hst _⟩
      have h1' := h1
      simp [Instr.box] at h1'
      simp [execOp, Instr.alloc, run_tzero hz]
      cases hnv : Sem.run P (newVar T z) w with
      | ok b w2 => rw [hnv] at h1'; simp at h1' ⊢; exact h1'
      | halt b w2 => rw [hnv] at h1'; simp at h1'
   ·cases hb : boxE H (ofConst z) with
    | none => rw [hb] at h; cases h
    | some r =>
      rw [hb] at h
      simp only [Option.map_some, Option.some.injEq, Prod.mk.injEq] at h
      obtain ⟨_, rfl, rfl, rfl⟩ := h
      obtain ⟨v, w', γ', p, h1, h2, h3, h4⟩ := boxE_run (P := P) (T := T) hH (H' := r.1) (y := r.2) hb (ofConst_rel ρ z)
      refine ⟨v, w', γ', _, .inl ?_, hst.env.ext _, h2, h3, h4, pins_ext hst _⟩
      have h1' := h1
      simp [Instr.box] at h1'
      simp [execOp, Instr.alloc, run_tzero hz]
      cases hnv : Sem.run P (newVar T z) w with
      | ok b w2 => rw [hnv] at h1'; simp at h1' ⊢; exact h1'
      | halt b w2 => rw [hnv] at h1'; simp at h1'
  ·cases h
 case store T p y =>
  cases hb : storeE P H T (ev E p) (ev E y) with
  | none =>
    rw [hb] at h
    simp only at h
    cases hb2 : storeXE P H T (ev E p) (ev E y) with
    | none => rw [hb2] at h; cases h
    | some r =>
      rw [hb2] at h
      simp only [Option.map_some, Option.some.injEq, Prod.mk.injEq] at h
      obtain ⟨rfl, rfl, rfl, rfl⟩ := h
      obtain ⟨w', γ', h1, h2, h3⟩ := storeXE_run (P := P) (T := T) hH (H' := r.2) hb2 hq (E0 p) (E0 y)
      exact ⟨undef, w', γ', ρ, .inr ⟨by simp [execOp, h1], rfl⟩, hst.env, h2, trivial, h3, fun _ _ => rfl⟩
  | some r =>
    rw [hb] at h
    simp only [Option.some.injEq, Prod.mk.injEq] at h
    obtain ⟨rfl, rfl, rfl, rfl⟩ := h
    obtain ⟨w', h1, h2, h3⟩ := storeE_run hH (H' := r.2) hb hq (E0 p) (E0 y)
    exact ⟨undef, w', γ, ρ, .inr ⟨by simp [execOp, h1], rfl⟩, hst.env, h2, trivial, h3, fun _ _ => rfl⟩
 case makeMap T rsv =>
  cases rsv with
  | some z => cases h
  | none =>
  simp only at h
  split at h
  ·simp only [Option.some.injEq, Prod.mk.injEq] at h
   obtain ⟨_, rfl, rfl, rfl⟩ := h
   rename_i kt et hT hq0
   have hrow : HeapOk (own1 γ w.heap.size H.length) (ρ ++ [.map (some w.heap.size)]) (H ++ [mapZ (tzero P et)]) (w.alloc (.map #[] 0)) := by
    unfold mapZ
    split
    ·exact hH.alloc _ _ _ ⟨.map (some w.heap.size), by rw [← hH.len]; simp, w.heap.size, #[], 0, rfl, by simp [own1], (Go.MapKept.heap_alloc w _).1, rfl, by simp, fun i e x hi => by simp at hi⟩
    ·exact hH.alloc _ _ _ ⟨.map (some w.heap.size), by rw [← hH.len]; simp, ⟨w.heap.size, #[], 0, fun _ => 0, rfl, by simp [own1], (Go.MapKept.heap_alloc w _).1, rfl, by simp, fun i e x hi => by simp at hi⟩, fun k q hk => by cases hk⟩
   refine ⟨.map (some w.heap.size), w.alloc (.map #[] 0), _, _, .inl ?_, hst.env.ext _, hrow, ⟨by rw [← hH.len]; simp, rfl⟩, Fr.alloc _ _ _ _, pins_ext hst _⟩
   have : (Instr.makeMap T none).run P w = .ok (.map (some w.heap.size)) (w.alloc (.map #[] 0)) := rfl
   simp [execOp, this]
  ·cases h
 case mapUpdate T mm k y =>
  cases hb : mapUpE P H T (ev E mm) (ev E k) (ev E y) with
  | none =>
    rw [hb] at h
    simp only at h
    cases hb2 : mapUpI P H T (ev E mm) (ev E k) (ev E y) with
    | none => rw [hb2] at h; cases h
    | some r =>
      rw [hb2] at h
      simp only [Option.map_some, Option.some.injEq, Prod.mk.injEq] at h
      obtain ⟨rfl, rfl, rfl, rfl⟩ := h
      obtain ⟨w', γ', h1, h2, h3⟩ := mapUpI_run (P := P) (T := T) hH (H' := r.2) hb2 (E0 mm) (E0 k) (E0 y)
      exact ⟨undef, w', γ', ρ, .inr ⟨by simp [execOp, h1], rfl⟩, hst.env, h2, trivial, h3, fun _ _ => rfl⟩
  | some r =>
    rw [hb] at h
    simp only [Option.some.injEq, Prod.mk.injEq] at h
    obtain ⟨rfl, rfl, rfl, rfl⟩ := h
    obtain ⟨w', γ', h1, h2, h3⟩ := mapUpE_run (P := P) (T := T) hH (H' := r.2) hb hq (E0 mm) (E0 k) (E0 y)
    exact ⟨undef, w', γ', ρ, .inr ⟨by simp [execOp, h1], rfl⟩, hst.env, h2, trivial, h3, fun _ _ => rfl⟩
 case makeSlice T l c =>
  cases hb : makeE P H T (ev E l) (ev E c) with
  | none =>
    rw [hb] at h
    simp only at h
    cases hb2 : makeXE P H T (ev E l) (ev E c) with
    | none => rw [hb2] at h; cases h
    | some r =>
      rw [hb2] at h
      simp only [Option.map_some, Option.some.injEq, Prod.mk.injEq] at h
      obtain ⟨rfl, rfl, rfl, rfl⟩ := h
      obtain ⟨v, w', γ', p, h1, h2, h3, h4⟩ := makeXE_run hH (H' := r.2.1) (y := r.2.2) hb2 hq (E0 l) (E0 c)
      exact ⟨v, w', γ', _, .inl (by simp [execOp, h1]), hst.env.ext _, h2, h3, h4, pins_ext hst _⟩
  | some r =>
    rw [hb] at h
    simp only [Option.some.injEq, Prod.mk.injEq] at h
    obtain ⟨rfl, rfl, rfl, rfl⟩ := h
    obtain ⟨v, w', γ', p, h1, h2, h3, h4⟩ := makeE_run hH (H' := r.2.1) (y := r.2.2) hb hq (E0 l) (E0 c)
    exact ⟨v, w', γ', _, .inl (by simp [execOp, h1]), hst.env.ext _, h2, h3, h4, pins_ext hst _⟩
 case buildSlice T n parts =>
  cases hb : buildSliceE P H T n (parts.toList.map fun p => (p.1, ev E p.2)) with
  | none =>
    rw [hb] at h
    simp only at h
    cases hb2 : buildXE P H T n (parts.toList.map fun p => (p.1, ev E p.2)) with
    | none => rw [hb2] at h; cases h
    | some r =>
      rw [hb2] at h
      simp only [Option.map_some, Option.some.injEq, Prod.mk.injEq] at h
      obtain ⟨_, rfl, rfl, rfl⟩ := h
      obtain ⟨v, w', γ', p, h1, h2, h3, h4⟩ := buildXE_run hH (H' := r.1) (y := r.2) (us := parts.toList.map fun p => (p.1, a.eval p.2)) hb2 (by simp) (fun j p u hp hu => by
       rw [List.getElem?_map] at hp hu
       cases hx : parts.toList[j]? with
       | none => rw [hx] at hp; cases hp
       | some z => rw [hx] at hp hu; simp at hp hu; subst hp hu; exact ⟨rfl, E0 _⟩)
      refine ⟨v, w', γ', _, .inl ?_, hst.env.ext _, h2, h3, h4, pins_ext hst _⟩
      have e1 : (parts.map fun p => (p.1, a.eval p.2)) = (parts.toList.map fun p => (p.1, a.eval p.2)).toArray := by apply Array.ext'; simp
      have e2 : execOp a.eval ⟨dst, .buildSlice T n parts, ty, pos, after, guard⟩ = (do pure (.value (← Instr.buildSlice T n (parts.map fun p => (p.1, a.eval p.2))))) := rfl
      rw [e2, e1]
      simp [h1]
  | some r =>
    rw [hb] at h
    simp only [Option.some.injEq, Prod.mk.injEq] at h
    obtain ⟨_, rfl, rfl, rfl⟩ := h
    obtain ⟨v, w', γ', p, h1, h2, h3, h4⟩ := buildSliceE_run hH (H' := r.1) (y := r.2) (us := parts.toList.map fun p => (p.1, a.eval p.2)) hb (by simp) (fun j p u hp hu => by
     rw [List.getElem?_map] at hp hu
     cases hx : parts.toList[j]? with
     | none => rw [hx] at hp; cases hp
     | some z => rw [hx] at hp hu; simp at hp hu; subst hp hu; exact ⟨rfl, E0 _⟩)
    refine ⟨v, w', γ', _, .inl ?_, hst.env.ext _, h2, h3, h4, pins_ext hst _⟩
    have e1 : (parts.map fun p => (p.1, a.eval p.2)) = (parts.toList.map fun p => (p.1, a.eval p.2)).toArray := by apply Array.ext'; simp
    have e2 : execOp a.eval ⟨dst, .buildSlice T n parts, ty, pos, after, guard⟩ = (do pure (.value (← Instr.buildSlice T n (parts.map fun p => (p.1, a.eval p.2))))) := rfl
    rw [e2, e1]
    simp [h1]
 case slice T y lo hi mx =>
  cases hb : sliceE P E H T y lo hi mx with
  | none => rw [hb] at h; cases h
  | some r =>
    rw [hb] at h
    simp only [Option.map_some, Option.some.injEq, Prod.mk.injEq] at h
    obtain ⟨rfl, rfl, rfl, rfl⟩ := h
    obtain ⟨v, m, h1, h2, h3⟩ := sliceE_run hst (H' := r.2.1) (y := r.2.2) hb hq
    exact ⟨v, w, γ, _, .inl (by simp [execOp, h1]), hst.env.ext m, h2, h3, Fr.refl _ _, pins_ext hst m⟩
 case call c =>
  obtain ⟨callee, args, tys⟩ := c
  simp only at h
  split at h
  ·split at h
   ·rename_i y z T T' ha ht
    have ha' : args = #[y, z] := by rw [← Array.toList_inj]; exact ha
    have ht' : tys = #[T, T'] := by rw [← Array.toList_inj]; exact ht
    subst ha' ht'
    split at h
    ·rename_i hT
     subst hT
     cases hap : appendE P pin E H T (ev E y) (ev E z) with
     | some r =>
       rw [hap] at h
       simp only [Option.some.injEq] at h
       subst h
       obtain ⟨u, w', γ', ρ', h1, h2, h3, h4, h5, h6⟩ := appendE_run (ty := ty) hst hap hq (E0 y) (E0 z)
       exact ⟨u, w', γ', ρ', .inl (by simp [execOp, resolve, invoke, builtin, h1]), h2, h3, h4, h5, h6⟩
     | none =>
       rw [hap] at h
       simp only at h
       cases hap2 : appendXE P pin E H T (ev E y) (ev E z) with
       | some r =>
         rw [hap2] at h
         simp only [Option.some.injEq] at h
         subst h
         obtain ⟨u, w', γ', ρ', h1, h2, h3, h4, h5, h6⟩ := appendXE_run (ty := ty) hst hap2 hq (E0 y) (E0 z)
         exact ⟨u, w', γ', ρ', .inl (by simp [execOp, resolve, invoke, builtin, h1]), h2, h3, h4, h5, h6⟩
       | none =>
         rw [hap2] at h
         simp only at h
         obtain ⟨u, w', γ', ρ', h1, h2, h3, h4, h5, h6⟩ := appendV_run (ty := ty) hst h hq (E0 y) (E0 z)
         exact ⟨u, w', γ', ρ', .inl (by simp [execOp, resolve, invoke, builtin, h1]), h2, h3, h4, h5, h6⟩
    ·cases h
   ·cases h
  ·cases h
 all_goals (cases h; done)
def OpOk (P : Program) (N : Nat) (pin : List Nat) (o : Oper) (E : Env) (H : List AObj) (E' : Env) (H' : List AObj) : Prop :=
 ∀ πv γ ρ a w, St N pin πv γ ρ E H a w → ∀ (K' : Act → World → Prop) (Q' : Exit → Act → World → Prop),
  (∀ v w' γ' ρ', St N pin πv γ' ρ' E' H' (a.put o.dst v) w' → Fr γ w γ' w' → K' (a.put o.dst v) w') → o.wp P a w K' Q'
theorem wpA_op {ops : Array Oper} {o : Oper} {rest : List Oper} {K : Env → List AObj → Prop} {E E' : Env} {H H' : List AObj} (hg : o.guard = none)
 (h : OpOk P N pin o E H E' H') (hr : wpA P N pin ops rest K E' H') : wpA P N pin ops (o :: rest) K E H := by
 intro πv γ ρ a w hst
 unfold wpList
 rw [if_pos (by simp [Region.wanted, hg])]
 left
 refine h πv γ ρ a w hst _ _ fun v w' γ' ρ' hst' hfr => ?_
 exact wpList_mono (fun e a2 w2 ⟨he, γ2, ρ2, E2, H2, hk, hs, hf⟩ => ⟨he, γ2, ρ2, E2, H2, hk, hs, hfr.trans hf⟩) _ _ _ (hr πv γ' ρ' _ w' hst')
theorem OpOk.quiet {o : Oper} {E : Env} {q : Prop} {x : AV} (hd : dstOk N o.dst = true) (h : quiet P E H o.op = some (q, x)) (hq : q) : OpOk P N pin o E H (E.put o.dst x) H := by
 intro πv γ ρ a w hst K' Q' hk
 obtain ⟨v, h1, h2⟩ := quiet_run hst.env hst.heap.obj h hq
 unfold Oper.wp
 rw [h1]
 exact hk v w γ ρ (hst.put hd h2 hst.env hst.heap (fun _ _ => rfl)) (Fr.refl _ _)
theorem OpOk.eff {o : Oper} {E E' : Env} {H' : List AObj} {q : Prop} {x : AV} (hd : dstOk N o.dst = true) (h : eff P pin E H o.op = some (q, E', H', x)) (hq : q) : OpOk P N pin o E H (E'.put o.dst x) H' := by
 intro πv γ ρ a w hst K' Q' hk
 obtain ⟨v, w', γ', ρ', h1, h2, h3, h4, h5, h6⟩ := eff_run hst h hq
 have hs := hst.put hd (v := v) h4 h2 h3 h6 h5.keep
 unfold Oper.wp
 rcases h1 with h1 | ⟨h1, rfl⟩
 ·rw [h1]; exact hk v w' γ' ρ' hs h5
 ·rw [h1]; exact hk undef w' γ' ρ' hs h5
def OpK (P : Program) (N : Nat) (pin : List Nat) (o : Oper) (K : Env → List AObj → Prop) (E : Env) (H : List AObj) : Prop :=
 ∀ πv γ ρ a w, St N pin πv γ ρ E H a w → ∀ (K' : Act → World → Prop) (Q' : Exit → Act → World → Prop),
  (∀ v w' γ' ρ' E' H', K E' H' → St N pin πv γ' ρ' E' H' (a.put o.dst v) w' → Fr γ w γ' w' → K' (a.put o.dst v) w') → o.wp P a w K' Q'
theorem OpOk.opK {o : Oper} {E E' : Env} {H H' : List AObj} {K : Env → List AObj → Prop} (h : OpOk P N pin o E H E' H') (hk : K E' H') : OpK P N pin o K E H :=
 fun πv γ ρ a w hst K' Q' hK => h πv γ ρ a w hst K' Q' fun v w' γ' ρ' hs hf => hK v w' γ' ρ' E' H' hk hs hf
theorem wpA_opK {ops : Array Oper} {o : Oper} {rest : List Oper} {K : Env → List AObj → Prop} {E : Env} {H : List AObj} (hg : o.guard = none)
 (h : OpK P N pin o (wpA P N pin ops rest K) E H) : wpA P N pin ops (o :: rest) K E H := by
 intro πv γ ρ a w hst
 unfold wpList
 rw [if_pos (by simp [Region.wanted, hg])]
 left
 refine h πv γ ρ a w hst _ _ fun v w' γ' ρ' E' H' hr hst' hfr => ?_
 exact wpList_mono (fun e a2 w2 ⟨he, γ2, ρ2, E2, H2, hk, hs, hf⟩ => ⟨he, γ2, ρ2, E2, H2, hk, hs, hfr.trans hf⟩) _ _ _ (hr πv γ' ρ' _ w' hst')
structure Grow (w w' : World) : Prop where
 os : w'.os = w.os
 tape : w'.tape = w.tape
 output : w'.output = w.output
 size : w.heap.size ≤ w'.heap.size
 keep : ∀ b, b < w.heap.size → w'.heap[b]? = w.heap[b]?
 drawn : w.drawn ≤ w'.drawn
theorem Grow.refl (w : World) : Grow w w := ⟨rfl, rfl, rfl, Nat.le_refl _, fun _ _ => rfl, Nat.le_refl _⟩
def Enters (P : Program) (f : FuncId) : Prop := ∀ args w, (callFunc f args).run P w = .ok (.enter f args) w
theorem Enters.of {f : FuncId} {fn : Func} (hf : P.funcs[f]? = some fn) (hn : (fn.name == "runtime.NumGoroutine") = false) (hb : fn.body.isNone = false) : Enters P f := by
 intro args w
 have h1 : ¬ fn.name = "runtime.NumGoroutine" := by simpa using hn
 have h2 : ¬ fn.body = none := by intro e; simp [e] at hb
 simp [callFunc, hf, h1, h2]
structure PureF (P : Program) (f : FuncId) (g : List Value → Option (Prop × Value)) : Prop where
 enters : Enters P f
 calls : ∀ vs q r, g vs = some (q, r) → q → ∀ w, Calls P f vs.toArray w fun e w' => e = .returned r ∧ Grow w w'
def plain : List AV → Option (List Value)
 | [] => some []
 | x :: l => match x, plain l with
   | .v y, some m => some (y :: m)
   | .agg m', some m => match valsOf m' with
     | some vs => some (.agg vs.toArray :: m)
     | none => none
   | _, _ => none
theorem plain_ok : ∀ {l : List AV} {vs us : List Value}, plain l = some vs → us.length = l.length → (∀ (j : Nat) (y : AV) (u : Value), l[j]? = some y → us[j]? = some u → rel ρ y u) → us = vs
 | [], vs, us, h, hl, _ => by simp [plain] at h; subst h; exact List.eq_nil_of_length_eq_zero hl
 | x :: l, vs, us, h, hl, hr => by
   match us, hl with
   | u :: us, hl =>
     have h0 := hr 0 x u rfl rfl
     have ht := fun m (hm : plain l = some m) => plain_ok hm (by simpa using hl) (fun j y u hy hu => hr (j + 1) y u (by simpa using hy) (by simpa using hu))
     unfold plain at h
     cases hm : plain l with
     | none => rw [hm] at h; cases x <;> simp at h
     | some m =>
       rw [hm] at h
       have h1 := ht m hm
       subst h1
       cases x with
       | v y => simp at h; subst h; rw [rel_v h0]
       | agg l' =>
         simp only at h
         cases hvs : valsOf l' with
         | none => rw [hvs] at h; cases h
         | some vs' =>
           rw [hvs] at h
           simp at h; subst h
           obtain ⟨cs, h1, h2⟩ := rel_agg h0
           rw [h1, valsOf_ok hvs h2]
       | _ => simp at h
def PTab (P : Program) (ft : FuncId → Option (List Value → Option (Prop × Value))) : Prop := ∀ f g, ft f = some g → PureF P f g
def calleeF (E : Env) : Callee → Option FuncId
 | .value x => match ev E x with
   | .v (.func (.func f) a b) => if a.size = 0 ∧ b.size = 0 then some f else none
   | _ => none
 | _ => none
def pcall (ft : FuncId → Option (List Value → Option (Prop × Value))) (E : Env) (op : Op) : Option (Prop × AV) :=
 match op with
 | .call c => match calleeF E c.callee with
   | some f => match ft f with
     | some g => match plain (c.args.toList.map (ev E)) with
       | some vs => (g vs).map fun r => (r.1, ofConst r.2)
       | none => none
     | none => none
   | none => none
 | _ => none
theorem run_call_enter {f : FuncId} {us : List Value} {a : Act} {c : Call} {dst : Option Tmp} {ty : TypeId} {pos : String} {after : Array Edge} {guard : Option (Nat × Bool)}
 (hen : Enters P f) (hc : c.callee = .value (.func f)) (hus : c.args.toList.map a.eval = us) :
 (execOp a.eval ⟨dst, .call c, ty, pos, after, guard⟩).run P w = .ok (.enter f us.toArray) w := by
 have e1 : c.args.map a.eval = us.toArray := by rw [← hus]; apply Array.ext'; simp
 simp [execOp, resolve, hc, e1, Act.eval, Deferred.ofValue, invoke, hen us.toArray w]
theorem run_call_enterF {E : Env} {f : FuncId} {us : List Value} {a : Act} {c : Call} {dst : Option Tmp} {ty : TypeId} {pos : String} {after : Array Edge} {guard : Option (Nat × Bool)} (hE : EnvOk ρ E a.tmps)
 (hen : Enters P f) (hc : calleeF E c.callee = some f) (hus : c.args.toList.map a.eval = us) :
 (execOp a.eval ⟨dst, .call c, ty, pos, after, guard⟩).run P w = .ok (.enter f us.toArray) w := by
 have e1 : c.args.map a.eval = us.toArray := by rw [← hus]; apply Array.ext'; simp
 unfold calleeF at hc
 split at hc
 ·rename_i x hcal
  split at hc
  ·rename_i f' x1 x2 hx
   split at hc
   ·rename_i hs
    simp only [Option.some.injEq] at hc
    subst hc
    have h1 := ev_rel hE x
    rw [hx] at h1
    have h2 : a.eval x = .func (.func f') x1 x2 := rel_v h1
    have h3 : x1 = #[] := Array.eq_empty_of_size_eq_zero hs.1
    have h4 : x2 = #[] := Array.eq_empty_of_size_eq_zero hs.2
    subst h3 h4
    simp [execOp, resolve, hcal, e1, h2, Deferred.ofValue, invoke, hen us.toArray w]
   ·cases hc
  ·cases hc
 ·cases hc
theorem OpOk.pcall {ft : FuncId → Option (List Value → Option (Prop × Value))} (hft : PTab P ft) {o : Oper} {E : Env} {q : Prop} {x : AV} (hd : dstOk N o.dst = true) (h : pcall ft E o.op = some (q, x)) (hq : q) :
 OpOk P N pin o E H (E.put o.dst x) H := by
 intro πv γ ρ a w hst K' Q' hk
 obtain ⟨dst, op, ty, pos, after, guard⟩ := o
 unfold Av.pcall at h
 split at h
 ·rename_i c hop
  simp only at hop
  subst hop
  split at h
  ·rename_i f hc
   split at h
   ·rename_i g hg
    split at h
    ·rename_i vs hvs
     cases hr : g vs with
     | none => rw [hr] at h; cases h
     | some r =>
       rw [hr] at h
       simp only [Option.map_some, Option.some.injEq, Prod.mk.injEq] at h
       obtain ⟨rfl, rfl⟩ := h
       have hP := hft f g hg
       have hev := evs_rel hst.env c.args.toList
       have hus := plain_ok hvs (by rw [hev.1]) (fun j y u hy hu => hev.2 j y u hy hu)
       unfold Oper.wp
       rw [run_call_enterF hst.env hP.enters hc hus]
       simp only [Oper.upon]
       refine (hP.calls vs r.1 r.2 (by rw [hr]) hq w).mono ?_
       rintro e w' ⟨rfl, hgr⟩
       exact hk _ w' γ ρ (hst.put hd (ofConst_rel ρ r.2) hst.env (hst.heap.grow hgr.keep hgr.size) (fun _ _ => rfl) (fun b hb hg => ⟨hgr.keep b hb, hg⟩)) ⟨hgr.os, hgr.tape, hgr.output, hgr.size, fun b hb hg => ⟨hgr.keep b hb, hg⟩, hgr.drawn⟩
    ·cases h
   ·cases h
  ·cases h
 ·cases h
def guardV (E : Env) (ops : Array Oper) (j : Nat) : Option (Nat × Bool) :=
 match ops[j]? with
 | some o => match o.dst with
   | some d => match E.lookup d with
     | some (.v (.bool b)) => some (d, b)
     | _ => none
   | none => none
 | none => none
def guardU (E : Env) (ops : Array Oper) (j : Nat) : Bool :=
 match ops[j]? with
 | some o => match o.dst with
   | some d => match E.lookup d with
     | some (.v (.tuple _)) => true
     | _ => false
   | none => false
 | none => false
def skipV : AV := .v (.tuple #[])
theorem guardU_spec {E : Env} {ops : Array Oper} {j : Nat} {tmps : Array Value} (hE : EnvOk ρ E tmps) (h : guardU E ops j = true) : yielded ops tmps j = none := by
 unfold guardU at h
 split at h
 ·rename_i o ho
  split at h
  ·rename_i d hd
   split at h
   ·rename_i l hl
    have hv := rel_v (hE _ _ hl)
    simp only [Array.getD_eq_getD_getElem?] at hv
    cases hx : tmps[d]? with
    | none => simp [yielded, ho, hd, hx]
    | some v => rw [hx] at hv; simp at hv; subst hv; simp [yielded, ho, hd, hx]
   ·cases h
  ·cases h
 ·cases h
section
variable (P N pin) (ft : FuncId → Option (List Value → Option (Prop × Value)))
def vcOp (o : Oper) (K : Env → List AObj → Prop) (leaf : Prop) (E : Env) (H : List AObj) : Prop :=
 match dstOk N o.dst with
 | true => match quiet P E H o.op with
   | some (q, x) => q ∧ K (E.put o.dst x) H
   | none => match eff P pin E H o.op with
     | some (q, E', H', x) => q ∧ K (E'.put o.dst x) H'
     | none => match pcall ft E o.op with
       | some (q, x) => q ∧ K (E.put o.dst x) H
       | none => leaf
 | false => leaf
def vcOps (ops : Array Oper) : List Oper → (Env → List AObj → Prop) → Env → List AObj → Prop
 | [], K, E, H => K E H
 | o :: rest, K, E, H => match o.guard with
   | none => vcOp P N pin ft o (vcOps ops rest K) (wpA P N pin ops (o :: rest) K E H) E H
   | some (j, want) => match guardV E ops j with
     | some (d, b) => (b = want → vcOp P N pin ft { o with guard := none } (vcOps ops rest K) (wpA P N pin ops (o :: rest) K ((d, .v (.bool want)) :: E) H) ((d, .v (.bool want)) :: E) H) ∧
      (b = !want → dstOk N o.dst = true ∧ vcOps ops rest K (Env.put ((d, .v (.bool !want)) :: E) o.dst skipV) H)
     | none => match guardU E ops j with
       | true => dstOk N o.dst = true ∧ vcOps ops rest K (Env.put E o.dst skipV) H
       | false => wpA P N pin ops (o :: rest) K E H
end
theorem vcOp_sound {ft : FuncId → Option (List Value → Option (Prop × Value))} (hft : PTab P ft) {o : Oper} {K : Env → List AObj → Prop} {leaf : Prop} {E : Env} {H : List AObj}
 (h : vcOp P N pin ft o K leaf E H) : leaf ∨ ∃ E' H', OpOk P N pin o E H E' H' ∧ K E' H' := by
 unfold vcOp at h
 split at h
 ·rename_i hd
  split at h
  ·rename_i q x hq; exact .inr ⟨_, _, OpOk.quiet hd hq h.1, h.2⟩
  ·split at h
   ·rename_i q E' H' x hq; exact .inr ⟨_, _, OpOk.eff hd hq h.1, h.2⟩
   ·split at h
    ·rename_i q x hq; exact .inr ⟨_, _, OpOk.pcall hft hd hq h.1, h.2⟩
    ·exact .inl h
 ·exact .inl h
theorem St.know {πv : Pv} {E : Env} {a : Act} (hst : St N pin πv γ ρ E H a w) {d : Nat} {b : Bool} (h : E.lookup d = some (.v (.bool b))) : a.tmps.getD d undef = .bool b ∧ St N pin πv γ ρ ((d, .v (.bool b)) :: E) H a w := by
 have hv := hst.env d _ h
 refine ⟨hv, hst.size, hst.defs, fun t x hx => ?_, hst.heap, hst.pins⟩
 simp only [List.lookup_cons] at hx
 by_cases hdt : t = d
 ·subst hdt; simp at hx; subst hx; exact hv
 ·have hne : (t == d) = false := by simpa using hdt
  rw [hne] at hx; exact hst.env t x hx
theorem OpOk.unguard {o : Oper} {E E' : Env} {H H' : List AObj} (h : OpOk P N pin { o with guard := none } E H E' H') : OpOk P N pin o E H E' H' := h
theorem vcOps_sound {ft : FuncId → Option (List Value → Option (Prop × Value))} (hft : PTab P ft) {ops : Array Oper} :
 ∀ {l : List Oper} {K : Env → List AObj → Prop} {E : Env} {H : List AObj}, vcOps P N pin ft ops l K E H → wpA P N pin ops l K E H
 | [], K, E, H, h => wpA_nil h
 | o :: rest, K, E, H, h => by
   unfold vcOps at h
   split at h
   ·rename_i hg
    rcases vcOp_sound hft h with h | ⟨E', H', h1, h2⟩
    ·exact h
    ·exact wpA_op hg h1 (vcOps_sound hft h2)
   ·rename_i j want hg
    split at h
    ·rename_i d b hgv
     unfold guardV at hgv
     split at hgv
     ·rename_i oj hoj
      split at hgv
      ·rename_i d' hd'
       split at hgv
       ·rename_i b' hb'
        simp at hgv
        obtain ⟨rfl, rfl⟩ := hgv
        intro πv γ ρ a w hst
        have hk := hst.know hb'
        have hy : yielded ops a.tmps j = some b' := by
         have := hk.1
         simp only [Array.getD_eq_getD_getElem?] at this
         cases hx : a.tmps[d']? with
         | none => rw [hx] at this; simp [undef] at this
         | some v => rw [hx] at this; simp at this; subst this; simp [yielded, hoj, hd', hx]
        unfold wpList
        by_cases hb : b' = want
        ·subst hb
         rw [if_pos (by simp [Region.wanted, hg, hy])]
         rcases vcOp_sound hft (h.1 rfl) with h | ⟨E', H', h1, h2⟩
         ·have := h πv γ ρ a w hk.2
          unfold wpList at this
          rw [if_pos (by simp [Region.wanted, hg, hy])] at this
          exact this
         ·left
          refine h1.unguard πv γ ρ a w hk.2 _ _ fun v w' γ' ρ' hst' hfr => ?_
          exact wpList_mono (fun e a2 w2 ⟨he, γ2, ρ2, E2, H2, hk, hs, hf⟩ => ⟨he, γ2, ρ2, E2, H2, hk, hs, hfr.trans hf⟩) _ _ _ (vcOps_sound hft h2 πv γ' ρ' _ w' hst')
        ·have hb2 : b' = !want := by cases b' <;> cases want <;> simp_all
         rw [if_neg (by simp [Region.wanted, hg, hy, hb])]
         obtain ⟨h1, h2⟩ := h.2 hb2
         subst hb2
         exact vcOps_sound hft h2 πv γ ρ _ w (hk.2.put h1 (x := skipV) (v := undef) rfl hk.2.env hk.2.heap (fun _ _ => rfl))
       ·cases hgv
      ·cases hgv
     ·cases hgv
    ·split at h
     ·rename_i hu
      obtain ⟨h1, h2⟩ := h
      intro πv γ ρ a w hst
      have hy := guardU_spec hst.env hu
      unfold wpList
      rw [if_neg (by simp [Region.wanted, hg, hy])]
      exact vcOps_sound hft h2 πv γ ρ _ w (hst.put h1 (x := skipV) (v := undef) rfl hst.env hst.heap (fun _ _ => rfl))
     ·exact h
end Go.Av
