import Derived.Test.YteoedigfnfjopaaGreatAvE
import Derived.MapKept
set_option linter.unusedSimpArgs false
set_option linter.unusedVariables false
namespace Go.Av
open Go
variable {P : Program} {γ : Nat → Option Nat} {ρ : List Value} {H : List AObj} {w : World}
theorem str_get {s : ByteArray} {n : Nat} (h : n < s.size) : s[n]? = some (s.data.toList.getD n 0) := by
 have h' : n < s.data.size := h
 rw [getElem?_pos s n h]
 simp only [Array.getElem?_toList, List.getD_eq_getElem?_getD, Array.getElem?_eq_getElem h', Option.getD_some]
 rfl
theorem builtinQ_run (hH : Rd γ ρ H w) {b : Builtin} {args : List AV} {us : List Value} {tys : Array TypeId} {ty : TypeId} {cs : Array Bool} {q : Prop} {x : AV}
 (h : builtinQ P H b args (tys[0]?) = some (q, x)) (_hq : q) (hu : us.length = args.length ∧ ∀ (j : Nat) (y : AV) (u : Value), args[j]? = some y → us[j]? = some u → rel ρ y u) :
 ∃ v, (builtin b tys ty cs us.toArray).run P w = .ok (.value v) w ∧ rel ρ x v := by
 cases b <;> simp only [builtinQ] at h <;> first | (cases h; done) | skip
 case len =>
  split at h
  ·rename_i y
   obtain ⟨u, rfl⟩ : ∃ u, us = [u] := by
    obtain ⟨hl, _⟩ := hu
    match us, hl with
    | [u], _ => exact ⟨u, rfl⟩
   have h1 := hu.2 0 y u rfl rfl
   cases hT : tys[0]? with
   | none => rw [hT] at h; simp at h
   | some T =>
     rw [hT] at h
     simp only [Option.bind_some] at h
     split at h
     ·rename_i e o hd
      cases hc : rdI H o with
      | none => rw [hc] at h; cases h
      | some c =>
        rw [hc] at h
        simp only [Option.map_some, Option.some.injEq, Prod.mk.injEq] at h
        obtain ⟨_, rfl⟩ := h
        obtain ⟨ad, cap, h2, h3⟩ := rdI_slice hH hc
        have h4 := rel_sl h1
        rw [h2] at h4
        simp at h4
        refine ⟨_, ?_, rfl⟩
        simp [builtin, Builtin.len_, hT, run_under hd, ← h4, goInt]
     ·rename_i e hd
      have h1 := rel_v h1
      simp only [Option.some.injEq, Prod.mk.injEq] at h
      obtain ⟨_, rfl⟩ := h
      refine ⟨_, ?_, rfl⟩
      simp [builtin, Builtin.len_, hT, run_under hd, h1, goInt]
     ·rename_i s hd
      have h1 := rel_v h1
      simp only [Option.some.injEq, Prod.mk.injEq] at h
      obtain ⟨_, rfl⟩ := h
      refine ⟨_, ?_, rfl⟩
      simp [builtin, Builtin.len_, hT, run_under hd, h1, goInt]
     ·cases h
  ·cases h
 case max =>
  split at h
  ·rename_i k b k' c
   obtain ⟨u, v, rfl⟩ : ∃ u v, us = [u, v] := by
    obtain ⟨hl, _⟩ := hu
    match us, hl with
    | [u, v], _ => exact ⟨u, v, rfl⟩
   have h1 := rel_v (hu.2 0 _ u rfl rfl)
   have h2 := rel_v (hu.2 1 _ v rfl rfl)
   subst h1 h2
   simp only [Option.some.injEq, Prod.mk.injEq] at h
   obtain ⟨_, rfl⟩ := h
   refine ⟨_, ?_, rfl⟩
   have : (if c > b then c else b) = max b c := by rw [Int.max_def]; split <;> split <;> omega
   simp [builtin, run_max_int2, this]
  ·cases h
 case min =>
  split at h
  ·rename_i k b k' c
   obtain ⟨u, v, rfl⟩ : ∃ u v, us = [u, v] := by
    obtain ⟨hl, _⟩ := hu
    match us, hl with
    | [u, v], _ => exact ⟨u, v, rfl⟩
   have h1 := rel_v (hu.2 0 _ u rfl rfl)
   have h2 := rel_v (hu.2 1 _ v rfl rfl)
   subst h1 h2
   simp only [Option.some.injEq, Prod.mk.injEq] at h
   obtain ⟨_, rfl⟩ := h
   refine ⟨_, ?_, rfl⟩
   have : (if c < b then c else b) = min b c := by rw [Int.min_def]; split <;> split <;> omega
   simp [builtin, run_min_int2, this]
  ·cases h
theorem evs_rel {E : Env} {a : Act} (hE : EnvOk ρ E a.tmps) (l : List Operand) :
 (l.map a.eval).length = (l.map (ev E)).length ∧ ∀ (j : Nat) (y : AV) (u : Value), (l.map (ev E))[j]? = some y → (l.map a.eval)[j]? = some u → rel ρ y u := by
 refine ⟨by simp, fun j y u hy hu => ?_⟩
 rw [List.getElem?_map] at hy hu
 cases hx : l[j]? with
 | none => rw [hx] at hy; cases hy
 | some z => rw [hx] at hy hu; simp at hy hu; subst hy hu; exact ev_rel hE z
theorem callQ_run {E : Env} {a : Act} (hE : EnvOk ρ E a.tmps) (hH : Rd γ ρ H w) {c : Call} {dst : Option Tmp} {ty : TypeId} {pos : String} {after : Array Edge} {guard : Option (Nat × Bool)}
 {q : Prop} {x : AV} (h : callQ P E H c = some (q, x)) (hq : q) : ∃ v, (execOp a.eval ⟨dst, .call c, ty, pos, after, guard⟩).run P w = .ok (.value v) w ∧ rel ρ x v := by
 unfold callQ at h
 split at h
 ·rename_i b hb
  have e1 : c.args.map a.eval = (c.args.toList.map a.eval).toArray := by apply Array.ext'; simp
  simp [execOp, resolve, hb, invoke, e1]
  exact builtinQ_run hH h hq (evs_rel hE c.args.toList)
 ·cases h
theorem eqAgg_run {l m : List AV} {cs ds : List Value} (hl : Rel1s ρ l cs) (hm : Rel1s ρ m ds) : ∀ {fs : List Field} {r : Bool}, (∀ f ∈ fs, f.name ≠ "_") → eqAgg P fs l m = some r →
 (Op.eqFields 9999 cs.toArray ds.toArray fs).run P w = .ok r w
 | [], r, _, h => by simp [eqAgg] at h; subst h; rfl
 | f :: fs, r, hn, h => by
   unfold eqAgg at h
   split at h
   ·rename_i k0 k a k' b hu h1 h2
    split at h
    ·rename_i hk
     subst hk
     cases hr : eqAgg P fs l m with
     | none => rw [hr] at h; cases h
     | some r' =>
       rw [hr] at h
       simp at h
       subst h
       obtain ⟨v1, h3, h4⟩ := run_partAV (w := w) h1 hl
       obtain ⟨v2, h5, h6⟩ := run_partAV (w := w) h2 hm
       have h4 := rel_v h4
       have h6 := rel_v h6
       subst h4 h6
       have ih := eqAgg_run hl hm (fun f hf => hn f (List.mem_cons_of_mem _ hf)) hr
       unfold Op.eqFields
       rw [if_pos (hn f (List.mem_cons_self ..))]
       have he := run_equalIn_int (P := P) w 9998 f.type k k0 a b hu
       simp only [Sem.run_bind, h3, h5, Result.andThen_ok, he]
       cases hab : (a == b)
       ·simp
       ·simpa using ih
    ·cases h
   ·cases h
theorem eqAggV_run {op : BinOp} {T : TypeId} {x y : Operand} {l m : List AV} {cs ds : List Value} {r : Bool} (h : eqAggV P op T l m = some r) (hl : Rel1s ρ l cs) (hm : Rel1s ρ m ds) :
 (do eqGuard op T x y (.agg cs.toArray) (.agg ds.toArray); binOp op T (.agg cs.toArray) (.agg ds.toArray) : Sem Value).run P w = .ok (.bool r) w := by
 unfold eqAggV at h
 split at h
 ·rename_i hp
  simp only [plainEq, Bool.and_eq_true, Bool.not_eq_true'] at hp
  obtain ⟨⟨hg, hs⟩, hn⟩ := hp
  split at h
  ·rename_i fs hu
   rw [hu] at hn
   have hn' : ∀ f ∈ fs.toList, f.name ≠ "_" := fun f hf => by simpa using List.all_eq_true.1 hn f hf
   have hS : P.underlying T = some (.struct (P.fieldsOf T)) := by simp [Program.fieldsOf, hu]
   have hF : P.fieldsOf T = fs := by simp [Program.fieldsOf, hu]
   split at h
   ·have := eqAgg_run (w := w) hl hm hn' h
    simp only [Sem.run_bind, run_eqGuard_agg w _ T x y _ _ hg, Result.andThen_ok, run_eql_struct, run_equalIn_agg w 9999 T _ _ hS hs, hF, this]
   ·cases hr : eqAgg P fs.toList l m with
    | none => rw [hr] at h; cases h
    | some r' =>
      rw [hr] at h
      simp at h
      subst h
      have := eqAgg_run (w := w) hl hm hn' hr
      simp only [Sem.run_bind, run_eqGuard_agg w _ T x y _ _ hg, Result.andThen_ok, run_neq_struct, run_equalIn_agg w 9999 T _ _ hS hs, hF, this, Bool.not_not]
   ·cases h
  ·cases h
 ·cases h
theorem getI_none {m : List (Int × Int)} {k : Int} (h : ∀ x ∈ m, x.1 ≠ k) : getI m k = 0 := by
 have : m.find? (fun x => x.1 == k) = none := List.find?_eq_none.2 fun x hx => by simpa using h x hx
 simp [getI, this]
theorem getI_at {m : List (Int × Int)} (hn : (m.map (·.1)).Nodup) {j : Nat} {x : Int × Int} (h : m[j]? = some x) : getI m x.1 = x.2 := by
 induction m generalizing j with
 | nil => simp at h
 | cons y m ih =>
   simp only [List.map_cons, List.nodup_cons] at hn
   cases j with
   | zero => simp at h; subst h; simp [getI]
   | succ j =>
     simp only [List.getElem?_cons_succ] at h
     have hne : (y.1 == x.1) = false := by
      simp only [beq_eq_false_iff_ne]
      intro e
      exact hn.1 (e ▸ List.mem_map_of_mem (List.mem_of_getElem? h))
     have := ih hn.2 h
     simp only [getI, List.find?_cons, hne] at this ⊢
     exact this
theorem lookupI_run (hH : Rd γ ρ H w) {T : TypeId} {x i : AV} {ok : Bool} {q : Prop} {y : AV} {u ui : Value} (h : lookupI P H T x i ok = some (q, y)) (hu : rel ρ x u) (hui : rel ρ i ui) :
 ∃ v, (Instr.lookup T u ui ok).run P w = .ok v w ∧ rel ρ y v := by
 unfold lookupI at h
 split at h
 ·rename_i kt et o k hT
  split at h
  ·rename_i m hkt hz ho
   split at h
   ·cases h
   rename_i hok
   simp only [Option.some.injEq, Prod.mk.injEq] at h
   obtain ⟨_, rfl⟩ := h
   obtain rfl := rel_v hui
   have hok' : ok = false := by simpa using hok
   subst hok'
   obtain ⟨u1, h1, ⟨r, es, clock, rfl, e2, e3, e4, e5, e6⟩⟩ := hH _ _ ho
   have hmv := rel_sl hu
   rw [h1] at hmv
   obtain rfl := Option.some.inj hmv
   have hat : ∀ {i : Nat} {e : MapEntry}, es[i]? = some e → ∃ x, m[i]? = some x ∧ e.key = .int .i64 x.1 ∧ e.val = .int .i64 x.2 := fun {i e} hi => by
    have hil : i < m.length := by rw [← e4]; exact (Array.getElem?_eq_some_iff.1 hi).1
    exact ⟨m[i], List.getElem?_eq_getElem hil, e6 i e _ hi (List.getElem?_eq_getElem hil)⟩
   have hks : ∀ x ∈ es.toList, Go.MapKept.IsKey (.int .i64) x.key := fun x hx => by
    obtain ⟨i, hi⟩ := List.mem_iff_getElem?.1 hx
    obtain ⟨y, _, hy, _⟩ := hat (i := i) (e := x) (by simpa using hi)
    rw [hy]; simp [Go.MapKept.IsKey]
   have hkk : Go.MapKept.IsKey (.int .i64) (.int .i64 k) := by simp [Go.MapKept.IsKey]
   rcases Go.MapKept.findNow_spec hkk es.toList 0 hks with ⟨f1, f2⟩ | ⟨j, e, f1, f2, f3⟩
   ·have hno : ∀ x ∈ m, x.1 ≠ k := fun x hx he => by
     obtain ⟨i, hi⟩ := List.mem_iff_getElem?.1 hx
     have hil : i < es.size := by rw [e4]; exact (List.getElem?_eq_some_iff.1 hi).1
     have := (e6 i es[i] x (Array.getElem?_eq_getElem hil) hi).1
     rw [he] at this
     exact f2 es[i] (by simp) this
    refine ⟨.int .i64 0, ?_, by rw [getI_none hno]; rfl⟩
    simp [Instr.lookup, run_under hT, Go.MapKept.run_getObj_map e3, Go.MapKept.run_checkKey hkt hkk, Go.MapKept.run_findKey hkt f1, run_tzero hz, Result.andThen]
   ·have hj : es[j]? = some e := by simpa using f2
    obtain ⟨y1, hy1, hy2, hy3⟩ := hat hj
    have hyk : y1.1 = k := by rw [f3] at hy2; exact (Value.int.inj hy2).2.symm
    refine ⟨e.val, ?_, by rw [hy3, ← hyk, getI_at e5 hy1]; rfl⟩
    simp [Instr.lookup, run_under hT, Go.MapKept.run_getObj_map e3, Go.MapKept.run_checkKey hkt hkk, Go.MapKept.run_findKey hkt f1, run_tzero hz, hj, Result.andThen]
  ·cases h
 ·cases h
theorem lookupQ_run (hH : Rd γ ρ H w) {T : TypeId} {x i : AV} {ok : Bool} {q : Prop} {y : AV} {u ui : Value} (h : lookupQ P H T x i ok = some (q, y)) (hq : q) (hu : rel ρ x u) (hui : rel ρ i ui) :
 ∃ v, (Instr.lookup T u ui ok).run P w = .ok v w ∧ rel ρ y v := by
 unfold lookupQ at h
 split at h
 ·rename_i kt et o k' hT
  split at h
  ·rename_i m k p hkt hz ho
   split at h
   ·cases h
   rename_i hok
   simp only [Option.some.injEq, Prod.mk.injEq] at h
   obtain ⟨rfl, rfl⟩ := h
   obtain rfl : k' = k := hq
   obtain rfl := rel_v hui
   have hok' : ok = false := by simpa using hok
   subst hok'
   obtain ⟨u1, h1, ⟨r, es, clock, lab, rfl, e2, e3, e4, e5, e6⟩, hlk⟩ := hH _ _ ho
   have hmv := rel_sl hu
   rw [h1] at hmv
   obtain rfl := Option.some.inj hmv
   obtain ⟨v, v1, v2, r', es', c', v3, v4, v5⟩ := hlk _ _ rfl rfl
   obtain rfl := Value.map.inj v3 |> Option.some.inj
   rw [e3] at v4
   obtain ⟨rfl, rfl⟩ : es = es' ∧ clock = c' := by simpa using v4
   have hat : ∀ {i : Nat} {e : MapEntry}, es[i]? = some e → ∃ x, m[i]? = some x ∧ e.key = .int .i64 x.1 := fun {i e} hi => by
    have hil : i < m.length := by rw [← e4]; exact (Array.getElem?_eq_some_iff.1 hi).1
    exact ⟨m[i], List.getElem?_eq_getElem hil, (e6 i e _ hi (List.getElem?_eq_getElem hil)).1⟩
   have hks : ∀ x ∈ es.toList, Go.MapKept.IsKey (.int .i64) x.key := fun x hx => by
    obtain ⟨i, hi⟩ := List.mem_iff_getElem?.1 hx
    obtain ⟨y, _, hy⟩ := hat (i := i) (e := x) (by simpa using hi)
    rw [hy]; simp [Go.MapKept.IsKey]
   have hkk : Go.MapKept.IsKey (.int .i64) (.int .i64 k') := by simp [Go.MapKept.IsKey]
   refine ⟨v, ?_, v1, v2⟩
   rcases Go.MapKept.findNow_spec hkk es.toList 0 hks with ⟨f1, f2⟩ | ⟨j, e, f1, f2, f3⟩
   ·have hv0 : v = .slice none 0 0 := by
     rcases v5 with ⟨i, e, g1, g2, g3⟩ | ⟨_, g2⟩
     ·exact absurd g2 (f2 e (List.mem_of_getElem? (by simpa using g1 : es.toList[i]? = some e)))
     ·exact g2
    subst hv0
    simp [Instr.lookup, run_under hT, Go.MapKept.run_getObj_map e3, Go.MapKept.run_checkKey hkt hkk, Go.MapKept.run_findKey hkt f1, run_tzero hz, Result.andThen]
   ·have hj : es[j]? = some e := by simpa using f2
    have hv0 : v = e.val := by
     rcases v5 with ⟨i, e', g1, g2, g3⟩ | ⟨g1, _⟩
     ·obtain ⟨y1, hy1, hy2⟩ := hat hj
      obtain ⟨y2, hy3, hy4⟩ := hat g1
      have hij : i = j := by
       have hk1 : y1.1 = y2.1 := by
        rw [f3] at hy2
        rw [g2] at hy4
        exact ((Value.int.inj hy2).2.symm.trans (Value.int.inj hy4).2)
       have hi' : (m.map (·.1))[j]? = some y1.1 := by rw [List.getElem?_map, hy1]; rfl
       have hj' : (m.map (·.1))[i]? = some y2.1 := by rw [List.getElem?_map, hy3]; rfl
       obtain ⟨hil, hie⟩ := List.getElem?_eq_some_iff.1 hi'
       obtain ⟨hjl, hje⟩ := List.getElem?_eq_some_iff.1 hj'
       rcases Nat.lt_trichotomy i j with h | h | h
       ·have := List.pairwise_iff_getElem.1 (List.nodup_iff_pairwise_ne.1 e5) i j hjl hil h
        rw [hie, hje] at this; exact absurd hk1.symm this
       ·exact h
       ·have := List.pairwise_iff_getElem.1 (List.nodup_iff_pairwise_ne.1 e5) j i hil hjl h
        rw [hie, hje] at this; exact absurd hk1 this
      subst hij
      rw [hj] at g1
      obtain rfl := Option.some.inj g1
      exact g3.symm
     ·exact absurd f3 (g1 j e hj)
    subst hv0
    simp [Instr.lookup, run_under hT, Go.MapKept.run_getObj_map e3, Go.MapKept.run_checkKey hkt hkk, Go.MapKept.run_findKey hkt f1, Result.andThen]
  ·cases h
 ·cases h
theorem plainVs_ok : ∀ {l : List AV} {vs cs : List Value}, plainVs l = some vs → Rel1s ρ l cs → cs = vs
 | [], vs, cs, h, hr => by simp [plainVs] at h; subst h; exact List.eq_nil_of_length_eq_zero hr.1
 | x :: l, vs, cs, h, hr => by
   cases x <;> simp only [plainVs] at h
   case v x =>
    cases hv : plainVs l with
    | none => rw [hv] at h; cases h
    | some r =>
      rw [hv] at h
      simp at h; subst h
      match cs, hr with
      | [], hr => exact absurd hr.1 (by simp)
      | c :: cs, hr =>
        have h0 := hr.2 0 _ c rfl rfl
        have ih := plainVs_ok hv (cs := cs) ⟨by have := hr.1; simpa using this, fun j x u hx hu => hr.2 (j + 1) x u (by simpa using hx) (by simpa using hu)⟩
        rw [ih, h0.1]
   all_goals cases h
theorem quiet_run {E : Env} {a : Act} (hE : EnvOk ρ E a.tmps) (hH : Rd γ ρ H w) {o : Oper} {q : Prop} {x : AV} (h : quiet P E H o.op = some (q, x)) (hq : q) :
 ∃ v, (execOp a.eval o).run P w = .ok (.value v) w ∧ rel ρ x v := by
 have E0 : ∀ y, rel ρ (ev E y) (a.eval y) := ev_rel hE
 obtain ⟨dst, op, ty, pos, after, guard⟩ := o
 simp only at h
 cases op <;> simp only [quiet] at h
 case move y => simp only [Option.some.injEq, Prod.mk.injEq] at h; obtain ⟨_, rfl⟩ := h; exact ⟨_, rfl, E0 y⟩
 case assign y => simp only [Option.some.injEq, Prod.mk.injEq] at h; obtain ⟨_, rfl⟩ := h; exact ⟨_, rfl, E0 y⟩
 case pick c y z =>
  split at h
  ·rename_i b hb
   simp only [Option.some.injEq, Prod.mk.injEq] at h
   obtain ⟨_, rfl⟩ := h
   have hc := E0 c
   rw [hb] at hc
   have hc := rel_v hc
   refine ⟨if b then a.eval y else a.eval z, ?_, ?_⟩
   ·simp [execOp, hc, asBool]
   ·cases b
    ·exact E0 z
    ·exact E0 y
  ·cases h
 case binOp op T y z U =>
  cases hqc : quoC op z (ev E y) with
  | some r =>
    rw [hqc] at h
    simp only [Option.some.injEq] at h
    subst h
    unfold quoC at hqc
    split at hqc
    rotate_left
    ·cases hqc
    split at hqc
    rotate_left
    ·cases hqc
    rename_i k b
    split at hqc
    rotate_left
    ·cases hqc
    rename_i h2
    split at hqc
    rotate_left
    ·cases hqc
    rename_i k' a' hy
    split at hqc
    rotate_left
    ·cases hqc
    rename_i hk
    subst hk
    simp only [Option.some.injEq, Prod.mk.injEq] at hqc
    obtain ⟨rfl, rfl⟩ := hqc
    have hb2 : b = 2 := by simpa [isTwo] using h2
    subst hb2
    have h1 := E0 y; rw [hy] at h1; have h1 := rel_v h1
    have := run_half (P := P) (w := w) (T := T) (ox := y) (oy := .const (.int k 2)) (k := k) (a := a') hq
    refine ⟨_, ?_, rfl⟩
    have h3 : a.eval (.const (.int k 2)) = .int k 2 := rfl
    simp only [execOp, h1, h3]
    simp at this ⊢
    cases hg : Sem.run P (eqGuard .quo T y (.const (.int k 2)) (.int k a') (.int k 2)) w <;> rw [hg] at this <;> simp at this ⊢
    rename_i u w'
    cases hb : Sem.run P (Go.binOp .quo T (.int k a') (.int k 2)) w' <;> rw [hb] at this <;> simp at this ⊢
    exact this
  | none =>
  rw [hqc] at h
  simp only at h
  split at h
  ·rename_i b c hb hc
   cases hv : binV P op T b c with
   | none => rw [hv] at h; cases h
   | some r =>
     rw [hv] at h
     simp only [Option.map_some, Option.some.injEq, Prod.mk.injEq] at h
     obtain ⟨rfl, rfl⟩ := h
     have h1 := E0 y; rw [hb] at h1; have h1 := rel_v h1
     have h2 := E0 z; rw [hc] at h2; have h2 := rel_v h2
     have := binV_run (w := w) (ox := y) (oy := z) (p := r.1) (v := r.2) (by rw [hv]) hq
     refine ⟨r.2, ?_, rfl⟩
     simp only [execOp, h1, h2]
     simp at this ⊢
     cases hg : Sem.run P (eqGuard op T y z b c) w <;> rw [hg] at this <;> simp at this ⊢
     rename_i u w'
     cases hb : Sem.run P (Go.binOp op T b c) w' <;> rw [hb] at this <;> simp at this ⊢
     exact this
  ·rename_i l m hb hc
   cases hv : eqAggV P op T l m with
   | none => rw [hv] at h; cases h
   | some r =>
     rw [hv] at h
     simp only [Option.map_some, Option.some.injEq, Prod.mk.injEq] at h
     obtain ⟨rfl, rfl⟩ := h
     have h1 := E0 y; rw [hb] at h1; obtain ⟨cs, h1, hcs⟩ := rel_agg h1
     have h2 := E0 z; rw [hc] at h2; obtain ⟨ds, h2, hds⟩ := rel_agg h2
     have := eqAggV_run (w := w) (x := y) (y := z) hv hcs hds
     refine ⟨.bool r, ?_, rfl⟩
     simp only [execOp, h1, h2]
     simp at this ⊢
     cases hg : Sem.run P (eqGuard op T y z (.agg cs.toArray) (.agg ds.toArray)) w <;> rw [hg] at this <;> simp at this ⊢
     rename_i u w'
     cases hg2 : Sem.run P (binOp op T (.agg cs.toArray) (.agg ds.toArray)) w' <;> rw [hg2] at this <;> simp at this ⊢
     exact this
  ·cases h
 case unOp op T y =>
  split at h
  ·rename_i b hb
   cases hv : unV op b with
   | none => rw [hv] at h; cases h
   | some r =>
     rw [hv] at h
     simp only [Option.map_some, Option.some.injEq, Prod.mk.injEq] at h
     obtain ⟨rfl, rfl⟩ := h
     have h1 := E0 y; rw [hb] at h1; have h1 := rel_v h1
     have := unV_run (P := P) (w := w) (p := r.1) (v := r.2) (by rw [hv]) hq
     refine ⟨r.2, ?_, rfl⟩
     simp only [execOp, h1]
     simp [this]
  ·cases h
 case convert s d y =>
  split at h
  ·rename_i b hb
   cases hv : convV P s d b with
   | none => rw [hv] at h; cases h
   | some r =>
     rw [hv] at h
     simp only [Option.map_some, Option.some.injEq, Prod.mk.injEq] at h
     obtain ⟨rfl, rfl⟩ := h
     have h1 := E0 y; rw [hb] at h1; have h1 := rel_v h1
     have := convV_run (w := w) (p := r.1) (v := r.2) (by rw [hv]) hq
     refine ⟨r.2, ?_, rfl⟩
     simp only [execOp, h1]
     simp [this]
  ·rename_i o hb
   have h1 := E0 y; rw [hb] at h1; have h1 := rel_sl h1
   unfold strQ at h
   split at h
   ·rename_i e xs hs hd hr
    split at h
    ·rename_i he
     simp only [Option.some.injEq, Prod.mk.injEq] at h
     obtain ⟨_, rfl⟩ := h
     obtain ⟨ad, cap, h2, _⟩ := rd_slice hH hr
     rw [h1] at h2
     have h2 := Option.some.inj h2
     refine ⟨.string (strOfNums xs), ?_, rfl⟩
     have key : (convert s d (a.eval y)).run P w = .ok (.string (strOfNums xs)) w := by
      rw [h2]
      cases xs with
      | nil =>
        have e0 : strOfNums [] = ByteArray.empty := rfl
        rw [e0]
        cases ad with
        | none => exact run_convert_bytes_nil w s e hs he _ _ d hd
        | some ad =>
          rw [run_convert_bytes_string w s d e _ _ _ hs he hd]
          simp [Conv.bytesToString, Cont.len, loadCells, loadCellsFrom]
      | cons x xs =>
        obtain ⟨b, off, cap', h3, h4⟩ := rd_cell hH hr (i := 0) (by simp [Cont.len])
        rw [h1] at h3
        have h3 := Option.some.inj h3
        rw [h2] at h3
        rw [h3]
        refine run_convert_bytes_arg w s e hs he b off _ _ (x :: xs) rfl (fun i hi => ?_) d hd
        obtain ⟨b', off', cap'', h5, h6⟩ := rd_cell hH hr (i := i) hi
        rw [h1] at h5
        have h5 := Option.some.inj h5
        rw [h2, h3] at h5
        simp only [Value.slice.injEq, Option.some.injEq, Addr.mk.injEq] at h5
        obtain ⟨⟨rfl, rfl, _⟩, _, _⟩ := h5
        have := (h6 0 _ rfl).1
        simpa [Cont.esz] using this
     simp only [execOp]
     simp [key]
    ·cases h
   ·cases h
  ·cases h
 case load T y =>
  obtain ⟨v, h1, h2⟩ := loadQ_run hH h hq (E0 y)
  exact ⟨v, by simp [execOp, h1], h2⟩
 case nilCheck y =>
  have h1 := E0 y
  split at h
  ·rename_i o off hb
   simp only [Option.some.injEq, Prod.mk.injEq] at h
   obtain ⟨_, rfl⟩ := h
   rw [hb] at h1
   obtain ⟨b, h2, h3⟩ := rel_pp h1
   exact ⟨a.eval y, by simp [execOp, h3], h1⟩
  ·rename_i o i e f hb
   simp only [Option.some.injEq, Prod.mk.injEq] at h
   obtain ⟨_, rfl⟩ := h
   rw [hb] at h1
   obtain ⟨b, ofs, n, cap, h2, h3⟩ := rel_ep h1
   exact ⟨a.eval y, by simp [execOp, h3], h1⟩
  ·rename_i t u hb
   simp only [Option.some.injEq, Prod.mk.injEq] at h
   obtain ⟨_, rfl⟩ := h
   rw [hb] at h1
   have h3 : a.eval y = .iface t u := rel_v h1
   exact ⟨a.eval y, by simp [execOp, h3], h1⟩
  ·cases h
 case fieldAddr T y f =>
  split at h
  ·rename_i n hn
   cases ha : addrAdd (ev E y) n with
   | none => rw [ha] at h; cases h
   | some p =>
     rw [ha] at h
     simp only [Option.map_some, Option.some.injEq, Prod.mk.injEq] at h
     obtain ⟨_, rfl⟩ := h
     obtain ⟨v, h1, h2⟩ := fieldOff_run (w := w) hn ha (E0 y)
     exact ⟨v, by simp [execOp, h1], h2⟩
  ·cases h
 case field T y f =>
  split at h
  ·rename_i fs l hd hl
   cases hf : fs[f]? with
   | none => rw [hf] at h; cases h
   | some fd =>
     rw [hf] at h
     simp only at h
     cases hp : partAV P fd.type l fd.offset with
     | none => rw [hp] at h; cases h
     | some p =>
       rw [hp] at h
       simp only [Option.map_some, Option.some.injEq, Prod.mk.injEq] at h
       obtain ⟨_, rfl⟩ := h
       have h1 := E0 y
       rw [hl] at h1
       obtain ⟨cs, h2, h3⟩ := rel_agg h1
       obtain ⟨v, h4, h5⟩ := run_partAV (w := w) hp h3
       exact ⟨v, by simp [execOp, Instr.field, run_under hd, hf, h2, asAgg, h4], h5⟩
  ·cases h
 case indexAddr T y i =>
  obtain ⟨v, h1, h2⟩ := indexQ_run hH h hq (E0 y) (E0 i)
  exact ⟨v, by simp [execOp, h1], h2⟩
 case index T y i =>
  split at h
  ·rename_i s k n hd hs hn
   simp only [Option.some.injEq, Prod.mk.injEq] at h
   obtain ⟨rfl, rfl⟩ := h
   have h1 := E0 y; rw [hs] at h1; have h1 := rel_v h1
   have h2 := E0 i; rw [hn] at h2; have h2 := rel_v h2
   have hlt : n.toNat < s.size := by omega
   refine ⟨_, ?_, rfl⟩
   simp [execOp, Instr.index, h1, h2, asIntOf, run_under hd, hq.1, str_get hlt]
  ·rename_i len e z k n hd hs hn
   split at h
   ·rename_i xs kd ha ht hde
    simp only [Option.some.injEq, Prod.mk.injEq] at h
    obtain ⟨rfl, rfl⟩ := h
    obtain rfl := arrD_eq ha
    have h1 := E0 y; rw [hs] at h1; have h1 := rel_v h1
    have h2 := E0 i; rw [hn] at h2; have h2 := rel_v h2
    have hlt : n.toNat < xs.length := by omega
    refine ⟨_, ?_, rfl⟩
    simp [execOp, Instr.index, h1, h2, asIntOf, run_under hd, hq.1, hq.2.1, arrV, part, run_isAgg hde, isAggD, run_tsz ht, hlt]
   ·cases h
  ·cases h
 case extract t i =>
  split at h
  ·rename_i l hl
   cases hx : l[i]? with
   | none => rw [hx] at h; cases h
   | some y =>
     rw [hx] at h
     simp only [Option.map_some, Option.some.injEq, Prod.mk.injEq] at h
     obtain ⟨_, rfl⟩ := h
     have h1 := E0 t
     rw [hl] at h1
     obtain ⟨cs, h2, h3, h4⟩ := h1
     have hlt : i < cs.length := by rw [h3]; exact (List.getElem?_eq_some_iff.1 hx).1
     have h5 := h4 i y cs[i] hx (List.getElem?_eq_getElem hlt)
     refine ⟨cs[i], by simp [execOp, Instr.extract, h2, hlt], ?_⟩
     cases y <;> first | exact h5 | (exact h5.elim)
  ·cases h
 case build T parts =>
  cases hb : buildQ P T (parts.toList.map fun p => (p.1, ev E p.2)) with
  | none => rw [hb] at h; cases h
  | some y =>
    rw [hb] at h
    simp only [Option.map_some, Option.some.injEq, Prod.mk.injEq] at h
    obtain ⟨_, rfl⟩ := h
    obtain ⟨v, h1, h2⟩ := buildQ_run (ρ := ρ) (w := w) (us := parts.toList.map fun p => (p.1, a.eval p.2)) hb (by simp) (fun j p u hp hu => by
     rw [List.getElem?_map] at hp hu
     cases hx : parts.toList[j]? with
     | none => rw [hx] at hp; cases hp
     | some z => rw [hx] at hp hu; simp at hp hu; subst hp hu; exact ⟨rfl, E0 _⟩)
    refine ⟨v, ?_, h2⟩
    have e1 : (parts.map fun p => (p.1, a.eval p.2)) = (parts.toList.map fun p => (p.1, a.eval p.2)).toArray := by apply Array.ext'; simp
    have e2 : execOp a.eval ⟨dst, .build T parts, ty, pos, after, guard⟩ = (do pure (.value (← Instr.build T (parts.map fun p => (p.1, a.eval p.2))))) := rfl
    rw [e2, e1]
    simp [h1]
 case call c => exact callQ_run hE hH h hq
 case lookup T y i ok =>
  cases hb : lookupQ P H T (ev E y) (ev E i) ok with
  | some r =>
    rw [hb] at h
    obtain rfl := Option.some.inj h
    obtain ⟨v, h1, h2⟩ := lookupQ_run hH hb hq (E0 y) (E0 i)
    exact ⟨v, by simp [execOp, h1], h2⟩
  | none =>
    rw [hb] at h
    obtain ⟨v, h1, h2⟩ := lookupI_run hH h (E0 y) (E0 i)
    exact ⟨v, by simp [execOp, h1], h2⟩
 case makeFunc fn fi ca =>
  cases fn
  case func f =>
   simp only at h
   split at h
   ·rename_i x hfi hca
    split at h
    ·rename_i o he
     simp only [Option.some.injEq, Prod.mk.injEq] at h
     obtain ⟨_, rfl⟩ := h
     have h1 := E0 x
     rw [he] at h1
     obtain ⟨b, h2, h3⟩ := rel_pp h1
     have e1 : fi = #[] := by apply Array.ext'; simpa using hfi
     have e2 : ca = #[x] := by apply Array.ext'; simpa using hca
     subst e1 e2
     exact ⟨.func (.func f) #[] #[a.eval x], by simp [execOp]; rfl, b, h2, by rw [h3]; rfl⟩
    ·cases h
   ·cases h
  all_goals (cases h; done)
 case makeInterface T y =>
  cases hb : ifaceQ P T (ev E y) with
  | none => rw [hb] at h; cases h
  | some z =>
    rw [hb] at h
    simp only [Option.map_some, Option.some.injEq, Prod.mk.injEq] at h
    obtain ⟨_, rfl⟩ := h
    unfold ifaceQ at hb
    split at hb
    ·rename_i d hd
     split at hb
     ·cases hb
     ·rename_i hi
      have h1 := E0 y
      have hrun : ∀ u, (Instr.makeInterface T u).run P w = .ok (.iface T u) w := fun u => by
       simp only [Instr.makeInterface, Sem.run_bind, run_under hd, Result.andThen_ok]
       cases d <;> first | rfl | (simp [isIfaceD] at hi)
      split at hb
      ·rename_i o he
       rw [he] at h1
       simp only [Option.some.injEq] at hb; subst hb
       obtain ⟨b, h2, h3⟩ := rel_pp h1
       exact ⟨_, by simp [execOp, hrun]; rfl, b, h2, by rw [h3]; rfl⟩
      ·rename_i l he
       rw [he] at h1
       cases hv : plainVs l with
       | none => rw [hv] at hb; cases hb
       | some vs =>
         rw [hv] at hb
         simp only [Option.map_some, Option.some.injEq] at hb; subst hb
         obtain ⟨cs, h2, h3⟩ := rel_agg h1
         have hcs : cs = vs := plainVs_ok hv h3
         subst hcs
         exact ⟨_, by simp [execOp, hrun]; rfl, by rw [h2]; rfl⟩
      ·cases hb
    ·cases hb
 case typeAssert y xT aT ok =>
  cases hb : assertQ P aT ok (ev E y) with
  | none => rw [hb] at h; cases h
  | some z =>
    rw [hb] at h
    simp only [Option.map_some, Option.some.injEq, Prod.mk.injEq] at h
    obtain ⟨_, rfl⟩ := h
    unfold assertQ at hb
    split at hb
    ·rename_i d t cs hd he
     split at hb
     ·cases hb
     ·rename_i hi
      split at hb
      ·rename_i hc
       obtain ⟨rfl, rfl⟩ := hc
       split at hb
       ·rename_i hall
        simp only [Option.some.injEq] at hb; subst hb
        have h1 := E0 y
        rw [he] at h1
        have h1 := rel_v h1
        have hrun : (Instr.typeAssert (.iface t (.agg cs)) xT t true).run P w = .ok (.tuple #[.agg cs, .bool true]) w := by
         simp only [Instr.typeAssert, Sem.run_bind, run_under hd, Result.andThen_ok]
         cases d <;> first | (simp [isIfaceD] at hi; done) | simp
        refine ⟨_, by simp [execOp, h1, hrun], [.agg cs, .bool true], rfl, rfl, fun j x u hx hu => ?_⟩
        match j, hx, hu with
        | 0, hx, hu =>
          obtain rfl := Option.some.inj hx
          obtain rfl := Option.some.inj hu
          refine ⟨cs.toList, by simp, by simp, fun j x u hx hu => ?_⟩
          rw [List.getElem?_map] at hx
          rw [hu] at hx
          obtain rfl := Option.some.inj hx
          exact ⟨rfl, List.all_eq_true.1 hall _ (List.mem_of_getElem? hu)⟩
        | 1, hx, hu =>
          obtain rfl := Option.some.inj hx
          obtain rfl := Option.some.inj hu
          rfl
        | j + 2, hx, hu => simp at hx
       ·cases hb
      ·cases hb
    ·cases hb
 all_goals (cases h; done)
end Go.Av
