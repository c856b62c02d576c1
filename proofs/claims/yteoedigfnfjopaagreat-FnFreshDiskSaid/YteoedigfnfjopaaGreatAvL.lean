import Derived.Test.YteoedigfnfjopaaGreatAvK
set_option linter.unusedSimpArgs false
set_option linter.unusedVariables false
namespace Go.Av
open Go
variable {P : Program} {N : Nat} {pin : List Nat} {γ γ' : Nat → Option Nat} {ρ : List Value} {H : List AObj} {w w' : World}
def boundAV (E : Env) (d : Int) : Option Operand → Option Int
 | none => some d
 | some x => match ev E x with
   | .v (.int _ n) => some n
   | _ => none
theorem boundAV_some {E : Env} {a : Act} (hE : EnvOk ρ E a.tmps) {d n : Int} {x : Operand} (h : boundAV E d (some x) = some n) : ∃ k, a.eval x = .int k n := by
 unfold boundAV at h
 simp only at h
 split at h
 ·rename_i k m hx
  simp at h; subst h
  have := ev_rel hE x
  rw [hx] at this
  exact ⟨k, rel_v this⟩
 ·cases h
def subObj (o : Nat) (l h : Nat) : AObj → Option AObj
 | .row true c => some (.view o (c.sub l h))
 | .row false c => some (.row false (c.sub l h))
 | .view s c => some (.view s (c.sub l h))
 | _ => none
def sliceE (P : Program) (E : Env) (H : List AObj) (T : TypeId) (x : Operand) (lo hi mx : Option Operand) : Option (Prop × List AObj × AV) :=
 match P.underlying T, ev E x with
 | some (.slice e), .sl o => match rd H o, H[o]? with
   | some c, some ob => match mx with
     | none => match boundAV E 0 lo, boundAV E c.len hi, subObj o 0 0 ob with
       | some l, some h, some _ => if tsz P e = some c.esz then (subObj o l.toNat h.toNat ob).map fun ob' => (0 ≤ l ∧ l ≤ h ∧ h ≤ c.len, H ++ [ob'], .sl H.length) else none
       | _, _, _ => none
     | some m => match boundAV E 0 lo, hi.bind fun y => boundAV E 0 (some y), boundAV E 0 (some m) with
       | some l, some h, some m => if tsz P e = some c.esz then some (l = 0 ∧ h = 0 ∧ m = 0, H ++ [.row true (c.sub 0 0)], .sl H.length) else none
       | _, _, _ => none
   | _, _ => none
 | some .string, .v (.string s) => match mx with
   | none => match boundAV E 0 lo, boundAV E s.size hi with
     | some l, some h => some (0 ≤ l ∧ l ≤ h ∧ h ≤ s.size, H, .v (.string (s.extract l.toNat h.toNat)))
     | _, _ => none
   | _ => none
 | _, _ => none
theorem subObj_spec {o l h : Nat} {ob ob' : AObj} (hs : subObj o l h ob = some ob') {c : Cont} (hc : rd H o = some c) (hob : H[o]? = some ob) (hH : HeapOk γ ρ H w) (hl : l ≤ h) (hh : h ≤ c.len) :
 ∃ a cap, ρ[o]? = some (.slice a c.len cap) ∧ c.len ≤ cap ∧
  has γ (ρ ++ [.slice (if cap = l then a else a.map (·.add (l * c.esz))) (h - l) (cap - l)]) w H.length ob' := by
 obtain ⟨a, cap, h1, h2⟩ := rd_slice hH.obj hc
 have hcap : ∀ {own : Bool} {S : Nat → Prop}, CRep own w S (.sl c.esz c.rows) (.slice a c.len cap) → c.len ≤ cap := by
  intro own S hr
  generalize hrows : c.rows = rows at hr
  generalize hesz : c.esz = esz at hr
  generalize hlen : c.len = len at hr
  cases hr with
  | nil => exact Nat.le_refl _
  | ronil => exact Nat.zero_le _
  | row => assumption
 have hobj := hH.obj _ _ hob
 have hget : ∀ (v : Value), (ρ ++ [v])[H.length]? = some v := fun v => by rw [← hH.len]; simp
 unfold rd at hc
 rw [hob] at hc
 cases ob with
 | dead => simp at hc
 | box cells => simp at hc
 | rbox cells => simp at hc
 | row own c0 =>
   simp at hc; subst hc
   obtain ⟨u, h3, h4⟩ := hobj
   rw [h1] at h3; simp at h3; subst h3
   refine ⟨a, cap, h1, hcap h4, ?_⟩
   cases own <;> simp only [subObj, Option.some.injEq] at hs <;> subst hs
   ·exact ⟨_, hget _, h4.sub hl hh⟩
   ·exact ⟨_, hget _, h4.sub hl hh⟩
 | view s c0 =>
   simp at hc; subst hc
   obtain ⟨u, h3, h4⟩ := hobj
   rw [h1] at h3; simp at h3; subst h3
   simp only [subObj, Option.some.injEq] at hs; subst hs
   exact ⟨a, cap, h1, hcap h4, _, hget _, h4.sub hl hh⟩
 | glob g c0 => simp at hc
 | tak own c0 i f p => simp at hc
 | mix gs => simp at hc
 | mp m k p => simp at hc
 | mi m => simp at hc
 | ext f => simp at hc
theorem sliceE_run {πv : Pv} {E : Env} {a : Act} (hst : St N pin πv γ ρ E H a w) {T : TypeId} {x : Operand} {lo hi mx : Option Operand} {q : Prop} {H' : List AObj} {y : AV}
 (h : sliceE P E H T x lo hi mx = some (q, H', y)) (hq : q) :
 ∃ v m, (Instr.sliceAt T (a.eval x) (lo.map a.eval) (hi.map a.eval) (mx.map a.eval)).run P w = .ok v w ∧ HeapOk γ (ρ ++ m) H' w ∧ rel (ρ ++ m) y v := by
 have hH := hst.heap
 have hx := ev_rel hst.env x
 unfold sliceE at h
 split at h
 ·rename_i e o hd he
  rw [he] at hx
  have hxv := rel_sl hx
  split at h
  ·rename_i c ob hc hob
   obtain ⟨ad, cap, hr1, hr2⟩ := rd_slice hH.obj hc
   rw [hr1] at hxv
   simp at hxv
   split at h
   ·split at h
    ·rename_i l h' _ hbl hbh hsub0
     split at h
     ·rename_i hs
      cases hsub : subObj o l.toNat h'.toNat ob with
      | none => rw [hsub] at h; cases h
      | some ob' =>
        rw [hsub] at h
        simp only [Option.map_some, Option.some.injEq, Prod.mk.injEq] at h
        obtain ⟨rfl, rfl, rfl⟩ := h
        obtain ⟨q1, q2, q3⟩ := hq
        obtain ⟨ad', cap', hr3, hcap, hhas⟩ := subObj_spec hsub hc hob hH (by omega) (by omega)
        rw [hr1] at hr3
        simp at hr3
        obtain ⟨rfl, rfl⟩ := hr3
        have hpush := hH.push (w' := w) (γ' := γ) _ ob' (fun b _ => ⟨rfl, rfl⟩) (Nat.le_refl _) (fun b o hb hg => by have := (hH.lab b o hg).2; omega) hhas
        refine ⟨.slice (if cap = l.toNat then ad else ad.map (·.add (l.toNat * c.esz))) (h'.toNat - l.toNat) (cap - l.toNat), [_], ?_, hpush, ⟨by rw [← hH.len]; simp, rfl⟩⟩
        have hbounds : (Instr.sliceBounds true c.len cap (lo.map a.eval) (hi.map a.eval) none).run P w = .ok (l.toNat, h'.toNat, cap) w := by
         have e1 : (h'.toNat : Int) = h' := by omega
         have q3' : h' ≤ (cap : Int) := by omega
         cases lo with
         | none =>
           simp [boundAV] at hbl
           subst hbl
           cases hi with
           | none =>
             simp [boundAV] at hbh
             subst hbh
             simp [Instr.sliceBounds]
           | some xh =>
             obtain ⟨k, hk⟩ := boundAV_some hst.env hbh
             simp [Instr.sliceBounds, hk, run_sliceBound (P := P) w k h' cap _ (by omega) q3']
         | some xl =>
           obtain ⟨kl, hkl⟩ := boundAV_some hst.env hbl
           cases hi with
           | none =>
             simp [boundAV] at hbh
             subst hbh
             simp [Instr.sliceBounds, hkl, run_sliceBound (P := P) w kl l c.len _ q1 (by omega)]
           | some xh =>
             obtain ⟨k, hk⟩ := boundAV_some hst.env hbh
             simp [Instr.sliceBounds, hk, hkl, run_sliceBound (P := P) w k h' cap _ (by omega) q3', run_sliceBound (P := P) w kl l h'.toNat _ q1 (by omega)]
        simp [Instr.sliceAt, run_under hd, Instr.slice, ← hxv, hbounds, run_tsz hs]
     ·cases h
    ·cases h
   ·rename_i m
    split at h
    ·rename_i l h' m' hbl hbh hbm
     split at h
     ·rename_i hs
      simp only [Option.some.injEq, Prod.mk.injEq] at h
      obtain ⟨rfl, rfl, rfl⟩ := h
      obtain ⟨rfl, rfl, rfl⟩ := hq
      have hrows : (c.sub 0 0).rows = [] := by rw [Cont.sub_rows]; simp
      obtain ⟨km, hkm⟩ := boundAV_some hst.env hbm
      refine ⟨.slice (if (0 : Nat) = 0 then ad else ad.map (·.add (0 * c.esz))) 0 0, [.slice ad 0 0], ?_, hH.nilrow (c.sub 0 0) hrows ad, ⟨by rw [← hH.len]; simp, rfl⟩⟩
      have hbounds : (Instr.sliceBounds true c.len cap (lo.map a.eval) (hi.map a.eval) (some (a.eval m))).run P w = .ok (0, 0, 0) w := by
       cases lo with
       | none =>
         cases hi with
         | none => simp at hbh
         | some xh =>
           obtain ⟨k, hk⟩ := boundAV_some (d := 0) hst.env hbh
           simp [Instr.sliceBounds, hk, hkm, run_sliceBound (P := P) w km 0 cap _ (by omega) (by omega), run_sliceBound (P := P) w k 0 0 _ (by omega) (by omega)]
       | some xl =>
         obtain ⟨kl, hkl⟩ := boundAV_some hst.env hbl
         cases hi with
         | none => simp at hbh
         | some xh =>
           obtain ⟨k, hk⟩ := boundAV_some (d := 0) hst.env hbh
           simp [Instr.sliceBounds, hk, hkl, hkm, run_sliceBound (P := P) w km 0 cap _ (by omega) (by omega), run_sliceBound (P := P) w k 0 0 _ (by omega) (by omega), run_sliceBound (P := P) w kl 0 0 _ (by omega) (by omega)]
      simp [Instr.sliceAt, run_under hd, Instr.slice, ← hxv, hbounds, run_tsz hs]
     ·cases h
    ·cases h
  ·cases h
 ·rename_i s hd he
  rw [he] at hx
  have hxv := rel_v hx
  split at h
  ·split at h
   ·rename_i l h' hbl hbh
    simp only [Option.some.injEq, Prod.mk.injEq] at h
    obtain ⟨rfl, rfl, rfl⟩ := h
    obtain ⟨q1, q2, q3⟩ := hq
    refine ⟨.string (s.extract l.toNat h'.toNat), [], ?_, by simpa using hH, show rel _ (.v _) _ from rfl⟩
    have hbounds : (Instr.sliceBounds false s.size s.size (lo.map a.eval) (hi.map a.eval) none).run P w = .ok (l.toNat, h'.toNat, s.size) w := by
     have e1 : (h'.toNat : Int) = h' := by omega
     cases lo with
     | none =>
       simp [boundAV] at hbl
       subst hbl
       cases hi with
       | none =>
         simp [boundAV] at hbh
         subst hbh
         simp [Instr.sliceBounds]
       | some xh =>
         obtain ⟨k, hk⟩ := boundAV_some hst.env hbh
         simp [Instr.sliceBounds, hk, run_sliceBound (P := P) w k h' s.size _ (by omega) q3]
     | some xl =>
       obtain ⟨kl, hkl⟩ := boundAV_some hst.env hbl
       cases hi with
       | none =>
         simp [boundAV] at hbh
         subst hbh
         simp [Instr.sliceBounds, hkl, run_sliceBound (P := P) w kl l s.size _ q1 (by omega)]
       | some xh =>
         obtain ⟨k, hk⟩ := boundAV_some hst.env hbh
         simp [Instr.sliceBounds, hk, hkl, run_sliceBound (P := P) w k h' s.size _ (by omega) q3, run_sliceBound (P := P) w kl l h'.toNat _ q1 (by omega)]
    simp [Instr.sliceAt, run_under hd, Instr.slice, hxv, hbounds]
   ·cases h
  ·cases h
 ·cases h
end Go.Av
