import Derived.Test.YteoedigfnfjopaaGreatAvV
import Derived.Lib.Tables
import Derived.Lib.LazyBuf
set_option linter.unusedSimpArgs false
set_option linter.unusedVariables false
namespace Go.Av
open Go
variable {P : Program} {N : Nat} {pin : List Nat} {rq : Option Nat} {γ γ' : Nat → Option Nat} {ρ : List Value} {H : List AObj} {w w' : World}
theorem Red.dup {E : Env} {t o : Nat} {c : Cont} (he : E.lookup t = some (.sl o)) (h : H[o]? = some (.row false c)) : Red N pin E H ((t, .sl H.length) :: E) (H ++ [.row false c]) := fun πv γ ρ a w hst => by
 obtain ⟨u, h1, h2⟩ := hst.heap.obj o _ h
 have hr := hst.env t _ he
 have hr1 : rel1 ρ (.sl o) (a.tmps.getD t undef) := hr
 have hu : a.tmps.getD t undef = u := by
  have := hr1.1; rw [h1] at this; exact (Option.some.inj this).symm
 refine ⟨γ, ρ ++ [u], ⟨hst.size, hst.defs, fun s x hx => ?_, ?_, fun o ho => (pins_ext hst _ o ho).trans (hst.pins o ho)⟩, Fr.refl _ _⟩
 ·simp only [List.lookup_cons] at hx
  by_cases hs : s = t
  ·subst hs; simp at hx; subst hx
   exact ⟨by rw [hu, ← hst.heap.len]; simp, hr1.2⟩
  ·have hne : (s == t) = false := by simpa using hs
   rw [hne] at hx
   exact (hst.env s x hx).ext _
 ·refine hst.heap.push u _ (fun b _ => ⟨rfl, rfl⟩) (Nat.le_refl _) (fun b o hb hg => ?_) ⟨u, by rw [← hst.heap.len]; simp, h2⟩
  exact absurd (hst.heap.lab b o hg).2 (by omega)
theorem Red.promote {E : Env} (s v : Nat) {c d : Cont} (hs : H[s]? = some (.row true c)) (hv : H[v]? = some (.view s d)) :
 Red N pin E H E (((H.map (AObj.unview s)).set s .dead).set v (.row true d)) := fun πv γ ρ a w hst =>
 let ⟨γ', h1, h2⟩ := hst.promote hs hv; ⟨γ', ρ, h1, h2⟩
theorem OpK_here {f : FuncId} {as : List AV} {H : List AObj} {R : AV → List AObj → Prop} (hc : FnA P f as H [] R) {d : Option Nat} {c : Call} {ty : TypeId} {pos' : String} {after : Array Edge} {K : Env → List AObj → Prop} {E : Env}
 (hk : ∀ x H', R x H' → H.length ≤ H'.length → K (E.put d x) H')
 (hcal : c.callee = .value (.func f) := by rfl) (hargs : c.args.toList.map (ev E) = as := by rfl) (hd : dstOk N d = true := by rfl) (hp : ∀ o ∈ pin, o < H.length := by simp) :
 OpK P N pin ⟨d, .call c, ty, pos', after, none⟩ K E H := by
 intro πv γ ρ a w hst K' Q' hK
 have hus : Rels ρ as (c.args.toList.map a.eval) := by
  subst hargs
  refine ⟨by simp, fun j y u hy hu => ?_⟩
  rw [List.getElem?_map] at hy hu
  cases hx : c.args.toList[j]? with
  | none => rw [hx] at hy; cases hy
  | some z => rw [hx] at hy hu; simp at hy hu; subst hy hu; exact ev_rel hst.env z
 obtain ⟨callee, args, tys⟩ := c
 simp only at hcal
 subst hcal
 have hcalls := hc.calls γ ρ _ w hst.heap hus
 unfold Oper.wp
 rw [run_call_enter hc.enters rfl rfl]
 simp only [Oper.upon]
 refine hcalls.mono ?_
 rintro e w' ⟨r, x, γ1, ρ1, H', rfl, hR, hx, hH1, hfr, hlen, hkeep⟩
 have hρ : ∀ (o : Nat) (v : Value), ρ[o]? = some v → ρ1[o]? = some v := fun o v ho => by
  have hlt : o < H.length := by rw [← hst.heap.len]; exact (List.getElem?_eq_some_iff.1 ho).1
  rw [hkeep o hlt (by simp)]; exact ho
 have hE : EnvOk ρ1 E a.tmps := fun t y hy => by
  have h1 := (hst.env t y hy).killp (l := []) (fun o v _ ho => hρ o v ho)
  have h2 : y.killp [] = y := by
   have e1 : ∀ z : AV, z.killp1 [] = z := fun z => by cases z <;> simp [AV.killp1]
   have e2 : ∀ z : AV, z.killp2 [] = z := fun z => by
    cases z <;> simp only [AV.killp2, e1]
    rename_i l
    rw [show l.map (AV.killp1 []) = l from by rw [List.map_congr_left (g := id) (fun z _ => e1 z)]; simp]
   cases y <;> simp only [AV.killp, e2]
   rename_i l
   rw [show l.map (AV.killp2 []) = l from by rw [List.map_congr_left (g := id) (fun z _ => e2 z)]; simp]
  rw [h2] at h1; exact h1
 exact hK r w' γ1 ρ1 _ H' (hk x H' hR hlen) (hst.put hd hx hE hH1 (fun o ho => by
  have hlt := hp o ho
  exact hkeep o hlt (by simp)) hfr.keep) hfr
theorem wpA_here {f : FuncId} {as : List AV} {H : List AObj} {R : AV → List AObj → Prop} (hc : FnA P f as H [] R) {ops : Array Oper} {d : Option Nat} {c : Call} {ty : TypeId} {pos' : String} {after : Array Edge} {rest : List Oper} {K : Env → List AObj → Prop} {E : Env}
 (hk : ∀ x H', R x H' → H.length ≤ H'.length → wpA P N pin ops rest K (E.put d x) H')
 (hcal : c.callee = .value (.func f) := by rfl) (hargs : c.args.toList.map (ev E) = as := by rfl) (hd : dstOk N d = true := by rfl) (hp : ∀ o ∈ pin, o < H.length := by simp) :
 wpA P N pin ops (⟨d, .call c, ty, pos', after, none⟩ :: rest) K E H := wpA_opK rfl (OpK_here hc hk hcal hargs hd hp)
theorem rd_nil {c : Cont} {o : Nat} (h : Rd γ ρ H w) (hr : rd H o = some c) : ∃ a cap, ρ[o]? = some (.slice a c.len cap) ∧ (a.isNone = true → c.len = 0) := by
 obtain ⟨u, S, h1, h2⟩ := rd_rep h hr
 have hl := Cont.len_rows c
 generalize c.rows = rows at h2 hl
 generalize c.esz = esz at h2
 generalize c.len = n at hl ⊢
 subst hl
 cases h2 with
 | nil => exact ⟨_, _, h1, fun _ => rfl⟩
 | ronil => exact ⟨_, _, h1, fun _ => rfl⟩
 | row S esz rows b off cap arr e fz n vals lab hS hb hfz hn hcap hmax hsz hrow hval hrep => subst hn; exact ⟨_, cap, h1, fun h => by cases h⟩
theorem OpK_isnil {d : Nat} {T e T' : TypeId} {x : Operand} {o : Nat} {c : Cont} {ty : TypeId} {pos' : String} {after : Array Edge} {K : Env → List AObj → Prop} {E : Env} {H : List AObj}
 (he : ev E x = .sl o) (hr : rd H o = some c) (hT : P.underlying T = some (.slice e)) (hd : dstOk N (some d) = true) (hk : ∀ b : Bool, (b = true → c.len = 0) → K ((d, .v (.bool b)) :: E) H) :
 OpK P N pin ⟨some d, .binOp .eql T x (.const (.slice none 0 0)) T', ty, pos', after, none⟩ K E H := by
 intro πv γ ρ a w hst K' Q' hK
 obtain ⟨ad, cap, h1, h2⟩ := rd_nil hst.heap.obj hr
 have hx := ev_rel hst.env x
 rw [he] at hx
 have hv : a.eval x = .slice ad c.len cap := by
  have := rel_sl hx; rw [h1] at this; exact (Option.some.inj this).symm
 unfold Oper.wp
 have hrun : (execOp a.eval ⟨some d, .binOp .eql T x (.const (.slice none 0 0)) T', ty, pos', after, none⟩).run P w = .ok (.value (.bool ad.isNone)) w := by
  have hy : a.eval (.const (.slice none 0 0)) = .slice none 0 0 := rfl
  have hb := Go.run_eql_slice_nil (P := P) w T e ad c.len cap hT
  simp [execOp, hv, hy, eqGuard, hb]
 rw [hrun]
 simp only [Oper.upon]
 refine hK _ w γ ρ ((d, .v (.bool ad.isNone)) :: E) H (hk _ h2) ?_ (Fr.refl _ _)
 exact ⟨by rw [put_size]; exact hst.size, by rw [put_defs]; exact hst.defs, EnvOk.put (d := some d) (x := .v (.bool ad.isNone)) hst.env (fun n hn => by cases hn; rw [hst.size]; simpa [dstOk] using hd) rfl, hst.heap, hst.pins⟩
theorem awp_isnil {id : Nat} {t0 t3 t4 : Nat} {T e T' ty3 ty4 : TypeId} {p3 p4 : String} {af3 af4 : Array Edge} {o : Nat} {c : Cont} {y : Code} {Q : Exit → Env → List AObj → Prop} {E : Env} {H : List AObj}
 (he : E.lookup t0 = some (.sl o)) (hr : rd H o = some c) (hT : P.underlying T = some (.slice e)) (h3 : dstOk N (some t3) = true) (h4 : dstOk N (some t4) = true)
 (hk : ∀ b : Bool, (b = true → c.len = 0) → awp rq P N pin y Q ((t4, .v (.bool b)) :: (t3, .sl o) :: E) H) :
 awp rq P N pin (.seq (.region id #[⟨some t3, .move (.tmp t0), ty3, p3, af3, none⟩, ⟨some t4, .binOp .eql T (.tmp t3) (.const (.slice none 0 0)) T', ty4, p4, af4, none⟩] false) y) Q E H := by
 refine awp_seq fun K hK => ?_
 have hnone : PTab P ftNone := ftNoneOk
 refine awp_region (l := [⟨some t3, .move (.tmp t0), ty3, p3, af3, none⟩, ⟨some t4, .binOp .eql T (.tmp t3) (.const (.slice none 0 0)) T', ty4, p4, af4, none⟩]) hnone ?_
 have he' : ev E (.tmp t0) = .sl o := by simp [ev, he]
 have e2 : ev ((t3, .sl o) :: E) (.tmp t3) = .sl o := by simp [ev]
 have e3 : ev ((t3, .sl o) :: E) (.const (.slice none 0 0)) = .v (.slice none 0 0) := rfl
 simp only [vcOps, vcOp, h3, h4, quiet, he', Env.put, e2, e3, eff, pcall, true_and]
 exact wpA_opK rfl (OpK_isnil e2 hr hT h4 fun b hb => wpA_nil (hK _ _ (hk b hb)))
theorem Red.take {E : Env} {own : Bool} (o i f : Nat) {c d : Cont} (ho : H[o]? = some (.row own c)) (hi : i < c.len) (hd : c.child i f = some d) :
 Red N pin E H E ((H.map (AObj.unview o)).set o (.tak own c i f (some H.length)) ++ [.row own d]) := fun πv γ ρ a w hst => by
 classical
 have hH := hst.heap
 have hol := (List.getElem?_eq_some_iff.1 ho).1
 obtain ⟨u, h1, h2⟩ := hH.obj _ _ ho
 obtain ⟨row, hr, hf⟩ := Cont.child_ok hd hi
 obtain ⟨b, ofs, cap, v, hu, hS, hcell, hone, C, hC, hchild, hhole⟩ := h2.takes hr hf
 rw [Cont.len_rows] at hu
 subst hu
 let γ' : Nat → Option Nat := fun b' => if own = true ∧ C b' then some H.length else γ b'
 have hx : ∀ (b' : Nat), own = true → C b' → γ b' = some o := fun b' h3 h4 => by have := (hC b' h4).1; rw [if_pos h3] at this; exact this
 have hkeep : ∀ (b' : Nat) (x : Option Nat), x ≠ some o → γ b' = x → γ' b' = x := fun b' x hxo hb' => by
  simp only [γ']
  rw [if_neg (fun hh => hxo (by rw [← hb']; exact hx b' hh.1 hh.2))]
  exact hb'
 have hset : ∀ (q : Nat) (x : Value), ρ[q]? = some x → (ρ ++ [v])[q]? = some x := fun q x h => getElem?_append_of h _
 refine ⟨γ', ρ ++ [v], ⟨hst.size, hst.defs.lab fun b hb => hkeep b none (by simp) hb, hst.env.ext _, ⟨by simp [hH.len], fun p ob hp => ?_, fun b' p hb' => ?_⟩, fun o ho => (pins_ext hst _ o ho).trans (hst.pins o ho)⟩, ⟨rfl, rfl, rfl, Nat.le_refl _, fun b' _ hg => ⟨rfl, hkeep b' none (by simp) hg⟩, Nat.le_refl _⟩⟩
 ·by_cases hpl : p < H.length
  ·rw [List.getElem?_append_left (by simpa using hpl)] at hp
   by_cases hpo : p = o
   ·subst hpo
    rw [List.getElem?_set_self (by simpa using hol)] at hp
    simp at hp; subst hp
    refine ⟨b, ofs, cap, hset _ _ h1, hi, ?_, ?_, fun q hq => ?_⟩
    ·refine CRep.mono hhole fun b' hb' => ?_
     cases own
     ·simp only [Bool.false_eq_true, ↓reduceIte] at hb' ⊢
      exact hkeep b' none (by simp) hb'.1
     ·simp only [↓reduceIte] at hb' ⊢
      simp only [γ', true_and, if_neg (hb'.2 trivial)]; exact hb'.1
    ·cases own
     ·simp only [Bool.false_eq_true, ↓reduceIte] at hS ⊢
      exact hkeep b none (by simp) hS
     ·simp only [↓reduceIte] at hS ⊢
      simp only [γ', true_and, if_neg (fun hc => (hC b hc).2 rfl rfl)]; exact hS
    ·simp at hq; subst hq
     exact ⟨v, by rw [← hH.len]; simp, hone, hcell⟩
   ·rw [List.getElem?_set_ne (Ne.symm hpo), List.getElem?_map] at hp
    cases hH' : H[p]? with
    | none => rw [hH'] at hp; cases hp
    | some ob0 =>
      rw [hH'] at hp; simp at hp; subst hp
      have h0 := hH.obj p ob0 hH'
      cases ob0 <;> simp only [AObj.unview]
      ·exact trivial
      ·obtain ⟨b2, arr, e, k1, k2, k3, k4⟩ := h0
       exact ⟨b2, arr, e, hset _ _ k1, hkeep _ _ (by simpa using hpo) k2, k3, k4.ext _⟩
      ·obtain ⟨b2, arr, e, fz, k1, k2, k3, k4⟩ := h0
       exact ⟨b2, arr, e, fz, hset _ _ k1, hkeep _ _ (by simp) k2, k3, k4.ext _⟩
      ·rename_i own2 c2
       obtain ⟨x, k1, k2⟩ := h0
       exact ⟨x, hset _ _ k1, k2.mono fun b' hb' => hkeep b' _ (by cases own2 <;> simp [hpo]) hb'⟩
      ·rename_i src c2
       by_cases hsrc : src = o
       ·simp only [if_pos hsrc]; exact trivial
       ·simp only [if_neg hsrc]
        obtain ⟨x, k1, k2⟩ := h0
        exact ⟨x, hset _ _ k1, k2.mono fun b' hb' => hkeep b' _ (by simpa using hsrc) hb'⟩
      ·obtain ⟨k1, k2⟩ := h0
       exact ⟨hkeep _ _ (by simp) k1, k2⟩
      ·rename_i own2 c2 i2 f2 p2
       obtain ⟨b2, ofs2, cap2, k1, k2, k3, k6, k4⟩ := h0
       have hx2 : (if own2 = true then some p else none) ≠ some o := by cases own2 <;> simp [hpo]
       refine ⟨b2, ofs2, cap2, hset _ _ k1, k2, k3.mono fun b' hb' => hkeep b' _ hx2 hb', hkeep _ _ hx2 k6, fun q hq => ?_⟩
       obtain ⟨v2, m1, m2, m3⟩ := k4 q hq
       exact ⟨v2, hset _ _ m1, m2, m3⟩
      ·obtain ⟨x, k1, k2⟩ := h0
       exact ⟨x, hset _ _ k1, k2.mono (fun b' hb' => hkeep b' _ (by simpa using hpo) hb') (fun b' hb' => hkeep b' _ (by simp) hb')⟩
      ·obtain ⟨x, k1, k2⟩ := h0
       exact ⟨x, hset _ _ k1, k2.to (fun b' hb' _ => ⟨rfl, hkeep b' _ (by simpa using hpo) hb'⟩) (fun q hq => ⟨q, hq, fun v hv => hset _ _ hv⟩)⟩
      ·obtain ⟨x, k1, k2⟩ := h0
       exact ⟨x, hset _ _ k1, k2.to (fun b' hb' _ => ⟨rfl, hkeep b' _ (by simpa using hpo) hb'⟩)⟩
      ·exact ExtP.stay _ h0 (fun _ _ _ => rfl) (Nat.le_refl _) (fun b _ hb => hkeep b none (by simp) hb) (fun b _ hb => hkeep b _ (by simpa using hpo) hb)
  ·have hpe : p = H.length := by have := (List.getElem?_eq_some_iff.1 hp).1; simp at this; omega
   subst hpe
   rw [List.getElem?_append_right (by simp)] at hp
   simp at hp; subst hp
   refine ⟨v, by rw [← hH.len]; simp, hchild.mono fun b' hb' => ?_⟩
   cases own
   ·have := (hC b' hb').1
    simp only [Bool.false_eq_true, ↓reduceIte] at this ⊢
    exact hkeep b' none (by simp) this
   ·simp [γ', hb']
 ·simp only [γ'] at hb'
  split at hb'
  ·rename_i hh
   simp at hb'; subst hb'
   exact ⟨by simp, (hH.lab b' o (hx b' hh.1 hh.2)).2⟩
  ·have := hH.lab b' p hb'; exact ⟨by simp; omega, this.2⟩
theorem Red.put {E : Env} {own : Bool} (o p : Nat) {c c' d : Cont} {i f : Nat} (ho : H[o]? = some (.tak own c i f (some p))) (hp : H[p]? = some (.row own d)) (hc : c.setChild i f d = some c') :
 Red N pin E H E (((H.map (AObj.unview p)).set o (.row own c')).set p (if own then .view o d else .row false d)) := fun πv γ ρ a w hst => by
 have hH := hst.heap
 have hol := (List.getElem?_eq_some_iff.1 ho).1
 have hpl := (List.getElem?_eq_some_iff.1 hp).1
 have hne : p ≠ o := by intro e; subst e; rw [ho] at hp; cases hp
 obtain ⟨b, ofs, cap, h1, h2, h3, h6, h4⟩ := hH.obj _ _ ho
 obtain ⟨v, h5, hv1, h7⟩ := h4 p rfl
 obtain ⟨u, g1, g2⟩ := hH.obj _ _ hp
 rw [h5] at g1
 simp at g1; subst g1
 obtain ⟨e1, e2, row, r1, r2, r3⟩ := Cont.setChild_ok hc h2
 have hrh : (c.holed i f)[i]? = some (row.set f .hole) := by simp [Cont.holed, List.getElem?_modify, r1]
 let γ' : Nat → Option Nat := fun b' => if own = true ∧ γ b' = some p then some o else γ b'
 have hkeep : ∀ (b' : Nat) (x : Option Nat), x ≠ some p → γ b' = x → γ' b' = x := fun b' x hxo hb' => by
  simp only [γ']
  rw [if_neg (fun hh => hxo (by rw [← hb']; exact hh.2))]
  exact hb'
 have hfill := h3.fill (T := fun b => γ' b = if own = true then some o else none) hrh (f := f) (by rw [List.length_set]; exact r2) h7 g2
  (fun b' hb' => hkeep b' _ (by cases own <;> simp [Ne.symm hne]) hb') (fun b' hb' => by cases own <;> simp only [Bool.false_eq_true, ↓reduceIte] at hb' ⊢ <;> simp [γ', hb'])
  (fun hown b' hb' hx => by subst hown; simp only [↓reduceIte] at hb' hx; rw [hb'] at hx; exact hne (Option.some.inj hx))
 have hrows : (c.holed i f).set i ((row.set f CV.hole).set f (.sl d.esz d.rows)) = c'.rows := by
  rw [r3, List.set_set]
  apply List.ext_getElem?
  intro k
  by_cases hk : k = i
  ·subst hk
   rw [List.getElem?_set_self (by rw [Cont.holed_len]; omega), List.getElem?_set_self (by rw [Cont.len_rows]; omega)]
  ·rw [List.getElem?_set_ne (Ne.symm hk), List.getElem?_set_ne (Ne.symm hk), Cont.holed, List.getElem?_modify]
   simp [Ne.symm hk]
 rw [hrows] at hfill
 refine ⟨γ', ρ, ⟨hst.size, hst.defs.lab fun b hb => hkeep b none (by simp) hb, hst.env, ⟨by simpa using hH.len, fun q ob hq => ?_, fun b' q hb' => ?_⟩, hst.pins⟩, ⟨rfl, rfl, rfl, Nat.le_refl _, fun b' _ hg => ⟨rfl, hkeep b' none (by simp) hg⟩, Nat.le_refl _⟩⟩
 ·by_cases hqp : q = p
  ·subst hqp
   rw [List.getElem?_set_self (by simpa using hpl)] at hq
   simp at hq; subst hq
   cases own
   ·exact ⟨v, h5, g2.mono fun b' hb' => by simp only [Bool.false_eq_true, ↓reduceIte] at hb' ⊢; simp [γ', hb']⟩
   ·exact ⟨v, h5, g2.mono fun b' hb' => by simp only [↓reduceIte] at hb'; simp [γ', hb']⟩
  ·rw [List.getElem?_set_ne (Ne.symm hqp)] at hq
   by_cases hqo : q = o
   ·subst hqo
    rw [List.getElem?_set_self (by simpa using hol)] at hq
    simp at hq; subst hq
    refine ⟨_, h1, ?_⟩
    rw [e1, ← e2] at *
    exact hfill
   ·rw [List.getElem?_set_ne (Ne.symm hqo), List.getElem?_map] at hq
    cases hH' : H[q]? with
    | none => rw [hH'] at hq; cases hq
    | some ob0 =>
      rw [hH'] at hq; simp at hq; subst hq
      have h0 := hH.obj q ob0 hH'
      cases ob0 <;> simp only [AObj.unview]
      ·exact trivial
      ·obtain ⟨b2, arr, e, k1, k2, k3, k4⟩ := h0
       exact ⟨b2, arr, e, k1, hkeep _ _ (by simpa using hqp) k2, k3, k4⟩
      ·obtain ⟨b2, arr, e, fz, k1, k2, k3, k4⟩ := h0
       exact ⟨b2, arr, e, fz, k1, hkeep _ _ (by simp) k2, k3, k4⟩
      ·rename_i own2 c2
       obtain ⟨x, k1, k2⟩ := h0
       exact ⟨x, k1, k2.mono fun b' hb' => hkeep b' _ (by cases own2 <;> simp [hqp]) hb'⟩
      ·rename_i src c2
       by_cases hsrc : src = p
       ·simp only [if_pos hsrc]; exact trivial
       ·simp only [if_neg hsrc]
        obtain ⟨x, k1, k2⟩ := h0
        exact ⟨x, k1, k2.mono fun b' hb' => hkeep b' _ (by simpa using hsrc) hb'⟩
      ·obtain ⟨k1, k2⟩ := h0
       exact ⟨hkeep _ _ (by simp) k1, k2⟩
      ·rename_i own2 c2 i2 f2 p2
       obtain ⟨b2, ofs2, cap2, k1, k2, k3, k6, k4⟩ := h0
       have hx2 : (if own2 = true then some q else none) ≠ some p := by cases own2 <;> simp [hqp]
       exact ⟨b2, ofs2, cap2, k1, k2, k3.mono fun b' hb' => hkeep b' _ hx2 hb', hkeep _ _ hx2 k6, k4⟩
      ·obtain ⟨x, k1, k2⟩ := h0
       exact ⟨x, k1, k2.mono (fun b' hb' => hkeep b' _ (by simpa using hqp) hb') (fun b' hb' => hkeep b' _ (by simp) hb')⟩
      ·obtain ⟨x, k1, k2⟩ := h0
       exact ⟨x, k1, k2.to (fun b' hb' _ => ⟨rfl, hkeep b' _ (by simpa using hqp) hb'⟩) (fun q hq => ⟨q, hq, fun v hv => hv⟩)⟩
      ·obtain ⟨x, k1, k2⟩ := h0
       exact ⟨x, k1, k2.to (fun b' hb' _ => ⟨rfl, hkeep b' _ (by simpa using hqp) hb'⟩)⟩
      ·exact ExtP.stay _ h0 (fun _ _ _ => rfl) (Nat.le_refl _) (fun b _ hb => hkeep b none (by simp) hb) (fun b _ hb => hkeep b _ (by simpa using hqp) hb)
 ·simp only [γ'] at hb'
  split at hb'
  ·rename_i hh
   simp at hb'; subst hb'
   exact ⟨by simpa using hol, (hH.lab b' p hh.2).2⟩
  ·have := hH.lab b' q hb'; exact ⟨by simpa using this.1, this.2⟩
theorem awp_take {own : Bool} (o i f : Nat) {x : Code} {Q : Exit → Env → List AObj → Prop} {E : Env} {H' : List AObj} {c d : Cont} (ho : H[o]? = some (.row own c)) (hi : i < c.len) (hd : c.child i f = some d)
 (hH : (H.map (AObj.unview o)).set o (.tak own c i f (some H.length)) ++ [.row own d] = H') (k : awp rq P N pin x Q E H') : awp rq P N pin x Q E H := by subst hH; exact awp_red (Red.take o i f ho hi hd) k
theorem Cont.setChild_self {c d : Cont} {i f : Nat} (h : c.child i f = some d) : c.setChild i f d = some c := by
 have key : ∀ {α : Type} (l : List α) (z : α), l.set i (l.getD i z) = l := fun l z => by
  by_cases hi : i < l.length
  ·rw [List.getD_eq_getElem?_getD, List.getElem?_eq_getElem hi, Option.getD_some, List.set_getElem_self]
  ·rw [List.set_eq_of_length_le (by omega)]
 unfold Cont.child at h
 split at h
 ·split at h
  ·rename_i hf
   cases h
   simp only [Cont.setChild, hf, and_self, if_true, key]
  ·cases h
 ·split at h
  ·rename_i hf
   cases h
   simp only [Cont.setChild, hf, if_true, key]
  ·cases h
 ·split at h
  ·rename_i gs hf
   cases h
   have := key gs (0, [])
   simp only [Cont.setChild, hf, if_true]
   exact congrArg (fun l => some (Cont.graphs l)) this
  ·cases h
 ·cases h
theorem awp_put {own : Bool} (o p : Nat) {x : Code} {Q : Exit → Env → List AObj → Prop} {E : Env} {H' : List AObj} {c c' d : Cont} {i f : Nat} (ho : H[o]? = some (.tak own c i f (some p))) (hp : H[p]? = some (.row own d)) (hc : c.setChild i f d = some c')
 (hH : ((H.map (AObj.unview p)).set o (.row own c')).set p (if own then .view o d else .row false d) = H') (k : awp rq P N pin x Q E H') : awp rq P N pin x Q E H := by subst hH; exact awp_red (Red.put o p ho hp hc) k
theorem rel1_up {ρ ρ' : List Value} (hρ : ∀ (i : Nat) (x : Value), ρ[i]? = some x → ρ'[i]? = some x) {x : AV} {u : Value} (h : rel1 ρ x u) : rel1 ρ' x u := by
 cases x <;> simp only [rel1] at h ⊢
 ·exact h
 ·exact h
 ·exact ⟨hρ _ _ h.1, h.2⟩
 ·obtain ⟨b, h1, h2⟩ := h; exact ⟨b, hρ _ _ h1, h2⟩
 ·obtain ⟨b, ofs, n, cap, h1, h2⟩ := h; exact ⟨b, ofs, n, cap, hρ _ _ h1, h2⟩
 ·obtain ⟨b, h1, h2⟩ := h; exact ⟨b, hρ _ _ h1, h2⟩
theorem env_aggset {ρ ρ' : List Value} {E : Env} {tm : Array Value} (hE : EnvOk ρ E tm) (hρ : ∀ (i : Nat) (x : Value), ρ[i]? = some x → ρ'[i]? = some x) (hext : ∀ (x : AV) (u : Value), rel ρ x u → rel ρ' x u) {t j : Nat} {l : List AV} {y : AV}
 (he : E.lookup t = some (.agg l)) (hy : ∀ x u, l[j]? = some x → rel1 ρ x u → rel1 ρ' y u) : EnvOk ρ' ((t, .agg (l.set j y)) :: E) tm := by
 intro s x hx
 simp only [List.lookup_cons] at hx
 by_cases hs : s = t
 ·subst hs; simp at hx; subst hx
  obtain ⟨cs, h1, h2, h3⟩ := rel_agg (hE s _ he)
  refine ⟨cs, h1, by simpa using h2, fun i z u hz hu => ?_⟩
  by_cases hij : j = i
  ·subst hij
   have hlt : j < l.length := by rw [← h2]; exact (List.getElem?_eq_some_iff.1 hu).1
   rw [List.getElem?_set_self hlt] at hz
   cases hz
   exact hy _ _ (List.getElem?_eq_getElem hlt) (h3 j _ u (List.getElem?_eq_getElem hlt) hu)
  ·rw [List.getElem?_set_ne hij] at hz
   exact rel1_up hρ (h3 i z u hz hu)
 ·have hne : (s == t) = false := by simpa using hs
  rw [hne] at hx
  exact hext _ _ (hE s x hx)
theorem Red.nilAgg {E : Env} {t j : Nat} {l : List AV} (c : Cont) (hc : c.rows = []) (h : E.lookup t = some (.agg l)) (hj : l[j]? = some (.v (.slice none 0 0))) :
 Red N pin E H ((t, .agg (l.set j (.sl H.length))) :: E) (H ++ [.row true c]) := fun πv γ ρ a w hst => by
 have h1 := hst.heap.nilrow c hc none
 refine ⟨γ, ρ ++ [.slice none 0 0], ⟨hst.size, hst.defs, env_aggset hst.env (fun i x hx => getElem?_append_of hx _) (fun x u hx => hx.ext _) h (fun x u hx hu => ?_), h1, fun p hp => (pins_ext hst _ p hp).trans (hst.pins p hp)⟩, Fr.refl _ _⟩
 rw [hj] at hx; cases hx
 simp only [rel1] at hu ⊢
 refine ⟨?_, hu.1 ▸ hu.2⟩
 rw [hu.1, ← hst.heap.len]; simp
theorem Red.dupCell {E : Env} {o i q : Nat} {cells : List AV} {c : Cont} (h : H[o]? = some (.box cells)) (hi : cells[i]? = some (.sl q)) (hq : H[q]? = some (.row false c)) :
 Red N pin E H E ((H ++ [AObj.row false c]).set o (.box (cells.set i (.sl H.length)))) := fun πv γ ρ a w hst => by
 have ho : o < H.length := (List.getElem?_eq_some_iff.1 h).1
 obtain ⟨u, hu1, hu2⟩ := hst.heap.obj q _ hq
 have h1 : HeapOk γ (ρ ++ [u]) (H ++ [AObj.row false c]) w := by
  refine hst.heap.push u _ (fun b _ => ⟨rfl, rfl⟩) (Nat.le_refl _) (fun b o hb hg => ?_) ⟨u, by rw [← hst.heap.len]; simp, hu2⟩
  exact absurd (hst.heap.lab b o hg).2 (by omega)
 refine ⟨γ, ρ ++ [u], ⟨hst.size, hst.defs, hst.env.ext _, ⟨by simp [hst.heap.len], fun p ob hp => ?_, fun b p hb => ?_⟩, fun p hp => (pins_ext hst _ p hp).trans (hst.pins p hp)⟩, Fr.refl _ _⟩
 ·by_cases hpo : p = o
  ·subst hpo
   rw [List.getElem?_set_self (by simp; omega)] at hp
   cases hp
   obtain ⟨b, arr, e, h2, h3, h4, h5⟩ := hst.heap.obj p _ h
   refine ⟨b, arr, e, getElem?_append_of h2 _, h3, h4, by simpa using h5.1, fun j x v hx hv => ?_⟩
   by_cases hji : j = i
   ·subst hji
    have hlt : j < cells.length := (List.getElem?_eq_some_iff.1 hi).1
    rw [List.getElem?_set_self hlt] at hx
    cases hx
    have := h5.2 j _ v hi hv
    simp only [rel1] at this ⊢
    rw [hu1] at this
    refine ⟨?_, this.2⟩
    rw [← hst.heap.len]; simpa using this.1
   ·rw [List.getElem?_set_ne (by omega)] at hx
    exact (h5.2 j x v hx hv).ext _
  ·rw [List.getElem?_set_ne (by omega)] at hp
   exact h1.obj p ob hp
 ·obtain ⟨h2, h3⟩ := h1.lab b p hb
  exact ⟨by simpa using h2, h3⟩
def mvf (o n : Nat) : Nat → Option Nat := fun x => if x = o then some n else some x
theorem Red.move {E : Env} (o : Nat) {c : Cont} (h : H[o]? = some (.row true c)) :
 Red N pin E H (E.ren (mvf o H.length)) (((H.map (AObj.ren (mvf o H.length))).set o .dead) ++ [.row true c]) := fun πv γ ρ a w hst => by
 have hH := hst.heap
 have ho := (List.getElem?_eq_some_iff.1 h).1
 obtain ⟨u, h1, h2⟩ := hH.obj _ _ h
 let f := mvf o H.length
 let ρ' := ρ ++ [u]
 let γ' : Nat → Option Nat := fun b => (γ b).bind f
 have hf : ∀ (x p : Nat) (v : Value), f x = some p → ρ[x]? = some v → ρ'[p]? = some v := by
  intro x p v hx hv
  simp only [f, mvf] at hx
  split at hx
  ·rename_i e; subst e; simp at hx; subst hx
   rw [h1] at hv; simp at hv; subst hv
   simp [ρ', ← hH.len]
  ·simp at hx; subst hx; exact getElem?_append_of hv _
 have hfne : ∀ x, x ≠ o → f x = some x := fun x hx => by simp [f, mvf, hx]
 have hfo : f o = some H.length := by simp [f, mvf]
 refine ⟨γ', ρ', ⟨hst.size, hst.defs.lab fun b hb => (by simp [γ', hb]), hst.env.ren hf, ⟨by simp [ρ', hH.len], fun p ob hp => ?_, fun b p hb => ?_⟩, fun p hp => getElem?_append_of (hst.pins p hp) _⟩,
  ⟨rfl, rfl, rfl, Nat.le_refl _, fun b _ hg => ⟨rfl, by simp [γ', hg]⟩, Nat.le_refl _⟩⟩
 ·by_cases hlt : p < H.length
  ·rw [List.getElem?_append_left (by simpa using hlt)] at hp
   by_cases hpo : p = o
   ·subst hpo
    rw [List.getElem?_set_self (by simpa using hlt)] at hp
    simp at hp; subst hp; exact trivial
   ·rw [List.getElem?_set_ne (Ne.symm hpo), List.getElem?_map, List.getElem?_eq_getElem hlt] at hp
    simp at hp
    subst hp
    have h0 := hH.obj p _ (List.getElem?_eq_getElem hlt)
    have hfp := hfne p hpo
    generalize H[p] = ob at h0
    cases ob <;> simp only [AObj.ren]
    ·exact trivial
    ·obtain ⟨b, arr, e, h1, h2, h3, h4⟩ := h0
     exact ⟨b, arr, e, hf _ _ _ hfp h1, by simp [γ', h2, hfp], h3, h4.ren hf⟩
    ·obtain ⟨b, arr, e, fz, h1, h2, h3, h4⟩ := h0
     exact ⟨b, arr, e, fz, hf _ _ _ hfp h1, by simp [γ', h2], h3, h4.ren hf⟩
    ·obtain ⟨u, h1, h2⟩ := h0
     rename_i own c
     refine ⟨u, hf _ _ _ hfp h1, h2.mono fun b hb => ?_⟩
     cases own <;> simp at hb ⊢ <;> simp [γ', hb, hfp]
    ·rename_i s c
     cases hs : mvf o H.length s with
     | none => exact trivial
     | some q =>
       obtain ⟨u, h1, h2⟩ := h0
       exact ⟨u, hf _ _ _ hfp h1, h2.mono fun b hb => by simp [γ', hb]; exact hs⟩
    ·obtain ⟨h1, h2⟩ := h0
     exact ⟨by simp [γ', h1], h2⟩
    ·rename_i own c i k p0
     obtain ⟨b, ofs, cap, h1, h2, h3, h6, h4⟩ := h0
     refine ⟨b, ofs, cap, hf _ _ _ hfp h1, h2, h3.mono fun b hb => ?_, ?_, fun q hq => ?_⟩
     ·cases own <;> simp at hb ⊢ <;> simp [γ', hb, hfp]
     ·cases own <;> simp at h6 ⊢ <;> simp [γ', h6, hfp]
     rw [Option.bind_eq_some_iff] at hq
     obtain ⟨r, hr, hrq⟩ := hq
     obtain ⟨v, h5, hv1, h7⟩ := h4 r hr
     exact ⟨v, hf _ _ _ hrq h5, hv1, h7⟩
    ·obtain ⟨u, h1, h2⟩ := h0
     exact ⟨u, hf _ _ _ hfp h1, h2.mono (fun b hb => by simp [γ', hb, hfp]) (fun b hb => by simp [γ', hb])⟩
    ·obtain ⟨u, h1, h2⟩ := h0
     refine ⟨u, hf _ _ _ hfp h1, h2.to (fun b hb _ => ⟨rfl, by simp [γ', hb, hfp]⟩) (fun q hq => ?_)⟩
     rw [Option.bind_eq_some_iff] at hq
     obtain ⟨r, hr, hrq⟩ := hq
     exact ⟨r, hr, fun v hv => hf _ _ _ hrq hv⟩
    ·obtain ⟨u, h1, h2⟩ := h0
     exact ⟨u, hf _ _ _ hfp h1, h2.to (fun b hb _ => ⟨rfl, by simp [γ', hb, hfp]⟩)⟩
    ·exact ExtP.stay _ h0 (fun _ _ _ => rfl) (Nat.le_refl _) (fun b _ hb => by simp [γ', hb]) (fun b _ hb => by simp [γ', hb, hfp])
  ·have hlt' := (List.getElem?_eq_some_iff.1 hp).1
   have : p = H.length := by simp at hlt'; omega
   subst this
   rw [List.getElem?_append_right (by simp)] at hp
   simp at hp
   subst hp
   refine ⟨u, hf _ _ _ hfo h1, h2.mono fun b hb => ?_⟩
   simp at hb ⊢
   simp [γ', hb, hfo]
 ·simp only [γ', Option.bind_eq_some_iff] at hb
  obtain ⟨x, h3, h4⟩ := hb
  have h5 := hH.lab b x h3
  simp only [f, mvf] at h4
  split at h4
  ·simp at h4; subst h4; exact ⟨by simp, h5.2⟩
  ·simp at h4; subst h4; exact ⟨by simp; omega, h5.2⟩
theorem awp_move (o : Nat) {x : Code} {Q : Exit → Env → List AObj → Prop} {E : Env} (E' : Env) (H' : List AObj) {c : Cont} (h : H[o]? = some (.row true c))
 (hE : E.ren (mvf o H.length) = E') (hH : ((H.map (AObj.ren (mvf o H.length))).set o .dead) ++ [.row true c] = H') (k : awp rq P N pin x Q E' H') : awp rq P N pin x Q E H := by subst hE hH; exact awp_red (Red.move o h) k
def rmf (o : Nat) : Nat → Option Nat := fun x => if x = o then none else some x
end Go.Av
