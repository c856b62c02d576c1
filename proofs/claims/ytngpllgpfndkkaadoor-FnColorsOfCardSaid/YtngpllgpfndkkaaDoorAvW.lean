/- Calls that see all of the caller's objects; slices under a second number. -/
import Derived.Test.YtngpllgpfndkkaaDoorAvV
import Derived.Lib.Tables
set_option linter.unusedSimpArgs false
set_option linter.unusedVariables false
namespace Go.Av
open Go

variable {P : Program} {N : Nat} {pin : List Nat} {γ γ' : Nat → Option Nat} {ρ : List Value} {H : List AObj} {w w' : World}

set_option maxRecDepth 100000 in
/-- The table of the numbers of bits, as the program's text holds it. -/
theorem pop8_fold : (⟨((([0, 1, 1, 2, 1, 2, 2, 3, 1, 2, 2, 3, 2, 3, 3, 4, 1, 2, 2, 3, 2, 3, 3, 4, 2, 3, 3, 4, 3, 4, 4, 5, 1, 2, 2, 3, 2, 3, 3, 4, 2, 3, 3, 4, 3, 4, 4, 5, 2, 3, 3, 4, 3, 4, 4, 5, 3, 4, 4, 5, 4, 5, 5, 6] : List UInt8).append ([1, 2, 2, 3, 2, 3, 3, 4, 2, 3, 3, 4, 3, 4, 4, 5, 2, 3, 3, 4, 3, 4, 4, 5, 3, 4, 4, 5, 4, 5, 5, 6, 2, 3, 3, 4, 3, 4, 4, 5, 3, 4, 4, 5, 4, 5, 5, 6, 3, 4, 4, 5, 4, 5, 5, 6, 4, 5, 5, 6, 5, 6, 6, 7] : List UInt8)).append (([1, 2, 2, 3, 2, 3, 3, 4, 2, 3, 3, 4, 3, 4, 4, 5, 2, 3, 3, 4, 3, 4, 4, 5, 3, 4, 4, 5, 4, 5, 5, 6, 2, 3, 3, 4, 3, 4, 4, 5, 3, 4, 4, 5, 4, 5, 5, 6, 3, 4, 4, 5, 4, 5, 5, 6, 4, 5, 5, 6, 5, 6, 6, 7] : List UInt8).append ([2, 3, 3, 4, 3, 4, 4, 5, 3, 4, 4, 5, 4, 5, 5, 6, 3, 4, 4, 5, 4, 5, 5, 6, 4, 5, 5, 6, 5, 6, 6, 7, 3, 4, 4, 5, 4, 5, 5, 6, 4, 5, 5, 6, 5, 6, 6, 7, 4, 5, 5, 6, 5, 6, 6, 7, 5, 6, 6, 7, 6, 7, 7, 8] : List UInt8))).toArray⟩ : ByteArray) = Lib.pop8tab := rfl

/-- A slice that is only read gets a second number. -/
theorem Red.dup {E : Env} {t o : Nat} {c : Cont} (he : E.lookup t = some (.sl o)) (h : H[o]? = some (.row false c)) : Red N pin E H ((t, .sl H.length) :: E) (H ++ [.row false c]) := fun πv γ ρ a w hst => by
  obtain ⟨u, h1, h2⟩ := hst.heap.obj o _ h
  have hr := hst.env t _ he
  have hr1 : rel1 ρ (.sl o) (a.tmps.getD t undef) := hr
  have hu : a.tmps.getD t undef = u := by
    have := hr1.1; rw [h1] at this; exact (Option.some.inj this).symm
  refine ⟨γ, ρ ++ [u], ⟨hst.size, hst.defs, fun s x hx => ?_, ?_, fun o ho => (pins_ext hst _ o ho).trans (hst.pins o ho)⟩, Fr.refl _ _⟩
  · simp only [List.lookup_cons] at hx
    by_cases hs : s = t
    · subst hs; simp at hx; subst hx
      exact ⟨by rw [hu, ← hst.heap.len]; simp, hr1.2⟩
    · have hne : (s == t) = false := by simpa using hs
      rw [hne] at hx
      exact (hst.env s x hx).ext _
  · refine hst.heap.push u _ (fun b _ => ⟨rfl, rfl⟩) (Nat.le_refl _) (fun b o hb hg => ?_) ⟨u, by rw [← hst.heap.len]; simp, h2⟩
    exact absurd (hst.heap.lab b o hg).2 (by omega)

/-- The part of a slice becomes a slice of one's own, and the slice goes. -/
theorem Red.promote {E : Env} (s v : Nat) {c d : Cont} (hs : H[s]? = some (.row true c)) (hv : H[v]? = some (.view s d)) :
    Red N pin E H E (((H.map (AObj.unview s)).set s .dead).set v (.row true d)) := fun πv γ ρ a w hst => by
  have hH := hst.heap
  have hsl := (List.getElem?_eq_some_iff.1 hs).1
  have hvl := (List.getElem?_eq_some_iff.1 hv).1
  have hne : v ≠ s := by intro e; subst e; rw [hs] at hv; cases hv
  let γ' : Nat → Option Nat := fun b => if γ b = some s then some v else γ b
  refine ⟨γ', ρ, ⟨hst.size, hst.defs, hst.env, ⟨by simpa using hH.len, fun p ob hp => ?_, fun b p hb => ?_⟩, hst.pins⟩, ⟨rfl, rfl, rfl, Nat.le_refl _, fun b _ hg => ⟨rfl, by simp [γ', hg]⟩⟩⟩
  · by_cases hpv : p = v
    · subst hpv
      rw [List.getElem?_set_self (by simpa using hvl)] at hp
      simp at hp; subst hp
      obtain ⟨u, h1, h2⟩ := hH.obj _ _ hv
      exact ⟨u, h1, h2.mono fun b hb => by simp [γ', hb]⟩
    · rw [List.getElem?_set_ne (Ne.symm hpv)] at hp
      by_cases hps : p = s
      · subst hps
        rw [List.getElem?_set_self (by simpa using hsl)] at hp
        simp at hp; subst hp; exact trivial
      · rw [List.getElem?_set_ne (Ne.symm hps), List.getElem?_map] at hp
        cases hH' : H[p]? with
        | none => rw [hH'] at hp; cases hp
        | some ob0 =>
          rw [hH'] at hp; simp at hp; subst hp
          have h0 := hH.obj p ob0 hH'
          cases ob0 <;> simp only [AObj.unview]
          · exact trivial
          · obtain ⟨b, arr, e, h1, h2, h3, h4⟩ := h0
            exact ⟨b, arr, e, h1, by simp [γ', h2, hps], h3, h4⟩
          · obtain ⟨b, arr, e, fz, h1, h2, h3, h4⟩ := h0
            exact ⟨b, arr, e, fz, h1, by simp [γ', h2], h3, h4⟩
          · obtain ⟨x, h1, h2⟩ := h0
            rename_i own c'
            refine ⟨x, h1, h2.mono fun b hb => ?_⟩
            cases own <;> simp at hb ⊢ <;> simp [γ', hb]
            exact fun h => absurd h hps
          · rename_i src c'
            by_cases hsrc : src = s
            · simp only [if_pos hsrc]; exact trivial
            · simp only [if_neg hsrc]
              obtain ⟨x, h1, h2⟩ := h0
              exact ⟨x, h1, h2.mono fun b hb => by simp [γ', hb, hsrc]⟩
          · obtain ⟨h1, h2⟩ := h0
            exact ⟨by simp [γ', h1], h2⟩
          · rename_i own c' i f q0
            obtain ⟨b, ofs, cap, h1, h2, h3, h6, h4⟩ := h0
            refine ⟨b, ofs, cap, h1, h2, h3.mono fun b hb => ?_, ?_, h4⟩
            · cases own <;> simp at hb ⊢ <;> simp [γ', hb]
              exact fun h => absurd h hps
            · cases own <;> simp at h6 ⊢ <;> simp [γ', h6]
              exact fun h => absurd h hps
  · simp only [γ'] at hb
    split at hb
    · rename_i hbs
      simp at hb; subst hb
      exact ⟨by simpa using hvl, (hH.lab b s hbs).2⟩
    · have := hH.lab b p hb; exact ⟨by simpa using this.1, this.2⟩
theorem awp_promote (s v : Nat) {x : Code} {Q : Exit → Env → List AObj → Prop} {E : Env} {H' : List AObj} {c d : Cont} (hs : H[s]? = some (.row true c)) (hv : H[v]? = some (.view s d))
    (hH : ((H.map (AObj.unview s)).set s .dead).set v (.row true d) = H') (k : awp P N pin x Q E H') : awp P N pin x Q E H := by subst hH; exact awp_red (Red.promote s v hs hv) k

/-- A call whose contract speaks of all of the caller's objects. -/
theorem OpK_here {f : FuncId} {as : List AV} {H : List AObj} {R : AV → List AObj → Prop} (hc : FnA P f as H [] R) {d : Option Nat} {c : Call} {ty : TypeId} {pos' : String} {after : Array Edge} {K : Env → List AObj → Prop} {E : Env}
    (hk : ∀ x H', R x H' → H.length ≤ H'.length → K (E.put d x) H')
    (hcal : c.callee = .value (.func f) := by rfl) (hargs : c.args.toList.map (ev E) = as := by rfl) (hd : dstOk N d = true := by rfl) (hp : ∀ o ∈ pin, o < H.length := by simp) :
    OpK P N pin ⟨d, .call c, ty, pos', after, none⟩ K E H := by
  intro πv γ ρ a w hst K' Q' hK
  have hus : Rels ρ as (c.args.toList.map a.eval) := by
    subst hargs
    refine ⟨by simp, fun j y u hy hu => ?_⟩
    rw [List.getElem?_map] at hy hu
    cases hx : c.args.toList[j]? with
    | none => rw [hx] at hy; cases hy
    | some z => rw [hx] at hy hu; simp at hy hu; subst hy hu; exact ev_rel hst.env z
  obtain ⟨callee, args, tys⟩ := c
  simp only at hcal
  subst hcal
  have hcalls := hc.calls γ ρ _ w hst.heap hus
  unfold Oper.wp
  rw [run_call_enter hc.enters rfl rfl]
  simp only [Oper.upon]
  refine hcalls.mono ?_
  rintro e w' ⟨r, x, γ1, ρ1, H', rfl, hR, hx, hH1, hfr, hlen, hkeep⟩
  have hρ : ∀ (o : Nat) (v : Value), ρ[o]? = some v → ρ1[o]? = some v := fun o v ho => by
    have hlt : o < H.length := by rw [← hst.heap.len]; exact (List.getElem?_eq_some_iff.1 ho).1
    rw [hkeep o hlt (by simp)]; exact ho
  have hE : EnvOk ρ1 E a.tmps := fun t y hy => by
    have h1 := (hst.env t y hy).killp (l := []) (fun o v _ ho => hρ o v ho)
    have h2 : y.killp [] = y := by
      have e1 : ∀ z : AV, z.killp1 [] = z := fun z => by cases z <;> simp [AV.killp1]
      have e2 : ∀ z : AV, z.killp2 [] = z := fun z => by
        cases z <;> simp only [AV.killp2, e1]
        rename_i l
        rw [show l.map (AV.killp1 []) = l from by rw [List.map_congr_left (g := id) (fun z _ => e1 z)]; simp]
      cases y <;> simp only [AV.killp, e2]
      rename_i l
      rw [show l.map (AV.killp2 []) = l from by rw [List.map_congr_left (g := id) (fun z _ => e2 z)]; simp]
    rw [h2] at h1; exact h1
  exact hK r w' γ1 ρ1 _ H' (hk x H' hR hlen) (hst.put hd hx hE hH1 (fun o ho => by
    have hlt := hp o ho
    exact hkeep o hlt (by simp))) hfr
theorem wpA_here {f : FuncId} {as : List AV} {H : List AObj} {R : AV → List AObj → Prop} (hc : FnA P f as H [] R) {ops : Array Oper} {d : Option Nat} {c : Call} {ty : TypeId} {pos' : String} {after : Array Edge} {rest : List Oper} {K : Env → List AObj → Prop} {E : Env}
    (hk : ∀ x H', R x H' → H.length ≤ H'.length → wpA P N pin ops rest K (E.put d x) H')
    (hcal : c.callee = .value (.func f) := by rfl) (hargs : c.args.toList.map (ev E) = as := by rfl) (hd : dstOk N d = true := by rfl) (hp : ∀ o ∈ pin, o < H.length := by simp) :
    wpA P N pin ops (⟨d, .call c, ty, pos', after, none⟩ :: rest) K E H := wpA_opK rfl (OpK_here hc hk hcal hargs hd hp)
end Go.Av
