import Derived.Test.YteoedigfnfjopaaGreatAvM
set_option linter.unusedSimpArgs false
set_option linter.unusedVariables false
namespace Go.Av
open Go
variable {P : Program} {N : Nat} {pin : List Nat} {rq : Option Nat} {γ γ' : Nat → Option Nat} {ρ : List Value} {H : List AObj} {w w' : World}
def Red (N : Nat) (pin : List Nat) (E : Env) (H : List AObj) (E' : Env) (H' : List AObj) : Prop :=
 ∀ πv γ ρ a w, St N pin πv γ ρ E H a w → ∃ γ' ρ', St N pin πv γ' ρ' E' H' a w ∧ Fr γ w γ' w
theorem Red.refl (E : Env) (H : List AObj) : Red N pin E H E H := fun _ γ ρ _ w h => ⟨γ, ρ, h, Fr.refl _ _⟩
theorem Red.trans {E E' E'' : Env} {H H' H'' : List AObj} (h : Red N pin E H E' H') (k : Red N pin E' H' E'' H'') : Red N pin E H E'' H'' :=
 fun πv γ ρ a w hst => let ⟨γ', ρ', h1, h2⟩ := h πv γ ρ a w hst; let ⟨γ'', ρ'', k1, k2⟩ := k πv γ' ρ' a w h1; ⟨γ'', ρ'', k1, h2.trans k2⟩
def Ele (E : Env) : Env → Prop
 | [] => True
 | (t, x) :: r => (E.lookup t = some x ∨ x = .top) ∧ Ele E r
theorem Ele.spec {E : Env} : ∀ {E' : Env}, Ele E E' → ∀ t x, E'.lookup t = some x → E.lookup t = some x ∨ x = .top
 | [], _, t, x, h => by simp at h
 | (s, y) :: r, hE, t, x, h => by
   simp only [List.lookup_cons] at h
   by_cases hts : t = s
   ·subst hts; simp at h; subst h; exact hE.1
   ·have hne : (t == s) = false := by simpa using hts
    rw [hne] at h; exact Ele.spec hE.2 t x h
theorem Red.env {E E' : Env} (h : Ele E E') : Red N pin E H E' H := fun _ γ ρ a w hst =>
 ⟨γ, ρ, ⟨hst.size, hst.defs, fun t x hx => by rcases h.spec t x hx with h1 | rfl; exact hst.env t x h1; exact trivial, hst.heap, hst.pins⟩, Fr.refl _ _⟩
theorem Red.drop {E' : Env} (E : Env) : Red N pin (E' ++ E) H (E' ++ E) H := Red.refl _ _
theorem Red.nil {E : Env} {t : Nat} (c : Cont) (hc : c.rows = []) (h : E.lookup t = some (.v (.slice none 0 0))) : Red N pin E H ((t, .sl H.length) :: E) (H ++ [.row true c]) := fun πv γ ρ a w hst => by
 refine ⟨γ, ρ ++ [.slice none 0 0], ⟨hst.size, hst.defs, fun s x hx => ?_, hst.heap.nilrow c hc none, fun o ho => (pins_ext hst _ o ho).trans (hst.pins o ho)⟩, Fr.refl _ _⟩
 simp only [List.lookup_cons] at hx
 by_cases hst' : s = t
 ·subst hst'
  simp at hx; subst hx
  have := hst.env _ _ h
  rw [rel_v this]
  exact ⟨by rw [← hst.heap.len]; simp, rfl⟩
 ·have hne : (s == t) = false := by simpa using hst'
  rw [hne] at hx; exact (hst.env s x hx).ext _
theorem Red.freeze {E : Env} {o : Nat} {c : Cont} (h : H[o]? = some (.row true c)) : Red N pin E H E ((H.map (AObj.unview o)).set o (.row false c)) := fun πv γ ρ a w hst => by
 have ho : o < H.length := (List.getElem?_eq_some_iff.1 h).1
 have hH := hst.heap
 let γ' : Nat → Option Nat := fun b => if γ b = some o then none else γ b
 have hu := hH.upd (γ' := γ') (w' := w) o ho (ρ.getD o undef) (.row false c) (fun b _ hg => ⟨rfl, by simp [γ', hg]⟩) (Nat.le_refl _)
  (fun b p hb => by
    simp only [γ'] at hb
    split at hb
    ·cases hb
    ·exact .inl ⟨(hH.lab b p hb).2, hb⟩)
  (by
    obtain ⟨u, h1, h2⟩ := hH.obj _ _ h
    refine ⟨u, ?_, h2.ro.mono fun b hb => by simp at hb; simp [γ', hb]⟩
    rw [List.getElem?_set_self (by rw [hH.len]; exact ho)]
    simp [List.getD, h1])
 have hρ : ρ.set o (ρ.getD o undef) = ρ := by
  apply List.ext_getElem?
  intro i
  rw [List.getElem?_set]
  split
  ·rename_i he; subst he
   have hlt : o < ρ.length := by rw [hH.len]; exact ho
   simp [hlt, List.getD]
  ·rfl
 rw [hρ] at hu
 refine ⟨γ', ρ, ⟨hst.size, hst.defs.lab fun b hb => (by simp [γ', hb]), hst.env, ⟨by simpa using hH.len, fun p ob hp => ?_, fun b p hb => ?_⟩, hst.pins⟩, ⟨rfl, rfl, rfl, Nat.le_refl _, fun b _ hg => ⟨rfl, by simp [γ', hg]⟩, Nat.le_refl _⟩⟩
 ·by_cases hpo : p = o
  ·subst hpo
   rw [List.getElem?_set_self (by simpa using ho)] at hp
   simp at hp; subst hp
   exact hu.obj p _ (by rw [List.getElem?_set_self (by simpa using ho)])
  ·rw [List.getElem?_set_ne (Ne.symm hpo), List.getElem?_map] at hp
   cases hH' : H[p]? with
   | none => rw [hH'] at hp; cases hp
   | some ob0 =>
     rw [hH'] at hp; simp at hp; subst hp
     have h0 := hH.obj p ob0 hH'
     have keep : ∀ {own : Bool} {S S' : Nat → Prop} {c : CV} {x : Value}, CRep own w S c x → (∀ b, S b → S' b) → CRep own w S' c x := fun hc h1 => hc.mono h1
     cases ob0 <;> simp only [AObj.unview]
     ·exact trivial
     ·obtain ⟨b, arr, e, h1, h2, h3, h4⟩ := h0
      exact ⟨b, arr, e, h1, by simp [γ', h2, hpo], h3, h4⟩
     ·obtain ⟨b, arr, e, fz, h1, h2, h3, h4⟩ := h0
      exact ⟨b, arr, e, fz, h1, by simp [γ', h2], h3, h4⟩
     ·obtain ⟨x, h1, h2⟩ := h0
      rename_i own c'
      refine ⟨x, h1, keep h2 fun b hb => ?_⟩
      cases own <;> simp at hb ⊢ <;> simp [γ', hb]
      exact hpo
     ·rename_i src c'
      by_cases hsrc : src = o
      ·simp only [if_pos hsrc]; exact trivial
      ·simp only [if_neg hsrc]
       obtain ⟨x, h1, h2⟩ := h0
       exact ⟨x, h1, keep h2 fun b hb => by simp [γ', hb, hsrc]⟩
     ·obtain ⟨h1, h2⟩ := h0
      exact ⟨by simp [γ', h1], h2⟩
     ·rename_i own c' i f q0
      obtain ⟨b, ofs, cap, h1, h2, h3, h6, h4⟩ := h0
      refine ⟨b, ofs, cap, h1, h2, keep h3 fun b hb => ?_, ?_, h4⟩
      ·cases own <;> simp at hb ⊢ <;> simp [γ', hb]
       exact hpo
      ·cases own <;> simp at h6 ⊢ <;> simp [γ', h6]
       exact hpo
     ·obtain ⟨x, h1, h2⟩ := h0
      exact ⟨x, h1, h2.mono (fun b hb => by simp [γ', hb, hpo]) (fun b hb => by simp [γ', hb])⟩
     ·obtain ⟨x, h1, h2⟩ := h0
      exact ⟨x, h1, h2.to (fun b hb _ => ⟨rfl, by simp [γ', hb, hpo]⟩) (fun q hq => ⟨q, hq, fun v hv => hv⟩)⟩
     ·obtain ⟨x, h1, h2⟩ := h0
      exact ⟨x, h1, h2.to (fun b hb _ => ⟨rfl, by simp [γ', hb, hpo]⟩)⟩
     ·exact ExtP.stay _ h0 (fun _ _ _ => rfl) (Nat.le_refl _) (fun b _ hb => by simp only [γ', hb]; simp) (fun b _ hb => by simp [γ', hb, hpo])
 ·simp only [γ'] at hb
  split at hb
  ·cases hb
  ·have := hH.lab b p hb; exact ⟨by simpa using this.1, this.2⟩
theorem MRep.ro {So Sn S : Nat → Prop} {gs : List (Int × List (Int × Int × Int))} {u : Value} (h : MRep w So Sn gs u) (h1 : ∀ b, So b → S b) (h2 : ∀ b, Sn b → S b) :
 CRep false w S (.sl (Cont.graphs gs).esz (Cont.graphs gs).rows) u := by
 obtain ⟨h3, h4⟩ := h
 have hlen : (Cont.graphs gs).rows.length = (gs.map fun g => [cI .i64 g.1, CV.hole]).length := by rw [Cont.len_rows]; simp [Cont.len]
 generalize hR : (gs.map fun g => [cI .i64 g.1, CV.hole]) = R at h3 hlen
 cases h3 with
 | nil _ _ a =>
   have : (Cont.graphs gs).rows = [] := List.eq_nil_of_length_eq_zero hlen
   rw [this]; exact .nil _ _ _
 | ronil _ _ _ _ hf => cases hf
 | row _ _ _ b off cap arr e fz n vals lab hS hb hfz hn hcap hmax hsz hrow hval hrep =>
   refine .row S 2 _ b off cap arr e fz n vals lab (h1 _ hS) hb (fun hf => by cases hf) (hn.trans hlen.symm) hcap hmax hsz (fun r hr => ?_) (fun i f hi hf => hval i f (by omega) hf) (fun i f row c k1 k2 => ?_)
   ·obtain ⟨g, _, rfl⟩ := List.mem_map.1 (by simpa only [Cont.rows] using hr)
    rfl
   ·simp only [Cont.rows, List.getElem?_map] at k1
    cases hg : gs[i]? with
    | none => rw [hg] at k1; cases k1
    | some g =>
      rw [hg] at k1
      obtain rfl := Option.some.inj k1
      have hil : i < R.length := by rw [← hR, List.length_map]; exact (List.getElem?_eq_some_iff.1 hg).1
      have hRi : R[i]? = some [cI .i64 g.1, CV.hole] := by rw [← hR, List.getElem?_map, hg]; rfl
      match f, k2 with
      | 0, k2 =>
        obtain rfl := Option.some.inj k2
        exact (hrep i 0 _ _ hRi rfl).ro.mono fun b' hb' => h1 _ hb'.1 |> fun q => ⟨q, fun hf => by cases hf⟩
      | 1, k2 =>
        obtain rfl := Option.some.inj k2
        obtain ⟨v, q1, q2⟩ := h4 b off n cap rfl i g hg
        have hv := hval i 1 hil (by omega)
        have he : vals i 1 = v := by
         simp only [World.cell?] at q1
         rw [hb] at q1
         simp only [Option.isSome_none, Bool.false_eq_true, if_false] at q1
         rw [hv] at q1
         exact Option.some.inj q1
        rw [he]
        exact q2.mono fun b' hb' => ⟨h2 _ hb', fun hf => by cases hf⟩
      | f + 2, k2 => simp at k2
def AV.ren1 (f : Nat → Option Nat) : AV → AV
 | .sl o => match f o with | some p => .sl p | none => .top
 | .pp o k => match f o with | some p => .pp p k | none => .top
 | .ep o i e k => match f o with | some p => .ep p i e k | none => .top
 | .ip o T => match f o with | some p => .ip p T | none => .top
 | x => x
def AV.ren2 (f : Nat → Option Nat) : AV → AV
 | .agg l => .agg (l.map (AV.ren1 f))
 | x => x.ren1 f
def AV.ren (f : Nat → Option Nat) : AV → AV
 | .tup l => .tup (l.map (AV.ren2 f))
 | x => x.ren2 f
def AObj.ren (f : Nat → Option Nat) : AObj → AObj
 | .box cells => .box (cells.map (AV.ren1 f))
 | .rbox cells => .rbox (cells.map (AV.ren1 f))
 | .view s c => match f s with | some p => .view p c | none => .dead
 | .tak own c i k p => .tak own c i k (p.bind f)
 | .mp m k p => .mp m k (p.bind f)
 | x => x
def Env.ren (f : Nat → Option Nat) (E : Env) : Env := E.map fun p => (p.1, p.2.ren f)
section ren
variable {ρ' : List Value} {f : Nat → Option Nat} (hf : ∀ (o p : Nat) (v : Value), f o = some p → ρ[o]? = some v → ρ'[p]? = some v)
include hf
theorem rel1.ren {x : AV} {u : Value} (h : rel1 ρ x u) : rel1 ρ' (x.ren1 f) u := by
 have hone := h.one
 cases x <;> simp only [AV.ren1]
 ·exact h
 ·exact h
 ·rename_i o
  cases ho : f o with
  | none => exact hone
  | some p => exact ⟨hf _ _ _ ho h.1, h.2⟩
 ·rename_i o k
  cases ho : f o with
  | none => exact hone
  | some p => obtain ⟨b, h1, h2⟩ := h; exact ⟨b, hf _ _ _ ho h1, h2⟩
 ·rename_i o i e k
  cases ho : f o with
  | none => exact hone
  | some p => obtain ⟨b, ofs, n, cap, h1, h2⟩ := h; exact ⟨b, ofs, n, cap, hf _ _ _ ho h1, h2⟩
 ·rename_i o T
  cases ho : f o with
  | none => exact hone
  | some p => obtain ⟨b, h1, h2⟩ := h; exact ⟨b, hf _ _ _ ho h1, h2⟩
 ·exact h
 ·exact h
theorem Rel1s.ren {l : List AV} {cs : List Value} (h : Rel1s ρ l cs) : Rel1s ρ' (l.map (AV.ren1 f)) cs := by
 refine ⟨by simp [h.1], fun j x u hx hu => ?_⟩
 rw [List.getElem?_map] at hx
 cases hl : l[j]? with
 | none => rw [hl] at hx; cases hx
 | some y => rw [hl] at hx; simp at hx; subst hx; exact rel1.ren hf (h.2 j y u hl hu)
theorem rel2.ren {x : AV} {u : Value} (h : rel2 ρ x u) : rel2 ρ' (x.ren2 f) u := by
 have aux : ∀ y : AV, rel1 ρ' y u → rel2 ρ' y u := by
  intro y hy; cases y <;> simp only [rel1, rel2] at hy ⊢
  ·exact hy.1
  ·exact hy
  ·exact hy
  ·exact hy
  ·exact hy
 cases x <;> simp only [AV.ren2]
 ·trivial
 ·exact h
 ·exact aux _ (rel1.ren hf (x := .sl _) h)
 ·exact aux _ (rel1.ren hf (x := .pp _ _) h)
 ·exact aux _ (rel1.ren hf (x := .ep _ _ _ _) h)
 ·exact aux _ (rel1.ren hf (x := .ip _ _) h)
 ·obtain ⟨cs, h1, h2⟩ := h; exact ⟨cs, h1, Rel1s.ren hf h2⟩
 ·exact h
theorem rel.ren {x : AV} {u : Value} (h : rel ρ x u) : rel ρ' (x.ren f) u := by
 have aux : ∀ y : AV, rel2 ρ' y u → rel ρ' y u := by
  intro y hy; cases y <;> first | exact hy | (simp only [rel2] at hy)
 cases x <;> simp only [AV.ren]
 ·exact aux _ (rel2.ren hf (x := .top) h)
 ·exact aux _ (rel2.ren hf (x := .v _) h)
 ·exact aux _ (rel2.ren hf (x := .sl _) h)
 ·exact aux _ (rel2.ren hf (x := .pp _ _) h)
 ·exact aux _ (rel2.ren hf (x := .ep _ _ _ _) h)
 ·exact aux _ (rel2.ren hf (x := .ip _ _) h)
 ·exact aux _ (rel2.ren hf (x := .agg _) h)
 ·obtain ⟨cs, h1, h2⟩ := h
  refine ⟨cs, h1, by simp [h2.1], fun j x u hx hu => ?_⟩
  rename_i l
  rw [List.getElem?_map] at hx
  cases hl : l[j]? with
  | none => rw [hl] at hx; cases hx
  | some y => rw [hl] at hx; simp at hx; subst hx; exact rel2.ren hf (h2.2 j y u hl hu)
theorem EnvOk.ren {E : Env} {tm : Array Value} (h : EnvOk ρ E tm) : EnvOk ρ' (E.ren f) tm := by
 intro t x hx
 have hl : (E.ren f).lookup t = (E.lookup t).map (AV.ren f) := by
  clear hx h
  induction E with
  | nil => rfl
  | cons p E ih =>
    obtain ⟨k, y⟩ := p
    simp only [Env.ren, List.map_cons, List.lookup_cons] at ih ⊢
    cases h : (t == k) <;> simp [ih]
 rw [hl] at hx
 cases hl : E.lookup t with
 | none => rw [hl] at hx; cases hx
 | some y => rw [hl] at hx; simp at hx; subst hx; exact rel.ren hf (h t y hl)
end ren
def pos : List Nat → Nat → Nat → Option Nat
 | [], _, _ => none
 | s :: r, o, k => if s = o then some k else pos r o (k + 1)
theorem pos_spec : ∀ {l : List Nat} {o k p : Nat}, pos l o k = some p → k ≤ p ∧ l[p - k]? = some o
 | [], o, k, p, h => by simp [pos] at h
 | s :: r, o, k, p, h => by
   unfold pos at h
   split at h
   ·rename_i he; simp at h; subst h he; simp
   ·obtain ⟨h1, h2⟩ := pos_spec h
    refine ⟨by omega, ?_⟩
    have : p - k = (p - (k + 1)) + 1 := by omega
    rw [this]; simpa using h2
theorem pos_of : ∀ {l : List Nat} {o i k : Nat}, l.Nodup → l[i]? = some o → pos l o k = some (k + i)
 | [], o, i, k, _, h => by simp at h
 | s :: r, o, i, k, hn, h => by
   unfold pos
   cases i with
   | zero => simp at h; subst h; simp
   | succ i =>
     simp at h
     have hne : s ≠ o := by intro e; subst e; exact (List.nodup_cons.1 hn).1 (List.mem_of_getElem? h)
     rw [if_neg hne, pos_of (List.nodup_cons.1 hn).2 h]
     congr 1; omega
def selH (sel : List Nat) (H : List AObj) : List AObj := sel.map fun o => ((H[o]?).getD .dead).ren (fun x => pos sel x 0)
def selOk (pin sel : List Nat) (n : Nat) : Prop := sel.Nodup ∧ (∀ o ∈ sel, o < n) ∧ ∀ o ∈ pin, pos sel o 0 = some o
theorem Red.sel {E : Env} (sel : List Nat) (hs : selOk pin sel H.length) : Red N pin E H (E.ren (fun x => pos sel x 0)) (selH sel H) := fun πv γ ρ a w hst => by
 obtain ⟨hnd, hlt, hpin⟩ := hs
 have hH := hst.heap
 let f := fun x => pos sel x 0
 let ρ' := sel.map fun o => ρ.getD o undef
 have hf : ∀ (o p : Nat) (v : Value), f o = some p → ρ[o]? = some v → ρ'[p]? = some v := by
  intro o p v h1 h2
  obtain ⟨_, h3⟩ := pos_spec h1
  simp only [Nat.sub_zero] at h3
  simp [ρ', h3, List.getD, h2]
 let γ' : Nat → Option Nat := fun b => (γ b).bind f
 refine ⟨γ', ρ', ⟨hst.size, hst.defs.lab fun b hb => (by simp [γ', hb]), hst.env.ren hf, ⟨by simp [ρ', selH], fun p ob hp => ?_, fun b p hb => ?_⟩, fun o ho => hf o o _ (hpin o ho) (hst.pins o ho)⟩,
  ⟨rfl, rfl, rfl, Nat.le_refl _, fun b _ hg => ⟨rfl, by simp [γ', hg]⟩, Nat.le_refl _⟩⟩
 ·simp only [selH, List.getElem?_map] at hp
  cases ho : sel[p]? with
  | none => rw [ho] at hp; cases hp
  | some o =>
    rw [ho] at hp
    simp at hp
    subst hp
    have hol : o < H.length := hlt o (List.mem_of_getElem? ho)
    have hfo : f o = some p := by have := pos_of (k := 0) hnd ho; simpa using this
    have h0 := hH.obj o _ (List.getElem?_eq_getElem hol)
    rw [List.getElem?_eq_getElem hol]
    simp only [Option.getD_some]
    generalize H[o] = ob at h0
    cases ob <;> simp only [AObj.ren]
    ·exact trivial
    ·obtain ⟨b, arr, e, h1, h2, h3, h4⟩ := h0
     exact ⟨b, arr, e, hf _ _ _ hfo h1, by simp [γ', h2, hfo], h3, h4.ren hf⟩
    ·obtain ⟨b, arr, e, fz, h1, h2, h3, h4⟩ := h0
     exact ⟨b, arr, e, fz, hf _ _ _ hfo h1, by simp [γ', h2], h3, h4.ren hf⟩
    ·obtain ⟨u, h1, h2⟩ := h0
     rename_i own c
     refine ⟨u, hf _ _ _ hfo h1, h2.mono fun b hb => ?_⟩
     cases own <;> simp at hb ⊢ <;> simp [γ', hb, hfo]
    ·rename_i s c
     cases hs : pos sel s 0 with
     | none => exact trivial
     | some q =>
       obtain ⟨u, h1, h2⟩ := h0
       exact ⟨u, hf _ _ _ hfo h1, h2.mono fun b hb => by simp [γ', hb]; exact hs⟩
    ·obtain ⟨h1, h2⟩ := h0
     exact ⟨by simp [γ', h1], h2⟩
    ·rename_i own c i k p
     obtain ⟨b, ofs, cap, h1, h2, h3, h6, h4⟩ := h0
     refine ⟨b, ofs, cap, hf _ _ _ hfo h1, h2, h3.mono fun b hb => ?_, ?_, fun q hq => ?_⟩
     ·cases own <;> simp at hb ⊢ <;> simp [γ', hb, hfo]
     ·cases own <;> simp at h6 ⊢ <;> simp [γ', h6, hfo]
     rw [Option.bind_eq_some_iff] at hq
     obtain ⟨r, hr, hrq⟩ := hq
     obtain ⟨v, h5, hv1, h7⟩ := h4 r hr
     exact ⟨v, hf _ _ _ hrq h5, hv1, h7⟩
    ·obtain ⟨u, h1, h2⟩ := h0
     exact ⟨u, hf _ _ _ hfo h1, h2.mono (fun b hb => by simp [γ', hb, hfo]) (fun b hb => by simp [γ', hb])⟩
    ·obtain ⟨u, h1, h2⟩ := h0
     refine ⟨u, hf _ _ _ hfo h1, h2.to (fun b hb _ => ⟨rfl, by simp [γ', hb, hfo]⟩) (fun q hq => ?_)⟩
     rw [Option.bind_eq_some_iff] at hq
     obtain ⟨r, hr, hrq⟩ := hq
     exact ⟨r, hr, fun v hv => hf _ _ _ hrq hv⟩
    ·obtain ⟨u, h1, h2⟩ := h0
     exact ⟨u, hf _ _ _ hfo h1, h2.to (fun b hb _ => ⟨rfl, by simp [γ', hb, hfo]⟩)⟩
    ·exact ExtP.stay _ h0 (fun _ _ _ => rfl) (Nat.le_refl _) (fun b _ hb => by simp [γ', hb]) (fun b _ hb => by simp [γ', hb, hfo])
 ·simp only [γ', Option.bind_eq_some_iff] at hb
  obtain ⟨o, h1, h2⟩ := hb
  obtain ⟨_, h3⟩ := pos_spec h2
  simp only [Nat.sub_zero] at h3
  exact ⟨by simp [selH]; exact (List.getElem?_eq_some_iff.1 h3).1, (hH.lab b o h1).2⟩
def Thn (K : Env → List AObj → Prop) (Q : Exit → Env → List AObj → Prop) : Exit → Env → List AObj → Prop
 | .normal, E, H => K E H
 | e, E, H => Q e E H
def InBlk (id : Nat) (Q : Exit → Env → List AObj → Prop) : Exit → Env → List AObj → Prop
 | .exit i, E, H => if i = id then Q .normal E H else Q (.exit i) E H
 | e, E, H => Q e E H
theorem awp_red {c : Code} {Q : Exit → Env → List AObj → Prop} {E E' : Env} {H H' : List AObj} (h : Red N pin E H E' H') (k : awp rq P N pin c Q E' H') : awp rq P N pin c Q E H := fun πv γ ρ a w hst => by
 obtain ⟨γ', ρ', h1, h2⟩ := h πv γ ρ a w hst
 exact wpIn_mono (k πv γ' ρ' a w h1) fun e a w ⟨γ2, ρ2, E2, H2, hq, hs, hf⟩ => ⟨γ2, ρ2, E2, H2, hq, hs, h2.trans hf⟩
theorem awp_mono {c : Code} {Q Q' : Exit → Env → List AObj → Prop} {E : Env} {H : List AObj} (h : awp rq P N pin c Q E H) (hq : ∀ e E H, Q e E H → Q' e E H) : awp rq P N pin c Q' E H := fun πv γ ρ a w hst =>
 wpIn_mono (h πv γ ρ a w hst) fun e a w ⟨γ2, ρ2, E2, H2, h1, h2⟩ => ⟨γ2, ρ2, E2, H2, hq _ _ _ h1, h2⟩
theorem awp_seq {x y : Code} {Q : Exit → Env → List AObj → Prop} {E : Env} {H : List AObj} (h : ∀ K : Env → List AObj → Prop, (∀ E H, awp rq P N pin y Q E H → K E H) → awp rq P N pin x (Thn K Q) E H) : awp rq P N pin (.seq x y) Q E H := fun πv γ ρ a w hst => by
 refine wpIn_seq (wpIn_mono (h _ (fun _ _ h => h) πv γ ρ a w hst) fun e a1 w1 ⟨γ2, ρ2, E2, H2, hq, hs, hf⟩ => ?_)
 cases e with
 | normal => exact wpIn_mono (hq πv γ2 ρ2 a1 w1 hs) fun e a w ⟨γ3, ρ3, E3, H3, hq3, hs3, hf3⟩ => ⟨γ3, ρ3, E3, H3, hq3, hs3, hf.trans hf3⟩
 | _ => exact ⟨γ2, ρ2, E2, H2, hq, hs, hf⟩
theorem awp_region {ft : FuncId → Option (List Value → Option (Prop × Value))} (hft : PTab P ft) {id : Nat} {l : List Oper} {Q : Exit → Env → List AObj → Prop} {E : Env} {H : List AObj} (h : vcOps P N pin ft l.toArray l (Q .normal) E H)
 (hnd : noDefer l.toArray = true := by rfl) : awp rq P N pin (.region id l.toArray false) Q E H := fun πv γ ρ a w hst =>
 wpIn_mono (wpIn_lit hnd (fun _ _ h => by cases h.1) (vcOps_sound hft h πv γ ρ a w hst)) fun e a w ⟨he, γ2, ρ2, E2, H2, hq, hs⟩ => by subst he; exact ⟨γ2, ρ2, E2, H2, hq, hs⟩
theorem awp_skip {Q : Exit → Env → List AObj → Prop} {E : Env} {H : List AObj} (h : Q .normal E H) : awp rq P N pin .skip Q E H := fun _ γ ρ _ w hst => wpIn_skip ⟨γ, ρ, E, H, h, hst, Fr.refl _ _⟩
theorem awp_ret {Q : Exit → Env → List AObj → Prop} {E : Env} {H : List AObj} (h : Q .ret E H) : awp rq P N pin .ret Q E H := fun _ γ ρ _ w hst => wpIn_ret ⟨γ, ρ, E, H, h, hst, Fr.refl _ _⟩
theorem awp_exit {id : Nat} {Q : Exit → Env → List AObj → Prop} {E : Env} {H : List AObj} (h : Q (.exit id) E H) : awp rq P N pin (.exit id) Q E H := fun _ γ ρ _ w hst => wpIn_exit ⟨γ, ρ, E, H, h, hst, Fr.refl _ _⟩
theorem awp_cond {t : Nat} {b : Bool} {x y : Code} {Q : Exit → Env → List AObj → Prop} {E : Env} {H : List AObj} (hc : E.lookup t = some (.v (.bool b))) (ht : b = true → awp rq P N pin x Q E H) (hf : b = false → awp rq P N pin y Q E H) :
 awp rq P N pin (.cond (.tmp t) x y) Q E H := fun πv γ ρ a w hst =>
 wpIn_cond_split (t := b) (by have := hst.env t _ hc; exact rel_v this) (fun h => ht h πv γ ρ a w hst) (fun h => hf h πv γ ρ a w hst)
theorem awp_block {id : Nat} {c : Code} {Q : Exit → Env → List AObj → Prop} {E : Env} {H : List AObj} (h : awp rq P N pin c (InBlk id Q) E H) : awp rq P N pin (.block id c) Q E H := fun πv γ ρ a w hst => by
 refine wpIn_block (wpIn_mono (h πv γ ρ a w hst) fun e a w ⟨γ2, ρ2, E2, H2, hq, hs⟩ => ?_)
 cases e with
 | exit i =>
   simp only [Exit.inBlock, InBlk] at hq ⊢
   split
   ·rename_i hi; rw [if_pos hi] at hq; exact ⟨γ2, ρ2, E2, H2, hq, hs⟩
   ·rename_i hi; rw [if_neg hi] at hq; exact ⟨γ2, ρ2, E2, H2, hq, hs⟩
 | _ => exact ⟨γ2, ρ2, E2, H2, hq, hs⟩
theorem least {p : Nat → Prop} : ∀ n, p n → ∃ k, p k ∧ ∀ j, p j → k ≤ j := by
 intro n
 induction n using Nat.strongRecOn with
 | _ n ih =>
   intro hn
   by_cases h : ∃ j, j < n ∧ p j
   ·obtain ⟨j, hj, hp⟩ := h; exact ih j hj hp
   ·exact ⟨n, hn, fun j hj => by
     apply Nat.le_of_not_lt; intro hlt; exact h ⟨j, hlt, hj⟩⟩
theorem awp_loop {σ : Type} (ok : σ → Prop) (I : σ → Env) (J : σ → List AObj) (m : σ → Nat) {c : Code} {Q : Exit → Env → List AObj → Prop} {E : Env} {H : List AObj} (s0 : σ) (h0 : ok s0) (hs : Red N pin E H (I s0) (J s0))
 (round : ∀ s, ok s → awp rq P N pin c (Thn (fun E' H' => ∃ s', ok s' ∧ m s' < m s ∧ Red N pin E' H' (I s') (J s')) Q) (I s) (J s)) : awp rq P N pin (.loop c) Q E H := fun πv γ0 ρ0 a0 w0 hst0 => by
 let R : σ → Act → World → Prop := fun s a w => ok s ∧ ∃ γ ρ, St N pin πv γ ρ (I s) (J s) a w ∧ Fr γ0 w0 γ w
 have hex : ∀ (a : Act) (w : World), (∃ s, R s a w) → ∃ k, (∃ s, R s a w ∧ m s = k) ∧ ∀ j, (∃ s, R s a w ∧ m s = j) → k ≤ j := fun a w ⟨s, hs⟩ => least _ ⟨s, hs, rfl⟩
 let μ : Act → World → Nat := fun a w => @dite _ (∃ s, R s a w) (Classical.propDecidable _) (fun h => Classical.choose (hex a w h)) (fun _ => 0)
 have hμ : ∀ (a : Act) (w : World) (h : ∃ s, R s a w), (∃ s, R s a w ∧ m s = μ a w) ∧ ∀ j, (∃ s, R s a w ∧ m s = j) → μ a w ≤ j := fun a w h => by
  have : μ a w = Classical.choose (hex a w h) := by simp only [μ]; rw [dif_pos h]
  rw [this]; exact Classical.choose_spec (hex a w h)
 obtain ⟨γ1, ρ1, hst1, hf1⟩ := hs πv γ0 ρ0 a0 w0 hst0
 refine wpIn_loop (fun a w => ∃ s, R s a w) μ ⟨s0, h0, γ1, ρ1, hst1, hf1⟩ fun a w hI => ?_
 obtain ⟨⟨s, ⟨hok, γ, ρ, hst, hf⟩, hm⟩, _⟩ := hμ a w hI
 refine wpIn_mono (round s hok πv γ ρ a w hst) fun e a2 w2 ⟨γ2, ρ2, E2, H2, hq, hs2, hf2⟩ => ?_
 cases e with
 | normal =>
   obtain ⟨s', hok', hlt, hred⟩ := hq
   obtain ⟨γ3, ρ3, hst3, hf3⟩ := hred πv γ2 ρ2 a2 w2 hs2
   have hR : R s' a2 w2 := ⟨hok', γ3, ρ3, hst3, hf.trans (hf2.trans hf3)⟩
   refine ⟨⟨s', hR⟩, ?_⟩
   have := (hμ a2 w2 ⟨s', hR⟩).2 _ ⟨s', hR, rfl⟩
   omega
 | _ => exact ⟨γ2, ρ2, E2, H2, hq, hs2, hf.trans hf2⟩
end Go.Av
