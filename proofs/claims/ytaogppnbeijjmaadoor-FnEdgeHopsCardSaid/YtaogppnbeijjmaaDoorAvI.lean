/- Operations that change memory, on abstract states. -/
import Derived.Test.YtaogppnbeijjmaaDoorAvH
set_option linter.unusedSimpArgs false
set_option linter.unusedVariables false
namespace Go.Av
open Go

variable {P : Program} {N : Nat} {pin : List Nat} {γ γ' : Nat → Option Nat} {ρ : List Value} {H : List AObj} {w w' : World}

/-- Object o is changed in place. -/
theorem HeapOk.upd0 (h : HeapOk γ ρ H w) (o : Nat) (ho : o < H.length) (ob : AObj)
    (hs : ∀ b, b < w.heap.size → γ b ≠ some o → w'.heap[b]? = w.heap[b]?) (hsz : w.heap.size ≤ w'.heap.size)
    (hob : has γ ρ w' o ob) : HeapOk γ ρ ((H.map (AObj.unview o)).set o ob) w' := by
  refine ⟨by simp [h.len], fun p ob' hp => ?_, fun b p hb => ?_⟩
  · by_cases hpo : p = o
    · subst hpo
      rw [List.getElem?_set_self (by simpa using ho)] at hp
      simp at hp
      subst hp
      exact hob
    · rw [List.getElem?_set_ne (Ne.symm hpo), List.getElem?_map] at hp
      cases hH : H[p]? with
      | none => rw [hH] at hp; cases hp
      | some ob0 =>
        rw [hH] at hp
        simp at hp
        have h0 := h.obj p ob0 hH
        have stay : ∀ {own : Bool} {S : Nat → Prop} {c : CV} {x : Value}, CRep own w S c x → (∀ b, S b → γ b ≠ some o) → CRep own w' S c x :=
          fun hc h1 => hc.stay fun b hb hlt => ⟨hs b hlt (h1 b hb), hb⟩
        subst hp
        cases ob0 <;> simp only [AObj.unview]
        · exact trivial
        · obtain ⟨b, arr, e, h1, h2, h3, h4⟩ := h0
          have hb := (h.lab b p h2).2
          have hne : γ b ≠ some o := by rw [h2]; simpa using hpo
          exact ⟨b, arr, e, h1, h2, (hs b hb hne).trans h3, h4⟩
        · obtain ⟨b, arr, e, fz, h1, h2, h3, h4⟩ := h0
          exact ⟨b, arr, e, fz, h1, h2, (hs b (Array.getElem?_eq_some_iff.1 h3).1 (by rw [h2]; simp)).trans h3, h4⟩
        · obtain ⟨x, h1, h2⟩ := h0
          rename_i own c
          refine ⟨x, h1, stay h2 (fun b hb => ?_)⟩
          rw [hb]; cases own <;> simp; exact hpo
        · rename_i src c
          by_cases hsrc : src = o
          · simp only [if_pos hsrc]; exact trivial
          · simp only [if_neg hsrc]
            obtain ⟨x, h1, h2⟩ := h0
            exact ⟨x, h1, stay h2 (fun b hb => by rw [hb]; simpa using hsrc)⟩
        · obtain ⟨h1, arr, e, fz, h2, h3⟩ := h0
          exact ⟨h1, arr, e, fz, (hs _ (Array.getElem?_eq_some_iff.1 h2).1 (by rw [h1]; simp)).trans h2, h3⟩
        · rename_i own c i f q0
          obtain ⟨b, ofs, cap, h1, h2, h3, h6, h4⟩ := h0
          have hnx : (if own = true then some p else none) ≠ some o := by cases own <;> simp [hpo]
          refine ⟨b, ofs, cap, h1, h2, stay h3 (fun b hb => by rw [hb]; exact hnx), h6, fun q hq => ?_⟩
          obtain ⟨v, h5, hv1, h7⟩ := h4 q hq
          have hne : γ b ≠ some o := by rw [h6]; exact hnx
          exact ⟨v, h5, hv1, by rw [World.cell?_of_block (w := w) (hs b (World.block_lt_of_cell? w _ h7) hne)]; exact h7⟩
  · have := h.lab b p hb; exact ⟨by simpa using this.1, by omega⟩

theorem Fr.own {o b0 : Nat} {arr : Array Value} (hb : γ b0 = some o) : Fr γ w γ (w.setRow b0 arr) :=
  ⟨rfl, by rfl, rfl, by simp, fun b _ hg => ⟨setRow_other w b0 b arr (fun e => by subst e; rw [hb] at hg; cases hg), hg⟩, by exact Nat.le_refl _⟩

def valsOf : List AV → Option (List Value)
  | [] => some []
  | x :: l => match x, valsOf l with
    | .v y, some m => some (y :: m)
    | _, _ => none

theorem valsOf_ok : ∀ {l : List AV} {vs cs : List Value}, valsOf l = some vs → Rel1s ρ l cs → cs = vs
  | [], vs, cs, h, hr => by simp [valsOf] at h; subst h; exact List.eq_nil_of_length_eq_zero hr.1
  | x :: l, vs, cs, h, hr => by
    unfold valsOf at h
    cases x
    case v y =>
     cases hv : valsOf l with
     | none => rw [hv] at h; cases h
     | some m =>
      rw [hv] at h
      simp at h
      subst h
      match cs, hr with
      | [], hr => exact absurd hr.1 (by simp)
      | c :: cs, hr =>
        have h0 := hr.2 0 _ c rfl rfl
        have ht : Rel1s ρ l cs := ⟨by have := hr.1; simpa using this, fun j x u hx hu => hr.2 (j + 1) x u (by simpa using hx) (by simpa using hu)⟩
        rw [valsOf_ok hv ht, h0.1]
    all_goals (simp at h)

/-- A new variable that holds a value. -/
def boxE (H : List AObj) (x : AV) : Option (List AObj × AV) := (asCells x).map fun l => (H ++ [.box l], .pp H.length 0)

theorem boxE_run (hH : HeapOk γ ρ H w) {T : TypeId} {x y : AV} {H' : List AObj} {u : Value} (h : boxE H x = some (H', y)) (hu : rel ρ x u) :
    ∃ v w' γ' p, (Instr.box T u).run P w = .ok v w' ∧ HeapOk γ' (ρ ++ [p]) H' w' ∧ rel (ρ ++ [p]) y v ∧ Fr γ w γ' w' := by
  unfold boxE at h
  cases hl : asCells x with
  | none => rw [hl] at h; cases h
  | some l =>
    rw [hl] at h
    simp at h
    obtain ⟨rfl, rfl⟩ := h
    obtain ⟨cs, h1, h2⟩ := asCells_ok hl hu
    refine ⟨.pointer (some ⟨w.heap.size, 0, none⟩), w.alloc (.cells cs.toArray T), _, _, ?_, hH.box cs l T h2, ?_, Fr.alloc _ _ _ _⟩
    · simp [Instr.box, newVar, newRow, h1]
    · exact ⟨w.heap.size, by rw [← hH.len]; simp, rfl⟩

/-- A store through a pointer. -/
def storeE (P : Program) (H : List AObj) (T : TypeId) (p x : AV) : Option (Prop × List AObj) :=
  match asCells x, tsz P T with
  | some l, some n => if l.length = n then
      match p with
      | .pp o off => match H[o]? with
        | some (.box cells) => if off + n ≤ cells.length then some (True, (H.map (AObj.unview o)).set o (.box (cells.take off ++ l ++ cells.drop (off + n)))) else none
        | _ => none
      | .ep o i esz f => match H[o]? with
        | some (.row true c) => if c.esz = esz then (match valsOf l with
            | some vs => (c.sets i f vs).map fun c' => (i < c.len, (H.map (AObj.unview o)).set o (.row true c'))
            | none => none) else none
        | _ => none
      | _ => none
    else none
  | _, _ => none

theorem storeE_run (hH : HeapOk γ ρ H w) {T : TypeId} {p x : AV} {q : Prop} {H' : List AObj} {up u : Value} (h : storeE P H T p x = some (q, H')) (hq : q) (hp : rel ρ p up) (hu : rel ρ x u) :
    ∃ w', (Instr.storeAt T up u).run P w = .ok () w' ∧ HeapOk γ ρ H' w' ∧ Fr γ w γ w' := by
  unfold storeE at h
  split at h
  · rename_i l n hl hn
    split at h
    · rename_i hln
      obtain ⟨cs, hc1, hc2⟩ := asCells_ok hl hu
      have hcl : cs.length = n := by rw [hc2.1, hln]
      have hone : ∀ v ∈ cs, v.oneCell' = true := by
        intro v hv
        obtain ⟨j, hj, rfl⟩ := List.getElem_of_mem hv
        have hj' : j < l.length := by rw [← hc2.1]; exact hj
        exact (hc2.2 j l[j] cs[j] (List.getElem?_eq_getElem hj') (List.getElem?_eq_getElem hj)).one
      split at h
      · rename_i o off
        split at h
        · rename_i cells hbox
          split at h
          · rename_i hfit
            simp only [Option.some.injEq, Prod.mk.injEq] at h
            obtain ⟨_, rfl⟩ := h
            obtain ⟨b, h1, rfl⟩ := rel_pp hp
            obtain ⟨b', arr, e, h2, h3, h4, h5⟩ := hH.obj _ _ hbox
            rw [h1] at h2
            simp at h2
            subst h2
            have hsz : off + 0 + cs.length ≤ arr.size := by have := h5.1; simp at this; omega
            have hst := run_storeCells_at P b off e cs 0 arr w h4 hsz hone
            have ho : o < H.length := (List.getElem?_eq_some_iff.1 hbox).1
            refine ⟨w.setRow b (arr.toList.take (off + 0) ++ cs ++ arr.toList.drop (off + 0 + cs.length)).toArray, ?_, hH.upd0 o ho _ (fun b0 hb0 hg => ?_) (by simp) ⟨b, _, e, h1, h3, setRow_heap w b arr _ e _ h4, ?_, ?_⟩, Fr.own h3⟩
            · simp [Instr.storeAt, Instr.sureAddr, storeVar, hc1, run_tsz hn, hcl]
              simpa [hcl] using hst
            · exact setRow_other w b b0 _ (fun e => by subst e; exact hg h3)
            · have := h5.1; simp at this ⊢; omega
            · intro j y v hy hv
              have hfit2 : off + cs.length ≤ arr.toList.length := by simp; omega
              have hv' : (arr.toList.take off ++ cs ++ arr.toList.drop (off + cs.length))[j]? = some v := by simpa using hv
              rw [get_seg hfit2] at hv'
              have hy' : (cells.take off ++ l ++ cells.drop (off + n))[j]? = some y := hy
              have hcase : (cells.take off ++ l ++ cells.drop (off + n))[j]? = if off ≤ j ∧ j < off + n then l[j - off]? else cells[j]? := by
                have h1 : (cells.take off).length = off := by simp; omega
                by_cases h : j < off
                · rw [List.append_assoc, List.getElem?_append_left (by omega), List.getElem?_take_of_lt h, if_neg (by omega)]
                · by_cases h2 : j < off + n
                  · rw [if_pos ⟨by omega, h2⟩, List.append_assoc, List.getElem?_append_right (by omega), h1, List.getElem?_append_left (by omega)]
                  · rw [if_neg (by omega), List.getElem?_append_right (by simp; omega), List.getElem?_drop]
                    congr 1
                    simp
                    omega
              rw [hcase] at hy'
              rw [hcl] at hv'
              by_cases hj : off ≤ j ∧ j < off + n
              · rw [if_pos hj] at hv' hy'
                exact hc2.2 _ _ _ hy' hv'
              · rw [if_neg hj] at hv' hy'
                exact h5.2 _ _ _ hy' hv'
          · cases h
        · cases h
      · rename_i o i esz f
        split at h
        · rename_i c hrow
          split at h
          · rename_i hesz
            subst hesz
            cases hvs : valsOf l with
            | none => rw [hvs] at h; cases h
            | some vs =>
              rw [hvs] at h
              simp only at h
              cases hset : c.sets i f vs with
              | none => rw [hset] at h; cases h
              | some c' =>
                rw [hset] at h
                simp only [Option.map_some, Option.some.injEq, Prod.mk.injEq] at h
                obtain ⟨rfl, rfl⟩ := h
                obtain rfl := valsOf_ok hvs hc2
                have hs := Cont.sets_ok hset hq
                obtain ⟨b0, ofs, n0, cap0, h1, rfl⟩ := rel_ep hp
                obtain ⟨u0, h2, h3⟩ := hH.obj _ _ hrow
                have hrd : rd H o = some c := by simp [rd, hrow]
                rcases flat_inv hs.flat h3 rfl with ⟨a, _, h5⟩ | ⟨b, off, cap, arr, e, rfl, hSb, hb, hcap, hmax, hsz, hv⟩
                · omega
                · rw [h1] at h2
                  simp at h2
                  obtain ⟨⟨rfl, rfl⟩, rfl, rfl⟩ := h2
                  have hfit : i * c.esz + f + cs.length ≤ cap0 * c.esz := by
                    have h6 : (i + 1) * c.esz ≤ cap0 * c.esz := Nat.mul_le_mul_right _ (by omega)
                    rw [Nat.add_mul] at h6
                    have := hs.fit
                    omega
                  have hst := run_storeCells_at P b0 (ofs + i * c.esz + f) e cs 0 arr w hb (by omega) hone
                  have ho : o < H.length := (List.getElem?_eq_some_iff.1 hrow).1
                  have hγ : γ b0 = some o := hSb
                  refine ⟨w.setRow b0 (arr.toList.take (ofs + i * c.esz + f + 0) ++ cs ++ arr.toList.drop (ofs + i * c.esz + f + 0 + cs.length)).toArray, ?_, hH.upd0 o ho _ (fun b1 hb1 hg => ?_) (by simp) ⟨_, h1, ?_⟩, Fr.own hγ⟩
                  · simp [Instr.storeAt, Instr.sureAddr, storeVar, hc1, run_tsz hn, hcl]
                    simpa [hcl] using hst
                  · exact setRow_other w b0 b1 _ (fun e => by subst e; exact hg hγ)
                  · rw [← hs.len]
                    refine flat_rep hs.flat' hSb (setRow_heap w b0 arr _ e _ hb) (by rw [hs.len]; exact hcap) hmax ?_ ?_
                    · rw [hs.esz]; simp; omega
                    · intro j g x hj hx
                      rw [hs.len] at hj
                      rw [hs.esz]
                      have hfit2 : ofs + i * c.esz + f + cs.length ≤ arr.toList.length := by simp; omega
                      have hg : g < c.esz := by
                        have := Cont.flat_row hs.flat'
                        obtain ⟨row, hr1, hr2⟩ := Cont.cell_rows hx (by rw [hs.len]; exact hj)
                        rw [← hs.esz, ← this row (List.mem_of_getElem? hr1)]
                        exact (List.getElem?_eq_some_iff.1 hr2).1
                      have key : (arr.toList.take (ofs + i * c.esz + f) ++ cs ++ arr.toList.drop (ofs + i * c.esz + f + cs.length))[ofs + j * c.esz + g]? = some x := by
                        rw [get_seg hfit2]
                        rcases hs.cell j g x hj hx with ⟨rfl, h7, h8, h9⟩ | ⟨h7, h8⟩
                        · rw [if_pos ⟨by omega, by omega⟩, ← h9]
                          congr 1
                          omega
                        · rw [if_neg ?_]
                          · have := hv j g x hj h8
                            simpa using this
                          · intro hh
                            have hfl := hs.fit
                            have hji : j = i := by
                              rcases Nat.lt_trichotomy j i with hlt | heq | hgt
                              · have : (j + 1) * c.esz ≤ i * c.esz := Nat.mul_le_mul_right _ hlt
                                rw [Nat.add_mul] at this
                                omega
                              · exact heq
                              · have : (i + 1) * c.esz ≤ j * c.esz := Nat.mul_le_mul_right _ hgt
                                rw [Nat.add_mul] at this
                                omega
                            subst hji
                            exact h7 ⟨rfl, by omega, by omega⟩
                      simpa using key
          · cases h
        · cases h
      · cases h
    · cases h
  · cases h

/-- A child is stored into the cell that it, or the one before it, came from. -/
def storeCE (P : Program) (H : List AObj) (T : TypeId) (p x : AV) : Option (Prop × List AObj) :=
  match p, x with
  | .ep o i esz f, .sl q => match H[o]?, H[q]? with
    | some (.tak true c j g _), some (.row true d) => if j = i ∧ g = f ∧ c.esz = esz ∧ tsz P T = some 1 then (c.setChild i f d).map fun c' => (True, (((H.map (AObj.unview q)).map (AObj.unview o)).set o (.row true c')).set q (.view o d)) else none
    | _, _ => none
  | _, _ => none

theorem storeCE_run (hH : HeapOk γ ρ H w) {T : TypeId} {p x : AV} {q : Prop} {H' : List AObj} {up u : Value} (h : storeCE P H T p x = some (q, H')) (hp : rel ρ p up) (hu : rel ρ x u) :
    ∃ w' γ', (Instr.storeAt T up u).run P w = .ok () w' ∧ HeapOk γ' ρ H' w' ∧ Fr γ w γ' w' := by
  unfold storeCE at h
  split at h
  · rename_i o i esz f q0
    split at h
    · rename_i c j g lk d htak hq
      split at h
      · rename_i hcond
        obtain ⟨rfl, rfl, rfl, hT⟩ := hcond
        cases hset : c.setChild j g d with
        | none => rw [hset] at h; cases h
        | some c' =>
          rw [hset] at h
          simp only [Option.map_some, Option.some.injEq, Prod.mk.injEq] at h
          obtain ⟨_, rfl⟩ := h
          obtain ⟨b, ofs, cap, h1, h2, h3, h6, _⟩ := hH.obj _ _ htak
          obtain ⟨u0, g1, g2⟩ := hH.obj _ _ hq
          have hone : u.oneCell' = true := hu.2
          have hu' : u0 = u := by have := hu.1; rw [g1] at this; exact Option.some.inj this
          subst hu'
          obtain ⟨b1, ofs1, n1, cap1, h4, rfl⟩ := rel_ep hp
          rw [h1] at h4
          simp at h4
          obtain ⟨⟨rfl, rfl⟩, rfl, rfl⟩ := h4
          have hol := (List.getElem?_eq_some_iff.1 htak).1
          have hql := (List.getElem?_eq_some_iff.1 hq).1
          have hne : q0 ≠ o := by intro e; subst e; rw [htak] at hq; cases hq
          obtain ⟨e1, e2, row, r1, r2, r3⟩ := Cont.setChild_ok hset h2
          have hrh : (c.holed j g)[j]? = some (row.set g .hole) := by simp [Cont.holed, List.getElem?_modify, r1]
          have hfh : (row.set g CV.hole)[g]? = some .hole := List.getElem?_set_self r2
          simp only [↓reduceIte] at h3 h6
          have hre : row.length = c.esz := by have := h3.esz_of hrh; rwa [List.length_set] at this
          obtain ⟨arr, e, hb, hfit⟩ := h3.arr_of (by rw [Cont.holed_len]; omega)
          have hidx : ofs + j * c.esz + g < arr.size := by
            have h7 : (j + 1) * c.esz ≤ cap * c.esz := Nat.mul_le_mul_right _ (by omega)
            rw [Nat.add_mul] at h7
            omega
          have hst := run_storeCells_at P b (ofs + j * c.esz + g) e [u0] 0 arr w hb (by simp; omega) (by simpa using hone)
          let arr' := (arr.toList.take (ofs + j * c.esz + g + 0) ++ [u0] ++ arr.toList.drop (ofs + j * c.esz + g + 0 + 1)).toArray
          have hget : ∀ k, arr'[k]? = if k = ofs + j * c.esz + g then some u0 else arr[k]? := fun k => by
            have hfit2 : ofs + j * c.esz + g + [u0].length ≤ arr.toList.length := by simp; omega
            have key := get_seg (vs := [u0]) (j := k) hfit2
            have e3 : arr'[k]? = (arr.toList.take (ofs + j * c.esz + g) ++ [u0] ++ arr.toList.drop (ofs + j * c.esz + g + [u0].length))[k]? := by simp [arr']
            rw [e3, key]
            by_cases hk : k = ofs + j * c.esz + g
            · rw [if_pos hk, if_pos ⟨by omega, by simp; omega⟩, hk]; simp
            · rw [if_neg hk, if_neg (fun hh => hk (by have := hh.2; simp at this; omega))]; simp
          have hsz' : arr'.size = arr.size := by simp [arr']; omega
          let w' := w.setRow b arr'
          have hother : ∀ b', b' ≠ b → w'.heap[b']? = w.heap[b']? := fun b' hb' => setRow_other w b b' _ hb'
          have h3' : CRep true w' (fun b => γ b = some o) (.sl c.esz (c.holed j g)) (.slice (some ⟨b, ofs, none⟩) c.len cap) := h3.hole_set hrh hfh hb hsz' hone hget
          have hcell : w'.cell? ⟨b, ofs + j * c.esz + g, none⟩ = some u0 := by
            have h8 : w'.heap[b]? = some (.cells arr' e (0, 0)) := setRow_heap w b arr _ e _ hb
            simp [World.cell?, h8, hget]
          have g2' : CRep true w' (fun b => γ b = some q0) (.sl d.esz d.rows) u0 := g2.world fun b' hb' => hother b' (fun e => by
            subst e
            simp only [↓reduceIte] at hb'
            rw [h6] at hb'
            exact hne (Option.some.inj hb').symm)
          let γ' : Nat → Option Nat := fun b => if γ b = some q0 then some o else γ b
          have hkeepγ : ∀ b' p, p ≠ q0 → γ b' = some p → γ' b' = some p := fun b' p hp hb' => by
            simp only [γ', hb']
            rw [if_neg]; simpa using hp
          have hfill := h3'.fill (T := fun b => γ' b = some o) hrh (f := g) (by rw [List.length_set]; exact r2) hcell g2' (fun b' hb' => hkeepγ b' o (Ne.symm hne) hb') (fun b' hb' => by simp [γ', hb']) (fun _ b' hb' hx => by
            rw [hb'] at hx; exact hne (Option.some.inj hx))
          have hrows : (c.holed j g).set j ((row.set g CV.hole).set g (.sl d.esz d.rows)) = c'.rows := by
            rw [r3, List.set_set]
            apply List.ext_getElem?
            intro k
            by_cases hk : k = j
            · subst hk
              rw [List.getElem?_set_self (by rw [Cont.holed_len]; omega), List.getElem?_set_self (by rw [Cont.len_rows]; omega)]
            · rw [List.getElem?_set_ne (Ne.symm hk), List.getElem?_set_ne (Ne.symm hk), Cont.holed, List.getElem?_modify]
              simp [Ne.symm hk]
          rw [hrows] at hfill
          refine ⟨w', γ', ?_, ⟨by simpa using hH.len, fun p ob hp => ?_, fun b' p hb' => ?_⟩, ⟨rfl, rfl, rfl, by simp [w'], fun b' _ hg => ⟨hother b' (fun e => by subst e; rw [h6] at hg; cases hg), by simp [γ', hg]⟩, by exact Nat.le_refl _⟩⟩
          · have hcs : u0.cells = #[u0] := by
              cases u0 <;> first | rfl | (simp [Value.oneCell'] at hone)
            simp [Instr.storeAt, Instr.sureAddr, storeVar, hcs, run_tsz hT]
            simpa [arr', w'] using hst
          · by_cases hpq : p = q0
            · subst hpq
              rw [List.getElem?_set_self (by simpa using hql)] at hp
              simp at hp; subst hp
              exact ⟨u0, g1, g2'.mono fun b' hb' => by simp [γ', hb']⟩
            · rw [List.getElem?_set_ne (Ne.symm hpq)] at hp
              by_cases hpo : p = o
              · subst hpo
                rw [List.getElem?_set_self (by simpa using hol)] at hp
                simp at hp; subst hp
                refine ⟨_, h1, ?_⟩
                rw [e1, ← e2] at *
                simpa using hfill
              · rw [List.getElem?_set_ne (Ne.symm hpo), List.getElem?_map, List.getElem?_map] at hp
                cases hH' : H[p]? with
                | none => rw [hH'] at hp; cases hp
                | some ob0 =>
                  rw [hH'] at hp; simp at hp; subst hp
                  have h0 := hH.obj p ob0 hH'
                  have hb0 : ∀ b' (x : Option Nat), γ b' = x → x ≠ some o → w'.heap[b']? = w.heap[b']? := fun b' x hx hxo => hother b' (fun e => by subst e; rw [h6] at hx; exact hxo hx.symm)
                  cases ob0 <;> simp only [AObj.unview]
                  · exact trivial
                  · obtain ⟨b2, arr2, e2, k1, k2, k3, k4⟩ := h0
                    exact ⟨b2, arr2, e2, k1, hkeepγ _ _ hpq k2, (hb0 b2 _ k2 (by simpa using hpo)).trans k3, k4⟩
                  · obtain ⟨b2, arr2, e2, fz, k1, k2, k3, k4⟩ := h0
                    exact ⟨b2, arr2, e2, fz, k1, by simp [γ', k2], (hb0 b2 _ k2 (by simp)).trans k3, k4⟩
                  · rename_i own2 c2
                    obtain ⟨x2, k1, k2⟩ := h0
                    refine ⟨x2, k1, k2.stay fun b' hb' _ => ⟨hb0 b' _ hb' (by cases own2 <;> simp [hpo]), ?_⟩⟩
                    cases own2 <;> simp only [Bool.false_eq_true, ↓reduceIte] at hb' ⊢
                    · simp [γ', hb']
                    · exact hkeepγ _ _ hpq hb'
                  · rename_i src c2
                    by_cases hsrc : src = q0
                    · simp only [if_pos hsrc]; exact trivial
                    · simp only [if_neg hsrc]
                      obtain ⟨x2, k1, k2⟩ := h0
                      by_cases hso : src = o
                      · simp only [AObj.unview, if_pos hso]; exact trivial
                      · simp only [AObj.unview, if_neg hso]
                        exact ⟨x2, k1, k2.stay fun b' hb' _ => ⟨hb0 b' _ hb' (by simpa using hso), hkeepγ _ _ hsrc hb'⟩⟩
                  · obtain ⟨k1, arr2, e2, fz, k2, k3⟩ := h0
                    exact ⟨by simp [γ', k1], arr2, e2, fz, (hb0 _ _ k1 (by simp)).trans k2, k3⟩
                  · rename_i own2 c2 i2 f2 p2
                    obtain ⟨b2, ofs2, cap2, k1, k2, k3, k6, k4⟩ := h0
                    have hx2 : (if own2 = true then some p else none) ≠ some o := by cases own2 <;> simp [hpo]
                    have hst2 : ∀ b', (γ b' = if own2 = true then some p else none) → γ' b' = if own2 = true then some p else none := fun b' hb' => by
                      cases own2 <;> simp only [Bool.false_eq_true, ↓reduceIte] at hb' ⊢
                      · simp [γ', hb']
                      · exact hkeepγ _ _ hpq hb'
                    refine ⟨b2, ofs2, cap2, k1, k2, k3.stay fun b' hb' _ => ⟨hb0 b' _ hb' hx2, hst2 b' hb'⟩, hst2 _ k6, fun q hq' => ?_⟩
                    obtain ⟨v2, m1, m2, m3⟩ := k4 q hq'
                    exact ⟨v2, m1, m2, by rw [World.cell?_of_block (w := w) (hb0 b2 _ k6 hx2)]; exact m3⟩
          · simp only [γ'] at hb'
            split at hb'
            · rename_i hbs
              simp at hb'; subst hb'
              exact ⟨by simpa using hol, by have := (hH.lab _ _ hbs).2; simpa [w'] using this⟩
            · have := hH.lab _ _ hb'; exact ⟨by simpa using this.1, by simpa [w'] using this.2⟩
      · cases h
    · cases h
  · cases h

end Go.Av
