import Derived.Test.YteoedigfnfjopaaGreatAvH
import Derived.MapKept
set_option linter.unusedSimpArgs false
set_option linter.unusedVariables false
namespace Go.Av
open Go
variable {P : Program} {N : Nat} {pin : List Nat} {γ γ' : Nat → Option Nat} {ρ : List Value} {H : List AObj} {w w' : World}
theorem HeapOk.upd0 (h : HeapOk γ ρ H w) (o : Nat) (ho : o < H.length) (ob : AObj)
 (hs : ∀ b, b < w.heap.size → γ b ≠ some o → w'.heap[b]? = w.heap[b]?) (hsz : w.heap.size ≤ w'.heap.size)
 (hob : has γ ρ w' o ob) : HeapOk γ ρ ((H.map (AObj.unview o)).set o ob) w' := by
 refine ⟨by simp [h.len], fun p ob' hp => ?_, fun b p hb => ?_⟩
 ·by_cases hpo : p = o
  ·subst hpo
   rw [List.getElem?_set_self (by simpa using ho)] at hp
   simp at hp
   subst hp
   exact hob
  ·rw [List.getElem?_set_ne (Ne.symm hpo), List.getElem?_map] at hp
   cases hH : H[p]? with
   | none => rw [hH] at hp; cases hp
   | some ob0 =>
     rw [hH] at hp
     simp at hp
     have h0 := h.obj p ob0 hH
     have stay : ∀ {own : Bool} {S : Nat → Prop} {c : CV} {x : Value}, CRep own w S c x → (∀ b, S b → γ b ≠ some o) → CRep own w' S c x :=
      fun hc h1 => hc.stay fun b hb hlt => ⟨hs b hlt (h1 b hb), hb⟩
     subst hp
     cases ob0 <;> simp only [AObj.unview]
     ·exact trivial
     ·obtain ⟨b, arr, e, h1, h2, h3, h4⟩ := h0
      have hb := (h.lab b p h2).2
      have hne : γ b ≠ some o := by rw [h2]; simpa using hpo
      exact ⟨b, arr, e, h1, h2, (hs b hb hne).trans h3, h4⟩
     ·obtain ⟨b, arr, e, fz, h1, h2, h3, h4⟩ := h0
      exact ⟨b, arr, e, fz, h1, h2, (hs b (Array.getElem?_eq_some_iff.1 h3).1 (by rw [h2]; simp)).trans h3, h4⟩
     ·obtain ⟨x, h1, h2⟩ := h0
      rename_i own c
      refine ⟨x, h1, stay h2 (fun b hb => ?_)⟩
      rw [hb]; cases own <;> simp; exact hpo
     ·rename_i src c
      by_cases hsrc : src = o
      ·simp only [if_pos hsrc]; exact trivial
      ·simp only [if_neg hsrc]
       obtain ⟨x, h1, h2⟩ := h0
       exact ⟨x, h1, stay h2 (fun b hb => by rw [hb]; simpa using hsrc)⟩
     ·obtain ⟨h1, arr, e, fz, h2, h3⟩ := h0
      exact ⟨h1, arr, e, fz, (hs _ (Array.getElem?_eq_some_iff.1 h2).1 (by rw [h1]; simp)).trans h2, h3⟩
     ·rename_i own c i f q0
      obtain ⟨b, ofs, cap, h1, h2, h3, h6, h4⟩ := h0
      have hnx : (if own = true then some p else none) ≠ some o := by cases own <;> simp [hpo]
      refine ⟨b, ofs, cap, h1, h2, stay h3 (fun b hb => by rw [hb]; exact hnx), h6, fun q hq => ?_⟩
      obtain ⟨v, h5, hv1, h7⟩ := h4 q hq
      have hne : γ b ≠ some o := by rw [h6]; exact hnx
      exact ⟨v, h5, hv1, by rw [World.cell?_of_block (w := w) (hs b (World.block_lt_of_cell? w _ h7) hne)]; exact h7⟩
     ·obtain ⟨x, h1, h2⟩ := h0
      exact ⟨x, h1, h2.stay (fun b hb hlt => ⟨hs b hlt (by rw [hb]; simpa using hpo), hb⟩) (fun b hb hlt => ⟨hs b hlt (by rw [hb]; simp), hb⟩)⟩
     ·obtain ⟨x, h1, h2⟩ := h0
      exact ⟨x, h1, h2.to (fun b hb hlt => ⟨hs b hlt (by rw [hb]; simpa using hpo), hb⟩) (fun q hq => ⟨q, hq, fun v hv => hv⟩)⟩
     ·obtain ⟨x, h1, h2⟩ := h0
      exact ⟨x, h1, h2.to (fun b hb hlt => ⟨hs b hlt (by rw [hb]; simpa using hpo), hb⟩)⟩
     ·exact ExtP.stay _ h0 (fun b hlt hb => hs b hlt (by rcases hb with hb | hb <;> rw [hb] <;> simp [hpo])) hsz (fun _ _ hb => hb) (fun _ _ hb => hb)
 ·have := h.lab b p hb; exact ⟨by simpa using this.1, by omega⟩
theorem Fr.own {o b0 : Nat} {arr : Array Value} (hb : γ b0 = some o) : Fr γ w γ (w.setRow b0 arr) :=
 ⟨rfl, by rfl, rfl, by simp, fun b _ hg => ⟨setRow_other w b0 b arr (fun e => by subst e; rw [hb] at hg; cases hg), hg⟩, by exact Nat.le_refl _⟩
def valsOf : List AV → Option (List Value)
 | [] => some []
 | x :: l => match x, valsOf l with
   | .v y, some m => some (y :: m)
   | _, _ => none
theorem valsOf_ok : ∀ {l : List AV} {vs cs : List Value}, valsOf l = some vs → Rel1s ρ l cs → cs = vs
 | [], vs, cs, h, hr => by simp [valsOf] at h; subst h; exact List.eq_nil_of_length_eq_zero hr.1
 | x :: l, vs, cs, h, hr => by
   unfold valsOf at h
   cases x
   case v y =>
    cases hv : valsOf l with
    | none => rw [hv] at h; cases h
    | some m =>
     rw [hv] at h
     simp at h
     subst h
     match cs, hr with
     | [], hr => exact absurd hr.1 (by simp)
     | c :: cs, hr =>
       have h0 := hr.2 0 _ c rfl rfl
       have ht : Rel1s ρ l cs := ⟨by have := hr.1; simpa using this, fun j x u hx hu => hr.2 (j + 1) x u (by simpa using hx) (by simpa using hu)⟩
       rw [valsOf_ok hv ht, h0.1]
   all_goals (simp at h)
def boxE (H : List AObj) (x : AV) : Option (List AObj × AV) := (asCells x).map fun l => (H ++ [.box l], .pp H.length 0)
theorem boxE_run (hH : HeapOk γ ρ H w) {T : TypeId} {x y : AV} {H' : List AObj} {u : Value} (h : boxE H x = some (H', y)) (hu : rel ρ x u) :
 ∃ v w' γ' p, (Instr.box T u).run P w = .ok v w' ∧ HeapOk γ' (ρ ++ [p]) H' w' ∧ rel (ρ ++ [p]) y v ∧ Fr γ w γ' w' := by
 unfold boxE at h
 cases hl : asCells x with
 | none => rw [hl] at h; cases h
 | some l =>
   rw [hl] at h
   simp at h
   obtain ⟨rfl, rfl⟩ := h
   obtain ⟨cs, h1, h2⟩ := asCells_ok hl hu
   refine ⟨.pointer (some ⟨w.heap.size, 0, none⟩), w.alloc (.cells cs.toArray T), _, _, ?_, hH.box cs l T h2, ?_, Fr.alloc _ _ _ _⟩
   ·simp [Instr.box, newVar, newRow, h1]
   ·exact ⟨w.heap.size, by rw [← hH.len]; simp, rfl⟩
def storeE (P : Program) (H : List AObj) (T : TypeId) (p x : AV) : Option (Prop × List AObj) :=
 match asCells x, tsz P T with
 | some l, some n => if l.length = n then
  match p with
  | .pp o off => match H[o]? with
    | some (.box cells) => if off + n ≤ cells.length then some (True, (H.map (AObj.unview o)).set o (.box (cells.take off ++ l ++ cells.drop (off + n)))) else none
    | _ => none
  | .ep o i esz f => match H[o]? with
    | some (.row true c) => if c.esz = esz then (match valsOf l with
     | some vs => (c.sets i f vs).map fun c' => (i < c.len, (H.map (AObj.unview o)).set o (.row true c'))
     | none => none) else none
    | _ => none
  | _ => none
  else none
 | _, _ => none
theorem storeE_run (hH : HeapOk γ ρ H w) {T : TypeId} {p x : AV} {q : Prop} {H' : List AObj} {up u : Value} (h : storeE P H T p x = some (q, H')) (hq : q) (hp : rel ρ p up) (hu : rel ρ x u) :
 ∃ w', (Instr.storeAt T up u).run P w = .ok () w' ∧ HeapOk γ ρ H' w' ∧ Fr γ w γ w' := by
 unfold storeE at h
 split at h
 ·rename_i l n hl hn
  split at h
  ·rename_i hln
   obtain ⟨cs, hc1, hc2⟩ := asCells_ok hl hu
   have hcl : cs.length = n := by rw [hc2.1, hln]
   have hone : ∀ v ∈ cs, v.oneCell' = true := by
    intro v hv
    obtain ⟨j, hj, rfl⟩ := List.getElem_of_mem hv
    have hj' : j < l.length := by rw [← hc2.1]; exact hj
    exact (hc2.2 j l[j] cs[j] (List.getElem?_eq_getElem hj') (List.getElem?_eq_getElem hj)).one
   split at h
   ·rename_i o off
    split at h
    ·rename_i cells hbox
     split at h
     ·rename_i hfit
      simp only [Option.some.injEq, Prod.mk.injEq] at h
      obtain ⟨_, rfl⟩ := h
      obtain ⟨b, h1, rfl⟩ := rel_pp hp
      obtain ⟨b', arr, e, h2, h3, h4, h5⟩ := hH.obj _ _ hbox
      rw [h1] at h2
      simp at h2
      subst h2
      have hsz : off + 0 + cs.length ≤ arr.size := by have := h5.1; simp at this; omega
      have hst := run_storeCells_at P b off e cs 0 arr w h4 hsz hone
      have ho : o < H.length := (List.getElem?_eq_some_iff.1 hbox).1
      refine ⟨w.setRow b (arr.toList.take (off + 0) ++ cs ++ arr.toList.drop (off + 0 + cs.length)).toArray, ?_, hH.upd0 o ho _ (fun b0 hb0 hg => ?_) (by simp) ⟨b, _, e, h1, h3, setRow_heap w b arr _ e _ h4, ?_, ?_⟩, Fr.own h3⟩
      ·simp [Instr.storeAt, Instr.sureAddr, storeVar, hc1, run_tsz hn, hcl]
       simpa [hcl] using hst
      ·exact setRow_other w b b0 _ (fun e => by subst e; exact hg h3)
      ·have := h5.1; simp at this ⊢; omega
      ·intro j y v hy hv
       have hfit2 : off + cs.length ≤ arr.toList.length := by simp; omega
       have hv' : (arr.toList.take off ++ cs ++ arr.toList.drop (off + cs.length))[j]? = some v := by simpa using hv
       rw [get_seg hfit2] at hv'
       have hy' : (cells.take off ++ l ++ cells.drop (off + n))[j]? = some y := hy
       have hcase : (cells.take off ++ l ++ cells.drop (off + n))[j]? = if off ≤ j ∧ j < off + n then l[j - off]? else cells[j]? := by
        have h1 : (cells.take off).length = off := by simp; omega
        by_cases h : j < off
        ·rw [List.append_assoc, List.getElem?_append_left (by omega), List.getElem?_take_of_lt h, if_neg (by omega)]
        ·by_cases h2 : j < off + n
         ·rw [if_pos ⟨by omega, h2⟩, List.append_assoc, List.getElem?_append_right (by omega), h1, List.getElem?_append_left (by omega)]
         ·rw [if_neg (by omega), List.getElem?_append_right (by simp; omega), List.getElem?_drop]
          congr 1
          simp
          omega
       rw [hcase] at hy'
       rw [hcl] at hv'
       by_cases hj : off ≤ j ∧ j < off + n
       ·rw [if_pos hj] at hv' hy'
        exact hc2.2 _ _ _ hy' hv'
       ·rw [if_neg hj] at hv' hy'
        exact h5.2 _ _ _ hy' hv'
     ·cases h
    ·cases h
   ·rename_i o i esz f
    split at h
    ·rename_i c hrow
     split at h
     ·rename_i hesz
      subst hesz
      cases hvs : valsOf l with
      | none => rw [hvs] at h; cases h
      | some vs =>
        rw [hvs] at h
        simp only at h
        cases hset : c.sets i f vs with
        | none => rw [hset] at h; cases h
        | some c' =>
          rw [hset] at h
          simp only [Option.map_some, Option.some.injEq, Prod.mk.injEq] at h
          obtain ⟨rfl, rfl⟩ := h
          obtain rfl := valsOf_ok hvs hc2
          have hs := Cont.sets_ok hset hq
          obtain ⟨b0, ofs, n0, cap0, h1, rfl⟩ := rel_ep hp
          obtain ⟨u0, h2, h3⟩ := hH.obj _ _ hrow
          have hrd : rd H o = some c := by simp [rd, hrow]
          rcases flat_inv hs.flat h3 rfl with ⟨a, _, h5⟩ | ⟨b, off, cap, arr, e, rfl, hSb, hb, hcap, hmax, hsz, hv⟩
          ·omega
          ·rw [h1] at h2
           simp at h2
           obtain ⟨⟨rfl, rfl⟩, rfl, rfl⟩ := h2
           have hfit : i * c.esz + f + cs.length ≤ cap0 * c.esz := by
            have h6 : (i + 1) * c.esz ≤ cap0 * c.esz := Nat.mul_le_mul_right _ (by omega)
            rw [Nat.add_mul] at h6
            have := hs.fit
            omega
           have hst := run_storeCells_at P b0 (ofs + i * c.esz + f) e cs 0 arr w hb (by omega) hone
           have ho : o < H.length := (List.getElem?_eq_some_iff.1 hrow).1
           have hγ : γ b0 = some o := hSb
           refine ⟨w.setRow b0 (arr.toList.take (ofs + i * c.esz + f + 0) ++ cs ++ arr.toList.drop (ofs + i * c.esz + f + 0 + cs.length)).toArray, ?_, hH.upd0 o ho _ (fun b1 hb1 hg => ?_) (by simp) ⟨_, h1, ?_⟩, Fr.own hγ⟩
           ·simp [Instr.storeAt, Instr.sureAddr, storeVar, hc1, run_tsz hn, hcl]
            simpa [hcl] using hst
           ·exact setRow_other w b0 b1 _ (fun e => by subst e; exact hg hγ)
           ·rw [← hs.len]
            refine flat_rep hs.flat' hSb (setRow_heap w b0 arr _ e _ hb) (by rw [hs.len]; exact hcap) hmax ?_ ?_
            ·rw [hs.esz]; simp; omega
            ·intro j g x hj hx
             rw [hs.len] at hj
             rw [hs.esz]
             have hfit2 : ofs + i * c.esz + f + cs.length ≤ arr.toList.length := by simp; omega
             have hg : g < c.esz := by
              have := Cont.flat_row hs.flat'
              obtain ⟨row, hr1, hr2⟩ := Cont.cell_rows hx (by rw [hs.len]; exact hj)
              rw [← hs.esz, ← this row (List.mem_of_getElem? hr1)]
              exact (List.getElem?_eq_some_iff.1 hr2).1
             have key : (arr.toList.take (ofs + i * c.esz + f) ++ cs ++ arr.toList.drop (ofs + i * c.esz + f + cs.length))[ofs + j * c.esz + g]? = some x := by
              rw [get_seg hfit2]
              rcases hs.cell j g x hj hx with ⟨rfl, h7, h8, h9⟩ | ⟨h7, h8⟩
              ·rw [if_pos ⟨by omega, by omega⟩, ← h9]
               congr 1
               omega
              ·rw [if_neg ?_]
               ·have := hv j g x hj h8
                simpa using this
               ·intro hh
                have hfl := hs.fit
                have hji : j = i := by
                 rcases Nat.lt_trichotomy j i with hlt | heq | hgt
                 ·have : (j + 1) * c.esz ≤ i * c.esz := Nat.mul_le_mul_right _ hlt
                  rw [Nat.add_mul] at this
                  omega
                 ·exact heq
                 ·have : (i + 1) * c.esz ≤ j * c.esz := Nat.mul_le_mul_right _ hgt
                  rw [Nat.add_mul] at this
                  omega
                subst hji
                exact h7 ⟨rfl, by omega, by omega⟩
             simpa using key
     ·cases h
    ·cases h
   ·cases h
  ·cases h
 ·cases h
def storeCE (P : Program) (H : List AObj) (T : TypeId) (p x : AV) : Option (Prop × List AObj) :=
 match p, x with
 | .ep o i esz f, .sl q => match H[o]?, H[q]? with
   | some (.tak true c j g _), some (.row true d) => if j = i ∧ g = f ∧ c.esz = esz ∧ tsz P T = some 1 then (c.setChild i f d).map fun c' => (True, (((H.map (AObj.unview q)).map (AObj.unview o)).set o (.row true c')).set q (.view o d)) else none
   | _, _ => none
 | _, _ => none
theorem storeC_heap (hH : HeapOk γ ρ H w) {o q0 j g : Nat} {c c' d : Cont} {lk : Option Nat} {b ofs cap : Nat} {u0 : Value} (htak : H[o]? = some (.tak true c j g lk)) (hq : H[q0]? = some (.row true d)) (hset : c.setChild j g d = some c')
 (h1 : ρ[o]? = some (.slice (some ⟨b, ofs, none⟩) c.len cap)) (g1 : ρ[q0]? = some u0) :
 ∃ arr e γ', w.heap[b]? = some (.cells arr e (0, 0)) ∧ γ b = some o ∧ ofs + (j + 1) * c.esz ≤ arr.size ∧ g < c.esz ∧ u0.oneCell' = true ∧
  HeapOk γ' ρ ((((H.map (AObj.unview q0)).map (AObj.unview o)).set o (.row true c')).set q0 (.view o d)) (w.setRow b (arr.toList.take (ofs + j * c.esz + g) ++ [u0] ++ arr.toList.drop (ofs + j * c.esz + g + 1)).toArray) ∧
  Fr γ w γ' (w.setRow b (arr.toList.take (ofs + j * c.esz + g) ++ [u0] ++ arr.toList.drop (ofs + j * c.esz + g + 1)).toArray) := by
 obtain ⟨b_, ofs_, cap_, h1_, h2, h3, h6, _⟩ := hH.obj _ _ htak
 rw [h1] at h1_
 simp at h1_
 obtain ⟨⟨rfl, rfl⟩, rfl⟩ := h1_
 obtain ⟨u0_, g1_, g2⟩ := hH.obj _ _ hq
 rw [g1] at g1_
 obtain rfl := Option.some.inj g1_
 have hone : u0.oneCell' = true := by obtain ⟨a, cp, e, _⟩ := g2.slice; rw [e]; rfl
 have hol := (List.getElem?_eq_some_iff.1 htak).1
 have hql := (List.getElem?_eq_some_iff.1 hq).1
 have hne : q0 ≠ o := by intro e; subst e; rw [htak] at hq; cases hq
 obtain ⟨e1, e2, row, r1, r2, r3⟩ := Cont.setChild_ok hset h2
 have hrh : (c.holed j g)[j]? = some (row.set g .hole) := by simp [Cont.holed, List.getElem?_modify, r1]
 have hfh : (row.set g CV.hole)[g]? = some .hole := List.getElem?_set_self r2
 simp only [↓reduceIte] at h3 h6
 have hre : row.length = c.esz := by have := h3.esz_of hrh; rwa [List.length_set] at this
 obtain ⟨arr, e, hb, hfit⟩ := h3.arr_of (by rw [Cont.holed_len]; omega)
 have hidx : ofs + j * c.esz + g < arr.size := by
  have h7 : (j + 1) * c.esz ≤ cap * c.esz := Nat.mul_le_mul_right _ (by omega)
  rw [Nat.add_mul] at h7
  omega
 let arr' := (arr.toList.take (ofs + j * c.esz + g) ++ [u0] ++ arr.toList.drop (ofs + j * c.esz + g + 1)).toArray
 have hget : ∀ k, arr'[k]? = if k = ofs + j * c.esz + g then some u0 else arr[k]? := fun k => by
  have hfit2 : ofs + j * c.esz + g + [u0].length ≤ arr.toList.length := by simp; omega
  have key := get_seg (vs := [u0]) (j := k) hfit2
  have e3 : arr'[k]? = (arr.toList.take (ofs + j * c.esz + g) ++ [u0] ++ arr.toList.drop (ofs + j * c.esz + g + [u0].length))[k]? := by simp [arr']
  rw [e3, key]
  by_cases hk : k = ofs + j * c.esz + g
  ·rw [if_pos hk, if_pos ⟨by omega, by simp; omega⟩, hk]; simp
  ·rw [if_neg hk, if_neg (fun hh => hk (by have := hh.2; simp at this; omega))]; simp
 have hsz' : arr'.size = arr.size := by simp [arr']; omega
 let w' := w.setRow b arr'
 have hother : ∀ b', b' ≠ b → w'.heap[b']? = w.heap[b']? := fun b' hb' => setRow_other w b b' _ hb'
 have h3' : CRep true w' (fun b => γ b = some o) (.sl c.esz (c.holed j g)) (.slice (some ⟨b, ofs, none⟩) c.len cap) := h3.hole_set hrh hfh hb hsz' hone hget
 have hcell : w'.cell? ⟨b, ofs + j * c.esz + g, none⟩ = some u0 := by
  have h8 : w'.heap[b]? = some (.cells arr' e (0, 0)) := setRow_heap w b arr _ e _ hb
  simp [World.cell?, h8, hget]
 have g2' : CRep true w' (fun b => γ b = some q0) (.sl d.esz d.rows) u0 := g2.world fun b' hb' => hother b' (fun e => by
  subst e
  simp only [↓reduceIte] at hb'
  rw [h6] at hb'
  exact hne (Option.some.inj hb').symm)
 let γ' : Nat → Option Nat := fun b => if γ b = some q0 then some o else γ b
 have hkeepγ : ∀ b' p, p ≠ q0 → γ b' = some p → γ' b' = some p := fun b' p hp hb' => by
  simp only [γ', hb']
  rw [if_neg]; simpa using hp
 have hfill := h3'.fill (T := fun b => γ' b = some o) hrh (f := g) (by rw [List.length_set]; exact r2) hcell g2' (fun b' hb' => hkeepγ b' o (Ne.symm hne) hb') (fun b' hb' => by simp [γ', hb']) (fun _ b' hb' hx => by
  rw [hb'] at hx; exact hne (Option.some.inj hx))
 have hrows : (c.holed j g).set j ((row.set g CV.hole).set g (.sl d.esz d.rows)) = c'.rows := by
  rw [r3, List.set_set]
  apply List.ext_getElem?
  intro k
  by_cases hk : k = j
  ·subst hk
   rw [List.getElem?_set_self (by rw [Cont.holed_len]; omega), List.getElem?_set_self (by rw [Cont.len_rows]; omega)]
  ·rw [List.getElem?_set_ne (Ne.symm hk), List.getElem?_set_ne (Ne.symm hk), Cont.holed, List.getElem?_modify]
   simp [Ne.symm hk]
 rw [hrows] at hfill
 refine ⟨arr, e, γ', hb, h6, by
  have h7 : (j + 1) * c.esz ≤ cap * c.esz := Nat.mul_le_mul_right _ (by omega)
  omega, by rw [← hre]; exact r2, hone, ⟨by simpa using hH.len, fun p ob hp => ?_, fun b' p hb' => ?_⟩, ⟨rfl, rfl, rfl, by simp [w'], fun b' _ hg => ⟨hother b' (fun e => by subst e; rw [h6] at hg; cases hg), by simp [γ', hg]⟩, by exact Nat.le_refl _⟩⟩
 ·by_cases hpq : p = q0
  ·subst hpq
   rw [List.getElem?_set_self (by simpa using hql)] at hp
   simp at hp; subst hp
   exact ⟨u0, g1, g2'.mono fun b' hb' => by simp [γ', hb']⟩
  ·rw [List.getElem?_set_ne (Ne.symm hpq)] at hp
   by_cases hpo : p = o
   ·subst hpo
    rw [List.getElem?_set_self (by simpa using hol)] at hp
    simp at hp; subst hp
    refine ⟨_, h1, ?_⟩
    show CRep true w' (fun b' => γ' b' = some p) (.sl c'.esz c'.rows) _
    rw [e1]
    exact hfill
   ·rw [List.getElem?_set_ne (Ne.symm hpo), List.getElem?_map, List.getElem?_map] at hp
    cases hH' : H[p]? with
    | none => rw [hH'] at hp; cases hp
    | some ob0 =>
      rw [hH'] at hp; simp at hp; subst hp
      have h0 := hH.obj p ob0 hH'
      have hb0 : ∀ b' (x : Option Nat), γ b' = x → x ≠ some o → w'.heap[b']? = w.heap[b']? := fun b' x hx hxo => hother b' (fun e => by subst e; rw [h6] at hx; exact hxo hx.symm)
      cases ob0 <;> simp only [AObj.unview]
      ·exact trivial
      ·obtain ⟨b2, arr2, e2, k1, k2, k3, k4⟩ := h0
       exact ⟨b2, arr2, e2, k1, hkeepγ _ _ hpq k2, (hb0 b2 _ k2 (by simpa using hpo)).trans k3, k4⟩
      ·obtain ⟨b2, arr2, e2, fz, k1, k2, k3, k4⟩ := h0
       exact ⟨b2, arr2, e2, fz, k1, by simp [γ', k2], (hb0 b2 _ k2 (by simp)).trans k3, k4⟩
      ·rename_i own2 c2
       obtain ⟨x2, k1, k2⟩ := h0
       refine ⟨x2, k1, k2.stay fun b' hb' _ => ⟨hb0 b' _ hb' (by cases own2 <;> simp [hpo]), ?_⟩⟩
       cases own2 <;> simp only [Bool.false_eq_true, ↓reduceIte] at hb' ⊢
       ·simp [γ', hb']
       ·exact hkeepγ _ _ hpq hb'
      ·rename_i src c2
       by_cases hsrc : src = q0
       ·simp only [if_pos hsrc]; exact trivial
       ·simp only [if_neg hsrc]
        obtain ⟨x2, k1, k2⟩ := h0
        by_cases hso : src = o
        ·simp only [AObj.unview, if_pos hso]; exact trivial
        ·simp only [AObj.unview, if_neg hso]
         exact ⟨x2, k1, k2.stay fun b' hb' _ => ⟨hb0 b' _ hb' (by simpa using hso), hkeepγ _ _ hsrc hb'⟩⟩
      ·obtain ⟨k1, arr2, e2, fz, k2, k3⟩ := h0
       exact ⟨by simp [γ', k1], arr2, e2, fz, (hb0 _ _ k1 (by simp)).trans k2, k3⟩
      ·rename_i own2 c2 i2 f2 p2
       obtain ⟨b2, ofs2, cap2, k1, k2, k3, k6, k4⟩ := h0
       have hx2 : (if own2 = true then some p else none) ≠ some o := by cases own2 <;> simp [hpo]
       have hst2 : ∀ b', (γ b' = if own2 = true then some p else none) → γ' b' = if own2 = true then some p else none := fun b' hb' => by
        cases own2 <;> simp only [Bool.false_eq_true, ↓reduceIte] at hb' ⊢
        ·simp [γ', hb']
        ·exact hkeepγ _ _ hpq hb'
       refine ⟨b2, ofs2, cap2, k1, k2, k3.stay fun b' hb' _ => ⟨hb0 b' _ hb' hx2, hst2 b' hb'⟩, hst2 _ k6, fun q hq' => ?_⟩
       obtain ⟨v2, m1, m2, m3⟩ := k4 q hq'
       exact ⟨v2, m1, m2, by rw [World.cell?_of_block (w := w) (hb0 b2 _ k6 hx2)]; exact m3⟩
      ·obtain ⟨x2, k1, k2⟩ := h0
       exact ⟨x2, k1, k2.stay (fun b' hb' _ => ⟨hb0 b' _ hb' (by simpa using hpo), hkeepγ _ _ hpq hb'⟩) (fun b' hb' _ => ⟨hb0 b' _ hb' (by simp), by simp [γ', hb']⟩)⟩
      ·obtain ⟨x2, k1, k2⟩ := h0
       exact ⟨x2, k1, k2.to (fun b' hb' _ => ⟨hb0 b' _ hb' (by simpa using hpo), hkeepγ _ _ hpq hb'⟩) (fun q hq => ⟨q, hq, fun v hv => hv⟩)⟩
      ·obtain ⟨x2, k1, k2⟩ := h0
       exact ⟨x2, k1, k2.to (fun b' hb' _ => ⟨hb0 b' _ hb' (by simpa using hpo), hkeepγ _ _ hpq hb'⟩)⟩
      ·exact ExtP.stay _ h0 (fun b' _ hb' => by rcases hb' with hb' | hb' <;> exact hb0 b' _ hb' (by simp [hpo])) (by simp) (fun b' _ hb' => by simp only [γ', hb']; simp) (fun b' _ hb' => hkeepγ _ _ hpq hb')
 ·simp only [γ'] at hb'
  split at hb'
  ·rename_i hbs
   simp at hb'; subst hb'
   exact ⟨by simpa using hol, by have := (hH.lab _ _ hbs).2; simpa [w'] using this⟩
  ·have := hH.lab _ _ hb'; exact ⟨by simpa using this.1, by simpa [w'] using this.2⟩
theorem HeapOk.absorb (hH : HeapOk γ ρ H w) {o q0 b : Nat} {ob' : AObj} {d : Cont} {u0 : Value} (hol : o < H.length) (hne : q0 ≠ o) (hq : H[q0]? = some (.row true d)) (g1 : ρ[q0]? = some u0) (h6 : γ b = some o)
 (hother : ∀ b', b' ≠ b → w'.heap[b']? = w.heap[b']?) (hsz : w.heap.size ≤ w'.heap.size) (hob : has (fun b => if γ b = some q0 then some o else γ b) ρ w' o ob') :
 HeapOk (fun b => if γ b = some q0 then some o else γ b) ρ ((((H.map (AObj.unview q0)).map (AObj.unview o)).set o ob').set q0 (.view o d)) w' := by
 obtain ⟨u0_, g1_, g2⟩ := hH.obj _ _ hq
 rw [g1] at g1_
 obtain rfl := Option.some.inj g1_
 have hql := (List.getElem?_eq_some_iff.1 hq).1
 let γ' : Nat → Option Nat := fun b => if γ b = some q0 then some o else γ b
 have hkeepγ : ∀ b' p, p ≠ q0 → γ b' = some p → γ' b' = some p := fun b' p hp hb' => by
  simp only [γ', hb']
  rw [if_neg]; simpa using hp
 have g2' : CRep true w' (fun b => γ b = some q0) (.sl d.esz d.rows) u0 := g2.world fun b' hb' => hother b' (fun e => by
  subst e
  simp only [↓reduceIte] at hb'
  rw [h6] at hb'
  exact hne (Option.some.inj hb').symm)
 refine ⟨by simpa using hH.len, fun p ob hp => ?_, fun b' p hb' => ?_⟩
 ·by_cases hpq : p = q0
  ·subst hpq
   rw [List.getElem?_set_self (by simpa using hql)] at hp
   simp at hp; subst hp
   exact ⟨u0, g1, g2'.mono fun b' hb' => by simp [γ', hb']⟩
  ·rw [List.getElem?_set_ne (Ne.symm hpq)] at hp
   by_cases hpo : p = o
   ·subst hpo
    rw [List.getElem?_set_self (by simpa using hol)] at hp
    simp at hp; subst hp
    exact hob
   ·rw [List.getElem?_set_ne (Ne.symm hpo), List.getElem?_map, List.getElem?_map] at hp
    cases hH' : H[p]? with
    | none => rw [hH'] at hp; cases hp
    | some ob0 =>
      rw [hH'] at hp; simp at hp; subst hp
      have h0 := hH.obj p ob0 hH'
      have hb0 : ∀ b' (x : Option Nat), γ b' = x → x ≠ some o → w'.heap[b']? = w.heap[b']? := fun b' x hx hxo => hother b' (fun e => by subst e; rw [h6] at hx; exact hxo hx.symm)
      cases ob0 <;> simp only [AObj.unview]
      ·exact trivial
      ·obtain ⟨b2, arr2, e2, k1, k2, k3, k4⟩ := h0
       exact ⟨b2, arr2, e2, k1, hkeepγ _ _ hpq k2, (hb0 b2 _ k2 (by simpa using hpo)).trans k3, k4⟩
      ·obtain ⟨b2, arr2, e2, fz, k1, k2, k3, k4⟩ := h0
       exact ⟨b2, arr2, e2, fz, k1, by simp [γ', k2], (hb0 b2 _ k2 (by simp)).trans k3, k4⟩
      ·rename_i own2 c2
       obtain ⟨x2, k1, k2⟩ := h0
       refine ⟨x2, k1, k2.stay fun b' hb' _ => ⟨hb0 b' _ hb' (by cases own2 <;> simp [hpo]), ?_⟩⟩
       cases own2 <;> simp only [Bool.false_eq_true, ↓reduceIte] at hb' ⊢
       ·simp [γ', hb']
       ·exact hkeepγ _ _ hpq hb'
      ·rename_i src c2
       by_cases hsrc : src = q0
       ·simp only [if_pos hsrc]; exact trivial
       ·simp only [if_neg hsrc]
        obtain ⟨x2, k1, k2⟩ := h0
        by_cases hso : src = o
        ·simp only [AObj.unview, if_pos hso]; exact trivial
        ·simp only [AObj.unview, if_neg hso]
         exact ⟨x2, k1, k2.stay fun b' hb' _ => ⟨hb0 b' _ hb' (by simpa using hso), hkeepγ _ _ hsrc hb'⟩⟩
      ·obtain ⟨k1, arr2, e2, fz, k2, k3⟩ := h0
       exact ⟨by simp [γ', k1], arr2, e2, fz, (hb0 _ _ k1 (by simp)).trans k2, k3⟩
      ·rename_i own2 c2 i2 f2 p2
       obtain ⟨b2, ofs2, cap2, k1, k2, k3, k6, k4⟩ := h0
       have hx2 : (if own2 = true then some p else none) ≠ some o := by cases own2 <;> simp [hpo]
       have hst2 : ∀ b', (γ b' = if own2 = true then some p else none) → γ' b' = if own2 = true then some p else none := fun b' hb' => by
        cases own2 <;> simp only [Bool.false_eq_true, ↓reduceIte] at hb' ⊢
        ·simp [γ', hb']
        ·exact hkeepγ _ _ hpq hb'
       refine ⟨b2, ofs2, cap2, k1, k2, k3.stay fun b' hb' _ => ⟨hb0 b' _ hb' hx2, hst2 b' hb'⟩, hst2 _ k6, fun q hq' => ?_⟩
       obtain ⟨v2, m1, m2, m3⟩ := k4 q hq'
       exact ⟨v2, m1, m2, by rw [World.cell?_of_block (w := w) (hb0 b2 _ k6 hx2)]; exact m3⟩
      ·obtain ⟨x2, k1, k2⟩ := h0
       exact ⟨x2, k1, k2.stay (fun b' hb' _ => ⟨hb0 b' _ hb' (by simpa using hpo), hkeepγ _ _ hpq hb'⟩) (fun b' hb' _ => ⟨hb0 b' _ hb' (by simp), by simp [γ', hb']⟩)⟩
      ·obtain ⟨x2, k1, k2⟩ := h0
       exact ⟨x2, k1, k2.to (fun b' hb' _ => ⟨hb0 b' _ hb' (by simpa using hpo), hkeepγ _ _ hpq hb'⟩) (fun q hq => ⟨q, hq, fun v hv => hv⟩)⟩
      ·obtain ⟨x2, k1, k2⟩ := h0
       exact ⟨x2, k1, k2.to (fun b' hb' _ => ⟨hb0 b' _ hb' (by simpa using hpo), hkeepγ _ _ hpq hb'⟩)⟩
      ·exact ExtP.stay _ h0 (fun b' _ hb' => by rcases hb' with hb' | hb' <;> exact hb0 b' _ hb' (by simp [hpo])) (hsz) (fun b' _ hb' => by simp only [γ', hb']; simp) (fun b' _ hb' => hkeepγ _ _ hpq hb')
 ·split at hb'
  ·rename_i hbs
   simp at hb'; subst hb'
   exact ⟨by simpa using hol, by have := (hH.lab _ _ hbs).2; omega⟩
  ·have := hH.lab _ _ hb'; exact ⟨by simpa using this.1, by omega⟩
def getM (m : List (Int × List (Int × Int × Int))) (k : Int) : List (Int × Int × Int) := ((m.find? fun x => x.1 == k).map (·.2)).getD []
def setM (m : List (Int × List (Int × Int × Int))) (k : Int) (d : List (Int × Int × Int)) : List (Int × List (Int × Int × Int)) := m.map fun x => if x.1 = k then (k, d) else x
def upsM (m : List (Int × List (Int × Int × Int))) (k : Int) (d : List (Int × Int × Int)) : List (Int × List (Int × Int × Int)) := if m.any (fun x => x.1 == k) then setM m k d else m ++ [(k, d)]
theorem setM_keys (m : List (Int × List (Int × Int × Int))) (k : Int) (d : List (Int × Int × Int)) : (setM m k d).map (·.1) = m.map (·.1) := by
 unfold setM
 rw [List.map_map]
 apply List.map_congr_left
 intro x _
 simp only [Function.comp]
 split
 ·rename_i h; exact h.symm
 ·rfl
theorem keys_inj {α : Type} {m : List (Int × α)} (hn : (m.map (·.1)).Nodup) {i j : Nat} {x y : Int × α} (hi : m[i]? = some x) (hj : m[j]? = some y) (he : x.1 = y.1) : i = j := by
 have hi' : (m.map (·.1))[i]? = some x.1 := by rw [List.getElem?_map, hi]; rfl
 have hj' : (m.map (·.1))[j]? = some y.1 := by rw [List.getElem?_map, hj]; rfl
 obtain ⟨hil, hie⟩ := List.getElem?_eq_some_iff.1 hi'
 obtain ⟨hjl, hje⟩ := List.getElem?_eq_some_iff.1 hj'
 rcases Nat.lt_trichotomy i j with h | h | h
 ·have := List.pairwise_iff_getElem.1 (List.nodup_iff_pairwise_ne.1 hn) i j hil hjl h
  rw [hie, hje] at this; exact absurd he this
 ·exact h
 ·have := List.pairwise_iff_getElem.1 (List.nodup_iff_pairwise_ne.1 hn) j i hjl hil h
  rw [hie, hje] at this; exact absurd he.symm this
def mapUpI (P : Program) (H : List AObj) (T : TypeId) (mm key x : AV) : Option (Prop × List AObj) :=
 match P.underlying T, mm, key, x with
 | some (.map kt _), .sl o, .v (.int .i64 k), .v (.int .i64 y) => match P.underlying kt, H[o]? with
   | some (.int .i64), some (.mi m) => some (True, (H.map (AObj.unview o)).set o (.mi (setI m k y)))
   | _, _ => none
 | _, _, _, _ => none
open Go.MapKept in
theorem mapUpI_run (hH : HeapOk γ ρ H w) {T : TypeId} {mm key x : AV} {q : Prop} {H' : List AObj} {um uk ux : Value} (h : mapUpI P H T mm key x = some (q, H')) (hm : rel ρ mm um) (hk : rel ρ key uk) (hx : rel ρ x ux) :
 ∃ w' γ', (Instr.mapUpdate T um uk ux).run P w = .ok () w' ∧ HeapOk γ' ρ H' w' ∧ Fr γ w γ' w' := by
 unfold mapUpI at h
 split at h
 ·rename_i kt et o k y hT
  split at h
  ·rename_i m hkt ho
   simp only [Option.some.injEq, Prod.mk.injEq] at h
   obtain ⟨_, rfl⟩ := h
   obtain rfl := rel_v hk
   obtain rfl := rel_v hx
   obtain ⟨u, h1, ⟨r, es, clock, rfl, e2, e3, e4, e5, e6⟩⟩ := hH.obj _ _ ho
   have hmv := rel_sl hm
   rw [h1] at hmv
   obtain rfl := Option.some.inj hmv
   have hol := (List.getElem?_eq_some_iff.1 ho).1
   have hat : ∀ {i : Nat} {e : MapEntry}, es[i]? = some e → ∃ x, m[i]? = some x ∧ e.key = .int .i64 x.1 := fun {i e} hi => by
    have hil : i < m.length := by rw [← e4]; exact (Array.getElem?_eq_some_iff.1 hi).1
    exact ⟨m[i], List.getElem?_eq_getElem hil, (e6 i e _ hi (List.getElem?_eq_getElem hil)).1⟩
   have hks : ∀ x ∈ es.toList, IsKey (.int .i64) x.key := fun x hx => by
    obtain ⟨i, hi⟩ := List.mem_iff_getElem?.1 hx
    obtain ⟨y, _, hy⟩ := hat (i := i) (e := x) (by simpa using hi)
    rw [hy]; simp [IsKey]
   have hkk : IsKey (.int .i64) (.int .i64 k) := by simp [IsKey]
   have finish : ∀ (es' : Array MapEntry) (clock' : Nat) (m' : List (Int × Int)), (Instr.mapUpdate T (.map (some r)) (.int .i64 k) (.int .i64 y)).run P w = .ok () { w with heap := w.heap.setIfInBounds r (.map es' clock') } →
    es'.size = m'.length → (m'.map (·.1)).Nodup → (∀ (i : Nat) (e : MapEntry) (x : Int × Int), es'[i]? = some e → m'[i]? = some x → e.key = .int .i64 x.1 ∧ e.val = .int .i64 x.2) →
    ∃ w' γ', (Instr.mapUpdate T (.map (some r)) (.int .i64 k) (.int .i64 y)).run P w = .ok () w' ∧ HeapOk γ' ρ ((H.map (AObj.unview o)).set o (.mi m')) w' ∧ Fr γ w γ' w' := by
    intro es' clock' m' hrun hs1 hs2 hs3
    have hset := Go.MapKept.heap_set (w := w) (o' := Obj.map es' clock') e3
    have hot : ∀ b', b' ≠ r → ({ w with heap := w.heap.setIfInBounds r (.map es' clock') } : World).heap[b']? = w.heap[b']? := fun b' hb' => hset.2 b' hb'
    refine ⟨_, γ, hrun, hH.upd0 o hol _ (fun b _ hg => hot b (fun e => by subst e; exact hg e2)) (by simp) ⟨_, h1, r, es', clock', rfl, e2, hset.1, hs1, hs2, hs3⟩, ⟨rfl, rfl, rfl, by simp, fun b _ hg => ⟨hot b (fun e => by subst e; rw [e2] at hg; cases hg), hg⟩, Nat.le_refl _⟩⟩
   rcases findNow_spec hkk es.toList 0 hks with ⟨f1, f2⟩ | ⟨j, e, f1, f2, f3⟩
   ·have hno : ∀ x ∈ m, x.1 ≠ k := fun x hx he => by
     obtain ⟨i, hi⟩ := List.mem_iff_getElem?.1 hx
     have hil : i < es.size := by rw [e4]; exact (List.getElem?_eq_some_iff.1 hi).1
     have := (e6 i es[i] x (Array.getElem?_eq_getElem hil) hi).1
     rw [he] at this
     exact f2 es[i] (by simp) this
    have hups : setI m k y = m ++ [(k, y)] := by
     unfold setI
     rw [if_neg]
     simp only [List.any_eq_true, beq_iff_eq, not_exists, not_and]
     exact hno
    rw [hups]
    refine finish (es.push { key := .int .i64 k, val := .int .i64 y, born := clock }) (clock + 1) (m ++ [(k, y)]) ?_ (by simp [e4]) ?_ (fun i e x hi hx => ?_)
    ·simp [Instr.mapUpdate, run_under hT, Go.MapKept.run_getObj_map e3, Go.MapKept.run_checkKey hkt hkk, Go.MapKept.run_findKey hkt f1, Go.MapKept.run_setObj_map _ e3, Result.andThen]
    ·rw [List.map_append, List.nodup_append]
     refine ⟨e5, by simp, fun a ha b hb => ?_⟩
     simp at hb
     subst hb
     obtain ⟨x, hx, rfl⟩ := List.mem_map.1 ha
     exact hno x hx
    ·by_cases hil : i < es.size
     ·rw [Array.getElem?_push_lt hil] at hi
      have hi : es[i]? = some e := by rw [Array.getElem?_eq_getElem hil]; exact hi
      rw [List.getElem?_append_left (by omega)] at hx
      exact e6 i e x hi hx
     ·have his : i = es.size := by
       have := (Array.getElem?_eq_some_iff.1 hi).1
       simp at this; omega
      subst his
      rw [Array.getElem?_push_size] at hi
      obtain rfl := Option.some.inj hi
      rw [List.getElem?_append_right (by omega), e4, Nat.sub_self] at hx
      obtain rfl := Option.some.inj hx
      exact ⟨rfl, rfl⟩
   ·have hj : es[j]? = some e := by simpa using f2
    obtain ⟨x0, hy1, hy2⟩ := hat hj
    have hyk : x0.1 = k := by rw [f3] at hy2; exact (Value.int.inj hy2).2.symm
    have hups : setI m k y = m.map fun x => if x.1 = k then (k, y) else x := by
     unfold setI
     rw [if_pos]
     simp only [List.any_eq_true, beq_iff_eq]
     exact ⟨x0, List.mem_of_getElem? hy1, hyk⟩
    have hkeys : (m.map fun x => if x.1 = k then (k, y) else x).map (·.1) = m.map (·.1) := by
     rw [List.map_map]
     apply List.map_congr_left
     intro x _
     simp only [Function.comp]
     split
     ·rename_i hh; exact hh.symm
     ·rfl
    rw [hups]
    refine finish (es.modify j fun e => { e with key := .int .i64 k, val := .int .i64 y }) clock _ ?_ (by simp [e4]) (by rw [hkeys]; exact e5) (fun i e' x hi hx => ?_)
    ·simp [Instr.mapUpdate, run_under hT, Go.MapKept.run_getObj_map e3, Go.MapKept.run_checkKey hkt hkk, Go.MapKept.run_findKey hkt f1, hj, f3, Go.MapKept.run_keyThatStays hkk, Go.MapKept.run_setObj_map _ e3, Result.andThen]
    ·rw [Array.getElem?_modify] at hi
     simp only [List.getElem?_map] at hx
     cases hmi : m[i]? with
     | none => rw [hmi] at hx; cases hx
     | some z =>
       rw [hmi] at hx
       simp at hx
       by_cases hij : j = i
       ·subst hij
        rw [hy1] at hmi
        obtain rfl := Option.some.inj hmi
        rw [if_pos hyk] at hx
        subst hx
        simp [hj] at hi
        subst hi
        exact ⟨rfl, rfl⟩
       ·rw [if_neg hij] at hi
        have hz : z.1 ≠ k := fun he => hij (keys_inj e5 hy1 hmi (by rw [he]; exact hyk))
        rw [if_neg hz] at hx
        subst hx
        exact e6 i e' z (by simpa using hi) hmi
  ·cases h
 ·cases h
def mapUpE (P : Program) (H : List AObj) (T : TypeId) (mm key x : AV) : Option (Prop × List AObj) :=
 match P.underlying T, mm, key, x with
 | some (.map kt _), .sl o, .v (.int .i64 k'), .sl q => match P.underlying kt, H[o]?, H[q]? with
   | some (.int .i64), some (.mp m (some k) _), some (.row true (.trips d)) => some (k' = k, (((H.map (AObj.unview q)).map (AObj.unview o)).set o (.mp (upsM m k d) none none)).set q (.view o (.trips d)))
   | _, _, _ => none
 | _, _, _, _ => none
open Go.MapKept in
theorem mapUpE_run (hH : HeapOk γ ρ H w) {T : TypeId} {mm key x : AV} {q : Prop} {H' : List AObj} {um uk ux : Value} (h : mapUpE P H T mm key x = some (q, H')) (hq : q) (hm : rel ρ mm um) (hk : rel ρ key uk) (hx : rel ρ x ux) :
 ∃ w' γ', (Instr.mapUpdate T um uk ux).run P w = .ok () w' ∧ HeapOk γ' ρ H' w' ∧ Fr γ w γ' w' := by
 unfold mapUpE at h
 split at h
 ·rename_i kt et o k' q0 hT
  split at h
  ·rename_i m k lk d hkt ho hq0
   simp only [Option.some.injEq, Prod.mk.injEq] at h
   obtain ⟨rfl, rfl⟩ := h
   obtain rfl : k' = k := hq
   obtain rfl := rel_v hk
   obtain ⟨u, h1, ⟨r, es, clock, lab, rfl, e2, e3, e4, e5, e6⟩, _⟩ := hH.obj _ _ ho
   have hmv := rel_sl hm
   rw [h1] at hmv
   obtain rfl := Option.some.inj hmv
   obtain ⟨u0, g1, g2⟩ := hH.obj _ _ hq0
   have hxv := rel_sl hx
   rw [g1] at hxv
   obtain rfl := Option.some.inj hxv
   simp only [↓reduceIte] at g2
   have hone : u0.oneCell' = true := by obtain ⟨a, cp, e, _⟩ := g2.slice; rw [e]; rfl
   have hol := (List.getElem?_eq_some_iff.1 ho).1
   have hne : q0 ≠ o := by intro e; subst e; rw [ho] at hq0; cases hq0
   have hat : ∀ {i : Nat} {e : MapEntry}, es[i]? = some e → ∃ x, m[i]? = some x ∧ e.key = .int .i64 x.1 := fun {i e} hi => by
    have hil : i < m.length := by rw [← e4]; exact (Array.getElem?_eq_some_iff.1 hi).1
    exact ⟨m[i], List.getElem?_eq_getElem hil, (e6 i e _ hi (List.getElem?_eq_getElem hil)).1⟩
   have hks : ∀ x ∈ es.toList, IsKey (.int .i64) x.key := fun x hx => by
    obtain ⟨i, hi⟩ := List.mem_iff_getElem?.1 hx
    obtain ⟨y, _, hy⟩ := hat (i := i) (e := x) (by simpa using hi)
    rw [hy]; simp [IsKey]
   have hkk : IsKey (.int .i64) (.int .i64 k') := by simp [IsKey]
   let γ' : Nat → Option Nat := fun b => if γ b = some q0 then some o else γ b
   have hγo : ∀ b, γ b = some o → γ' b = some o := fun b hb => by
    simp only [γ', hb]
    rw [if_neg]; simpa using Ne.symm hne
   have hrq : ∀ b, γ b = some q0 → b ≠ r := fun b hb e => by subst e; rw [e2] at hb; exact hne (Option.some.inj hb).symm
   have finish : ∀ (es' : Array MapEntry) (clock' : Nat) (m' : List (Int × List (Int × Int × Int))) (lab' : Nat → Nat), (Instr.mapUpdate T (.map (some r)) (.int .i64 k') u0).run P w = .ok () { w with heap := w.heap.setIfInBounds r (.map es' clock') } →
    es'.size = m'.length → (m'.map (·.1)).Nodup → (∀ (i : Nat) (e : MapEntry) (x : Int × List (Int × Int × Int)), es'[i]? = some e → m'[i]? = some x → e.key = .int .i64 x.1 ∧ e.val.oneCell' = true ∧
     ((∃ S : Nat → Prop, CRep true w S (.sl 3 (x.2.map tripC)) e.val ∧ ∀ b, S b → γ' b = some o ∧ b ≠ r ∧ lab' b = i))) →
    ∃ w' γ', (Instr.mapUpdate T (.map (some r)) (.int .i64 k') u0).run P w = .ok () w' ∧ HeapOk γ' ρ ((((H.map (AObj.unview q0)).map (AObj.unview o)).set o (.mp m' none none)).set q0 (.view o (.trips d))) w' ∧ Fr γ w γ' w' := by
    intro es' clock' m' lab' hrun hs1 hs2 hs3
    have hset := Go.MapKept.heap_set (w := w) (o' := Obj.map es' clock') e3
    have hot : ∀ b', b' ≠ r → ({ w with heap := w.heap.setIfInBounds r (.map es' clock') } : World).heap[b']? = w.heap[b']? := fun b' hb' => hset.2 b' hb'
    refine ⟨_, γ', hrun, hH.absorb (b := r) hol hne hq0 g1 e2 hot (by simp) ⟨_, h1, ⟨r, es', clock', lab', rfl, hγo _ e2, hset.1, hs1, hs2, fun i e x hi hx => ?_⟩, fun k0 q hk => by cases hk⟩, ⟨rfl, rfl, rfl, by simp, fun b _ hg => ⟨hot b (fun e => by subst e; rw [e2] at hg; cases hg), by simp [γ', hg]⟩, Nat.le_refl _⟩⟩
    obtain ⟨c1, c2, S, c3, c4⟩ := hs3 i e x hi hx
    exact ⟨c1, c2, fun _ => c3.stay fun b hb _ => ⟨hot b (c4 b hb).2.1, c4 b hb⟩⟩
   have hrows : (Cont.trips d).rows = d.map tripC := by simp [Cont.rows, tripC]
   have hesz : (Cont.trips d).esz = 3 := rfl
   rw [hrows, hesz] at g2
   rcases findNow_spec hkk es.toList 0 hks with ⟨f1, f2⟩ | ⟨j, e, f1, f2, f3⟩
   ·have hno : ∀ x ∈ m, x.1 ≠ k' := fun x hx he => by
     obtain ⟨i, hi⟩ := List.mem_iff_getElem?.1 hx
     have hil : i < es.size := by rw [e4]; exact (List.getElem?_eq_some_iff.1 hi).1
     have := (e6 i es[i] x (Array.getElem?_eq_getElem hil) hi).1
     rw [he] at this
     exact f2 es[i] (by simp) this
    have hups : upsM m k' d = m ++ [(k', d)] := by
     unfold upsM
     rw [if_neg]
     simp only [List.any_eq_true, beq_iff_eq, not_exists, not_and]
     exact hno
    rw [hups]
    refine finish (es.push { key := .int .i64 k', val := u0, born := clock }) (clock + 1) (m ++ [(k', d)]) (fun b => if γ b = some q0 then es.size else lab b) ?_ (by simp [e4]) ?_ (fun i e x hi hx => ?_)
    ·simp [Instr.mapUpdate, run_under hT, Go.MapKept.run_getObj_map e3, Go.MapKept.run_checkKey hkt hkk, Go.MapKept.run_findKey hkt f1, Go.MapKept.run_setObj_map _ e3, Result.andThen]
    ·rw [List.map_append, List.nodup_append]
     refine ⟨e5, by simp, fun a ha b hb => ?_⟩
     simp at hb
     subst hb
     obtain ⟨x, hx, rfl⟩ := List.mem_map.1 ha
     exact hno x hx
    ·by_cases hil : i < es.size
     ·rw [Array.getElem?_push_lt hil] at hi
      have hi : es[i]? = some e := by rw [Array.getElem?_eq_getElem hil]; exact hi
      rw [List.getElem?_append_left (by omega)] at hx
      obtain ⟨c1, c2, c3⟩ := e6 i e x hi hx
      refine ⟨c1, c2, _, c3 (fun he => hno x (List.mem_of_getElem? hx) (Option.some.inj he).symm), fun b hb => ⟨hγo b hb.1, hb.2.1, ?_⟩⟩
      rw [if_neg (fun hh => by rw [hb.1] at hh; exact hne (Option.some.inj hh).symm)]
      exact hb.2.2
     ·have his : i = es.size := by
       have := (Array.getElem?_eq_some_iff.1 hi).1
       simp at this; omega
      subst his
      rw [Array.getElem?_push_size] at hi
      obtain rfl := Option.some.inj hi
      rw [List.getElem?_append_right (by omega), e4, Nat.sub_self] at hx
      obtain rfl := Option.some.inj hx
      exact ⟨rfl, hone, _, g2, fun b hb => ⟨by simp [γ', hb], hrq b hb, by simp [hb]⟩⟩
   ·have hj : es[j]? = some e := by simpa using f2
    obtain ⟨y, hy1, hy2⟩ := hat hj
    have hyk : y.1 = k' := by rw [f3] at hy2; exact (Value.int.inj hy2).2.symm
    have hups : upsM m k' d = setM m k' d := by
     unfold upsM
     rw [if_pos]
     simp only [List.any_eq_true, beq_iff_eq]
     exact ⟨y, List.mem_of_getElem? hy1, hyk⟩
    rw [hups]
    refine finish (es.modify j fun e => { e with key := .int .i64 k', val := u0 }) clock (setM m k' d) (fun b => if γ b = some q0 then j else lab b) ?_ (by simp [setM, e4]) (by rw [setM_keys]; exact e5) (fun i e' x hi hx => ?_)
    ·simp [Instr.mapUpdate, run_under hT, Go.MapKept.run_getObj_map e3, Go.MapKept.run_checkKey hkt hkk, Go.MapKept.run_findKey hkt f1, hj, f3, Go.MapKept.run_keyThatStays hkk, Go.MapKept.run_setObj_map _ e3, Result.andThen]
    ·rw [Array.getElem?_modify] at hi
     simp only [setM, List.getElem?_map] at hx
     cases hmx : m[i]? with
     | none => rw [hmx] at hx; cases hx
     | some x0 =>
       rw [hmx] at hx
       obtain rfl := Option.some.inj hx
       by_cases hij : j = i
       ·subst hij
        rw [if_pos rfl, hj] at hi
        obtain rfl := Option.some.inj hi
        rw [hy1] at hmx
        obtain rfl := Option.some.inj hmx
        simp only
        rw [if_pos hyk]
        exact ⟨rfl, hone, _, g2, fun b hb => ⟨by simp [γ', hb], hrq b hb, by simp [hb]⟩⟩
       ·rw [if_neg hij] at hi
        have hxk : ¬ x0.1 = k' := fun he => hij (keys_inj e5 hy1 hmx (by rw [hyk, he]))
        simp only
        rw [if_neg hxk]
        obtain ⟨c1, c2, c3⟩ := e6 i e' x0 hi hmx
        refine ⟨c1, c2, _, c3 (fun he => hxk (Option.some.inj he).symm), fun b hb => ⟨hγo b hb.1, hb.2.1, ?_⟩⟩
        rw [if_neg (fun hh => by rw [hb.1] at hh; exact hne (Option.some.inj hh).symm)]
        exact hb.2.2
  ·cases h
 ·cases h
theorem storeCE_run (hH : HeapOk γ ρ H w) {T : TypeId} {p x : AV} {q : Prop} {H' : List AObj} {up u : Value} (h : storeCE P H T p x = some (q, H')) (hp : rel ρ p up) (hu : rel ρ x u) :
 ∃ w' γ', (Instr.storeAt T up u).run P w = .ok () w' ∧ HeapOk γ' ρ H' w' ∧ Fr γ w γ' w' := by
 unfold storeCE at h
 split at h
 ·rename_i o i esz f q0
  split at h
  ·rename_i c j g lk d htak hq
   split at h
   ·rename_i hcond
    obtain ⟨rfl, rfl, rfl, hT⟩ := hcond
    cases hset : c.setChild j g d with
    | none => rw [hset] at h; cases h
    | some c' =>
      rw [hset] at h
      simp only [Option.map_some, Option.some.injEq, Prod.mk.injEq] at h
      obtain ⟨_, rfl⟩ := h
      obtain ⟨b, ofs, cap, h1, _⟩ := hH.obj _ _ htak
      obtain ⟨b1, ofs1, n1, cap1, h4, rfl⟩ := rel_ep hp
      rw [h1] at h4
      simp at h4
      obtain ⟨⟨rfl, rfl⟩, rfl, rfl⟩ := h4
      obtain ⟨arr, e, γ', hb, h6, hfit, hge, hone, hH', hF⟩ := storeC_heap hH htak hq hset h1 hu.1
      rw [Nat.add_mul] at hfit
      have hst := run_storeCells_at P b (ofs + j * c.esz + g) e [u] 0 arr w hb (by simp; omega) (by simpa using hone)
      refine ⟨_, γ', ?_, hH', hF⟩
      have hcs : u.cells = #[u] := by
       cases u <;> first | rfl | (simp [Value.oneCell'] at hone)
      simp [Instr.storeAt, Instr.sureAddr, storeVar, hcs, run_tsz hT]
      simpa using hst
   ·cases h
  ·cases h
 ·cases h
def Cont.setG (c : Cont) (i : Nat) (n : Int) (d : Cont) : Option Cont :=
 match c, d with
 | .graphs gs, .trips ys => some (.graphs (gs.set i (n, ys)))
 | _, _ => none
def storeGE (P : Program) (H : List AObj) (T : TypeId) (p x : AV) : Option (Prop × List AObj) :=
 match p, x with
 | .ep o i esz f, .agg [.v (.int .i64 n), .sl q] => match H[o]?, H[q]? with
   | some (.tak true c j g _), some (.row true d) => if j = i ∧ g = 1 ∧ f = 0 ∧ c.esz = esz ∧ tsz P T = some 2 then (c.setG j n d).map fun c' => (True, ((((H.map (AObj.unview o)).map (AObj.unview q)).map (AObj.unview o)).set o (.row true c')).set q (.view o d)) else none
   | _, _ => none
 | _, _ => none
theorem storeGE_run (hH : HeapOk γ ρ H w) {T : TypeId} {p x : AV} {q : Prop} {H' : List AObj} {up u : Value} (h : storeGE P H T p x = some (q, H')) (hp : rel ρ p up) (hu : rel ρ x u) :
 ∃ w' γ', (Instr.storeAt T up u).run P w = .ok () w' ∧ HeapOk γ' ρ H' w' ∧ Fr γ w γ' w' := by
 unfold storeGE at h
 split at h
 ·rename_i o i esz f n q0
  split at h
  ·rename_i c j g lk d htak hq
   split at h
   ·rename_i hcond
    obtain ⟨rfl, rfl, rfl, rfl, hT⟩ := hcond
    cases hset : c.setG j n d with
    | none => rw [hset] at h; cases h
    | some c' =>
      rw [hset] at h
      simp only [Option.map_some, Option.some.injEq, Prod.mk.injEq] at h
      obtain ⟨_, rfl⟩ := h
      cases c <;> cases d <;> simp only [Cont.setG, reduceCtorEq, Option.some.injEq] at hset
      rename_i gs ys
      subst hset
      obtain ⟨b, ofs, cap, h1, h2, h3, h6, _⟩ := hH.obj _ _ htak
      obtain ⟨b1, ofs1, n1, cap1, h4, rfl⟩ := rel_ep hp
      rw [h1] at h4
      simp at h4
      obtain ⟨⟨rfl, rfl⟩, rfl, rfl⟩ := h4
      obtain ⟨cs, rfl, hcl, hcs⟩ := hu
      match cs, hcl, hcs with
      | [x0, x1], _, hcs =>
      have k0 : rel1 ρ (.v (.int .i64 n)) x0 := hcs 0 _ _ rfl rfl
      have k1 : rel1 ρ (.sl q0) x1 := hcs 1 _ _ rfl rfl
      obtain ⟨rfl, -⟩ := k0
      simp only [↓reduceIte] at h3 h6
      have hj : j < gs.length := h2
      have hol := (List.getElem?_eq_some_iff.1 htak).1
      have hne : q0 ≠ o := by intro e; subst e; rw [htak] at hq; cases hq
      obtain ⟨arr, e, hb, hfit⟩ := h3.arr_of (by rw [Cont.holed_len]; exact Nat.lt_of_le_of_lt (Nat.zero_le _) h2)
      have hcapn : (Cont.graphs gs).len ≤ cap := by
       obtain ⟨arr2, e2, hb2, hfit2⟩ := h3.arr_of (by rw [Cont.holed_len]; exact Nat.lt_of_le_of_lt (Nat.zero_le _) h2)
       exact hfit2.2
      have hes : (Cont.graphs gs).esz = 2 := rfl
      have hln : (Cont.graphs gs).len = gs.length := rfl
      rw [hes] at hfit
      rw [hln] at hcapn
      have hidx : ofs + j * 2 + 2 ≤ arr.size := by
       have h7 : (j + 1) * 2 ≤ cap * 2 := Nat.mul_le_mul_right _ (by omega)
       omega
      let arr1 := (arr.toList.take (ofs + j * 2) ++ [Value.int .i64 n] ++ arr.toList.drop (ofs + j * 2 + 1)).toArray
      have hs1 : arr1.size = arr.size := by simp [arr1]; omega
      have hget : ∀ k, arr1[k]? = if k = ofs + j * 2 + 0 then some (Value.int .i64 n) else arr[k]? := fun k => by
       have key := get_seg (l := arr.toList) (s := ofs + j * 2) (vs := [Value.int .i64 n]) (j := k) (by simp; omega)
       have e3 : arr1[k]? = (arr.toList.take (ofs + j * 2) ++ [Value.int .i64 n] ++ arr.toList.drop (ofs + j * 2 + [Value.int .i64 n].length))[k]? := by simp [arr1]
       rw [e3, key]
       by_cases hk : k = ofs + j * 2
       ·rw [if_pos (show k = ofs + j * 2 + 0 from hk), if_pos ⟨by omega, by simp; omega⟩, hk]; simp
       ·rw [if_neg (show ¬ k = ofs + j * 2 + 0 from hk), if_neg (fun hh => hk (by have := hh.2; simp at this; omega))]; simp
      let c0 : Cont := .graphs (gs.set j (n, (gs.getD j (0, [])).2))
      have hrow0 : (Cont.graphs gs).rows[j]? = some [cI .i64 (gs.getD j (0, [])).1, CV.sl 3 ((gs.getD j (0, [])).2.map fun p => [cI .i64 p.1, cI .i64 p.2.1, cI .i64 p.2.2])] := by
       rw [Cont.rows, List.getElem?_map, List.getElem?_eq_getElem hj, List.getD_eq_getElem?_getD, List.getElem?_eq_getElem hj]; rfl
      have hrh : ((Cont.graphs gs).holed j 1)[j]? = some [cI .i64 (gs.getD j (0, [])).1, .hole] := by
       rw [Cont.holed, List.getElem?_modify, hrow0]; simp
      have h3' : CRep true (w.setRow b arr1) (fun b => γ b = some o) (.sl 2 (c0.holed j 1)) (.slice (some ⟨b, ofs, none⟩) gs.length cap) := by
       have := h3.cell_set (x := .int .i64 n) hrh (f := 0) rfl hb hs1 rfl hget
       have e4 : ((Cont.graphs gs).holed j 1).set j ([cI .i64 (gs.getD j (0, [])).1, CV.hole].set 0 (.v (.int .i64 n))) = c0.holed j 1 := by
        apply List.ext_getElem?
        intro k
        by_cases hk : k = j
        ·subst hk
         rw [List.getElem?_set_self (by rw [Cont.holed_len]; exact h2)]
         simp [c0, Cont.holed, Cont.rows, List.getElem?_modify, hj, cI]
        ·rw [List.getElem?_set_ne (Ne.symm hk)]
         simp [c0, Cont.holed, Cont.rows, List.getElem?_modify, Ne.symm hk]
       rw [e4] at this
       exact this
      have hH1 := hH.upd0 (w' := w.setRow b arr1) o hol (.tak true c0 j 1 none) (fun b' _ hg => setRow_other w b b' _ (fun e => by subst e; exact hg h6)) (by simp) ⟨b, ofs, cap, by rw [h1]; simp [c0, Cont.len], by simp [c0, Cont.len]; exact hj, by simpa [c0, Cont.esz, Cont.len] using h3', by simpa using h6, fun _ hq' => by cases hq'⟩
      have ht1 : ((H.map (AObj.unview o)).set o (.tak true c0 j 1 none))[o]? = some (.tak true c0 j 1 none) := List.getElem?_set_self (by simpa using hol)
      have hq1 : ((H.map (AObj.unview o)).set o (.tak true c0 j 1 none))[q0]? = some (.row true (.trips ys)) := by
       rw [List.getElem?_set_ne (Ne.symm hne), List.getElem?_map, hq]; rfl
      have hset1 : c0.setChild j 1 (.trips ys) = some (.graphs (gs.set j (n, ys))) := by
       simp [c0, Cont.setChild, List.getD_eq_getElem?_getD, hj]
      obtain ⟨arr', e', γ', hb', h6', hfit', hge, hone, hH', hF⟩ := storeC_heap hH1 ht1 hq1 hset1 (b := b) (ofs := ofs) (cap := cap) (by rw [h1]; simp [c0, Cont.len]) k1.1
      rw [setRow_heap w b arr arr1 e _ hb] at hb'
      simp only [Option.some.injEq, Obj.cells.injEq, and_true] at hb'
      obtain ⟨rfl, rfl⟩ := hb'
      have hst := run_storeCells_at P b (ofs + j * 2) e [Value.int .i64 n, x1] 0 arr w hb (by simp; omega) (by
       intro v hv
       simp only [List.mem_cons, List.not_mem_nil, or_false] at hv
       rcases hv with rfl | rfl
       ·rfl
       ·exact hone)
      rw [setRow_setRow] at hH' hF
      have e5 : (arr1.toList.take (ofs + j * c0.esz + 1) ++ [x1] ++ arr1.toList.drop (ofs + j * c0.esz + 1 + 1)).toArray = (arr.toList.take (ofs + j * 2 + 0) ++ [Value.int .i64 n, x1] ++ arr.toList.drop (ofs + j * 2 + 0 + 2)).toArray := by
       have e6 : c0.esz = 2 := rfl
       rw [e6]
       have hAl : (arr.toList.take (ofs + j * 2) ++ [Value.int .i64 n]).length = ofs + j * 2 + 1 := by simp; omega
       have hl : arr1.toList = (arr.toList.take (ofs + j * 2) ++ [Value.int .i64 n]) ++ arr.toList.drop (ofs + j * 2 + 1) := by simp [arr1]
       have ht : arr1.toList.take (ofs + j * 2 + 1) = arr.toList.take (ofs + j * 2) ++ [Value.int .i64 n] := by rw [hl, ← hAl, List.take_left]
       have hd : arr1.toList.drop (ofs + j * 2 + 1 + 1) = arr.toList.drop (ofs + j * 2 + 1 + 1) := by
        have hd1 : arr1.toList.drop (ofs + j * 2 + 1) = arr.toList.drop (ofs + j * 2 + 1) := by
         rw [hl]
         exact (congrArg (fun k => List.drop k ((arr.toList.take (ofs + j * 2) ++ [Value.int .i64 n]) ++ arr.toList.drop (ofs + j * 2 + 1))) hAl.symm).trans List.drop_left
        have hdd : ∀ (l : List Value) (k : Nat), l.drop (k + 1) = (l.drop k).drop 1 := fun l k => (List.drop_drop ..).symm
        rw [hdd _ (ofs + j * 2 + 1), hd1, ← hdd]
       rw [ht, hd]
       simp
      rw [e5] at hH' hF
      refine ⟨_, γ', ?_, ?_, Fr.trans (Fr.own h6) hF⟩
      ·simp [Instr.storeAt, Instr.sureAddr, storeVar, run_tsz hT, Value.cells, hes]
       simpa using hst
      ·have e7 : ((((H.map (AObj.unview o)).set o (.tak true c0 j 1 none)).map (AObj.unview q0)).map (AObj.unview o)).set o (.row true (.graphs (gs.set j (n, ys)))) = (((H.map (AObj.unview o)).map (AObj.unview q0)).map (AObj.unview o)).set o (.row true (.graphs (gs.set j (n, ys)))) := by
        rw [List.map_set, List.map_set, List.set_set]
       rw [e7] at hH'
       exact hH'
   ·cases h
  ·cases h
 ·cases h
def storeFE (P : Program) (H : List AObj) (T : TypeId) (p x : AV) : Option (Prop × List AObj) :=
 match p, x with
 | .ep o i esz f, .v (.int .i64 n) => match H[o]? with
   | some (.row true (.graphs gs)) => if esz = 2 ∧ f = 0 ∧ tsz P T = some 1 then some (i < gs.length, (H.map (AObj.unview o)).set o (.row true (.graphs (gs.set i (n, (gs.getD i (0, [])).2))))) else none
   | _ => none
 | _, _ => none
theorem storeFE_run (hH : HeapOk γ ρ H w) {T : TypeId} {p x : AV} {q : Prop} {H' : List AObj} {up u : Value} (h : storeFE P H T p x = some (q, H')) (hq : q) (hp : rel ρ p up) (hu : rel ρ x u) :
 ∃ w' γ', (Instr.storeAt T up u).run P w = .ok () w' ∧ HeapOk γ' ρ H' w' ∧ Fr γ w γ' w' := by
 unfold storeFE at h
 split at h
 ·rename_i o j esz f n
  split at h
  ·rename_i gs hrow
   split at h
   ·rename_i hcond
    obtain ⟨rfl, rfl, hT⟩ := hcond
    simp only [Option.some.injEq, Prod.mk.injEq] at h
    obtain ⟨rfl, rfl⟩ := h
    obtain rfl := rel_v hu
    have hj : j < gs.length := hq
    obtain ⟨u0, h1, h3⟩ := hH.obj _ _ hrow
    obtain ⟨b1, ofs1, n1, cap1, h4, rfl⟩ := rel_ep hp
    rw [h1] at h4
    obtain rfl := Option.some.inj h4
    have hol := (List.getElem?_eq_some_iff.1 hrow).1
    have hrow0 : (Cont.graphs gs).rows[j]? = some [cI .i64 (gs.getD j (0, [])).1, CV.sl 3 ((gs.getD j (0, [])).2.map fun p => [cI .i64 p.1, cI .i64 p.2.1, cI .i64 p.2.2])] := by
     rw [Cont.rows, List.getElem?_map, List.getElem?_eq_getElem hj, List.getD_eq_getElem?_getD, List.getElem?_eq_getElem hj]; rfl
    simp only [↓reduceIte] at h3
    have hrl : 0 < (Cont.graphs gs).rows.length := by rw [Cont.len_rows]; exact Nat.lt_of_le_of_lt (Nat.zero_le _) hj
    obtain ⟨b2, off2, cap2, q4, h6, _, q5⟩ := h3.cell hrow0
    simp at q4
    obtain ⟨⟨rfl, rfl⟩, rfl, rfl⟩ := q4
    obtain ⟨arr, e, hb, hfit, hcapn⟩ := h3.arr_of hrl
    have hes : (Cont.graphs gs).esz = 2 := rfl
    rw [hes] at hfit
    have hlr : (Cont.graphs gs).rows.length = gs.length := by rw [Cont.len_rows]; rfl
    rw [hlr] at hcapn
    have hidx : ofs1 + j * 2 + 2 ≤ arr.size := by
     have h7 : (j + 1) * 2 ≤ cap1 * 2 := Nat.mul_le_mul_right _ (by omega)
     omega
    have hst := run_storeCells_at P b1 (ofs1 + j * 2) e [Value.int .i64 n] 0 arr w hb (by simp; omega) (by simp; rfl)
    let arr1 := (arr.toList.take (ofs1 + j * 2) ++ [Value.int .i64 n] ++ arr.toList.drop (ofs1 + j * 2 + 1)).toArray
    have hs1 : arr1.size = arr.size := by simp [arr1]; omega
    have hget : ∀ k, arr1[k]? = if k = ofs1 + j * 2 + 0 then some (Value.int .i64 n) else arr[k]? := fun k => by
     have key := get_seg (l := arr.toList) (s := ofs1 + j * 2) (vs := [Value.int .i64 n]) (j := k) (by simp; omega)
     have e3 : arr1[k]? = (arr.toList.take (ofs1 + j * 2) ++ [Value.int .i64 n] ++ arr.toList.drop (ofs1 + j * 2 + [Value.int .i64 n].length))[k]? := by simp [arr1]
     rw [e3, key]
     by_cases hk : k = ofs1 + j * 2
     ·rw [if_pos (show k = ofs1 + j * 2 + 0 from hk), if_pos ⟨by omega, by simp; omega⟩, hk]; simp
     ·rw [if_neg (show ¬ k = ofs1 + j * 2 + 0 from hk), if_neg (fun hh => hk (by have := hh.2; simp at this; omega))]; simp
    have h3' := h3.cell_set (x := .int .i64 n) hrow0 (f := 0) rfl hb hs1 rfl hget
    have e4 : (Cont.graphs gs).rows.set j ([cI .i64 (gs.getD j (0, [])).1, CV.sl 3 ((gs.getD j (0, [])).2.map fun p => [cI .i64 p.1, cI .i64 p.2.1, cI .i64 p.2.2])].set 0 (.v (.int .i64 n))) = (Cont.graphs (gs.set j (n, (gs.getD j (0, [])).2))).rows := by
     simp [Cont.rows, List.map_set, cI]
    rw [e4] at h3'
    refine ⟨w.setRow b1 arr1, γ, ?_, hH.upd0 o hol _ (fun b' _ hg => setRow_other w b1 b' _ (fun e => by subst e; exact hg h6)) (by simp) ⟨_, h1, by simp only [↓reduceIte]; exact h3'⟩, Fr.own h6⟩
    simp [Instr.storeAt, Instr.sureAddr, storeVar, Value.cells, run_tsz hT]
    simpa [arr1] using hst
   ·cases h
  ·cases h
 ·cases h
def storeAE (P : Program) (H : List AObj) (T : TypeId) (p x : AV) : Option (Prop × List AObj) :=
 match p, x with
 | .ep o 0 1 0, .v y => match H[o]?, arrD y, tsz P T with
   | some (.row true (.ints .i64 xs)), some ys, some n => if 0 < n then some (ys.length = n ∧ xs.length = n, (H.map (AObj.unview o)).set o (.row true (.ints .i64 ys))) else none
   | _, _, _ => none
 | _, _ => none
theorem storeAE_run (hH : HeapOk γ ρ H w) {T : TypeId} {p x : AV} {q : Prop} {H' : List AObj} {up u : Value} (h : storeAE P H T p x = some (q, H')) (hq : q) (hp : rel ρ p up) (hu : rel ρ x u) :
 ∃ w' γ', (Instr.storeAt T up u).run P w = .ok () w' ∧ HeapOk γ' ρ H' w' ∧ Fr γ w γ' w' := by
 unfold storeAE at h
 split at h
 ·rename_i o y
  split at h
  ·rename_i xs ys n hrow hy hT
   split at h
   case isFalse => cases h
   rename_i hpos
   simp only [Option.some.injEq, Prod.mk.injEq] at h
   obtain ⟨rfl, rfl⟩ := h
   obtain ⟨hyn, hxn⟩ := hq
   obtain rfl := rel_v hu
   obtain rfl := arrD_eq hy
   obtain ⟨b0, ofs, n0, cap0, h1, rfl⟩ := rel_ep hp
   obtain ⟨u0, h2, h3⟩ := hH.obj _ _ hrow
   rcases flat_inv (c := .ints .i64 xs) rfl h3 rfl with ⟨a, h4, h5⟩ | ⟨b, off, cap, arr, e, rfl, hSb, hb, hcap, hmax, hsz, hv⟩
   ·have : xs.length = 0 := by simpa [Cont.len] using h5
    omega
   ·rw [h1] at h2
    simp at h2
    obtain ⟨⟨rfl, rfl⟩, rfl, rfl⟩ := h2
    simp only [Cont.len, Cont.esz, Nat.mul_one] at hcap hsz hv
    have ho : o < H.length := (List.getElem?_eq_some_iff.1 hrow).1
    have hγ : γ b0 = some o := hSb
    have hlm : (ys.map (Value.int .i64)).length = n := by simpa using hyn
    have hone : ∀ v ∈ ys.map (Value.int .i64), v.oneCell' = true := by
     intro v hv
     obtain ⟨m, _, rfl⟩ := List.mem_map.1 hv
     rfl
    have hst := run_storeCells_at P b0 ofs e (ys.map (Value.int .i64)) 0 arr w hb (by simp; omega) hone
    refine ⟨w.setRow b0 (arr.toList.take (ofs + 0) ++ ys.map (Value.int .i64) ++ arr.toList.drop (ofs + 0 + (ys.map (Value.int .i64)).length)).toArray, γ, ?_, hH.upd0 o ho _ (fun b1 hb1 hg => ?_) (by simp) ⟨_, h1, ?_⟩, Fr.own hγ⟩
    ·simp [Instr.storeAt, Instr.sureAddr, storeVar, Value.cells, run_tsz hT, arrV, hyn]
     simpa [hyn] using hst
    ·exact setRow_other w b0 b1 _ (fun e => by subst e; exact hg hγ)
    ·have e1 : (Cont.ints .i64 xs).len = (Cont.ints .i64 ys).len := by simp [Cont.len]; omega
     rw [e1]
     refine flat_rep (c := .ints .i64 ys) rfl hSb (setRow_heap w b0 arr _ e _ hb) (by simp [Cont.len]; omega) hmax ?_ ?_
     ·simp [Cont.esz]; omega
     ·intro j g x hj hx
      simp only [Cont.len] at hj
      simp only [Cont.cell] at hx
      split at hx
      ·rename_i hg; subst hg
       simp at hx; subst hx
       have hfit2 : ofs + (ys.map (Value.int .i64)).length ≤ arr.toList.length := by simp; omega
       have key := get_seg (l := arr.toList) (s := ofs) (vs := ys.map (Value.int .i64)) (j := ofs + j) hfit2
       rw [if_pos ⟨by omega, by simp; omega⟩] at key
       simp only [Cont.esz, Nat.mul_one, Nat.add_zero, List.getElem?_toArray]
       rw [key]
       simp [List.getElem?_eq_getElem hj, Nat.add_sub_cancel_left]
      ·cases hx
  ·cases h
 ·cases h
def storeHE (P : Program) (H : List AObj) (T : TypeId) (p x : AV) : Option (Prop × List AObj) :=
 match p with
 | .ep o i esz f => match H[o]? with
   | some (.row true (.graphs gs)) => (storeGE P (H.set o (.tak true (.graphs gs) i 1 none)) T (.ep o i esz f) x).map fun r => (i < gs.length, r.2)
   | _ => none
 | _ => none
theorem storeHE_run (hH : HeapOk γ ρ H w) {T : TypeId} {p x : AV} {q : Prop} {H' : List AObj} {up u : Value} (h : storeHE P H T p x = some (q, H')) (hq : q) (hp : rel ρ p up) (hu : rel ρ x u) :
 ∃ w' γ', (Instr.storeAt T up u).run P w = .ok () w' ∧ HeapOk γ' ρ H' w' ∧ Fr γ w γ' w' := by
 unfold storeHE at h
 split at h
 ·rename_i o i esz f
  split at h
  ·rename_i gs hrow
   cases hr : storeGE P (H.set o (.tak true (.graphs gs) i 1 none)) T (.ep o i esz f) x with
   | none => rw [hr] at h; cases h
   | some r =>
     rw [hr] at h
     simp only [Option.map_some, Option.some.injEq, Prod.mk.injEq] at h
     obtain ⟨rfl, rfl⟩ := h
     have hi : i < gs.length := hq
     have hol := (List.getElem?_eq_some_iff.1 hrow).1
     refine storeGE_run (H := H.set o (.tak true (.graphs gs) i 1 none)) ⟨by simp [hH.len], fun p' ob hp' => ?_, fun b p' hb => by have := hH.lab b p' hb; exact ⟨by simpa using this.1, this.2⟩⟩ (q := r.1) (H' := r.2) hr hp hu
     by_cases hpo : p' = o
     ·subst hpo
      rw [List.getElem?_set_self hol] at hp'
      obtain rfl := Option.some.inj hp'
      obtain ⟨u1, h1, h2⟩ := hH.obj _ _ hrow
      have hro : (Cont.graphs gs).rows[i]? = some [cI .i64 (gs.getD i (0, [])).1, CV.sl 3 ((gs.getD i (0, [])).2.map fun p => [cI .i64 p.1, cI .i64 p.2.1, cI .i64 p.2.2])] := by
       rw [Cont.rows, List.getElem?_map, List.getElem?_eq_getElem hi, List.getD_eq_getElem?_getD, List.getElem?_eq_getElem hi]; rfl
      obtain ⟨b, ofs, cap, v, hu', hS, hcell, hone, C, hC, hchild, hhole⟩ := h2.takes (i := i) (f := 1) hro rfl
      rw [Cont.len_rows] at hu'
      subst hu'
      refine ⟨b, ofs, cap, h1, hi, ?_, hS, fun q hq => by cases hq⟩
      exact hhole.mono fun b' hb' => hb'.1
     ·rw [List.getElem?_set_ne (Ne.symm hpo)] at hp'
      exact hH.obj p' ob hp'
  ·cases h
 ·cases h
def storeXE (P : Program) (H : List AObj) (T : TypeId) (p x : AV) : Option (Prop × List AObj) :=
 match storeCE P H T p x with
 | some r => some r
 | none => match storeGE P H T p x with
   | some r => some r
   | none => match storeFE P H T p x with
     | some r => some r
     | none => match storeAE P H T p x with
       | some r => some r
       | none => storeHE P H T p x
theorem storeXE_run (hH : HeapOk γ ρ H w) {T : TypeId} {p x : AV} {q : Prop} {H' : List AObj} {up u : Value} (h : storeXE P H T p x = some (q, H')) (hq : q) (hp : rel ρ p up) (hu : rel ρ x u) :
 ∃ w' γ', (Instr.storeAt T up u).run P w = .ok () w' ∧ HeapOk γ' ρ H' w' ∧ Fr γ w γ' w' := by
 unfold storeXE at h
 split at h
 ·rename_i r hr
  cases h
  exact storeCE_run hH hr hp hu
 ·split at h
  ·rename_i r hr
   cases h
   exact storeGE_run hH hr hp hu
  ·split at h
   ·rename_i r hr
    cases h
    exact storeFE_run hH hr hq hp hu
   ·split at h
    ·rename_i r hr
     cases h
     exact storeAE_run hH hr hq hp hu
    ·exact storeHE_run hH h hq hp hu
end Go.Av
