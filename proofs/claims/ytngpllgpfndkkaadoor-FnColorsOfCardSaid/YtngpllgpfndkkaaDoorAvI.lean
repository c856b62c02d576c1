/- Operations that change memory, on abstract states. -/
import Derived.Test.YtngpllgpfndkkaaDoorAvH
set_option linter.unusedSimpArgs false
set_option linter.unusedVariables false
namespace Go.Av
open Go

variable {P : Program} {N : Nat} {pin : List Nat} {γ γ' : Nat → Option Nat} {ρ : List Value} {H : List AObj} {w w' : World}

/-- Object o is changed in place. -/
theorem HeapOk.upd0 (h : HeapOk γ ρ H w) (o : Nat) (ho : o < H.length) (ob : AObj)
    (hs : ∀ b, b < w.heap.size → γ b ≠ some o → w'.heap[b]? = w.heap[b]?) (hsz : w.heap.size ≤ w'.heap.size)
    (hob : has γ ρ w' o ob) : HeapOk γ ρ ((H.map (AObj.unview o)).set o ob) w' := by
  refine ⟨by simp [h.len], fun p ob' hp => ?_, fun b p hb => ?_⟩
  · by_cases hpo : p = o
    · subst hpo
      rw [List.getElem?_set_self (by simpa using ho)] at hp
      simp at hp
      subst hp
      exact hob
    · rw [List.getElem?_set_ne (Ne.symm hpo), List.getElem?_map] at hp
      cases hH : H[p]? with
      | none => rw [hH] at hp; cases hp
      | some ob0 =>
        rw [hH] at hp
        simp at hp
        have h0 := h.obj p ob0 hH
        have stay : ∀ {own : Bool} {S : Nat → Prop} {c : CV} {x : Value}, CRep own w S c x → (∀ b, S b → γ b ≠ some o) → CRep own w' S c x :=
          fun hc h1 => hc.stay fun b hb hlt => ⟨hs b hlt (h1 b hb), hb⟩
        subst hp
        cases ob0 <;> simp only [AObj.unview]
        · exact trivial
        · obtain ⟨b, arr, e, h1, h2, h3, h4⟩ := h0
          have hb := (h.lab b p h2).2
          have hne : γ b ≠ some o := by rw [h2]; simpa using hpo
          exact ⟨b, arr, e, h1, h2, (hs b hb hne).trans h3, h4⟩
        · obtain ⟨b, arr, e, fz, h1, h2, h3, h4⟩ := h0
          exact ⟨b, arr, e, fz, h1, h2, (hs b (Array.getElem?_eq_some_iff.1 h3).1 (by rw [h2]; simp)).trans h3, h4⟩
        · obtain ⟨x, h1, h2⟩ := h0
          rename_i own c
          refine ⟨x, h1, stay h2 (fun b hb => ?_)⟩
          rw [hb]; cases own <;> simp; exact hpo
        · rename_i src c
          by_cases hsrc : src = o
          · simp only [if_pos hsrc]; exact trivial
          · simp only [if_neg hsrc]
            obtain ⟨x, h1, h2⟩ := h0
            exact ⟨x, h1, stay h2 (fun b hb => by rw [hb]; simpa using hsrc)⟩
        · obtain ⟨h1, arr, e, fz, h2, h3⟩ := h0
          exact ⟨h1, arr, e, fz, (hs _ (Array.getElem?_eq_some_iff.1 h2).1 (by rw [h1]; simp)).trans h2, h3⟩
        · rename_i own c i f q0
          obtain ⟨b, ofs, cap, h1, h2, h3, h6, h4⟩ := h0
          have hnx : (if own = true then some p else none) ≠ some o := by cases own <;> simp [hpo]
          refine ⟨b, ofs, cap, h1, h2, stay h3 (fun b hb => by rw [hb]; exact hnx), h6, fun q hq => ?_⟩
          obtain ⟨v, h5, h7⟩ := h4 q hq
          have hne : γ b ≠ some o := by rw [h6]; exact hnx
          exact ⟨v, h5, by rw [World.cell?_of_block (w := w) (hs b (World.block_lt_of_cell? w _ h7) hne)]; exact h7⟩
  · have := h.lab b p hb; exact ⟨by simpa using this.1, by omega⟩

theorem Fr.own {o b0 : Nat} {arr : Array Value} (hb : γ b0 = some o) : Fr γ w γ (w.setRow b0 arr) :=
  ⟨rfl, by rfl, rfl, by simp, fun b _ hg => ⟨setRow_other w b0 b arr (fun e => by subst e; rw [hb] at hg; cases hg), hg⟩⟩

def valsOf : List AV → Option (List Value)
  | [] => some []
  | x :: l => match x, valsOf l with
    | .v y, some m => some (y :: m)
    | _, _ => none

theorem valsOf_ok : ∀ {l : List AV} {vs cs : List Value}, valsOf l = some vs → Rel1s ρ l cs → cs = vs
  | [], vs, cs, h, hr => by simp [valsOf] at h; subst h; exact List.eq_nil_of_length_eq_zero hr.1
  | x :: l, vs, cs, h, hr => by
    unfold valsOf at h
    cases x
    case v y =>
     cases hv : valsOf l with
     | none => rw [hv] at h; cases h
     | some m =>
      rw [hv] at h
      simp at h
      subst h
      match cs, hr with
      | [], hr => exact absurd hr.1 (by simp)
      | c :: cs, hr =>
        have h0 := hr.2 0 _ c rfl rfl
        have ht : Rel1s ρ l cs := ⟨by have := hr.1; simpa using this, fun j x u hx hu => hr.2 (j + 1) x u (by simpa using hx) (by simpa using hu)⟩
        rw [valsOf_ok hv ht, h0.1]
    all_goals (simp at h)

/-- A new variable that holds a value. -/
def boxE (H : List AObj) (x : AV) : Option (List AObj × AV) := (asCells x).map fun l => (H ++ [.box l], .pp H.length 0)

theorem boxE_run (hH : HeapOk γ ρ H w) {T : TypeId} {x y : AV} {H' : List AObj} {u : Value} (h : boxE H x = some (H', y)) (hu : rel ρ x u) :
    ∃ v w' γ' p, (Instr.box T u).run P w = .ok v w' ∧ HeapOk γ' (ρ ++ [p]) H' w' ∧ rel (ρ ++ [p]) y v ∧ Fr γ w γ' w' := by
  unfold boxE at h
  cases hl : asCells x with
  | none => rw [hl] at h; cases h
  | some l =>
    rw [hl] at h
    simp at h
    obtain ⟨rfl, rfl⟩ := h
    obtain ⟨cs, h1, h2⟩ := asCells_ok hl hu
    refine ⟨.pointer (some ⟨w.heap.size, 0, none⟩), w.alloc (.cells cs.toArray T), _, _, ?_, hH.box cs l T h2, ?_, Fr.alloc _ _ _ _⟩
    · simp [Instr.box, newVar, newRow, h1]
    · exact ⟨w.heap.size, by rw [← hH.len]; simp, rfl⟩

/-- A store through a pointer. -/
def storeE (P : Program) (H : List AObj) (T : TypeId) (p x : AV) : Option (Prop × List AObj) :=
  match asCells x, tsz P T with
  | some l, some n => if l.length = n then
      match p with
      | .pp o off => match H[o]? with
        | some (.box cells) => if off + n ≤ cells.length then some (True, (H.map (AObj.unview o)).set o (.box (cells.take off ++ l ++ cells.drop (off + n)))) else none
        | _ => none
      | .ep o i esz f => match H[o]? with
        | some (.row true c) => if c.esz = esz then (match valsOf l with
            | some vs => (c.sets i f vs).map fun c' => (i < c.len, (H.map (AObj.unview o)).set o (.row true c'))
            | none => none) else none
        | _ => none
      | _ => none
    else none
  | _, _ => none

theorem storeE_run (hH : HeapOk γ ρ H w) {T : TypeId} {p x : AV} {q : Prop} {H' : List AObj} {up u : Value} (h : storeE P H T p x = some (q, H')) (hq : q) (hp : rel ρ p up) (hu : rel ρ x u) :
    ∃ w', (Instr.storeAt T up u).run P w = .ok () w' ∧ HeapOk γ ρ H' w' ∧ Fr γ w γ w' := by
  unfold storeE at h
  split at h
  · rename_i l n hl hn
    split at h
    · rename_i hln
      obtain ⟨cs, hc1, hc2⟩ := asCells_ok hl hu
      have hcl : cs.length = n := by rw [hc2.1, hln]
      have hone : ∀ v ∈ cs, v.oneCell' = true := by
        intro v hv
        obtain ⟨j, hj, rfl⟩ := List.getElem_of_mem hv
        have hj' : j < l.length := by rw [← hc2.1]; exact hj
        exact (hc2.2 j l[j] cs[j] (List.getElem?_eq_getElem hj') (List.getElem?_eq_getElem hj)).one
      split at h
      · rename_i o off
        split at h
        · rename_i cells hbox
          split at h
          · rename_i hfit
            simp only [Option.some.injEq, Prod.mk.injEq] at h
            obtain ⟨_, rfl⟩ := h
            obtain ⟨b, h1, rfl⟩ := rel_pp hp
            obtain ⟨b', arr, e, h2, h3, h4, h5⟩ := hH.obj _ _ hbox
            rw [h1] at h2
            simp at h2
            subst h2
            have hsz : off + 0 + cs.length ≤ arr.size := by have := h5.1; simp at this; omega
            have hst := run_storeCells_at P b off e cs 0 arr w h4 hsz hone
            have ho : o < H.length := (List.getElem?_eq_some_iff.1 hbox).1
            refine ⟨w.setRow b (arr.toList.take (off + 0) ++ cs ++ arr.toList.drop (off + 0 + cs.length)).toArray, ?_, hH.upd0 o ho _ (fun b0 hb0 hg => ?_) (by simp) ⟨b, _, e, h1, h3, setRow_heap w b arr _ e _ h4, ?_, ?_⟩, Fr.own h3⟩
            · simp [Instr.storeAt, Instr.sureAddr, storeVar, hc1, run_tsz hn, hcl]
              simpa [hcl] using hst
            · exact setRow_other w b b0 _ (fun e => by subst e; exact hg h3)
            · have := h5.1; simp at this ⊢; omega
            · intro j y v hy hv
              have hfit2 : off + cs.length ≤ arr.toList.length := by simp; omega
              have hv' : (arr.toList.take off ++ cs ++ arr.toList.drop (off + cs.length))[j]? = some v := by simpa using hv
              rw [get_seg hfit2] at hv'
              have hy' : (cells.take off ++ l ++ cells.drop (off + n))[j]? = some y := hy
              have hcase : (cells.take off ++ l ++ cells.drop (off + n))[j]? = if off ≤ j ∧ j < off + n then l[j - off]? else cells[j]? := by
                have h1 : (cells.take off).length = off := by simp; omega
                by_cases h : j < off
                · rw [List.append_assoc, List.getElem?_append_left (by omega), List.getElem?_take_of_lt h, if_neg (by omega)]
                · by_cases h2 : j < off + n
                  · rw [if_pos ⟨by omega, h2⟩, List.append_assoc, List.getElem?_append_right (by omega), h1, List.getElem?_append_left (by omega)]
                  · rw [if_neg (by omega), List.getElem?_append_right (by simp; omega), List.getElem?_drop]
                    congr 1
                    simp
                    omega
              rw [hcase] at hy'
              rw [hcl] at hv'
              by_cases hj : off ≤ j ∧ j < off + n
              · rw [if_pos hj] at hv' hy'
                exact hc2.2 _ _ _ hy' hv'
              · rw [if_neg hj] at hv' hy'
                exact h5.2 _ _ _ hy' hv'
          · cases h
        · cases h
      · rename_i o i esz f
        split at h
        · rename_i c hrow
          split at h
          · rename_i hesz
            subst hesz
            cases hvs : valsOf l with
            | none => rw [hvs] at h; cases h
            | some vs =>
              rw [hvs] at h
              simp only at h
              cases hset : c.sets i f vs with
              | none => rw [hset] at h; cases h
              | some c' =>
                rw [hset] at h
                simp only [Option.map_some, Option.some.injEq, Prod.mk.injEq] at h
                obtain ⟨rfl, rfl⟩ := h
                obtain rfl := valsOf_ok hvs hc2
                have hs := Cont.sets_ok hset hq
                obtain ⟨b0, ofs, n0, cap0, h1, rfl⟩ := rel_ep hp
                obtain ⟨u0, h2, h3⟩ := hH.obj _ _ hrow
                have hrd : rd H o = some c := by simp [rd, hrow]
                rcases flat_inv hs.flat h3 rfl with ⟨a, _, h5⟩ | ⟨b, off, cap, arr, e, rfl, hSb, hb, hcap, hmax, hsz, hv⟩
                · omega
                · rw [h1] at h2
                  simp at h2
                  obtain ⟨⟨rfl, rfl⟩, rfl, rfl⟩ := h2
                  have hfit : i * c.esz + f + cs.length ≤ cap0 * c.esz := by
                    have h6 : (i + 1) * c.esz ≤ cap0 * c.esz := Nat.mul_le_mul_right _ (by omega)
                    rw [Nat.add_mul] at h6
                    have := hs.fit
                    omega
                  have hst := run_storeCells_at P b0 (ofs + i * c.esz + f) e cs 0 arr w hb (by omega) hone
                  have ho : o < H.length := (List.getElem?_eq_some_iff.1 hrow).1
                  have hγ : γ b0 = some o := hSb
                  refine ⟨w.setRow b0 (arr.toList.take (ofs + i * c.esz + f + 0) ++ cs ++ arr.toList.drop (ofs + i * c.esz + f + 0 + cs.length)).toArray, ?_, hH.upd0 o ho _ (fun b1 hb1 hg => ?_) (by simp) ⟨_, h1, ?_⟩, Fr.own hγ⟩
                  · simp [Instr.storeAt, Instr.sureAddr, storeVar, hc1, run_tsz hn, hcl]
                    simpa [hcl] using hst
                  · exact setRow_other w b0 b1 _ (fun e => by subst e; exact hg hγ)
                  · rw [← hs.len]
                    refine flat_rep hs.flat' hSb (setRow_heap w b0 arr _ e _ hb) (by rw [hs.len]; exact hcap) hmax ?_ ?_
                    · rw [hs.esz]; simp; omega
                    · intro j g x hj hx
                      rw [hs.len] at hj
                      rw [hs.esz]
                      have hfit2 : ofs + i * c.esz + f + cs.length ≤ arr.toList.length := by simp; omega
                      have hg : g < c.esz := by
                        have := Cont.flat_row hs.flat'
                        obtain ⟨row, hr1, hr2⟩ := Cont.cell_rows hx (by rw [hs.len]; exact hj)
                        rw [← hs.esz, ← this row (List.mem_of_getElem? hr1)]
                        exact (List.getElem?_eq_some_iff.1 hr2).1
                      have key : (arr.toList.take (ofs + i * c.esz + f) ++ cs ++ arr.toList.drop (ofs + i * c.esz + f + cs.length))[ofs + j * c.esz + g]? = some x := by
                        rw [get_seg hfit2]
                        rcases hs.cell j g x hj hx with ⟨rfl, h7, h8, h9⟩ | ⟨h7, h8⟩
                        · rw [if_pos ⟨by omega, by omega⟩, ← h9]
                          congr 1
                          omega
                        · rw [if_neg ?_]
                          · have := hv j g x hj h8
                            simpa using this
                          · intro hh
                            have hfl := hs.fit
                            have hji : j = i := by
                              rcases Nat.lt_trichotomy j i with hlt | heq | hgt
                              · have : (j + 1) * c.esz ≤ i * c.esz := Nat.mul_le_mul_right _ hlt
                                rw [Nat.add_mul] at this
                                omega
                              · exact heq
                              · have : (i + 1) * c.esz ≤ j * c.esz := Nat.mul_le_mul_right _ hgt
                                rw [Nat.add_mul] at this
                                omega
                            subst hji
                            exact h7 ⟨rfl, by omega, by omega⟩
                      simpa using key
          · cases h
        · cases h
      · cases h
    · cases h
  · cases h

end Go.Av
