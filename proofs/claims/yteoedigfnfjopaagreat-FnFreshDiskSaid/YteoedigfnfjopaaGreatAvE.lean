import Derived.Test.YteoedigfnfjopaaGreatAvD
set_option linter.unusedSimpArgs false
set_option linter.unusedVariables false
namespace Go.Av
open Go
variable {P : Program} {γ : Nat → Option Nat} {ρ : List Value} {H : List AObj} {w : World}
theorem rel_pp {o off : Nat} {u : Value} (h : rel ρ (.pp o off) u) : ∃ b, ρ[o]? = some (.pointer (some ⟨b, 0, none⟩)) ∧ u = .pointer (some ⟨b, off, none⟩) := h
theorem rel_ep {o i e f : Nat} {u : Value} (h : rel ρ (.ep o i e f) u) : ∃ b ofs n cap, ρ[o]? = some (.slice (some ⟨b, ofs, none⟩) n cap) ∧ u = .pointer (some ⟨b, ofs + i * e + f, none⟩) := h
theorem rel_sl {o : Nat} {u : Value} (h : rel ρ (.sl o) u) : ρ[o]? = some u := (show rel1 ρ (.sl o) u from h).1
theorem rel_v {x u : Value} (h : rel ρ (.v x) u) : u = x := h
theorem rel_agg {l : List AV} {u : Value} (h : rel ρ (.agg l) u) : ∃ cs : List Value, u = .agg cs.toArray ∧ Rel1s ρ l cs := h
theorem rel_of1 {x : AV} {u : Value} (h : rel1 ρ x u) : rel ρ x u := by
 cases x <;> first | exact trivial | exact h.1 | exact h | exact h.elim
theorem run_partAV {T : TypeId} {cells : List AV} {off : Nat} {x : AV} {cs : List Value} (h : partAV P T cells off = some x) (hc : Rel1s ρ cells cs) :
 ∃ v, (part T cs.toArray off).run P w = .ok v w ∧ rel ρ x v := by
 unfold partAV at h
 cases hd : P.underlying T with
 | none => rw [hd] at h; cases h
 | some d =>
   rw [hd] at h
   simp only at h
   by_cases hag : isAggD d = true
   ·rw [if_pos hag] at h
    cases hn : tsz P T with
    | none => rw [hn] at h; cases h
    | some n =>
      rw [hn] at h
      simp only at h
      split at h
      ·simp at h
       subst h
       refine ⟨.agg (cs.toArray.extract off (off + n)), ?_, (cs.drop off).take n, ?_, ?_, ?_⟩
       ·simp [part, run_isAgg hd, hag, run_tsz hn]
       ·congr 1
        apply Array.ext'
        simp
       ·have := hc.1; simp; omega
       ·intro j y u hy hu
        simp [List.getElem?_take] at hy hu
        exact hc.2 (off + j) y u (by simpa using hy.2) (by simpa using hu.2)
      ·cases h
   ·rw [if_neg hag] at h
    have hlt := (List.getElem?_eq_some_iff.1 h).1
    have hlt' : off < cs.length := by rw [hc.1]; exact hlt
    refine ⟨cs[off], ?_, rel_of1 (hc.2 off x _ h (List.getElem?_eq_getElem hlt'))⟩
    simp [part, run_isAgg hd, hag, hlt']
theorem run_cells_at {b off n : Nat} {cs : List Value} (hn : cs.length = n) (h : ∀ j v, cs[j]? = some v → w.cell? ⟨b, off + j, none⟩ = some v) :
 (loadCells ⟨b, off, none⟩ n).run P w = .ok cs.toArray w := by
 subst hn
 refine run_loadCells_list w _ cs fun j v hv => ?_
 have := h j v hv
 unfold Addr.add
 split
 ·rename_i h0; subst h0; exact this
 ·exact this
theorem loadQ_run (hH : Rd γ ρ H w) {T : TypeId} {p : AV} {q : Prop} {x : AV} {u : Value} (h : loadQ P H T p = some (q, x)) (hq : q) (hu : rel ρ p u) :
 ∃ v, (Instr.loadAt T u).run P w = .ok v w ∧ rel ρ x v := by
 unfold loadQ at h
 split at h
 ·rename_i o off
  have key : ∀ cells, (∃ b arr e fz, ρ[o]? = some (.pointer (some ⟨b, 0, none⟩)) ∧ w.heap[b]? = some (.cells arr e fz) ∧ Rel1s ρ cells arr.toList) → (partAV P T cells off).map (fun x => (True, x)) = some (q, x) →
   ∃ v, (Instr.loadAt T u).run P w = .ok v w ∧ rel ρ x v := by
   intro cells hbx h
   obtain ⟨b, h1, rfl⟩ := rel_pp hu
   obtain ⟨b', arr, e, fz, h2, h4, h5⟩ := hbx
   rw [h1] at h2
   simp at h2
   subst h2
   cases hp : partAV P T cells off with
   | none => rw [hp] at h; cases h
   | some y =>
     rw [hp] at h
     simp only [Option.map_some, Option.some.injEq, Prod.mk.injEq] at h
     obtain ⟨rfl, rfl⟩ := h
     have hcell : ∀ j v, arr.toList[j]? = some v → w.cell? ⟨b, j, none⟩ = some v := fun j v hv => by simp [World.cell?, h4]; simpa using hv
     unfold partAV at hp
     cases hd : P.underlying T with
     | none => rw [hd] at hp; cases hp
     | some d =>
       rw [hd] at hp
       simp only at hp
       by_cases hag : isAggD d = true
       ·rw [if_pos hag] at hp
        cases hn : tsz P T with
        | none => rw [hn] at hp; cases hp
        | some n =>
          rw [hn] at hp
          simp only at hp
          split at hp
          ·simp at hp
           subst hp
           have hl : ((arr.toList.drop off).take n).length = n := by have := h5.1; simp at this ⊢; omega
           refine ⟨.agg ((arr.toList.drop off).take n).toArray, ?_, (arr.toList.drop off).take n, rfl, ?_, ?_⟩
           ·simp [Instr.loadAt, Instr.sureAddr, loadVar, run_isAgg hd, hag, run_tsz hn]
            rw [run_cells_at hl (fun j v hv => ?_)]
            ·simp
            ·refine hcell (off + j) v ?_
             simp [List.getElem?_take] at hv
             simpa using hv.2
           ·have := h5.1; simp at this ⊢; omega
           ·intro j y u hy hu
            simp [List.getElem?_take] at hy hu
            exact h5.2 (off + j) y u (by simpa using hy.2) (by simpa using hu.2)
          ·cases hp
       ·rw [if_neg hag] at hp
        have hlt := (List.getElem?_eq_some_iff.1 hp).1
        have hlt' : off < arr.toList.length := by rw [h5.1]; exact hlt
        have hv := List.getElem?_eq_getElem hlt'
        refine ⟨arr.toList[off], ?_, rel_of1 (h5.2 off _ _ hp hv)⟩
        have := hcell off _ hv
        simp only [Array.getElem_toList] at this
        simp [Instr.loadAt, Instr.sureAddr, loadVar, run_isAgg hd, hag, this]
  split at h
  ·rename_i cells hbox
   obtain ⟨b, arr, e, h1, h2, h3, h4⟩ := hH _ _ hbox
   exact key cells ⟨b, arr, e, _, h1, h3, h4⟩ h
  ·rename_i cells hbox
   obtain ⟨b, arr, e, fz, h1, h2, h3, h4⟩ := hH _ _ hbox
   exact key cells ⟨b, arr, e, fz, h1, h3, h4⟩ h
  ·cases h
 ·rename_i o i esz f
  split at h
  ·rename_i c hc
   split at h
   ·rename_i hesz
    subst hesz
    obtain ⟨b0, ofs, n0, cap0, h1, rfl⟩ := rel_ep hu
    cases hd : P.underlying T with
    | none => rw [hd] at h; cases h
    | some d =>
      rw [hd] at h
      simp only at h
      by_cases hag : isAggD d = true
      ·rw [if_pos hag] at h
       cases hn : tsz P T with
       | none => rw [hn] at h; cases h
       | some n =>
         rw [hn] at h
         simp only at h
         cases hl : c.cells i f n with
         | none =>
           unfold aggQ at h
           rw [hl] at h
           simp only at h
           split at h
           ·rename_i xs
            split at h
            case isFalse => cases h
            rename_i hpos
            simp only [Option.some.injEq, Prod.mk.injEq] at h
            obtain ⟨rfl, rfl⟩ := h
            have hxn := hq
            have hcl : ∀ j, j < xs.length → w.cell? ⟨b0, ofs + j, none⟩ = some (.int .i64 (xs.getD j 0)) := fun j hj => by
             obtain ⟨b, off, cap, h2, h3⟩ := rd_cell hH hc (i := j) hj
             rw [h1] at h2
             simp at h2
             obtain ⟨⟨rfl, rfl⟩, _⟩ := h2
             have := (h3 0 (.int .i64 (xs.getD j 0)) (by simp [Cont.cell])).1
             simpa [Cont.esz] using this
            refine ⟨arrV xs, ?_, rfl⟩
            simp [Instr.loadAt, Instr.sureAddr, loadVar, run_isAgg hd, hag, run_tsz hn]
            rw [run_cells_at (cs := xs.map (Value.int .i64)) (by simpa using hxn) (fun j v hv => ?_)]
            ·simp [arrV]
            ·have hj : j < xs.length := by simpa using (List.getElem?_eq_some_iff.1 hv).1
             rw [hcl j hj]
             simp [hj] at hv
             subst hv
             simp [List.getElem?_eq_getElem hj]
           ·cases h
         | some l =>
           unfold aggQ at h
           rw [hl] at h
           simp only [Option.some.injEq, Prod.mk.injEq] at h
           obtain ⟨rfl, rfl⟩ := h
           obtain ⟨b, off, cap, h2, h3⟩ := rd_cell hH hc hq
           rw [h1] at h2
           simp at h2
           obtain ⟨⟨rfl, rfl⟩, _⟩ := h2
           obtain ⟨hlen, hcells⟩ := Cont.cells_spec hl
           let g : Nat → Value := fun j => (c.cell i (f + j)).getD undef
           have hg : ∀ j, j < n → w.cell? ⟨b0, ofs + i * c.esz + f + j, none⟩ = some (g j) ∧ (g j).oneCell' = true ∧ l[j]? = some (.v (g j)) := fun j hj => by
            obtain ⟨x, hx1, hx2⟩ := hcells j hj
            obtain ⟨h4, h5⟩ := h3 (f + j) x hx2
            have : g j = x := by simp [g, hx2]
            rw [this]
            exact ⟨by rw [Nat.add_assoc]; exact h4, h5, hx1⟩
           refine ⟨.agg ((List.range n).map g).toArray, ?_, (List.range n).map g, rfl, by simp [hlen], fun j y u hy hu => ?_⟩
           ·simp [Instr.loadAt, Instr.sureAddr, loadVar, run_isAgg hd, hag, run_tsz hn]
            rw [run_cells_at (cs := (List.range n).map g) (by simp) (fun j v hv => ?_)]
            ·simp
            ·have hj : j < n := by simpa using (List.getElem?_eq_some_iff.1 hv).1
             simp [hj] at hv
             subst hv
             exact (hg j hj).1
           ·have hj : j < n := by simpa using (List.getElem?_eq_some_iff.1 hu).1
            simp [hj] at hu
            subst hu
            rw [(hg j hj).2.2] at hy
            simp at hy
            subst hy
            exact ⟨rfl, (hg j hj).2.1⟩
      ·rw [if_neg hag] at h
       cases hx : c.cell i f with
       | none => rw [hx] at h; cases h
       | some y =>
         rw [hx] at h
         simp only [Option.map_some, Option.some.injEq, Prod.mk.injEq] at h
         obtain ⟨rfl, rfl⟩ := h
         obtain ⟨b, off, cap, h2, h3⟩ := rd_cell hH hc hq
         rw [h1] at h2
         simp at h2
         obtain ⟨⟨rfl, rfl⟩, _⟩ := h2
         refine ⟨y, ?_, rfl⟩
         simp [Instr.loadAt, Instr.sureAddr, loadVar, run_isAgg hd, hag, (h3 f y hx).1]
   ·cases h
  ·split at h
   ·rename_i own c j g q' htak
    split at h
    ·rename_i hcond
     obtain ⟨rfl, rfl, rfl⟩ := hcond
     cases hd : P.underlying T with
     | none => rw [hd] at h; cases h
     | some d =>
       rw [hd] at h
       simp only at h
       split at h
       ·cases h
       ·rename_i hag
        simp only [Option.some.injEq, Prod.mk.injEq] at h
        obtain ⟨rfl, rfl⟩ := h
        obtain ⟨b, ofs, cap, h1, h2, h3, h4, h5⟩ := hH _ _ htak
        obtain ⟨v, h6, hone, h7⟩ := h5 _ rfl
        obtain ⟨b', ofs', n', cap', h8, rfl⟩ := rel_ep hu
        rw [h1] at h8
        simp at h8
        obtain ⟨⟨rfl, rfl⟩, _⟩ := h8
        refine ⟨v, ?_, h6, hone⟩
        simp [Instr.loadAt, Instr.sureAddr, loadVar, run_isAgg hd, hag, h7]
    ·split at h
     ·rename_i hcond
      obtain ⟨rfl, rfl, rfl⟩ := hcond
      cases hd : P.underlying T with
      | none => rw [hd] at h; cases h
      | some d =>
        rw [hd] at h
        simp only at h
        split at h
        ·rename_i hag
         split at h
         ·rename_i hn
          obtain ⟨rfl, hn⟩ := hn
          cases hx : c.cell j 0 with
          | none => rw [hx] at h; cases h
          | some x =>
            rw [hx] at h
            simp only [Option.map_some, Option.some.injEq, Prod.mk.injEq] at h
            obtain ⟨rfl, rfl⟩ := h
            obtain ⟨b, ofs, cap, h1, h2, h3, h4, h5⟩ := hH _ _ htak
            obtain ⟨v, h6, hone, h7⟩ := h5 _ rfl
            obtain ⟨b', ofs', n', cap', h8, rfl⟩ := rel_ep hu
            rw [h1] at h8
            simp at h8
            obtain ⟨⟨rfl, rfl⟩, _⟩ := h8
            obtain ⟨row, q1, q2⟩ := Cont.cell_rows hx h2
            have q3 : (c.holed j 1)[j]? = some (row.set 1 .hole) := by simp [Cont.holed, List.getElem?_modify, q1]
            obtain ⟨b2, off2, cap2, q4, _, _, q5⟩ := h3.cell q3
            simp at q4
            obtain ⟨⟨rfl, rfl⟩, _, rfl⟩ := q4
            obtain ⟨val, q6, q7, q8⟩ := q5 0 (.v x) (by rw [List.getElem?_set_ne (by omega)]; exact q2)
            have q9 : val = x := by cases q8; rfl
            subst q9
            refine ⟨.agg #[val, v], ?_, [val, v], rfl, rfl, fun k y u hy hu => ?_⟩
            ·simp [Instr.loadAt, Instr.sureAddr, loadVar, run_isAgg hd, hag, run_tsz hn]
             rw [run_cells_at (cs := [val, v]) (by simp) (fun k u hu => ?_)]
             ·simp
             ·match k, hu with
              | 0, hu => obtain rfl := Option.some.inj hu; exact q6
              | 1, hu => obtain rfl := Option.some.inj hu; exact h7
              | k + 2, hu => simp at hu
            ·match k, hy, hu with
             | 0, hy, hu => obtain rfl := Option.some.inj hy; obtain rfl := Option.some.inj hu; exact ⟨rfl, q7⟩
             | 1, hy, hu => obtain rfl := Option.some.inj hy; obtain rfl := Option.some.inj hu; exact ⟨h6, hone⟩
             | k + 2, hy, hu => simp at hy
         ·cases h
        ·rename_i hag
         cases hx : c.cell i 0 with
         | none => rw [hx] at h; cases h
         | some x =>
           rw [hx] at h
           simp only [Option.map_some, Option.some.injEq, Prod.mk.injEq] at h
           obtain ⟨rfl, rfl⟩ := h
           obtain ⟨b, ofs, cap, h1, h2, h3, h4, h5⟩ := hH _ _ htak
           obtain ⟨b', ofs', n', cap', h8, rfl⟩ := rel_ep hu
           rw [h1] at h8
           simp at h8
           obtain ⟨⟨rfl, rfl⟩, _⟩ := h8
           obtain ⟨row, q1, q2⟩ := Cont.cell_rows hx hq
           have q3 : ∃ row', (c.holed j 1)[i]? = some row' ∧ row'[0]? = some (.v x) := by
            by_cases hji : j = i
            ·exact ⟨row.set 1 .hole, by simp [Cont.holed, List.getElem?_modify, q1, hji], by rw [List.getElem?_set_ne (by omega)]; exact q2⟩
            ·exact ⟨row, by simp [Cont.holed, List.getElem?_modify, q1, hji], q2⟩
           obtain ⟨row', q3, q3'⟩ := q3
           obtain ⟨b2, off2, cap2, q4, _, _, q5⟩ := h3.cell q3
           simp at q4
           obtain ⟨⟨rfl, rfl⟩, _, rfl⟩ := q4
           obtain ⟨val, q6, q7, q8⟩ := q5 0 (.v x) q3'
           have q9 : val = x := by cases q8; rfl
           subst q9
           refine ⟨val, ?_, rfl⟩
           simp only [Nat.add_zero] at q6
           simp [Instr.loadAt, Instr.sureAddr, loadVar, run_isAgg hd, hag, q6]
     ·cases h
   ·cases h
 ·rename_i g k
  obtain rfl := rel_v hu
  cases hc : globC g H with
  | none => rw [hc] at h; cases h
  | some c =>
    rw [hc] at h
    simp only at h
    split at h
    ·rename_i hesz
     cases hd : P.underlying T with
     | none => rw [hd] at h; cases h
     | some d =>
       rw [hd] at h
       simp only at h
       split at h
       ·cases h
       ·rename_i hag
        cases hx : c.cell k 0 with
        | none => rw [hx] at h; cases h
        | some y =>
          rw [hx] at h
          simp only [Option.map_some, Option.some.injEq, Prod.mk.injEq] at h
          obtain ⟨rfl, rfl⟩ := h
          obtain ⟨o, ho⟩ := globC_mem hc
          obtain ⟨_, arr, e, fz, h2, h3⟩ := hH o _ ho
          obtain ⟨h4, _⟩ := h3 k 0 y hq hx
          rw [hesz, Nat.mul_one, Nat.add_zero] at h4
          have hcell : w.cell? ⟨g, k, none⟩ = some y := by simp [World.cell?, h2]; simpa using h4
          refine ⟨y, ?_, rfl⟩
          simp [Instr.loadAt, Instr.sureAddr, loadVar, run_isAgg hd, hag, hcell]
    ·cases h
 ·cases h
theorem fieldOff_run {T : TypeId} {f n : Nat} {p x : AV} {u : Value} (h : fieldOff P T f = some n) (hx : addrAdd p n = some x) (hu : rel ρ p u) :
 ∃ v, (Instr.fieldAt T u f).run P w = .ok v w ∧ rel ρ x v := by
 unfold fieldOff at h
 split at h
 ·rename_i fs hd
  cases hf : fs[f]? with
  | none => rw [hf] at h; cases h
  | some fd =>
    rw [hf] at h
    simp only at h
    cases hs : tsz P fd.type with
    | none => rw [hs] at h; cases h
    | some m =>
      rw [hs] at h
      simp only at h
      split at h
      ·simp at h
       subst h
       have hm : ¬ m = 0 := by omega
       unfold addrAdd at hx
       split at hx
       ·rename_i o off
        simp at hx
        subst hx
        obtain ⟨b, h1, rfl⟩ := rel_pp hu
        refine ⟨.pointer (some ⟨b, off + fd.offset, none⟩), ?_, b, h1, rfl⟩
        simp [Instr.fieldAt, run_under hd, hf, Instr.sureAddr, fieldPlace, run_tsz hs, hm, Addr.add]
        try (split <;> simp_all)
       ·rename_i o i e g
        simp at hx
        subst hx
        obtain ⟨b, ofs, n, cap, h1, rfl⟩ := rel_ep hu
        refine ⟨.pointer (some ⟨b, ofs + i * e + (g + fd.offset), none⟩), ?_, b, ofs, n, cap, h1, rfl⟩
        simp [Instr.fieldAt, run_under hd, hf, Instr.sureAddr, fieldPlace, run_tsz hs, hm, Addr.add]
        split <;> simp_all [Nat.add_assoc]
       ·cases hx
      ·cases h
 ·cases h
theorem indexQ_run (hH : Rd γ ρ H w) {T : TypeId} {x i : AV} {q : Prop} {y : AV} {u ui : Value} (h : indexQ P H T x i = some (q, y)) (hq : q) (hu : rel ρ x u) (hui : rel ρ i ui) :
 ∃ v, (Instr.indexAt T u ui).run P w = .ok v w ∧ rel ρ y v := by
 unfold indexQ at h
 split at h
 ·rename_i k n
  obtain rfl := rel_v hui
  split at h
  ·rename_i e hd
   split at h
   ·rename_i o
    cases hc : rdI H o with
    | none => rw [hc] at h; cases h
    | some c =>
      rw [hc] at h
      simp only at h
      split at h
      ·rename_i hs
       simp only [Option.map_some, Option.some.injEq, Prod.mk.injEq] at h
       obtain ⟨rfl, rfl⟩ := h
       have hlt : n.toNat < c.len := by omega
       obtain ⟨b, off, cap, h2⟩ := rdI_at hH hc hlt
       have := rel_sl hu
       rw [this] at h2
       simp at h2
       subst h2
       refine ⟨.pointer (some ⟨b, off + n.toNat * c.esz, none⟩), ?_, b, off, c.len, cap, this, rfl⟩
       simp [Instr.indexAt, asIntOf, run_under hd, hq.1, hq.2, run_tsz hs, Addr.add]
       try (split <;> simp_all)
      ·cases h
   ·cases h
  ·rename_i len e hd
   split at h
   ·rename_i o j esz f
    split at h
    ·rename_i hs
     simp only [Option.map_some, Option.some.injEq, Prod.mk.injEq] at h
     obtain ⟨rfl, rfl⟩ := h
     obtain ⟨b, ofs, m, cap, h1, rfl⟩ := rel_ep hu
     refine ⟨.pointer (some ⟨b, ofs + (j + n.toNat) * esz + f, none⟩), ?_, b, ofs, m, cap, h1, rfl⟩
     have e1 : (j + n.toNat) * esz = j * esz + n.toNat * esz := Nat.add_mul ..
     simp [Instr.indexAt, asIntOf, run_under hd, hq.1, hq.2, run_tsz hs, Addr.add, Instr.sureAddr, e1]
     by_cases h0 : n.toNat * esz = 0
     ·simp [h0]
     ·simp [h0]; omega
    ·cases h
   ·rename_i g k
    split at h
    ·rename_i hs
     simp only [Option.map_some, Option.some.injEq, Prod.mk.injEq] at h
     obtain ⟨rfl, rfl⟩ := h
     obtain rfl := rel_v hu
     refine ⟨.pointer (some ⟨g, k + n.toNat, none⟩), ?_, rfl⟩
     simp [Instr.indexAt, asIntOf, run_under hd, hq.1, hq.2, run_tsz hs, Addr.add, Instr.sureAddr]
     try (split <;> simp_all)
    ·cases h
   ·cases h
  ·cases h
 ·cases h
theorem asCells_ok {x : AV} {l : List AV} {u : Value} (h : asCells x = some l) (hu : rel ρ x u) : ∃ cs : List Value, u.cells = cs.toArray ∧ Rel1s ρ l cs := by
 have single : ∀ (y : AV), rel1 ρ y u → Rel1s ρ [y] [u] ∧ u.cells = #[u] := by
  intro y hy
  refine ⟨⟨rfl, fun j z v hz hv => ?_⟩, ?_⟩
  ·cases j with
   | zero => simp at hz hv; subst hz hv; exact hy
   | succ j => simp at hz
  ·have := hy.one
   cases u <;> first | rfl | (simp [Value.oneCell'] at this)
 cases x <;> simp only [asCells] at h
 ·cases h
 ·split at h
  ·rename_i hone
   simp at h
   subst h
   obtain rfl := rel_v hu
   exact ⟨[u], (single (.v u) ⟨rfl, hone⟩).2, (single (.v u) ⟨rfl, hone⟩).1⟩
  ·cases h
 ·simp at h; subst h
  exact ⟨[u], (single (.sl _) hu).2, (single (.sl _) hu).1⟩
 ·simp at h; subst h
  exact ⟨[u], (single (.pp _ _) hu).2, (single (.pp _ _) hu).1⟩
 ·simp at h; subst h
  exact ⟨[u], (single (.ep _ _ _ _) hu).2, (single (.ep _ _ _ _) hu).1⟩
 ·simp at h; subst h
  exact ⟨[u], (single (.ip _ _) hu).2, (single (.ip _ _) hu).1⟩
 ·simp at h; subst h
  obtain ⟨cs, h1, h2⟩ := rel_agg hu
  exact ⟨cs, by rw [h1]; rfl, h2⟩
 ·cases h
theorem get_seg {l vs : List Value} {s j : Nat} (hs : s + vs.length ≤ l.length) :
 (l.take s ++ vs ++ l.drop (s + vs.length))[j]? = if s ≤ j ∧ j < s + vs.length then vs[j - s]? else l[j]? := by
 have h1 : (l.take s).length = s := by simp; omega
 by_cases h : j < s
 ·rw [List.append_assoc, List.getElem?_append_left (by omega), List.getElem?_take_of_lt h, if_neg (by omega)]
 ·by_cases h2 : j < s + vs.length
  ·rw [if_pos ⟨by omega, h2⟩, List.append_assoc, List.getElem?_append_right (by omega), h1, List.getElem?_append_left (by omega)]
  ·rw [if_neg (by omega), List.getElem?_append_right (by simp; omega), List.getElem?_drop]
   congr 1
   simp
   omega
theorem foldl_sets : ∀ (vs : List Value) (k off : Nat) (arr : Array Value), off + k + vs.length ≤ arr.size →
 ((vs.zipIdx k).foldl (fun cs (c, j) => cs.setIfInBounds (off + j) c) arr).size = arr.size ∧
 ∀ j : Nat, ((vs.zipIdx k).foldl (fun cs (c, j) => cs.setIfInBounds (off + j) c) arr)[j]? = if off + k ≤ j ∧ j < off + k + vs.length then vs[j - (off + k)]? else arr[j]?
 | [], k, off, arr, h => ⟨rfl, fun j => by simp; intro h1 h2; omega⟩
 | v :: vs, k, off, arr, h => by
   have ih := foldl_sets vs (k + 1) off (arr.setIfInBounds (off + k) v) (by simp at h ⊢; omega)
   simp only [List.zipIdx_cons, List.foldl_cons]
   refine ⟨by rw [ih.1]; simp, fun j => ?_⟩
   rw [ih.2 j, Array.getElem?_setIfInBounds]
   by_cases h1 : off + k = j
   ·subst h1
    have hlt : off + k < arr.size := by simp at h; omega
    rw [if_neg (by omega), if_pos rfl, if_pos hlt, if_pos ⟨by omega, by simp⟩]
    simp
   ·by_cases h2 : off + (k + 1) ≤ j ∧ j < off + (k + 1) + vs.length
    ·rw [if_pos h2, if_pos ⟨by omega, by simp; omega⟩]
     have : j - (off + k) = (j - (off + (k + 1))) + 1 := by omega
     rw [this]; simp
    ·rw [if_neg h2, if_neg h1, if_neg (by simp; omega)]
theorem run_places : ∀ {l : List Field} {pl : List (Nat × Nat)}, placesOf P l = some pl → (l.mapM fun f => (do pure (f.offset, ← sizeOf f.type) : Sem (Nat × Nat))).run P w = .ok pl w
 | [], pl, h => by simp [placesOf] at h; subst h; rfl
 | f :: r, pl, h => by
   unfold placesOf at h
   cases h1 : tsz P f.type with
   | none => rw [h1] at h; simp at h
   | some n =>
     cases h2 : placesOf P r with
     | none => rw [h1, h2] at h; simp at h
     | some m =>
       rw [h1, h2] at h
       simp at h; subst h
       simp only [List.mapM_cons, Sem.run_bind, run_tsz h1]
       simp only [Result.andThen_ok]
       have e : ((pure (f.offset, n) : Sem (Nat × Nat)).run P w) = .ok (f.offset, n) w := rfl
       rw [e]
       simp only [Result.andThen_ok]
       rw [run_places h2]
       rfl
theorem buildCells_ok {pl : List (Nat × Nat)} : ∀ {parts : List (Nat × AV)} {us : List (Nat × Value)} {l l' : List AV} {cs : List Value}, buildCells pl l parts = some l' → Rel1s ρ l cs → us.length = parts.length →
 (∀ (j : Nat) (p : Nat × AV) (u : Nat × Value), parts[j]? = some p → us[j]? = some u → u.1 = p.1 ∧ rel ρ p.2 u.2) → ∃ cs' : List Value, Instr.fill (pl[·]?) cs.toArray us = some cs'.toArray ∧ Rel1s ρ l' cs'
 | [], us, l, l', cs, h, hr, hl, _ => by
   simp [buildCells] at h; subst h
   obtain rfl : us = [] := List.eq_nil_of_length_eq_zero hl
   exact ⟨cs, rfl, hr⟩
 | (i, x) :: r, [], l, l', cs, _, _, hl, _ => by simp at hl
 | (i, x) :: r, (j, u) :: us, l, l', cs, h, hr, hl, hu => by
   unfold buildCells at h
   obtain ⟨h1, h2⟩ := hu 0 (i, x) (j, u) rfl rfl
   simp only at h1 h2
   subst h1
   split at h
   ·rename_i off n m hp hm
    split at h
    ·rename_i hc
     obtain ⟨vs, h3, h4⟩ := asCells_ok hm h2
     have hvl : vs.length = n := by rw [h4.1, hc.1]
     have hcl : cs.length = l.length := hr.1
     obtain ⟨g1, g2⟩ := foldl_sets vs 0 off cs.toArray (by simp; omega)
     have hnew : (vs.zipIdx.foldl (fun cs (c, j) => cs.setIfInBounds (off + j) c) cs.toArray) = (cs.take off ++ vs ++ cs.drop (off + n)).toArray := by
      apply Array.ext_getElem?
      intro k
      have := g2 k
      simp only [Nat.add_zero] at this
      rw [this, List.getElem?_toArray, List.getElem?_toArray, ← hvl, get_seg (by omega)]
     have hr' : Rel1s ρ (l.take off ++ m ++ l.drop (off + n)) (cs.take off ++ vs ++ cs.drop (off + n)) := by
      refine ⟨by simp [hvl, hc.1, hcl], fun k y v hy hv => ?_⟩
      by_cases hk1 : k < off
      ·rw [List.append_assoc, List.getElem?_append_left (by simp; omega), List.getElem?_take_of_lt hk1] at hy hv
       exact hr.2 k y v hy hv
      ·by_cases hk2 : k < off + n
       ·rw [List.append_assoc, List.getElem?_append_right (by simp; omega), List.getElem?_append_left (by simp; omega)] at hy hv
        simp only [List.length_take] at hy hv
        have e1 : min off l.length = off := by omega
        have e2 : min off cs.length = off := by omega
        rw [e1] at hy; rw [e2] at hv
        exact h4.2 _ y v hy hv
       ·rw [List.getElem?_append_right (by simp; omega), List.getElem?_drop] at hy hv
        simp only [List.length_append, List.length_take, hc.1, hvl] at hy hv
        have e1 : off + n + (k - (min off l.length + n)) = k := by omega
        have e2 : off + n + (k - (min off cs.length + n)) = k := by omega
        rw [e1] at hy; rw [e2] at hv
        exact hr.2 k y v hy hv
     obtain ⟨cs', g3, g4⟩ := buildCells_ok h hr' (by simpa using hl) (fun k p v hp hv => hu (k + 1) p v (by simpa using hp) (by simpa using hv))
     refine ⟨cs', ?_, g4⟩
     unfold Instr.fill
     rw [hp]
     simp only [h3]
     rw [if_neg (by simp; omega)]
     rw [show vs.toArray.zipIdx.foldl (fun cs x => cs.setIfInBounds (off + x.2) x.1) cs.toArray = (cs.take off ++ vs ++ cs.drop (off + n)).toArray from by rw [← hnew]; simp [← Array.foldl_toList]]
     exact g3
    ·cases h
   ·cases h
theorem buildQ_run {T : TypeId} {parts : List (Nat × AV)} {us : List (Nat × Value)} {x : AV} (h : buildQ P T parts = some x) (hl : us.length = parts.length)
 (hu : ∀ (j : Nat) (p : Nat × AV) (u : Nat × Value), parts[j]? = some p → us[j]? = some u → u.1 = p.1 ∧ rel ρ p.2 u.2) : ∃ v, (Instr.build T us.toArray).run P w = .ok v w ∧ rel ρ x v := by
 unfold buildQ at h
 split at h
 ·rename_i z fs hz hd
  split at h
  ·rename_i l pl hl0 hpl
   cases hb : buildCells pl l parts with
   | none => rw [hb] at h; cases h
   | some l' =>
     rw [hb] at h
     simp at h; subst h
     obtain ⟨cs, h1, h2⟩ := asCells_ok hl0 (ofConst_rel ρ z)
     obtain ⟨cs', h3, h4⟩ := buildCells_ok hb h2 hl hu
     have hp := run_places (w := w) hpl
     have hp' : (fs.mapM fun f => (do pure (f.offset, ← sizeOf f.type) : Sem (Nat × Nat))).run P w = .ok pl.toArray w := by
      have e0 : fs = fs.toList.toArray := by simp
      rw [e0, List.mapM_toArray]
      have e : (Functor.map List.toArray (fs.toList.mapM fun f => (do pure (f.offset, ← sizeOf f.type) : Sem (Nat × Nat)))) = ((fs.toList.mapM fun f => (do pure (f.offset, ← sizeOf f.type) : Sem (Nat × Nat))) >>= fun l => pure l.toArray) := rfl
      rw [e, Sem.run_bind, hp]
      rfl
     refine ⟨.agg cs'.toArray, ?_, cs', rfl, h4⟩
     unfold Instr.build
     rw [Sem.run_bind, run_tzero hz]
     simp only [Result.andThen_ok]
     rw [Sem.run_bind, run_under hd]
     simp only [Result.andThen_ok]
     rw [Sem.run_bind, hp']
     simp only [Result.andThen_ok, List.getElem?_toArray, h1]
     rw [h3]
     rfl
  ·cases h
 ·cases h
end Go.Av
