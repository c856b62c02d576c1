import Derived.Test.YteoedigfnfjopaaGreatAvJ
set_option linter.unusedSimpArgs false
set_option linter.unusedVariables false
namespace Go.Av
open Go
variable {P : Program} {N : Nat} {pin : List Nat} {γ γ' : Nat → Option Nat} {ρ : List Value} {H : List AObj} {w w' : World}
def Cont.flatCells (c : Cont) : List Value := (List.range (c.len * c.esz)).map fun j => (c.cell (j / c.esz) (j % c.esz)).getD undef
theorem flatCells_len (c : Cont) : c.flatCells.length = c.len * c.esz := by simp [Cont.flatCells]
theorem flatCells_at {c : Cont} (hfl : c.flat = true) {i f : Nat} {x : Value} (hi : i < c.len) (hx : c.cell i f = some x) : f < c.esz ∧ c.flatCells[i * c.esz + f]? = some x := by
 have hf : f < c.esz := by
  obtain ⟨row, hr1, hr2⟩ := Cont.cell_rows hx hi
  rw [← Cont.flat_row hfl row (List.mem_of_getElem? hr1)]
  exact (List.getElem?_eq_some_iff.1 hr2).1
 refine ⟨hf, ?_⟩
 have h1 : (i + 1) * c.esz ≤ c.len * c.esz := Nat.mul_le_mul_right _ hi
 rw [Nat.add_mul] at h1
 have hlt : i * c.esz + f < c.len * c.esz := by omega
 have hmod : (i * c.esz + f) % c.esz = f := by rw [Nat.add_comm, Nat.add_mul_mod_self_right, Nat.mod_eq_of_lt hf]
 have hdiv : (i * c.esz + f) / c.esz = i := by rw [Nat.add_comm, Nat.add_mul_div_right _ _ (esz_pos hfl), Nat.div_eq_of_lt hf]; omega
 simp [Cont.flatCells, List.getElem?_range, hlt, hmod, hdiv, hx]
theorem flatCells_of {c : Cont} (hfl : c.flat = true) {j : Nat} {x : Value} (h : c.flatCells[j]? = some x) : j / c.esz < c.len ∧ c.cell (j / c.esz) (j % c.esz) = some x ∧ x.oneCell' = true := by
 have hlt : j < c.len * c.esz := by rw [← flatCells_len]; exact (List.getElem?_eq_some_iff.1 h).1
 have hp := esz_pos hfl
 have h1 : j / c.esz < c.len := (Nat.div_lt_iff_lt_mul hp).2 hlt
 obtain ⟨y, hy, hone⟩ := Cont.flat_cell hfl h1 (Nat.mod_lt j hp)
 simp [Cont.flatCells, List.getElem?_range, hlt, hy] at h
 subst h
 exact ⟨h1, hy, hone⟩
theorem flatCells_one {c : Cont} (hfl : c.flat = true) : ∀ v ∈ c.flatCells, v.oneCell' = true := by
 intro v hv
 obtain ⟨j, hj, rfl⟩ := List.getElem_of_mem hv
 exact (flatCells_of hfl (List.getElem?_eq_getElem hj)).2.2
theorem rd_flat (h : Rd γ ρ H w) {o : Nat} {c : Cont} (hr : rd H o = some c) (hfl : c.flat = true) :
 ∃ a cap, ρ[o]? = some (.slice a c.len cap) ∧ c.len ≤ maxLen ∧ (c.len = 0 ∨ ∃ ad, a = some ad ∧ ∀ j v, c.flatCells[j]? = some v → w.cell? (ad.add j) = some v) := by
 obtain ⟨a, cap, h1, h2⟩ := rd_slice h hr
 refine ⟨a, cap, h1, h2, ?_⟩
 by_cases h0 : c.len = 0
 ·exact .inl h0
 ·right
  obtain ⟨b, off, cap', h3, _⟩ := rd_cell h hr (i := 0) (by omega)
  rw [h1] at h3
  simp at h3
  obtain ⟨rfl, rfl⟩ := h3
  refine ⟨_, rfl, fun j v hv => ?_⟩
  obtain ⟨h4, h5, h6⟩ := flatCells_of hfl hv
  obtain ⟨b', off', cap', h7, h8⟩ := rd_cell h hr h4
  rw [h1] at h7
  simp at h7
  obtain ⟨⟨rfl, rfl⟩, _⟩ := h7
  have h9 := (h8 _ _ h5).1
  have e : off + j / c.esz * c.esz + j % c.esz = off + j := by rw [Nat.add_assoc]; congr 1; exact Nat.div_add_mod' j c.esz
  rw [e] at h9
  unfold Addr.add
  split
  ·rename_i h0; subst h0; exact h9
  ·exact h9
theorem run_append_room' (t ty e e' : TypeId) (i : TypeInfo) (ht : P.underlying t = some (.slice e)) (hi : P.info? e = some i)
 (g off sLen sCap : Nat) (cur : Array Value) (hg : w.heap[g]? = some (.cells cur e' (0, 0)))
 (a : Option Addr) (m c : Nat) (news : List Value) (hl : news.length = m * i.size) (hnews : m = 0 ∨ ∃ ad, a = some ad ∧ ∀ j u, news[j]? = some u → w.cell? (ad.add j) = some u) (h1 : ∀ u ∈ news, u.oneCell' = true)
 (hroom : sLen + m ≤ sCap) (hfit : off + sLen * i.size + news.length ≤ cur.size) :
 (Builtin.append_ #[t, t] ty #[.slice (some ⟨g, off, none⟩) sLen sCap, .slice a m c]).run P w =
  .ok (.slice (some ⟨g, off, none⟩) (sLen + m) sCap) (w.setRow g (cur.toList.take (off + sLen * i.size) ++ news ++ cur.toList.drop (off + sLen * i.size + news.length)).toArray) := by
 have hf : (Builtin.firstCells i.size m (.slice a m c)).run P w = .ok news.toArray w := by
  rcases hnews with h0 | ⟨ad, rfl, h⟩
  ·subst h0
   have : news = [] := List.eq_nil_of_length_eq_zero (by simpa using hl)
   subst this
   cases a <;> simp [Builtin.firstCells, loadCells, loadCellsFrom]
  ·exact run_firstCells_some w i.size m ad m c news hl h
 have hst := run_storeCells_at P g (off + sLen * i.size) e' news 0 cur w hg (by simpa using hfit) h1
 simp only [Nat.add_zero] at hst
 have hadd : (⟨g, off, none⟩ : Addr).add (sLen * i.size) = ⟨g, off + sLen * i.size, none⟩ := by
  unfold Addr.add; split
  ·rename_i h0; rw [h0]; rfl
  ·rfl
 simp [Builtin.append_, run_underlying ht, sizeOf, typeInfo, hi, Builtin.lenOf, hroom, hf, hadd, hst]
def appendE (P : Program) (pin : List Nat) (E : Env) (H : List AObj) (T : TypeId) (x y : AV) : Option (Prop × Env × List AObj × AV) :=
 match P.underlying T with
 | some (.slice e) => match y with
   | .sl p => match rd H p, tby P e, tsz P e, tzero P e with
     | some d, some by_, some n, some z => if n = d.esz ∧ z.cells.size = d.esz ∧ d.flat = true then
      match x with
      | .sl o => match H[o]? with
        | some (.row true c) => if pin.contains o then none else (c.app d).map fun c' =>
         ((c.len + d.len) * by_ ≤ 140737488355328 ∧ c.len + d.len ≤ 9223372036854775807, E.kill o, ((H.map (AObj.unview o)).map (AObj.kill o)).set o (.row true c'), .sl o)
        | _ => none
      | .v (.slice none 0 0) => some (d.len * by_ ≤ 140737488355328, E, H ++ [.row true d], .sl H.length)
      | _ => none
      else none
     | _, _, _, _ => none
   | _ => none
 | _ => none
theorem zeroCells_size (z : Array Value) (n : Nat) : (Builtin.zeroCells z n).size = n * z.size := by simp [Builtin.zeroCells]
theorem appendE_run {πv : Pv} {E E' : Env} {a : Act} (hst : St N pin πv γ ρ E H a w) {T ty : TypeId} {x y v : AV} {q : Prop} {H' : List AObj} {ux uy : Value}
 (h : appendE P pin E H T x y = some (q, E', H', v)) (hq : q) (hx : rel ρ x ux) (hy : rel ρ y uy) :
 ∃ u w' γ' ρ', (Builtin.append_ #[T, T] ty #[ux, uy]).run P w = .ok u w' ∧ EnvOk ρ' E' a.tmps ∧ HeapOk γ' ρ' H' w' ∧ rel ρ' v u ∧ Fr γ w γ' w' ∧ ∀ o ∈ pin, ρ'[o]? = ρ[o]? := by
 have hH := hst.heap
 unfold appendE at h
 split at h
 ·rename_i e hd
  split at h
  ·rename_i p
   split at h
   ·rename_i d by_ n z hrd hby hn hz
    split at h
    ·rename_i hcond
     obtain ⟨rfl, hzs, hfl⟩ := hcond
     obtain ⟨i, hi, hib⟩ := run_tby hby
     have hin : i.size = d.esz := by simpa [tsz, hi] using hn
     have hiz : i.zero = some z := by simpa [tzero, hi] using hz
     obtain ⟨ay, cy, hy1, hy2, hy3⟩ := rd_flat hH.obj hrd hfl
     have hyv := rel_sl hy
     rw [hy1] at hyv
     simp at hyv
     subst hyv
     have hp := esz_pos hfl
     split at h
     ·rename_i o
      split at h
      ·rename_i c hrow
       split at h
       ·cases h
       ·rename_i hpin
        cases hap : c.app d with
        | none => rw [hap] at h; cases h
        | some c' =>
          rw [hap] at h
          simp only [Option.map_some, Option.some.injEq, Prod.mk.injEq] at h
          obtain ⟨rfl, rfl, rfl, rfl⟩ := h
          have ao := Cont.app_ok hap
          obtain ⟨hfit, h63⟩ := hq
          have ho : o < H.length := (List.getElem?_eq_some_iff.1 hrow).1
          obtain ⟨u0, hu1, hu2⟩ := hH.obj _ _ hrow
          have hux := rel_sl hx
          rw [hu1] at hux
          simp at hux
          subst hux
          have hpins : ∀ (v' : Value), ∀ o' ∈ pin, (ρ.set o v')[o']? = ρ[o']? := by
           intro v' o' ho'
           rw [List.getElem?_set_ne]
           intro e; subst e; exact hpin (by simpa using ho')
          have hlenρ : o < ρ.length := by rw [hH.len]; exact ho
          have hgrow : ∀ (cap : Nat) (base : Option Addr) (olds : List Value), olds.length = c.len * d.esz → (∀ i f x, i < c.len → c.cell i f = some x → olds[i * d.esz + f]? = some x) →
           (∃ capn, c.len + d.len ≤ capn ∧ capn ≤ maxLen ∧ (Builtin.append_ #[T, T] ty #[.slice base c.len cap, .slice ay d.len cy]).run P w =
            .ok (.slice (some ⟨w.heap.size, 0, none⟩) (c.len + d.len) capn) (w.drew.alloc (.cells (olds.toArray ++ d.flatCells.toArray ++ Builtin.zeroCells z.cells (capn - (c.len + d.len))) e))) →
           ∃ u w' γ' ρ', (Builtin.append_ #[T, T] ty #[.slice base c.len cap, .slice ay d.len cy]).run P w = .ok u w' ∧ EnvOk ρ' (E.kill o) a.tmps ∧
            HeapOk γ' ρ' (((H.map (AObj.unview o)).map (AObj.kill o)).set o (.row true c')) w' ∧ rel ρ' (.sl o) u ∧ Fr γ w γ' w' ∧ ∀ o' ∈ pin, ρ'[o']? = ρ[o']? := by
           intro cap base olds hol hov ⟨capn, hc1, hc2, hrun⟩
           let arr := olds.toArray ++ d.flatCells.toArray ++ Builtin.zeroCells z.cells (capn - (c.len + d.len))
           have hasz : arr.size = capn * d.esz := by
            have e1 : arr.size = c.len * d.esz + d.len * d.esz + (capn - (c.len + d.len)) * d.esz := by
             simp [arr, hol, flatCells_len, zeroCells_size, hzs]; omega
            rw [e1, ← Nat.add_mul, ← Nat.add_mul]; congr 1; omega
           have hav : ∀ i f x, i < c'.len → c'.cell i f = some x → arr[i * d.esz + f]? = some x := by
            intro i f x hi hx
            rcases ao.cell i f x hx with ⟨h1, h2⟩ | ⟨h1, h2⟩
            ·have h3 := hov i f x h1 h2
             have h4 : i * d.esz + f < olds.length := (List.getElem?_eq_some_iff.1 h3).1
             simp only [arr, Array.append_assoc]
             rw [Array.getElem?_append_left (by simpa using h4)]
             simpa using h3
            ·rw [ao.len] at hi
             obtain ⟨h3, h4⟩ := flatCells_at hfl (i := i - c.len) (by omega) h2
             have e1 : i * d.esz + f = olds.length + ((i - c.len) * d.esz + f) := by
              rw [hol, ← Nat.add_assoc, ← Nat.add_mul]; congr 2; omega
             have h5 : (i - c.len) * d.esz + f < d.flatCells.length := (List.getElem?_eq_some_iff.1 h4).1
             simp only [arr, Array.append_assoc]
             rw [e1, Array.getElem?_append_right (by simp)]
             rw [Array.getElem?_append_left (by simp; omega)]
             simpa using h4
           have hes : c'.esz = d.esz := by rw [ao.esz', ao.eszd]
           refine ⟨_, w.drew.alloc (.cells arr e), own1 γ w.heap.size o, ρ.set o (.slice (some ⟨w.heap.size, 0, none⟩) (c.len + d.len) capn), hrun, hst.env.kill o _,
            hH.upd o ho _ _ (fun b hb hg => ⟨heap_alloc_old w.drew _ hb, by simp [own1]; omega⟩) (by simp) (fun b p hb => ?_) ⟨_, List.getElem?_set_self hlenρ, ?_⟩, ⟨List.getElem?_set_self hlenρ, rfl⟩,
            ⟨rfl, rfl, rfl, by simp, fun b hb hg => ⟨heap_alloc_old w.drew _ hb, by simp [own1]; rw [if_neg (by omega)]; exact hg⟩, Nat.le_succ _⟩, hpins _⟩
           ·simp only [own1] at hb
            split at hb
            ·simp at hb; subst hb; right; exact ⟨rfl, by simp; omega⟩
            ·left; exact ⟨(hH.lab b p hb).2, hb⟩
           ·rw [← ao.len]
            refine flat_rep ao.flat' (by simp [own1]) (heap_alloc_new w.drew _) (by rw [ao.len]; exact hc1) hc2 (by rw [hes]; simp only [Nat.zero_add]; omega) (fun i f x hi hx => ?_)
            rw [hes]; simpa using hav i f x hi hx
          have hgrowcap : ∀ cap, c.len + d.len ≤ grownCap w (c.len + d.len) cap e ∧ grownCap w (c.len + d.len) cap e ≤ maxLen := fun cap =>
           ⟨grownCap_ge w _ _ _, grownCap_le_maxLen w _ _ _ (by unfold maxLen; omega)⟩
          have hnewcells : ∀ ad, ay = some ad → (∀ j v, d.flatCells[j]? = some v → w.cell? (ad.add j) = some v) → True := fun _ _ _ => trivial
          rcases flat_inv ao.flat hu2 rfl with ⟨base, rfl, hc0⟩ | ⟨b, off, cap, arr, e', rfl, hSb, hb, hcap, hmax, hsz, hv⟩
          ·
           rcases hy3 with h0 | ⟨ad, rfl, hcells⟩
           ·
            refine ⟨.slice base 0 0, w, γ, ρ.set o (.slice base 0 0), ?_, hst.env.kill o _, hH.upd o ho _ _ (fun b hb hg => ⟨rfl, rfl⟩) (Nat.le_refl _) (fun b p hb => .inl ⟨(hH.lab b p hb).2, hb⟩) ⟨_, List.getElem?_set_self hlenρ, ?_⟩,
             ⟨List.getElem?_set_self hlenρ, rfl⟩, Fr.refl _ _, hpins _⟩
            ·rw [h0]
             cases base <;> cases ay <;> simp [Builtin.append_, run_underlying hd, sizeOf, typeInfo, hi, Builtin.lenOf, Builtin.firstCells, loadCells, loadCellsFrom, storeCells]
            ·have : c'.rows = [] := List.eq_nil_of_length_eq_zero (by rw [Cont.len_rows, ao.len]; omega)
             rw [this]; exact .nil _ _ _
           ·by_cases h0 : d.len = 0
            ·refine ⟨.slice base 0 0, w, γ, ρ.set o (.slice base 0 0), ?_, hst.env.kill o _, hH.upd o ho _ _ (fun b hb hg => ⟨rfl, rfl⟩) (Nat.le_refl _) (fun b p hb => .inl ⟨(hH.lab b p hb).2, hb⟩) ⟨_, List.getElem?_set_self hlenρ, ?_⟩,
              ⟨List.getElem?_set_self hlenρ, rfl⟩, Fr.refl _ _, hpins _⟩
             ·rw [h0]
              cases base <;> simp [Builtin.append_, run_underlying hd, sizeOf, typeInfo, hi, Builtin.lenOf, Builtin.firstCells, loadCells, loadCellsFrom, storeCells]
             ·have : c'.rows = [] := List.eq_nil_of_length_eq_zero (by rw [Cont.len_rows, ao.len]; omega)
              rw [this]; exact .nil _ _ _
            ·have key := hgrow 0 base [] (by simp [hc0]) (fun i f x hi => by omega)
             rw [hc0] at key hfit h63 hgrowcap
             simp only [Nat.zero_add] at key hfit h63 hgrowcap
             apply key
             refine ⟨_, (hgrowcap 0).1, (hgrowcap 0).2, ?_⟩
             cases base with
             | none =>
               have := run_append_nil (P := P) w T ty e i z hd hi hiz ad d.len cy d.flatCells (by rw [flatCells_len, hin]) hcells (by omega) (by omega) (by rw [hib]; omega)
               simpa using this
             | some base =>
               have := run_append_grow (P := P) w T ty e i z hd hi hiz base 0 0 [] (by simp) (by simp) ad d.len cy d.flatCells (by rw [flatCells_len, hin]) hcells (by omega) (by omega)
                (growslice_fits (by omega) (by rw [hib]; simpa using hfit))
               simpa using this
          ·by_cases hroom : c.len + d.len ≤ cap
           ·
            have hγ : γ b = some o := hSb
            have hes : c'.esz = d.esz := by rw [ao.esz', ao.eszd]
            have hce : c.esz = d.esz := ao.eszd.symm
            have hfitsz : off + c.len * d.esz + d.flatCells.length ≤ arr.size := by
             rw [flatCells_len, Nat.add_assoc, ← Nat.add_mul]
             have : (c.len + d.len) * d.esz ≤ cap * d.esz := Nat.mul_le_mul_right _ hroom
             rw [hce] at hsz; omega
            have hrun := run_append_room' (P := P) T ty e e' i hd hi b off c.len cap arr hb ay d.len cy d.flatCells (by rw [flatCells_len, hin]) hy3 (flatCells_one hfl) hroom (by rw [hin]; exact hfitsz)
            rw [hin] at hrun
            refine ⟨_, _, γ, ρ.set o (.slice (some ⟨b, off, none⟩) (c.len + d.len) cap), hrun, hst.env.kill o _, hH.upd o ho _ _ (fun b1 hb1 hg => ⟨setRow_other w b b1 _ (fun e => by subst e; exact hg hγ), rfl⟩) (by simp)
             (fun b1 p hb1 => .inl ⟨(hH.lab b1 p hb1).2, hb1⟩) ⟨_, List.getElem?_set_self hlenρ, ?_⟩, ⟨List.getElem?_set_self hlenρ, rfl⟩, Fr.own hγ, hpins _⟩
            rw [← ao.len]
            refine flat_rep ao.flat' hγ (setRow_heap w b arr _ e' _ hb) (by rw [ao.len]; exact hroom) hmax ?_ (fun j g x hj hx => ?_)
            ·rw [hes]; rw [hce] at hsz; simp; omega
            ·rw [ao.len] at hj
             rw [hes]
             have hfit2 : off + c.len * d.esz + d.flatCells.length ≤ arr.toList.length := by simpa using hfitsz
             have key : (arr.toList.take (off + c.len * d.esz) ++ d.flatCells ++ arr.toList.drop (off + c.len * d.esz + d.flatCells.length))[off + j * d.esz + g]? = some x := by
              rw [get_seg hfit2]
              rcases ao.cell j g x hx with ⟨h1, h2⟩ | ⟨h1, h2⟩
              ·have h3 := hv j g x h1 h2
               have hg : g < d.esz := by
                obtain ⟨row, hr1, hr2⟩ := Cont.cell_rows h2 h1
                rw [← hce, ← Cont.flat_row ao.flat row (List.mem_of_getElem? hr1)]
                exact (List.getElem?_eq_some_iff.1 hr2).1
               have h4 : (j + 1) * d.esz ≤ c.len * d.esz := Nat.mul_le_mul_right _ h1
               rw [Nat.add_mul] at h4
               rw [if_neg (by omega)]
               rw [hce] at h3
               simpa using h3
              ·obtain ⟨h3, h4⟩ := flatCells_at hfl (i := j - c.len) (by omega) h2
               have h5 : (j - c.len) * d.esz + g < d.flatCells.length := (List.getElem?_eq_some_iff.1 h4).1
               have e1 : j * d.esz = c.len * d.esz + (j - c.len) * d.esz := by rw [← Nat.add_mul]; congr 1; omega
               rw [if_pos ⟨by omega, by omega⟩, ← h4]
               congr 1
               omega
             simpa using key
           ·
            have hd0 : ¬ d.len = 0 := by omega
            rcases hy3 with h0 | ⟨ad, rfl, hcells⟩
            ·exact absurd h0 hd0
            ·have hce : c.esz = d.esz := ao.eszd.symm
             apply hgrow cap (some ⟨b, off, none⟩) c.flatCells (by rw [flatCells_len, hce]) (fun i f x hi hx => by rw [← hce]; exact (flatCells_at ao.flat hi hx).2)
             refine ⟨_, (hgrowcap cap).1, (hgrowcap cap).2, ?_⟩
             have hrd' : rd H o = some c := by simp [rd, hrow]
             obtain ⟨a2, cap2, hz1, hz2, hz3⟩ := rd_flat hH.obj hrd' ao.flat
             rw [hu1] at hz1
             simp at hz1
             obtain ⟨rfl, rfl⟩ := hz1
             have holds : ∀ j v, c.flatCells[j]? = some v → w.cell? ((⟨b, off, none⟩ : Addr).add j) = some v := by
              rcases hz3 with h0 | ⟨ad', h1, h2⟩
              ·intro j v hv
               have := (List.getElem?_eq_some_iff.1 hv).1
               rw [flatCells_len, h0] at this
               omega
              ·simp at h1; subst h1; exact h2
             exact run_append_grow (P := P) w T ty e i z hd hi hiz ⟨b, off, none⟩ c.len cap c.flatCells (by rw [flatCells_len, hin, hce]) holds ad d.len cy d.flatCells (by rw [flatCells_len, hin]) hcells (by omega)
              (by omega) (growslice_fits (by omega) (by rw [hib]; exact hfit))
      ·cases h
     ·
      simp only [Option.some.injEq, Prod.mk.injEq] at h
      obtain ⟨rfl, rfl, rfl, rfl⟩ := h
      obtain rfl := rel_v hx
      by_cases h0 : d.len = 0
      ·refine ⟨.slice none 0 0, w, γ, ρ ++ [.slice none 0 0], ?_, hst.env.ext _, hH.nilrow d (List.eq_nil_of_length_eq_zero (by rw [Cont.len_rows]; exact h0)) none, ⟨by rw [← hH.len]; simp, rfl⟩, Fr.refl _ _,
        fun o ho => List.getElem?_append_left (by have := hst.pins o ho; exact (List.getElem?_eq_some_iff.1 this).1)⟩
       rw [h0]
       cases ay <;> simp [Builtin.append_, run_underlying hd, sizeOf, typeInfo, hi, Builtin.lenOf, Builtin.firstCells, loadCells, loadCellsFrom]
      ·rcases hy3 with h1 | ⟨ad, rfl, hcells⟩
       ·exact absurd h1 h0
       ·have h63 : d.len ≤ 9223372036854775807 := by unfold maxLen at hy2; omega
        have hrun := run_append_nil (P := P) w T ty e i z hd hi hiz ad d.len cy d.flatCells (by rw [flatCells_len, hin]) hcells (by omega) (by omega) (by rw [hib]; omega)
        have hc1 := grownCap_ge w d.len 0 e
        have hc2 := grownCap_le_maxLen w d.len 0 e hy2
        let capn := grownCap w d.len 0 e
        have hasz : (d.flatCells.toArray ++ Builtin.zeroCells z.cells (capn - d.len)).size = capn * d.esz := by
         simp [flatCells_len, zeroCells_size, hzs, ← Nat.add_mul]; congr 1; show d.len + (grownCap w d.len 0 e - d.len) = grownCap w d.len 0 e; omega
        have hdr : HeapOk γ ρ H w.drew := hH.grow (fun _ _ => rfl) (Nat.le_refl _)
        have hrow := hdr.row d (d.flatCells.toArray ++ Builtin.zeroCells z.cells (capn - d.len)) e capn hfl hc1 hc2 (by rw [hasz]; exact Nat.le_refl _) (fun i f x hi hx => by
         obtain ⟨h3, h4⟩ := flatCells_at hfl hi hx
         rw [Array.getElem?_append_left (by simp; exact (List.getElem?_eq_some_iff.1 h4).1)]
         simpa using h4)
        refine ⟨_, _, _, _, hrun, hst.env.ext _, hrow, ⟨by rw [← hH.len]; simp; rfl, rfl⟩, ⟨rfl, rfl, rfl, by simp, fun b hb hg => ⟨heap_alloc_old w.drew _ hb, by
         have hne : b ≠ w.heap.size := by omega
         simp [own1, hne, hg]⟩, Nat.le_succ _⟩,
         fun o ho => List.getElem?_append_left (by have := hst.pins o ho; exact (List.getElem?_eq_some_iff.1 this).1)⟩
     ·cases h
    ·cases h
   ·cases h
  ·cases h
 ·cases h
def nestApp (c d : Cont) : Option Cont :=
 match c, d with
 | .intss k xs, .intss k' ys => if k = k' ∧ ys.length = 1 then some (.intss k (xs ++ [[]])) else none
 | .tripss xs, .tripss ys => if ys.length = 1 then some (.tripss (xs ++ [[]])) else none
 | _, _ => none
theorem nestApp_ok {c d c' : Cont} (h : nestApp c d = some c') : c.esz = 1 ∧ c'.esz = 1 ∧ d.len = 1 ∧ c'.len = c.len + 1 ∧ c'.holed c.len 0 = c.rows ++ [[.hole]] := by
 have key : ∀ (r : List (List CV)) (x : CV) (n : Nat), r.length = n → (r ++ [[x]]).modify n (fun r => r.set 0 CV.hole) = r ++ [[.hole]] := by
  intro r x
  induction r with
  | nil => intro n hn; subst hn; rfl
  | cons a r ih => intro n hn; subst hn; simp only [List.cons_append, List.length_cons, List.modify_succ_cons, ih r.length rfl]
 unfold nestApp at h
 split at h
 ·split at h
  ·rename_i hc
   cases h
   refine ⟨rfl, rfl, by simpa [Cont.len] using hc.2, by simp [Cont.len], ?_⟩
   simp only [Cont.holed, Cont.rows, Cont.len, List.map_append, List.map_cons, List.map_nil]
   exact key _ _ _ (by simp)
  ·cases h
 ·split at h
  ·rename_i hc
   cases h
   refine ⟨rfl, rfl, by simpa [Cont.len] using hc, by simp [Cont.len], ?_⟩
   simp only [Cont.holed, Cont.rows, Cont.len, List.map_append, List.map_cons, List.map_nil]
   exact key _ _ _ (by simp)
  ·cases h
 ·cases h
def appendNE (P : Program) (pin : List Nat) (E : Env) (H : List AObj) (T : TypeId) (x y : AV) : Option (Prop × Env × List AObj × AV) :=
 match P.underlying T, x, y with
 | some (.slice e), .sl o, .sl p => match H[o]?, H[p]?, tby P e, tsz P e, tzero P e with
   | some (.row true c), some (.tak true d 0 0 (some q)), some by_, some 1, some (.slice none 0 0) =>
     if pin.contains o = false ∧ o ≠ p ∧ o ≠ q then (nestApp c d).map fun c' => ((c.len + 1) * by_ ≤ 140737488355328 ∧ c.len + 1 ≤ 9223372036854775807, E.kill o, ((H.map (AObj.unview o)).map (AObj.kill o)).set o (.tak true c' c.len 0 (some q)), .sl o) else none
   | _, _, _, _, _ => none
 | _, _, _ => none
theorem CRep.appHole {S S' : Nat → Prop} {rows : List (List CV)} {b1 b2 off cap n : Nat} {arr : Array Value} {e : TypeId} {vals : Nat → Nat → Value} {lab : Nat → Nat × Nat} {v : Value}
 (hrow : ∀ r ∈ rows, r.length = 1) (hrep : ∀ i f row c, rows[i]? = some row → row[f]? = some c → CRep true w (fun b' => S b' ∧ (true = true → b' ≠ b1 ∧ lab b' = (i, f))) c (vals i f))
 (hst : ∀ b', S b' → b' ≠ b1 → b' < w.heap.size → w'.heap[b']? = w.heap[b']? ∧ S' b' ∧ b' ≠ b2)
 (hS : S' b2) (hb : w'.heap[b2]? = some (.cells arr e (0, 0))) (hn : n = rows.length) (hcap : n + 1 ≤ cap) (hmax : cap ≤ maxLen) (hsz : off + cap ≤ arr.size)
 (hv : ∀ i, i < n → arr[off + i]? = some (vals i 0)) (hl : arr[off + n]? = some v) (hone : v.oneCell' = true) :
 CRep true w' S' (.sl 1 (rows ++ [[.hole]])) (.slice (some ⟨b2, off, none⟩) (n + 1) cap) := by
 refine .row _ 1 _ b2 off cap arr e (0, 0) (n + 1) (fun i f => if i < n then vals i f else v) lab hS hb (fun _ => rfl) (by simp [hn]) hcap hmax (by omega) (fun r hr => ?_) (fun i f hi hf => ?_) (fun i f row c h1 h2 => ?_)
 ·rcases List.mem_append.1 hr with h | h
  ·exact hrow r h
  ·rw [List.mem_singleton.1 h]; rfl
 ·simp only [List.length_append, List.length_cons, List.length_nil] at hi
  have : f = 0 := by omega
  subst this
  rw [show off + i * 1 + 0 = off + i from by omega]
  split
  ·rename_i h; exact hv i h
  ·rename_i h; rw [show i = n from by omega]; exact hl
 ·by_cases hi : i < n
  ·rw [if_pos hi]
   rw [List.getElem?_append_left (by omega)] at h1
   refine (hrep i f row c h1 h2).stay fun b' hb' hlt => ?_
   obtain ⟨h3, h4, h5⟩ := hst b' hb'.1 (hb'.2 rfl).1 hlt
   exact ⟨h3, h4, fun _ => ⟨h5, (hb'.2 rfl).2⟩⟩
  ·rw [if_neg hi]
   rw [List.getElem?_append_right (by omega)] at h1
   have : row = [CV.hole] := by
    have := List.mem_of_getElem? h1
    simpa using this
   subst this
   match f, h2 with
   | 0, h2 => simp at h2; subst h2; exact .hole _ _ hone
   | f + 1, h2 => simp at h2
theorem appendNE_run {πv : Pv} {E E' : Env} {a : Act} (hst : St N pin πv γ ρ E H a w) {T ty : TypeId} {x y v : AV} {q : Prop} {H' : List AObj} {ux uy : Value}
 (h : appendNE P pin E H T x y = some (q, E', H', v)) (hq : q) (hx : rel ρ x ux) (hy : rel ρ y uy) :
 ∃ u w' γ' ρ', (Builtin.append_ #[T, T] ty #[ux, uy]).run P w = .ok u w' ∧ EnvOk ρ' E' a.tmps ∧ HeapOk γ' ρ' H' w' ∧ rel ρ' v u ∧ Fr γ w γ' w' ∧ ∀ o ∈ pin, ρ'[o]? = ρ[o]? := by
 have hH := hst.heap
 unfold appendNE at h
 split at h
 ·rename_i e o p hd
  split at h
  ·rename_i c d q1 by_ hrow htak hby hn hz
   split at h
   ·rename_i hcond
    obtain ⟨hpin, hop, hoq⟩ := hcond
    cases hap : nestApp c d with
    | none => rw [hap] at h; cases h
    | some c' =>
      rw [hap] at h
      simp only [Option.map_some, Option.some.injEq, Prod.mk.injEq] at h
      obtain ⟨rfl, rfl, rfl, rfl⟩ := h
      obtain ⟨hc1, hc2, hd1, hcl, hhol⟩ := nestApp_ok hap
      obtain ⟨hfit, h63⟩ := hq
      obtain ⟨i, hi, hib⟩ := run_tby hby
      have hin : i.size = 1 := by simpa [tsz, hi] using hn
      have hiz : i.zero = some (.slice none 0 0) := by simpa [tzero, hi] using hz
      have ho : o < H.length := (List.getElem?_eq_some_iff.1 hrow).1
      have hlenρ : o < ρ.length := by rw [hH.len]; exact ho
      obtain ⟨u0, hu1, hu2⟩ := hH.obj _ _ hrow
      have hux := rel_sl hx
      rw [hu1] at hux
      simp at hux
      subst hux
      obtain ⟨bt, oft, capt, ht1, ht2, ht3, ht4, ht5⟩ := hH.obj _ _ htak
      obtain ⟨vc, hv1, hv2, hv3⟩ := ht5 q1 rfl
      have huy := rel_sl hy
      rw [ht1] at huy
      simp at huy
      subst huy
      rw [hd1]
      have hnews : ∀ (j : Nat) (u : Value), [vc][j]? = some u → w.cell? ((⟨bt, oft, none⟩ : Addr).add j) = some u := by
       intro j u hj
       match j, hj with
       | 0, hj => simp at hj; subst hj; simpa [Addr.add] using hv3
       | j + 1, hj => simp at hj
      have hpins : ∀ (v' : Value), ∀ o' ∈ pin, (ρ.set o v')[o']? = ρ[o']? := by
       intro v' o' ho'
       rw [List.getElem?_set_ne]
       intro e; subst e; simp at hpin; exact hpin ho'
      have hgrow : ∀ (uo : Value) (olds : List Value) (vals : Nat → Nat → Value) (lab : Nat → Nat × Nat) (b1 : Nat), olds.length = c.len → (∀ i, i < c.len → olds[i]? = some (vals i 0)) → (∀ r ∈ c.rows, r.length = 1) →
       (∀ i f row cv, c.rows[i]? = some row → row[f]? = some cv → CRep true w (fun b' => γ b' = some o ∧ (true = true → b' ≠ b1 ∧ lab b' = (i, f))) cv (vals i f)) →
       (∃ capn, c.len + 1 ≤ capn ∧ capn ≤ maxLen ∧ (Builtin.append_ #[T, T] ty #[uo, .slice (some ⟨bt, oft, none⟩) 1 capt]).run P w =
        .ok (.slice (some ⟨w.heap.size, 0, none⟩) (c.len + 1) capn) (w.drew.alloc (.cells (olds.toArray ++ [vc].toArray ++ Builtin.zeroCells (Value.slice none 0 0).cells (capn - (c.len + 1))) e))) →
       ∃ u w' γ' ρ', (Builtin.append_ #[T, T] ty #[uo, .slice (some ⟨bt, oft, none⟩) 1 capt]).run P w = .ok u w' ∧ EnvOk ρ' (E.kill o) a.tmps ∧
        HeapOk γ' ρ' (((H.map (AObj.unview o)).map (AObj.kill o)).set o (.tak true c' c.len 0 (some q1))) w' ∧ rel ρ' (.sl o) u ∧ Fr γ w γ' w' ∧ ∀ o' ∈ pin, ρ'[o']? = ρ[o']? := by
       intro uo olds vals lab b1 hol hov hrow1 hrep ⟨capn, hcn1, hcn2, hrun⟩
       let arr := olds.toArray ++ [vc].toArray ++ Builtin.zeroCells (Value.slice none 0 0).cells (capn - (c.len + 1))
       have hasz : arr.size = capn := by simp [arr, hol, zeroCells_size, Value.cells]; omega
       have hrowslen : c.rows.length = c.len := Cont.len_rows c
       have hb2 : (w.drew.alloc (.cells arr e)).heap[w.heap.size]? = some (.cells arr e (0, 0)) := heap_alloc_new w.drew _
       have hlast : arr[c.len]? = some vc := by
        simp only [arr, Array.append_assoc]
        rw [Array.getElem?_append_right (by simp [hol]), Array.getElem?_append_left (by simp [hol])]
        simp [hol]
       refine ⟨_, w.drew.alloc (.cells arr e), own1 γ w.heap.size o, ρ.set o (.slice (some ⟨w.heap.size, 0, none⟩) (c.len + 1) capn), hrun, hst.env.kill o _,
        hH.upd o ho _ _ (fun b hb hg => ⟨heap_alloc_old w.drew _ hb, by simp [own1]; omega⟩) (by simp) (fun b p hb => ?_) ⟨w.heap.size, 0, capn, by rw [hcl]; exact List.getElem?_set_self hlenρ, by omega, ?_, by simp [own1], fun q hq => ?_⟩,
        ⟨List.getElem?_set_self hlenρ, rfl⟩, ⟨rfl, rfl, rfl, by simp, fun b hb hg => ⟨heap_alloc_old w.drew _ hb, by simp [own1]; rw [if_neg (by omega)]; exact hg⟩, Nat.le_succ _⟩, hpins _⟩
       ·simp only [own1] at hb
        split at hb
        ·simp at hb; subst hb; right; exact ⟨rfl, by simp; omega⟩
        ·left; exact ⟨(hH.lab b p hb).2, hb⟩
       ·rw [hc2, hhol, hcl]
        refine CRep.appHole (w := w) (S := fun b => γ b = some o) (b1 := b1) (vals := vals) (lab := lab) (v := vc) hrow1 hrep (fun b' hb' _ hlt => ⟨heap_alloc_old w.drew _ hlt, by simp only [↓reduceIte, own1]; rw [if_neg (by omega)]; exact hb', by omega⟩) (by simp [own1]) hb2 (by omega) (by omega) hcn2 (by omega) (fun i hi => ?_) (by rw [Nat.zero_add]; exact hlast) hv2
        rw [Nat.zero_add]
        simp only [arr, Array.append_assoc]
        rw [Array.getElem?_append_left (by simp [hol]; exact hi)]
        simpa using hov i hi
       ·cases hq
        refine ⟨vc, by rw [List.getElem?_set_ne hoq]; exact hv1, hv2, ?_⟩
        simp only [World.cell?]
        rw [hb2]
        simpa [hc2] using hlast
      have hgc : ∀ cap, c.len + 1 ≤ grownCap w (c.len + 1) cap e ∧ grownCap w (c.len + 1) cap e ≤ maxLen := fun cap => ⟨grownCap_ge w _ _ _, grownCap_le_maxLen w _ _ _ (by unfold maxLen; omega)⟩
      have hrl : c.rows.length = c.len := Cont.len_rows c
      simp only [↓reduceIte] at hu2
      generalize hR : c.rows = R at hu2 hgrow hrl
      rw [hc1] at hu2
      cases hu2 with
      | nil _ _ base =>
        have h0 : c.len = 0 := by simpa using hrl.symm
        refine hgrow _ [] (fun _ _ => undef) (fun _ => (0, 0)) 0 (by simp [h0]) (fun i hi => by omega) (fun r hr => by cases hr) (fun i f row cv h1 => by simp at h1) ⟨grownCap w (c.len + 1) 0 e, (hgc 0).1, (hgc 0).2, ?_⟩
        cases base with
        | none =>
          have := run_append_nil (P := P) w T ty e i _ hd hi hiz ⟨bt, oft, none⟩ 1 capt [vc] (by simp [hin]) hnews (by omega) (by omega) (by rw [hib]; rw [h0] at hfit; omega)
          rw [h0]; simpa using this
        | some base =>
          have := run_append_grow (P := P) w T ty e i _ hd hi hiz base 0 0 [] (by simp) (by simp) ⟨bt, oft, none⟩ 1 capt [vc] (by simp [hin]) hnews (by omega) (by omega) (growslice_fits (by omega) (by rw [hib]; rw [h0] at hfit; simpa using hfit))
          rw [h0]; simpa using this
      | ronil _ _ _ _ hf => cases hf
      | row _ _ _ b off cap arr0 e0 fz n vals lab hS hb hfz hn' hcap hmax hsz hrow1 hval hrep =>
        have hfz0 := hfz rfl
        subst hfz0
        have hn : n = c.len := hn'.trans hrl
        subst hn
        have hval0 : ∀ j, j < c.len → arr0[off + j]? = some (vals j 0) := fun j hj => by simpa using hval j 0 (by omega) (by omega)
        by_cases hroom : c.len + 1 ≤ cap
        ·have hrun := run_append_room' (P := P) (w := w) T ty e e0 i hd hi b off c.len cap arr0 hb (some ⟨bt, oft, none⟩) 1 capt [vc] (by simp [hin]) (.inr ⟨_, rfl, hnews⟩) (by intro u hu; rw [List.mem_singleton.1 hu]; exact hv2) hroom (by simp [hin]; omega)
         simp only [hin, Nat.mul_one, List.length_cons, List.length_nil, Nat.zero_add] at hrun
         have hget : ∀ j, ((arr0.toList.take (off + c.len) ++ [vc] ++ arr0.toList.drop (off + c.len + 1)).toArray)[j]? = if j = off + c.len then some vc else arr0[j]? := by
          intro j
          have := get_seg (l := arr0.toList) (vs := [vc]) (s := off + c.len) (j := j) (by simp; omega)
          simp only [List.length_cons, List.length_nil, Nat.zero_add] at this
          rw [List.getElem?_toArray, this]
          by_cases hj : j = off + c.len
          ·subst hj; simp
          ·rw [if_neg (by omega), if_neg hj]; simp
         have hb2 := setRow_heap w b arr0 (arr0.toList.take (off + c.len) ++ [vc] ++ arr0.toList.drop (off + c.len + 1)).toArray e0 (0, 0) hb
         refine ⟨_, _, γ, ρ.set o (.slice (some ⟨b, off, none⟩) (c.len + 1) cap), hrun, hst.env.kill o _, hH.upd o ho _ _ (fun b1 hb1 hg => ⟨setRow_other w b b1 _ (fun e => by subst e; exact hg hS), rfl⟩) (by simp)
          (fun b1 p hb1 => .inl ⟨(hH.lab b1 p hb1).2, hb1⟩) ⟨b, off, cap, by rw [hcl]; exact List.getElem?_set_self hlenρ, by omega, ?_, by simpa using hS, fun q hq => ?_⟩, ⟨List.getElem?_set_self hlenρ, rfl⟩, Fr.own hS, hpins _⟩
         ·rw [hc2, hhol, hcl, hR]
          refine CRep.appHole (w := w) (S := fun b => γ b = some o) (b1 := b) (vals := vals) (lab := lab) (v := vc) hrow1 hrep (fun b' hb' hne hlt => ⟨setRow_other w b b' _ (by first | exact hne | exact fun e => hne e.symm), by simpa using hb', hne⟩) (by simpa using hS) hb2 (by omega) hroom hmax ?_ (fun j hj => ?_) ?_ hv2
          ·simp; omega
          ·rw [hget, if_neg (by omega)]; exact hval0 j hj
          ·rw [hget, if_pos rfl]
         ·cases hq
          refine ⟨vc, by rw [List.getElem?_set_ne hoq]; exact hv1, hv2, ?_⟩
          simp only [World.cell?]
          rw [hb2]
          simp only [hc2, Nat.mul_one, Nat.add_zero]
          rw [hget, if_pos rfl]; rfl
        ·let olds := (List.range c.len).map fun j => vals j 0
         have holds : ∀ j v, olds[j]? = some v → w.cell? ((⟨b, off, none⟩ : Addr).add j) = some v := by
          intro j v hj
          have hjl : j < c.len := by have := (List.getElem?_eq_some_iff.1 hj).1; simpa [olds] using this
          have hjv : vals j 0 = v := by simpa [olds, hjl] using hj
          have hh : (⟨b, off, none⟩ : Addr).add j = ⟨b, off + j, none⟩ := by
           unfold Addr.add; split
           ·rename_i h0; rw [h0]; rfl
           ·rfl
          rw [hh]; simp only [World.cell?]; rw [hb]; simp only; rw [hval0 j hjl, hjv]; rfl
         refine hgrow _ olds vals lab b (by simp [olds]) (fun j hj => by simp [olds, hj]) hrow1 hrep ⟨grownCap w (c.len + 1) cap e, (hgc cap).1, (hgc cap).2, ?_⟩
         exact run_append_grow (P := P) w T ty e i _ hd hi hiz ⟨b, off, none⟩ c.len cap olds (by simp [olds, hin]) holds ⟨bt, oft, none⟩ 1 capt [vc] (by simp [hin]) hnews (by omega) (by omega) (growslice_fits (by omega) (by rw [hib]; exact hfit))
   ·cases h
  ·cases h
 ·cases h
def appendGE (P : Program) (pin : List Nat) (E : Env) (H : List AObj) (T : TypeId) (x y : AV) : Option (Prop × Env × List AObj × AV) :=
 match P.underlying T, x, y with
 | some (.slice e), .sl o, .sl p => match H[o]?, H[p]?, tby P e, tsz P e, tzero P e with
   | some (.row true (.graphs gs)), some (.tak true (.graphs [(n, [])]) 0 1 (some q)), some by_, some 2, some (.agg zs) => match zs.toList with
     | [.int .i64 0, .slice none 0 0] =>
       if pin.contains o = false ∧ o ≠ p ∧ o ≠ q then some ((gs.length + 1) * by_ ≤ 140737488355328 ∧ gs.length + 1 ≤ 9223372036854775807, E.kill o, ((H.map (AObj.unview o)).map (AObj.kill o)).set o (.tak true (.graphs (gs ++ [(n, [])])) gs.length 1 (some q)), .sl o) else none
     | _ => none
   | _, _, _, _, _ => none
 | _, _, _ => none
theorem CRep.appHoleG {S S' : Nat → Prop} {rows : List (List CV)} {b1 b2 off cap n : Nat} {arr : Array Value} {e : TypeId} {vals : Nat → Nat → Value} {lab : Nat → Nat × Nat} {m : Int} {v : Value}
 (hrow : ∀ r ∈ rows, r.length = 2) (hrep : ∀ i f row c, rows[i]? = some row → row[f]? = some c → CRep true w (fun b' => S b' ∧ (true = true → b' ≠ b1 ∧ lab b' = (i, f))) c (vals i f))
 (hst : ∀ b', S b' → b' ≠ b1 → b' < w.heap.size → w'.heap[b']? = w.heap[b']? ∧ S' b' ∧ b' ≠ b2)
 (hS : S' b2) (hb : w'.heap[b2]? = some (.cells arr e (0, 0))) (hn : n = rows.length) (hcap : n + 1 ≤ cap) (hmax : cap ≤ maxLen) (hsz : off + cap * 2 ≤ arr.size)
 (hv : ∀ i f, i < n → f < 2 → arr[off + i * 2 + f]? = some (vals i f)) (hl0 : arr[off + n * 2]? = some (.int .i64 m)) (hl1 : arr[off + n * 2 + 1]? = some v) (hone : v.oneCell' = true) :
 CRep true w' S' (.sl 2 (rows ++ [[cI .i64 m, .hole]])) (.slice (some ⟨b2, off, none⟩) (n + 1) cap) := by
 refine .row _ 2 _ b2 off cap arr e (0, 0) (n + 1) (fun i f => if i < n then vals i f else if f = 0 then .int .i64 m else v) lab hS hb (fun _ => rfl) (by simp [hn]) hcap hmax hsz (fun r hr => ?_) (fun i f hi hf => ?_) (fun i f row c h1 h2 => ?_)
 ·rcases List.mem_append.1 hr with h | h
  ·exact hrow r h
  ·rw [List.mem_singleton.1 h]; rfl
 ·simp only [List.length_append, List.length_cons, List.length_nil] at hi
  split
  ·rename_i h; exact hv i f h hf
  ·rename_i h
   have : i = n := by omega
   subst this
   have hf2 : f = 0 ∨ f = 1 := by omega
   rcases hf2 with rfl | rfl
   ·exact hl0
   ·exact hl1
 ·by_cases hi : i < n
  ·rw [if_pos hi]
   rw [List.getElem?_append_left (by omega)] at h1
   refine (hrep i f row c h1 h2).stay fun b' hb' hlt => ?_
   obtain ⟨h3, h4, h5⟩ := hst b' hb'.1 (hb'.2 rfl).1 hlt
   exact ⟨h3, h4, fun _ => ⟨h5, (hb'.2 rfl).2⟩⟩
  ·rw [if_neg hi]
   rw [List.getElem?_append_right (by omega)] at h1
   have : row = [cI .i64 m, CV.hole] := by
    have := List.mem_of_getElem? h1
    simpa using this
   subst this
   match f, h2 with
   | 0, h2 => obtain rfl := Option.some.inj h2; exact .v _ _ rfl
   | 1, h2 => obtain rfl := Option.some.inj h2; exact .hole _ _ hone
   | f + 2, h2 => simp at h2
theorem appendGE_run {πv : Pv} {E E' : Env} {a : Act} (hst : St N pin πv γ ρ E H a w) {T ty : TypeId} {x y v : AV} {q : Prop} {H' : List AObj} {ux uy : Value}
 (h : appendGE P pin E H T x y = some (q, E', H', v)) (hq : q) (hx : rel ρ x ux) (hy : rel ρ y uy) :
 ∃ u w' γ' ρ', (Builtin.append_ #[T, T] ty #[ux, uy]).run P w = .ok u w' ∧ EnvOk ρ' E' a.tmps ∧ HeapOk γ' ρ' H' w' ∧ rel ρ' v u ∧ Fr γ w γ' w' ∧ ∀ o ∈ pin, ρ'[o]? = ρ[o]? := by
 have hH := hst.heap
 unfold appendGE at h
 split at h
 ·rename_i e o p hd
  split at h
  ·rename_i gs nn q1 by_ zs hrow htak hby hn hz
   split at h
   rotate_left
   ·cases h
   rename_i hzs
   have hzs' : zs = #[.int .i64 0, .slice none 0 0] := by rw [← hzs]
   subst hzs'
   clear hzs
   split at h
   ·rename_i hcond
    obtain ⟨hpin, hop, hoq⟩ := hcond
    simp only [Option.some.injEq, Prod.mk.injEq] at h
    obtain ⟨rfl, rfl, rfl, rfl⟩ := h
    obtain ⟨hfit, h63⟩ := hq
    obtain ⟨i, hi, hib⟩ := run_tby hby
    have hin : i.size = 2 := by simpa [tsz, hi] using hn
    have hiz : i.zero = some (.agg #[.int .i64 0, .slice none 0 0]) := by simpa [tzero, hi] using hz
    have ho : o < H.length := (List.getElem?_eq_some_iff.1 hrow).1
    have hlenρ : o < ρ.length := by rw [hH.len]; exact ho
    obtain ⟨u0, hu1, hu2⟩ := hH.obj _ _ hrow
    have hux := rel_sl hx
    rw [hu1] at hux
    simp at hux
    subst hux
    obtain ⟨bt, oft, capt, ht1, ht2, ht3, ht4, ht5⟩ := hH.obj _ _ htak
    obtain ⟨vc, hv1, hv2, hv3⟩ := ht5 q1 rfl
    have huy := rel_sl hy
    rw [ht1] at huy
    simp at huy
    subst huy
    have hd1 : (Cont.graphs [(nn, ([] : List (Int × Int × Int)))]).len = 1 := rfl
    rw [hd1]
    have hc0 : w.cell? ⟨bt, oft, none⟩ = some (.int .i64 nn) := by
     have hh : (Cont.graphs [(nn, [])]).holed 0 1 = [[cI .i64 nn, .hole]] := by simp [Cont.holed, Cont.rows]
     rw [hh] at ht3
     obtain ⟨b2, off2, cap2, q4, _, _, q5⟩ := ht3.cell (i := 0) (row := [cI .i64 nn, .hole]) rfl
     simp at q4
     obtain ⟨⟨rfl, rfl⟩, _⟩ := q4
     obtain ⟨val, q6, q7, q8⟩ := q5 0 (cI .i64 nn) rfl
     have q9 : val = .int .i64 nn := by unfold cI at q8; cases q8; rfl
     subst q9
     simpa using q6
    have hnews : ∀ (j : Nat) (u : Value), [Value.int .i64 nn, vc][j]? = some u → w.cell? ((⟨bt, oft, none⟩ : Addr).add j) = some u := by
     intro j u hj
     match j, hj with
     | 0, hj => simp at hj; subst hj; simpa [Addr.add] using hc0
     | 1, hj => simp at hj; subst hj; simpa [Addr.add, Cont.esz] using hv3
     | j + 2, hj => simp at hj
    have hpins : ∀ (v' : Value), ∀ o' ∈ pin, (ρ.set o v')[o']? = ρ[o']? := by
     intro v' o' ho'
     rw [List.getElem?_set_ne]
     intro e; subst e; simp at hpin; exact hpin ho'
    obtain ⟨len, hlen⟩ : ∃ len, len = gs.length := ⟨_, rfl⟩
    have hrl : (Cont.graphs gs).rows.length = len := by rw [Cont.len_rows, hlen]; rfl
    have hhol : (Cont.graphs (gs ++ [(nn, [])])).holed len 1 = (Cont.graphs gs).rows ++ [[cI .i64 nn, .hole]] := by
     subst hlen
     simp only [Cont.holed, Cont.rows, List.map_append, List.map_cons, List.map_nil]
     apply List.ext_getElem?
     intro k
     rw [List.getElem?_modify]
     by_cases hk : k < gs.length
     ·have hne : ¬ gs.length = k := by omega
      rw [List.getElem?_append_left (by simpa using hk), List.getElem?_append_left (by simpa using hk)]; simp [hne]
     ·rw [List.getElem?_append_right (by simp; omega), List.getElem?_append_right (by simp; omega)]
      by_cases hk2 : k = gs.length
      ·subst hk2; simp
      ·rw [List.getElem?_eq_none (by simp; omega), List.getElem?_eq_none (by simp; omega)]; rfl
    have hcl : (Cont.graphs (gs ++ [(nn, ([] : List (Int × Int × Int)))])).len = len + 1 := by simp [Cont.len, hlen]
    rw [← hlen] at hfit h63 ⊢
    have hgrow : ∀ (uo : Value) (olds : List Value) (vals : Nat → Nat → Value) (lab : Nat → Nat × Nat) (b1 : Nat), olds.length = len * 2 → (∀ i f, i < len → f < 2 → olds[i * 2 + f]? = some (vals i f)) → (∀ r ∈ (Cont.graphs gs).rows, r.length = 2) →
     (∀ i f row cv, (Cont.graphs gs).rows[i]? = some row → row[f]? = some cv → CRep true w (fun b' => γ b' = some o ∧ (true = true → b' ≠ b1 ∧ lab b' = (i, f))) cv (vals i f)) →
     (∃ capn, len + 1 ≤ capn ∧ capn ≤ maxLen ∧ (Builtin.append_ #[T, T] ty #[uo, .slice (some ⟨bt, oft, none⟩) 1 capt]).run P w =
      .ok (.slice (some ⟨w.heap.size, 0, none⟩) (len + 1) capn) (w.drew.alloc (.cells (olds.toArray ++ [Value.int .i64 nn, vc].toArray ++ Builtin.zeroCells (Value.agg #[.int .i64 0, .slice none 0 0]).cells (capn - (len + 1))) e))) →
     ∃ u w' γ' ρ', (Builtin.append_ #[T, T] ty #[uo, .slice (some ⟨bt, oft, none⟩) 1 capt]).run P w = .ok u w' ∧ EnvOk ρ' (E.kill o) a.tmps ∧
      HeapOk γ' ρ' (((H.map (AObj.unview o)).map (AObj.kill o)).set o (.tak true (.graphs (gs ++ [(nn, [])])) len 1 (some q1))) w' ∧ rel ρ' (.sl o) u ∧ Fr γ w γ' w' ∧ ∀ o' ∈ pin, ρ'[o']? = ρ[o']? := by
     intro uo olds vals lab b1 hol hov hrow1 hrep ⟨capn, hcn1, hcn2, hrun⟩
     let arr := olds.toArray ++ [Value.int .i64 nn, vc].toArray ++ Builtin.zeroCells (Value.agg #[.int .i64 0, .slice none 0 0]).cells (capn - (len + 1))
     have hasz : arr.size = capn * 2 := by simp [arr, hol, zeroCells_size, Value.cells]; omega
     have hb2 : (w.drew.alloc (.cells arr e)).heap[w.heap.size]? = some (.cells arr e (0, 0)) := heap_alloc_new w.drew _
     have hlast : ∀ k, k < 2 → arr[len * 2 + k]? = [Value.int .i64 nn, vc][k]? := fun k hk => by
      simp only [arr, Array.append_assoc]
      rw [Array.getElem?_append_right (by simp [hol]), Array.getElem?_append_left (by simp [hol]; omega)]
      simp [hol]
     refine ⟨_, w.drew.alloc (.cells arr e), own1 γ w.heap.size o, ρ.set o (.slice (some ⟨w.heap.size, 0, none⟩) (len + 1) capn), hrun, hst.env.kill o _,
      hH.upd o ho _ _ (fun b hb hg => ⟨heap_alloc_old w.drew _ hb, by simp [own1]; omega⟩) (by simp) (fun b p hb => ?_) ⟨w.heap.size, 0, capn, by rw [hcl]; exact List.getElem?_set_self hlenρ, by omega, ?_, by simp [own1], fun q hq => ?_⟩,
      ⟨List.getElem?_set_self hlenρ, rfl⟩, ⟨rfl, rfl, rfl, by simp, fun b hb hg => ⟨heap_alloc_old w.drew _ hb, by simp [own1]; rw [if_neg (by omega)]; exact hg⟩, Nat.le_succ _⟩, hpins _⟩
     ·simp only [own1] at hb
      split at hb
      ·simp at hb; subst hb; right; exact ⟨rfl, by simp; omega⟩
      ·left; exact ⟨(hH.lab b p hb).2, hb⟩
     ·rw [hhol, hcl]
      refine CRep.appHoleG (w := w) (S := fun b => γ b = some o) (b1 := b1) (vals := vals) (lab := lab) (v := vc) hrow1 hrep (fun b' hb' _ hlt => ⟨heap_alloc_old w.drew _ hlt, by simp only [↓reduceIte, own1]; rw [if_neg (by omega)]; exact hb', by omega⟩) (by simp [own1]) hb2 hrl.symm (by omega) hcn2 (by omega) (fun i f hi hf => ?_) (by rw [Nat.zero_add]; exact hlast 0 (by omega)) (by rw [Nat.zero_add]; exact hlast 1 (by omega)) hv2
      rw [Nat.zero_add]
      simp only [arr, Array.append_assoc]
      rw [Array.getElem?_append_left (by simp [hol]; omega)]
      simpa using hov i f hi hf
     ·cases hq
      refine ⟨vc, by rw [List.getElem?_set_ne hoq]; exact hv1, hv2, ?_⟩
      simp only [World.cell?]
      rw [hb2]
      have := hlast 1 (by omega)
      simpa [Cont.esz] using this
    have hgc : ∀ cap, len + 1 ≤ grownCap w (len + 1) cap e ∧ grownCap w (len + 1) cap e ≤ maxLen := fun cap => ⟨grownCap_ge w _ _ _, grownCap_le_maxLen w _ _ _ (by unfold maxLen; omega)⟩
    simp only [↓reduceIte] at hu2
    have hce : (Cont.graphs gs).esz = 2 := rfl
    rw [hce] at hu2
    generalize hR : (Cont.graphs gs).rows = R at hu2 hgrow hrl hhol
    cases hu2 with
    | nil _ _ base =>
      have h0 : len = 0 := by simpa using hrl.symm
      refine hgrow _ [] (fun _ _ => undef) (fun _ => (0, 0)) 0 (by simp [h0]) (fun i f hi => by omega) (fun r hr => by cases hr) (fun i f row cv h1 => by simp at h1) ⟨grownCap w (len + 1) 0 e, (hgc 0).1, (hgc 0).2, ?_⟩
      cases base with
      | none =>
        have := run_append_nil (P := P) w T ty e i _ hd hi hiz ⟨bt, oft, none⟩ 1 capt [Value.int .i64 nn, vc] (by simp [hin]) hnews (by omega) (by omega) (by rw [hib]; rw [h0] at hfit; omega)
        rw [h0]; simpa using this
      | some base =>
        have := run_append_grow (P := P) w T ty e i _ hd hi hiz base 0 0 [] (by simp) (by simp) ⟨bt, oft, none⟩ 1 capt [Value.int .i64 nn, vc] (by simp [hin]) hnews (by omega) (by omega) (growslice_fits (by omega) (by rw [hib]; rw [h0] at hfit; simpa using hfit))
        rw [h0]; simpa using this
    | ronil _ _ _ _ hf => cases hf
    | row _ _ _ b off cap arr0 e0 fz n vals lab hS hb hfz hn' hcap hmax hsz hrow1 hval hrep =>
      have hfz0 := hfz rfl
      subst hfz0
      have hn : n = len := hn'.trans hrl
      subst hn
      have hval0 : ∀ j f, j < n → f < 2 → arr0[off + j * 2 + f]? = some (vals j f) := fun j f hj hf => hval j f (by omega) hf
      by_cases hroom : n + 1 ≤ cap
      ·have hrun := run_append_room' (P := P) (w := w) T ty e e0 i hd hi b off n cap arr0 hb (some ⟨bt, oft, none⟩) 1 capt [Value.int .i64 nn, vc] (by simp [hin]) (.inr ⟨_, rfl, hnews⟩) (by
        intro u hu
        simp only [List.mem_cons, List.not_mem_nil, or_false] at hu
        rcases hu with rfl | rfl
        ·rfl
        ·exact hv2) hroom (by simp [hin]; omega)
       simp only [hin, List.length_cons, List.length_nil, Nat.zero_add] at hrun
       have hget : ∀ j, ((arr0.toList.take (off + n * 2) ++ [Value.int .i64 nn, vc] ++ arr0.toList.drop (off + n * 2 + (1 + 1))).toArray)[j]? = if off + n * 2 ≤ j ∧ j < off + n * 2 + 2 then [Value.int .i64 nn, vc][j - (off + n * 2)]? else arr0[j]? := by
        intro j
        have := get_seg (l := arr0.toList) (vs := [Value.int .i64 nn, vc]) (s := off + n * 2) (j := j) (by simp; omega)
        simp only [List.length_cons, List.length_nil, Nat.zero_add] at this
        rw [List.getElem?_toArray, this]
        simp
       have hb2 := setRow_heap w b arr0 (arr0.toList.take (off + n * 2) ++ [Value.int .i64 nn, vc] ++ arr0.toList.drop (off + n * 2 + (1 + 1))).toArray e0 (0, 0) hb
       refine ⟨_, _, γ, ρ.set o (.slice (some ⟨b, off, none⟩) (n + 1) cap), hrun, hst.env.kill o _, hH.upd o ho _ _ (fun b1 hb1 hg => ⟨setRow_other w b b1 _ (fun e => by subst e; exact hg hS), rfl⟩) (by simp)
        (fun b1 p hb1 => .inl ⟨(hH.lab b1 p hb1).2, hb1⟩) ⟨b, off, cap, by rw [hcl]; exact List.getElem?_set_self hlenρ, by omega, ?_, by simpa using hS, fun q hq => ?_⟩, ⟨List.getElem?_set_self hlenρ, rfl⟩, Fr.own hS, hpins _⟩
       ·rw [hhol, hcl]
        refine CRep.appHoleG (w := w) (S := fun b => γ b = some o) (b1 := b) (vals := vals) (lab := lab) (v := vc) hrow1 hrep (fun b' hb' hne hlt => ⟨setRow_other w b b' _ (by first | exact hne | exact fun e => hne e.symm), by simpa using hb', hne⟩) (by simpa using hS) hb2 hrl.symm hroom hmax ?_ (fun j f hj hf => ?_) ?_ ?_ hv2
        ·simp; omega
        ·rw [hget, if_neg (by omega)]; exact hval0 j f hj hf
        ·rw [hget, if_pos (by omega)]; simp
        ·rw [hget, if_pos (by omega)]; simp
       ·cases hq
        refine ⟨vc, by rw [List.getElem?_set_ne hoq]; exact hv1, hv2, ?_⟩
        simp only [World.cell?]
        rw [hb2]
        simp only [Cont.esz, Option.isSome_none, Bool.false_eq_true, if_false]
        rw [hget, if_pos (by omega)]; simp
      ·let olds := (List.range (n * 2)).map fun k => vals (k / 2) (k % 2)
       have hov : ∀ j f, j < n → f < 2 → olds[j * 2 + f]? = some (vals j f) := fun j f hj hf => by
        simp only [olds, List.getElem?_map]
        rw [List.getElem?_range (by omega), Option.map_some, show (j * 2 + f) / 2 = j from by omega, show (j * 2 + f) % 2 = f from by omega]
       have holds : ∀ j v, olds[j]? = some v → w.cell? ((⟨b, off, none⟩ : Addr).add j) = some v := by
        intro j v hj
        have hjl : j < n * 2 := by have := (List.getElem?_eq_some_iff.1 hj).1; simpa [olds] using this
        have hjv : vals (j / 2) (j % 2) = v := by
         have := hov (j / 2) (j % 2) (by omega) (by omega)
         rw [show j / 2 * 2 + j % 2 = j from by omega, hj] at this
         exact (Option.some.inj this).symm
        have hh : (⟨b, off, none⟩ : Addr).add j = ⟨b, off + j, none⟩ := by
         unfold Addr.add; split
         ·rename_i h0; rw [h0]; rfl
         ·rfl
        rw [hh]; simp only [World.cell?]; rw [hb]; simp only
        have := hval0 (j / 2) (j % 2) (by omega) (by omega)
        rw [show off + j / 2 * 2 + j % 2 = off + j from by omega] at this
        rw [this, hjv]; rfl
       refine hgrow _ olds vals lab b (by simp [olds]) hov hrow1 hrep ⟨grownCap w (n + 1) cap e, (hgc cap).1, (hgc cap).2, ?_⟩
       exact run_append_grow (P := P) w T ty e i _ hd hi hiz ⟨b, off, none⟩ n cap olds (by simp [olds, hin]) holds ⟨bt, oft, none⟩ 1 capt [Value.int .i64 nn, vc] (by simp [hin]) hnews (by omega) (by omega) (growslice_fits (by omega) (by rw [hib]; exact hfit))
   ·cases h
  ·cases h
 ·cases h
theorem append2_run {πv : Pv} {E : Env} {a : Act} (hst : St N pin πv γ ρ E H a w) {T ty e : TypeId} {o by_ : Nat} {R : List (List CV)} {u0 : Value} {nn : Int} {vc : Value} {bt oft capt : Nat}
 (hd : P.underlying T = some (.slice e)) (hby : tby P e = some by_) (hn : tsz P e = some 2) (hz : tzero P e = some (.agg #[.int .i64 0, .slice none 0 0])) (ho : o < H.length)
 (hu2 : CRep true w (fun b => γ b = some o) (.sl 2 R) u0) (hc0 : w.cell? ⟨bt, oft, none⟩ = some (.int .i64 nn)) (hc1 : w.cell? ⟨bt, oft + 1, none⟩ = some vc) (hv2 : vc.oneCell' = true)
 (hfit : (R.length + 1) * by_ ≤ 140737488355328) (h63 : R.length + 1 ≤ 9223372036854775807) :
 ∃ b off cap w' γ', (Builtin.append_ #[T, T] ty #[u0, .slice (some ⟨bt, oft, none⟩) 1 capt]).run P w = .ok (.slice (some ⟨b, off, none⟩) (R.length + 1) cap) w' ∧
  CRep true w' (fun b => γ' b = some o) (.sl 2 (R ++ [[cI .i64 nn, .hole]])) (.slice (some ⟨b, off, none⟩) (R.length + 1) cap) ∧ w'.cell? ⟨b, off + R.length * 2 + 1, none⟩ = some vc ∧
  (∀ b1 ofs1 n1 cap1, u0 = .slice (some ⟨b1, ofs1, none⟩) n1 cap1 → ∀ i f, i < R.length → f < 2 → w'.cell? ⟨b, off + i * 2 + f, none⟩ = w.cell? ⟨b1, ofs1 + i * 2 + f, none⟩) ∧
  Fr γ w γ' w' ∧ (∀ b, b < w.heap.size → γ b ≠ some o → w'.heap[b]? = w.heap[b]? ∧ γ' b = γ b) ∧ (∀ b p, γ' b = some p → (b < w.heap.size ∧ γ b = some p) ∨ (p = o ∧ b < w'.heap.size)) ∧ w.heap.size ≤ w'.heap.size := by
 have hH := hst.heap
 obtain ⟨i, hi, hib⟩ := run_tby hby
 have hin : i.size = 2 := by simpa [tsz, hi] using hn
 have hiz : i.zero = some (.agg #[.int .i64 0, .slice none 0 0]) := by simpa [tzero, hi] using hz
 have hnews : ∀ (j : Nat) (u : Value), [Value.int .i64 nn, vc][j]? = some u → w.cell? ((⟨bt, oft, none⟩ : Addr).add j) = some u := by
  intro j u hj
  match j, hj with
  | 0, hj => simp at hj; subst hj; simpa [Addr.add] using hc0
  | 1, hj => simp at hj; subst hj; simpa [Addr.add] using hc1
  | j + 2, hj => simp at hj
 obtain ⟨len, hlen⟩ : ∃ len, len = R.length := ⟨_, rfl⟩
 have hrl : R.length = len := hlen.symm
 rw [← hlen] at hfit h63 ⊢
 have hgrow : ∀ (uo : Value) (olds : List Value) (vals : Nat → Nat → Value) (lab : Nat → Nat × Nat) (b1 : Nat), olds.length = len * 2 → (∀ i f, i < len → f < 2 → olds[i * 2 + f]? = some (vals i f)) → (∀ r ∈ R, r.length = 2) →
  (∀ i f row cv, R[i]? = some row → row[f]? = some cv → CRep true w (fun b' => γ b' = some o ∧ (true = true → b' ≠ b1 ∧ lab b' = (i, f))) cv (vals i f)) →
  (∃ capn, len + 1 ≤ capn ∧ capn ≤ maxLen ∧ (Builtin.append_ #[T, T] ty #[uo, .slice (some ⟨bt, oft, none⟩) 1 capt]).run P w =
   .ok (.slice (some ⟨w.heap.size, 0, none⟩) (len + 1) capn) (w.drew.alloc (.cells (olds.toArray ++ [Value.int .i64 nn, vc].toArray ++ Builtin.zeroCells (Value.agg #[.int .i64 0, .slice none 0 0]).cells (capn - (len + 1))) e))) →
  (∀ b1 ofs1 n1 cap1, uo = .slice (some ⟨b1, ofs1, none⟩) n1 cap1 → ∀ i f, i < len → f < 2 → w.cell? ⟨b1, ofs1 + i * 2 + f, none⟩ = some (vals i f)) →
  ∃ b off cap w' γ', (Builtin.append_ #[T, T] ty #[uo, .slice (some ⟨bt, oft, none⟩) 1 capt]).run P w = .ok (.slice (some ⟨b, off, none⟩) (len + 1) cap) w' ∧
   CRep true w' (fun b => γ' b = some o) (.sl 2 (R ++ [[cI .i64 nn, .hole]])) (.slice (some ⟨b, off, none⟩) (len + 1) cap) ∧ w'.cell? ⟨b, off + len * 2 + 1, none⟩ = some vc ∧
   (∀ b1 ofs1 n1 cap1, uo = .slice (some ⟨b1, ofs1, none⟩) n1 cap1 → ∀ i f, i < len → f < 2 → w'.cell? ⟨b, off + i * 2 + f, none⟩ = w.cell? ⟨b1, ofs1 + i * 2 + f, none⟩) ∧
   Fr γ w γ' w' ∧ (∀ b, b < w.heap.size → γ b ≠ some o → w'.heap[b]? = w.heap[b]? ∧ γ' b = γ b) ∧ (∀ b p, γ' b = some p → (b < w.heap.size ∧ γ b = some p) ∨ (p = o ∧ b < w'.heap.size)) ∧ w.heap.size ≤ w'.heap.size := by
  intro uo olds vals lab b1 hol hov hrow1 hrep ⟨capn, hcn1, hcn2, hrun⟩ hold
  let arr := olds.toArray ++ [Value.int .i64 nn, vc].toArray ++ Builtin.zeroCells (Value.agg #[.int .i64 0, .slice none 0 0]).cells (capn - (len + 1))
  have hasz : arr.size = capn * 2 := by simp [arr, hol, zeroCells_size, Value.cells]; omega
  have hb2 : (w.drew.alloc (.cells arr e)).heap[w.heap.size]? = some (.cells arr e (0, 0)) := heap_alloc_new w.drew _
  have hlast : ∀ k, k < 2 → arr[len * 2 + k]? = [Value.int .i64 nn, vc][k]? := fun k hk => by
   simp only [arr, Array.append_assoc]
   rw [Array.getElem?_append_right (by simp [hol]), Array.getElem?_append_left (by simp [hol]; omega)]
   simp [hol]
  have hold2 : ∀ i f, i < len → f < 2 → arr[i * 2 + f]? = some (vals i f) := fun i f hi hf => by
   simp only [arr, Array.append_assoc]
   rw [Array.getElem?_append_left (by simp [hol]; omega)]
   simpa using hov i f hi hf
  refine ⟨w.heap.size, 0, capn, w.drew.alloc (.cells arr e), own1 γ w.heap.size o, hrun, ?_, ?_, fun b2 ofs2 n2 cap2 hu i f hi hf => ?_,
   ⟨rfl, rfl, rfl, by simp, fun b hb hg => ⟨heap_alloc_old w.drew _ hb, by simp [own1]; rw [if_neg (by omega)]; exact hg⟩, Nat.le_succ _⟩, fun b hb hg => ⟨heap_alloc_old w.drew _ hb, by simp [own1]; omega⟩, fun b p hb => ?_, by simp⟩
  ·refine CRep.appHoleG (w := w) (S := fun b => γ b = some o) (b1 := b1) (vals := vals) (lab := lab) (v := vc) hrow1 hrep (fun b' hb' _ hlt => ⟨heap_alloc_old w.drew _ hlt, by simp only [own1]; rw [if_neg (by omega)]; exact hb', by omega⟩) (by simp [own1]) hb2 hrl.symm (by omega) hcn2 (by omega) (fun i f hi hf => ?_) (by rw [Nat.zero_add]; exact hlast 0 (by omega)) (by rw [Nat.zero_add]; exact hlast 1 (by omega)) hv2
   rw [Nat.zero_add]
   exact hold2 i f hi hf
  ·simp only [World.cell?]
   rw [hb2]
   have := hlast 1 (by omega)
   simpa using this
  ·rw [hold b2 ofs2 n2 cap2 hu i f hi hf]
   simp only [World.cell?]
   rw [hb2]
   have := hold2 i f hi hf
   simpa using this
  ·simp only [own1] at hb
   split at hb
   ·simp at hb; subst hb; right; exact ⟨rfl, by simp; omega⟩
   ·left; exact ⟨(hH.lab b p hb).2, hb⟩
 have hgc : ∀ cap, len + 1 ≤ grownCap w (len + 1) cap e ∧ grownCap w (len + 1) cap e ≤ maxLen := fun cap => ⟨grownCap_ge w _ _ _, grownCap_le_maxLen w _ _ _ (by unfold maxLen; omega)⟩
 cases hu2 with
 | nil _ _ base =>
   have h0 : len = 0 := by simpa using hrl.symm
   refine hgrow _ [] (fun _ _ => undef) (fun _ => (0, 0)) 0 (by simp [h0]) (fun i f hi => by omega) (fun r hr => by cases hr) (fun i f row cv h1 => by simp at h1) ⟨grownCap w (len + 1) 0 e, (hgc 0).1, (hgc 0).2, ?_⟩ (fun _ _ _ _ _ i f hi => by omega)
   cases base with
   | none =>
     have := run_append_nil (P := P) w T ty e i _ hd hi hiz ⟨bt, oft, none⟩ 1 capt [Value.int .i64 nn, vc] (by simp [hin]) hnews (by omega) (by omega) (by rw [hib]; rw [h0] at hfit; omega)
     rw [h0]; simpa using this
   | some base =>
     have := run_append_grow (P := P) w T ty e i _ hd hi hiz base 0 0 [] (by simp) (by simp) ⟨bt, oft, none⟩ 1 capt [Value.int .i64 nn, vc] (by simp [hin]) hnews (by omega) (by omega) (growslice_fits (by omega) (by rw [hib]; rw [h0] at hfit; simpa using hfit))
     rw [h0]; simpa using this
 | ronil _ _ _ _ hf => cases hf
 | row _ _ _ b off cap arr0 e0 fz n vals lab hS hb hfz hn' hcap hmax hsz hrow1 hval hrep =>
   have hfz0 := hfz rfl
   subst hfz0
   have hn : n = len := hn'.trans hrl
   subst hn
   have hval0 : ∀ j f, j < n → f < 2 → arr0[off + j * 2 + f]? = some (vals j f) := fun j f hj hf => hval j f (by omega) hf
   have hcells : ∀ j f, j < n → f < 2 → w.cell? ⟨b, off + j * 2 + f, none⟩ = some (vals j f) := fun j f hj hf => by
    simp only [World.cell?]; rw [hb]
    have := hval0 j f hj hf
    simpa using this
   by_cases hroom : n + 1 ≤ cap
   ·have hrun := run_append_room' (P := P) (w := w) T ty e e0 i hd hi b off n cap arr0 hb (some ⟨bt, oft, none⟩) 1 capt [Value.int .i64 nn, vc] (by simp [hin]) (.inr ⟨_, rfl, hnews⟩) (by
     intro u hu
     simp only [List.mem_cons, List.not_mem_nil, or_false] at hu
     rcases hu with rfl | rfl
     ·rfl
     ·exact hv2) hroom (by simp [hin]; omega)
    simp only [hin, List.length_cons, List.length_nil, Nat.zero_add] at hrun
    have hget : ∀ j, ((arr0.toList.take (off + n * 2) ++ [Value.int .i64 nn, vc] ++ arr0.toList.drop (off + n * 2 + (1 + 1))).toArray)[j]? = if off + n * 2 ≤ j ∧ j < off + n * 2 + 2 then [Value.int .i64 nn, vc][j - (off + n * 2)]? else arr0[j]? := by
     intro j
     have := get_seg (l := arr0.toList) (vs := [Value.int .i64 nn, vc]) (s := off + n * 2) (j := j) (by simp; omega)
     simp only [List.length_cons, List.length_nil, Nat.zero_add] at this
     rw [List.getElem?_toArray, this]
     simp
    have hb2 := setRow_heap w b arr0 (arr0.toList.take (off + n * 2) ++ [Value.int .i64 nn, vc] ++ arr0.toList.drop (off + n * 2 + (1 + 1))).toArray e0 (0, 0) hb
    refine ⟨b, off, cap, _, γ, hrun, ?_, ?_, fun b2 ofs2 n2 cap2 hu i f hi hf => ?_, Fr.own hS, fun b1 hb1 hg => ⟨setRow_other w b b1 _ (fun e => by subst e; exact hg hS), rfl⟩, fun b1 p hb1 => .inl ⟨(hH.lab b1 p hb1).2, hb1⟩, by simp⟩
    ·refine CRep.appHoleG (w := w) (S := fun b => γ b = some o) (b1 := b) (vals := vals) (lab := lab) (v := vc) hrow1 hrep (fun b' hb' hne hlt => ⟨setRow_other w b b' _ (by first | exact hne | exact fun e => hne e.symm), by simpa using hb', hne⟩) (by simpa using hS) hb2 hrl.symm hroom hmax ?_ (fun j f hj hf => ?_) ?_ ?_ hv2
     ·simp; omega
     ·rw [hget, if_neg (by omega)]; exact hval0 j f hj hf
     ·rw [hget, if_pos (by omega)]; simp
     ·rw [hget, if_pos (by omega)]; simp
    ·simp only [World.cell?]
     rw [hb2]
     simp only [Option.isSome_none, Bool.false_eq_true, if_false]
     rw [hget, if_pos (by omega)]; simp
    ·simp at hu
     obtain ⟨⟨rfl, rfl⟩, _⟩ := hu
     rw [hcells i f hi hf]
     simp only [World.cell?]
     rw [hb2]
     simp only [Option.isSome_none, Bool.false_eq_true, if_false]
     rw [hget, if_neg (by omega)]; exact hval0 i f hi hf
   ·let olds := (List.range (n * 2)).map fun k => vals (k / 2) (k % 2)
    have hov : ∀ j f, j < n → f < 2 → olds[j * 2 + f]? = some (vals j f) := fun j f hj hf => by
     simp only [olds, List.getElem?_map]
     rw [List.getElem?_range (by omega), Option.map_some, show (j * 2 + f) / 2 = j from by omega, show (j * 2 + f) % 2 = f from by omega]
    have holds : ∀ j v, olds[j]? = some v → w.cell? ((⟨b, off, none⟩ : Addr).add j) = some v := by
     intro j v hj
     have hjl : j < n * 2 := by have := (List.getElem?_eq_some_iff.1 hj).1; simpa [olds] using this
     have hjv : vals (j / 2) (j % 2) = v := by
      have := hov (j / 2) (j % 2) (by omega) (by omega)
      rw [show j / 2 * 2 + j % 2 = j from by omega, hj] at this
      exact (Option.some.inj this).symm
     have hh : (⟨b, off, none⟩ : Addr).add j = ⟨b, off + j, none⟩ := by
      unfold Addr.add; split
      ·rename_i h0; rw [h0]; rfl
      ·rfl
     rw [hh]; simp only [World.cell?]; rw [hb]; simp only
     have := hval0 (j / 2) (j % 2) (by omega) (by omega)
     rw [show off + j / 2 * 2 + j % 2 = off + j from by omega] at this
     rw [this, hjv]; rfl
    refine hgrow _ olds vals lab b (by simp [olds]) hov hrow1 hrep ⟨grownCap w (n + 1) cap e, (hgc cap).1, (hgc cap).2, ?_⟩ (fun b2 ofs2 n2 cap2 hu i f hi hf => by
     simp at hu
     obtain ⟨⟨rfl, rfl⟩, _⟩ := hu
     exact hcells i f hi hf)
    exact run_append_grow (P := P) w T ty e i _ hd hi hiz ⟨b, off, none⟩ n cap olds (by simp [olds, hin]) holds ⟨bt, oft, none⟩ 1 capt [Value.int .i64 nn, vc] (by simp [hin]) hnews (by omega) (by omega) (growslice_fits (by omega) (by rw [hib]; exact hfit))
def appendME (P : Program) (pin : List Nat) (E : Env) (H : List AObj) (T : TypeId) (x y : AV) : Option (Prop × Env × List AObj × AV) :=
 match P.underlying T, x, y with
 | some (.slice e), .sl o, .sl p => match tby P e, tsz P e, tzero P e with
   | some by_, some 2, some (.agg zs) => match zs.toList with
     | [.int .i64 0, .slice none 0 0] => if pin.contains o = false ∧ o ≠ p then (match H[o]?, H[p]? with
       | some (.row true (.graphs gs)), some (.row true (.gen 2 [[.v (.int .i64 n), .v (.slice none 0 0)]])) => some ((gs.length + 1) * by_ ≤ 140737488355328 ∧ gs.length + 1 ≤ 9223372036854775807, E.kill o, ((H.map (AObj.unview o)).map (AObj.kill o)).set o (.row true (.graphs (gs ++ [(n, [])]))), .sl o)
       | some (.mix gs), some (.mix [(n, xs)]) => some ((gs.length + 1) * by_ ≤ 140737488355328 ∧ gs.length + 1 ≤ 9223372036854775807, E.kill o, ((H.map (AObj.unview o)).map (AObj.kill o)).set o (.mix (gs ++ [(n, xs)])), .sl o)
       | _, _ => none) else none
     | _ => none
   | _, _, _ => none
 | _, _, _ => none
theorem appendME_run {πv : Pv} {E E' : Env} {a : Act} (hst : St N pin πv γ ρ E H a w) {T ty : TypeId} {x y v : AV} {q : Prop} {H' : List AObj} {ux uy : Value}
 (h : appendME P pin E H T x y = some (q, E', H', v)) (hq : q) (hx : rel ρ x ux) (hy : rel ρ y uy) :
 ∃ u w' γ' ρ', (Builtin.append_ #[T, T] ty #[ux, uy]).run P w = .ok u w' ∧ EnvOk ρ' E' a.tmps ∧ HeapOk γ' ρ' H' w' ∧ rel ρ' v u ∧ Fr γ w γ' w' ∧ ∀ o ∈ pin, ρ'[o]? = ρ[o]? := by
 have hH := hst.heap
 unfold appendME at h
 split at h
 ·rename_i e o p hd
  split at h
  ·rename_i by_ zs hby hn hz
   split at h
   rotate_left
   ·cases h
   rename_i hzs
   have hzs' : zs = #[.int .i64 0, .slice none 0 0] := by rw [← hzs]
   subst hzs'
   clear hzs
   split at h
   rotate_left
   ·cases h
   rename_i hcond
   obtain ⟨hpin, hop⟩ := hcond
   have hpins : ∀ (v' : Value), ∀ o' ∈ pin, (ρ.set o v')[o']? = ρ[o']? := by
    intro v' o' ho'
    rw [List.getElem?_set_ne]
    intro e; subst e; simp at hpin; exact hpin ho'
   have hux := rel_sl hx
   have huy := rel_sl hy
   split at h
   ·rename_i gs n hrow hnil
    simp only [Option.some.injEq, Prod.mk.injEq] at h
    obtain ⟨rfl, rfl, rfl, rfl⟩ := h
    obtain ⟨hfit, h63⟩ := hq
    have ho : o < H.length := (List.getElem?_eq_some_iff.1 hrow).1
    have hlenρ : o < ρ.length := by rw [hH.len]; exact ho
    obtain ⟨u0, hu1, hu2⟩ := hH.obj _ _ hrow
    rw [hu1] at hux
    obtain rfl := Option.some.inj hux
    obtain ⟨up, hp1, hp2⟩ := hH.obj _ _ hnil
    rw [hp1] at huy
    obtain rfl := Option.some.inj huy
    have hrl : (Cont.graphs gs).rows.length = gs.length := by rw [Cont.len_rows]; rfl
    simp only [↓reduceIte] at hu2 hp2
    obtain ⟨bt, oft, capt, rfl, _, _, hcl⟩ := hp2.cell (i := 0) (row := [.v (.int .i64 n), .v (.slice none 0 0)]) rfl
    obtain ⟨v0, q1, q2, q3⟩ := hcl 0 _ rfl
    obtain ⟨v1, q4, q5, q6⟩ := hcl 1 _ rfl
    have e0 : v0 = .int .i64 n := by cases q3; rfl
    have e1 : v1 = .slice none 0 0 := by cases q6; rfl
    subst e0 e1
    have hce : (Cont.gen 2 [[.v (.int .i64 n), .v (.slice none 0 0)]]).esz = 2 := rfl
    have hcr : (Cont.gen 2 [[CV.v (.int .i64 n), CV.v (.slice none 0 0)]]).rows.length = 1 := rfl
    rw [hce] at q1 q4
    rw [hcr]
    obtain ⟨b, off, cap, w', γ', k1, k2, k3, _, k5, k6, k7, k8⟩ := append2_run (ty := ty) (capt := capt) hst hd hby hn hz ho (R := (Cont.graphs gs).rows) hu2 (by simpa using q1) (by simpa using q4) q5 (by rw [hrl]; exact hfit) (by rw [hrl]; exact h63)
    refine ⟨_, w', γ', ρ.set o (.slice (some ⟨b, off, none⟩) ((Cont.graphs gs).rows.length + 1) cap), k1, hst.env.kill o _, hH.upd o ho _ _ k6 k8 k7 ⟨_, List.getElem?_set_self hlenρ, ?_⟩, ⟨List.getElem?_set_self hlenρ, rfl⟩, k5, hpins _⟩
    have hfill := k2.fill (T := fun b => γ' b = some o) (Sc := fun _ => False) (i := (Cont.graphs gs).rows.length) (row := [cI .i64 n, .hole]) (f := 1) (v := .slice none 0 0) (e2 := 3) (r2 := []) (by rw [List.getElem?_append_right (Nat.le_refl _), Nat.sub_self]; rfl) (by simp) (by simpa using k3) (.nil _ _ _) (fun _ h => h) (fun _ h => h.elim) (fun _ _ h => h.elim)
    have e2 : ((Cont.graphs gs).rows ++ [[cI .i64 n, .hole]]).set (Cont.graphs gs).rows.length ([cI .i64 n, CV.hole].set 1 (.sl 3 [])) = (Cont.graphs (gs ++ [(n, [])])).rows := by
     rw [List.set_append_right _ _ (Nat.le_refl _), Nat.sub_self]
     simp [Cont.rows]
    rw [e2] at hfill
    simp only [↓reduceIte]
    exact hfill
   ·rename_i gs n xs hrow hnil
    simp only [Option.some.injEq, Prod.mk.injEq] at h
    obtain ⟨rfl, rfl, rfl, rfl⟩ := h
    obtain ⟨hfit, h63⟩ := hq
    have ho : o < H.length := (List.getElem?_eq_some_iff.1 hrow).1
    have hlenρ : o < ρ.length := by rw [hH.len]; exact ho
    obtain ⟨u0, hu1, hu2, hu3⟩ := hH.obj _ _ hrow
    rw [hu1] at hux
    obtain rfl := Option.some.inj hux
    obtain ⟨up, hp1, hp2, hp3⟩ := hH.obj _ _ hnil
    rw [hp1] at huy
    obtain rfl := Option.some.inj huy
    have hrl : (gs.map fun g => [cI .i64 g.1, CV.hole]).length = gs.length := by simp
    obtain ⟨bt, oft, capt, e5, _, _, hcl⟩ := hp2.cell (i := 0) (row := [cI .i64 n, .hole]) rfl
    subst e5
    obtain ⟨v0, q1, q2, q3⟩ := hcl 0 _ rfl
    obtain ⟨v1, q4, q5⟩ := hp3 bt oft _ _ rfl 0 (n, xs) rfl
    have e0 : v0 = .int .i64 n := by unfold cI at q3; cases q3; rfl
    subst e0
    have hone : v1.oneCell' = true := by obtain ⟨_, _, e7, _⟩ := q5.slice; rw [e7]; rfl
    have hcr : ([(n, xs)].map fun g : Int × List (Int × Int × Int) => [cI .i64 g.1, CV.hole]).length = 1 := rfl
    rw [hcr]
    obtain ⟨b, off, cap, w', γ', k1, k2, k3, k4, k5, k6, k7, k8⟩ := append2_run (ty := ty) (capt := capt) hst hd hby hn hz ho (R := gs.map fun g => [cI .i64 g.1, CV.hole]) hu2 (by simpa using q1) (by simpa using q4) hone (by rw [hrl]; exact hfit) (by rw [hrl]; exact h63)
    have hkeepN : ∀ {c : CV} {x : Value}, CRep false w (fun b => γ b = none) c x → CRep false w' (fun b => γ' b = none) c x := fun hc => hc.stay fun b hb hlt => by
     have := k6 b hlt (by rw [hb]; simp)
     exact ⟨this.1, this.2.trans hb⟩
    refine ⟨_, w', γ', ρ.set o (.slice (some ⟨b, off, none⟩) ((gs.map fun g => [cI .i64 g.1, CV.hole]).length + 1) cap), k1, hst.env.kill o _, hH.upd o ho _ _ k6 k8 k7 ⟨_, List.getElem?_set_self hlenρ, ?_, fun b1 ofs1 n1 cap1 hu i g hg => ?_⟩, ⟨List.getElem?_set_self hlenρ, rfl⟩, k5, hpins _⟩
    ·rw [List.map_append]; exact k2
    ·simp at hu
     obtain ⟨⟨rfl, rfl⟩, _⟩ := hu
     by_cases hig : i < gs.length
     ·rw [List.getElem?_append_left hig] at hg
      have hnil0 : ∃ b1 ofs1 n1 cap1, u0 = .slice (some ⟨b1, ofs1, none⟩) n1 cap1 := by
       obtain ⟨b', off', cap', e6, _⟩ := hu2.cell (i := i) (row := [cI .i64 g.1, .hole]) (by rw [List.getElem?_map, hg]; rfl)
       exact ⟨_, _, _, _, e6⟩
      obtain ⟨b1, ofs1, n1, cap1, e6⟩ := hnil0
      obtain ⟨vg, m1, m2⟩ := hu3 b1 ofs1 n1 cap1 e6 i g hg
      refine ⟨vg, ?_, hkeepN m2⟩
      rw [k4 b1 ofs1 n1 cap1 e6 i 1 (by rw [hrl]; exact hig) (by omega)]; exact m1
     ·rw [List.getElem?_append_right (by omega)] at hg
      have hi0 : i = gs.length := by
       have := (List.getElem?_eq_some_iff.1 hg).1
       simp at this; omega
      subst hi0
      simp at hg
      subst hg
      exact ⟨v1, by rw [hrl] at k3; exact k3, hkeepN q5⟩
   ·cases h
  ·cases h
 ·cases h
def appendXE (P : Program) (pin : List Nat) (E : Env) (H : List AObj) (T : TypeId) (x y : AV) : Option (Prop × Env × List AObj × AV) :=
 match appendNE P pin E H T x y with
 | some r => some r
 | none => match appendGE P pin E H T x y with
   | some r => some r
   | none => appendME P pin E H T x y
theorem appendXE_run {πv : Pv} {E E' : Env} {a : Act} (hst : St N pin πv γ ρ E H a w) {T ty : TypeId} {x y v : AV} {q : Prop} {H' : List AObj} {ux uy : Value}
 (h : appendXE P pin E H T x y = some (q, E', H', v)) (hq : q) (hx : rel ρ x ux) (hy : rel ρ y uy) :
 ∃ u w' γ' ρ', (Builtin.append_ #[T, T] ty #[ux, uy]).run P w = .ok u w' ∧ EnvOk ρ' E' a.tmps ∧ HeapOk γ' ρ' H' w' ∧ rel ρ' v u ∧ Fr γ w γ' w' ∧ ∀ o ∈ pin, ρ'[o]? = ρ[o]? := by
 unfold appendXE at h
 split at h
 ·rename_i r hr
  cases h
  exact appendNE_run hst hr hq hx hy
 ·split at h
  ·rename_i r hr
   cases h
   exact appendGE_run hst hr hq hx hy
  ·exact appendME_run hst h hq hx hy
def promoteH (H : List AObj) (s v : Nat) (d : Cont) : List AObj := ((H.map (AObj.unview s)).set s .dead).set v (.row true d)
theorem St.promote {πv : Pv} {E : Env} {a : Act} (hst : St N pin πv γ ρ E H a w) {s v : Nat} {c d : Cont} (hs : H[s]? = some (.row true c)) (hv : H[v]? = some (.view s d)) :
 ∃ γ', St N pin πv γ' ρ E (promoteH H s v d) a w ∧ Fr γ w γ' w := by
 have hH := hst.heap
 unfold promoteH
 have hsl := (List.getElem?_eq_some_iff.1 hs).1
 have hvl := (List.getElem?_eq_some_iff.1 hv).1
 have hne : v ≠ s := by intro e; subst e; rw [hs] at hv; cases hv
 let γ' : Nat → Option Nat := fun b => if γ b = some s then some v else γ b
 refine ⟨γ', ⟨hst.size, hst.defs.lab fun b hb => (by simp [γ', hb]), hst.env, ⟨by simpa [promoteH] using hH.len, fun p ob hp => ?_, fun b p hb => ?_⟩, hst.pins⟩, ⟨rfl, rfl, rfl, Nat.le_refl _, fun b _ hg => ⟨rfl, by simp [γ', hg]⟩, Nat.le_refl _⟩⟩
 ·by_cases hpv : p = v
  ·subst hpv
   rw [List.getElem?_set_self (by simpa using hvl)] at hp
   simp at hp; subst hp
   obtain ⟨u, h1, h2⟩ := hH.obj _ _ hv
   exact ⟨u, h1, h2.mono fun b hb => by simp [γ', hb]⟩
  ·rw [List.getElem?_set_ne (Ne.symm hpv)] at hp
   by_cases hps : p = s
   ·subst hps
    rw [List.getElem?_set_self (by simpa using hsl)] at hp
    simp at hp; subst hp; exact trivial
   ·rw [List.getElem?_set_ne (Ne.symm hps), List.getElem?_map] at hp
    cases hH' : H[p]? with
    | none => rw [hH'] at hp; cases hp
    | some ob0 =>
      rw [hH'] at hp; simp at hp; subst hp
      have h0 := hH.obj p ob0 hH'
      cases ob0 <;> simp only [AObj.unview]
      ·exact trivial
      ·obtain ⟨b, arr, e, h1, h2, h3, h4⟩ := h0
       exact ⟨b, arr, e, h1, by simp [γ', h2, hps], h3, h4⟩
      ·obtain ⟨b, arr, e, fz, h1, h2, h3, h4⟩ := h0
       exact ⟨b, arr, e, fz, h1, by simp [γ', h2], h3, h4⟩
      ·obtain ⟨x, h1, h2⟩ := h0
       rename_i own c'
       refine ⟨x, h1, h2.mono fun b hb => ?_⟩
       cases own <;> simp at hb ⊢ <;> simp [γ', hb]
       exact fun h => absurd h hps
      ·rename_i src c'
       by_cases hsrc : src = s
       ·simp only [if_pos hsrc]; exact trivial
       ·simp only [if_neg hsrc]
        obtain ⟨x, h1, h2⟩ := h0
        exact ⟨x, h1, h2.mono fun b hb => by simp [γ', hb, hsrc]⟩
      ·obtain ⟨h1, h2⟩ := h0
       exact ⟨by simp [γ', h1], h2⟩
      ·rename_i own c' i f q0
       obtain ⟨b, ofs, cap, h1, h2, h3, h6, h4⟩ := h0
       refine ⟨b, ofs, cap, h1, h2, h3.mono fun b hb => ?_, ?_, h4⟩
       ·cases own <;> simp at hb ⊢ <;> simp [γ', hb]
        exact fun h => absurd h hps
       ·cases own <;> simp at h6 ⊢ <;> simp [γ', h6]
        exact fun h => absurd h hps
      ·obtain ⟨x, h1, h2⟩ := h0
       exact ⟨x, h1, h2.mono (fun b hb => by simp [γ', hb, hps]) (fun b hb => by simp [γ', hb])⟩
      ·obtain ⟨x, h1, h2⟩ := h0
       exact ⟨x, h1, h2.to (fun b hb _ => ⟨rfl, by simp [γ', hb, hps]⟩) (fun q hq => ⟨q, hq, fun v hv => hv⟩)⟩
      ·obtain ⟨x, h1, h2⟩ := h0
       exact ⟨x, h1, h2.to (fun b hb _ => ⟨rfl, by simp [γ', hb, hps]⟩)⟩
      ·exact ExtP.stay _ h0 (fun _ _ _ => rfl) (Nat.le_refl _) (fun b _ hb => by simp only [γ', hb]; simp) (fun b _ hb => by simp [γ', hb, hps])
 ·simp only [γ'] at hb
  split at hb
  ·rename_i hbs
   simp at hb; subst hb
   exact ⟨by simpa using hvl, (hH.lab b s hbs).2⟩
  ·have := hH.lab b p hb; exact ⟨by simpa using this.1, this.2⟩
def appendV (P : Program) (pin : List Nat) (E : Env) (H : List AObj) (T : TypeId) (x y : AV) : Option (Prop × Env × List AObj × AV) :=
 match x with
 | .sl v => match H[v]? with
   | some (.view s d) => match H[s]? with
     | some (.row true _) => appendE P pin E (promoteH H s v d) T (.sl v) y
     | _ => none
   | _ => none
 | _ => none
theorem appendV_run {πv : Pv} {E E' : Env} {a : Act} (hst : St N pin πv γ ρ E H a w) {T ty : TypeId} {x y v : AV} {q : Prop} {H' : List AObj} {ux uy : Value}
 (h : appendV P pin E H T x y = some (q, E', H', v)) (hq : q) (hx : rel ρ x ux) (hy : rel ρ y uy) :
 ∃ u w' γ' ρ', (Builtin.append_ #[T, T] ty #[ux, uy]).run P w = .ok u w' ∧ EnvOk ρ' E' a.tmps ∧ HeapOk γ' ρ' H' w' ∧ rel ρ' v u ∧ Fr γ w γ' w' ∧ ∀ o ∈ pin, ρ'[o]? = ρ[o]? := by
 unfold appendV at h
 split at h
 ·split at h
  ·rename_i hv
   split at h
   ·rename_i hs
    obtain ⟨γ1, h1, h2⟩ := hst.promote hs hv
    obtain ⟨u, w', γ', ρ', h3, h4, h5, h6, h7, h8⟩ := appendE_run (ty := ty) h1 h hq hx hy
    exact ⟨u, w', γ', ρ', h3, h4, h5, h6, h2.trans h7, h8⟩
   ·cases h
  ·cases h
 ·cases h
end Go.Av
