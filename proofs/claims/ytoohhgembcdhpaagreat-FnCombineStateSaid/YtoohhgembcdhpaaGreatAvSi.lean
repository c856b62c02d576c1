import Derived.Test.YtoohhgembcdhpaaGreatAvZ
import Derived.Shelf.SortM.Plain
import Derived.Shelf.SortM.SortNone
set_option linter.unusedSimpArgs false
set_option linter.unusedVariables false
namespace Go.Av
open Go Go.Proofs Go.Sort
def srtI (xs : List Int) : List Int := xs.mergeSort fun x y => decide (x ≤ y)
section
variable {P : Program} {ρ0 : Go.Shelf.Ren}
theorem sort_ints (L : SlLaysM.n5 P ρ0) {f : FuncId} (hf : ρ0.f 5 = f) (hE : Enters P f) (xs : List Int) (hlen : xs.length < 4611686018427387904) :
 FnA P f [.sl 0] [.row true (.ints .i64 xs)] [] (fun x H => x = .tup [] ∧ H = [.row true (.ints .i64 (srtI xs))]) := by
 subst hf
 refine ⟨hE, fun γ ρ us w hh hu => ?_⟩
 obtain ⟨u0, rfl⟩ : ∃ u0, us = [u0] := by
  have := hu.1
  match us, this with
  | [a], _ => exact ⟨a, rfl⟩
 have r0 : rel ρ (.sl 0) u0 := hu.2 0 _ _ rfl rfl
 have r0' : ρ[0]? = some u0 := r0.1
 obtain ⟨u, hρ, hrep⟩ := hh.obj 0 _ rfl
 have hu0 : u = u0 := by rw [hρ] at r0'; simpa using r0'
 subst hu0
 have hvoid : rel ρ (.tup []) (.tuple #[]) := ⟨[], rfl, rfl, fun j x u hx => by simp at hx⟩
 have hsl : (srtI xs).length = xs.length := by unfold srtI; exact List.length_mergeSort ..
 have hnone : xs = [] → ∀ p cap, u = .slice p 0 cap → Calls P (ρ0.f 5) [u].toArray w fun e w' => ∃ r x γ' ρ' H', e = .returned r ∧ (x = .tup [] ∧ H' = [.row true (.ints .i64 (srtI xs))]) ∧ rel ρ' x r ∧ HeapOk γ' ρ' H' w' ∧ Fr γ w γ' w' ∧ [AObj.row true (.ints .i64 xs)].length ≤ H'.length ∧
  ∀ o, o < [AObj.row true (.ints .i64 xs)].length → o ∉ [] → ρ'[o]? = ρ[o]? := by
  rintro rfl p cap rfl
  refine (AnyM.slices_Sort_int_none L p cap w).mono ?_
  rintro e w' ⟨rfl, rfl⟩
  exact ⟨_, .tup [], γ, ρ, [.row true (.ints .i64 [])], rfl, ⟨rfl, by simp [srtI]⟩, hvoid, hh, Fr.refl _ _, Nat.le_refl _, fun _ _ _ => rfl⟩
 rcases flat_inv rfl hrep rfl with ⟨a, hu', h0⟩ | ⟨b, off, cap, arr, e, hu', hS, hb, hcap, hmax, hsz, hv⟩
 ·exact hnone (List.eq_nil_of_length_eq_zero h0) _ _ hu'
 subst hu'
 simp only [if_true] at hS
 have hes : (Cont.ints .i64 xs).esz = 1 := rfl
 have hln : (Cont.ints .i64 xs).len = xs.length := rfl
 rw [hes] at hsz
 rw [hln] at hcap hv
 simp only [hes, Nat.mul_one] at hv hsz
 have hcellx : ∀ j, j < xs.length → arr[off + j]? = some (.int .i64 (xs.getD j 0)) := fun j hj => by
  have := hv j 0 (.int .i64 (xs.getD j 0)) hj (by simp [Cont.cell])
  simpa using this
 have hget : ∀ (l : List Int) (j : Nat), j < l.length → l.toArray[j]! = l.getD j 0 := fun l j hj => by
  rw [getElem!_pos l.toArray j (by simpa using hj), List.getD_eq_getElem?_getD, List.getElem?_eq_getElem hj]; simp
 have hH : Holds (Value.int .i64) w b off xs.toArray := by
  intro j hj
  have hj' : j < xs.length := by simpa using hj
  rw [hget xs j hj']
  exact ⟨by simp [World.cell?, hb, hcellx j hj'], by simp [World.frozen?, hb]⟩
 have hblk : b < w.heap.size := (Array.getElem?_eq_some_iff.1 hb).1
 refine (AnyM.slices_Sort_int L b off cap xs w hH hblk hlen).mono ?_
 rintro e' w' ⟨rfl, n, os, rfl⟩
 have hw : ∀ b', b' < w.heap.size → (Sort.grow (Sort.putRow (Value.int .i64) (Sort.ahead w n) b off (srtI xs).toArray) os).heap[b']? = if b' = b then some (.cells (Sort.putCells (Value.int .i64) off (srtI xs).toArray arr) e (0, 0)) else w.heap[b']? := by
  intro b' hb'
  show ((Array.modify w.heap b _) ++ os)[b']? = _
  rw [Array.getElem?_append, if_pos (by simpa using hb'), Array.getElem?_modify]
  by_cases hbb : b' = b
  ·subst hbb
   rw [if_pos rfl, if_pos rfl, hb]
   rfl
  ·rw [if_neg (Ne.symm hbb), if_neg hbb]
 have hpc : ∀ k, (Sort.putCells (Value.int .i64) off (srtI xs).toArray arr)[k]? = (arr[k]?).map fun x => if off ≤ k ∧ k < off + (srtI xs).toArray.size then Value.int .i64 ((srtI xs).toArray[k - off]!) else x := fun k => by
  unfold Sort.putCells
  rw [Array.getElem?_mapIdx]
 refine ⟨_, .tup [], γ, ρ, _, rfl, ⟨rfl, rfl⟩, hvoid, ?_, ⟨rfl, rfl, rfl, ?_, fun b' hb' hg' => ⟨?_, hg'⟩, ?_⟩, Nat.le_refl _, fun _ _ _ => rfl⟩
 ·refine hh.upd0 0 (by simp) (.row true (.ints .i64 (srtI xs))) (fun b' hb' hg' => ?_) ?_ ⟨_, hρ, ?_⟩
  ·exact (hw b' hb').trans (by rw [if_neg (fun h => by subst h; exact hg' hS)])
  ·show w.heap.size ≤ ((Array.modify w.heap b _) ++ os).size
   simp
  ·have hl2 : (Cont.ints .i64 (srtI xs)).len = xs.length := hsl
   have := flat_rep (own := true) (w := Sort.grow (Sort.putRow (Value.int .i64) (Sort.ahead w n) b off (srtI xs).toArray) os) (S := fun b => γ b = if true then some 0 else none) (c := .ints .i64 (srtI xs)) (b := b) (off := off) (cap := cap) rfl (by simpa using hS) (by rw [hw b hblk, if_pos rfl]) (by rw [hl2]; exact hcap) hmax (by show off + cap * 1 ≤ _; unfold Sort.putCells; simpa using hsz) ?_
   ·rw [hl2] at this; exact this
   ·intro i f x hi hx'
    rw [hl2] at hi
    simp only [Cont.cell] at hx'
    split at hx'
    ·rename_i hf0; subst hf0
     simp at hx'
     subst hx'
     show (Sort.putCells (Value.int .i64) off (srtI xs).toArray arr)[off + i * 1 + 0]? = _
     rw [Nat.mul_one, Nat.add_zero, hpc, hcellx i hi, Option.map_some, if_pos (by simp [hsl]; omega), Nat.add_sub_cancel_left, hget (srtI xs) i (by rw [hsl]; exact hi)]
     simp
    ·cases hx'
 ·show w.heap.size ≤ ((Array.modify w.heap b _) ++ os).size
  simp
 ·exact (hw b' hb').trans (by rw [if_neg (fun h => by subst h; rw [hS] at hg'; cases hg')])
 ·show w.drawn ≤ w.drawn + n
  omega
end
end Go.Av
