import Derived.Test.YtoohhgembcdhpaaGreatAvZ
import Derived.Shelf.SlSortCmp.NoneTotal
set_option linter.unusedSimpArgs false
set_option linter.unusedVariables false
namespace Go.Av
open Go Go.Proofs Go.Sort
theorem grow_of {w w' : World} (h : Grow w w') : ∃ q os, w' = Sort.grow (w.drewN q) os := by
 refine ⟨w'.drawn - w.drawn, w'.heap.extract w.heap.size w'.heap.size, ?_⟩
 obtain ⟨h1, h2, h3, h4, h5, h6⟩ := h
 have hh : w'.heap = w.heap ++ w'.heap.extract w.heap.size w'.heap.size := by
  apply Array.ext_getElem?
  intro i
  rw [Array.getElem?_append]
  by_cases hi : i < w.heap.size
  ·rw [if_pos hi, h5 i hi]
  ·rw [if_neg hi, Array.getElem?_extract]
   by_cases h7 : i < w'.heap.size
   ·rw [if_pos (by omega), show w.heap.size + (i - w.heap.size) = i by omega]
   ·rw [if_neg (by omega), Array.getElem?_eq_none (by omega)]
 have hd : w'.drawn = w.drawn + (w'.drawn - w.drawn) := by omega
 cases w
 cases w'
 simp only [Sort.grow, World.drewN] at *
 subst h1 h2 h3
 congr
def encT (x : Int × Int × Int) : List Value := [.int .i64 x.1, .int .i64 x.2.1, .int .i64 x.2.2]
def srtT (cf : Int × Int × Int → Int × Int × Int → Int) (xs : List (Int × Int × Int)) : List (Int × Int × Int) :=
 if xs = [] then [] else (Sort.pdq (ltOf cf) xs.toArray 0 xs.toArray.size (Lib.bitLen xs.toArray.size) true true).toList
theorem srtT_all {cf : Int × Int × Int → Int × Int × Int → Int} (hO : Sort.SWO (ltOf cf)) (xs : List (Int × Int × Int)) : (srtT cf xs).Perm xs ∧ (srtT cf xs).Pairwise fun x y => ¬ cf y x < 0 := by
 unfold srtT
 split
 ·rename_i h; subst h; exact ⟨.refl _, .nil⟩
 have h := Sort.pdq_sorts (ltOf cf) hO xs.toArray 0 xs.toArray.size (Lib.bitLen xs.toArray.size) true true (Nat.zero_le _) (Nat.le_refl _) (Or.inl rfl)
 generalize Sort.pdq (ltOf cf) xs.toArray 0 xs.toArray.size (Lib.bitLen xs.toArray.size) true true = D at h
 obtain ⟨⟨h1, h2, h3⟩, h4⟩ := h
 have e1 : D.extract 0 xs.toArray.size = D := by rw [← h1]; simp
 have e2 : xs.toArray.extract 0 xs.toArray.size = xs.toArray := by simp
 rw [e1, e2] at h3
 refine ⟨h3, ?_⟩
 rw [List.pairwise_iff_getElem]
 intro i j hi hj hij
 have h5 := h4 i j (Nat.zero_le _) hij (by rw [← h1]; simpa using hj)
 simp only [ltOf, decide_eq_false_iff_not] at h5
 rw [getElem!_pos D i (by simpa using hi), getElem!_pos D j (by simpa using hj)] at h5
 simpa using h5
theorem cellT {xs : List (Int × Int × Int)} {i f : Nat} (hi : i < xs.length) (hf : f < 3) : (Cont.trips xs).cell i f = some ((encT (xs.toArray[i]!))[f]!) := by
 have e : xs.toArray[i]! = xs.getD i (0, 0, 0) := by
  rw [getElem!_pos xs.toArray i (by simpa using hi), List.getD_eq_getElem?_getD, List.getElem?_eq_getElem hi]; simp
 rw [e]
 have h3 : f = 0 ∨ f = 1 ∨ f = 2 := by omega
 rcases h3 with rfl | rfl | rfl <;> rfl
theorem put_get {off : Nat} {F c : Array Value} {k : Nat} : (Sort.putCells id off F c)[k]? = (c[k]?).map fun x => if off ≤ k ∧ k < off + F.size then F[k - off]! else x := by
 unfold Sort.putCells
 rw [Array.getElem?_mapIdx]
 rfl
section
variable {P : Program} {ρ0 : Go.Shelf.Ren}
theorem sortFunc_trips (L : SlLaysF0.n6 P ρ0) (aE : ∀ w, (isAgg (ρ0.t 24)).run P w = .ok true w) (zE : ∀ w, (Go.sizeOf (ρ0.t 24)).run P w = .ok 3 w) (cf : Int × Int × Int → Int × Int × Int → Int) (hO : Sort.SWO (ltOf cf))
 {f g : FuncId} (hf : ρ0.f 6 = f) (hE : Enters P f) (hg : Enters P g) (hc : ∀ x y W, Calls P g #[.agg (encT x).toArray, .agg (encT y).toArray] W fun e w' => e = .returned (.int .i64 (cf x y)) ∧ Grow W w') (xs : List (Int × Int × Int)) (hlen : xs.length < 4611686018427387904) :
 FnA P f [.sl 0, .v (.func (.func g) #[] #[])] [.row true (.trips xs)] [] (fun x H => x = .tup [] ∧ H = [.row true (.trips (srtT cf xs))]) := by
 subst hf
 refine ⟨hE, fun γ ρ us w hh hu => ?_⟩
 obtain ⟨u0, u1, rfl⟩ : ∃ u0 u1, us = [u0, u1] := by
  have := hu.1
  match us, this with
  | [a, b], _ => exact ⟨a, b, rfl⟩
 have r0 : rel ρ (.sl 0) u0 := hu.2 0 _ _ rfl rfl
 have r1 : rel ρ (.v (.func (.func g) #[] #[])) u1 := hu.2 1 _ _ rfl rfl
 have r1' : u1 = .func (.func g) #[] #[] := r1
 subst r1'
 have r0' : ρ[0]? = some u0 := r0.1
 obtain ⟨u, hρ, hrep⟩ := hh.obj 0 _ rfl
 have hu0 : u = u0 := by rw [hρ] at r0'; simpa using r0'
 subst hu0
 have hvoid : rel ρ (.tup []) (.tuple #[]) := ⟨[], rfl, rfl, fun j x u hx => by simp at hx⟩
 have hnone : xs = [] → ∀ p cap, u = .slice p 0 cap → Calls P (ρ0.f 6) [u, .func (.func g) #[] #[]].toArray w fun e w' => ∃ r x γ' ρ' H', e = .returned r ∧ (x = .tup [] ∧ H' = [.row true (.trips (srtT cf xs))]) ∧ rel ρ' x r ∧ HeapOk γ' ρ' H' w' ∧ Fr γ w γ' w' ∧ [AObj.row true (.trips xs)].length ≤ H'.length ∧
  ∀ o, o < [AObj.row true (.trips xs)].length → o ∉ [] → ρ'[o]? = ρ[o]? := by
  rintro rfl p cap rfl
  refine (AnyF.slices_SortFunc_none L p cap (.func (.func g) #[] #[]) w).mono ?_
  rintro e w' ⟨rfl, rfl⟩
  exact ⟨_, .tup [], γ, ρ, [.row true (.trips [])], rfl, ⟨rfl, rfl⟩, hvoid, hh, Fr.refl _ _, Nat.le_refl _, fun _ _ _ => rfl⟩
 rcases flat_inv rfl hrep rfl with ⟨a, hu', h0⟩ | ⟨b, off, cap, arr, e, hu', hS, hb, hcap, hmax, hsz, hv⟩
 ·exact hnone (List.eq_nil_of_length_eq_zero h0) _ _ hu'
 by_cases hx : xs = []
 ·subst hx; exact hnone rfl _ _ hu'
 subst hu'
 simp only [if_true] at hS
 have hes : (Cont.trips xs).esz = 3 := rfl
 have hln : (Cont.trips xs).len = xs.length := rfl
 rw [hes] at hsz
 rw [hln] at hcap hv
 simp only [hes] at hv
 have hsz4 : xs.toArray.size < 4611686018427387904 := by simpa using hlen
 have hH : HoldsK encT 3 w b off xs.toArray := by
  intro j hj
  rw [size_flatK] at hj
  simp only [List.size_toArray] at hj
  rw [get_flatK _ _ _ _ (by simpa using hj)]
  have h1 := hv (j / 3) (j % 3) _ (by omega) (cellT (by omega) (Nat.mod_lt _ (by omega)))
  rw [show off + j / 3 * 3 + j % 3 = off + j by omega] at h1
  exact ⟨by simp [World.cell?, hb, h1], by simp [World.frozen?, hb]⟩
 have hone : ∀ x, ∀ v ∈ encT x, v.oneCell' = true := fun x v hv => by
  simp only [encT, List.mem_cons, List.not_mem_nil, or_false] at hv
  rcases hv with rfl | rfl | rfl <;> rfl
 refine (AnyQ.slices_SortFunc_eq L 3 aE zE encT (fun _ => rfl) hone cf hO g #[] b off cap xs.toArray w (hg) (fun m os dk _ x y => (hc x y _).mono fun e w' ⟨h1, h2⟩ => ⟨h1, grow_of h2⟩) hH (Array.getElem?_eq_some_iff.1 hb).1 hsz4).mono ?_
 rintro e' w' ⟨rfl, n, os, rfl⟩
 have hD := Sort.pdq_sorts (ltOf cf) hO xs.toArray 0 xs.toArray.size (Lib.bitLen xs.toArray.size) true true (Nat.zero_le _) (Nat.le_refl _) (Or.inl rfl)
 have hsrt : srtT cf xs = (Sort.pdq (ltOf cf) xs.toArray 0 xs.toArray.size (Lib.bitLen xs.toArray.size) true true).toList := by unfold srtT; rw [if_neg hx]
 generalize Sort.pdq (ltOf cf) xs.toArray 0 xs.toArray.size (Lib.bitLen xs.toArray.size) true true = D at hD hsrt ⊢
 have hDs : D.size = xs.length := by have := hD.1.1; simpa using this
 have hFs : (flatK encT 3 D).size = xs.length * 3 := by rw [size_flatK, hDs]
 have hblk : b < w.heap.size := (Array.getElem?_eq_some_iff.1 hb).1
 have hw : ∀ b', b' < w.heap.size → (sortWorldK encT 3 w b off n D os).heap[b']? = if b' = b then some (.cells (Sort.putCells id off (flatK encT 3 D) arr) e (0, 0)) else w.heap[b']? := by
  intro b' hb'
  show ((Array.modify w.heap b _) ++ os)[b']? = _
  rw [Array.getElem?_append, if_pos (by simpa using hb'), Array.getElem?_modify]
  by_cases hbb : b' = b
  ·subst hbb
   rw [if_pos rfl, if_pos rfl, hb]
   rfl
  ·rw [if_neg (Ne.symm hbb), if_neg hbb]
 refine ⟨_, .tup [], γ, ρ, _, rfl, ⟨rfl, rfl⟩, hvoid, ?_, ⟨rfl, rfl, rfl, ?_, fun b' hb' hg' => ⟨?_, hg'⟩, ?_⟩, Nat.le_refl _, fun _ _ _ => rfl⟩
 ·refine hh.upd0 0 (by simp) (.row true (.trips (srtT cf xs))) (fun b' hb' hg' => ?_) ?_ ⟨_, hρ, ?_⟩
  ·rw [hw b' hb', if_neg (fun h => by subst h; exact hg' hS)]
  ·show w.heap.size ≤ ((Array.modify w.heap b _) ++ os).size
   simp
  ·rw [hsrt]
   have hl2 : (Cont.trips D.toList).len = xs.length := by simp [Cont.len, hDs]
   have := flat_rep (own := true) (w := sortWorldK encT 3 w b off n D os) (S := fun b => γ b = if true then some 0 else none) (c := .trips D.toList) (b := b) (off := off) (cap := cap) rfl (by simpa using hS) (by rw [hw b hblk, if_pos rfl]) (by rw [hl2]; exact hcap) hmax (by show off + cap * 3 ≤ _; unfold Sort.putCells; simpa using hsz) ?_
   ·rw [hl2] at this; exact this
   ·intro i f x hi hx'
    rw [hl2] at hi
    have hf3 : f < 3 := by
     simp only [Cont.cell] at hx'
     by_cases h0 : f = 0
     ·omega
     by_cases h1 : f = 1
     ·omega
     by_cases h2 : f = 2
     ·omega
     ·rw [if_neg h0, if_neg h1, if_neg h2] at hx'; cases hx'
    rw [cellT (by simpa [hDs] using hi) hf3] at hx'
    show (Sort.putCells id off (flatK encT 3 D) arr)[off + i * 3 + f]? = some x
    rw [put_get, hFs]
    have hin : off + i * 3 + f < arr.size := by
     have : i * 3 + 3 ≤ cap * 3 := by omega
     omega
    rw [Array.getElem?_eq_getElem hin, Option.map_some, if_pos (by omega), show off + i * 3 + f - off = i * 3 + f by omega, get_flatK _ _ _ _ (by rw [hDs]; omega), show (i * 3 + f) / 3 = i by omega, show (i * 3 + f) % 3 = f by omega]
    simpa using hx'
 ·show w.heap.size ≤ ((Array.modify w.heap b _) ++ os).size
  simp
 ·rw [hw b' hb', if_neg (fun h => by subst h; rw [hS] at hg'; cases hg')]
 ·show w.drawn ≤ w.drawn + n
  omega
end
end Go.Av
