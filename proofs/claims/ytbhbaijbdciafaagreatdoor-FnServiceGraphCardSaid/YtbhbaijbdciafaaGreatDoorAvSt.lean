import Derived.Test.YtbhbaijbdciafaaGreatDoorAvGr
import Derived.Shelf.Strings.Cut
import Derived.Shelf.Strings.Split
set_option linter.unusedSimpArgs false
set_option linter.unusedVariables false
namespace Go.Av
open Go Go.Proofs
variable {P : Program} {ρ0 : Go.Shelf.Ren}
theorem glob_cell {γ : Nat → Option Nat} {ρ : List Value} {w : World} {o g : Nat} {m : Int} (h : has γ ρ w o (.glob g (.ints .i64 [m]))) : w.cell? ⟨g, 0, none⟩ = some (.int .i64 m) := by
 obtain ⟨_, arr, e, fz, hb, hc⟩ := h
 have := (hc 0 0 (.int .i64 m) (by simp [Cont.len]) (by simp [Cont.cell])).1
 simp [World.cell?, hb]
 simpa [Cont.esz] using this
def cutS (s sep : ByteArray) : ByteArray × ByteArray × Bool := (⟨(Lib.cut s.data.toList sep.data.toList).1.toArray⟩, ⟨(Lib.cut s.data.toList sep.data.toList).2.1.toArray⟩, (Lib.cut s.data.toList sep.data.toList).2.2)
theorem cut_str (L : Lays.n145 P ρ0) {f g : Nat} (hf : ρ0.f 145 = f) (hg : ρ0.g 1 = g) (hE : Enters P f) (s sep : ByteArray) (m : Int) (hs : s.size < 4294967281) :
 FnA P f [.v (.string s), .v (.string sep)] [.glob g (.ints .i64 [m])] [] (fun x H => x = .tup [.v (.string (cutS s sep).1), .v (.string (cutS s sep).2.1), .v (.bool (cutS s sep).2.2)] ∧ H = [.glob g (.ints .i64 [m])]) := by
 subst hf hg
 refine ⟨hE, fun γ ρ us w hh hu => ?_⟩
 obtain ⟨u0, u1, rfl⟩ : ∃ u0 u1, us = [u0, u1] := by
  have := hu.1
  match us, this with
  | [a, b], _ => exact ⟨a, b, rfl⟩
 have r0 : u0 = .string s := hu.2 0 _ _ rfl rfl
 have r1 : u1 = .string sep := hu.2 1 _ _ rfl rfl
 subst r0 r1
 refine (Any.strings_Cut L s sep m w hs (glob_cell (hh.obj 0 _ rfl))).mono ?_
 rintro e w' ⟨rfl, n, rfl⟩
 refine ⟨_, _, γ, ρ, _, rfl, ⟨rfl, rfl⟩, ⟨_, rfl, rfl, fun j x u hx hu => ?_⟩, hh.grow (fun _ _ => rfl) (Nat.le_refl _), Fr.drew γ w _ (Nat.le_add_right _ _), Nat.le_refl _, fun _ _ _ => rfl⟩
 match j, hx, hu with
 | 0, hx, hu => simp at hx hu; subst hx hu; rfl
 | 1, hx, hu => simp at hx hu; subst hx hu; rfl
 | 2, hx, hu => simp at hx hu; subst hx hu; rfl
 | _ + 3, hx, hu => simp at hx
def splS (s sep : ByteArray) : List ByteArray := Lib.splitB sep 0 (Lib.countB s sep) s
theorem spl_str (L : Lays.n146 P ρ0) (hi9 : (P.info? (ρ0.t 9)).map (fun i => (i.zero, i.size, i.bytes)) = some (some (.string ByteArray.empty), 1, 16)) {f g : Nat} (hf : ρ0.f 146 = f) (hg : ρ0.g 1 = g) (hE : Enters P f) (s sep : ByteArray) (m : Int) (hs : s.size < 4294967281) (h1 : 1 ≤ sep.size) :
 FnA P f [.v (.string s), .v (.string sep)] [.glob g (.ints .i64 [m])] [] (fun x H => x = .sl 1 ∧ H = [.glob g (.ints .i64 [m]), .row true (.strs (splS s sep))]) := by
 subst hf hg
 refine ⟨hE, fun γ ρ us w hh hu => ?_⟩
 obtain ⟨u0, u1, rfl⟩ : ∃ u0 u1, us = [u0, u1] := by
  have := hu.1
  match us, this with
  | [a, b], _ => exact ⟨a, b, rfl⟩
 have r0 : u0 = .string s := hu.2 0 _ _ rfl rfl
 have r1 : u1 = .string sep := hu.2 1 _ _ rfl rfl
 subst r0 r1
 refine (Any.strings_Split L hi9 s sep m w hs (glob_cell (hh.obj 0 _ rfl)) h1).mono ?_
 rintro e w' ⟨rfl, rfl⟩
 have hle := Lib.countB_le sep h1 s.size s (Nat.le_refl _)
 have hlen : (splS s sep).length = Lib.countB s sep + 1 := Lib.splitB_all sep h1 0 _ s rfl
 have hρ : ρ.length = 1 := hh.len
 have hcd : (Cont.strs (splS s sep)).len = Lib.countB s sep + 1 := hlen
 generalize hA : (List.map Value.string (Lib.splitB sep 0 (Lib.countB s sep) s)).toArray = A
 have hAs : A.size = Lib.countB s sep + 1 := by rw [← hA]; simp only [List.size_toArray, List.length_map]; exact hlen
 have hnew : (w.alloc (.cells A (ρ0.t 9))).heap[w.heap.size]? = some (.cells A (ρ0.t 9) (0, 0)) := heap_alloc_new w _
 have hrow : CRep true (w.alloc (.cells A (ρ0.t 9))) (fun b => own1 γ w.heap.size 1 b = if true then some 1 else none) (.sl (Cont.strs (splS s sep)).esz (Cont.strs (splS s sep)).rows) (.slice (some ⟨w.heap.size, 0, none⟩) (Cont.strs (splS s sep)).len (Lib.countB s sep + 1)) := by
  refine flat_rep rfl (by simp [own1]) hnew (by rw [hcd]; exact Nat.le_refl _) (by unfold maxLen; omega) (by rw [hAs]; simp [Cont.esz]) ?_
  intro i f x hi hx
  rw [hcd] at hi
  simp only [Cont.cell] at hx
  split at hx
  ·rename_i hf0; subst hf0
   simp at hx
   subst hx
   rw [← hA]
   have hi' : i < (Lib.splitB sep 0 (Lib.countB s sep) s).length := by
    have : (Lib.splitB sep 0 (Lib.countB s sep) s).length = Lib.countB s sep + 1 := hlen
    omega
   simp [Cont.esz, splS, List.getElem?_eq_getElem hi', List.getD_eq_getElem?_getD]
  ·cases hx
 rw [hcd] at hrow
 refine ⟨_, .sl 1, own1 γ w.heap.size 1, ρ ++ [.slice (some ⟨w.heap.size, 0, none⟩) (Lib.countB s sep + 1) (Lib.countB s sep + 1)], _, rfl, ⟨rfl, rfl⟩, ⟨by rw [List.getElem?_append_right (by omega), hρ]; rfl, rfl⟩, hh.alloc _ _ (.row true (.strs (splS s sep))) ⟨_, by rw [List.getElem?_append_right (by simp [hρ])]; simp [hρ], hrow⟩, Fr.alloc γ w _ _, by simp, fun o ho _ => ?_⟩
 rw [List.getElem?_append_left (by rw [hρ]; simpa using ho)]
end Go.Av
