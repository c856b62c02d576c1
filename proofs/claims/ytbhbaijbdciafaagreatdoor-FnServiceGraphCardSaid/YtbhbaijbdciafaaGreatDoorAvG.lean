import Derived.Test.YtbhbaijbdciafaaGreatDoorAvF
set_option linter.unusedSimpArgs false
set_option linter.unusedVariables false
namespace Go.Av
open Go
def Cont.flat : Cont → Bool
 | .ints .. | .bools _ | .strs _ | .pairs _ | .trips _ => true
 | _ => false
theorem Cont.flat_cell {c : Cont} (h : c.flat = true) {i f : Nat} (hi : i < c.len) (hf : f < c.esz) : ∃ x, c.cell i f = some x ∧ x.oneCell' = true := by
 cases c <;> simp only [Cont.flat, Bool.false_eq_true] at h <;> simp only [Cont.esz] at hf
 case ints => obtain rfl : f = 0 := by omega
              exact ⟨_, rfl, rfl⟩
 case bools => obtain rfl : f = 0 := by omega
               exact ⟨_, rfl, rfl⟩
 case strs => obtain rfl : f = 0 := by omega
              exact ⟨_, rfl, rfl⟩
 case pairs =>
  obtain rfl | rfl : f = 0 ∨ f = 1 := by omega
  ·exact ⟨_, rfl, rfl⟩
  ·exact ⟨_, rfl, rfl⟩
 case trips =>
  obtain rfl | rfl | rfl : f = 0 ∨ f = 1 ∨ f = 2 := by omega
  ·exact ⟨_, rfl, rfl⟩
  ·exact ⟨_, rfl, rfl⟩
  ·exact ⟨_, rfl, rfl⟩
theorem Cont.flat_row {c : Cont} (h : c.flat = true) : ∀ r ∈ c.rows, r.length = c.esz := by
 intro r hr
 cases c <;> simp only [Cont.flat, Bool.false_eq_true] at h <;> simp only [Cont.rows, List.mem_map] at hr <;> (obtain ⟨_, _, rfl⟩ := hr; rfl)
theorem Cont.flat_rows {c : Cont} (h : c.flat = true) {i f : Nat} {row : List CV} {cc : CV} (hr : c.rows[i]? = some row) (hf : row[f]? = some cc) :
 i < c.len ∧ f < c.esz ∧ ∃ x, c.cell i f = some x ∧ cc = .v x := by
 have hi : i < c.len := by rw [← Cont.len_rows]; exact (List.getElem?_eq_some_iff.1 hr).1
 have hf' : f < c.esz := by rw [← Cont.flat_row h row (List.mem_of_getElem? hr)]; exact (List.getElem?_eq_some_iff.1 hf).1
 refine ⟨hi, hf', ?_⟩
 obtain ⟨x, hx, _⟩ := Cont.flat_cell h hi hf'
 obtain ⟨row', h1, h2⟩ := Cont.cell_rows hx hi
 rw [hr] at h1
 simp at h1
 subst h1
 rw [hf] at h2
 simp at h2
 exact ⟨x, hx, h2⟩
theorem flat_rep {own : Bool} {w : World} {S : Nat → Prop} {c : Cont} {b off cap : Nat} {arr : Array Value} {e : TypeId} (hfl : c.flat = true) (hS : S b) (hb : w.heap[b]? = some (.cells arr e (0, 0)))
 (hcap : c.len ≤ cap) (hmax : cap ≤ maxLen) (hsz : off + cap * c.esz ≤ arr.size) (hv : ∀ i f x, i < c.len → c.cell i f = some x → arr[off + i * c.esz + f]? = some x) :
 CRep own w S (.sl c.esz c.rows) (.slice (some ⟨b, off, none⟩) c.len cap) := by
 refine .row S c.esz c.rows b off cap arr e (0, 0) c.len (fun i f => (c.cell i f).getD undef) (fun _ => (0, 0)) hS hb (fun _ => rfl) (Cont.len_rows c).symm hcap hmax hsz (Cont.flat_row hfl) ?_ ?_
 ·intro i f hi hf
  rw [Cont.len_rows] at hi
  obtain ⟨x, hx, _⟩ := Cont.flat_cell hfl hi hf
  rw [hv i f x hi hx, hx]
  rfl
 ·intro i f row cc h1 h2
  obtain ⟨hi, hf, x, hx, rfl⟩ := Cont.flat_rows hfl h1 h2
  obtain ⟨y, hy, hone⟩ := Cont.flat_cell hfl hi hf
  rw [hx] at hy
  simp at hy
  subst hy
  rw [hx]
  exact .v _ _ hone
theorem flat_inv {own : Bool} {w : World} {S : Nat → Prop} {c : Cont} {u : Value} (hfl : c.flat = true) (h : CRep own w S (.sl c.esz c.rows) u) (ho : own = true) :
 (∃ a, u = .slice a 0 0 ∧ c.len = 0) ∨
 ∃ b off cap arr e, u = .slice (some ⟨b, off, none⟩) c.len cap ∧ S b ∧ w.heap[b]? = some (.cells arr e (0, 0)) ∧ c.len ≤ cap ∧ cap ≤ maxLen ∧ off + cap * c.esz ≤ arr.size ∧
  ∀ i f x, i < c.len → c.cell i f = some x → arr[off + i * c.esz + f]? = some x := by
 generalize hr : c.rows = rows at h
 generalize he : c.esz = esz at h
 cases h with
 | nil => left; exact ⟨_, rfl, by rw [← Cont.len_rows, hr]; rfl⟩
 | ronil _ _ _ _ h => rw [ho] at h; cases h
 | row S esz rows b off cap arr e fz n vals lab hS hb hfz hn hcap hmax hsz hrow hval hrep =>
   right
   subst hr he
   have hz := hfz ho
   subst hz
   rw [Cont.len_rows] at hn
   subst hn
   refine ⟨b, off, cap, arr, e, rfl, hS, hb, hcap, hmax, hsz, fun i f x hi hx => ?_⟩
   obtain ⟨row, h1, h2⟩ := Cont.cell_rows hx hi
   have hf : f < c.esz := by rw [← Cont.flat_row hfl row (List.mem_of_getElem? h1)]; exact (List.getElem?_eq_some_iff.1 h2).1
   rw [hval i f (by rw [Cont.len_rows]; exact hi) hf]
   have := hrep i f row _ h1 h2
   cases this
   rfl
variable {P : Program} {N : Nat} {pin : List Nat} {γ : Nat → Option Nat} {ρ : List Value} {H : List AObj} {w : World}
def own1 (γ : Nat → Option Nat) (b o : Nat) : Nat → Option Nat := fun x => if x = b then some o else γ x
theorem heap_alloc (w : World) (ob : Obj) (b : Nat) (hb : b < w.heap.size) : (w.alloc ob).heap[b]? = w.heap[b]? := heap_alloc_old w ob hb
theorem heap_alloc_size (w : World) (ob : Obj) : (w.alloc ob).heap.size = w.heap.size + 1 := by simp
theorem HeapOk.alloc (h : HeapOk γ ρ H w) (ob : Obj) (u : Value) (x : AObj) (hx : has (own1 γ w.heap.size H.length) (ρ ++ [u]) (w.alloc ob) H.length x) :
 HeapOk (own1 γ w.heap.size H.length) (ρ ++ [u]) (H ++ [x]) (w.alloc ob) := by
 refine h.push u x (fun b hb => ⟨heap_alloc w ob b hb, by simp [own1]; omega⟩) (by simp [heap_alloc_size]) (fun b o hb hg => ?_) hx
 simp only [own1] at hg
 split at hg
 ·simp at hg; subst hg; exact ⟨rfl, by simp [heap_alloc_size]; omega⟩
 ·have := (h.lab b o hg).2; omega
theorem Fr.alloc (γ : Nat → Option Nat) (w : World) (ob : Obj) (n : Nat) : Fr γ w (own1 γ w.heap.size n) (w.alloc ob) :=
 ⟨rfl, rfl, rfl, by simp [heap_alloc_size], fun b hb hg => ⟨heap_alloc w ob b hb, by simp [own1]; rw [if_neg (by omega)]; exact hg⟩, Nat.le_refl _⟩
theorem HeapOk.box (h : HeapOk γ ρ H w) (cs : List Value) (l : List AV) (e : TypeId) (hl : Rel1s ρ l cs) :
 HeapOk (own1 γ w.heap.size H.length) (ρ ++ [.pointer (some ⟨w.heap.size, 0, none⟩)]) (H ++ [.box l]) (w.alloc (.cells cs.toArray e)) := by
 refine h.alloc _ _ _ ⟨w.heap.size, cs.toArray, e, ?_, by simp [own1], heap_alloc_new w _, ?_⟩
 ·rw [← h.len]; simp
 ·simpa using hl.ext _
theorem HeapOk.row (h : HeapOk γ ρ H w) (c : Cont) (arr : Array Value) (e : TypeId) (cap : Nat) (hfl : c.flat = true) (hcap : c.len ≤ cap) (hmax : cap ≤ maxLen) (hsz : cap * c.esz ≤ arr.size)
 (hv : ∀ i f x, i < c.len → c.cell i f = some x → arr[i * c.esz + f]? = some x) :
 HeapOk (own1 γ w.heap.size H.length) (ρ ++ [.slice (some ⟨w.heap.size, 0, none⟩) c.len cap]) (H ++ [.row true c]) (w.alloc (.cells arr e)) := by
 refine h.alloc _ _ _ ⟨.slice (some ⟨w.heap.size, 0, none⟩) c.len cap, ?_, ?_⟩
 ·rw [← h.len]; simp
 ·exact flat_rep hfl (by simp [own1]) (heap_alloc_new w _) hcap hmax (by simpa using hsz) (fun i f x hi hx => by simpa using hv i f x hi hx)
theorem HeapOk.nilrow (h : HeapOk γ ρ H w) (c : Cont) (hc : c.rows = []) (a : Option Addr) : HeapOk γ (ρ ++ [.slice a 0 0]) (H ++ [.row true c]) w := by
 refine h.push _ _ (fun b _ => ⟨rfl, rfl⟩) (Nat.le_refl _) (fun b o hb hg => ?_) ⟨_, by rw [← h.len]; simp; rfl, ?_⟩
 ·have := (h.lab b o hg).2; omega
 ·rw [hc]; exact .nil _ _ _
end Go.Av
