import Derived.Test.YteoedigfnfjopaaGreatAvZ
import Derived.Shelf.Spec.SlicesGrow
set_option linter.unusedSimpArgs false
set_option linter.unusedVariables false
namespace Go.Av
open Go Go.Proofs
theorem grow_nil {P : Program} {ρ0 : Go.Shelf.Ren} (L : Lays8.n4 P ρ0) {f : FuncId} (hf : ρ0.f 4 = f) (hE : Enters P f) (i0 : TypeInfo) (hi0 : P.info? (ρ0.t 25) = some i0) (hz0 : i0.zero = some (.int .i64 0)) (hs : i0.size = 1) (hb : i0.bytes = 8)
 (n : Int) (h0 : 0 ≤ n) (hn : n * 8 ≤ 140737488355328) : FnA P f [.v (.slice none 0 0), .v (.int .i64 n)] [] [] (fun x H => x = .sl 0 ∧ H = [.row true (.ints .i64 [])]) := by
 subst hf
 obtain ⟨k, rfl⟩ := Int.eq_ofNat_of_zero_le h0
 refine ⟨hE, fun γ ρ us w hh hu => ?_⟩
 obtain ⟨u0, u1, rfl⟩ : ∃ u0 u1, us = [u0, u1] := by
  have := hu.1
  match us, this with
  | [a, b], _ => exact ⟨a, b, rfl⟩
 have r0 : u0 = .slice none 0 0 := hu.2 0 _ _ rfl rfl
 have r1 : u1 = .int .i64 (k : Int) := hu.2 1 _ _ rfl rfl
 subst r0 r1
 have hg : ∀ b, γ b = none := fun b => by
  cases hx : γ b with
  | none => rfl
  | some o => exact absurd (hh.lab b o hx).1 (by simp)
 have hρ : ρ = [] := List.eq_nil_of_length_eq_zero hh.len
 subst hρ
 by_cases hk : k = 0
 ·subst hk
  refine (Any8.slices_Grow_room L none 0 0 0 w (Nat.le_refl _) (by omega) (by omega) (by omega)).mono ?_
  rintro e w' ⟨rfl, rfl⟩
  refine ⟨_, .sl 0, γ, [.slice none 0 0], _, rfl, ⟨rfl, rfl⟩, ⟨rfl, rfl⟩, ⟨rfl, fun o ob ho => ?_, fun b o hb => by rw [hg b] at hb; cases hb⟩, Fr.refl _ _, by simp, fun o ho => by simp at ho⟩
  match o, ho with
  | 0, ho => simp at ho; subst ho; exact ⟨_, rfl, .nil _ _ _⟩
  | o + 1, ho => simp at ho
 ·refine (Any8.slices_Grow_grow L i0 (.int .i64 0) hi0 hz0 (by omega) none 0 0 k [] w (Nat.le_refl _) (by omega) (by rw [hb]; omega) (by omega) (by simp) (fun _ => rfl) (fun a ha => by cases ha)).mono ?_
  rintro e w' ⟨rfl, rfl⟩
  generalize hG : grownCap w (0 + k) 0 (ρ0.t 25) = G
  have hGn : 0 + k ≤ G := by rw [← hG]; exact grownCap_ge w _ _ _
  have hGm : G ≤ maxLen := by rw [← hG]; exact grownCap_le_maxLen w (0 + k) 0 (ρ0.t 25) (by unfold maxLen; omega)
  generalize hA : (([] : List Value).toArray ++ Builtin.zeroCells (Value.int .i64 0).cells (0 + k - 0) ++ Builtin.zeroCells (Value.int .i64 0).cells (G - (0 + k))) = A
  have hAs : A.size = G := by
   have hz : ∀ m, (Builtin.zeroCells (Value.int .i64 0).cells m).size = m := fun m => by simp [Builtin.zeroCells, Value.cells]
   rw [← hA]; simp [hz]; omega
  let γ' : Nat → Option Nat := fun b => if b = w.heap.size then some 0 else none
  have hnew : (w.drew.alloc (.cells A (ρ0.t 25))).heap[w.heap.size]? = some (.cells A (ρ0.t 25) (0, 0)) := heap_alloc_new w.drew _
  refine ⟨_, .sl 0, γ', [.slice (some ⟨w.heap.size, 0, none⟩) 0 G], _, rfl, ⟨rfl, rfl⟩, ⟨rfl, rfl⟩, ⟨rfl, fun o ob ho => ?_, fun b o hb => ?_⟩, ⟨rfl, rfl, rfl, by simp, fun b hb _ => ⟨heap_alloc_old w.drew _ hb, ?_⟩, Nat.le_succ _⟩, by simp, fun o ho => by simp at ho⟩
  ·match o, ho with
   | 0, ho =>
     simp at ho; subst ho
     refine ⟨_, rfl, .row _ 1 [] w.heap.size 0 G A (ρ0.t 25) (0, 0) 0 (fun _ _ => undef) (fun _ => (0, 0)) (by simp [γ']) hnew (fun _ => rfl) rfl (Nat.zero_le _) hGm (by omega) (by simp) (fun i f hi => by simp at hi) (fun i f row c h1 => by simp at h1)⟩
   | o + 1, ho => simp at ho
  ·simp only [γ'] at hb
   split at hb
   ·rename_i h; cases hb; subst h; exact ⟨by simp, by simp⟩
   ·cases hb
  ·simp only [γ']; rw [if_neg (by omega)]
end Go.Av
