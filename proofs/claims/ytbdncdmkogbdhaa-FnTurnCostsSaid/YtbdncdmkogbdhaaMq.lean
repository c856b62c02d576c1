/- Longest ways. -/
import Derived.Test.YtbdncdmkogbdhaaMl
import Derived.Test.YtbdncdmkogbdhaaMp
set_option linter.unusedSimpArgs false
set_option linter.unusedVariables false
namespace Go.Proofs.Ytbdncdmkogbdhaa
open Go Go.Av
attribute [local go_sem] gives_chk gives_ite gives_some gives_bind gives_join Sum.elim_inl Sum.elim_inr decide_eq_true_eq decide_eq_false_iff_not Bool.not_eq_true' Bool.not_eq_false' Bool.or_eq_true Bool.and_eq_true Bool.not_eq_eq_eq_not beq_iff_eq bne_iff_ne ne_eq Bool.or_eq_false_iff Bool.and_eq_false_iff Bool.not_eq_true Bool.not_eq_false Bool.not_true Bool.not_false Int.toNat_natCast beq_eq_false_iff_ne bne_eq_false_iff_eq Decidable.not_not Bool.default_bool

/-- The edges among the first k that lead away from v. -/
def outs (es : List (Int × Int × Int)) (k : Nat) (v : Int) : List (Int × Int × Int) := (es.take k).filter fun e => decide (e.1 = v)
theorem outs_succ {es : List (Int × Int × Int)} {k : Nat} {v : Int} (h : k < es.length) : outs es (k + 1) v = if (es.getD k (0, 0, 0)).1 = v then outs es k v ++ [es.getD k (0, 0, 0)] else outs es k v := by
  have hk : es.getD k (0, 0, 0) = es[k] := by simp [List.getD_eq_getElem?_getD, h]
  unfold outs
  rw [List.take_succ_eq_append_getElem h, List.filter_append, hk]
  split
  · rename_i hc; simp [hc]
  · rename_i hc; simp [hc]
theorem outs_len (es : List (Int × Int × Int)) (k : Nat) (v : Int) : (outs es k v).length ≤ k := by
  have h1 := List.length_filter_le (fun e : Int × Int × Int => decide (e.1 = v)) (es.take k)
  have h2 := List.length_take_le k es
  unfold outs; omega
theorem outs_mem {es : List (Int × Int × Int)} {v : Int} {e : Int × Int × Int} : e ∈ outs es es.length v ↔ e.1 = v ∧ ∃ k, k < es.length ∧ e = es.getD k (0, 0, 0) := by
  unfold outs
  rw [List.take_length, List.mem_filter, decide_eq_true_eq, and_comm]
  refine and_congr_right fun _ => ⟨fun h => ?_, fun ⟨k, hk, he⟩ => ?_⟩
  · obtain ⟨k, hk, he⟩ := List.mem_iff_getElem.1 h
    exact ⟨k, hk, by rw [List.getD_eq_getElem?_getD, List.getElem?_eq_getElem hk, Option.getD_some, he]⟩
  · rw [he, List.getD_eq_getElem?_getD, List.getElem?_eq_getElem hk, Option.getD_some]
    exact List.getElem_mem hk
def Bd (B : Int) (ss : List Int) : Prop := ∀ i, 0 ≤ ss.getD i 0 ∧ ss.getD i 0 ≤ B
theorem Bd.mono {B C : Int} {ss : List Int} (hb : Bd B ss) (h : B ≤ C) : Bd C ss := fun i => by have := hb i; omega
/-- The program's lists. -/
theorem impl_lists {n : Int} {es : List (Int × Int × Int)} (hg : GOk n es) : impl_Graph_lists n es = some (mks (fun v => outs es es.length (v : Int)) n.toNat) := by
  have h0 := hg.1
  have h16 := hg.2.1
  have h40 := hg.2.2.1
  unfold impl_Graph_lists
  rw [chk_pos (by omega)]
  have key : loop (impl_Graph_lists_b0 es) (0, List.replicate n.toNat []) = some (mks (fun v => outs es es.length (v : Int)) n.toNat) := by
    refine gives_eq.1 (loop_to (fun j : Nat => ((j : Int), mks (fun v => outs es j (v : Int)) n.toNat)) (fun j => j ≤ es.length) (fun j => es.length - j) 0 ?_ (Nat.zero_le _) ?_)
    · simp only [Prod.mk.injEq, mks]
      refine ⟨rfl, List.ext_getElem (by simp) fun i h1 h2 => by simp [outs]⟩
    · intro j hj
      have hml := mks_len (fun v : Nat => outs es j (v : Int)) n.toNat
      simp only [impl_Graph_lists_b0, go_sem]
      refine ⟨fun hc => ?_, fun hc => by rw [show j = es.length from by omega]⟩
      have hE := gok_len hg (k := j) (by omega)
      simp only [EOk] at hE
      have hgt : (mks (fun v : Nat => outs es j (v : Int)) n.toNat).getD (es.getD j (0, 0, 0)).1.toNat [] = outs es j (es.getD j (0, 0, 0)).1 := by
        rw [mks_get (by omega), show (((es.getD j (0, 0, 0)).1.toNat : Nat) : Int) = (es.getD j (0, 0, 0)).1 from by omega]
      have hol := outs_len es j (es.getD j (0, 0, 0)).1
      rw [hgt]
      refine ⟨by omega, by omega, by omega, by omega, by omega, j + 1, by omega, by omega, ?_⟩
      simp only [Prod.mk.injEq, Int.natCast_add, Int.natCast_one, true_and]
      refine List.ext_getElem (by simp [mks_len]) fun i h1 h2 => ?_
      rw [mks_len] at h2
      have hs := outs_succ (es := es) (k := j) (v := (i : Int)) (by omega)
      rw [List.getElem_set]
      simp only [mks, List.getElem_map, List.getElem_range]
      rw [hs]
      split
      · rename_i he
        subst he
        rw [if_pos (by omega), show (((es.getD j (0, 0, 0)).1.toNat : Nat) : Int) = (es.getD j (0, 0, 0)).1 from by omega]
      · rename_i he
        rw [if_neg (by omega)]
  rw [key]
  rfl
end Go.Proofs.Ytbdncdmkogbdhaa
