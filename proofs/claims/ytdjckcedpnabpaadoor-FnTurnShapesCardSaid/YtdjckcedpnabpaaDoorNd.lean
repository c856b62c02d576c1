/- Ways of edges, and hops. -/
import Derived.Test.YtdjckcedpnabpaaDoorMr
import Derived.Test.YtdjckcedpnabpaaDoorNb
set_option linter.unusedSimpArgs false
set_option linter.unusedVariables false
namespace Go.Proofs.YtdjckcedpnabpaaDoor
open Go Go.Av
attribute [local go_sem] gives_chk gives_ite gives_some gives_bind gives_join Sum.elim_inl Sum.elim_inr decide_eq_true_eq decide_eq_false_iff_not Bool.not_eq_true' Bool.not_eq_false' Bool.or_eq_true Bool.and_eq_true Bool.not_eq_eq_eq_not beq_iff_eq bne_iff_ne ne_eq Bool.or_eq_false_iff Bool.and_eq_false_iff Bool.not_eq_true Bool.not_eq_false Bool.not_true Bool.not_false Int.toNat_natCast beq_eq_false_iff_ne bne_eq_false_iff_eq Decidable.not_not Bool.default_bool

/-- A way of k steps. -/
def Wk (R : Nat → Nat → Prop) : Nat → Nat → Nat → Prop
  | 0, a, b => a = b
  | k + 1, a, b => ∃ c, Wk R k a c ∧ R c b
/-- The least number of steps, -1 for none. -/
def HopV (R : Nat → Nat → Prop) (s v : Nat) (x : Int) : Prop := (∃ k : Nat, x = (k : Int) ∧ Wk R k s v ∧ ∀ j, j < k → ¬ Wk R j s v) ∨ (x = -1 ∧ ∀ k, ¬ Wk R k s v)
theorem HopV.uniq {R : Nat → Nat → Prop} {s v : Nat} {x y : Int} (h : HopV R s v x) (g : HopV R s v y) : x = y := by
  rcases h with ⟨k, h1, h2, h3⟩ | ⟨h1, h2⟩ <;> rcases g with ⟨j, g1, g2, g3⟩ | ⟨g1, g2⟩
  · rcases Nat.lt_trichotomy k j with h | h | h
    · exact absurd h2 (g3 k h)
    · omega
    · exact absurd g2 (h3 j h)
  · exact absurd h2 (g2 k)
  · exact absurd g2 (h2 j)
  · omega
def HopL (n : Nat) (R : Nat → Nat → Prop) (s : Nat) (d : List Int) : Prop := d.length = n ∧ ∀ v, v < n → HopV R s v (d.getD v 0)
theorem HopL.uniq {n s : Nat} {R : Nat → Nat → Prop} {d e : List Int} (h : HopL n R s d) (g : HopL n R s e) : d = e :=
  list_eq_of (d := 0) (by rw [h.1, g.1]) fun v hv => (h.2 v (by rw [← h.1]; exact hv)).uniq (g.2 v (by rw [← h.1]; exact hv))

/-! Breadth first. -/
def BL (n : Nat) (R : Nat → Nat → Prop) (s : Nat) (d : List Int) : Prop := d.length = n ∧ d.getD s 0 = 0 ∧ ∀ v, v < n → d.getD v 0 = -1 ∨ (0 ≤ d.getD v 0 ∧ d.getD v 0 + neg d < n ∧ Wk R (d.getD v 0).toNat s v)
theorem BL.put {n s v w : Nat} {R : Nat → Nat → Prop} {d : List Int} (h : BL n R s d) (hs : s < n) (hv : v < n) (hpv : 0 ≤ d.getD v 0) (hw : w < n) (hpw : d.getD w 0 < 0) (ha : R v w) : BL n R s (d.set w (d.getD v 0 + 1)) := by
  obtain ⟨hl, hk, hF⟩ := h
  have hng := neg_set (l := d) (x := d.getD v 0 + 1) (by omega) (i := w) (by omega) hpw
  have hget := fun x => getD_set d w x (d.getD v 0 + 1) 0 (by omega)
  refine ⟨by simp [hl], ?_, fun x hx => ?_⟩
  · rw [hget, if_neg (fun e => by rw [← e] at hpw; omega)]; exact hk
  · rw [hget]
    by_cases hxw : x = w
    · rw [if_pos hxw]
      rcases hF v hv with h | ⟨h1, h2, h3⟩
      · omega
      · refine .inr ⟨by omega, by omega, ?_⟩
        rw [hxw, show (d.getD v 0 + 1).toNat = (d.getD v 0).toNat + 1 from by omega]
        exact ⟨v, h3, ha⟩
    · rw [if_neg hxw]
      rcases hF x hx with h | ⟨h1, h2, h3⟩
      · exact .inl h
      · exact .inr ⟨h1, by omega, h3⟩
theorem nxt_mem {es : List (Int × Int × Int)} {a b : Int} : Nxt es es.length a b ↔ ∃ e ∈ es, e.1 = a ∧ e.2.1 = b := by
  constructor
  · rintro ⟨j, hj, h⟩
    rw [getE hj] at h
    exact ⟨_, List.getElem_mem hj, h⟩
  · rintro ⟨e, he, h⟩
    obtain ⟨j, hj, rfl⟩ := List.getElem_of_mem he
    exact ⟨j, hj, by rw [getE hj]; exact h⟩
theorem nxt_turn {es : List (Int × Int × Int)} {a b : Int} : Nxt (turnF es) (turnF es).length a b ↔ Nxt es es.length b a := by
  rw [nxt_mem, nxt_mem]
  constructor
  · rintro ⟨e, he, h1, h2⟩
    obtain ⟨x, hx, rfl⟩ := List.mem_map.1 ((turnF_perm es).mem_iff.1 he)
    exact ⟨x, hx, h2, h1⟩
  · rintro ⟨e, he, h1, h2⟩
    exact ⟨sw e, (turnF_perm es).mem_iff.2 (List.mem_map.2 ⟨e, he, rfl⟩), h2, h1⟩
theorem adj_turn {es : List (Int × Int × Int)} {a b : Int} : Adj (turnF es) a b ↔ Adj es a b := by
  unfold Adj; rw [nxt_turn, nxt_turn, or_comm]
end Go.Proofs.YtdjckcedpnabpaaDoor
