/- Ways of edges, and hops. -/
import Derived.Test.YtbdncdmkogbdhaaMr
import Derived.Test.YtbdncdmkogbdhaaNb
set_option linter.unusedSimpArgs false
set_option linter.unusedVariables false
namespace Go.Proofs.Ytbdncdmkogbdhaa
open Go Go.Av
attribute [local go_sem] gives_chk gives_ite gives_some gives_bind gives_join Sum.elim_inl Sum.elim_inr decide_eq_true_eq decide_eq_false_iff_not Bool.not_eq_true' Bool.not_eq_false' Bool.or_eq_true Bool.and_eq_true Bool.not_eq_eq_eq_not beq_iff_eq bne_iff_ne ne_eq Bool.or_eq_false_iff Bool.and_eq_false_iff Bool.not_eq_true Bool.not_eq_false Bool.not_true Bool.not_false Int.toNat_natCast beq_eq_false_iff_ne bne_eq_false_iff_eq Decidable.not_not Bool.default_bool

/-- A way of k steps. -/
def Wk (R : Nat → Nat → Prop) : Nat → Nat → Nat → Prop
  | 0, a, b => a = b
  | k + 1, a, b => ∃ c, Wk R k a c ∧ R c b
theorem Wk.front {R : Nat → Nat → Prop} : ∀ {k a b : Nat}, Wk R (k + 1) a b ↔ ∃ c, R a c ∧ Wk R k c b
  | 0, a, b => ⟨fun ⟨c, h, g⟩ => by simp only [Wk] at h; subst h; exact ⟨b, g, rfl⟩, fun ⟨c, h, g⟩ => by simp only [Wk] at g; subst g; exact ⟨a, rfl, h⟩⟩
  | k + 1, a, b => by
    constructor
    · rintro ⟨c, h, g⟩
      obtain ⟨d, h1, h2⟩ := Wk.front.1 h
      exact ⟨d, h1, c, h2, g⟩
    · rintro ⟨d, h1, c, h2, g⟩
      exact ⟨c, Wk.front.2 ⟨d, h1, h2⟩, g⟩
theorem Wk.flip {R S : Nat → Nat → Prop} (h : ∀ a b, R a b ↔ S b a) : ∀ {k a b : Nat}, Wk R k a b ↔ Wk S k b a
  | 0, a, b => ⟨Eq.symm, Eq.symm⟩
  | k + 1, a, b => by
    rw [Wk.front (R := S)]
    constructor
    · rintro ⟨c, h1, h2⟩; exact ⟨c, (h _ _).1 h2, (Wk.flip h).1 h1⟩
    · rintro ⟨c, h1, h2⟩; exact ⟨c, (Wk.flip h).2 h2, (h _ _).2 h1⟩
/-- The least number of steps, -1 for none. -/
def HopV (R : Nat → Nat → Prop) (s v : Nat) (x : Int) : Prop := (∃ k : Nat, x = (k : Int) ∧ Wk R k s v ∧ ∀ j, j < k → ¬ Wk R j s v) ∨ (x = -1 ∧ ∀ k, ¬ Wk R k s v)
theorem HopV.uniq {R : Nat → Nat → Prop} {s v : Nat} {x y : Int} (h : HopV R s v x) (g : HopV R s v y) : x = y := by
  rcases h with ⟨k, h1, h2, h3⟩ | ⟨h1, h2⟩ <;> rcases g with ⟨j, g1, g2, g3⟩ | ⟨g1, g2⟩
  · rcases Nat.lt_trichotomy k j with h | h | h
    · exact absurd h2 (g3 k h)
    · omega
    · exact absurd g2 (h3 j h)
  · exact absurd h2 (g2 k)
  · exact absurd g2 (h2 j)
  · omega
theorem HopV.flip {R S : Nat → Nat → Prop} (hf : ∀ a b, R a b ↔ S b a) {s v : Nat} {x : Int} (h : HopV R s v x) : HopV S v s x := by
  rcases h with ⟨k, h1, h2, h3⟩ | ⟨h1, h2⟩
  · exact .inl ⟨k, h1, (Wk.flip hf).1 h2, fun j hj hw => h3 j hj ((Wk.flip hf).2 hw)⟩
  · exact .inr ⟨h1, fun k hw => h2 k ((Wk.flip hf).2 hw)⟩
def HopL (n : Nat) (R : Nat → Nat → Prop) (s : Nat) (d : List Int) : Prop := d.length = n ∧ ∀ v, v < n → HopV R s v (d.getD v 0)
theorem HopL.uniq {n s : Nat} {R : Nat → Nat → Prop} {d e : List Int} (h : HopL n R s d) (g : HopL n R s e) : d = e :=
  list_eq_of (d := 0) (by rw [h.1, g.1]) fun v hv => (h.2 v (by rw [← h.1]; exact hv)).uniq (g.2 v (by rw [← h.1]; exact hv))

theorem nxt_mem {es : List (Int × Int × Int)} {a b : Int} : Nxt es es.length a b ↔ ∃ e ∈ es, e.1 = a ∧ e.2.1 = b := by
  constructor
  · rintro ⟨j, hj, h⟩
    rw [getE hj] at h
    exact ⟨_, List.getElem_mem hj, h⟩
  · rintro ⟨e, he, h⟩
    obtain ⟨j, hj, rfl⟩ := List.getElem_of_mem he
    exact ⟨j, hj, by rw [getE hj]; exact h⟩
theorem nxt_turn {es : List (Int × Int × Int)} {a b : Int} : Nxt (turnF es) (turnF es).length a b ↔ Nxt es es.length b a := by
  rw [nxt_mem, nxt_mem]
  constructor
  · rintro ⟨e, he, h1, h2⟩
    obtain ⟨x, hx, rfl⟩ := List.mem_map.1 ((turnF_perm es).mem_iff.1 he)
    exact ⟨x, hx, h2, h1⟩
  · rintro ⟨e, he, h1, h2⟩
    exact ⟨sw e, (turnF_perm es).mem_iff.2 (List.mem_map.2 ⟨e, he, rfl⟩), h2, h1⟩
theorem adj_turn {es : List (Int × Int × Int)} {a b : Int} : Adj (turnF es) a b ↔ Adj es a b := by
  unfold Adj; rw [nxt_turn, nxt_turn, or_comm]
theorem At_ok {b : List Int} {p : Int} (hb : Bts b) (hp : 0 ≤ p ∧ p ≤ 700000) : gives (spec_l20At b p) fun r => (-1 ≤ r.1 ∧ r.1 ≤ 17) ∧ r.2.1.length ≤ 20 ∧ (-10 ≤ r.2.2.1 ∧ r.2.2.1 ≤ 100) ∧ 0 ≤ r.2.2.2 ∧ r.2.2.2 ≤ p + 210 := by
  unfold spec_l20At
  rw [gives_bind]
  refine (Graph_ok hb ⟨by omega, by omega⟩).mono ?_
  rintro ⟨n, es, q⟩ ⟨g1, g2, g3, g4⟩
  simp only at g1 g2 g3 g4 ⊢
  rw [gives_bind]
  refine (pick_ok hb ⟨by omega, by omega⟩).mono ?_
  rintro ⟨y0, p0⟩ ⟨e0, f0, f0', _⟩
  simp only at e0 f0 f0' ⊢
  have t0 := f0' (by omega)
  rw [gives_bind]
  refine (pick_ok hb ⟨by omega, by omega⟩).mono ?_
  rintro ⟨y1, p1⟩ ⟨e1, f1, f1', _⟩
  simp only at e1 f1 f1' ⊢
  have t1 := f1' (by omega)
  rw [gives_chk, gives_chk, gives_bind]
  refine ⟨by omega, by omega, ?_⟩
  refine (pick_ok hb ⟨by omega, by omega⟩).mono ?_
  rintro ⟨y2, p2⟩ ⟨e2, f2, f2', _⟩
  simp only at e2 f2 f2' ⊢
  have t2 := f2' (by omega)
  rw [gives_chk, gives_chk, gives_chk]
  exact ⟨by omega, by omega, by omega, gives_some.2 ⟨g1, g2, by simp only; omega, by simp only; omega, by simp only; omega⟩⟩
end Go.Proofs.Ytbdncdmkogbdhaa
