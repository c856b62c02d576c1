/- Colors: the least that no neighbour before has. -/
import Derived.Test.YtbdncdmkogbdhaaMj
set_option linter.unusedSimpArgs false
set_option linter.unusedVariables false
namespace Go.Proofs.Ytbdncdmkogbdhaa
open Go Go.Av
attribute [local go_sem] gives_chk gives_ite gives_some gives_bind gives_join Sum.elim_inl Sum.elim_inr decide_eq_true_eq decide_eq_false_iff_not Bool.not_eq_true' Bool.not_eq_false' Bool.or_eq_true Bool.and_eq_true Bool.not_eq_eq_eq_not beq_iff_eq bne_iff_ne ne_eq Bool.or_eq_false_iff Bool.and_eq_false_iff Bool.not_eq_true Bool.not_eq_false Bool.not_true Bool.not_false Int.toNat_natCast beq_eq_false_iff_ne bne_eq_false_iff_eq Decidable.not_not Bool.default_bool

def IsMex (P : Nat → Prop) (c : Nat) : Prop := ¬ P c ∧ ∀ j, j < c → P j
theorem IsMex.uniq {P Q : Nat → Prop} {c d : Nat} (h : IsMex P c) (k : IsMex Q d) (hpq : ∀ j, P j ↔ Q j) : c = d := by
  rcases Nat.lt_trichotomy c d with hl | hl | hl
  · exact absurd ((hpq c).2 (k.2 c hl)) h.1
  · exact hl
  · exact absurd ((hpq d).1 (h.2 d hl)) k.1
/-- Color c is one of a neighbour of v before it. -/
def Usd (es : List (Int × Int × Int)) (cs : List Int) (v c : Nat) : Prop := ∃ w : Nat, w < v ∧ Adj es v w ∧ cs.getD w 0 = (c : Int)
def Gre (es : List (Int × Int × Int)) (k : Nat) (cs : List Int) : Prop := cs.length = k ∧ ∀ v, v < k → ∃ c : Nat, cs.getD v 0 = (c : Int) ∧ IsMex (Usd es cs v) c
theorem Gre.uniq {es : List (Int × Int × Int)} {k : Nat} {cs ds : List Int} (h : Gre es k cs) (g : Gre es k ds) : cs = ds := by
  have key : ∀ v, v < k → cs.getD v 0 = ds.getD v 0 := by
    intro v
    induction v using Nat.strongRecOn with
    | _ v ih =>
      intro hv
      obtain ⟨c, h1, h2⟩ := h.2 v hv
      obtain ⟨d, g1, g2⟩ := g.2 v hv
      have : c = d := h2.uniq g2 fun j => by
        constructor
        · rintro ⟨w, e1, e2, e3⟩; exact ⟨w, e1, e2, by rw [← ih w e1 (by omega)]; exact e3⟩
        · rintro ⟨w, e1, e2, e3⟩; exact ⟨w, e1, e2, by rw [ih w e1 (by omega)]; exact e3⟩
      rw [h1, g1, this]
  apply List.ext_getElem (by rw [h.1, g.1])
  intro i h1 h2
  have := key i (by rw [← h.1]; exact h1)
  simpa [List.getD_eq_getElem?_getD, h1, h2] using this
theorem used_le {es : List (Int × Int × Int)} {cs : List Int} {v c : Nat} (h : ∀ j, j < c → Usd es cs v j) : c ≤ v := by
  have := pigeon (fun w => (cs.getD w 0).toNat) v (List.range c) List.nodup_range fun j hj => by
    obtain ⟨w, h1, _, h3⟩ := h j (List.mem_range.1 hj)
    exact ⟨w, h1, by simp only [h3]; omega⟩
  simpa using this
theorem Gre.le {es : List (Int × Int × Int)} {k : Nat} {cs : List Int} (h : Gre es k cs) {v : Nat} (hv : v < k) : 0 ≤ cs.getD v 0 ∧ cs.getD v 0 ≤ v := by
  obtain ⟨c, h1, h2⟩ := h.2 v hv
  have := used_le h2.2
  omega
end Go.Proofs.Ytbdncdmkogbdhaa
