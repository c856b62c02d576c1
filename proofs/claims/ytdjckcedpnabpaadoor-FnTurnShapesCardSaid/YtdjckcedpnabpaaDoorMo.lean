/- Forests as they are made: both sides do the same steps. -/
import Derived.Test.YtdjckcedpnabpaaDoorMk
set_option linter.unusedSimpArgs false
set_option linter.unusedVariables false
namespace Go.Proofs.YtdjckcedpnabpaaDoor
open Go Go.Av
attribute [local go_sem] gives_chk gives_ite gives_some gives_bind gives_join Sum.elim_inl Sum.elim_inr decide_eq_true_eq decide_eq_false_iff_not Bool.not_eq_true' Bool.not_eq_false' Bool.or_eq_true Bool.and_eq_true Bool.not_eq_eq_eq_not beq_iff_eq bne_iff_ne ne_eq Bool.or_eq_false_iff Bool.and_eq_false_iff Bool.not_eq_true Bool.not_eq_false Bool.not_true Bool.not_false Int.toNat_natCast beq_eq_false_iff_ne bne_eq_false_iff_eq Decidable.not_not Bool.default_bool

/-- The first j of L, looked at from v: those that are in no tree come behind v. -/
def scanN (ps : List Int) (v : Int) (L : List Int) : Nat → List Int × List Int
  | 0 => (ps, [])
  | j + 1 => if (scanN ps v L j).1.getD (L.getD j 0).toNat 0 < 0 then ((scanN ps v L j).1.set (L.getD j 0).toNat v, (scanN ps v L j).2 ++ [L.getD j 0]) else scanN ps v L j
theorem scanN_len {ps L : List Int} {v : Int} : ∀ j, (scanN ps v L j).1.length = ps.length ∧ (scanN ps v L j).2.length ≤ j
  | 0 => ⟨rfl, Nat.le_refl _⟩
  | j + 1 => by
    have ih := scanN_len (ps := ps) (L := L) (v := v) j
    simp only [scanN]
    split
    · simp only [List.length_set, List.length_append, List.length_cons, List.length_nil]; omega
    · omega
def Mm (ps : List Int) : Prop := ∀ k, k < ps.length → ps.getD k 0 = -1 ∨ 0 ≤ ps.getD k 0
theorem Mm.set {ps : List Int} {v : Int} {i : Nat} (h : Mm ps) (hv : 0 ≤ v) (hi : i < ps.length) : Mm (ps.set i v) := by
  intro k hk
  rw [List.length_set] at hk
  rw [getD_set _ _ _ _ _ hi]
  split
  · exact .inr hv
  · exact h k hk
theorem scanN_ok {n : Int} {ps L : List Int} {v : Int} (hl : ps.length = n.toNat) (hL : Inn n L) (hv : 0 ≤ v) (hm : Mm ps) : ∀ j, j ≤ L.length → Mm (scanN ps v L j).1 ∧ neg (scanN ps v L j).1 + (scanN ps v L j).2.length = neg ps ∧ Inn n (scanN ps v L j).2
  | 0, _ => ⟨hm, rfl, fun k hk => absurd hk (by simp [scanN])⟩
  | j + 1, hj => by
    obtain ⟨h1, h2, h3⟩ := scanN_ok hl hL hv hm j (by omega)
    have hlen := (scanN_len (ps := ps) (L := L) (v := v) j).1
    have hw := hL j (by omega)
    simp only [scanN]
    split
    · rename_i hneg
      have := neg_set (l := (scanN ps v L j).1) hv (i := (L.getD j 0).toNat) (by omega) hneg
      exact ⟨h1.set hv (by omega), by simp only [List.length_append, List.length_cons, List.length_nil]; omega, h3.snoc hw⟩
    · exact ⟨h1, h2, h3⟩
/-- A tree, from the queue q on. -/
def bfsF (nr : Int → List Int) : Nat → List Int → List Int → List Int
  | 0, ps, _ => ps
  | _ + 1, ps, [] => ps
  | f + 1, ps, v :: q => bfsF nr f (scanN ps v (nr v) (nr v).length).1 (q ++ (scanN ps v (nr v) (nr v).length).2)
theorem near_inn {n : Int} {es : List (Int × Int × Int)} (hg : GOk n es) (v : Int) : Inn n (nearL n es v n.toNat) ∧ (nearL n es v n.toNat).length ≤ 16 := by
  have h16 := hg.2.1
  have hll := nearL_len n es v n.toNat
  refine ⟨fun j hj => ?_, by omega⟩
  have hm := (nearL_mem (n := n) (es := es) (v := v) (u := (nearL n es v n.toNat).getD j 0) n.toNat).1 (by
    rw [List.getD_eq_getElem?_getD (l := nearL n es v n.toNat), List.getElem?_eq_getElem hj]; exact List.getElem_mem hj)
  omega
theorem Inn.cons {n v : Int} {q : List Int} (h : Inn n (v :: q)) : (0 ≤ v ∧ v < n) ∧ Inn n q := by
  refine ⟨by have := h 0 (by simp); simpa using this, fun k hk => ?_⟩
  have := h (k + 1) (by simpa using hk)
  simpa using this
theorem Inn.app {n : Int} {a b : List Int} (h : Inn n a) (g : Inn n b) : Inn n (a ++ b) := by
  intro k hk
  rw [List.length_append] at hk
  by_cases hka : k < a.length
  · rw [show (a ++ b).getD k 0 = a.getD k 0 from by simp only [List.getD_eq_getElem?_getD, List.getElem?_append_left hka]]; exact h k hka
  · rw [show (a ++ b).getD k 0 = b.getD (k - a.length) 0 from by simp only [List.getD_eq_getElem?_getD]; rw [List.getElem?_append_right (by omega)]]; exact g _ (by omega)
def TreeOk (n : Int) (es : List (Int × Int × Int)) (R ps q : List Int) : Prop := ps.length = n.toNat ∧ Mm ps ∧ Inn n q ∧ q.length + neg ps ≤ 17 ∧ ∃ f, q.length + neg ps ≤ f ∧ bfsF (fun v => nearL n es v n.toNat) f ps q = R
theorem TreeOk.next {n v : Int} {es : List (Int × Int × Int)} {R ps q : List Int} (hg : GOk n es) (h : TreeOk n es R ps (v :: q)) :
    TreeOk n es R (scanN ps v (nearL n es v n.toNat) (nearL n es v n.toNat).length).1 (q ++ (scanN ps v (nearL n es v n.toNat) (nearL n es v n.toNat).length).2) ∧
      (q ++ (scanN ps v (nearL n es v n.toNat) (nearL n es v n.toNat).length).2).length + neg (scanN ps v (nearL n es v n.toNat) (nearL n es v n.toNat).length).1 + 1 = (v :: q).length + neg ps := by
  obtain ⟨h1, h2, h3, h4, f, h5, h6⟩ := h
  obtain ⟨h7, h8⟩ := h3.cons
  obtain ⟨hi, hl⟩ := near_inn hg v
  obtain ⟨s1, s2, s3⟩ := scanN_ok h1 hi h7.1 h2 _ (Nat.le_refl _)
  have sl := (scanN_len (ps := ps) (L := nearL n es v n.toNat) (v := v) (nearL n es v n.toNat).length).1
  simp only [List.length_cons] at h4 h5 ⊢
  rw [List.length_append]
  refine ⟨⟨by rw [sl]; exact h1, s1, h8.app s3, by rw [List.length_append]; omega, f - 1, by rw [List.length_append]; omega, ?_⟩, by omega⟩
  obtain ⟨g, rfl⟩ : ∃ g, f = g + 1 := ⟨f - 1, by omega⟩
  rw [bfsF] at h6
  exact h6
theorem TreeOk.done {n : Int} {es : List (Int × Int × Int)} {R ps : List Int} (h : TreeOk n es R ps []) : ps = R := by
  obtain ⟨_, _, _, _, f, _, h6⟩ := h
  cases f <;> rw [bfsF] at h6 <;> exact h6
end Go.Proofs.YtdjckcedpnabpaaDoor
