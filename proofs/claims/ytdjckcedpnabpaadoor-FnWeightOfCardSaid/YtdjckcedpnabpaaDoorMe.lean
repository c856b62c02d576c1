/- Laws with drawn arguments: cuts. -/
import Derived.Test.YtdjckcedpnabpaaDoorMd
set_option linter.unusedSimpArgs false
set_option linter.unusedVariables false
namespace Go.Proofs.YtdjckcedpnabpaaDoor
open Go Go.Av
attribute [local go_sem] gives_chk gives_ite gives_some gives_bind gives_join Sum.elim_inl Sum.elim_inr decide_eq_true_eq decide_eq_false_iff_not Bool.not_eq_true' Bool.not_eq_false' Bool.or_eq_true Bool.and_eq_true Bool.not_eq_eq_eq_not beq_iff_eq bne_iff_ne ne_eq Bool.or_eq_false_iff Bool.and_eq_false_iff Bool.not_eq_true Bool.not_eq_false Bool.not_true Bool.not_false Int.toNat_natCast beq_eq_false_iff_ne bne_eq_false_iff_eq Decidable.not_not Bool.default_bool

theorem alive_eq : laws_alive = some true := by
  unfold laws_alive impl_CheckSum impl_BytesValid
  rw [if_neg (by simp), loop_eq]
  simp only [impl_BytesValid_b0, List.length_nil]
  rw [if_neg (by simp)]
  simp only [Option.bind_some, Sum.elim_inl]
  rw [if_neg (by simp), loop_eq]
  simp only [impl_CheckSum_b0, List.length_nil]
  rw [if_neg (by simp)]
  rfl
theorem cutF_not {n : Int} {es : List (Int × Int × Int)} {ss : List Bool} (h : GOk n es) (hl : (ss.length : Int) = n) : ∀ k, k ≤ es.length → cutF es (ss.map (!·)) k = cutF es ss k
  | 0, _ => rfl
  | k + 1, hk => by
    have ih := cutF_not h hl k (by omega)
    have he := gok_len h (k := k) (by omega)
    simp only [EOk] at he
    have hm : ∀ i : Nat, i < ss.length → (ss.map (!·)).getD i false = !(ss.getD i false) := fun i hi => by simp [List.getD_eq_getElem?_getD, hi]
    simp only [cutF, hm _ (show (es.getD k (0, 0, 0)).1.toNat < ss.length by omega), hm _ (show (es.getD k (0, 0, 0)).2.1.toNat < ss.length by omega), ih]
    congr 1
    simp
theorem cutF_const {es : List (Int × Int × Int)} {m : Nat} : ∀ k, cutF es (List.replicate m false) k = 0
  | 0 => rfl
  | k + 1 => by
    have hm : ∀ i : Nat, (List.replicate m false).getD i false = false := fun i => by
      simp only [List.getD_eq_getElem?_getD, List.getElem?_replicate]; split <;> rfl
    simp only [cutF, hm, cutF_const k, ↓reduceIte]
theorem cutW_neg {n : Int} {es : List (Int × Int × Int)} {ss : List Bool} : (cutW n es ss < 0 → cutW n es ss = -1) ∧ (¬ cutW n es ss < 0 → GOk n es ∧ (ss.length : Int) = n) := by
  unfold cutW
  split
  · rename_i h
    have hb := cutF_bound (ss := ss) (of_gok h.1) es.length (Nat.le_refl _)
    exact ⟨fun h2 => by omega, fun _ => ⟨of_gok h.1, h.2⟩⟩
  · exact ⟨fun _ => rfl, fun h2 => absurd (by omega) h2⟩
/-! Moves. -/
theorem flip_flip {ss : List Bool} {v : Nat} (hv : v < ss.length) : flipS (flipS ss v) v = ss := by
  refine list_eq_of (d := false) (by simp [flipS]) fun k hk => ?_
  have hv' : v < (flipS ss v).length := by simpa [flipS] using hv
  rw [getD_flip hv']
  by_cases h : k = v
  · subst h; rw [if_pos rfl, getD_flip hv, if_pos rfl]; simp
  · rw [if_neg h, getD_flip hv, if_neg h]
theorem gainV_out {n v : Int} {es : List (Int × Int × Int)} {ss : List Bool} (h : v < 0 ∨ (ss.length : Int) ≤ v) : gainV n es ss v = 0 := by
  unfold gainV; rw [if_neg]; rintro ⟨_, h2, h3, h4⟩; omega
theorem gainV_bound {n v : Int} {es : List (Int × Int × Int)} {ss : List Bool} : -800 ≤ gainV n es ss v ∧ gainV n es ss v ≤ 800 := by
  unfold gainV
  split
  · rename_i h
    have hg := of_gok h.1
    have := gainF_bound (ss := ss) (v := v) hg es.length (Nat.le_refl _)
    have := hg.2.2.1
    omega
  · omega
end Go.Proofs.YtdjckcedpnabpaaDoor
