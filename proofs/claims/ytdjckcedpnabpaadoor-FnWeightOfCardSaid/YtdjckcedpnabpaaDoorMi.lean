/- Marks that the laws lay into results; forests' laws; better cuts. -/
import Derived.Test.YtdjckcedpnabpaaDoorMh
set_option linter.unusedSimpArgs false
set_option linter.unusedVariables false
namespace Go.Proofs.YtdjckcedpnabpaaDoor
open Go Go.Av
attribute [local go_sem] gives_chk gives_ite gives_some gives_bind gives_join Sum.elim_inl Sum.elim_inr decide_eq_true_eq decide_eq_false_iff_not Bool.not_eq_true' Bool.not_eq_false' Bool.or_eq_true Bool.and_eq_true Bool.not_eq_eq_eq_not beq_iff_eq bne_iff_ne ne_eq Bool.or_eq_false_iff Bool.and_eq_false_iff Bool.not_eq_true Bool.not_eq_false Bool.not_true Bool.not_false Int.toNat_natCast beq_eq_false_iff_ne bne_eq_false_iff_eq Decidable.not_not Bool.default_bool

def mks {α : Type} (f : Nat → α) (n : Nat) : List α := (List.range n).map f
theorem mks_len {α : Type} (f : Nat → α) (n : Nat) : (mks f n).length = n := by simp [mks]
theorem mks_get {α : Type} {f : Nat → α} {n j : Nat} {d : α} (h : j < n) : (mks f n).getD j d = f j := by
  simp only [mks, List.getD_eq_getElem?_getD, List.getElem?_map, List.getElem?_range h, Option.map_some, Option.getD_some]
theorem mks_succ {α : Type} (f : Nat → α) (n : Nat) : mks f (n + 1) = mks f n ++ [f n] := by
  simp only [mks, List.range_succ, List.map_append, List.map_cons, List.map_nil]
theorem mks_set {α : Type} {f : Nat → α} {xs : List α} {j : Nat} (h : j < xs.length) : (mks f j ++ xs.drop j).set j (f j) = mks f (j + 1) ++ xs.drop (j + 1) := by
  rw [mks_succ, List.set_append_right _ _ (by rw [mks_len]; exact Nat.le_refl _), mks_len, Nat.sub_self, List.append_assoc]
  congr 1
  rw [List.drop_eq_getElem_cons h]; rfl
theorem loop_to {σ S X : Type} (st : σ → S) (ok : σ → Prop) (m : σ → Nat) {body : S → Option (S ⊕ X)} {Q : X → Prop} {s0 : S} (s : σ) (h0 : s0 = st s) (hs : ok s)
    (h : ∀ s, ok s → gives (body (st s)) fun r => match r with | .inl t => ∃ s', ok s' ∧ m s' < m s ∧ t = st s' | .inr x => Q x) : gives (loop body s0) Q := h0 ▸ gives_loop st ok m h s hs
/-! Forests: the law on right ones. -/
theorem forOk_depth {n : Int} {es : List (Int × Int × Int)} {ps : List Int} (h : ForOk n es ps) {v : Nat} (hv : v < ps.length) : 0 ≤ depthF ps v := by
  obtain ⟨hg, hl, h1, _⟩ := h
  have h16 := hg.2.1
  have ht := (h1 v hv).2.2
  have he := endF_it (ps := ps) ps.length (v : Int) 0 (by omega)
  rw [if_pos ht] at he
  obtain ⟨d, he⟩ := he
  rw [depthF_some (by omega) he]
  simp only; omega
def idL (k : Nat) : List Int := mks (fun j => (j : Int)) k
theorem idL_get {k j : Nat} (h : j < k) : (idL k).getD j 0 = j := by unfold idL; rw [mks_get h]
theorem idL_len (k : Nat) : (idL k).length = k := mks_len _ _
theorem idL_it {k m : Nat} {v : Int} (hv : 0 ≤ v ∧ v < k) : itF (idL k) m v = v := by
  refine itF_stuck ?_ m
  have hg : (idL k).getD v.toNat 0 = v := by rw [idL_get (by omega)]; omega
  unfold stepF; rw [hg]; split <;> rfl
theorem idL_for {n : Int} {es : List (Int × Int × Int)} (hg : GOk n es) : forOk n es (idL n.toNat) = decide (es.length = 0) := by
  have h0 := hg.1
  have hl := idL_len n.toNat
  by_cases h : es.length = 0
  · rw [decide_eq_true h]
    refine yes_true ⟨hg, by omega, fun k hk => ?_, fun k hk => by omega⟩
    have hk' : k < n.toNat := by omega
    have hgk := idL_get hk'
    rw [VOk, hgk, idL_it (by omega)]
    exact ⟨by omega, .inl rfl, by rw [Int.toNat_natCast]; exact hgk⟩
  · rw [decide_eq_false h]
    refine yes_false ?_
    rintro ⟨_, _, _, h4⟩
    have h5 := h4 0 (by omega)
    have he := gok_len hg (k := 0) (by omega)
    simp only [EOk] at he
    rw [idL_it (by omega), idL_it (by omega)] at h5
    omega
end Go.Proofs.YtdjckcedpnabpaaDoor
