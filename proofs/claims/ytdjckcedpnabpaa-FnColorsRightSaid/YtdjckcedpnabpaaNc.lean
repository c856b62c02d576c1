/- Right colors stay right. -/
import Derived.Test.YtdjckcedpnabpaaNa
import Derived.Test.YtdjckcedpnabpaaMk
set_option linter.unusedSimpArgs false
set_option linter.unusedVariables false
namespace Go.Proofs.Ytdjckcedpnabpaa
open Go Go.Av
attribute [local go_sem] gives_chk gives_ite gives_some gives_bind gives_join Sum.elim_inl Sum.elim_inr decide_eq_true_eq decide_eq_false_iff_not Bool.not_eq_true' Bool.not_eq_false' Bool.or_eq_true Bool.and_eq_true Bool.not_eq_eq_eq_not beq_iff_eq bne_iff_ne ne_eq Bool.or_eq_false_iff Bool.and_eq_false_iff Bool.not_eq_true Bool.not_eq_false Bool.not_true Bool.not_false Int.toNat_natCast beq_eq_false_iff_ne bne_eq_false_iff_eq Decidable.not_not Bool.default_bool

def Small (cs : List Int) : Prop := ∀ v, v < cs.length → -100 ≤ cs.getD v 0 ∧ cs.getD v 0 ≤ 100
theorem DrawColorsRight_ok {b : List Int} (hb : Bts b) : gives (spec_DrawColorsRight b) fun r => (-1 ≤ r.1 ∧ r.1 ≤ 17) ∧ r.2.1.length ≤ 20 ∧ r.2.2.length ≤ 17 ∧ Small r.2.2 := by
  unfold spec_DrawColorsRight
  rw [gives_bind]
  refine (open_ok hb).mono' (by rfl) ?_
  rintro ⟨c, p⟩ ⟨h1, h2, h3⟩
  simp only at h1 h2 h3 ⊢
  rw [gives_bind]
  refine (Graph_ok h1 ⟨by omega, by omega⟩).mono ?_
  rintro ⟨n, es, q⟩ ⟨g1, g2, g3, g4⟩
  simp only at g1 g2 g3 g4 ⊢
  rw [gives_bind]
  have hcol : gives (spec_ColorsOf n es) fun cs => cs.length ≤ 16 ∧ Small cs := by
    by_cases hg : GOk n es
    · have h16 := hg.2.1
      refine (spec_ColorsOf_ok hg).mono fun cs hcs => ?_
      have hl := hcs.1
      exact ⟨by omega, fun v hv => by have := hcs.le (v := v) (by omega); omega⟩
    · rw [spec_ColorsOf_not ⟨by omega, by omega⟩ (by omega) hg]
      exact gives_some.2 ⟨by simp, fun v hv => by simp at hv⟩
  refine hcol.mono fun fs ⟨hf1, hf2⟩ => ?_
  rw [gives_bind]
  refine (gives_loop (Q := fun x : Int × List Int => (0 ≤ x.1 ∧ x.1 ≤ 1000) ∧ x.2.length ≤ 16 ∧ Small x.2) (fun s : Nat × Int × List Int => ((s.1 : Int), s.2.1, s.2.2))
    (fun s => s.1 ≤ s.2.2.length ∧ (0 ≤ s.2.1 ∧ s.2.1 ≤ 200 + 4 * s.1) ∧ s.2.2.length = fs.length ∧ Small s.2.2) (fun s => fs.length - s.1) ?_ (0, q, fs) ⟨Nat.zero_le _, by simp only; omega, rfl, hf2⟩).mono ?_
  · rintro ⟨k, q, xs⟩ ⟨hk, hq, hl, hS⟩
    simp only at hk hq hl hS
    simp only [spec_DrawColorsRight_b0, join]
    rw [gives_ite]
    refine ⟨fun hc => ?_, fun hc => gives_some.2 ⟨by simp only; omega, by simp only; omega, hS⟩⟩
    simp only [decide_eq_true_eq] at hc
    rw [gives_bind]
    refine (pick_ok h1 ⟨by omega, by omega⟩).mono ?_
    rintro ⟨y0, p0⟩ ⟨e0, f0⟩
    simp only at e0 f0 ⊢
    rw [gives_ite]
    refine ⟨fun _ => ?_, fun _ => ?_⟩
    · rw [gives_bind]
      refine (pick_ok h1 ⟨by omega, by omega⟩).mono ?_
      rintro ⟨y1, p1⟩ ⟨e1, f1, f1', _⟩
      simp only at e1 f1 f1' ⊢
      rw [gives_bind]
      refine (pick_ok h1 ⟨by omega, by omega⟩).mono ?_
      rintro ⟨y2, p2⟩ ⟨e2, f2, f2', _⟩
      simp only at e2 f2 f2' ⊢
      have t1 := f1' (by omega)
      have t2 := f2' (by omega)
      simp only [gives_chk, gives_some]
      refine ⟨⟨by omega, by omega, by omega, by omega⟩, by omega, by omega, by omega, by omega, (k + 1, p2, _), ⟨by simp only [List.length_set]; omega, by simp only; omega, by simp only [List.length_set]; exact hl, fun v hv => ?_⟩, by simp only; omega, rfl⟩
      simp only [List.length_set] at hv
      simp only
      rw [getD_set _ _ _ _ _ (by omega)]
      split
      · omega
      · exact hS v hv
    · simp only [gives_chk, gives_some]
      exact ⟨by omega, (k + 1, p0, xs), ⟨by simp only; omega, by simp only; omega, hl, hS⟩, by simp only; omega, rfl⟩
  · rintro ⟨q, xs⟩ ⟨hq, hl, hS⟩
    simp only at hq hl hS
    simp only [join]
    rw [gives_bind]
    refine (odd_ok h1 ⟨by omega, by omega⟩).mono ?_
    rintro ⟨o, q1⟩ _
    simp only
    rw [gives_ite, gives_chk]
    refine ⟨fun hc => ⟨by omega, gives_some.2 ⟨g1, g2, by simp; omega, fun v hv => ?_⟩⟩, fun _ => gives_some.2 ⟨g1, g2, by simp only; omega, hS⟩⟩
    simp only [List.length_append, List.length_cons, List.length_nil] at hv
    simp only
    rw [getD_snoc]
    split
    · exact hS v (by omega)
    · split <;> omega
theorem plus_loop {cs : List Int} (hS : Small cs) (hl : cs.length ≤ 1000) : loop (laws_FnColorsRight_b0 cs) (0, []) = some (cs.map (· + 1)) := by
  refine gives_eq.1 ?_
  refine gives_loop (fun k : Nat => ((k : Int), (cs.take k).map (· + 1))) (fun k => k ≤ cs.length) (fun k => cs.length - k) ?_ 0 (Nat.zero_le _)
  intro k hk
  unfold laws_FnColorsRight_b0
  rw [gives_ite]
  refine ⟨fun hc => ?_, fun hc => ?_⟩
  · simp only [decide_eq_true_eq] at hc
    have hkl : k < cs.length := by omega
    have hk' := hS k hkl
    rw [gives_chk, gives_chk, gives_chk, gives_chk, Int.toNat_natCast]
    refine ⟨by omega, by omega, by simp; omega, by omega, gives_some.2 ⟨k + 1, by omega, by omega, ?_⟩⟩
    refine Prod.ext (by simp only; omega) ?_
    simp only
    rw [List.take_add_one, List.getElem?_eq_getElem hkl, List.map_append, List.getD_eq_getElem?_getD, List.getElem?_eq_getElem hkl]
    rfl
  · simp only [decide_eq_true_eq] at hc
    refine gives_some.2 ?_
    rw [List.take_of_length_le (by omega)]
theorem plus_get {cs : List Int} {v : Nat} (hv : v < cs.length) : (cs.map (· + 1)).getD v 0 = cs.getD v 0 + 1 := by
  simp [List.getD_eq_getElem?_getD, List.getElem?_eq_getElem hv]
theorem ColOk.plus {n : Int} {es : List (Int × Int × Int)} {cs : List Int} (h : ColOk n es cs) : ColOk n es (cs.map (· + 1)) := by
  obtain ⟨hg, hl, h1, h2⟩ := h
  refine ⟨hg, by simpa using hl, fun k hk => ?_, fun k hk he => ?_⟩
  · rw [List.length_map] at hk
    rw [plus_get hk]
    have := h1 k hk
    omega
  · obtain ⟨e1, e2, e3, e4, _⟩ := gok_len hg hk
    rw [plus_get (by omega), plus_get (by omega)] at he
    exact h2 k hk (by omega)
theorem ColOk.turn {n : Int} {es : List (Int × Int × Int)} {cs : List Int} (h : ColOk n es cs) : ColOk n (turnF es) cs := by
  obtain ⟨hg, hl, h1, h2⟩ := h
  refine ⟨turnF_ok hg, hl, h1, fun k hk he => ?_⟩
  rw [getE hk] at he
  obtain ⟨x, hx, hxe⟩ := List.mem_map.1 ((turnF_perm es).mem_iff.1 (List.getElem_mem hk))
  obtain ⟨j, hj, hje⟩ := List.getElem_of_mem hx
  rw [← hxe] at he
  refine h2 j hj ?_
  rw [getE hj, hje]
  exact he.symm
theorem FnColorsRight_true {b : List Int} (hb : Bts b) : laws_FnColorsRight b = some true := by
  unfold laws_FnColorsRight
  by_cases h0 : (1048576 : Int) < b.length
  · rw [if_pos (by simpa using h0)]
  rw [if_neg (by simpa using h0)]
  obtain ⟨⟨n, es, cs⟩, h1, h2, h3, h4, h5⟩ := DrawColorsRight_ok hb
  simp only at h2 h3 h4 h5
  rw [h1, Option.bind_some]
  dsimp only
  rw [impl_ColorsRight_eq, Option.bind_some, spec_ColorsRight_eq ⟨by omega, by omega⟩ (by omega), Option.bind_some, if_neg (by simp), plus_loop h5 (by omega), Option.bind_some]
  by_cases hc : ColOk n es cs
  · rw [show colOk n es cs = true from yes_true hc, if_pos rfl, impl_ColorsRight_eq, Option.bind_some, show colOk n es (cs.map (· + 1)) = true from yes_true hc.plus, if_pos rfl, impl_TurnGraph_eq hc.1, Option.bind_some]
    dsimp only
    rw [impl_ColorsRight_eq, Option.bind_some, show colOk n (turnF es) cs = true from yes_true hc.turn, if_pos rfl, alive_eq]
    rfl
  · rw [show colOk n es cs = false from yes_false hc, if_neg (by simp), alive_eq]
    rfl
end Go.Proofs.Ytdjckcedpnabpaa
