/- Laws with drawn arguments: cuts. -/
import Derived.Test.YtlpkjcmiohppcaaMd
namespace Go.Proofs.Ytlpkjcmiohppcaa
open Go Go.Av
attribute [local go_sem] gives_chk gives_ite gives_some gives_bind gives_join Sum.elim_inl Sum.elim_inr decide_eq_true_eq decide_eq_false_iff_not Bool.not_eq_true' Bool.not_eq_false' Bool.or_eq_true Bool.and_eq_true Bool.not_eq_eq_eq_not beq_iff_eq bne_iff_ne ne_eq Bool.or_eq_false_iff Bool.and_eq_false_iff Bool.not_eq_true Bool.not_eq_false Bool.not_true Bool.not_false Int.toNat_natCast beq_eq_false_iff_ne bne_eq_false_iff_eq Decidable.not_not Bool.default_bool

theorem impl_CutWeight_eq {n : Int} {es : List (Int × Int × Int)} {ss : List Bool} : impl_CutWeight n es ss = some (cutW n es ss) := by
  refine gives_eq.1 ?_
  unfold impl_CutWeight cutW
  rw [impl_sidesFit_eq]
  simp only [go_sem, Option.bind_some]
  refine ⟨fun h => by rw [if_neg h], fun h => ?_⟩
  have hg : GOk n es := of_gok h.1
  have hl := h.2
  have hle := hg.2.2.1
  rw [if_pos h]
  refine gives_loop (fun k : Nat => (cutF es ss k, (k : Int))) (fun k => k ≤ es.length) (fun k => es.length - k) ?_ 0 (Nat.zero_le _)
  intro k hs
  have hb := cutF_bound (ss := ss) hg k hs
  simp only [impl_CutWeight_b0, go_sem]
  refine ⟨fun hc => ?_, fun hc => by rw [show k = es.length from by omega]⟩
  have he := gok_len hg (k := k) (by omega)
  simp only [EOk] at he
  refine ⟨by omega, by omega, by omega, fun hne => ⟨by omega, by omega, k + 1, by omega, by omega, ?_⟩, fun heq => ⟨by omega, k + 1, by omega, by omega, ?_⟩⟩
  · simp only [cutF]; rw [if_neg hne]; rfl
  · simp only [cutF]; rw [if_pos (by simpa using heq)]; rfl
theorem alive_eq : laws_alive = some true := by
  unfold laws_alive impl_CheckSum impl_BytesValid
  rw [if_neg (by simp), loop_eq]
  simp only [impl_BytesValid_b0, List.length_nil]
  rw [if_neg (by simp)]
  simp only [Option.bind_some, Sum.elim_inl]
  rw [if_neg (by simp), loop_eq]
  simp only [impl_CheckSum_b0, List.length_nil]
  rw [if_neg (by simp)]
  rfl
theorem DrawCutWeight_ok {b : List Int} (hb : Bts b) : gives (spec_DrawCutWeight b) fun r => (-1 ≤ r.1 ∧ r.1 ≤ 17) ∧ r.2.1.length ≤ 20 ∧ r.2.2.length ≤ 1001 := by
  unfold spec_DrawCutWeight
  rw [gives_bind]
  refine (open_ok2 hb).mono ?_
  rintro ⟨c, p⟩ ⟨h1, h2, h3⟩
  simp only at h1 h2 h3 ⊢
  rw [gives_bind]
  refine (Graph_ok h1 ⟨by omega, by omega⟩).mono ?_
  rintro ⟨n, es, q⟩ ⟨g1, g2, g3, g4⟩
  simp only at g1 g2 g3 g4 ⊢
  rw [gives_bind]
  refine (Sides_ok h1 ⟨by omega, by omega⟩ (by omega)).mono ?_
  rintro ⟨ss, q'⟩ h5
  exact gives_some.2 ⟨g1, g2, h5⟩
theorem cutF_not {n : Int} {es : List (Int × Int × Int)} {ss : List Bool} (h : GOk n es) (hl : (ss.length : Int) = n) : ∀ k, k ≤ es.length → cutF es (ss.map (!·)) k = cutF es ss k
  | 0, _ => rfl
  | k + 1, hk => by
    have ih := cutF_not h hl k (by omega)
    have he := gok_len h (k := k) (by omega)
    simp only [EOk] at he
    have hm : ∀ i : Nat, i < ss.length → (ss.map (!·)).getD i false = !(ss.getD i false) := fun i hi => by simp [List.getD_eq_getElem?_getD, hi]
    simp only [cutF, hm _ (show (es.getD k (0, 0, 0)).1.toNat < ss.length by omega), hm _ (show (es.getD k (0, 0, 0)).2.1.toNat < ss.length by omega), ih]
    congr 1
    simp
theorem cutF_const {es : List (Int × Int × Int)} {m : Nat} : ∀ k, cutF es (List.replicate m false) k = 0
  | 0 => rfl
  | k + 1 => by
    have hm : ∀ i : Nat, (List.replicate m false).getD i false = false := fun i => by
      simp only [List.getD_eq_getElem?_getD, List.getElem?_replicate]; split <;> rfl
    simp only [cutF, hm, cutF_const k, ↓reduceIte]
theorem cutW_neg {n : Int} {es : List (Int × Int × Int)} {ss : List Bool} : (cutW n es ss < 0 → cutW n es ss = -1) ∧ (¬ cutW n es ss < 0 → GOk n es ∧ (ss.length : Int) = n) := by
  unfold cutW
  split
  · rename_i h
    have hb := cutF_bound (ss := ss) (of_gok h.1) es.length (Nat.le_refl _)
    exact ⟨fun h2 => by omega, fun _ => ⟨of_gok h.1, h.2⟩⟩
  · exact ⟨fun _ => rfl, fun h2 => absurd (by omega) h2⟩
theorem others_eq {ss : List Bool} (hl : ss.length ≤ 1001) : loop (laws_FnCutWeight_b0 ss) (0, []) = some (ss.map (!·)) := by
  refine gives_eq.1 ?_
  refine gives_loop (fun k : Nat => ((k : Int), (ss.take k).map (!·))) (fun k => k ≤ ss.length) (fun k => ss.length - k) ?_ 0 (Nat.zero_le _)
  intro k hs
  simp only [laws_FnCutWeight_b0, go_sem, List.length_map, List.length_take]
  refine ⟨fun hc => ⟨by omega, by omega, by omega, k + 1, by omega, by omega, ?_⟩, fun hc => by rw [List.take_of_length_le (by omega)]⟩
  have hk : k < ss.length := by omega
  refine Prod.ext (by simp) ?_
  have e : ss.take (k + 1) = ss.take k ++ [ss.getD k false] := by
    rw [List.take_add_one, List.getElem?_eq_getElem hk]
    simp [List.getD_eq_getElem?_getD, hk]
  simp only [e, List.map_append, List.map_cons, List.map_nil]
theorem FnCutWeight_true {b : List Int} (hb : Bts b) : laws_FnCutWeight b = some true := by
  unfold laws_FnCutWeight
  by_cases h0 : (1048576 : Int) < b.length
  · rw [if_pos (by simpa using h0)]
  · rw [if_neg (by simpa using h0)]
    obtain ⟨⟨n, es, ss⟩, h1, h2, h3, h4⟩ := DrawCutWeight_ok hb
    simp only at h2 h3 h4
    rw [h1]
    simp only [Option.bind_some, impl_CutWeight_eq, spec_CutWeight_eq (n := n) (es := es) ⟨by omega, by omega⟩ (by omega)]
    rw [if_neg (by simp)]
    by_cases hneg : cutW n es ss < 0
    · rw [if_pos (by simpa using hneg), if_pos (by simpa using cutW_neg.1 hneg), alive_eq]
      simp [cutW_neg.1 hneg]
    · rw [if_neg (by simpa using hneg), others_eq h4]
      obtain ⟨hg, hl⟩ := cutW_neg.2 hneg
      simp only [Option.bind_some]
      have e0 : cutW n es ss = cutF es ss es.length := by unfold cutW; rw [if_pos ⟨gok_true hg, hl⟩]
      have e1 : cutW n es (ss.map (!·)) = cutW n es ss := by unfold cutW; rw [if_pos ⟨gok_true hg, by simpa using hl⟩, if_pos ⟨gok_true hg, hl⟩, cutF_not hg hl _ (Nat.le_refl _)]
      have e2 : cutW n es (List.replicate ((ss.length : Int).toNat) false) = 0 := by unfold cutW; rw [if_pos ⟨gok_true hg, by simpa using hl⟩, cutF_const]
      rw [e1, chk_pos (fun _ => by omega), if_pos (by simp)]
      simp only [Option.bind_some, e2]
      simp
/-! Moves. -/
theorem flip_flip {ss : List Bool} {v : Nat} (hv : v < ss.length) : flipS (flipS ss v) v = ss := by
  refine list_eq_of (d := false) (by simp [flipS]) fun k hk => ?_
  have hv' : v < (flipS ss v).length := by simpa [flipS] using hv
  rw [getD_flip hv']
  by_cases h : k = v
  · subst h; rw [if_pos rfl, getD_flip hv, if_pos rfl]; simp
  · rw [if_neg h, getD_flip hv, if_neg h]
theorem DrawCutGain_ok {b : List Int} (hb : Bts b) : gives (spec_DrawCutGain b) fun r => (-1 ≤ r.1 ∧ r.1 ≤ 17) ∧ r.2.1.length ≤ 20 ∧ r.2.2.1.length ≤ 1001 := by
  unfold spec_DrawCutGain
  rw [gives_bind]
  refine (open_ok2 hb).mono ?_
  rintro ⟨c, p⟩ ⟨h1, h2, h3⟩
  simp only at h1 h2 h3 ⊢
  unfold spec_l20At
  simp only [gives_bind]
  refine (Graph_ok h1 ⟨by omega, by omega⟩).mono ?_
  rintro ⟨n, es, q⟩ ⟨g1, g2, g3, g4⟩
  simp only at g1 g2 g3 g4 ⊢
  refine (pick_ok h1 ⟨by omega, by omega⟩).mono ?_
  rintro ⟨y0, p0⟩ ⟨e0, k0, k1, k2⟩
  simp only at e0 k0 k1 k2 ⊢
  refine (pick_ok h1 ⟨by omega, by omega⟩).mono ?_
  rintro ⟨y1, p1⟩ ⟨e1, m0, m1, m2⟩
  simp only at e1 m0 m1 m2 ⊢
  simp only [gives_chk, gives_bind]
  have k3 := k1 (by omega)
  have m3 := m1 (by omega)
  refine ⟨by omega, by omega, ?_⟩
  refine (pick_ok h1 ⟨by omega, by omega⟩).mono ?_
  rintro ⟨y2, p2⟩ ⟨e2, s0, s1, s2⟩
  simp only at e2 s0 s1 s2 ⊢
  have s3 := s1 (by omega)
  simp only [gives_chk, gives_some]
  refine ⟨by omega, by omega, by omega, ?_⟩
  refine (Sides_ok h1 ⟨by omega, by omega⟩ (by omega)).mono ?_
  rintro ⟨ss, q'⟩ h5
  exact ⟨g1, g2, h5⟩
theorem gainV_out {n v : Int} {es : List (Int × Int × Int)} {ss : List Bool} (h : v < 0 ∨ (ss.length : Int) ≤ v) : gainV n es ss v = 0 := by
  unfold gainV; rw [if_neg]; rintro ⟨_, h2, h3, h4⟩; omega
theorem gainV_bound {n v : Int} {es : List (Int × Int × Int)} {ss : List Bool} : -800 ≤ gainV n es ss v ∧ gainV n es ss v ≤ 800 := by
  unfold gainV
  split
  · rename_i h
    have hg := of_gok h.1
    have := gainF_bound (ss := ss) (v := v) hg es.length (Nat.le_refl _)
    have := hg.2.2.1
    omega
  · omega
theorem FnCutGain_true {b : List Int} (hb : Bts b) : laws_FnCutGain b = some true := by
  unfold laws_FnCutGain
  by_cases h0 : (1048576 : Int) < b.length
  · rw [if_pos (by simpa using h0)]
  · rw [if_neg (by simpa using h0)]
    obtain ⟨⟨n, es, ss, v⟩, h1, h2, h3, h4⟩ := DrawCutGain_ok hb
    simp only at h2 h3 h4
    rw [h1]
    simp only [Option.bind_some, impl_CutGain_eq, spec_CutGain_eq (n := n) (es := es) ⟨by omega, by omega⟩ (by omega)]
    rw [if_neg (by simp)]
    by_cases hv : v < 0 ∨ (ss.length : Int) ≤ v
    · rw [if_pos (by simpa using hv), gainV_out hv, alive_eq]; rfl
    · rw [if_neg (by simpa using hv)]
      obtain ⟨j, rfl⟩ : ∃ j : Nat, v = j := ⟨v.toNat, by omega⟩
      have hj : j < ss.length := by omega
      have e1 : ([] ++ ss).set (j : Int).toNat (!(ss.getD (j : Int).toNat false)) = flipS ss j := by simp [flipS]
      have hb1 := gainV_bound (n := n) (es := es) (ss := ss) (v := j)
      rw [e1, chk_pos (by omega), chk_pos (by omega), chk_pos (by simp; omega), chk_pos (by omega)]
      simp only [Option.bind_some, impl_CutWeight_eq]
      have hfl : (flipS ss j).length = ss.length := by simp [flipS]
      have key : gainV n es (flipS ss j) j = - gainV n es ss j ∧ (cutW n es ss < 0 ∨ cutW n es (flipS ss j) = cutW n es ss - gainV n es ss j) ∧ cutW n es ss ≤ 800 ∧ -1 ≤ cutW n es ss := by
        by_cases hok : gok n es = true ∧ (ss.length : Int) = n
        · have hg := of_gok hok.1
          have g1 := gain_cut hg hok.2 (show (j : Int) < n by omega) es.length (Nat.le_refl _)
          have g2 := gain_cut (ss := flipS ss j) hg (by rw [hfl]; exact hok.2) (show (j : Int) < n by omega) es.length (Nat.le_refl _)
          rw [flip_flip hj] at g2
          have w1 : cutW n es ss = cutF es ss es.length := by unfold cutW; rw [if_pos hok]
          have w2 : cutW n es (flipS ss j) = cutF es (flipS ss j) es.length := by unfold cutW; rw [if_pos ⟨hok.1, by rw [hfl]; exact hok.2⟩]
          have v1 : gainV n es ss j = gainF es ss j es.length := by unfold gainV; rw [if_pos ⟨hok.1, hok.2, by omega, by omega⟩]
          have v2 : gainV n es (flipS ss j) j = gainF es (flipS ss j) j es.length := by unfold gainV; rw [if_pos ⟨hok.1, by rw [hfl]; exact hok.2, by omega, by omega⟩]
          have cb := cutF_bound (ss := ss) hg es.length (Nat.le_refl _)
          have hle := hg.2.2.1
          omega
        · have w1 : cutW n es ss = -1 := by unfold cutW; rw [if_neg hok]
          have v1 : gainV n es ss j = 0 := by unfold gainV; rw [if_neg (fun hh => hok ⟨hh.1, hh.2.1⟩)]
          have v2 : gainV n es (flipS ss j) j = 0 := by unfold gainV; rw [if_neg (fun hh => hok ⟨hh.1, by have := hh.2.1; rw [hfl] at this; exact this⟩)]
          omega
      obtain ⟨k1, k2, k3, k4⟩ := key
      rw [k1]
      simp only [beq_self_eq_true, ↓reduceIte, Option.bind_some, Bool.true_and]
      by_cases hneg : cutW n es ss < 0
      · simp only [hneg, decide_true, Bool.not_true, Bool.false_eq_true, ↓reduceIte, Option.bind_some, Bool.true_or]
        rw [chk_pos (by have : (default : Int) = 0 := rfl; omega)]
      · simp only [hneg, decide_false, Bool.not_false, ↓reduceIte, Option.bind_some, Bool.false_or]
        rw [chk_pos (by omega)]
        rcases k2 with k2 | k2
        · exact absurd k2 hneg
        · rw [k2]; simp
end Go.Proofs.Ytlpkjcmiohppcaa
