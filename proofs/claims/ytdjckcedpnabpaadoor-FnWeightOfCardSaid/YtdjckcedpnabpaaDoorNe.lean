/- Weights of edges; neighbours in both directions. -/
import Derived.Test.YtdjckcedpnabpaaDoorNd
set_option linter.unusedSimpArgs false
set_option linter.unusedVariables false
namespace Go.Proofs.YtdjckcedpnabpaaDoor
open Go Go.Av
attribute [local go_sem] gives_chk gives_ite gives_some gives_bind gives_join Sum.elim_inl Sum.elim_inr decide_eq_true_eq decide_eq_false_iff_not Bool.not_eq_true' Bool.not_eq_false' Bool.or_eq_true Bool.and_eq_true Bool.not_eq_eq_eq_not beq_iff_eq bne_iff_ne ne_eq Bool.or_eq_false_iff Bool.and_eq_false_iff Bool.not_eq_true Bool.not_eq_false Bool.not_true Bool.not_false Int.toNat_natCast beq_eq_false_iff_ne bne_eq_false_iff_eq Decidable.not_not Bool.default_bool

theorem has_eq {l : List Int} {v : Int} (hl : l.length ≤ 1000000000) : laws_has l v = some (yes (v ∈ l)) := by
  unfold laws_has
  have h := loop_scan (N := l.length) (p := fun k => ¬ l.getD k 0 = v) (fun k : Nat => (k : Int)) (Sum.inl () : Unit ⊕ Unit) (Sum.inr ()) (body := laws_has_b0 l v) (fun k hk _ => by
    simp only [laws_has_b0, Int.toNat_natCast, decide_eq_true_eq, beq_iff_eq]
    by_cases h : k < l.length
    · rw [if_pos (by omega), if_pos h, chk_pos (by omega)]
      by_cases h2 : l.getD k 0 = v
      · rw [if_pos h2, if_neg (by simpa using h2)]
      · rw [if_neg h2, if_pos h2, chk_pos (by omega)]; rfl
    · rw [if_neg (by omega), if_neg h])
  rw [show ((0 : Nat) : Int) = 0 from rfl] at h
  rw [h]
  by_cases hm : v ∈ l
  · obtain ⟨i, hi, he⟩ := List.mem_iff_getElem.1 hm
    rw [if_neg (fun hh => hh i hi (by simp [hi, he])), yes_true hm]; rfl
  · rw [if_pos (fun k hk he => hm (by rw [← he]; simp only [List.getD_eq_getElem?_getD, List.getElem?_eq_getElem hk, Option.getD_some]; exact List.getElem_mem hk)), yes_false hm]; rfl

/-! Weights. -/
def WV (es : List (Int × Int × Int)) (a b w : Int) : Prop := (∃ e ∈ es, e.1 = a ∧ e.2.1 = b ∧ w = e.2.2) ∨ (w = -1 ∧ ∀ e ∈ es, ¬ (e.1 = a ∧ e.2.1 = b))
theorem ends_uniq {es : List (Int × Int × Int)} (hP : es.Pairwise ltE) {x y : Int × Int × Int} (hx : x ∈ es) (hy : y ∈ es) (h1 : x.1 = y.1) (h2 : x.2.1 = y.2.1) : x = y := by
  obtain ⟨i, hi, rfl⟩ := List.getElem_of_mem hx
  obtain ⟨j, hj, rfl⟩ := List.getElem_of_mem hy
  rcases Nat.lt_trichotomy i j with h | h | h
  · have := List.pairwise_iff_getElem.1 hP i j hi hj h
    unfold ltE at this; omega
  · subst h; rfl
  · have := List.pairwise_iff_getElem.1 hP j i hj hi h
    unfold ltE at this; omega
theorem WV.uniq {n : Int} {es : List (Int × Int × Int)} (hg : GOk n es) {a b v w : Int} (h : WV es a b v) (g : WV es a b w) : v = w := by
  rcases h with ⟨x, x1, x2, x3, x4⟩ | ⟨x1, x2⟩ <;> rcases g with ⟨y, y1, y2, y3, y4⟩ | ⟨y1, y2⟩
  · have := ends_uniq (gok_iff.1 hg).2.2.2.2 x1 y1 (by omega) (by omega)
    rw [x4, y4, this]
  · exact absurd ⟨x2, x3⟩ (y2 x x1)
  · exact absurd ⟨y2, y3⟩ (x2 y y1)
  · omega
theorem WV.turn {es : List (Int × Int × Int)} {a b w : Int} (h : WV es a b w) : WV (turnF es) b a w := by
  rcases h with ⟨x, x1, x2, x3, x4⟩ | ⟨x1, x2⟩
  · exact .inl ⟨sw x, (turnF_perm es).mem_iff.2 (List.mem_map.2 ⟨x, x1, rfl⟩), x3, x2, x4⟩
  · refine .inr ⟨x1, fun e he h => ?_⟩
    obtain ⟨x, hx, rfl⟩ := List.mem_map.1 ((turnF_perm es).mem_iff.1 he)
    exact x2 x hx ⟨h.2, h.1⟩
theorem wv_loop {es : List (Int × Int × Int)} {a b : Int} {body : Int → Option (Int ⊕ (Unit ⊕ Int))} (hx : es.length ≤ 1000)
    (hb : ∀ k : Nat, k ≤ es.length → body k = if k < es.length then (if (es.getD k (0, 0, 0)).1 = a ∧ (es.getD k (0, 0, 0)).2.1 = b then some (.inr (.inr (es.getD k (0, 0, 0)).2.2)) else some (.inl ((k : Int) + 1))) else some (.inr (.inl ()))) :
    gives ((loop body 0).bind (Sum.elim (fun (_ : Unit) => some (-1)) (fun (t6 : Int) => some t6))) (WV es a b) := by
  rw [gives_bind]
  refine (gives_loop (Q := fun r : Unit ⊕ Int => match r with | .inl _ => ∀ e ∈ es, ¬ (e.1 = a ∧ e.2.1 = b) | .inr w => ∃ e ∈ es, e.1 = a ∧ e.2.1 = b ∧ w = e.2.2) (fun k : Nat => (k : Int)) (fun k => k ≤ es.length ∧ ∀ j, j < k → ¬ ((es.getD j (0, 0, 0)).1 = a ∧ (es.getD j (0, 0, 0)).2.1 = b)) (fun k => es.length - k) ?_ 0 ⟨Nat.zero_le _, fun j hj => absurd hj (Nat.not_lt_zero _)⟩).mono ?_
  · rintro k ⟨hk, h⟩
    rw [hb k hk]
    split
    · rename_i hkl
      split
      · rename_i he
        exact gives_some.2 ⟨_, by rw [getE hkl]; exact List.getElem_mem hkl, he.1, he.2, rfl⟩
      · rename_i he
        refine gives_some.2 ⟨k + 1, ⟨by omega, fun j hj => ?_⟩, by omega, by simp only [Int.natCast_add, Int.natCast_one]⟩
        by_cases hjk : j = k
        · subst hjk; exact he
        · exact h j (by omega)
    · rename_i hkl
      refine gives_some.2 fun e he h2 => ?_
      obtain ⟨j, hj, rfl⟩ := List.getElem_of_mem he
      exact h j (by omega) (by rw [getE hj]; exact h2)
  · rintro (u | w) h
    · exact gives_some.2 (.inr ⟨rfl, h⟩)
    · exact gives_some.2 (.inl h)
theorem impl_WeightOf_ok {n : Int} {es : List (Int × Int × Int)} (hg : GOk n es) (a b : Int) : gives (impl_WeightOf n es a b) (WV es a b) := by
  have h40 := hg.2.2.1
  unfold impl_WeightOf
  rw [impl_GraphValid_eq, gok_true hg, Option.bind_some, if_neg (by simp)]
  refine wv_loop (by omega) fun k hk => ?_
  unfold impl_WeightOf_b0
  simp only [decide_eq_true_eq, Int.toNat_natCast]
  by_cases h : k < es.length
  · rw [if_pos (by omega), if_pos h, chk_pos (by omega)]
    by_cases h2 : (es.getD k (0, 0, 0)).1 = a ∧ (es.getD k (0, 0, 0)).2.1 = b
    · rw [if_pos h2, if_pos (by simpa using h2)]
    · rw [if_neg h2, if_neg (by simpa using h2), chk_pos (by omega)]
  · rw [if_neg (by omega), if_neg h]
theorem spec_WeightOf_ok {n : Int} {es : List (Int × Int × Int)} (hg : GOk n es) (a b : Int) : gives (spec_WeightOf n es a b) (WV es a b) := by
  have h0 := hg.1
  have h16 := hg.2.1
  have h40 := hg.2.2.1
  unfold spec_WeightOf
  refine wv_loop (by omega) fun k hk => ?_
  unfold spec_WeightOf_b0
  dsimp only
  rw [spec_GraphValid_eq ⟨by omega, by omega⟩ (by omega), gok_true hg, Int.toNat_natCast]
  by_cases h : k < es.length
  · have hd : decide ((k : Int) < (es.length : Int)) = true := decide_eq_true (by omega)
    rw [hd, if_pos rfl, Option.bind_some, if_pos (by rfl), if_pos h, chk_pos (by omega), chk_pos (by omega)]
    by_cases h2 : (es.getD k (0, 0, 0)).1 = a ∧ (es.getD k (0, 0, 0)).2.1 = b
    · rw [if_pos h2, if_pos (by simpa using h2), chk_pos (by omega)]
    · rw [if_neg h2, if_neg (by simpa using h2), chk_pos (by omega)]
  · have hd : decide ((k : Int) < (es.length : Int)) = false := decide_eq_false (by omega)
    rw [hd, if_neg (by simp), Option.bind_some, if_neg (by simp), if_neg h]
theorem impl_WeightOf_not {n : Int} {es : List (Int × Int × Int)} (hg : ¬ GOk n es) (a b : Int) : impl_WeightOf n es a b = some (-1) := by
  unfold impl_WeightOf
  rw [impl_GraphValid_eq, gok_false hg, Option.bind_some, if_pos (by rfl)]
theorem spec_WeightOf_not {n : Int} {es : List (Int × Int × Int)} (hn : -9223372036854775808 ≤ n ∧ n ≤ 9223372036854775807) (hx : es.length ≤ 1000000000) (hg : ¬ GOk n es) (a b : Int) : spec_WeightOf n es a b = some (-1) := by
  unfold spec_WeightOf
  have h : loop (spec_WeightOf_b0 n es a b) 0 = some (.inl ()) := by
    refine gives_eq.1 ?_
    refine gives_loop (fun k : Nat => (k : Int)) (fun k => k = 0) (fun k => 0) ?_ 0 rfl
    intro k hk
    subst hk
    unfold spec_WeightOf_b0
    dsimp only
    rw [spec_GraphValid_eq hn hx, gok_false hg]
    by_cases h : 0 < es.length
    · rw [if_pos (by rw [decide_eq_true_eq]; omega), Option.bind_some, if_neg (by simp)]
      exact gives_some.2 rfl
    · rw [if_neg (by rw [decide_eq_true_eq]; omega), Option.bind_some, if_neg (by simp)]
      exact gives_some.2 rfl
  rw [h]; rfl
theorem nxtL_ok {n v : Int} {es : List (Int × Int × Int)} (hg : GOk n es) : gives (impl_NextOf n es v) fun r => r.length ≤ 32 ∧ ∀ x, x ∈ r ↔ Nxt es es.length v x := by
  have h0 := hg.1
  have h16 := hg.2.1
  unfold impl_NextOf
  rw [impl_GraphValid_eq, gok_true hg, Option.bind_some, if_pos (by rfl), impl_has_eq, Option.bind_some]
  have hin : ∀ x, Nxt es es.length v x → 0 ≤ v ∧ v < n ∧ 0 ≤ x ∧ x < n := fun x ⟨j, hj, h1, h2⟩ => by
    have := gok_len hg hj
    simp only [EOk] at this
    omega
  by_cases hv : 0 ≤ v ∧ v < n
  · rw [decide_eq_true hv, if_neg (by simp), gives_bind]
    refine (impl_nextMasks_ok hg).mono fun ms hm => ?_
    have hml := hm.1
    have hmv := hm.2 v.toNat (by omega)
    dsimp only at hmv
    rw [gives_chk, impl_list_eq hmv.1.1 hmv.1.2, Option.bind_some]
    refine ⟨by omega, gives_some.2 ⟨selL_len _ 32, fun x => ?_⟩⟩
    have hvv : ((v.toNat : Nat) : Int) = v := by omega
    rw [selL_mem]
    constructor
    · rintro ⟨j, h1, h2, h3⟩
      have := (hmv.2 j).1 h3
      rw [hvv, ← h1] at this
      exact this
    · intro h
      have hx := hin x h
      refine ⟨x.toNat, by omega, by omega, (hmv.2 _).2 ?_⟩
      rw [hvv, show ((x.toNat : Nat) : Int) = x from by omega]
      exact h
  · rw [decide_eq_false hv, if_pos (by simp)]
    exact gives_some.2 ⟨by simp, fun x => ⟨fun h => absurd h List.not_mem_nil, fun h => absurd ⟨(hin x h).1, (hin x h).2.1⟩ hv⟩⟩
theorem nxtL_not {n v : Int} {es : List (Int × Int × Int)} (hg : ¬ GOk n es) : impl_NextOf n es v = some [] := by
  unfold impl_NextOf
  rw [impl_GraphValid_eq, gok_false hg, Option.bind_some, if_neg (by simp), Option.bind_some, if_pos (by simp)]
theorem FnWeightOf_true {b : List Int} (hb : Bts b) : laws_FnWeightOf b = some true := by
  unfold laws_FnWeightOf
  by_cases h0 : (1048576 : Int) < b.length
  · rw [if_pos (by simpa using h0)]
  rw [if_neg (by simpa using h0)]
  obtain ⟨⟨n, es, x, y⟩, h1, h2, h3⟩ : gives (spec_DrawWeightOf b) fun r => (-1 ≤ r.1 ∧ r.1 ≤ 17) ∧ r.2.1.length ≤ 20 := by
    unfold spec_DrawWeightOf
    rw [gives_bind]
    refine (open_ok hb).mono' (by rfl) ?_
    rintro ⟨c, p⟩ ⟨h1, h2, h3⟩
    simp only at h1 h2 h3 ⊢
    rw [gives_bind]
    refine (At_ok h1 ⟨by omega, by omega⟩).mono ?_
    rintro ⟨n, es, v, q⟩ ⟨g1, g2, g3, g4⟩
    simp only at g1 g2 g3 g4 ⊢
    rw [gives_bind]
    refine (pick_ok h1 ⟨by omega, by omega⟩).mono ?_
    rintro ⟨y0, p0⟩ ⟨e0, f0⟩
    simp only at e0 f0 ⊢
    rw [gives_join]
    rw [gives_bind]
    by_cases hl : 0 < es.length
    · rw [if_pos (by rw [decide_eq_true_eq]; omega)]
      refine (pick_ok h1 ⟨by omega, by omega⟩).mono ?_
      rintro ⟨y1, p1⟩ ⟨e1, f1⟩
      simp only at e1 f1 ⊢
      rw [gives_ite]
      refine ⟨fun _ => ?_, fun _ => gives_some.2 ⟨g1, g2⟩⟩
      rw [gives_bind]
      refine (pick_ok h1 ⟨by omega, by omega⟩).mono ?_
      rintro ⟨y2, p2⟩ ⟨e2, f2, f2', _⟩
      simp only at e2 f2 f2' ⊢
      have := f2' (by omega)
      rw [gives_chk]
      exact ⟨by omega, gives_some.2 ⟨g1, g2⟩⟩
    · rw [if_neg (by rw [decide_eq_true_eq]; omega)]
      refine gives_some.2 ?_
      simp only
      rw [if_neg (by rw [Bool.and_eq_true, decide_eq_true_eq]; omega)]
      exact gives_some.2 ⟨g1, g2⟩
  simp only at h2 h3
  rw [h1, Option.bind_some]
  dsimp only
  by_cases hg : GOk n es
  · obtain ⟨w, hw1, hw2⟩ := impl_WeightOf_ok hg x y
    obtain ⟨w', hw1', hw2'⟩ := spec_WeightOf_ok hg x y
    have hww := hw2.uniq hg hw2'
    subst hww
    obtain ⟨l, hl1, hl2, hl3⟩ := nxtL_ok (v := x) hg
    have hgt := turnF_ok hg
    obtain ⟨u, hu1, hu2⟩ := impl_WeightOf_ok hgt y x
    have huw := hu2.uniq hgt hw2.turn
    subst huw
    have hwr : -1 ≤ u ∧ u ≤ 20 ∧ (0 ≤ u ↔ y ∈ l) := by
      rw [hl3, nxt_mem]
      rcases hw2 with ⟨e, e1, e2, e3, e4⟩ | ⟨e1, e2⟩
      · have := (gok_iff.1 hg).2.2.2.1 e e1
        unfold EN at this
        exact ⟨by omega, by omega, fun _ => ⟨e, e1, e2, e3⟩, fun _ => by omega⟩
      · exact ⟨by omega, by omega, fun h => by omega, fun ⟨e, h1, h2⟩ => absurd h2 (e2 e h1)⟩
    have c2 : (decide (0 ≤ u) == yes (y ∈ l)) = true := by
      rw [beq_iff_eq, Bool.eq_iff_iff, decide_eq_true_eq, yes_iff]; exact hwr.2.2
    rw [hw1, Option.bind_some, hw1', Option.bind_some, if_neg (by simp), if_pos (decide_eq_true hwr.1), if_pos (decide_eq_true hwr.2.1), hl1, Option.bind_some, has_eq (by omega), Option.bind_some, if_pos c2, impl_TurnGraph_eq hg, Option.bind_some]
    dsimp only
    rw [hu1, Option.bind_some, if_pos (by simp), alive_eq]
    rfl
  · rw [impl_WeightOf_not hg, Option.bind_some, spec_WeightOf_not ⟨by omega, by omega⟩ (by omega) hg, Option.bind_some, if_neg (by simp), if_pos (by rfl), if_pos (by rfl), nxtL_not hg, Option.bind_some, has_eq (by simp), Option.bind_some, yes_false (by simp), if_pos (by rfl), impl_TurnGraph_not hg, Option.bind_some]
    dsimp only
    have hw0 : impl_WeightOf 0 [] y x = some (-1) := by
      have hg0 : GOk 0 [] := gok_iff.2 ⟨by omega, by omega, by simp, by simp, List.Pairwise.nil⟩
      obtain ⟨w, hw1, hw2⟩ := impl_WeightOf_ok hg0 y x
      rw [hw1, hw2.uniq hg0 (.inr ⟨rfl, by simp⟩)]
    rw [hw0, Option.bind_some, if_pos (by rfl), alive_eq]
    rfl

/-! Neighbours. -/
theorem selL_asc {p : Nat → Bool} : ∀ n, (selL p n).Pairwise (· < ·)
  | 0 => List.Pairwise.nil
  | n + 1 => by
    simp only [selL]
    split
    · refine List.pairwise_append.2 ⟨selL_asc n, List.pairwise_singleton .., fun x hx y hy => ?_⟩
      obtain ⟨j, h1, h2, _⟩ := selL_mem.1 hx
      rw [List.mem_singleton.1 hy]; omega
    · exact selL_asc n
theorem nearL_none {n v : Int} {es : List (Int × Int × Int)} (hg : GOk n es) (hv : ¬ (0 ≤ v ∧ v < n)) : nearL n es v n.toNat = [] := by
  rcases h : nearL n es v n.toNat with _ | ⟨x, l⟩
  · rfl
  · have hx := (nearL_mem (u := x) n.toNat).1 (by rw [h]; exact List.mem_cons_self)
    exact absurd (adj_in hg hx.2.2).1 hv
theorem nearL_turn {n v : Int} {es : List (Int × Int × Int)} (k : Nat) : nearL n (turnF es) v k = nearL n es v k := by
  rw [nearL_sel, nearL_sel]
  refine selL_congr fun j hj => ?_
  rw [Bool.eq_iff_iff, yes_iff, yes_iff, adj_turn]
end Go.Proofs.YtdjckcedpnabpaaDoor
