/- Weights of edges; neighbours in both directions. -/
import Derived.Test.YtdjckcedpnabpaaDoorNd
set_option linter.unusedSimpArgs false
set_option linter.unusedVariables false
namespace Go.Proofs.YtdjckcedpnabpaaDoor
open Go Go.Av
attribute [local go_sem] gives_chk gives_ite gives_some gives_bind gives_join Sum.elim_inl Sum.elim_inr decide_eq_true_eq decide_eq_false_iff_not Bool.not_eq_true' Bool.not_eq_false' Bool.or_eq_true Bool.and_eq_true Bool.not_eq_eq_eq_not beq_iff_eq bne_iff_ne ne_eq Bool.or_eq_false_iff Bool.and_eq_false_iff Bool.not_eq_true Bool.not_eq_false Bool.not_true Bool.not_false Int.toNat_natCast beq_eq_false_iff_ne bne_eq_false_iff_eq Decidable.not_not Bool.default_bool

theorem has_eq {l : List Int} {v : Int} (hl : l.length ≤ 1000000000) : laws_has l v = some (yes (v ∈ l)) := by
  unfold laws_has
  have h := loop_scan (N := l.length) (p := fun k => ¬ l.getD k 0 = v) (fun k : Nat => (k : Int)) (Sum.inl () : Unit ⊕ Unit) (Sum.inr ()) (body := laws_has_b0 l v) (fun k hk _ => by
    simp only [laws_has_b0, Int.toNat_natCast, decide_eq_true_eq, beq_iff_eq]
    by_cases h : k < l.length
    · rw [if_pos (by omega), if_pos h, chk_pos (by omega)]
      by_cases h2 : l.getD k 0 = v
      · rw [if_pos h2, if_neg (by simpa using h2)]
      · rw [if_neg h2, if_pos h2, chk_pos (by omega)]; rfl
    · rw [if_neg (by omega), if_neg h])
  rw [show ((0 : Nat) : Int) = 0 from rfl] at h
  rw [h]
  by_cases hm : v ∈ l
  · obtain ⟨i, hi, he⟩ := List.mem_iff_getElem.1 hm
    rw [if_neg (fun hh => hh i hi (by simp [hi, he])), yes_true hm]; rfl
  · rw [if_pos (fun k hk he => hm (by rw [← he]; simp only [List.getD_eq_getElem?_getD, List.getElem?_eq_getElem hk, Option.getD_some]; exact List.getElem_mem hk)), yes_false hm]; rfl

/-! Weights. -/
def WV (es : List (Int × Int × Int)) (a b w : Int) : Prop := (∃ e ∈ es, e.1 = a ∧ e.2.1 = b ∧ w = e.2.2) ∨ (w = -1 ∧ ∀ e ∈ es, ¬ (e.1 = a ∧ e.2.1 = b))
theorem ends_uniq {es : List (Int × Int × Int)} (hP : es.Pairwise ltE) {x y : Int × Int × Int} (hx : x ∈ es) (hy : y ∈ es) (h1 : x.1 = y.1) (h2 : x.2.1 = y.2.1) : x = y := by
  obtain ⟨i, hi, rfl⟩ := List.getElem_of_mem hx
  obtain ⟨j, hj, rfl⟩ := List.getElem_of_mem hy
  rcases Nat.lt_trichotomy i j with h | h | h
  · have := List.pairwise_iff_getElem.1 hP i j hi hj h
    unfold ltE at this; omega
  · subst h; rfl
  · have := List.pairwise_iff_getElem.1 hP j i hj hi h
    unfold ltE at this; omega
theorem WV.uniq {n : Int} {es : List (Int × Int × Int)} (hg : GOk n es) {a b v w : Int} (h : WV es a b v) (g : WV es a b w) : v = w := by
  rcases h with ⟨x, x1, x2, x3, x4⟩ | ⟨x1, x2⟩ <;> rcases g with ⟨y, y1, y2, y3, y4⟩ | ⟨y1, y2⟩
  · have := ends_uniq (gok_iff.1 hg).2.2.2.2 x1 y1 (by omega) (by omega)
    rw [x4, y4, this]
  · exact absurd ⟨x2, x3⟩ (y2 x x1)
  · exact absurd ⟨y2, y3⟩ (x2 y y1)
  · omega
theorem WV.turn {es : List (Int × Int × Int)} {a b w : Int} (h : WV es a b w) : WV (turnF es) b a w := by
  rcases h with ⟨x, x1, x2, x3, x4⟩ | ⟨x1, x2⟩
  · exact .inl ⟨sw x, (turnF_perm es).mem_iff.2 (List.mem_map.2 ⟨x, x1, rfl⟩), x3, x2, x4⟩
  · refine .inr ⟨x1, fun e he h => ?_⟩
    obtain ⟨x, hx, rfl⟩ := List.mem_map.1 ((turnF_perm es).mem_iff.1 he)
    exact x2 x hx ⟨h.2, h.1⟩
theorem wv_loop {es : List (Int × Int × Int)} {a b : Int} {body : Int → Option (Int ⊕ (Unit ⊕ Int))} (hx : es.length ≤ 1000)
    (hb : ∀ k : Nat, k ≤ es.length → body k = if k < es.length then (if (es.getD k (0, 0, 0)).1 = a ∧ (es.getD k (0, 0, 0)).2.1 = b then some (.inr (.inr (es.getD k (0, 0, 0)).2.2)) else some (.inl ((k : Int) + 1))) else some (.inr (.inl ()))) :
    gives ((loop body 0).bind (Sum.elim (fun (_ : Unit) => some (-1)) (fun (t6 : Int) => some t6))) (WV es a b) := by
  rw [gives_bind]
  refine (gives_loop (Q := fun r : Unit ⊕ Int => match r with | .inl _ => ∀ e ∈ es, ¬ (e.1 = a ∧ e.2.1 = b) | .inr w => ∃ e ∈ es, e.1 = a ∧ e.2.1 = b ∧ w = e.2.2) (fun k : Nat => (k : Int)) (fun k => k ≤ es.length ∧ ∀ j, j < k → ¬ ((es.getD j (0, 0, 0)).1 = a ∧ (es.getD j (0, 0, 0)).2.1 = b)) (fun k => es.length - k) ?_ 0 ⟨Nat.zero_le _, fun j hj => absurd hj (Nat.not_lt_zero _)⟩).mono ?_
  · rintro k ⟨hk, h⟩
    rw [hb k hk]
    split
    · rename_i hkl
      split
      · rename_i he
        exact gives_some.2 ⟨_, by rw [getE hkl]; exact List.getElem_mem hkl, he.1, he.2, rfl⟩
      · rename_i he
        refine gives_some.2 ⟨k + 1, ⟨by omega, fun j hj => ?_⟩, by omega, by simp only [Int.natCast_add, Int.natCast_one]⟩
        by_cases hjk : j = k
        · subst hjk; exact he
        · exact h j (by omega)
    · rename_i hkl
      refine gives_some.2 fun e he h2 => ?_
      obtain ⟨j, hj, rfl⟩ := List.getElem_of_mem he
      exact h j (by omega) (by rw [getE hj]; exact h2)
  · rintro (u | w) h
    · exact gives_some.2 (.inr ⟨rfl, h⟩)
    · exact gives_some.2 (.inl h)
/-! Neighbours. -/
theorem selL_asc {p : Nat → Bool} : ∀ n, (selL p n).Pairwise (· < ·)
  | 0 => List.Pairwise.nil
  | n + 1 => by
    simp only [selL]
    split
    · refine List.pairwise_append.2 ⟨selL_asc n, List.pairwise_singleton .., fun x hx y hy => ?_⟩
      obtain ⟨j, h1, h2, _⟩ := selL_mem.1 hx
      rw [List.mem_singleton.1 hy]; omega
    · exact selL_asc n
theorem nearL_none {n v : Int} {es : List (Int × Int × Int)} (hg : GOk n es) (hv : ¬ (0 ≤ v ∧ v < n)) : nearL n es v n.toNat = [] := by
  rcases h : nearL n es v n.toNat with _ | ⟨x, l⟩
  · rfl
  · have hx := (nearL_mem (u := x) n.toNat).1 (by rw [h]; exact List.mem_cons_self)
    exact absurd (adj_in hg hx.2.2).1 hv
theorem impl_NearOf_is {n v : Int} {es : List (Int × Int × Int)} (hg : GOk n es) : impl_NearOf n es v = some (nearL n es v n.toNat) := by
  have h0 := hg.1
  have h16 := hg.2.1
  refine gives_eq.1 ?_
  unfold impl_NearOf
  rw [impl_GraphValid_eq, gok_true hg, Option.bind_some, if_pos (by rfl), impl_has_eq, Option.bind_some]
  by_cases hv : 0 ≤ v ∧ v < n
  · rw [decide_eq_true hv, if_neg (by simp), gives_bind]
    refine (impl_nearMasks_ok hg).mono fun ms hm => ?_
    have hml := hm.1
    have hadj : ∀ a b : Nat, Adj es a b → b < n.toNat := fun a b hab => by have := adj_in hg hab; omega
    have hL : impl_vertexMask_list (ms.getD v.toNat 0) = some (nearL n es v n.toNat) := by
      rw [impl_list_near (n := n) (es := es) (v := v.toNat) h16 hm hadj (by omega), nearL_sel, show ((v.toNat : Nat) : Int) = v from by omega]
    rw [gives_chk, hL, Option.bind_some]
    exact ⟨by omega, gives_some.2 rfl⟩
  · rw [decide_eq_false hv, if_pos (by simp), nearL_none hg hv]
    exact gives_some.2 rfl
theorem impl_NearOf_not {n v : Int} {es : List (Int × Int × Int)} (hg : ¬ GOk n es) : impl_NearOf n es v = some [] := by
  unfold impl_NearOf
  rw [impl_GraphValid_eq, gok_false hg, Option.bind_some, if_neg (by simp), Option.bind_some, if_pos (by simp)]
theorem spec_NearOf_not {n v : Int} {es : List (Int × Int × Int)} (hn : -9223372036854775808 ≤ n ∧ n ≤ 9223372036854775807) (hx : es.length ≤ 1000000000) (hg : ¬ GOk n es) : spec_NearOf n es v = some [] := by
  unfold spec_NearOf
  have h : loop (spec_NearOf_b1 n es v) (0, []) = some [] := by
    refine gives_eq.1 ?_
    refine gives_loop (fun k : Nat => ((k : Int), [])) (fun k => k = 0) (fun k => 0) ?_ 0 rfl
    intro k hk
    subst hk
    unfold spec_NearOf_b1
    dsimp only
    rw [spec_GraphValid_eq hn hx, gok_false hg]
    by_cases h : 0 < n
    · rw [if_pos (by simp; omega), Option.bind_some, if_neg (by simp)]
      exact gives_some.2 rfl
    · rw [if_neg (by rw [decide_eq_true_eq]; omega), Option.bind_some, if_neg (by simp)]
      exact gives_some.2 rfl
  rw [h]; rfl
theorem nearL_turn {n v : Int} {es : List (Int × Int × Int)} (k : Nat) : nearL n (turnF es) v k = nearL n es v k := by
  rw [nearL_sel, nearL_sel]
  refine selL_congr fun j hj => ?_
  rw [Bool.eq_iff_iff, yes_iff, yes_iff, adj_turn]
theorem FnNearOf_true {b : List Int} (hb : Bts b) : laws_FnNearOf b = some true := by
  unfold laws_FnNearOf
  by_cases h0 : (1048576 : Int) < b.length
  · rw [if_pos (by simpa using h0)]
  rw [if_neg (by simpa using h0)]
  obtain ⟨⟨n, es, v⟩, h1, h2, h3⟩ : gives (spec_DrawNearOf b) fun r => (-1 ≤ r.1 ∧ r.1 ≤ 17) ∧ r.2.1.length ≤ 20 := by
    unfold spec_DrawNearOf
    rw [gives_bind]
    refine (open_ok hb).mono' (by rfl) ?_
    rintro ⟨c, p⟩ ⟨h1, h2, h3⟩
    simp only at h1 h2 h3 ⊢
    rw [gives_bind]
    refine (At_ok h1 ⟨by omega, by omega⟩).mono ?_
    rintro ⟨n, es, v, q⟩ ⟨g1, g2, g3, g4⟩
    exact gives_some.2 ⟨g1, g2⟩
  simp only at h2 h3
  rw [h1, Option.bind_some]
  dsimp only
  by_cases hg : GOk n es
  · have h16 := hg.2.1
    have hgt := turnF_ok hg
    have hnl := nearL_len n es v n.toNat
    have hxm : ∀ u, u ∈ nearL n es v n.toNat ↔ (0 ≤ u ∧ u < n.toNat ∧ Adj es v u) := fun u => nearL_mem n.toNat
    have hasc : (nearL n es v n.toNat).Pairwise (· < ·) := by rw [nearL_sel]; exact selL_asc _
    rw [impl_NearOf_is hg, Option.bind_some, spec_NearOf_eq hg, Option.bind_some, sameInts_self (by omega), Option.bind_some, if_neg (by simp)]
    have hloop : loop (laws_FnNearOf_b0 n es v (nearL n es v n.toNat)) 0 = some (.inl ()) := by
      generalize hX : nearL n es v n.toNat = X at hnl hxm hasc
      refine gives_eq.1 ?_
      refine gives_loop (fun k : Nat => (k : Int)) (fun k => k ≤ X.length) (fun k => X.length - k) ?_ 0 (Nat.zero_le _)
      intro k hk
      unfold laws_FnNearOf_b0
      rw [gives_ite]
      refine ⟨fun hc => ?_, fun _ => gives_some.2 rfl⟩
      simp only [decide_eq_true_eq] at hc
      have hkl : k < X.length := by omega
      have hXk : X.getD k 0 = X[k] := by rw [List.getD_eq_getElem?_getD, List.getElem?_eq_getElem hkl]; rfl
      have hm := (hxm X[k]).1 (List.getElem_mem hkl)
      have hvi := adj_in hg hm.2.2
      have hne : ¬ X[k] = v := fun e => by
        have ha := hm.2.2
        rw [e] at ha
        rcases ha with ha | ha <;> (obtain ⟨j, hj, e1, e2⟩ := ha; have := gok_len hg hj; simp only [EOk] at this; omega)
      have hv2 : v ∈ nearL n es X[k] n.toNat := (nearL_mem n.toNat).2 ⟨hvi.1.1, by omega, hm.2.2.symm⟩
      have hlt : 0 < k → X.getD (k - 1) 0 < X[k] := fun h => by
        rw [List.getD_eq_getElem?_getD, List.getElem?_eq_getElem (show k - 1 < X.length by omega), Option.getD_some]
        exact List.pairwise_iff_getElem.1 hasc (k - 1) k (by omega) hkl (by omega)
      have hsub : ((k : Int) - 1).toNat = k - 1 := by omega
      have hnl2 := nearL_len n es X[k] n.toNat
      rw [gives_join, gives_chk, Int.toNat_natCast, hXk, impl_NearOf_is hg, Option.bind_some, has_eq (by omega), Option.bind_some, yes_true hv2, if_pos rfl, if_neg (by rw [beq_iff_eq]; exact hne), gives_ite]
      refine ⟨by omega, fun hk0 => ?_, fun _ => ?_⟩
      rotate_left
      · dsimp only
        rw [gives_chk]
        exact ⟨by omega, gives_some.2 ⟨k + 1, by omega, by omega, by omega⟩⟩
      simp only [decide_eq_true_eq] at hk0
      rw [gives_chk, gives_chk, hsub, if_neg (by rw [decide_eq_true_eq]; have := hlt (by omega); omega)]
      refine ⟨by omega, by omega, ?_⟩
      dsimp only
      rw [gives_chk]
      exact ⟨by omega, gives_some.2 ⟨k + 1, by omega, by omega, by omega⟩⟩
    rw [hloop, Option.bind_some, Sum.elim_inl, impl_TurnGraph_eq hg, Option.bind_some]
    dsimp only
    rw [impl_NearOf_is hgt, nearL_turn, Option.bind_some, sameInts_self (by omega), Option.bind_some, if_pos rfl, alive_eq]
    rfl
  · rw [impl_NearOf_not hg, Option.bind_some, spec_NearOf_not ⟨by omega, by omega⟩ (by omega) hg, Option.bind_some, sameInts_self (by simp), Option.bind_some, if_neg (by simp)]
    have hloop : loop (laws_FnNearOf_b0 n es v []) 0 = some (.inl ()) := by
      refine gives_eq.1 ?_
      refine gives_loop (fun k : Nat => (k : Int)) (fun k => k = 0) (fun k => 0) ?_ 0 rfl
      intro k hk
      subst hk
      unfold laws_FnNearOf_b0
      rw [if_neg (by simp)]
      exact gives_some.2 rfl
    rw [hloop, Option.bind_some, Sum.elim_inl, impl_TurnGraph_not hg, Option.bind_some]
    dsimp only
    have hg0 : GOk 0 [] := gok_iff.2 ⟨by omega, by omega, by simp, by simp, List.Pairwise.nil⟩
    rw [impl_NearOf_is hg0, show nearL 0 [] v (0 : Int).toNat = [] from rfl, Option.bind_some, sameInts_self (by simp), Option.bind_some, if_pos rfl, alive_eq]
    rfl
end Go.Proofs.YtdjckcedpnabpaaDoor
