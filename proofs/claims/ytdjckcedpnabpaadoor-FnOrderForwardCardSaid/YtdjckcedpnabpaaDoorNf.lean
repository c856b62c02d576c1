/- Orders in which edges lead forwards, and graphs turned. -/
import Derived.Test.YtdjckcedpnabpaaDoorMq
import Derived.Test.YtdjckcedpnabpaaDoorNb
set_option linter.unusedSimpArgs false
set_option linter.unusedVariables false
namespace Go.Proofs.YtdjckcedpnabpaaDoor
open Go Go.Av
attribute [local go_sem] gives_chk gives_ite gives_some gives_bind gives_join Sum.elim_inl Sum.elim_inr decide_eq_true_eq decide_eq_false_iff_not Bool.not_eq_true' Bool.not_eq_false' Bool.or_eq_true Bool.and_eq_true Bool.not_eq_eq_eq_not beq_iff_eq bne_iff_ne ne_eq Bool.or_eq_false_iff Bool.and_eq_false_iff Bool.not_eq_true Bool.not_eq_false Bool.not_true Bool.not_false Int.toNat_natCast beq_eq_false_iff_ne bne_eq_false_iff_eq Decidable.not_not Bool.default_bool

/-- All vertices once, edges lead to later ones. -/
def OrdC (n : Int) (es : List (Int × Int × Int)) (os : List Int) : Prop := GOk n es ∧ (os.length : Int) = n ∧ (∀ k, k < os.length → 0 ≤ os.getD k 0 ∧ os.getD k 0 < n) ∧ (∀ i j, i < j → j < os.length → ¬ os.getD i 0 = os.getD j 0) ∧
  ∀ e ∈ es, ∀ i j, i < os.length → j < os.length → os.getD i 0 = e.1 → os.getD j 0 = e.2.1 → i < j
theorem pl_spec {n : Int} {os : List Int} : ∀ m, m ≤ os.length → (∀ k, k < m → PlOk n os k) → ∀ i : Nat, i < n.toNat → ((plF n os m).getD i 0 = -1 ∧ ∀ j, j < m → ¬ os.getD j 0 = (i : Int)) ∨ ∃ j : Nat, j < m ∧ os.getD j 0 = (i : Int) ∧ (plF n os m).getD i 0 = (j : Int)
  | 0, _, _, i, hi => .inl ⟨by simp [plF, hi], fun j hj => absurd hj (Nat.not_lt_zero _)⟩
  | m + 1, hm, h, i, hi => by
    have ih := pl_spec m (by omega) (fun k hk => h k (by omega)) i hi
    obtain ⟨h1, h2, h3⟩ := h m (by omega)
    simp only [plF]
    rw [getD_set _ _ _ _ _ (by rw [plF_len]; omega)]
    by_cases hx : i = (os.getD m 0).toNat
    · rw [if_pos hx]
      exact .inr ⟨m, by omega, by omega, rfl⟩
    · rw [if_neg hx]
      rcases ih with ⟨g1, g2⟩ | ⟨j, g1, g2, g3⟩
      · refine .inl ⟨g1, fun j hj => ?_⟩
        by_cases hjm : j = m
        · subst hjm; omega
        · exact g2 j (by omega)
      · exact .inr ⟨j, by omega, g2, g3⟩
theorem all_in {n : Nat} {o : List Nat} (hd : o.Nodup) (hlt : ∀ v ∈ o, v < n) (hl : n ≤ o.length) {v : Nat} (hv : v < n) : v ∈ o := by
  refine Classical.byContradiction fun hno => ?_
  have := pigeon (fun v => v) n (v :: o) (List.nodup_cons.2 ⟨hno, hd⟩) fun k hk => by
    rcases List.mem_cons.1 hk with h | h
    · exact ⟨k, by omega, rfl⟩
    · exact ⟨k, hlt k h, rfl⟩
  simp only [List.length_cons] at this
  omega
theorem OrdC.all {n : Int} {es : List (Int × Int × Int)} {os : List Int} (h : OrdC n es os) {v : Int} (h0 : 0 ≤ v) (hv : v < n) : ∃ i, i < os.length ∧ os.getD i 0 = v := by
  obtain ⟨hg, hl, h1, h2, _⟩ := h
  have hm : v.toNat ∈ os.map Int.toNat := by
    refine all_in (n := n.toNat) ?_ (fun u hu => ?_) (by simp; omega) (by omega)
    · rw [List.nodup_iff_pairwise_ne, List.pairwise_iff_getElem]
      intro i j hi hj hij he
      simp only [List.length_map] at hi hj
      simp only [List.getElem_map] at he
      have a1 := h1 i hi
      have a2 := h1 j hj
      have a3 := h2 i j hij hj
      rw [getD_lt hi] at a1 a3
      rw [getD_lt hj] at a2 a3
      omega
    · obtain ⟨x, hx, rfl⟩ := List.mem_map.1 hu
      obtain ⟨i, hi, rfl⟩ := List.getElem_of_mem hx
      have := h1 i hi
      rw [getD_lt hi] at this
      omega
  obtain ⟨x, hx, he⟩ := List.mem_map.1 hm
  obtain ⟨i, hi, rfl⟩ := List.getElem_of_mem hx
  have := h1 i hi
  refine ⟨i, hi, ?_⟩
  rw [getD_lt hi] at this ⊢
  omega
theorem ordOk_iff {n : Int} {es : List (Int × Int × Int)} {os : List Int} : OrdOk n es os ↔ OrdC n es os := by
  constructor
  · rintro ⟨hg, hl, h1, h2⟩
    have hp := pl_spec os.length (Nat.le_refl _) h1
    refine ⟨hg, hl, fun k hk => ⟨(h1 k hk).1, (h1 k hk).2.1⟩, fun i j hij hj he => ?_, fun e he i j hi hj e1 e2 => ?_⟩
    · obtain ⟨a1, a2, a3⟩ := h1 j hj
      rcases pl_spec j (by omega) (fun k hk => h1 k (by omega)) (os.getD j 0).toNat (by omega) with ⟨_, h⟩ | ⟨j', _, _, h⟩
      · exact h i hij (by omega)
      · omega
    · obtain ⟨k, hk, rfl⟩ := List.getElem_of_mem he
      have h3 := h2 k hk
      rw [getE hk] at h3
      have hE := (gok_iff.1 hg).2.2.2.1 _ he
      unfold EN at hE
      have uq : ∀ (i' : Nat) (x : Int), i' < os.length → ∀ i, i < os.length → os.getD i 0 = x → os.getD i' 0 = x → i = i' := fun i' x hi' i hi e1 e2 => by
        have nd : ∀ i j, i < j → j < os.length → ¬ os.getD i 0 = os.getD j 0 := fun i j hij hj he => by
          obtain ⟨a1, a2, a3⟩ := h1 j hj
          rcases pl_spec j (by omega) (fun k hk => h1 k (by omega)) (os.getD j 0).toNat (by omega) with ⟨_, h⟩ | ⟨j', _, _, h⟩
          · exact h i hij (by omega)
          · omega
        rcases Nat.lt_trichotomy i i' with h | h | h
        · exact absurd (e1.trans e2.symm) (nd i i' h hi')
        · exact h
        · exact absurd (e2.trans e1.symm) (nd i' i h hi)
      rcases hp es[k].1.toNat (by omega) with ⟨_, a2⟩ | ⟨i', a1, a2, a3⟩
      · exact absurd (by omega) (a2 i hi)
      rcases hp es[k].2.1.toNat (by omega) with ⟨_, b2⟩ | ⟨j', b1, b2, b3⟩
      · exact absurd (by omega) (b2 j hj)
      rw [uq i' es[k].1 a1 i hi e1 (by omega), uq j' es[k].2.1 b1 j hj e2 (by omega)]
      omega
  · intro h
    obtain ⟨hg, hl, h1, h2, h3⟩ := h
    have hpl : ∀ m, m ≤ os.length → ∀ k, k < m → PlOk n os k := by
      intro m
      induction m with
      | zero => intro _ k hk; exact absurd hk (Nat.not_lt_zero _)
      | succ m ih =>
        intro hm k hk
        by_cases hkm : k = m
        · subst hkm
          have hk1 := h1 k (by omega)
          refine ⟨hk1.1, hk1.2, ?_⟩
          rcases pl_spec k (by omega) (ih (by omega)) (os.getD k 0).toNat (by omega) with ⟨g, _⟩ | ⟨j, g1, g2, _⟩
          · exact g
          · exact absurd (by omega) (h2 j k g1 (by omega))
        · exact ih (by omega) k (by omega)
    have hp := pl_spec os.length (Nat.le_refl _) (hpl _ (Nat.le_refl _))
    refine ⟨hg, hl, hpl _ (Nat.le_refl _), fun k hk => ?_⟩
    have hE := (gok_iff.1 hg).2.2.2.1 _ (List.getElem_mem hk)
    unfold EN at hE
    rw [getE hk]
    obtain ⟨i, hi, e1⟩ := OrdC.all ⟨hg, hl, h1, h2, h3⟩ (v := es[k].1) (by omega) (by omega)
    obtain ⟨j, hj, e2⟩ := OrdC.all ⟨hg, hl, h1, h2, h3⟩ (v := es[k].2.1) (by omega) (by omega)
    rcases hp es[k].1.toNat (by omega) with ⟨_, a2⟩ | ⟨i', a1, a2, a3⟩
    · exact absurd (by omega) (a2 i hi)
    rcases hp es[k].2.1.toNat (by omega) with ⟨_, b2⟩ | ⟨j', b1, b2, b3⟩
    · exact absurd (by omega) (b2 j hj)
    have := h3 _ (List.getElem_mem hk) i' j' a1 b1 (by omega) (by omega)
    omega
theorem rev_get {os : List Int} {k : Nat} (hk : k < os.length) : os.reverse.getD k 0 = os.getD (os.length - 1 - k) 0 := by
  rw [List.getD_eq_getElem?_getD, List.getD_eq_getElem?_getD, List.getElem?_reverse hk]
theorem OrdC.turn {n : Int} {es : List (Int × Int × Int)} {os : List Int} (h : OrdC n es os) : OrdC n (turnF es) os.reverse := by
  obtain ⟨hg, hl, h1, h2, h3⟩ := h
  refine ⟨turnF_ok hg, by simpa using hl, fun k hk => ?_, fun i j hij hj he => ?_, fun e he i j hi hj e1 e2 => ?_⟩
  · rw [List.length_reverse] at hk
    rw [rev_get hk]
    exact h1 _ (by omega)
  · rw [List.length_reverse] at hj
    rw [rev_get (by omega), rev_get hj] at he
    exact h2 _ _ (show os.length - 1 - j < os.length - 1 - i by omega) (by omega) he.symm
  · rw [List.length_reverse] at hi hj
    rw [rev_get hi] at e1
    rw [rev_get hj] at e2
    obtain ⟨x, hx, rfl⟩ := List.mem_map.1 ((turnF_perm es).mem_iff.1 he)
    have := h3 x hx _ _ (show os.length - 1 - j < os.length by omega) (show os.length - 1 - i < os.length by omega) e2 e1
    omega
theorem ord_turn {n : Int} {es : List (Int × Int × Int)} {os : List Int} (hg : GOk n es) : OrdC n (turnF es) os.reverse ↔ OrdC n es os := by
  refine ⟨fun h => ?_, OrdC.turn⟩
  have := h.turn
  rw [turnF_turnF hg, List.reverse_reverse] at this
  exact this
/-- With an order, the first fit finds one. -/
theorem fwe_full {n : Int} {es : List (Int × Int × Int)} {os : List Int} {o : List Nat} (h : OrdC n es os) (hf : FWE n.toNat es o) : o.length = n.toNat := by
  have hin : ∀ m i, i < m → i < os.length → (os.getD i 0).toNat ∈ o := by
    intro m
    induction m with
    | zero => intro i hi; exact absurd hi (Nat.not_lt_zero _)
    | succ m ih =>
      intro i hi hil
      have h1 := h.2.2.1 i hil
      refine Classical.byContradiction fun hno => hf.2 (os.getD i 0).toNat (by omega) ⟨hno, fun k hk he => ?_⟩
      rw [getE hk] at he ⊢
      have hE := (gok_iff.1 h.1).2.2.2.1 _ (List.getElem_mem hk)
      unfold EN at hE
      obtain ⟨j, hj, e1⟩ := h.all (v := es[k].1) (by omega) (by omega)
      have hji := h.2.2.2.2 _ (List.getElem_mem hk) j i hj hil e1 (by omega)
      have := ih j (by omega) hj
      exact natL_mem.2 ⟨_, this, by omega⟩
  have hle := hf.1.len
  have hge := pigeon (fun i => o.getD i 0) o.length (List.range n.toNat) (List.nodup_range) fun k hk => by
    have hkn := List.mem_range.1 hk
    obtain ⟨i, hi, e⟩ := h.all (v := (k : Int)) (by omega) (by omega)
    have := hin (i + 1) i (by omega) hi
    rw [e, Int.toNat_natCast] at this
    obtain ⟨j, hj, e2⟩ := List.getElem_of_mem this
    exact ⟨j, hj, by rw [getD_lt hj]; exact e2⟩
  rw [List.length_range] at hge
  omega
theorem natL_get {o : List Nat} {k : Nat} (hk : k < o.length) : (natL o).getD k 0 = ((o.getD k 0 : Nat) : Int) := by
  simp [natL, List.getD_eq_getElem?_getD, List.getElem?_eq_getElem hk]
theorem fwe_ord {n : Int} {es : List (Int × Int × Int)} {o : List Nat} (hg : GOk n es) (hf : FWE n.toNat es o) (hl : o.length = n.toNat) : OrdC n es (natL o) := by
  have hnd := hf.1.nodup
  have h0 := hg.1
  rw [List.nodup_iff_pairwise_ne, List.pairwise_iff_getElem] at hnd
  refine ⟨hg, by rw [natL_len]; omega, fun k hk => ?_, fun i j hij hj he => ?_, fun e he i j hi hj e1 e2 => ?_⟩
  · rw [natL_len] at hk
    rw [natL_get hk]
    have := (hf.1 k hk).1
    omega
  · rw [natL_len] at hj
    rw [natL_get (by omega), natL_get hj, getD_lt (by omega), getD_lt hj] at he
    exact hnd i j (by omega) hj hij (by omega)
  · rw [natL_len] at hi hj
    rw [natL_get hi] at e1
    rw [natL_get hj] at e2
    obtain ⟨k, hk, rfl⟩ := List.getElem_of_mem he
    have h1 := (hf.1 j hj).2.1.2 k hk (by rw [getE hk]; exact e2.symm)
    rw [getE hk] at h1
    obtain ⟨u, hu, hue⟩ := natL_mem.1 h1
    obtain ⟨i', hi', hiu⟩ := List.mem_take_iff_getElem.1 hu
    rw [getD_lt hi] at e1
    have hii : i = i' := by
      rcases Nat.lt_trichotomy i i' with h | h | h
      · exact absurd (by omega) (hnd i i' hi (by omega) h)
      · exact h
      · exact absurd (by omega) (hnd i' i (by omega) hi h)
    omega
theorem order_turn {n : Int} {es : List (Int × Int × Int)} {o o' : List Nat} (hg : GOk n es) (hf : FWE n.toNat es o) (hf' : FWE n.toNat (turnF es) o') : o.length = n.toNat ↔ o'.length = n.toNat :=
  ⟨fun h => fwe_full (fwe_ord hg hf h).turn hf', fun h => fwe_full (by have := (fwe_ord (turnF_ok hg) hf' h).turn; rwa [turnF_turnF hg] at this) hf⟩
theorem ord_placesI {n : Int} {es : List (Int × Int × Int)} {os : List Int} (hg : GOk n es) (hl : (os.length : Int) = n) :
    gives (loop (impl_OrderForward_b0 n es os) (0, List.replicate n.toNat (-1))) fun x => (match x with | .inl pl => pl = plF n os os.length ∧ ∀ k, k < os.length → PlOk n os k | .inr _ => ¬ ∀ k, k < os.length → PlOk n os k) := by
  have h := loop_scan (N := os.length) (p := PlOk n os) (fun k : Nat => ((k : Int), plF n os k)) (Sum.inl (plF n os os.length) : List Int ⊕ Unit) (Sum.inr ()) (body := impl_OrderForward_b0 n es os) (fun k hk _ => by
    have h0 := hg.1
    have h16 := hg.2.1
    have hlen := plF_len n os k
    simp only [impl_OrderForward_b0, impl_has_eq, Int.toNat_natCast, decide_eq_true_eq, Option.bind_some]
    by_cases h : k < os.length
    · rw [if_pos (by omega), if_pos h, chk_pos (by omega), chk_pos (by simp only [Bool.not_eq_false', decide_eq_true_eq]; omega)]
      by_cases h2 : PlOk n os k
      · have h3 := h2
        obtain ⟨p1, p2, p3⟩ := h3
        rw [if_neg (by simp only [Bool.or_eq_true, Bool.not_eq_true', decide_eq_false_iff_not, bne_iff_ne, ne_eq]; omega), if_pos h2, chk_pos (by omega), chk_pos (by omega)]; rfl
      · rw [if_pos, if_neg h2]
        simp only [Bool.or_eq_true, Bool.not_eq_true', decide_eq_false_iff_not, bne_iff_ne, ne_eq]
        by_cases h4 : 0 ≤ os.getD k 0 ∧ os.getD k 0 < n
        · exact .inr fun h5 => h2 ⟨h4.1, h4.2, h5⟩
        · exact .inl h4
    · rw [if_neg (by omega), if_neg h, show k = os.length from by omega])
  refine ⟨_, h, ?_⟩
  split
  · rename_i h1; exact ⟨rfl, h1⟩
  · assumption
theorem impl_OrderForward_is {n : Int} {es : List (Int × Int × Int)} {os : List Int} : impl_OrderForward n es os = some (ordOk n es os) := by
  refine gives_eq.1 ?_
  unfold impl_OrderForward ordOk
  rw [impl_GraphValid_eq]
  simp only [go_sem, Option.bind_some]
  refine ⟨fun h => ?_, fun h => ?_⟩
  · refine (yes_false ?_).symm; rintro ⟨h1, h2, _⟩
    rcases h with h | h
    · rw [gok_true h1] at h; cases h
    · exact h h2
  · obtain ⟨hg, hl⟩ := of_gokb h
    have h16 := hg.2.1
    rw [impl_unknowns_eq hg.1 (by omega)]
    refine gives_some.2 ((ord_placesI hg hl).mono ?_)
    rintro (pl | _) h1 <;> simp only [go_sem] at h1 ⊢
    · obtain ⟨rfl, h1⟩ := h1
      refine (ord_edges hg (plF_len _ _ _) rfl).mono ?_
      rintro (_ | _) h2 <;> simp only [go_sem] at h2 ⊢
      · exact (yes_true ⟨hg, hl, h1, h2⟩).symm
      · exact (yes_false (fun hh => h2 hh.2.2.2)).symm
    · exact (yes_false (fun hh => h1 hh.2.2.1)).symm
theorem insert_loop {b : List Int} {n p : Int} (hb : Bts b) (hp : 0 ≤ p ∧ p ≤ 700000) (hn : n ≤ 17) : gives (loop (spec_DrawOrderForward_b0 b n) (0, p, [])) fun x => (0 ≤ x.1 ∧ x.1 ≤ p + 20) ∧ x.2.length ≤ 17 := by
  refine gives_loop (fun s : Nat × Int × List Int => ((s.1 : Int), s.2.1, s.2.2)) (fun s => s.1 ≤ 17 ∧ s.2.1 = p + s.1 ∧ s.2.2.length = s.1) (fun s => 18 - s.1) ?_ (0, p, []) ⟨by omega, by simp, rfl⟩
  rintro ⟨k, q, os⟩ ⟨hk, hq, hl⟩
  simp only at hk hq hl
  simp only [spec_DrawOrderForward_b0]
  rw [gives_ite]
  refine ⟨fun hc => ?_, fun hc => gives_some.2 ⟨by simp only; omega, by simp only; omega⟩⟩
  simp only [decide_eq_true_eq] at hc
  rw [gives_chk, gives_bind]
  refine ⟨by omega, (pick_ok hb ⟨by omega, by omega⟩).mono ?_⟩
  rintro ⟨y, p0⟩ ⟨e0, f0, f0', _⟩
  simp only at e0 f0 f0' ⊢
  have := f0' (by omega)
  have ht : ((os.take y.toNat).drop 0).length = y.toNat := by simp; omega
  have hd : ((os.take os.length).drop y.toNat).length = os.length - y.toNat := by simp
  rw [gives_chk, gives_chk, gives_chk, gives_chk, gives_chk, gives_chk]
  refine ⟨by omega, by omega, by simp; omega, by omega, ?_, by omega, gives_some.2 ⟨(k + 1, p0, _), ⟨by simp only; omega, by simp only; omega, ?_⟩, by simp only; omega, by simp only [Int.natCast_add, Int.natCast_one]; rfl⟩⟩
  · rw [List.length_append, hd]; simp; omega
  · simp only
    rw [List.length_append, hd]; simp; omega
theorem DrawOrderForward_ok {b : List Int} (hb : Bts b) : gives (spec_DrawOrderForward b) fun r => (-1 ≤ r.1 ∧ r.1 ≤ 17) ∧ r.2.1.length ≤ 20 ∧ r.2.2.length ≤ 17 := by
  unfold spec_DrawOrderForward
  rw [gives_bind]
  refine (open_ok hb).mono' (by rfl) ?_
  rintro ⟨c, p⟩ ⟨h1, h2, h3⟩
  simp only at h1 h2 h3 ⊢
  rw [gives_bind]
  refine (Forward_ok h1 ⟨by omega, by omega⟩).mono ?_
  rintro ⟨n, es, q⟩ ⟨g1, g2, g3, g4⟩
  simp only at g1 g2 g3 g4 ⊢
  obtain ⟨⟨r, ok⟩, _, r2, r3, _⟩ := forward_eq (n := n) (es := es) ⟨by omega, by omega⟩ (by omega)
  simp only at r3
  rw [r2, Option.bind_some]
  dsimp only
  have key : ∀ (t : Int) (os : List Int), (0 ≤ t ∧ t ≤ 700100) ∧ os.length ≤ 17 → gives (join (fun k_1 : (List Int) → Option (Int × (List (Int × Int × Int)) × List Int) => (spec_l20Rd_odd c t 9).bind fun (y_11, y_12) => if (y_11 && (decide (0 < (os.length : Int)))) then chk (-9223372036854775808 ≤ ((os.length : Int) - 1) ∧ ((os.length : Int) - 1) ≤ 9223372036854775807) <| chk (0 ≤ ((os.length : Int) - 1) ∧ ((os.length : Int) - 1) < os.length) <| (spec_l20Rd_pick c y_12 3).bind fun (y_13, y_14) => chk (0 ≤ y_13 ∧ y_13 < 3) <| chk (0 ≤ 0 ∧ 0 < os.length) <| k_1 (os.set 0 (([(-1), (os.length : Int), (os.getD (((os.length : Int) - 1).toNat) 0)] : List Int).getD y_13.toNat 0)) else k_1 os) (fun (t6s_3 : List Int) => some (n, es, t6s_3))) fun r => (-1 ≤ r.1 ∧ r.1 ≤ 17) ∧ r.2.1.length ≤ 20 ∧ r.2.2.length ≤ 17 := by
    rintro t os ⟨ht, hos⟩
    rw [gives_join, gives_bind]
    refine (odd_ok h1 ⟨by omega, by omega⟩).mono ?_
    rintro ⟨y, p1⟩ hp1
    simp only at hp1 ⊢
    rw [gives_ite]
    refine ⟨fun hc => ?_, fun _ => gives_some.2 ⟨g1, g2, hos⟩⟩
    simp only [Bool.and_eq_true, decide_eq_true_eq] at hc
    rw [gives_chk, gives_chk, gives_bind]
    refine ⟨by omega, by omega, (pick_ok h1 ⟨by omega, by omega⟩).mono ?_⟩
    rintro ⟨y0, p0⟩ ⟨e0, f0, f0', _⟩
    simp only at e0 f0 f0' ⊢
    have := f0' (by omega)
    rw [gives_chk, gives_chk]
    exact ⟨by omega, by omega, gives_some.2 ⟨g1, g2, by simpa using hos⟩⟩
  rw [gives_join]
  rw [gives_bind]
  have hend : ∀ (y p1 : Int), q ≤ p1 ∧ p1 ≤ q + 1 → gives (if ((!ok) || (y == 0)) then (loop (spec_DrawOrderForward_b0 c n) (0, p1, [])).bind (fun ((t4_1_2, t6s_2) : Int × List Int) => some (t4_1_2, t6s_2)) else some (p1, r)) fun x : Int × List Int => (0 ≤ x.1 ∧ x.1 ≤ 700100) ∧ x.2.length ≤ 17 := by
    intro y p1 hp1
    rw [gives_ite]
    refine ⟨fun _ => ?_, fun _ => gives_some.2 ⟨⟨by simp only; omega, by simp only; omega⟩, by simp only; omega⟩⟩
    rw [gives_bind]
    refine (insert_loop h1 ⟨by omega, by omega⟩ (by omega)).mono ?_
    rintro ⟨t, os⟩ ⟨a1, a2⟩
    simp only at a1 a2 ⊢
    exact gives_some.2 ⟨by simp only; omega, a2⟩
  by_cases hok : ok = true
  · subst hok
    rw [if_pos (by rfl)]
    refine (pick_ok h1 ⟨by omega, by omega⟩).mono ?_
    rintro ⟨y, p1⟩ ⟨e0, _⟩
    simp only at e0 ⊢
    have he := hend y p1 (by omega)
    rw [gives_ite] at he ⊢
    refine ⟨fun hc => ?_, fun hc => by have h6 := gives_some.1 (he.2 hc); exact key _ _ h6⟩
    have h4 := he.1 hc
    rw [gives_bind] at h4 ⊢
    refine h4.mono ?_
    rintro ⟨t, os⟩ h5
    have h6 := gives_some.1 h5
    exact key _ _ h6
  · rw [if_neg (by simpa using hok)]
    refine gives_some.2 ?_
    simp only
    have he := hend default q (by omega)
    rw [gives_ite] at he ⊢
    refine ⟨fun hc => ?_, fun hc => by have h6 := gives_some.1 (he.2 hc); exact key _ _ h6⟩
    have h4 := he.1 hc
    rw [gives_bind] at h4 ⊢
    refine h4.mono ?_
    rintro ⟨t, os⟩ h5
    have h6 := gives_some.1 h5
    exact key _ _ h6
theorem rev_loop {os : List Int} (hl : os.length ≤ 1000) : loop (laws_FnOrderForward_b0 os) ((os.length : Int) - 1, []) = some os.reverse := by
  refine gives_eq.1 ?_
  refine loop_to (fun m : Nat => ((m : Int) - 1, (os.drop m).reverse)) (fun m => m ≤ os.length) (fun m => m) os.length (by simp) (Nat.le_refl _) ?_
  intro m hm
  unfold laws_FnOrderForward_b0
  dsimp only
  rw [gives_ite]
  refine ⟨fun hc => ?_, fun hc => ?_⟩
  · simp only [decide_eq_true_eq] at hc
    have h1 : ((m : Int) - 1).toNat = m - 1 := by omega
    rw [gives_chk, gives_chk, gives_chk, h1]
    refine ⟨by omega, by simp; omega, by omega, gives_some.2 ⟨m - 1, by omega, by omega, ?_⟩⟩
    refine Prod.ext (by simp only; omega) ?_
    simp only
    have h2 : os.drop (m - 1) = os.getD (m - 1) 0 :: os.drop m := by
      rw [List.drop_eq_getElem_cons (show m - 1 < os.length by omega), getD_lt (show m - 1 < os.length by omega), show m - 1 + 1 = m from by omega]
    rw [h2, List.reverse_cons]
  · simp only [decide_eq_true_eq] at hc
    have : m = 0 := by omega
    subst this
    exact gives_some.2 rfl
theorem FnOrderForward_true {b : List Int} (hb : Bts b) : laws_FnOrderForward b = some true := by
  unfold laws_FnOrderForward
  by_cases h0 : (1048576 : Int) < b.length
  · rw [if_pos (by simpa using h0)]
  rw [if_neg (by simpa using h0)]
  obtain ⟨⟨n, es, os⟩, h1, h2, h3, h4⟩ := DrawOrderForward_ok hb
  simp only at h2 h3 h4
  rw [h1, Option.bind_some]
  dsimp only
  rw [impl_OrderForward_eq, Option.bind_some, spec_OrderForward_eq ⟨by omega, by omega⟩ (by omega), Option.bind_some, if_neg (by simp), chk_pos (by omega), rev_loop (by omega), Option.bind_some, impl_GraphValid_eq, Option.bind_some]
  by_cases hg : GOk n es
  · obtain ⟨⟨r, ok⟩, r1, _, _, r4, r5⟩ := forward_eq (n := n) (es := es) ⟨by omega, by omega⟩ (by omega)
    simp only at r4 r5
    rw [gok_true hg, if_neg (by simp), r1, Option.bind_some]
    dsimp only
    rw [impl_TurnGraph_eq hg, Option.bind_some]
    dsimp only
    rw [impl_OrderForward_eq, Option.bind_some]
    have e : ordOk n (turnF es) os.reverse = ordOk n es os := by
      unfold ordOk
      rw [Bool.eq_iff_iff, yes_iff, yes_iff, ordOk_iff, ordOk_iff, ord_turn hg]
    rw [e]
    by_cases ho : OrdOk n es os
    · have hok : ok = true := by
        cases ok
        · obtain ⟨o, hf, hlo⟩ := (r5 rfl).2 hg
          have := fwe_full (ordOk_iff.1 ho) hf
          omega
        · rfl
      rw [hok]; simp
    · rw [show ordOk n es os = false from yes_false ho]; rfl
  · have ho : ordOk n es os = false := yes_false fun h => hg h.1
    rw [gok_false hg, if_pos (by rfl), ho, if_neg (by simp), alive_eq]
    rfl
end Go.Proofs.YtdjckcedpnabpaaDoor
