/- Forests as they are made: a tree for every part. -/
import Derived.Test.YtdjckcedpnabpaaDoorMo
import Derived.Test.YtdjckcedpnabpaaDoorMp
set_option linter.unusedSimpArgs false
set_option linter.unusedVariables false
namespace Go.Proofs.YtdjckcedpnabpaaDoor
open Go Go.Av
attribute [local go_sem] gives_chk gives_ite gives_some gives_bind gives_join Sum.elim_inl Sum.elim_inr decide_eq_true_eq decide_eq_false_iff_not Bool.not_eq_true' Bool.not_eq_false' Bool.or_eq_true Bool.and_eq_true Bool.not_eq_eq_eq_not beq_iff_eq bne_iff_ne ne_eq Bool.or_eq_false_iff Bool.and_eq_false_iff Bool.not_eq_true Bool.not_eq_false Bool.not_true Bool.not_false Int.toNat_natCast beq_eq_false_iff_ne bne_eq_false_iff_eq Decidable.not_not Bool.default_bool

/-- v lies in the part of k. -/
def InC (es : List (Int × Int × Int)) (k v : Int) : Prop := ∀ S : Int → Prop, (∀ u w, S u → Adj es u w → S w) → S k → S v
theorem Adj.symm {es : List (Int × Int × Int)} {a b : Int} (h : Adj es a b) : Adj es b a := h.elim .inr .inl
theorem InC.refl {es : List (Int × Int × Int)} {k : Int} : InC es k k := fun _ _ h => h
theorem InC.step {es : List (Int × Int × Int)} {k u w : Int} (h : InC es k u) (ha : Adj es u w) : InC es k w := fun S hS hk => hS u w (h S hS hk) ha
theorem InC.trans {es : List (Int × Int × Int)} {a b c : Int} (h : InC es a b) (g : InC es b c) : InC es a c := fun S hS hk => g S hS (h S hS hk)
theorem InC.symm {es : List (Int × Int × Int)} {k v : Int} (h : InC es k v) : InC es v k :=
  h (fun x => InC es x k) (fun _ _ hu ha => (InC.refl.step ha.symm).trans hu) InC.refl
theorem adj_in {n : Int} {es : List (Int × Int × Int)} (hg : GOk n es) {a b : Int} (hab : Adj es a b) : (0 ≤ a ∧ a < n) ∧ 0 ≤ b ∧ b < n := by
  rcases hab with ⟨j, h1, h2, h3⟩ | ⟨j, h1, h2, h3⟩ <;> have he := gok_len hg h1 <;> simp only [EOk] at he <;> omega
/-- Trees that lead upwards. -/
def TreF (n : Nat) (es : List (Int × Int × Int)) (ps : List Int) (B : Nat) (d rt : Nat → Nat) : Prop := ∀ v, v < n → 0 ≤ ps.getD v 0 →
  rt v < B ∧ InC es (rt v : Nat) (v : Nat) ∧ (∀ j : Nat, j < rt v → ¬ InC es (j : Nat) (v : Nat)) ∧ d v + neg ps < n ∧
    ((ps.getD v 0 = (v : Nat) ∧ rt v = v ∧ d v = 0) ∨ ∃ u : Nat, u < n ∧ ps.getD v 0 = (u : Nat) ∧ u ≠ v ∧ Adj es (v : Nat) (u : Nat) ∧ 0 ≤ ps.getD u 0 ∧ d v = d u + 1 ∧ rt u = rt v)
def Tre (n : Nat) (es : List (Int × Int × Int)) (ps : List Int) (B : Nat) : Prop := ps.length = n ∧ Mm ps ∧ ∃ d rt : Nat → Nat, TreF n es ps B d rt
theorem Tre.put {n B v w : Nat} {es : List (Int × Int × Int)} {ps : List Int} (h : Tre n es ps B) (hv : v < n) (hpv : 0 ≤ ps.getD v 0) (hw : w < n) (hpw : ps.getD w 0 < 0) (ha : Adj es (v : Nat) (w : Nat)) : Tre n es (ps.set w (v : Nat)) B := by
  obtain ⟨hl, hm, d, rt, hF⟩ := h
  have hng := neg_set (l := ps) (x := ((v : Nat) : Int)) (by omega) (i := w) (by omega) hpw
  have hvw : v ≠ w := fun e => by subst e; omega
  have hget := fun x => getD_set ps w x ((v : Nat) : Int) 0 (by omega)
  refine ⟨by simp [hl], hm.set (by omega) (by omega), fun x => if x = w then d v + 1 else d x, fun x => if x = w then rt v else rt x, fun x hx hpx => ?_⟩
  by_cases hxw : x = w
  · subst hxw
    obtain ⟨a1, a2, a3, a4, _⟩ := hF v hv hpv
    simp only [↓reduceIte]
    refine ⟨a1, a2.step ha, fun j hj hh => a3 j hj (hh.step ha.symm), by omega, .inr ⟨v, hv, by rw [hget, if_pos rfl], hvw, ha.symm, by rw [hget, if_neg hvw]; exact hpv, by rw [if_neg hvw], by rw [if_neg hvw]⟩⟩
  · rw [hget, if_neg hxw] at hpx
    obtain ⟨a1, a2, a3, a4, a5⟩ := hF x hx hpx
    simp only [if_neg hxw]
    refine ⟨a1, a2, a3, by omega, ?_⟩
    rcases a5 with ⟨b1, b2, b3⟩ | ⟨u, b1, b2, b3, b4, b5, b6, b7⟩
    · exact .inl ⟨by rw [hget, if_neg hxw]; exact b1, b2, b3⟩
    · have huw : u ≠ w := fun e => by subst e; omega
      exact .inr ⟨u, b1, by rw [hget, if_neg hxw]; exact b2, b3, b4, by rw [hget, if_neg huw]; exact b5, by rw [if_neg huw]; exact b6, by rw [if_neg huw]; exact b7⟩
theorem Tre.root {n k : Nat} {es : List (Int × Int × Int)} {ps : List Int} (h : Tre n es ps k) (hk : k < n) (hpk : ps.getD k 0 < 0) (hno : ∀ j : Nat, j < k → ¬ InC es (j : Nat) (k : Nat)) : Tre n es (ps.set k (k : Nat)) (k + 1) := by
  obtain ⟨hl, hm, d, rt, hF⟩ := h
  have hng := neg_set (l := ps) (x := ((k : Nat) : Int)) (by omega) (i := k) (by omega) hpk
  have hnl := neg_le ps
  have hget := fun x => getD_set ps k x ((k : Nat) : Int) 0 (by omega)
  refine ⟨by simp [hl], hm.set (by omega) (by omega), fun x => if x = k then 0 else d x, fun x => if x = k then k else rt x, fun x hx hpx => ?_⟩
  by_cases hxk : x = k
  · subst hxk
    simp only [↓reduceIte]
    exact ⟨by omega, InC.refl, hno, by omega, .inl ⟨by rw [hget, if_pos rfl], trivial, trivial⟩⟩
  · rw [hget, if_neg hxk] at hpx
    obtain ⟨a1, a2, a3, a4, a5⟩ := hF x hx hpx
    simp only [if_neg hxk]
    refine ⟨by omega, a2, a3, by omega, ?_⟩
    rcases a5 with ⟨b1, b2, b3⟩ | ⟨u, b1, b2, b3, b4, b5, b6, b7⟩
    · exact .inl ⟨by rw [hget, if_neg hxk]; exact b1, b2, b3⟩
    · have huk : u ≠ k := fun e => by subst e; omega
      exact .inr ⟨u, b1, by rw [hget, if_neg hxk]; exact b2, b3, b4, by rw [hget, if_neg huk]; exact b5, by rw [if_neg huk]; exact b6, by rw [if_neg huk]; exact b7⟩
theorem Tre.more {n B C : Nat} {es : List (Int × Int × Int)} {ps : List Int} (h : Tre n es ps B) (hc : B ≤ C) : Tre n es ps C := by
  obtain ⟨hl, hm, d, rt, hF⟩ := h
  exact ⟨hl, hm, d, rt, fun v hv hp => ⟨by have := (hF v hv hp).1; omega, (hF v hv hp).2⟩⟩
theorem scan_tre {n B v : Nat} {es : List (Int × Int × Int)} {ps L : List Int} (h : Tre n es ps B) (hv : v < n) (hpv : 0 ≤ ps.getD v 0) (hL : Inn n L) (hLa : ∀ j, j < L.length → Adj es (v : Nat) (L.getD j 0)) : ∀ j, j ≤ L.length →
    Tre n es (scanN ps (v : Nat) L j).1 B ∧ (∀ x, 0 ≤ ps.getD x 0 → (scanN ps (v : Nat) L j).1.getD x 0 = ps.getD x 0) ∧ (∀ i, i < j → 0 ≤ (scanN ps (v : Nat) L j).1.getD (L.getD i 0).toNat 0) ∧
      (∀ x : Nat, x < n → 0 ≤ (scanN ps (v : Nat) L j).1.getD x 0 → 0 ≤ ps.getD x 0 ∨ ((x : Nat) : Int) ∈ (scanN ps (v : Nat) L j).2) ∧ ∀ x ∈ (scanN ps (v : Nat) L j).2, 0 ≤ (scanN ps (v : Nat) L j).1.getD x.toNat 0
  | 0, _ => ⟨h, fun _ _ => rfl, fun i hi => absurd hi (by omega), fun x _ hx => .inl hx, fun x hx => by simp [scanN] at hx⟩
  | j + 1, hj => by
    obtain ⟨s1, s2, s3, s4, s5⟩ := scan_tre h hv hpv hL hLa j (by omega)
    have hw := hL j (by omega)
    have hll := s1.1
    have hpv' : 0 ≤ (scanN ps (v : Nat) L j).1.getD v 0 := by rw [s2 v hpv]; exact hpv
    simp only [scanN]
    split
    · rename_i hneg
      have hwn : (((L.getD j 0).toNat : Nat) : Int) = L.getD j 0 := by omega
      have hget := fun x => getD_set (scanN ps (v : Nat) L j).1 (L.getD j 0).toNat x ((v : Nat) : Int) 0 (by omega)
      have hmono : ∀ x, 0 ≤ (scanN ps (v : Nat) L j).1.getD x 0 → 0 ≤ ((scanN ps (v : Nat) L j).1.set (L.getD j 0).toNat (v : Nat)).getD x 0 := fun x hx => by
        rw [hget]; split
        · omega
        · exact hx
      refine ⟨s1.put hv hpv' (by omega) hneg (by rw [hwn]; exact hLa j (by omega)), fun x hx => ?_, fun i hi => ?_, fun x hx hpx => ?_, fun x hx => ?_⟩
      · have := s2 x hx
        rw [hget, if_neg (fun e => by subst e; omega)]
        exact this
      · by_cases hij : i = j
        · subst hij; rw [hget, if_pos rfl]; omega
        · exact hmono _ (s3 i (by omega))
      · rw [hget] at hpx
        by_cases hxw : x = (L.getD j 0).toNat
        · exact .inr (List.mem_append_right _ (by rw [hxw, hwn]; simp))
        · rw [if_neg hxw] at hpx
          exact (s4 x hx hpx).imp_right fun h => List.mem_append_left _ h
      · rcases List.mem_append.1 hx with hx | hx
        · exact hmono _ (s5 x hx)
        · rw [List.mem_singleton.1 hx, hget, if_pos rfl]; omega
    · rename_i hneg
      refine ⟨s1, s2, fun i hi => ?_, s4, s5⟩
      by_cases hij : i = j
      · subst hij; omega
      · exact s3 i (by omega)
/-- What is in and not in the queue has all its neighbours in. -/
def QI (n : Nat) (es : List (Int × Int × Int)) (ps q : List Int) : Prop := ∀ x : Nat, x < n → 0 ≤ ps.getD x 0 → ((x : Nat) : Int) ∈ q ∨ ∀ w : Nat, Adj es (x : Nat) (w : Nat) → 0 ≤ ps.getD w 0
theorem bfs_tre {n : Int} {es : List (Int × Int × Int)} {B : Nat} (hg : GOk n es) : ∀ (f : Nat) {ps q : List Int}, q.length + neg ps ≤ f → Tre n.toNat es ps B → Inn n q → (∀ x ∈ q, 0 ≤ ps.getD x.toNat 0) → QI n.toNat es ps q →
    Tre n.toNat es (bfsF (fun v => nearL n es v n.toNat) f ps q) B ∧ QI n.toNat es (bfsF (fun v => nearL n es v n.toNat) f ps q) [] ∧ ∀ x, 0 ≤ ps.getD x 0 → 0 ≤ (bfsF (fun v => nearL n es v n.toNat) f ps q).getD x 0
  | 0, ps, q, hf, h1, h2, h3, h4 => by
    have : q = [] := List.length_eq_zero_iff.1 (by omega)
    subst this
    exact ⟨h1, h4, fun _ h => h⟩
  | f + 1, ps, [], hf, h1, h2, h3, h4 => ⟨h1, h4, fun _ h => h⟩
  | f + 1, ps, v :: q, hf, h1, h2, h3, h4 => by
    obtain ⟨⟨v0, v1⟩, h8⟩ := h2.cons
    obtain ⟨hi, hl⟩ := near_inn hg v
    obtain ⟨m1, m2, m3⟩ := scanN_ok h1.1 hi v0 h1.2.1 _ (Nat.le_refl _)
    have hvn : ((v.toNat : Nat) : Int) = v := by omega
    have hpv := h3 v List.mem_cons_self
    have hmem : ∀ u : Int, u ∈ nearL n es v n.toNat ↔ (0 ≤ u ∧ u < n.toNat ∧ Adj es v u) := fun u => nearL_mem n.toNat
    obtain ⟨s1, s2, s3, s4, s5⟩ := scan_tre (v := v.toNat) (L := nearL n es v n.toNat) h1 (by omega) hpv (fun j hj => by have := hi j hj; omega) (fun j hj => by
      rw [hvn]
      refine ((hmem _).1 ?_).2.2
      rw [List.getD_eq_getElem?_getD (l := nearL n es v n.toNat), List.getElem?_eq_getElem hj]; exact List.getElem_mem hj) _ (Nat.le_refl _)
    rw [hvn] at s1 s2 s3 s4 s5
    simp only [List.length_cons] at hf
    obtain ⟨r1, r2, r3⟩ := bfs_tre hg f (ps := (scanN ps v (nearL n es v n.toNat) (nearL n es v n.toNat).length).1) (q := q ++ (scanN ps v (nearL n es v n.toNat) (nearL n es v n.toNat).length).2) (by rw [List.length_append]; omega) s1 (h8.app m3)
      (fun x hx => by
        rcases List.mem_append.1 hx with hx | hx
        · have := h3 x (List.mem_cons_of_mem _ hx)
          rw [s2 _ this]; exact this
        · exact s5 x hx)
      (fun x hx hpx => by
        rcases s4 x hx hpx with h | h
        · rcases h4 x hx h with hq | hq
          · rcases List.mem_cons.1 hq with he | hq
            · refine .inr fun w hw => ?_
              rw [he] at hw
              have hin := adj_in hg hw
              obtain ⟨i, hi1, hi2⟩ := List.mem_iff_getElem.1 ((hmem ((w : Nat) : Int)).2 ⟨by omega, by omega, hw⟩)
              have := s3 i hi1
              rwa [show (nearL n es v n.toNat).getD i 0 = ((w : Nat) : Int) from by rw [List.getD_eq_getElem?_getD (l := nearL n es v n.toNat), List.getElem?_eq_getElem hi1]; exact hi2, Int.toNat_natCast] at this
            · exact .inl (List.mem_append_left _ hq)
          · exact .inr fun w hw => by have := hq w hw; rw [s2 _ this]; exact this
        · exact .inl (List.mem_append_right _ h))
    rw [bfsF]
    exact ⟨r1, r2, fun x hx => r3 x (by rw [s2 x hx]; exact hx)⟩
theorem closed_in {n : Int} {es : List (Int × Int × Int)} {ps : List Int} (hg : GOk n es) (hq : QI n.toNat es ps []) {k v : Nat} (hk : k < n.toNat) (hpk : 0 ≤ ps.getD k 0) (h : InC es (k : Nat) (v : Nat)) : 0 ≤ ps.getD v 0 := by
  have := h (fun x => (0 ≤ x ∧ x < n) ∧ 0 ≤ ps.getD x.toNat 0) (fun u w hu ha => by
    have hin := adj_in hg ha
    refine ⟨hin.2, ?_⟩
    rcases hq u.toNat (by omega) hu.2 with h | h
    · cases h
    · exact h w.toNat (by rw [show ((u.toNat : Nat) : Int) = u from by omega, show ((w.toNat : Nat) : Int) = w from by omega]; exact ha)) ⟨by omega, by rw [Int.toNat_natCast]; exact hpk⟩
  rw [Int.toNat_natCast] at this
  exact this.2
theorem for_tre {n : Int} {es : List (Int × Int × Int)} (hg : GOk n es) : ∀ k, k ≤ n.toNat → Tre n.toNat es (forN (fun v => nearL n es v n.toNat) n.toNat k) k ∧ QI n.toNat es (forN (fun v => nearL n es v n.toNat) n.toNat k) [] ∧ ∀ j, j < k → 0 ≤ (forN (fun v => nearL n es v n.toNat) n.toNat k).getD j 0
  | 0, hk => by
    obtain ⟨f1, f2⟩ := forN_ok hg 0 hk
    have hz : ∀ v, v < n.toNat → (forN (fun v => nearL n es v n.toNat) n.toNat 0).getD v 0 = -1 := fun v hv => by
      simp only [forN, List.getD_eq_getElem?_getD, List.getElem?_replicate]; rw [if_pos hv]; rfl
    exact ⟨⟨f1, f2, fun _ => 0, fun _ => 0, fun v hv hp => by rw [hz v hv] at hp; omega⟩, fun v hv hp => by rw [hz v hv] at hp; omega, fun j hj => absurd hj (by omega)⟩
  | k + 1, hk => by
    obtain ⟨i1, i2, i3⟩ := for_tre hg k (by omega)
    simp only [forN]
    split
    · rename_i hneg
      have hl := i1.1
      have h16 := hg.2.1
      have hng := neg_set (l := forN (fun v => nearL n es v n.toNat) n.toNat k) (x := ((k : Nat) : Int)) (by omega) (i := k) (by omega) hneg
      have hnl := neg_le (forN (fun v => nearL n es v n.toNat) n.toNat k)
      have hget := fun x => getD_set (forN (fun v => nearL n es v n.toNat) n.toNat k) k x ((k : Nat) : Int) 0 (by omega)
      have hmono : ∀ x, 0 ≤ (forN (fun v => nearL n es v n.toNat) n.toNat k).getD x 0 → 0 ≤ ((forN (fun v => nearL n es v n.toNat) n.toNat k).set k (k : Nat)).getD x 0 := fun x hx => by
        rw [hget]; split
        · omega
        · exact hx
      have hno : ∀ j : Nat, j < k → ¬ InC es (j : Nat) (k : Nat) := fun j hj h => by
        have := closed_in hg i2 (by omega) (i3 j hj) h
        omega
      obtain ⟨r1, r2, r3⟩ := bfs_tre hg 40 (ps := (forN (fun v => nearL n es v n.toNat) n.toNat k).set k (k : Nat)) (q := [(k : Int)]) (by simp only [List.length_cons, List.length_nil]; omega) (i1.root (by omega) hneg hno)
        (fun j hj => by
          simp only [List.length_cons, List.length_nil] at hj
          rw [show j = 0 from by omega]; simp only [List.getD_cons_zero]; omega)
        (fun x hx => by rw [List.mem_singleton.1 hx, Int.toNat_natCast, hget, if_pos rfl]; omega)
        (fun x hx hpx => by
          by_cases hxk : x = k
          · exact .inl (by rw [hxk]; simp)
          · rw [hget, if_neg hxk] at hpx
            rcases i2 x hx hpx with h | h
            · cases h
            · exact .inr fun w hw => hmono w (h w hw))
      refine ⟨r1, r2, fun j hj => r3 j ?_⟩
      by_cases hjk : j = k
      · subst hjk; rw [hget, if_pos rfl]; omega
      · exact hmono j (i3 j (by omega))
    · rename_i hneg
      refine ⟨i1.more (by omega), i2, fun j hj => ?_⟩
      by_cases hjk : j = k
      · subst hjk; omega
      · exact i3 j (by omega)
/-! The forest is right. -/
theorem least_uniq {es : List (Int × Int × Int)} {a b v w : Nat} (hvw : InC es (v : Nat) (w : Nat)) (a1 : InC es (a : Nat) (v : Nat)) (a2 : ∀ j : Nat, j < a → ¬ InC es (j : Nat) (v : Nat)) (b1 : InC es (b : Nat) (w : Nat)) (b2 : ∀ j : Nat, j < b → ¬ InC es (j : Nat) (w : Nat)) : a = b := by
  rcases Nat.lt_trichotomy a b with h | h | h
  · exact absurd (a1.trans hvw) (b2 a h)
  · exact h
  · exact absurd (b1.trans hvw.symm) (a2 b h)
theorem tre_it {n B : Nat} {es : List (Int × Int × Int)} {ps : List Int} {d rt : Nat → Nat} (hl : ps.length = n) (hF : TreF n es ps B d rt) : ∀ m v, v < n → 0 ≤ ps.getD v 0 → d v ≤ m → itF ps m (v : Nat) = (rt v : Nat) ∧ ps.getD (rt v) 0 = (rt v : Nat)
  | 0, v, hv, hp, hd => by
    obtain ⟨_, _, _, _, ⟨b1, b2, b3⟩ | ⟨u, b1, b2, b3, b4, b5, b6, b7⟩⟩ := hF v hv hp
    · rw [itF, b2]; exact ⟨rfl, b1⟩
    · omega
  | m + 1, v, hv, hp, hd => by
    obtain ⟨_, _, _, _, ⟨b1, b2, b3⟩ | ⟨u, b1, b2, b3, b4, b5, b6, b7⟩⟩ := hF v hv hp
    · have hst : stepF ps (v : Nat) = (v : Nat) := by unfold stepF; rw [Int.toNat_natCast, if_pos (by omega)]; exact b1
      rw [itF_stuck hst, b2]; exact ⟨rfl, b1⟩
    · have hst : stepF ps (v : Nat) = (u : Nat) := by unfold stepF; rw [Int.toNat_natCast, if_pos (by omega)]; exact b2
      obtain ⟨i1, i2⟩ := tre_it hl hF m u b1 b5 (by omega)
      rw [itF, hst, i1, ← b7]
      exact ⟨rfl, i2⟩
theorem forF_facts {n : Int} {es : List (Int × Int × Int)} (hg : GOk n es) : ForOk n es (forF n es) ∧ ∀ v, v < n.toNat → ((forF n es).getD v 0 = (v : Nat) ↔ ∀ j : Nat, j < v → ¬ InC es (j : Nat) (v : Nat)) := by
  have h0 := hg.1
  obtain ⟨⟨hl, hm, d, rt, hF⟩, _, hall⟩ := for_tre hg n.toNat (Nat.le_refl _)
  change (forF n es).length = n.toNat at hl
  change TreF n.toNat es (forF n es) n.toNat d rt at hF
  change ∀ j, j < n.toNat → 0 ≤ (forF n es).getD j 0 at hall
  generalize forF n es = ps at hl hF hall ⊢
  have hit : ∀ v, v < n.toNat → itF ps ps.length (v : Nat) = (rt v : Nat) ∧ ps.getD (rt v) 0 = (rt v : Nat) := fun v hv => by
    have := (hF v hv (hall v hv)).2.2.2.1
    exact tre_it hl hF ps.length v hv (hall v hv) (by omega)
  refine ⟨⟨hg, by omega, fun k hk => ?_, fun k hk => ?_⟩, fun v hv => ?_⟩
  · obtain ⟨a1, a2, a3, a4, a5⟩ := hF k (by omega) (hall k (by omega))
    obtain ⟨t1, t2⟩ := hit k (by omega)
    refine ⟨?_, ?_, by rw [t1, Int.toNat_natCast]; exact t2⟩
    · rcases a5 with ⟨b1, b2, b3⟩ | ⟨u, b1, b2, b3, b4, b5, b6, b7⟩ <;> omega
    · rcases a5 with ⟨b1, b2, b3⟩ | ⟨u, b1, b2, b3, b4, b5, b6, b7⟩
      · exact .inl b1
      · exact .inr (by rw [b2]; exact b4)
  · have hE := gok_len hg hk
    simp only [EOk] at hE
    have e1 : (((es.getD k (0, 0, 0)).1.toNat : Nat) : Int) = (es.getD k (0, 0, 0)).1 := by omega
    have e2 : (((es.getD k (0, 0, 0)).2.1.toNat : Nat) : Int) = (es.getD k (0, 0, 0)).2.1 := by omega
    obtain ⟨a1, a2, a3, -⟩ := hF (es.getD k (0, 0, 0)).1.toNat (by omega) (hall _ (by omega))
    obtain ⟨c1, c2, c3, -⟩ := hF (es.getD k (0, 0, 0)).2.1.toNat (by omega) (hall _ (by omega))
    have ha : InC es ((es.getD k (0, 0, 0)).1.toNat : Nat) ((es.getD k (0, 0, 0)).2.1.toNat : Nat) := InC.refl.step (by rw [e1, e2]; exact .inl ⟨k, hk, rfl, rfl⟩)
    have := least_uniq ha a2 a3 c2 c3
    have t1 := (hit (es.getD k (0, 0, 0)).1.toNat (by omega)).1
    have t2 := (hit (es.getD k (0, 0, 0)).2.1.toNat (by omega)).1
    rw [e1] at t1
    rw [e2] at t2
    rw [t1, t2, this]
  · obtain ⟨a1, a2, a3, a4, a5⟩ := hF v hv (hall v hv)
    obtain ⟨t1, t2⟩ := hit v hv
    constructor
    · intro he
      rcases a5 with ⟨b1, b2, b3⟩ | ⟨u, b1, b2, b3, b4, b5, b6, b7⟩
      · rw [b2] at a3; exact a3
      · omega
    · intro hno
      have : rt v = v := by
        rcases Nat.lt_trichotomy (rt v) v with h | h | h
        · exact absurd a2 (hno _ h)
        · exact h
        · exact absurd InC.refl (a3 v h)
      rw [this] at t2
      exact t2
/-! The least of every part. -/
def SOk (n : Nat) (es : List (Int × Int × Int)) (k : Nat) (t : List Int) : Prop := t.length = n ∧ 0 ≤ t.getD k 0 ∧ ∀ v, v < n → t.getD v 0 = -1 ∨ (0 ≤ t.getD v 0 ∧ t.getD v 0 + neg t < n ∧ InC es (k : Nat) (v : Nat))
theorem SOk.put {n k v w : Nat} {es : List (Int × Int × Int)} {t : List Int} (h : SOk n es k t) (hv : v < n) (hpv : 0 ≤ t.getD v 0) (hw : w < n) (hpw : t.getD w 0 < 0) (ha : Adj es (v : Nat) (w : Nat)) : SOk n es k (t.set w (t.getD v 0 + 1)) := by
  obtain ⟨hl, hk, hF⟩ := h
  have hng := neg_set (l := t) (x := t.getD v 0 + 1) (by omega) (i := w) (by omega) hpw
  have hget := fun x => getD_set t w x (t.getD v 0 + 1) 0 (by omega)
  refine ⟨by simp [hl], ?_, fun x hx => ?_⟩
  · rw [hget]; split <;> omega
  · rw [hget]
    by_cases hxw : x = w
    · rw [if_pos hxw]
      rcases hF v hv with h | ⟨h1, h2, h3⟩
      · omega
      · exact .inr ⟨by omega, by omega, by rw [hxw]; exact h3.step ha⟩
    · rw [if_neg hxw]
      rcases hF x hx with h | ⟨h1, h2, h3⟩
      · exact .inl h
      · exact .inr ⟨h1, by omega, h3⟩
def LOk (n : Nat) (es : List (Int × Int × Int)) (k : Nat) (t : List Int) : Prop := t.length = n ∧ ∀ v, v < n → (t.getD v 0 = -1 ∧ ∀ j : Nat, j < k → ¬ InC es (j : Nat) (v : Nat)) ∨ ∃ j : Nat, j < k ∧ t.getD v 0 = (j : Nat) ∧ InC es (j : Nat) (v : Nat) ∧ ∀ i : Nat, i < j → ¬ InC es (i : Nat) (v : Nat)
end Go.Proofs.YtdjckcedpnabpaaDoor
