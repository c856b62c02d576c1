/- Forests as they are made: both sides do the same steps. -/
import Derived.Test.YtngpllgpfndkkaaDoorMk
set_option linter.unusedSimpArgs false
set_option linter.unusedVariables false
namespace Go.Proofs.YtngpllgpfndkkaaDoor
open Go Go.Av
attribute [local go_sem] gives_chk gives_ite gives_some gives_bind gives_join Sum.elim_inl Sum.elim_inr decide_eq_true_eq decide_eq_false_iff_not Bool.not_eq_true' Bool.not_eq_false' Bool.or_eq_true Bool.and_eq_true Bool.not_eq_eq_eq_not beq_iff_eq bne_iff_ne ne_eq Bool.or_eq_false_iff Bool.and_eq_false_iff Bool.not_eq_true Bool.not_eq_false Bool.not_true Bool.not_false Int.toNat_natCast beq_eq_false_iff_ne bne_eq_false_iff_eq Decidable.not_not Bool.default_bool

/-- The first j of L, looked at from v: those that are in no tree come behind v. -/
def scanN (ps : List Int) (v : Int) (L : List Int) : Nat → List Int × List Int
  | 0 => (ps, [])
  | j + 1 => if (scanN ps v L j).1.getD (L.getD j 0).toNat 0 < 0 then ((scanN ps v L j).1.set (L.getD j 0).toNat v, (scanN ps v L j).2 ++ [L.getD j 0]) else scanN ps v L j
theorem scanN_len {ps L : List Int} {v : Int} : ∀ j, (scanN ps v L j).1.length = ps.length ∧ (scanN ps v L j).2.length ≤ j
  | 0 => ⟨rfl, Nat.le_refl _⟩
  | j + 1 => by
    have ih := scanN_len (ps := ps) (L := L) (v := v) j
    simp only [scanN]
    split
    · simp only [List.length_set, List.length_append, List.length_cons, List.length_nil]; omega
    · omega
def Mm (ps : List Int) : Prop := ∀ k, k < ps.length → ps.getD k 0 = -1 ∨ 0 ≤ ps.getD k 0
theorem Mm.set {ps : List Int} {v : Int} {i : Nat} (h : Mm ps) (hv : 0 ≤ v) (hi : i < ps.length) : Mm (ps.set i v) := by
  intro k hk
  rw [List.length_set] at hk
  rw [getD_set _ _ _ _ _ hi]
  split
  · exact .inr hv
  · exact h k hk
theorem scanN_ok {n : Int} {ps L : List Int} {v : Int} (hl : ps.length = n.toNat) (hL : Inn n L) (hv : 0 ≤ v) (hm : Mm ps) : ∀ j, j ≤ L.length → Mm (scanN ps v L j).1 ∧ neg (scanN ps v L j).1 + (scanN ps v L j).2.length = neg ps ∧ Inn n (scanN ps v L j).2
  | 0, _ => ⟨hm, rfl, fun k hk => absurd hk (by simp [scanN])⟩
  | j + 1, hj => by
    obtain ⟨h1, h2, h3⟩ := scanN_ok hl hL hv hm j (by omega)
    have hlen := (scanN_len (ps := ps) (L := L) (v := v) j).1
    have hw := hL j (by omega)
    simp only [scanN]
    split
    · rename_i hneg
      have := neg_set (l := (scanN ps v L j).1) hv (i := (L.getD j 0).toNat) (by omega) hneg
      exact ⟨h1.set hv (by omega), by simp only [List.length_append, List.length_cons, List.length_nil]; omega, h3.snoc hw⟩
    · exact ⟨h1, h2, h3⟩
theorem spec_scan {n : Int} {fs qs L : List Int} {t : Nat} (hn : n ≤ 16) (hl : fs.length = n.toNat) (hL : Inn n L) (hLl : L.length ≤ 16) (ht : t < qs.length) (hq : qs.length ≤ 17) :
    loop (spec_ForestOf_b0 t L) (0, fs, qs) = some ((scanN fs (qs.getD t 0) L L.length).1, qs ++ (scanN fs (qs.getD t 0) L L.length).2) := by
  refine gives_eq.1 (loop_to (fun j : Nat => ((j : Int), (scanN fs (qs.getD t 0) L j).1, qs ++ (scanN fs (qs.getD t 0) L j).2)) (fun j => j ≤ L.length) (fun j => L.length - j) 0 (by simp [scanN]) (Nat.zero_le _) ?_)
  intro j hj
  obtain ⟨h1, h2⟩ := scanN_len (ps := fs) (L := L) (v := qs.getD t 0) j
  have hg : (qs ++ (scanN fs (qs.getD t 0) L j).2).getD t 0 = qs.getD t 0 := by simp only [List.getD_eq_getElem?_getD, List.getElem?_append_left ht]
  have hll : (qs ++ (scanN fs (qs.getD t 0) L j).2).length = qs.length + (scanN fs (qs.getD t 0) L j).2.length := by simp
  simp only [spec_ForestOf_b0, go_sem]
  refine ⟨fun hc => ?_, fun hc => by rw [show j = L.length from by omega]⟩
  have hw := hL j (by omega)
  refine ⟨by omega, by omega, fun hneg => ⟨by omega, by omega, by omega, by omega, by omega, by omega, j + 1, by omega, by omega, ?_⟩, fun hneg => ⟨by omega, j + 1, by omega, by omega, ?_⟩⟩
  · simp only [scanN, hg, if_pos hneg, List.append_assoc, Int.natCast_add, Int.natCast_one]
  · simp only [scanN, if_neg (show ¬ (scanN fs (qs.getD t 0) L j).1.getD (L.getD j 0).toNat 0 < 0 by omega), Int.natCast_add, Int.natCast_one]
theorem impl_scan {n : Int} {fs q0 qs L : List Int} (hn : n ≤ 16) (hl : fs.length = n.toNat) (hL : Inn n L) (hLl : L.length ≤ 16) (hv : 0 ≤ q0.getD 0 0) (hm : Mm fs) (hq : qs.length ≤ 17) :
    loop (impl_ForestOf_b0 q0 L) (0, fs, qs) = some ((scanN fs (q0.getD 0 0) L L.length).1, qs ++ (scanN fs (q0.getD 0 0) L L.length).2) := by
  refine gives_eq.1 (loop_to (fun j : Nat => ((j : Int), (scanN fs (q0.getD 0 0) L j).1, qs ++ (scanN fs (q0.getD 0 0) L j).2)) (fun j => j ≤ L.length) (fun j => L.length - j) 0 (by simp [scanN]) (Nat.zero_le _) ?_)
  intro j hj
  obtain ⟨h1, h2⟩ := scanN_len (ps := fs) (L := L) (v := q0.getD 0 0) j
  obtain ⟨h3, _, _⟩ := scanN_ok hl hL hv hm j hj
  have hll : (qs ++ (scanN fs (q0.getD 0 0) L j).2).length = qs.length + (scanN fs (q0.getD 0 0) L j).2.length := by simp
  simp only [impl_ForestOf_b0, go_sem]
  refine ⟨fun hc => ?_, fun hc => by rw [show j = L.length from by omega]⟩
  have hw := hL j (by omega)
  have hmm := h3 (L.getD j 0).toNat (by omega)
  refine ⟨by omega, by omega, fun hneg => ⟨by omega, by omega, by omega, j + 1, by omega, by omega, ?_⟩, fun hneg => ⟨by omega, j + 1, by omega, by omega, ?_⟩⟩
  · simp only [scanN, if_pos (show (scanN fs (q0.getD 0 0) L j).1.getD (L.getD j 0).toNat 0 < 0 by omega), List.append_assoc, Int.natCast_add, Int.natCast_one]
  · simp only [scanN, if_neg (show ¬ (scanN fs (q0.getD 0 0) L j).1.getD (L.getD j 0).toNat 0 < 0 by omega), Int.natCast_add, Int.natCast_one]
/-- A tree, from the queue q on. -/
def bfsF (nr : Int → List Int) : Nat → List Int → List Int → List Int
  | 0, ps, _ => ps
  | _ + 1, ps, [] => ps
  | f + 1, ps, v :: q => bfsF nr f (scanN ps v (nr v) (nr v).length).1 (q ++ (scanN ps v (nr v) (nr v).length).2)
theorem near_inn {n : Int} {es : List (Int × Int × Int)} (hg : GOk n es) (v : Int) : Inn n (nearL n es v n.toNat) ∧ (nearL n es v n.toNat).length ≤ 16 := by
  have h16 := hg.2.1
  have hll := nearL_len n es v n.toNat
  refine ⟨fun j hj => ?_, by omega⟩
  have hm := (nearL_mem (n := n) (es := es) (v := v) (u := (nearL n es v n.toNat).getD j 0) n.toNat).1 (by
    rw [List.getD_eq_getElem?_getD (l := nearL n es v n.toNat), List.getElem?_eq_getElem hj]; exact List.getElem_mem hj)
  omega
theorem Inn.cons {n v : Int} {q : List Int} (h : Inn n (v :: q)) : (0 ≤ v ∧ v < n) ∧ Inn n q := by
  refine ⟨by have := h 0 (by simp); simpa using this, fun k hk => ?_⟩
  have := h (k + 1) (by simpa using hk)
  simpa using this
theorem Inn.app {n : Int} {a b : List Int} (h : Inn n a) (g : Inn n b) : Inn n (a ++ b) := by
  intro k hk
  rw [List.length_append] at hk
  by_cases hka : k < a.length
  · rw [show (a ++ b).getD k 0 = a.getD k 0 from by simp only [List.getD_eq_getElem?_getD, List.getElem?_append_left hka]]; exact h k hka
  · rw [show (a ++ b).getD k 0 = b.getD (k - a.length) 0 from by simp only [List.getD_eq_getElem?_getD]; rw [List.getElem?_append_right (by omega)]]; exact g _ (by omega)
def TreeOk (n : Int) (es : List (Int × Int × Int)) (R ps q : List Int) : Prop := ps.length = n.toNat ∧ Mm ps ∧ Inn n q ∧ q.length + neg ps ≤ 17 ∧ ∃ f, q.length + neg ps ≤ f ∧ bfsF (fun v => nearL n es v n.toNat) f ps q = R
theorem TreeOk.next {n v : Int} {es : List (Int × Int × Int)} {R ps q : List Int} (hg : GOk n es) (h : TreeOk n es R ps (v :: q)) :
    TreeOk n es R (scanN ps v (nearL n es v n.toNat) (nearL n es v n.toNat).length).1 (q ++ (scanN ps v (nearL n es v n.toNat) (nearL n es v n.toNat).length).2) ∧
      (q ++ (scanN ps v (nearL n es v n.toNat) (nearL n es v n.toNat).length).2).length + neg (scanN ps v (nearL n es v n.toNat) (nearL n es v n.toNat).length).1 + 1 = (v :: q).length + neg ps := by
  obtain ⟨h1, h2, h3, h4, f, h5, h6⟩ := h
  obtain ⟨h7, h8⟩ := h3.cons
  obtain ⟨hi, hl⟩ := near_inn hg v
  obtain ⟨s1, s2, s3⟩ := scanN_ok h1 hi h7.1 h2 _ (Nat.le_refl _)
  have sl := (scanN_len (ps := ps) (L := nearL n es v n.toNat) (v := v) (nearL n es v n.toNat).length).1
  simp only [List.length_cons] at h4 h5 ⊢
  rw [List.length_append]
  refine ⟨⟨by rw [sl]; exact h1, s1, h8.app s3, by rw [List.length_append]; omega, f - 1, by rw [List.length_append]; omega, ?_⟩, by omega⟩
  obtain ⟨g, rfl⟩ : ∃ g, f = g + 1 := ⟨f - 1, by omega⟩
  rw [bfsF] at h6
  exact h6
theorem TreeOk.done {n : Int} {es : List (Int × Int × Int)} {R ps : List Int} (h : TreeOk n es R ps []) : ps = R := by
  obtain ⟨_, _, _, _, f, _, h6⟩ := h
  cases f <;> rw [bfsF] at h6 <;> exact h6
theorem spec_tree {n : Int} {es : List (Int × Int × Int)} (hg : GOk n es) {R ps q : List Int} (h : TreeOk n es R ps q) : gives (loop (spec_ForestOf_b1 n es) (0, ps, q)) fun x => x = R := by
  have h0 := hg.1
  have h16 := hg.2.1
  refine loop_to (fun s : Nat × List Int × List Int => ((s.1 : Int), s.2.1, s.2.2)) (fun s => s.1 ≤ s.2.2.length ∧ s.2.2.length ≤ 17 ∧ TreeOk n es R s.2.1 (s.2.2.drop s.1) ∧ s.2.2.length + neg s.2.1 ≤ 17) (fun s => (s.2.2.drop s.1).length + neg s.2.1) (0, ps, q) rfl ⟨Nat.zero_le _, by have := h.2.2.2.1; simp only; omega, by simpa using h, h.2.2.2.1⟩ ?_
  rintro ⟨t, fs, qs⟩ ⟨ht, hq, hT, hs⟩
  simp only at ht hq hT hs
  simp only [spec_ForestOf_b1, spec_NearOf_eq hg, go_sem]
  refine ⟨fun hc => ⟨by omega, ?_⟩, fun hc => ?_⟩
  · have hlt : t < qs.length := by omega
    have hd : qs.drop t = qs.getD t 0 :: qs.drop (t + 1) := by
      rw [List.drop_eq_getElem_cons hlt, show qs.getD t 0 = qs[t] from by simp [List.getD_eq_getElem?_getD, hlt]]
    rw [hd] at hT ⊢
    obtain ⟨n1, n2⟩ := hT.next hg
    obtain ⟨hi, hl⟩ := near_inn hg (qs.getD t 0)
    rw [spec_scan h16 hT.1 hi hl hlt hq, gives_some]
    obtain ⟨_, s2, _⟩ := scanN_ok hT.1 hi (hT.2.2.1.cons.1.1) hT.2.1 _ (Nat.le_refl _)
    refine ⟨by omega, ?_⟩
    refine ⟨(t + 1, (scanN fs (qs.getD t 0) (nearL n es (qs.getD t 0) n.toNat) (nearL n es (qs.getD t 0) n.toNat).length).1, qs ++ (scanN fs (qs.getD t 0) (nearL n es (qs.getD t 0) n.toNat) (nearL n es (qs.getD t 0) n.toNat).length).2), ⟨?_, ?_, ?_, ?_⟩, ?_, by simp⟩
    · simp only [List.length_append]; omega
    · simp only [List.length_append]; omega
    · simp only
      rw [List.drop_append_of_le_length (by omega)]; exact n1
    · simp only [List.length_append]; omega
    · simp only
      rw [List.drop_append_of_le_length (by omega)]
      simp only [List.length_append] at n2 ⊢
      omega
  · rw [List.drop_eq_nil_of_le (by omega)] at hT
    exact hT.done
theorem impl_tree {n : Int} {es : List (Int × Int × Int)} {ms : List Int} (hg : GOk n es) (hm : MaskOk n ms fun v w => Adj es v w) {R ps q : List Int} (h : TreeOk n es R ps q) : gives (loop (impl_ForestOf_b1 ms) (ps, q)) fun x => x = R := by
  have h0 := hg.1
  have h16 := hg.2.1
  refine loop_to (fun s : List Int × List Int => s) (fun s => TreeOk n es R s.1 s.2) (fun s => s.2.length + neg s.1) (ps, q) rfl h ?_
  rintro ⟨fs, qs⟩ hT
  simp only at hT
  simp only [impl_ForestOf_b1]
  cases qs with
  | nil =>
    rw [if_neg (by simp), gives_some]
    exact hT.done
  | cons v q =>
    obtain ⟨n1, n2⟩ := hT.next hg
    obtain ⟨⟨v0, v1⟩, hq⟩ := hT.2.2.1.cons
    have hml := hm.1
    have hle := hT.2.2.2.1
    simp only [List.length_cons] at hle
    have hadj : ∀ a b : Nat, Adj es a b → b < n.toNat := fun a b hab => by
      rcases hab with ⟨j, h1, h2, h3⟩ | ⟨j, h1, h2, h3⟩ <;> have he := gok_len hg h1 <;> simp only [EOk] at he <;> omega
    have hL : impl_vertexMask_list (ms.getD v.toNat 0) = some (nearL n es v n.toNat) := by
      rw [impl_list_near (n := n) (es := es) (v := v.toNat) h16 hm hadj (by omega), nearL_sel, show ((v.toNat : Nat) : Int) = v from by omega]
    obtain ⟨hi, hl⟩ := near_inn hg v
    have hd : ((v :: q).take (v :: q).length).drop 1 = q := by simp
    rw [if_pos (by simp only [decide_eq_true_eq, List.length_cons]; omega), chk_pos (by simp only [List.length_cons]; omega), chk_pos (by simp only [List.length_cons]; omega), chk_pos (by simp only [List.getD_cons_zero]; omega), hd, List.getD_cons_zero, hL]
    simp only [Option.bind_some]
    rw [impl_scan (q0 := v :: q) h16 hT.1 hi hl (by simpa using v0) hT.2.1 (by omega)]
    simp only [Option.bind_some, List.getD_cons_zero]
    rw [gives_some]
    exact ⟨(_, _), n1, by simp only; omega, rfl⟩
/-- Tree by tree. -/
def forN (nr : Int → List Int) (n : Nat) : Nat → List Int
  | 0 => List.replicate n (-1)
  | k + 1 => if (forN nr n k).getD k 0 < 0 then bfsF nr 40 ((forN nr n k).set k (k : Int)) [(k : Int)] else forN nr n k
theorem bfsF_ok {n : Int} {es : List (Int × Int × Int)} (hg : GOk n es) : ∀ (f : Nat) {ps q : List Int}, ps.length = n.toNat → Mm ps → Inn n q → (bfsF (fun v => nearL n es v n.toNat) f ps q).length = n.toNat ∧ Mm (bfsF (fun v => nearL n es v n.toNat) f ps q)
  | 0, ps, q, h1, h2, _ => ⟨h1, h2⟩
  | f + 1, ps, [], h1, h2, _ => ⟨h1, h2⟩
  | f + 1, ps, v :: q, h1, h2, h3 => by
    obtain ⟨h7, h8⟩ := h3.cons
    obtain ⟨hi, hl⟩ := near_inn hg v
    obtain ⟨s1, s2, s3⟩ := scanN_ok h1 hi h7.1 h2 _ (Nat.le_refl _)
    have sl := (scanN_len (ps := ps) (L := nearL n es v n.toNat) (v := v) (nearL n es v n.toNat).length).1
    rw [bfsF]
    exact bfsF_ok hg f (by rw [sl]; exact h1) s1 (h8.app s3)
theorem forN_ok {n : Int} {es : List (Int × Int × Int)} (hg : GOk n es) : ∀ k, k ≤ n.toNat → (forN (fun v => nearL n es v n.toNat) n.toNat k).length = n.toNat ∧ Mm (forN (fun v => nearL n es v n.toNat) n.toNat k)
  | 0, _ => ⟨by simp [forN], fun k hk => by
    simp only [forN, List.length_replicate] at hk
    exact .inl (by simp only [forN, List.getD_eq_getElem?_getD, List.getElem?_replicate]; rw [if_pos hk]; rfl)⟩
  | k + 1, hk => by
    obtain ⟨h1, h2⟩ := forN_ok hg k (by omega)
    simp only [forN]
    split
    · refine bfsF_ok hg 40 (by simp only [List.length_set]; exact h1) (h2.set (by omega) (by omega)) fun j hj => ?_
      simp only [List.length_cons, List.length_nil] at hj
      rw [show j = 0 from by omega]; simp only [List.getD_cons_zero]; omega
    · exact ⟨h1, h2⟩
theorem first_tree {n : Int} {es : List (Int × Int × Int)} (hg : GOk n es) {ps : List Int} {k : Nat} (hk : k < n.toNat) (h1 : ps.length = n.toNat) (h2 : Mm ps) (hneg : ps.getD k 0 < 0) :
    TreeOk n es (bfsF (fun v => nearL n es v n.toNat) 40 (ps.set k (k : Int)) [(k : Int)]) (ps.set k (k : Int)) [(k : Int)] := by
  have h16 := hg.2.1
  have hng := neg_le ps
  have hns := neg_set (l := ps) (x := (k : Int)) (by omega) (i := k) (by omega) hneg
  refine ⟨by simp only [List.length_set]; exact h1, h2.set (by omega) (by omega), fun j hj => ?_, by simp only [List.length_cons, List.length_nil]; omega, 40, by simp only [List.length_cons, List.length_nil]; omega, rfl⟩
  simp only [List.length_cons, List.length_nil] at hj
  rw [show j = 0 from by omega]; simp only [List.getD_cons_zero]; omega
noncomputable def forF (n : Int) (es : List (Int × Int × Int)) : List Int := forN (fun v => nearL n es v n.toNat) n.toNat n.toNat
theorem spec_ForestOf_is {n : Int} {es : List (Int × Int × Int)} (hg : GOk n es) : spec_ForestOf n es = some (forF n es) := by
  have h0 := hg.1
  have h16 := hg.2.1
  have h40 := hg.2.2.1
  refine gives_eq.1 ?_
  unfold spec_ForestOf
  rw [spec_GraphValid_eq ⟨by omega, by omega⟩ (by omega), gok_true hg]
  simp only [Option.bind_some]
  rw [if_neg (by simp), spec_l8Fill_eq h0 (by omega)]
  simp only [go_sem, Option.bind_some]
  refine loop_to (fun k : Nat => ((k : Int), forN (fun v => nearL n es v n.toNat) n.toNat k)) (fun k => k ≤ n.toNat) (fun k => n.toNat - k) 0 rfl (Nat.zero_le _) ?_
  intro k hk
  obtain ⟨f1, f2⟩ := forN_ok hg k hk
  simp only [spec_ForestOf_b2, go_sem]
  refine ⟨fun hc => ⟨by omega, fun h1 => ⟨by omega, k + 1, by omega, by omega, ?_⟩, fun h1 => ⟨by omega, ?_⟩⟩, fun hc => by rw [show k = n.toNat from by omega]; rfl⟩
  · simp only [forN, if_neg (show ¬ (forN (fun v => nearL n es v n.toNat) n.toNat k).getD k 0 < 0 by omega), Int.natCast_add, Int.natCast_one]
  · refine (spec_tree hg (first_tree hg (by omega) f1 f2 (by omega))).mono fun x hx => ⟨by omega, k + 1, by omega, by omega, ?_⟩
    simp only [forN, if_pos (show (forN (fun v => nearL n es v n.toNat) n.toNat k).getD k 0 < 0 by omega), Int.natCast_add, Int.natCast_one, hx]
theorem impl_ForestOf_is {n : Int} {es : List (Int × Int × Int)} (hg : GOk n es) : impl_ForestOf n es = some (forF n es) := by
  have h0 := hg.1
  have h16 := hg.2.1
  refine gives_eq.1 ?_
  unfold impl_ForestOf
  rw [impl_GraphValid_eq, gok_true hg]
  simp only [Option.bind_some]
  rw [if_neg (by simp), gives_bind]
  refine (impl_nearMasks_ok hg).mono fun ms hm => ?_
  rw [impl_unknowns_eq h0 (by omega)]
  simp only [go_sem, Option.bind_some]
  refine loop_to (fun k : Nat => ((k : Int), forN (fun v => nearL n es v n.toNat) n.toNat k)) (fun k => k ≤ n.toNat) (fun k => n.toNat - k) 0 rfl (Nat.zero_le _) ?_
  intro k hk
  obtain ⟨f1, f2⟩ := forN_ok hg k hk
  simp only [impl_ForestOf_b2, List.length_replicate, go_sem]
  refine ⟨fun hc => ?_, fun hc => by rw [show k = n.toNat from by omega]; rfl⟩
  have hmm := f2 k (by omega)
  refine ⟨by omega, fun h1 => ⟨by omega, k + 1, by omega, by omega, ?_⟩, fun h1 => ⟨by omega, ?_⟩⟩
  · simp only [forN, if_neg (show ¬ (forN (fun v => nearL n es v n.toNat) n.toNat k).getD k 0 < 0 by omega), Int.natCast_add, Int.natCast_one]
  · refine (impl_tree hg hm (first_tree hg (by omega) f1 f2 (by omega))).mono fun x hx => ⟨by omega, k + 1, by omega, by omega, ?_⟩
    simp only [forN, if_pos (show (forN (fun v => nearL n es v n.toNat) n.toNat k).getD k 0 < 0 by omega), Int.natCast_add, Int.natCast_one, hx]
theorem forest_eq {n : Int} {es : List (Int × Int × Int)} (hn : -9223372036854775808 ≤ n ∧ n ≤ 9223372036854775807) (hx : es.length ≤ 1000000000) :
    ∃ r : List Int, impl_ForestOf n es = some r ∧ spec_ForestOf n es = some r ∧ r.length ≤ 16 ∧ (GOk n es → r = forF n es) ∧ (¬ GOk n es → r = []) := by
  by_cases hg : GOk n es
  · have h16 := hg.2.1
    have := (forN_ok hg n.toNat (Nat.le_refl _)).1
    exact ⟨_, impl_ForestOf_is hg, spec_ForestOf_is hg, by rw [forF]; omega, fun _ => rfl, fun h => absurd hg h⟩
  · refine ⟨[], ?_, ?_, by simp, fun h => absurd h hg, fun _ => rfl⟩
    · unfold impl_ForestOf
      rw [impl_GraphValid_eq, gok_false hg]
      simp only [Option.bind_some]
      rw [if_pos (show (!false) = true from rfl)]
    · unfold spec_ForestOf
      rw [spec_GraphValid_eq hn hx, gok_false hg]
      simp only [Option.bind_some]
      rw [if_pos (show (!false) = true from rfl)]
theorem FnExactForestOf_true {n : Int} {es : List (Int × Int × Int)} (hn : -9223372036854775808 ≤ n ∧ n ≤ 9223372036854775807) (hx : es.length ≤ 9223372036854775807) : laws_FnExactForestOf n es = some true := by
  unfold laws_FnExactForestOf
  refine law_graph hx fun hl => ?_
  have he : es.length ≤ 1000000000 := by omega
  obtain ⟨cs, c1, c2, c3, _⟩ := forest_eq hn he
  obtain ⟨⟨y11, y12⟩, g1, g2⟩ := markGraph_eq (n := n) (es := es) (k := 1) he (by omega) (by omega)
  simp only at g2
  simp only [toGraph_eq he, c1, c2, eqGraph_eq he, eqIntS_eq (xs := cs) (by omega), g1, Option.bind_some, markIntS_eq (xs := cs) (k := 1) (by omega) (by omega) (by omega), heldIntS_eq (n := cs.length) (k := 1) (by omega) (by omega) (by omega)]
  rw [if_neg (by simp), if_neg (by simp), if_pos (by simp; omega)]
  simp only [Option.bind_some]
  rw [if_neg (by simp; omega), if_neg (by simp; omega), if_neg (by simp), if_neg (by simp), if_neg (by simp; omega), if_neg (by simp)]
end Go.Proofs.YtngpllgpfndkkaaDoor
