/- Orders in which edges lead forwards. -/
import Derived.Test.YtdjckcedpnabpaaDoorMk
set_option linter.unusedSimpArgs false
set_option linter.unusedVariables false
namespace Go.Proofs.YtdjckcedpnabpaaDoor
open Go Go.Av
attribute [local go_sem] gives_chk gives_ite gives_some gives_bind gives_join Sum.elim_inl Sum.elim_inr decide_eq_true_eq decide_eq_false_iff_not Bool.not_eq_true' Bool.not_eq_false' Bool.or_eq_true Bool.and_eq_true Bool.not_eq_eq_eq_not beq_iff_eq bne_iff_ne ne_eq Bool.or_eq_false_iff Bool.and_eq_false_iff Bool.not_eq_true Bool.not_eq_false Bool.not_true Bool.not_false Int.toNat_natCast beq_eq_false_iff_ne bne_eq_false_iff_eq Decidable.not_not Bool.default_bool

def natL (o : List Nat) : List Int := o.map fun j : Nat => (j : Int)
theorem natL_mem {o : List Nat} {x : Int} : x ∈ natL o ↔ ∃ u, u ∈ o ∧ x = (u : Int) := by
  simp only [natL, List.mem_map]
  exact ⟨fun ⟨u, h1, h2⟩ => ⟨u, h1, h2.symm⟩, fun ⟨u, h1, h2⟩ => ⟨u, h1, h2.symm⟩⟩
theorem natL_mem' {o : List Nat} {v : Nat} : (v : Int) ∈ natL o ↔ v ∈ o := by
  rw [natL_mem]
  exact ⟨fun ⟨u, h1, h2⟩ => by rw [show v = u from by omega]; exact h1, fun h => ⟨v, h, rfl⟩⟩
theorem natL_len (o : List Nat) : (natL o).length = o.length := by simp [natL]
theorem natL_snoc (o : List Nat) (v : Nat) : natL (o ++ [v]) = natL o ++ [(v : Int)] := by simp [natL]
/-- No edge leads to v from outside, and it is not in yet. -/
def Rdy (es : List (Int × Int × Int)) (o : List Nat) (v : Nat) : Prop := v ∉ o ∧ ∀ k, k < es.length → (es.getD k (0, 0, 0)).2.1 = (v : Int) → (es.getD k (0, 0, 0)).1 ∈ natL o
def FW (n : Nat) (es : List (Int × Int × Int)) (o : List Nat) : Prop := ∀ k, k < o.length → o.getD k 0 < n ∧ Rdy es (o.take k) (o.getD k 0) ∧ ∀ u, u < o.getD k 0 → ¬ Rdy es (o.take k) u
def FWE (n : Nat) (es : List (Int × Int × Int)) (o : List Nat) : Prop := FW n es o ∧ ∀ v, v < n → ¬ Rdy es o v
theorem FW.snoc {n v : Nat} {es : List (Int × Int × Int)} {o : List Nat} (h : FW n es o) (hv : v < n) (hr : Rdy es o v) (hl : ∀ u, u < v → ¬ Rdy es o u) : FW n es (o ++ [v]) := by
  intro k hk
  simp only [List.length_append, List.length_cons, List.length_nil] at hk
  by_cases hko : k < o.length
  · rw [getD_snoc, if_pos hko, List.take_append_of_le_length (by omega)]
    exact h k hko
  · have : k = o.length := by omega
    subst this
    rw [getD_snoc, if_neg (by omega), if_pos rfl, List.take_left]
    exact ⟨hv, hr, hl⟩
theorem getD_lt {α : Type} {l : List α} {k : Nat} {d : α} (h : k < l.length) : l.getD k d = l[k] := by simp [List.getD_eq_getElem?_getD, h]
theorem FW.nodup {n : Nat} {es : List (Int × Int × Int)} {o : List Nat} (h : FW n es o) : o.Nodup := by
  rw [List.nodup_iff_pairwise_ne, List.pairwise_iff_getElem]
  intro i j hi hj hij he
  have h1 := (h j hj).2.1.1
  rw [getD_lt hj] at h1
  exact h1 (he ▸ List.mem_take_iff_getElem.2 ⟨i, by omega, rfl⟩)
theorem FW.lt {n : Nat} {es : List (Int × Int × Int)} {o : List Nat} (h : FW n es o) {v : Nat} (hv : v ∈ o) : v < n := by
  obtain ⟨i, hi, he⟩ := List.mem_iff_getElem.1 hv
  have := (h i hi).1
  rw [getD_lt hi, he] at this
  exact this
theorem FW.len {n : Nat} {es : List (Int × Int × Int)} {o : List Nat} (h : FW n es o) : o.length ≤ n := pigeon (fun v => v) n o h.nodup fun k hk => ⟨k, h.lt hk, rfl⟩
theorem FW.closed {n : Nat} {es : List (Int × Int × Int)} {o : List Nat} (h : FW n es o) {v k : Nat} (hv : v ∈ o) (hk : k < es.length) (he : (es.getD k (0, 0, 0)).2.1 = (v : Int)) : (es.getD k (0, 0, 0)).1 ∈ natL o := by
  obtain ⟨i, hi, hiv⟩ := List.mem_iff_getElem.1 hv
  have h1 := (h i hi).2.1.2 k hk (by rw [getD_lt hi, hiv]; exact he)
  obtain ⟨u, hu, hx⟩ := natL_mem.1 h1
  exact natL_mem.2 ⟨u, List.mem_of_mem_take hu, hx⟩
theorem FWE.uniq {n : Nat} {es : List (Int × Int × Int)} {a b : List Nat} (ha : FWE n es a) (hb : FWE n es b) : a = b := by
  have key : ∀ k, k ≤ a.length → k ≤ b.length → a.take k = b.take k := by
    intro k
    induction k with
    | zero => intros; simp
    | succ k ih =>
      intro h1 h2
      have e := ih (by omega) (by omega)
      obtain ⟨_, p2, p3⟩ := ha.1 k (by omega)
      obtain ⟨_, q2, q3⟩ := hb.1 k (by omega)
      have hv : a.getD k 0 = b.getD k 0 := by
        rcases Nat.lt_trichotomy (a.getD k 0) (b.getD k 0) with hl | hl | hl
        · exact absurd (e ▸ p2) (q3 _ hl)
        · exact hl
        · exact absurd (e ▸ q2) (p3 _ hl)
      rw [getD_lt (by omega), getD_lt (by omega)] at hv
      rw [List.take_succ_eq_append_getElem (by omega), List.take_succ_eq_append_getElem (by omega), e, hv]
  rcases Nat.lt_trichotomy a.length b.length with hl | hl | hl
  · obtain ⟨p1, p2, _⟩ := hb.1 a.length hl
    rw [← key a.length (Nat.le_refl _) (by omega), List.take_length] at p2
    exact absurd p2 (ha.2 _ p1)
  · have := key a.length (Nat.le_refl _) (by omega)
    rw [List.take_length] at this
    rw [this, hl, List.take_length]
  · obtain ⟨p1, p2, _⟩ := ha.1 b.length hl
    rw [key b.length (by omega) (Nat.le_refl _), List.take_length] at p2
    exact absurd p2 (hb.2 _ p1)
/-! The reference. -/
theorem fwd_ready {es : List (Int × Int × Int)} {o : List Nat} {v : Nat} (hx : es.length ≤ 1000000000) (ho : o.length ≤ 1000000000) :
    loop (spec_ForwardOrder_b0 es v (natL o)) (!(yes ((v : Int) ∈ natL o)), 0) = some (yes (Rdy es o v)) := by
  refine gives_eq.1 (loop_to (fun j : Nat => (yes (v ∉ o ∧ ∀ k, k < j → (es.getD k (0, 0, 0)).2.1 = (v : Int) → (es.getD k (0, 0, 0)).1 ∈ natL o), (j : Int))) (fun j => j ≤ es.length) (fun j => es.length - j) 0 ?_ (Nat.zero_le _) ?_)
  · simp only [Prod.mk.injEq]
    refine ⟨?_, rfl⟩
    rw [Bool.eq_iff_iff, yes_iff]
    by_cases h : v ∈ o
    · rw [yes_true (natL_mem'.2 h)]
      exact ⟨fun hh => by simp at hh, fun hh => absurd h hh.1⟩
    · rw [yes_false (fun hh => h (natL_mem'.1 hh))]
      exact ⟨fun _ => ⟨h, fun k hk => absurd hk (by omega)⟩, fun _ => rfl⟩
  · intro j hj
    have hnl := natL_len o
    simp only [spec_ForwardOrder_b0, spec_l7Has_eq (l := natL o) (v := (es.getD j (0, 0, 0)).1) (by omega), go_sem]
    have fin : ∀ b : Bool, j < es.length → (b = true ↔ (v ∉ o ∧ ∀ k, k < j + 1 → (es.getD k (0, 0, 0)).2.1 = (v : Int) → (es.getD k (0, 0, 0)).1 ∈ natL o)) →
        ∃ s', s' ≤ es.length ∧ es.length - s' < es.length - j ∧ (b, (j : Int) + 1) = (yes (v ∉ o ∧ ∀ k, k < s' → (es.getD k (0, 0, 0)).2.1 = (v : Int) → (es.getD k (0, 0, 0)).1 ∈ natL o), (s' : Int)) := fun b hb h =>
      ⟨j + 1, by omega, by omega, by simp only [Prod.mk.injEq]; exact ⟨by rw [Bool.eq_iff_iff, yes_iff]; exact h, by omega⟩⟩
    have old : (v ∉ o ∧ ∀ k, k < j + 1 → (es.getD k (0, 0, 0)).2.1 = (v : Int) → (es.getD k (0, 0, 0)).1 ∈ natL o) ↔ (v ∉ o ∧ ∀ k, k < j → (es.getD k (0, 0, 0)).2.1 = (v : Int) → (es.getD k (0, 0, 0)).1 ∈ natL o) ∧ ((es.getD j (0, 0, 0)).2.1 = (v : Int) → (es.getD j (0, 0, 0)).1 ∈ natL o) := by
      constructor
      · rintro ⟨h1, h2⟩; exact ⟨⟨h1, fun k hk => h2 k (by omega)⟩, h2 j (by omega)⟩
      · rintro ⟨⟨h1, h2⟩, h3⟩
        refine ⟨h1, fun k hk => ?_⟩
        by_cases hkj : k = j
        · subst hkj; exact h3
        · exact h2 k (by omega)
    refine ⟨fun hc => ⟨by omega, fun _ => by omega, fun he => ⟨fun hh => ⟨by omega, fin _ (by omega) ?_⟩, fun hh => ⟨by omega, fin _ (by omega) ?_⟩⟩, fun he => ⟨fun hh => absurd hh.1 he, fun _ => ⟨by omega, fin _ (by omega) ?_⟩⟩⟩, fun hc => by rw [show j = es.length from by omega]; rfl⟩
    · have h1 : ¬ (es.getD j (0, 0, 0)).1 ∈ natL o := fun hm => by have := hh.2; rw [yes_true hm] at this; cases this
      rw [old]
      exact ⟨fun h => (by cases h), fun h => absurd (h.2 he) h1⟩
    · have h1 : (es.getD j (0, 0, 0)).1 ∈ natL o := Classical.byContradiction fun hm => hh ⟨he, yes_false hm⟩
      rw [old, yes_iff]
      exact ⟨fun h => ⟨h, fun _ => h1⟩, fun h => h.1⟩
    · rw [old, yes_iff]
      exact ⟨fun h => ⟨h, fun e => absurd e he⟩, fun h => h.1⟩
theorem spec_fwd {n : Int} {es : List (Int × Int × Int)} (hg : GOk n es) : gives (loop (spec_ForwardOrder_b1 n es) (0, [])) fun r => ∃ o, r = natL o ∧ FWE n.toNat es o := by
  have h0 := hg.1
  have h16 := hg.2.1
  have h40 := hg.2.2.1
  refine loop_to (fun s : Nat × List Nat => ((s.1 : Int), natL s.2)) (fun s => s.1 ≤ n.toNat ∧ FW n.toNat es s.2 ∧ ∀ u, u < s.1 → ¬ Rdy es s.2 u) (fun s => (n.toNat + 1) * (n.toNat - s.2.length) + (n.toNat - s.1)) (0, []) rfl ⟨Nat.zero_le _, fun k hk => absurd hk (by simp), fun u hu => absurd hu (by omega)⟩ ?_
  rintro ⟨v, o⟩ ⟨hv, hf, hu⟩
  simp only at hv hf hu
  have hlen := hf.len
  have hnl := natL_len o
  simp only [spec_ForwardOrder_b1, spec_l7Has_eq (l := natL o) (v := (v : Int)) (by omega), fwd_ready (es := es) (o := o) (v := v) (by omega) (by omega), go_sem]
  refine ⟨fun hc => ⟨fun hr => ⟨by omega, by omega, (0, o ++ [v]), ⟨by omega, ?_, fun u hu => absurd hu (by omega)⟩, ?_, ?_⟩, fun hr => ⟨by omega, (v + 1, o), ⟨by simp only; omega, hf, fun u h1 => ?_⟩, by simp only; omega, by simp⟩⟩, fun hc => ⟨o, rfl, hf, fun u h1 => hu u (by omega)⟩⟩
  · exact hf.snoc (by omega) (yes_iff.1 hr) hu
  · have h2 := (hf.snoc (v := v) (by omega) (yes_iff.1 hr) hu).len
    simp only [List.length_append, List.length_cons, List.length_nil, Nat.zero_add] at h2 ⊢
    rw [show n.toNat - o.length = (n.toNat - (o.length + 1)) + 1 from by omega, Nat.mul_add]
    omega
  · simp [natL_snoc]
  · by_cases huv : u = v
    · subst huv; exact fun h => by rw [yes_true h] at hr; cases hr
    · exact hu u (by simp only at h1; omega)
/-! The program. -/
/-- How many of the first k edges lead to w from outside. -/
noncomputable def cntB (es : List (Int × Int × Int)) (o : List Nat) (w : Nat) : Nat → Nat
  | 0 => 0
  | k + 1 => if yes ((es.getD k (0, 0, 0)).2.1 = (w : Int) ∧ ¬ (es.getD k (0, 0, 0)).1 ∈ natL o) = true then cntB es o w k + 1 else cntB es o w k
theorem cntB_le (es : List (Int × Int × Int)) (o : List Nat) (w : Nat) : ∀ k, cntB es o w k ≤ k
  | 0 => Nat.le_refl _
  | k + 1 => by have := cntB_le es o w k; simp only [cntB]; split <;> omega
theorem cntB_zero {es : List (Int × Int × Int)} {o : List Nat} {w : Nat} : ∀ {k : Nat}, cntB es o w k = 0 ↔ ∀ j, j < k → (es.getD j (0, 0, 0)).2.1 = (w : Int) → (es.getD j (0, 0, 0)).1 ∈ natL o
  | 0 => by simp [cntB]
  | k + 1 => by
    have ih := cntB_zero (es := es) (o := o) (w := w) (k := k)
    simp only [cntB]
    by_cases h : (es.getD k (0, 0, 0)).2.1 = (w : Int) ∧ ¬ (es.getD k (0, 0, 0)).1 ∈ natL o
    · rw [if_pos (yes_true h)]
      exact ⟨fun hh => by omega, fun hh => absurd (hh k (by omega) h.1) h.2⟩
    · rw [if_neg (by rw [yes_false h]; simp), ih]
      constructor
      · intro hh j hj he
        by_cases hjk : j = k
        · subst hjk; exact Classical.byContradiction fun hm => h ⟨he, hm⟩
        · exact hh j (by omega) he
      · intro hh j hj; exact hh j (by omega)
theorem rdy_cnt {es : List (Int × Int × Int)} {o : List Nat} {v : Nat} : Rdy es o v ↔ v ∉ o ∧ cntB es o v es.length = 0 := by rw [cntB_zero]; rfl
theorem edge_lex {n : Int} {es : List (Int × Int × Int)} (hg : GOk n es) : ∀ k, k < es.length → ∀ j, j < k → (es.getD j (0, 0, 0)).1 < (es.getD k (0, 0, 0)).1 ∨ (es.getD j (0, 0, 0)).1 = (es.getD k (0, 0, 0)).1 ∧ (es.getD j (0, 0, 0)).2.1 < (es.getD k (0, 0, 0)).2.1
  | 0, _, j, hj => absurd hj (by omega)
  | k + 1, hk, j, hj => by
    have h1 := (gok_len hg hk).2.2.2.2.2.2.2 (by omega)
    rw [Nat.add_sub_cancel] at h1
    by_cases hjk : j = k
    · subst hjk; exact h1
    · have h2 := edge_lex hg k (by omega) j (by omega)
      omega
theorem edge_uniq {n : Int} {es : List (Int × Int × Int)} (hg : GOk n es) {j k : Nat} (hj : j < es.length) (hk : k < es.length) (h1 : (es.getD j (0, 0, 0)).1 = (es.getD k (0, 0, 0)).1) (h2 : (es.getD j (0, 0, 0)).2.1 = (es.getD k (0, 0, 0)).2.1) : j = k := by
  rcases Nat.lt_trichotomy j k with h | h | h
  · have := edge_lex hg k hk j h; omega
  · exact h
  · have := edge_lex hg j hj k h; omega
theorem cntB_snoc {n : Int} {es : List (Int × Int × Int)} (hg : GOk n es) {o : List Nat} {v w : Nat} (hv : v ∉ o) : ∀ k, k ≤ es.length → cntB es o w k = cntB es (o ++ [v]) w k + (if yes (Nxt es k v w) = true then 1 else 0)
  | 0, _ => by rw [if_neg (by rw [yes_false (fun ⟨j, hj, _⟩ => by omega)]; simp)]; rfl
  | k + 1, hk => by
    have ih := cntB_snoc hg hv (w := w) k (by omega)
    simp only [cntB]
    have hm : (es.getD k (0, 0, 0)).1 ∈ natL (o ++ [v]) ↔ (es.getD k (0, 0, 0)).1 ∈ natL o ∨ (es.getD k (0, 0, 0)).1 = (v : Int) := by
      rw [natL_snoc, List.mem_append, List.mem_singleton]
    by_cases hw : (es.getD k (0, 0, 0)).2.1 = (w : Int)
    · by_cases he : (es.getD k (0, 0, 0)).1 = (v : Int)
      · have hno : ¬ (es.getD k (0, 0, 0)).1 ∈ natL o := by rw [he, natL_mem']; exact hv
        have hnx : ¬ Nxt es k v w := fun ⟨j, h1, h2, h3⟩ => by have := edge_uniq hg (j := j) (k := k) (by omega) (by omega) (by omega) (by omega); omega
        rw [if_pos (yes_true ⟨hw, hno⟩), if_neg (by rw [yes_false (fun h => h.2 (hm.2 (.inr he)))]; simp), if_pos (yes_true (Nxt.succ.2 (.inr ⟨he, hw⟩))), ih, if_neg (by rw [yes_false hnx]; simp)]
      · have e1 : yes (Nxt es (k + 1) v w) = yes (Nxt es k v w) := by
          rw [Bool.eq_iff_iff, yes_iff, yes_iff, Nxt.succ]
          exact ⟨fun h => h.elim id fun h => absurd h.1 he, .inl⟩
        have e2 : yes ((es.getD k (0, 0, 0)).2.1 = (w : Int) ∧ ¬ (es.getD k (0, 0, 0)).1 ∈ natL (o ++ [v])) = yes ((es.getD k (0, 0, 0)).2.1 = (w : Int) ∧ ¬ (es.getD k (0, 0, 0)).1 ∈ natL o) := by
          rw [Bool.eq_iff_iff, yes_iff, yes_iff, hm]
          exact ⟨fun h => ⟨h.1, fun hh => h.2 (.inl hh)⟩, fun h => ⟨h.1, fun hh => hh.elim h.2 he⟩⟩
        rw [e1, e2, ih]
        split <;> omega
    · have e1 : yes (Nxt es (k + 1) v w) = yes (Nxt es k v w) := by
        rw [Bool.eq_iff_iff, yes_iff, yes_iff, Nxt.succ]
        exact ⟨fun h => h.elim id fun h => absurd h.2 hw, .inl⟩
      rw [if_neg (by rw [yes_false (fun h => hw h.1)]; simp), if_neg (by rw [yes_false (fun h => hw h.1)]; simp), e1, ih]
theorem selL_nodup {p : Nat → Bool} : ∀ n, (selL p n).Nodup
  | 0 => by simp [selL]
  | n + 1 => by
    have ih := selL_nodup (p := p) n
    simp only [selL]
    split
    · rw [List.nodup_append]
      refine ⟨ih, by simp, fun a ha b hb => ?_⟩
      obtain ⟨j, h1, h2, _⟩ := selL_mem.1 ha
      rw [List.mem_singleton] at hb
      omega
    · exact ih
theorem bitsV_andNot {a : Nat} {b : Nat} (ha : a < 4294967296) (hb : b < 4294967296) : ∃ m : Nat, bitsV .andNot .u32 (a : Int) (b : Int) = (m : Int) ∧ m < 4294967296 ∧ ∀ i, m.testBit i = (a.testBit i && !b.testBit i) := by
  have h1 := ofInt_u32 (a := (a : Int)) ⟨by omega, by omega⟩
  have h2 := ofInt_u32 (a := (b : Int)) ⟨by omega, by omega⟩
  rw [Int.toNat_natCast] at h1 h2
  have e : (BitVec.ofInt IntKind.u32.bits (a : Int) &&& ~~~ BitVec.ofInt IntKind.u32.bits (b : Int)).toNat = a &&& (4294967295 - b) := by
    rw [BitVec.toNat_and, h1]
    congr 1
    show (~~~ BitVec.ofInt 32 (b : Int)).toNat = _
    rw [BitVec.toNat_not]
    have h3 : (BitVec.ofInt 32 (b : Int)).toNat = b := h2
    rw [h3]
  have hlt : a &&& (4294967295 - b) < 4294967296 := Nat.lt_of_le_of_lt Nat.and_le_left ha
  refine ⟨a &&& (4294967295 - b), ?_, hlt, fun i => ?_⟩
  · simp only [bitsV]
    rw [e]
    exact wrap_u32 (by omega) (by omega)
  · rw [Nat.testBit_and, (not_u32 hb).2 i]
    by_cases hi : i < 32
    · simp [hi]
    · rw [testBit_hi ha (by omega)]; rfl
theorem or_bit {m v : Nat} (hm : m < 4294967296) (hv : v < 32) : ∃ q : Nat, bitsV .or .u32 (m : Int) ((2 ^ v : Nat) : Int) = (q : Int) ∧ q < 4294967296 ∧ ∀ i, q.testBit i = (m.testBit i || decide (v = i)) := by
  have hbit : ∀ i, (2 ^ v : Nat).testBit i = decide (v = i) := fun i => Nat.testBit_two_pow
  have hp := two_pow_u32 hv
  generalize 2 ^ v = p at hbit hp
  have hor := Nat.or_lt_two_pow (x := m) (y := p) (n := 32) (by omega) (by omega)
  refine ⟨m ||| p, ?_, by omega, fun i => by rw [Nat.testBit_or, hbit i]⟩
  rw [bitsV_or ⟨by omega, by omega⟩ ⟨by omega, by omega⟩, Int.toNat_natCast, Int.toNat_natCast]
theorem fwd_before {n : Int} {es : List (Int × Int × Int)} (hg : GOk n es) : gives (loop (impl_forward_b0 es) (0, List.replicate n.toNat 0)) fun bf => bf.length = n.toNat ∧ ∀ w, w < n.toNat → bf.getD w 0 = (cntB es [] w es.length : Int) := by
  have h40 := hg.2.2.1
  refine loop_to (fun s : Nat × List Int => ((s.1 : Int), s.2)) (fun s => s.1 ≤ es.length ∧ s.2.length = n.toNat ∧ ∀ w, w < n.toNat → s.2.getD w 0 = (cntB es [] w s.1 : Int)) (fun s => es.length - s.1) (0, List.replicate n.toNat 0) rfl ⟨Nat.zero_le _, by simp, fun w hw => ?_⟩ ?_
  · simp only [List.getD_eq_getElem?_getD, List.getElem?_replicate, hw, if_true, Option.getD_some]; rfl
  · rintro ⟨j, bf⟩ ⟨hj, hl, hb⟩
    simp only at hj hl hb
    simp only [impl_forward_b0, go_sem]
    refine ⟨fun hc => ?_, fun hc => ?_⟩
    · have he := gok_len hg (k := j) (by omega)
      simp only [EOk] at he
      have hbj := hb (es.getD j (0, 0, 0)).2.1.toNat (by omega)
      have hle := cntB_le es [] (es.getD j (0, 0, 0)).2.1.toNat j
      refine ⟨by omega, by omega, by omega, by omega, (j + 1, _), ⟨by simp only; omega, by simp only [List.length_set]; exact hl, fun w hw => ?_⟩, by simp only; omega, rfl⟩
      simp only
      rw [getD_set _ _ _ _ _ (by omega), cntB]
      have hnil : ¬ (es.getD j (0, 0, 0)).1 ∈ natL [] := by simp [natL]
      by_cases hwe : w = (es.getD j (0, 0, 0)).2.1.toNat
      · rw [if_pos hwe, if_pos (yes_true ⟨by omega, hnil⟩), hbj, hwe]; omega
      · rw [if_neg hwe, if_neg (by rw [yes_false (fun h => hwe (by have := h.1; omega))]; simp)]
        exact hb w hw
    · rw [show es.length = j from by omega]; exact ⟨hl, hb⟩
theorem fwd_free {n : Nat} {es : List (Int × Int × Int)} {bf : List Int} (hn : n ≤ 16) (hl : bf.length = n) (hb : ∀ w, w < n → bf.getD w 0 = (cntB es [] w es.length : Int)) :
    gives (loop (impl_forward_b1 bf) (0, 0)) fun x => ∃ m : Nat, x = (m : Int) ∧ m < 4294967296 ∧ ∀ i, m.testBit i = true ↔ i < n ∧ Rdy es [] i := by
  refine loop_to (fun s : Nat × Nat => ((s.1 : Int), (s.2 : Int))) (fun s => s.1 < 4294967296 ∧ s.2 ≤ n ∧ ∀ i, s.1.testBit i = true ↔ i < s.2 ∧ Rdy es [] i) (fun s => n - s.2) (0, 0) rfl ⟨by omega, Nat.zero_le _, fun i => by simp⟩ ?_
  rintro ⟨m, j⟩ ⟨hm, hj, hbit⟩
  simp only at hm hj hbit
  simp only [impl_forward_b1, go_sem]
  refine ⟨fun hc => ?_, fun hc => ⟨m, rfl, hm, fun i => by rw [hbit i, show j = n from by omega]⟩⟩
  have hbj := hb j (by omega)
  refine ⟨by omega, fun hz => ?_, fun hz => ⟨by omega, (m, j + 1), ⟨hm, by simp only; omega, fun i => ?_⟩, by simp only; omega, by simp⟩⟩
  · rw [impl_maskOf_eq (by omega) (by omega), Int.toNat_natCast]
    obtain ⟨q, q1, q2, q3⟩ := or_bit (m := m) (v := j) hm (by omega)
    rw [gives_some, q1]
    refine ⟨by omega, (q, j + 1), ⟨q2, by simp only; omega, fun i => ?_⟩, by simp only; omega, by simp⟩
    simp only
    rw [q3 i, Bool.or_eq_true, hbit i, decide_eq_true_eq]
    constructor
    · rintro (h | h)
      · exact ⟨by omega, h.2⟩
      · subst h; exact ⟨by omega, rdy_cnt.2 ⟨by simp, by omega⟩⟩
    · rintro ⟨h1, h2⟩
      by_cases hij : j = i
      · exact .inr hij
      · exact .inl ⟨by omega, h2⟩
  · simp only
    rw [hbit i]
    constructor
    · rintro ⟨h1, h2⟩; exact ⟨by omega, h2⟩
    · rintro ⟨h1, h2⟩
      by_cases hij : i = j
      · subst hij; have := (rdy_cnt.1 h2).2; omega
      · exact ⟨by omega, h2⟩
theorem fwd_less {n : Int} {es : List (Int × Int × Int)} (hg : GOk n es) {o : List Nat} {v m : Nat} {bf : List Int} (hf : FW n.toNat es o) (hv : v < n.toNat) (hr : Rdy es o v) (hm : m < 4294967296)
    (hbit : ∀ i, m.testBit i = true ↔ i < n.toNat ∧ Rdy es o i ∧ i ≠ v) (hl : bf.length = n.toNat) (hb : ∀ w, w < n.toNat → bf.getD w 0 = (cntB es o w es.length : Int)) :
    gives (loop (impl_forward_b2 (selL (fun w => yes (Nxt es es.length v w)) n.toNat)) ((m : Int), 0, bf)) fun x => ∃ q : Nat, x.1 = (q : Int) ∧ q < 4294967296 ∧ (∀ i, q.testBit i = true ↔ i < n.toNat ∧ Rdy es (o ++ [v]) i) ∧ x.2.length = n.toNat ∧ ∀ w, w < n.toNat → x.2.getD w 0 = (cntB es (o ++ [v]) w es.length : Int) := by
  have h16 := hg.2.1
  have h40 := hg.2.2.1
  have hL : ∀ w : Nat, (w : Int) ∈ selL (fun w => yes (Nxt es es.length v w)) n.toNat ↔ w < n.toNat ∧ Nxt es es.length v w := fun w => by
    rw [selL_mem]
    exact ⟨fun ⟨j, h1, h2, h3⟩ => by rw [show w = j from by omega]; exact ⟨h2, yes_iff.1 h3⟩, fun h => ⟨w, rfl, h.1, yes_true h.2⟩⟩
  have hnd := selL_nodup (p := fun w => yes (Nxt es es.length (v : Int) w)) n.toNat
  have hin : ∀ x, x ∈ selL (fun w => yes (Nxt es es.length (v : Int) w)) n.toNat → ∃ w : Nat, x = (w : Int) ∧ w < n.toNat ∧ Nxt es es.length v w := fun x hx => by
    obtain ⟨j, h1, h2, h3⟩ := selL_mem.1 hx; exact ⟨j, h1, h2, yes_iff.1 h3⟩
  have hll := selL_len (fun w => yes (Nxt es es.length (v : Int) w)) n.toNat
  generalize selL (fun w => yes (Nxt es es.length (v : Int) w)) n.toNat = L at hL hnd hin hll
  have hsn : ∀ w, cntB es o w es.length = cntB es (o ++ [v]) w es.length + (if yes (Nxt es es.length v w) = true then 1 else 0) := fun w => cntB_snoc hg hr.1 es.length (Nat.le_refl _)
  have hvo : ∀ w : Nat, Nxt es es.length v w → w ∉ o ∧ w ≠ v := fun w ⟨j, h1, h2, h3⟩ => by
    refine ⟨fun hw => hr.1 ?_, fun hw => ?_⟩
    · have := hf.closed hw h1 h3
      rw [h2, natL_mem'] at this; exact this
    · have he := gok_len hg h1
      simp only [EOk] at he
      omega
  refine loop_to (fun s : Nat × Nat × List Int => ((s.1 : Int), (s.2.1 : Int), s.2.2)) (fun s => s.2.1 ≤ L.length ∧ s.1 < 4294967296 ∧ s.2.2.length = n.toNat ∧ (∀ w, w < n.toNat → s.2.2.getD w 0 = (cntB es (o ++ [v]) w es.length : Int) + (if yes ((w : Int) ∈ L.drop s.2.1) = true then 1 else 0)) ∧ ∀ i, s.1.testBit i = true ↔ i < n.toNat ∧ Rdy es (o ++ [v]) i ∧ ¬ (i : Int) ∈ L.drop s.2.1)
    (fun s => L.length - s.2.1) (m, 0, bf) rfl ⟨Nat.zero_le _, hm, hl, fun w hw => ?_, fun i => ?_⟩ ?_
  · simp only [List.drop_zero]
    rw [hb w hw, hsn w]
    by_cases hx : Nxt es es.length v w
    · rw [if_pos (yes_true hx), if_pos (yes_true ((hL w).2 ⟨hw, hx⟩))]; omega
    · rw [if_neg (by rw [yes_false hx]; simp), if_neg (by rw [yes_false (fun h => hx ((hL w).1 h).2)]; simp)]; omega
  · simp only [List.drop_zero]
    rw [hbit i]
    constructor
    · rintro ⟨h1, h2, h3⟩
      have hc := (rdy_cnt.1 h2).2
      have hs := hsn i
      have hx : ¬ Nxt es es.length v i := fun hx => by rw [if_pos (yes_true hx)] at hs; omega
      refine ⟨h1, rdy_cnt.2 ⟨?_, by omega⟩, fun h => hx ((hL i).1 h).2⟩
      rw [List.mem_append, List.mem_singleton]
      exact fun h => h.elim h2.1 h3
    · rintro ⟨h1, h2, h3⟩
      obtain ⟨h4, h5⟩ := rdy_cnt.1 h2
      rw [List.mem_append, List.mem_singleton, not_or] at h4
      have hs := hsn i
      rw [if_neg (by rw [yes_false (fun hx => h3 ((hL i).2 ⟨h1, hx⟩))]; simp)] at hs
      exact ⟨h1, rdy_cnt.2 ⟨h4.1, by omega⟩, h4.2⟩
  · rintro ⟨q, j, bf⟩ ⟨hj, hq, hl, hb, hbit⟩
    simp only at hj hq hl hb hbit
    simp only [impl_forward_b2, go_sem]
    refine ⟨fun hc => ?_, fun hc => ?_⟩
    · have hlt : j < L.length := by omega
      obtain ⟨w, h1, h2, h3⟩ := hin L[j] (List.getElem_mem hlt)
      have hgj : L.getD j 0 = (w : Int) := by rw [getD_lt hlt, h1]
      have hdr : L.drop j = (w : Int) :: L.drop (j + 1) := by rw [List.drop_eq_getElem_cons hlt, h1]
      have hnw : ¬ (w : Int) ∈ L.drop (j + 1) := by
        have := (List.drop_sublist j L).nodup hnd
        rw [hdr, List.nodup_cons] at this
        exact this.1
      have hbw := hb w h2
      rw [if_pos (yes_true (by rw [hdr]; exact List.mem_cons_self))] at hbw
      have hle := cntB_le es (o ++ [v]) w es.length
      have hmem : ∀ i : Nat, ¬ i = w → ((i : Int) ∈ L.drop j ↔ (i : Int) ∈ L.drop (j + 1)) := fun i hi => by
        rw [hdr, List.mem_cons]
        exact ⟨fun h => h.elim (fun h => absurd (by omega) hi) id, .inr⟩
      have hset : ∀ i, i < n.toNat → (bf.set w (bf.getD w 0 - 1)).getD i 0 = (cntB es (o ++ [v]) i es.length : Int) + (if yes ((i : Int) ∈ L.drop (j + 1)) = true then 1 else 0) := fun i hi => by
        rw [getD_set _ _ _ _ _ (by omega)]
        by_cases hiw : i = w
        · rw [if_pos hiw, hiw, hbw, if_neg (by rw [yes_false hnw]; simp)]; omega
        · rw [if_neg hiw, hb i hi]
          by_cases hx : (i : Int) ∈ L.drop j
          · rw [if_pos (yes_true hx), if_pos (yes_true ((hmem i hiw).1 hx))]
          · rw [if_neg (by rw [yes_false hx]; simp), if_neg (by rw [yes_false (fun h => hx ((hmem i hiw).2 h))]; simp)]
      have hvw := hvo w h3
      have hno : w ∉ o ++ [v] := by
        rw [List.mem_append, List.mem_singleton, not_or]; exact hvw
      have hsw := hset w h2
      rw [if_neg (by rw [yes_false hnw]; simp)] at hsw
      rw [hgj, Int.toNat_natCast]
      simp only [List.length_set]
      refine ⟨by omega, by omega, by omega, by omega, fun hz => ?_, fun hz => ⟨by omega, (q, j + 1, _), ⟨by simp only; omega, hq, by simp only [List.length_set]; exact hl, hset, fun i => ?_⟩, by simp only; omega, by simp only [Prod.mk.injEq, true_and, and_true]; omega⟩⟩
      · rw [impl_maskOf_eq (by omega) (by omega), Int.toNat_natCast]
        obtain ⟨q', q1, q2, q3⟩ := or_bit (m := q) (v := w) hq (by omega)
        rw [gives_some, q1]
        refine ⟨by omega, (q', j + 1, _), ⟨by simp only; omega, q2, by simp only [List.length_set]; exact hl, hset, fun i => ?_⟩, by simp only; omega, by simp only [Prod.mk.injEq, true_and, and_true]; omega⟩
        simp only
        rw [q3 i, Bool.or_eq_true, hbit i, decide_eq_true_eq]
        constructor
        · rintro (⟨e1, e2, e3⟩ | h)
          · by_cases hiw : i = w
            · subst hiw; exact absurd (by rw [hdr]; exact List.mem_cons_self) e3
            · exact ⟨e1, e2, fun h => e3 ((hmem i hiw).2 h)⟩
          · subst h; exact ⟨h2, rdy_cnt.2 ⟨hno, by omega⟩, hnw⟩
        · rintro ⟨e1, e2, e3⟩
          by_cases hiw : i = w
          · exact .inr hiw.symm
          · exact .inl ⟨e1, e2, fun h => e3 ((hmem i hiw).1 h)⟩
      · simp only
        rw [hbit i]
        by_cases hiw : i = w
        · subst hiw
          constructor
          · rintro ⟨_, _, e3⟩; exact absurd (by rw [hdr]; exact List.mem_cons_self) e3
          · rintro ⟨_, e2, _⟩; have := (rdy_cnt.1 e2).2; omega
        · exact ⟨fun ⟨e1, e2, e3⟩ => ⟨e1, e2, fun h => e3 ((hmem i hiw).2 h)⟩, fun ⟨e1, e2, e3⟩ => ⟨e1, e2, fun h => e3 ((hmem i hiw).1 h)⟩⟩
    · have hd : L.drop j = [] := List.drop_eq_nil_of_le (by omega)
      refine ⟨q, rfl, hq, fun i => ?_, hl, fun w hw => ?_⟩
      · rw [hbit i, hd]; simp
      · try simp only
        rw [hb w hw, hd, if_neg (by rw [yes_false (by simp)]; simp)]; omega
theorem impl_fwd {n : Int} {es : List (Int × Int × Int)} (hg : GOk n es) : gives (impl_forward n es) fun r => ∃ o, r = natL o ∧ FWE n.toNat es o := by
  have h0 := hg.1
  have h16 := hg.2.1
  unfold impl_forward
  rw [chk_pos (by omega), gives_bind]
  refine (fwd_before hg).mono ?_
  rintro bf ⟨b1, b2⟩
  rw [gives_bind]
  refine (impl_nextMasks_ok hg).mono fun ms hm => ?_
  rw [gives_bind]
  refine (fwd_free (by omega) b1 b2).mono ?_
  rintro x ⟨m, rfl, f1, f2⟩
  simp only [go_sem]
  refine loop_to (fun s : Nat × List Int × List Nat => ((s.1 : Int), s.2.1, natL s.2.2)) (fun s => s.1 < 4294967296 ∧ FW n.toNat es s.2.2 ∧ (∀ i, s.1.testBit i = true ↔ i < n.toNat ∧ Rdy es s.2.2 i) ∧ s.2.1.length = n.toNat ∧ ∀ w, w < n.toNat → s.2.1.getD w 0 = (cntB es s.2.2 w es.length : Int)) (fun s => n.toNat - s.2.2.length) (m, bf, []) rfl
    ⟨f1, fun k hk => absurd hk (by simp), f2, b1, b2⟩ ?_
  rintro ⟨m, bf, o⟩ ⟨hm1, hf, hbit, hl, hb⟩
  simp only at hm1 hf hbit hl hb
  have hlen := hf.len
  have hnl := natL_len o
  simp only [impl_forward_b3]
  by_cases hz : m = 0
  · subst hz
    rw [if_neg (by simp), gives_some]
    refine ⟨o, rfl, hf, fun v hv hr => ?_⟩
    have := (hbit v).2 ⟨hv, hr⟩
    rw [Nat.zero_testBit] at this; cases this
  · obtain ⟨v, hv, hlow⟩ := low_exists hz hm1
    obtain ⟨hvn, hr⟩ := (hbit v).1 hlow.1
    have hleast : ∀ u, u < v → ¬ Rdy es o u := fun u hu h => by
      have h1 := hlow.2 u hu
      rw [(hbit u).2 ⟨by omega, h⟩] at h1; cases h1
    have hsn := hf.snoc hvn hr hleast
    have hsl := hsn.len
    simp only [List.length_append, List.length_cons, List.length_nil] at hsl
    rw [if_pos (by simp; omega), impl_least_eq (k := v) (by rw [Int.toNat_natCast]; exact hlow) hv (by omega) (by omega)]
    simp only [Option.bind_some]
    rw [impl_maskOf_eq (by omega) (by omega), Int.toNat_natCast]
    simp only [Option.bind_some]
    have hml := hm.1
    rw [chk_pos (by omega), chk_pos (by omega), impl_list_near (n := n) (es := es) (v := v) (by omega) hm (fun a b ⟨j, h1, h2, h3⟩ => by
      have he := gok_len hg h1
      simp only [EOk] at he
      omega) hvn]
    simp only [Option.bind_some]
    have hp := two_pow_u32 hv
    obtain ⟨q, q1, q2, q3⟩ := bitsV_andNot (a := m) (b := 2 ^ v) hm1 hp
    rw [q1, gives_bind]
    refine (fwd_less hg hf hvn hr q2 (fun i => ?_) hl hb).mono ?_
    · rw [q3 i, Bool.and_eq_true, hbit i, Nat.testBit_two_pow, Bool.not_eq_true', decide_eq_false_iff_not]
      exact ⟨fun h => ⟨h.1.1, h.1.2, fun e => h.2 e.symm⟩, fun h => ⟨⟨h.1, h.2.1⟩, fun e => h.2.2 e.symm⟩⟩
    · rintro ⟨x1, x2⟩ ⟨q', p1, p2, p3, p4, p5⟩
      simp only at p1 p4 p5
      subst p1
      rw [gives_some]
      exact ⟨(q', x2, o ++ [v]), ⟨p2, hsn, p3, p4, p5⟩, by simp only [List.length_append, List.length_cons, List.length_nil]; omega, by simp only [natL_snoc]⟩
/-- Both, at once. -/
theorem forward_eq {n : Int} {es : List (Int × Int × Int)} (hn : -9223372036854775808 ≤ n ∧ n ≤ 9223372036854775807) (hx : es.length ≤ 1000000000) :
    ∃ r : List Int × Bool, impl_ForwardOrder n es = some r ∧ spec_ForwardOrder n es = some r ∧ r.1.length ≤ 16 ∧ (r.2 = true → GOk n es ∧ ∃ o, r.1 = natL o ∧ FWE n.toNat es o ∧ o.length = n.toNat) ∧ (r.2 = false → r.1 = [] ∧ (GOk n es → ∃ o, FWE n.toNat es o ∧ o.length < n.toNat)) := by
  unfold impl_ForwardOrder spec_ForwardOrder
  rw [impl_GraphValid_eq, spec_GraphValid_eq hn hx]
  simp only [Option.bind_some]
  by_cases hg : GOk n es
  · obtain ⟨r1, h1, o1, e1, p1⟩ := impl_fwd hg
    obtain ⟨r2, h2, o2, e2, p2⟩ := spec_fwd hg
    have := p1.uniq p2
    subst this
    subst e1 e2
    have h0 := hg.1
    have h16 := hg.2.1
    have hl := natL_len o1
    have hlen := p1.1.len
    rw [gok_true hg, h1, h2]
    simp only [Option.bind_some]
    have ht : ¬ ((!true) = true) := by simp
    rw [if_neg ht]
    by_cases hlt : ((natL o1).length : Int) < n
    · have hd : decide (((natL o1).length : Int) < n) = true := by simpa using hlt
      rw [if_pos hd]
      exact ⟨([], false), rfl, rfl, by simp, fun h => (by cases h), fun _ => ⟨rfl, fun _ => ⟨o1, p1, by omega⟩⟩⟩
    · have hd : ¬ decide (((natL o1).length : Int) < n) = true := by simpa using hlt
      rw [if_neg hd]
      exact ⟨(natL o1, true), rfl, rfl, by simp only; omega, fun _ => ⟨hg, o1, rfl, p1, by omega⟩, fun h => (by cases h)⟩
  · rw [gok_false hg, if_pos (show (!false) = true from rfl), if_pos (show (!false) = true from rfl)]
    exact ⟨([], false), rfl, rfl, by simp, fun h => (by cases h), fun _ => ⟨rfl, fun h => absurd h hg⟩⟩
end Go.Proofs.YtdjckcedpnabpaaDoor
