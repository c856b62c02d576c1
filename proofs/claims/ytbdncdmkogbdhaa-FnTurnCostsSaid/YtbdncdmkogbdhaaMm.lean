/- Several texts in one. -/
import Derived.Test.YtbdncdmkogbdhaaLaD
section
/- What the functions taken out compute: valid graphs, cuts, colors, orders. -/
set_option linter.unusedSimpArgs false
set_option linter.unusedVariables false
namespace Go.Proofs.Ytbdncdmkogbdhaa
open Go Go.Av
attribute [local go_sem] gives_chk gives_ite gives_some gives_bind gives_join Sum.elim_inl Sum.elim_inr decide_eq_true_eq decide_eq_false_iff_not Bool.not_eq_true' Bool.not_eq_false' Bool.or_eq_true Bool.and_eq_true Bool.not_eq_eq_eq_not beq_iff_eq bne_iff_ne ne_eq Bool.or_eq_false_iff Bool.and_eq_false_iff Bool.not_eq_true Bool.not_eq_false Bool.not_true Bool.not_false Int.toNat_natCast beq_eq_false_iff_ne bne_eq_false_iff_eq Decidable.not_not Bool.default_bool

/-- Edge k of a list is right: its ends, its weight, its place. -/
def EOk (n : Int) (es : List (Int × Int × Int)) (k : Nat) : Prop :=
  0 ≤ (es.getD k (0, 0, 0)).1 ∧ (es.getD k (0, 0, 0)).1 < n ∧ 0 ≤ (es.getD k (0, 0, 0)).2.1 ∧ (es.getD k (0, 0, 0)).2.1 < n ∧ ¬ (es.getD k (0, 0, 0)).1 = (es.getD k (0, 0, 0)).2.1 ∧
  0 ≤ (es.getD k (0, 0, 0)).2.2 ∧ (es.getD k (0, 0, 0)).2.2 ≤ 20 ∧
  (0 < k → (es.getD (k - 1) (0, 0, 0)).1 < (es.getD k (0, 0, 0)).1 ∨ (es.getD (k - 1) (0, 0, 0)).1 = (es.getD k (0, 0, 0)).1 ∧ (es.getD (k - 1) (0, 0, 0)).2.1 < (es.getD k (0, 0, 0)).2.1)
def GOk (n : Int) (es : List (Int × Int × Int)) : Prop := 0 ≤ n ∧ n ≤ 16 ∧ es.length ≤ 40 ∧ ∀ k, k < es.length → EOk n es k
open Classical in
noncomputable def gok (n : Int) (es : List (Int × Int × Int)) : Bool := decide (GOk n es)
theorem gok_true {n : Int} {es : List (Int × Int × Int)} (h : GOk n es) : gok n es = true := by simp [gok, h]
theorem gok_false {n : Int} {es : List (Int × Int × Int)} (h : ¬ GOk n es) : gok n es = false := by simp [gok, h]
theorem EOk.more {n : Int} {es : List (Int × Int × Int)} {k : Nat} (h : ∀ j, j < k → EOk n es j) (hk : EOk n es k) (j : Nat) (hj : j < k + 1) : EOk n es j := by
  by_cases he : j = k
  · subst he; exact hk
  · exact h j (by omega)
theorem cmpE_neg (a b d e : Int) : orF [cmpI a d, cmpI b e] < 0 ↔ (a < d ∨ a = d ∧ b < e) := by
  simp only [orF, cmpI]; repeat' split
  all_goals omega
theorem toNat_sub_one {k : Nat} (h : 0 < k) : ((k : Int) - 1).toNat = k - 1 := by omega

theorem spec_GraphValid_eq {n : Int} {es : List (Int × Int × Int)} (hn : -9223372036854775808 ≤ n ∧ n ≤ 9223372036854775807) (hx : es.length ≤ 1000000000) : spec_GraphValid n es = some (gok n es) := by
  refine gives_eq.1 ?_
  unfold spec_GraphValid
  rw [gives_bind]
  refine gives.mono (gives_loop (fun k : Nat => (k : Int)) (fun k => k ≤ es.length ∧ (0 ≤ n → ∀ j, j < k → EOk n es j)) (fun k => es.length - k)
    (Q := fun x => match x with | .inl _ => 0 ≤ n → ∀ j, j < es.length → EOk n es j | .inr _ => ∃ k, k < es.length ∧ (0 ≤ n → ¬ EOk n es k)) ?_ 0 ⟨by omega, fun _ j hj => absurd hj (by omega)⟩) ?_
  · intro k hs
    simp only [spec_GraphValid_b0, go_sem]
    have hw : IntKind.i64.wrap (n - 1) = n - 1 ∨ ¬ 0 ≤ n := by
      by_cases h0 : 0 ≤ n
      · exact .inl (wrap_fits (by omega) (by omega))
      · exact .inr h0
    refine ⟨fun hc => ⟨by omega, by omega, by omega, fun hbad => ⟨k, by omega, fun h0 he => ?_⟩, fun hgood => ⟨by omega, k + 1, ⟨by omega, fun h0 => EOk.more (hs.2 h0) ?_⟩, by omega, by omega⟩⟩, fun hc h0 j hj => hs.2 h0 j (by omega)⟩
    · rcases hw with hw | hw
      · rw [hw] at hbad
        simp only [EOk] at he
        by_cases hk : 0 < k
        · rw [toNat_sub_one hk] at hbad; omega
        · omega
      · exact hw h0
    · rcases hw with hw | hw
      · rw [hw] at hgood
        simp only [EOk]
        by_cases hk : 0 < k
        · rw [toNat_sub_one hk] at hgood; omega
        · omega
      · exact absurd h0 hw
  · rintro (_ | _) h <;> simp only [Sum.elim_inl, Sum.elim_inr, gives_some] at h ⊢
    · by_cases hg : 0 ≤ n ∧ n ≤ 16 ∧ es.length ≤ 40
      · rw [gok_true ⟨hg.1, hg.2.1, hg.2.2, h hg.1⟩]; simp; omega
      · rw [gok_false (fun g => hg ⟨g.1, g.2.1, g.2.2.1⟩)]; simp; omega
    · obtain ⟨k, hk, h⟩ := h
      rw [gok_false (fun g => h g.1 (g.2.2.2 k hk))]

theorem impl_has_eq (n : Int) (es : List (Int × Int × Int)) (v : Int) : impl_Graph_has n es v = some (decide (0 ≤ v ∧ v < n)) := by
  refine gives_eq.1 ?_
  simp only [impl_Graph_has, go_sem]
  rw [Bool.eq_iff_iff]; simp
theorem impl_GraphValid_eq {n : Int} {es : List (Int × Int × Int)} : impl_GraphValid n es = some (gok n es) := by
  refine gives_eq.1 ?_
  unfold impl_GraphValid
  simp only [go_sem]
  refine ⟨fun h => (gok_false (fun g => by have := g.1; have := g.2.1; have := g.2.2.1; omega)).symm, fun hb => ?_⟩
  refine gives.mono (gives_loop (fun k : Nat => (k : Int)) (fun k => k ≤ es.length ∧ ∀ j, j < k → EOk n es j) (fun k => es.length - k)
    (Q := fun x => match x with | .inl _ => ∀ j, j < es.length → EOk n es j | .inr _ => ∃ k, k < es.length ∧ ¬ EOk n es k) ?_ 0 ⟨by omega, fun j hj => absurd hj (by omega)⟩) ?_
  · intro k hs
    simp only [impl_GraphValid_b0, impl_has_eq, go_sem, Option.bind_some]
    refine ⟨fun hc => ⟨by omega, ⟨fun h1 => ⟨fun hbad => ⟨k, by omega, fun he => ?_⟩, fun hg => ⟨fun hbad => ⟨k, by omega, fun he => ?_⟩, fun hg2 => ⟨by omega, fun hk => by omega, fun hbad => ⟨k, by omega, fun he => ?_⟩, fun hg3 => ⟨by omega, k + 1, ⟨by omega, EOk.more hs.2 ?_⟩, by omega, by omega⟩⟩⟩⟩, fun h1 => ⟨fun hbad => ⟨k, by omega, fun he => ?_⟩, fun hg => ?_⟩⟩⟩, fun hc j hj => hs.2 j (by omega)⟩
    · simp only [EOk] at he; omega
    · simp only [EOk] at he; omega
    · simp only [EOk] at he
      have hq := cmpE_neg (es.getD ((k : Int) - 1).toNat (0, 0, 0)).1 (es.getD ((k : Int) - 1).toNat (0, 0, 0)).2.1 (es.getD k (0, 0, 0)).1 (es.getD k (0, 0, 0)).2.1
      rw [toNat_sub_one (by omega)] at hbad hq
      omega
    · simp only [EOk]
      by_cases hk : 0 < k
      · have hq := cmpE_neg (es.getD ((k : Int) - 1).toNat (0, 0, 0)).1 (es.getD ((k : Int) - 1).toNat (0, 0, 0)).2.1 (es.getD k (0, 0, 0)).1 (es.getD k (0, 0, 0)).2.1
        rw [toNat_sub_one hk] at hg3 hq
        omega
      · omega
    · simp only [EOk] at he; omega
    · exfalso; omega
  · rintro (_ | _) h <;> simp only [go_sem] at h ⊢
    · rw [gok_true ⟨by omega, by omega, by omega, h⟩]
    · obtain ⟨k, hk, h⟩ := h
      rw [gok_false (fun g => h (g.2.2.2 k hk))]

theorem list_eq_of {α : Type} {d : α} {xs ys : List α} (hl : xs.length = ys.length) (h : ∀ k, k < xs.length → xs.getD k d = ys.getD k d) : xs = ys := by
  apply List.ext_getElem? 
  intro k
  by_cases hk : k < xs.length
  · have := h k hk
    simp only [List.getD_eq_getElem?_getD, List.getElem?_eq_getElem hk, List.getElem?_eq_getElem (hl ▸ hk), Option.getD_some] at this
    rw [List.getElem?_eq_getElem hk, List.getElem?_eq_getElem (hl ▸ hk), this]
  · rw [List.getElem?_eq_none (by omega), List.getElem?_eq_none (by omega)]
/-- A loop that compares. -/
theorem gives_same {α : Type} [DecidableEq α] {xs ys : List α} {d : α} {body : Int → Option (Int ⊕ (Unit ⊕ Unit))} (hl : xs.length = ys.length)
    (hb : ∀ (k : Nat), k ≤ xs.length → body k = if k < xs.length then (if xs.getD k d = ys.getD k d then some (.inl ((k : Int) + 1)) else some (.inr (.inr ()))) else some (.inr (.inl ()))) :
    loop body 0 = some (if xs = ys then .inl () else .inr ()) := by
  refine gives_eq.1 ?_
  refine gives_loop (fun k : Nat => (k : Int)) (fun k => k ≤ xs.length ∧ ∀ j, j < k → xs.getD j d = ys.getD j d) (fun k => xs.length - k) ?_ 0 ⟨Nat.zero_le _, fun j hj => absurd hj (by omega)⟩
  intro k hs
  rw [hb k hs.1]
  split
  · rename_i h
    split
    · rename_i he
      refine gives_some.2 ⟨k + 1, ⟨by omega, fun j hj => ?_⟩, by omega, by omega⟩
      by_cases hjk : j = k
      · subst hjk; exact he
      · exact hs.2 j (by omega)
    · rename_i he
      refine gives_some.2 ?_
      rw [if_neg]; intro e; exact he (by rw [e])
  · refine gives_some.2 ?_
    rw [if_pos (list_eq_of hl fun j hj => hs.2 j (by omega))]
/-! Cuts. -/
theorem gok_len {n : Int} {es : List (Int × Int × Int)} (h : GOk n es) {k : Nat} (hk : k < es.length) : EOk n es k := h.2.2.2 k hk
/-- The sum of the weights of edges j < k between different sides. -/
def cutF (es : List (Int × Int × Int)) (ss : List Bool) : Nat → Int
  | 0 => 0
  | k + 1 => if ss.getD (es.getD k (0, 0, 0)).1.toNat false = ss.getD (es.getD k (0, 0, 0)).2.1.toNat false then cutF es ss k else cutF es ss k + (es.getD k (0, 0, 0)).2.2
def flipS (ss : List Bool) (v : Nat) : List Bool := ss.set v (!(ss.getD v false))
theorem getD_flip {ss : List Bool} {v j : Nat} (hv : v < ss.length) : (flipS ss v).getD j false = if j = v then !(ss.getD v false) else ss.getD j false := by
  unfold flipS
  rw [getD_set _ _ _ _ _ hv]
/-- By how much a cut is less when v changes its side, over edges j < k. -/
def gainF (es : List (Int × Int × Int)) (ss : List Bool) (v : Int) : Nat → Int
  | 0 => 0
  | k + 1 => if ¬ (es.getD k (0, 0, 0)).1 = v ∧ ¬ (es.getD k (0, 0, 0)).2.1 = v then gainF es ss v k
    else if ss.getD (es.getD k (0, 0, 0)).1.toNat false = ss.getD (es.getD k (0, 0, 0)).2.1.toNat false then gainF es ss v k - (es.getD k (0, 0, 0)).2.2 else gainF es ss v k + (es.getD k (0, 0, 0)).2.2
theorem gain_cut {n : Int} {es : List (Int × Int × Int)} {ss : List Bool} {v : Nat} (h : GOk n es) (hl : (ss.length : Int) = n) (hv : (v : Int) < n) : ∀ k, k ≤ es.length → gainF es ss v k = cutF es ss k - cutF es (flipS ss v) k
  | 0, _ => rfl
  | k + 1, hk => by
    have ih := gain_cut h hl hv k (by omega)
    have he := gok_len h (k := k) (by omega)
    simp only [EOk] at he
    have hvl : v < ss.length := by omega
    simp only [gainF, cutF, getD_flip hvl]
    generalize (es.getD k (0, 0, 0)).1 = a at *
    generalize (es.getD k (0, 0, 0)).2.1 = b at *
    generalize (es.getD k (0, 0, 0)).2.2 = w at *
    by_cases ha : a.toNat = v
    · have hb : ¬ b.toNat = v := by omega
      rw [if_neg (by omega), if_pos ha, if_neg hb, ha]
      cases ss.getD v false <;> cases ss.getD b.toNat false <;> simp <;> omega
    · by_cases hb : b.toNat = v
      · rw [if_neg (by omega), if_neg ha, if_pos hb, hb]
        cases ss.getD v false <;> cases ss.getD a.toNat false <;> simp <;> omega
      · rw [if_pos (by omega), if_neg ha, if_neg hb]
        cases ss.getD a.toNat false <;> cases ss.getD b.toNat false <;> simp <;> omega
end Go.Proofs.Ytbdncdmkogbdhaa
end

section
/- What the functions taken out compute: colors and orders. -/
set_option linter.unusedSimpArgs false
set_option linter.unusedVariables false
namespace Go.Proofs.Ytbdncdmkogbdhaa
open Go Go.Av
attribute [local go_sem] gives_chk gives_ite gives_some gives_bind gives_join Sum.elim_inl Sum.elim_inr decide_eq_true_eq decide_eq_false_iff_not Bool.not_eq_true' Bool.not_eq_false' Bool.or_eq_true Bool.and_eq_true Bool.not_eq_eq_eq_not beq_iff_eq bne_iff_ne ne_eq Bool.or_eq_false_iff Bool.and_eq_false_iff Bool.not_eq_true Bool.not_eq_false Bool.not_true Bool.not_false Int.toNat_natCast beq_eq_false_iff_ne bne_eq_false_iff_eq Decidable.not_not Bool.default_bool

/-! Colors. -/
def ColOk (n : Int) (es : List (Int × Int × Int)) (cs : List Int) : Prop := GOk n es ∧ (cs.length : Int) = n ∧ (∀ k, k < cs.length → 0 ≤ cs.getD k 0) ∧
  ∀ k, k < es.length → ¬ cs.getD (es.getD k (0, 0, 0)).1.toNat 0 = cs.getD (es.getD k (0, 0, 0)).2.1.toNat 0
open Classical in
noncomputable def yes (p : Prop) : Bool := decide p
theorem yes_true {p : Prop} (h : p) : yes p = true := by simp [yes, h]
/-! Orders. -/
theorem spec_l8Fill_eq {n v : Int} (h0 : 0 ≤ n) (h1 : n ≤ 1000000) : spec_l8Fill n v = some (List.replicate n.toNat v) := by
  refine gives_eq.1 ?_
  unfold spec_l8Fill
  simp only [go_sem]
  refine gives_loop (fun k : Nat => ((k : Int), List.replicate k v)) (fun k => (k : Int) ≤ n) (fun k => n.toNat - k) ?_ 0 h0
  intro k hs
  simp only [spec_l8Fill_b0, go_sem, List.length_replicate]
  refine ⟨fun hc => ⟨by omega, by omega, k + 1, by omega, by omega, ?_⟩, fun hc => by rw [show n.toNat = k from by omega]⟩
  rw [List.replicate_succ']; rfl
theorem impl_unknowns_eq {n : Int} (h0 : 0 ≤ n) (h1 : n ≤ 1000000) : impl_unknowns n = some (List.replicate n.toNat (-1)) := by
  refine gives_eq.1 ?_
  unfold impl_unknowns
  simp only [go_sem]
  refine ⟨by omega, ?_⟩
  refine gives_loop (fun k : Nat => ((k : Int), List.replicate k (-1) ++ List.replicate (n.toNat - k) 0)) (fun k => (k : Int) ≤ n) (fun k => n.toNat - k) ?_ 0 h0
  intro k hs
  simp only [impl_unknowns_b0, go_sem, List.length_replicate, List.length_append]
  refine ⟨fun hc => ⟨by omega, by omega, k + 1, by omega, by omega, ?_⟩, fun hc => by rw [show n.toNat = k from by omega]; simp⟩
  have h2 : n.toNat - k = (n.toNat - (k + 1)) + 1 := by omega
  rw [List.set_append_right _ _ (by simp), List.length_replicate, Nat.sub_self, h2, List.replicate_succ, List.set_cons_zero, List.replicate_succ']
  simp
end Go.Proofs.Ytbdncdmkogbdhaa
end

section
/- Sets of vertices as bits; neighbours; matchings. -/
set_option linter.unusedSimpArgs false
set_option linter.unusedVariables false
namespace Go.Proofs.Ytbdncdmkogbdhaa
open Go Go.Av
attribute [local go_sem] gives_chk gives_ite gives_some gives_bind gives_join Sum.elim_inl Sum.elim_inr decide_eq_true_eq decide_eq_false_iff_not Bool.not_eq_true' Bool.not_eq_false' Bool.or_eq_true Bool.and_eq_true Bool.not_eq_eq_eq_not beq_iff_eq bne_iff_ne ne_eq Bool.or_eq_false_iff Bool.and_eq_false_iff Bool.not_eq_true Bool.not_eq_false Bool.not_true Bool.not_false Int.toNat_natCast beq_eq_false_iff_ne bne_eq_false_iff_eq Decidable.not_not Bool.default_bool

/-! Neighbours. -/
/-- One of the first k edges leads from a to b. -/
def Nxt (es : List (Int × Int × Int)) (k : Nat) (a b : Int) : Prop := ∃ j, j < k ∧ (es.getD j (0, 0, 0)).1 = a ∧ (es.getD j (0, 0, 0)).2.1 = b
/-- Neighbours: an edge in one direction or the other. -/
def Adj (es : List (Int × Int × Int)) (a b : Int) : Prop := Nxt es es.length a b ∨ Nxt es es.length b a
/-- Masks of sets of vertices. -/
def MaskOk (n : Int) (ms : List Int) (p : Nat → Nat → Prop) : Prop := ms.length = n.toNat ∧ ∀ v, v < n.toNat → (0 ≤ ms.getD v 0 ∧ ms.getD v 0 < 4294967296) ∧ ∀ w, (ms.getD v 0).toNat.testBit w = true ↔ p v w
theorem MaskOk.mono {n : Int} {ms : List Int} {p q : Nat → Nat → Prop} (h : MaskOk n ms p) (hpq : ∀ v w, v < n.toNat → (p v w ↔ q v w)) : MaskOk n ms q :=
  ⟨h.1, fun v hv => ⟨(h.2 v hv).1, fun w => ((h.2 v hv).2 w).trans (hpq v w hv)⟩⟩
/-! Matchings. -/
def MatOk (n : Int) (es : List (Int × Int × Int)) (ps : List Int) : Prop := GOk n es ∧ (ps.length : Int) = n ∧ ∀ k : Nat, k < ps.length → ps.getD k 0 = -1 ∨ (0 ≤ ps.getD k 0 ∧ ps.getD k 0 < n ∧ Adj es k (ps.getD k 0) ∧ ps.getD (ps.getD k 0).toNat 0 = k)
theorem yes_iff {p : Prop} : yes p = true ↔ p := ⟨fun h => by simpa [yes] using h, yes_true⟩
end Go.Proofs.Ytbdncdmkogbdhaa
end

section
/- Arguments that are drawn out of bytes. -/
set_option linter.unusedSimpArgs false
set_option linter.unusedVariables false
namespace Go.Proofs.Ytbdncdmkogbdhaa
open Go Go.Av
attribute [local go_sem] gives_chk gives_ite gives_some gives_bind gives_join Sum.elim_inl Sum.elim_inr decide_eq_true_eq decide_eq_false_iff_not Bool.not_eq_true' Bool.not_eq_false' Bool.or_eq_true Bool.and_eq_true Bool.not_eq_eq_eq_not beq_iff_eq bne_iff_ne ne_eq Bool.or_eq_false_iff Bool.and_eq_false_iff Bool.not_eq_true Bool.not_eq_false Bool.not_true Bool.not_false Int.toNat_natCast beq_eq_false_iff_ne bne_eq_false_iff_eq Decidable.not_not Bool.default_bool

def Bts (b : List Int) : Prop := ∀ k, 0 ≤ b.getD k 0 ∧ b.getD k 0 ≤ 255
theorem ofInt_u64 {a : Int} (ha : 0 ≤ a ∧ a < 9223372036854775808) : (BitVec.ofInt IntKind.i64.bits a).toNat = a.toNat := by
  show (BitVec.ofInt 64 a).toNat = a.toNat
  rw [BitVec.toNat_ofInt]
  have : a % ((2 ^ 64 : Nat) : Int) = a := Int.emod_eq_of_lt ha.1 (by have := ha.2; norm_cast; omega)
  rw [this]
theorem xor_nonneg {a b : Int} (ha : 0 ≤ a ∧ a < 9223372036854775808) (hb : 0 ≤ b ∧ b < 9223372036854775808) : 0 ≤ bitsV .xor .i64 a b := by
  simp only [bitsV, BitVec.toNat_xor, ofInt_u64 ha, ofInt_u64 hb]
  have h := Nat.xor_lt_two_pow (x := a.toNat) (y := b.toNat) (n := 63) (by have := ha.2; omega) (by have := hb.2; omega)
  rw [wrap_fits (by omega) (by omega)]
  omega
theorem pick_ok {b : List Int} {p n : Int} (hb : Bts b) (hp : 0 ≤ p ∧ p ≤ 1000000) : gives (spec_l20Rd_pick b p n) fun r => r.2 = p + 1 ∧ 0 ≤ r.1 ∧ (1 ≤ n → r.1 < n) ∧ (r.1 = 0 ∨ 1 ≤ n) := by
  simp only [spec_l20Rd_pick, go_sem, show p + 1 - 1 = p from by omega]
  refine ⟨by omega, fun h => ⟨trivial, by omega, by omega, .inl trivial⟩, fun h => ⟨by omega, fun h2 => ?_, fun h2 => ?_⟩⟩
  · have h3 := hb p.toNat
    refine ⟨by omega, by omega, by omega, trivial, Int.emod_nonneg _ (by omega), fun h4 => Int.emod_lt_of_pos _ (by omega), .inr (by omega)⟩
  · have hl : (0 : Int) < b.length := by omega
    have m1 := Int.emod_nonneg p (show (b.length : Int) ≠ 0 by omega)
    have m2 := Int.emod_lt_of_pos p hl
    have m3 := Int.emod_nonneg (p * 7 + 3) (show (b.length : Int) ≠ 0 by omega)
    have m4 := Int.emod_lt_of_pos (p * 7 + 3) hl
    have d1 := Int.ediv_nonneg hp.1 (Int.le_of_lt hl)
    have d2 := Int.ediv_le_self (b.length : Int) hp.1
    have b1 := hb (p % (b.length : Int)).toNat
    have b2 := hb ((p * 7 + 3) % (b.length : Int)).toNat
    generalize p % (b.length : Int) = u at *
    generalize (p * 7 + 3) % (b.length : Int) = v at *
    generalize p / (b.length : Int) = w at *
    generalize b.getD u.toNat 0 = x at *
    generalize b.getD v.toNat 0 = y at *
    have hx : 0 ≤ x * 131 + y * 1117 + p * 29 + w * 53 ∧ x * 131 + y * 1117 + p * 29 + w * 53 ≤ 1000000000 := by omega
    have q1 := Int.ediv_nonneg hx.1 (show (0 : Int) ≤ 64 by omega)
    have q2 := Int.ediv_le_self (64 : Int) hx.1
    have x1 := xor_nonneg (a := x * 131 + y * 1117 + p * 29 + w * 53) (b := (x * 131 + y * 1117 + p * 29 + w * 53) / 64) ⟨by omega, by omega⟩ ⟨by omega, by omega⟩
    repeat' (first | refine And.intro ?_ ?_)
    all_goals first | exact trivial | omega | rfl | exact Int.emod_nonneg _ (by omega) | exact fun h4 => Int.emod_lt_of_pos _ (by omega) | exact .inr (by omega)
theorem odd_ok {b : List Int} {p n : Int} (hb : Bts b) (hp : 0 ≤ p ∧ p ≤ 1000000) : gives (spec_l20Rd_odd b p n) fun r => r.2 = p + 1 ∨ r.2 = p := by
  simp only [spec_l20Rd_odd, go_sem]
  exact ⟨fun h => (pick_ok hb hp).mono fun r hr => .inl hr.1, fun h => .inr trivial⟩
theorem open_ok {b : List Int} (hb : Bts b) : gives (spec_l20Open_v1 b) fun r => Bts r.1 ∧ r.1.length ≤ 2000 ∧ r.2 = 0 := by
  simp only [spec_l20Open_v1, go_sem, join]
  refine ⟨fun h => ⟨by omega, fun k => ?_, ?_, trivial⟩, fun h => ⟨hb, by omega, trivial⟩⟩
  · simp only [List.drop_zero, List.getD_eq_getElem?_getD, List.getElem?_take]
    split
    · have := hb k; simpa [List.getD_eq_getElem?_getD] using this
    · simp
  · simp; omega
theorem _root_.Go.Av.gives.mono' {A : Type} {x y : Option A} {Q Q' : A → Prop} (h : gives x Q) (he : x = y) (hq : ∀ a, Q a → Q' a) : gives y Q' := he ▸ h.mono hq
/-! Edges put into graphs. -/
theorem AddEdge_ok {n : Int} {es : List (Int × Int × Int)} {a c w : Int} (hn : -1000000 ≤ n ∧ n ≤ 1000000) (hl : es.length ≤ 1000000) :
    gives (spec_AddEdge n es a c w) fun r => (r.1 = n ∨ r.1 = 0) ∧ r.2.1.length ≤ es.length + 1 := by
  unfold spec_AddEdge
  have h1 : spec_l1OwnGraph n es = some (n, es) := by unfold spec_l1OwnGraph; rw [chk_pos (by omega)]; rfl
  rw [h1]
  simp only [Option.bind_some]
  rw [spec_GraphValid_eq ⟨by omega, by omega⟩ (by omega)]
  simp only [go_sem, Option.bind_some]
  refine ⟨fun _ => ⟨.inr trivial, by simp⟩, fun _ => ?_⟩
  refine (gives_loop (Q := fun x : Bool × List (Int × Int × Int) => x.2.length ≤ es.length + 1 ∧ (x.1 = false → x.2.length ≤ es.length)) (fun s : Bool × Nat × List (Int × Int × Int) => (s.1, (s.2.1 : Int), s.2.2))
    (fun s => s.2.1 ≤ es.length ∧ s.2.2.length ≤ s.2.1 + 1 ∧ (s.1 = false → s.2.2.length ≤ s.2.1)) (fun s => es.length - s.2.1) ?_ (false, 0, []) ⟨Nat.zero_le _, by simp, by simp⟩).mono ?_
  · rintro ⟨t, k, xs⟩ ⟨hk, hx, hf⟩
    simp only at hk hx hf
    simp only [spec_AddEdge_b0, go_sem, join]
    refine ⟨fun hc => ⟨by omega, fun h2 => ⟨by omega, fun h3 => ⟨by omega, (true, k + 1, xs ++ [(a, c, w)]), ⟨by simp only; omega, by simp; have := hf h2.1; omega, by simp⟩, by simp only; omega, by simp⟩,
      fun h3 => ⟨by simp; omega, by omega, (true, k + 1, (xs ++ [(a, c, w)]) ++ [((es.getD k (0, 0, 0)).1, (es.getD k (0, 0, 0)).2.1, (es.getD k (0, 0, 0)).2.2)]), ⟨by simp only; omega, by simp; have := hf h2.1; omega, by simp⟩, by simp only; omega, by simp⟩⟩,
      fun h2 => ⟨by omega, by omega, (t, k + 1, xs ++ [((es.getD k (0, 0, 0)).1, (es.getD k (0, 0, 0)).2.1, (es.getD k (0, 0, 0)).2.2)]), ⟨by simp only; omega, by simp; omega, fun ht => by simp; exact hf ht⟩, by simp only; omega, by simp⟩⟩, fun hc => ⟨by omega, fun ht => by have := hf ht; omega⟩⟩
  · rintro ⟨t, xs⟩ ⟨hx, hf⟩
    simp only at hx hf
    simp only [join, go_sem]
    refine ⟨fun ht => ⟨by omega, ?_⟩, fun ht => ?_⟩
    · have := hf ht
      rw [spec_GraphValid_eq ⟨by omega, by omega⟩ (by simp; omega)]
      simp only [go_sem]
      exact ⟨fun _ => ⟨by omega, .inl trivial, by simp⟩, fun _ => ⟨.inl trivial, by simp; omega⟩⟩
    · rw [spec_GraphValid_eq ⟨by omega, by omega⟩ (by omega)]
      simp only [go_sem]
      exact ⟨fun _ => ⟨by omega, .inl trivial, by simp⟩, fun _ => ⟨.inl trivial, by omega⟩⟩

theorem getD_all {l : List Int} {P : Int → Prop} (h : ∀ x ∈ l, P x) (hd : P 0) (i : Nat) : P (l.getD i 0) := by
  simp only [List.getD_eq_getElem?_getD]
  cases hi : l[i]? with
  | none => exact hd
  | some x => exact h x (List.mem_of_getElem? hi)
theorem Edge_ok {b : List Int} {p n : Int} (hb : Bts b) (hp : 0 ≤ p ∧ p ≤ 900000) : gives (spec_l20Edge b p n) fun r => r.2.2.2 = p + 4 := by
  unfold spec_l20Edge
  rw [gives_bind]
  refine (pick_ok hb ⟨by omega, by omega⟩).mono ?_
  rintro ⟨y0, p0⟩ ⟨e0, h0⟩
  simp only at e0 h0 ⊢
  rw [gives_bind]
  refine (pick_ok hb ⟨by omega, by omega⟩).mono ?_
  rintro ⟨y1, p1⟩ ⟨e1, h1⟩
  simp only at e1 h1 ⊢
  rw [gives_bind]
  refine (pick_ok hb ⟨by omega, by omega⟩).mono ?_
  rintro ⟨y2, p2⟩ ⟨e2, h2⟩
  simp only at e2 h2 ⊢
  rw [gives_bind]
  refine (pick_ok hb ⟨by omega, by omega⟩).mono ?_
  rintro ⟨y3, p3⟩ ⟨e3, h3⟩
  simp only at e3 h3 ⊢
  simp only [go_sem]
  omega
theorem Graph_ok {b : List Int} {p n : Int} (hb : Bts b) (hp : 0 ≤ p ∧ p ≤ 800000) : gives (spec_l20Graph b p n) fun r => (-1 ≤ r.1 ∧ r.1 ≤ 17) ∧ r.2.1.length ≤ 20 ∧ 0 ≤ r.2.2 ∧ r.2.2 ≤ p + 200 := by
  unfold spec_l20Graph
  rw [gives_bind]
  refine (pick_ok hb ⟨by omega, by omega⟩).mono ?_
  rintro ⟨y0, p0⟩ ⟨e0, h0⟩
  simp only at e0 h0 ⊢
  rw [gives_bind]
  refine (pick_ok hb ⟨by omega, by omega⟩).mono ?_
  rintro ⟨y1, p1⟩ ⟨e1, h1⟩
  simp only at e1 h1 ⊢
  rw [gives_chk, gives_bind]
  refine ⟨by omega, ?_⟩
  refine (pick_ok hb ⟨by omega, by omega⟩).mono ?_
  rintro ⟨y2, p2⟩ ⟨e2, h2⟩
  simp only at e2 h2 ⊢
  have t1 : 0 ≤ ([0, 1, 1, 1, 1, 1, 2, 3] : List Int).getD y2.toNat 0 ∧ ([0, 1, 1, 1, 1, 1, 2, 3] : List Int).getD y2.toNat 0 < 4 := getD_all (P := fun x => 0 ≤ x ∧ x < 4) (by simp) (by omega) _
  have t2 : 0 ≤ ([y0, (2 + y1), 16, 0] : List Int).getD (([0, 1, 1, 1, 1, 1, 2, 3] : List Int).getD y2.toNat 0).toNat 0 ∧ ([y0, (2 + y1), 16, 0] : List Int).getD (([0, 1, 1, 1, 1, 1, 2, 3] : List Int).getD y2.toNat 0).toNat 0 ≤ 16 :=
    getD_all (P := fun x => 0 ≤ x ∧ x ≤ 16) (by simp only [List.mem_cons, List.not_mem_nil, or_false]; rintro x (rfl | rfl | rfl | rfl) <;> omega) (by omega) _
  generalize ([y0, (2 + y1), 16, 0] : List Int).getD (([0, 1, 1, 1, 1, 1, 2, 3] : List Int).getD y2.toNat 0).toNat 0 = m at *
  rw [gives_chk, gives_chk, gives_bind]
  refine ⟨by omega, t1, ?_⟩
  refine (pick_ok hb ⟨by omega, by omega⟩).mono ?_
  rintro ⟨y3, p3⟩ ⟨e3, h3⟩
  simp only at e3 h3 ⊢
  rw [gives_bind]
  refine (gives_loop (Q := fun x : Int × Int × List (Int × Int × Int) => (0 ≤ x.1 ∧ x.1 ≤ p + 100) ∧ (0 ≤ x.2.1 ∧ x.2.1 ≤ 16) ∧ x.2.2.length ≤ 14) (fun s : Nat × Int × Int × List (Int × Int × Int) => ((s.1 : Int), s.2.1, s.2.2.1, s.2.2.2))
    (fun s => s.1 ≤ 13 ∧ (0 ≤ s.2.1 ∧ s.2.1 ≤ p + 100 - 4 * s.1) ∧ (0 ≤ s.2.2.1 ∧ s.2.2.1 ≤ 16) ∧ s.2.2.2.length ≤ 14 - s.1) (fun s => s.1) ?_ (y3.toNat, p3, m, []) ⟨by simp only; omega, by simp only; omega, t2, by simp⟩).mono' (by simp only; rw [show ((y3.toNat : Nat) : Int) = y3 from by omega]) ?_
  · rintro ⟨k, q, m, es⟩ ⟨hk, hq, hm, hl⟩
    simp only at hk hq hm hl
    simp only [spec_l20Graph_b0, go_sem]
    refine ⟨fun hc => ?_, fun hc => ⟨by omega, hm, by omega⟩⟩
    refine (Edge_ok hb ⟨by omega, by omega⟩).mono ?_
    rintro ⟨a, c, w, q'⟩ hq'
    simp only at hq' ⊢
    refine (AddEdge_ok ⟨by omega, by omega⟩ (by omega)).mono ?_
    rintro ⟨m', es', ok⟩ ⟨hm', hl'⟩
    simp only at hm' hl'
    simp only [go_sem]
    exact ⟨by omega, (k - 1, q', m', es'), ⟨by simp only; omega, by simp only; omega, by simp only; omega, by simp only; omega⟩, by simp only; omega, by simp only; rw [show ((k - 1 : Nat) : Int) = (k : Int) - 1 from by omega]⟩
  · rintro ⟨q, m, es⟩ ⟨hq, hm, hl⟩
    simp only at hq hm hl
    simp only [join]
    rw [gives_bind]
    refine (odd_ok hb ⟨by omega, by omega⟩).mono ?_
    rintro ⟨o, q1⟩ ho
    simp only at ho ⊢
    rw [gives_ite]
    refine ⟨fun _ => ?_, fun _ => gives_some.2 ⟨by omega, by simp only; omega, by simp only; omega⟩⟩
    rw [gives_bind]
    refine (pick_ok hb ⟨by omega, by omega⟩).mono ?_
    rintro ⟨c, q2⟩ ⟨e4, h4⟩
    simp only at e4 h4 ⊢
    rw [gives_ite, gives_bind]
    refine ⟨fun _ => ?_, fun _ => ?_⟩
    · refine (pick_ok hb ⟨by omega, by omega⟩).mono ?_
      rintro ⟨z, q3⟩ ⟨e5, h5⟩
      simp only at e5 h5 ⊢
      have t3 : -1 ≤ ([(-1), 17] : List Int).getD z.toNat 0 ∧ ([(-1), 17] : List Int).getD z.toNat 0 ≤ 17 := getD_all (P := fun x => -1 ≤ x ∧ x ≤ 17) (by simp) (by omega) _
      rw [gives_chk]
      exact ⟨by omega, gives_some.2 ⟨t3, by simp only; omega, by simp only; omega⟩⟩
    · simp only [go_sem, List.length_append, List.length_cons, List.length_nil]
      refine ⟨fun _ => ?_, fun _ => ⟨fun _ => ?_, fun _ => ?_⟩⟩ <;> omega
end Go.Proofs.Ytbdncdmkogbdhaa
end

section
/- Laws with drawn arguments: cuts. -/
set_option linter.unusedSimpArgs false
set_option linter.unusedVariables false
namespace Go.Proofs.Ytbdncdmkogbdhaa
open Go Go.Av
attribute [local go_sem] gives_chk gives_ite gives_some gives_bind gives_join Sum.elim_inl Sum.elim_inr decide_eq_true_eq decide_eq_false_iff_not Bool.not_eq_true' Bool.not_eq_false' Bool.or_eq_true Bool.and_eq_true Bool.not_eq_eq_eq_not beq_iff_eq bne_iff_ne ne_eq Bool.or_eq_false_iff Bool.and_eq_false_iff Bool.not_eq_true Bool.not_eq_false Bool.not_true Bool.not_false Int.toNat_natCast beq_eq_false_iff_ne bne_eq_false_iff_eq Decidable.not_not Bool.default_bool

theorem alive_eq : laws_alive = some true := by
  unfold laws_alive impl_CheckSum impl_BytesValid
  rw [if_neg (by simp), loop_eq]
  simp only [impl_BytesValid_b0, List.length_nil]
  rw [if_neg (by simp)]
  simp only [Option.bind_some, Sum.elim_inl]
  rw [if_neg (by simp), loop_eq]
  simp only [impl_CheckSum_b0, List.length_nil]
  rw [if_neg (by simp)]
  rfl
end Go.Proofs.Ytbdncdmkogbdhaa
end

section
/- Forests: the way to the top, and the law on depths. -/
set_option linter.unusedSimpArgs false
set_option linter.unusedVariables false
namespace Go.Proofs.Ytbdncdmkogbdhaa
open Go Go.Av
attribute [local go_sem] gives_chk gives_ite gives_some gives_bind gives_join Sum.elim_inl Sum.elim_inr decide_eq_true_eq decide_eq_false_iff_not Bool.not_eq_true' Bool.not_eq_false' Bool.or_eq_true Bool.and_eq_true Bool.not_eq_eq_eq_not beq_iff_eq bne_iff_ne ne_eq Bool.or_eq_false_iff Bool.and_eq_false_iff Bool.not_eq_true Bool.not_eq_false Bool.not_true Bool.not_false Int.toNat_natCast beq_eq_false_iff_ne bne_eq_false_iff_eq Decidable.not_not Bool.default_bool

/-! A depth is below the number of vertices. -/
theorem pigeon (f : Nat → Nat) : ∀ (n : Nat) (l : List Nat), l.Nodup → (∀ k ∈ l, ∃ v, v < n ∧ f v = k) → l.length ≤ n
  | 0, l, _, h => by
    cases l with
    | nil => exact Nat.le_refl _
    | cons a l => obtain ⟨v, hv, _⟩ := h a List.mem_cons_self; omega
  | n + 1, l, hn, h => by
    have h2 := pigeon f n (l.erase (f n)) (hn.erase _) (fun k hk => by
      have h3 := (List.Nodup.mem_erase_iff hn).1 hk
      obtain ⟨v, hv, e⟩ := h k h3.2
      refine ⟨v, ?_, e⟩
      rcases Nat.lt_or_ge v n with h4 | h4
      · exact h4
      · exact absurd (by rw [← e, show v = n from by omega]) h3.1)
    have h5 : l.length ≤ (l.erase (f n)).length + 1 := by
      rw [List.length_erase]; split <;> omega
    omega
/-! A forest that is drawn: its length alone. -/
def neg (l : List Int) : Nat := l.countP (· < 0)
theorem neg_set {l : List Int} {x : Int} (hx : 0 ≤ x) : ∀ {i : Nat}, i < l.length → l.getD i 0 < 0 → neg (l.set i x) + 1 = neg l := by
  induction l with
  | nil => intro i hi; simp at hi
  | cons a l ih =>
    intro i hi h
    cases i with
    | zero =>
      simp only [List.getD_cons_zero] at h
      simp only [neg, List.set_cons_zero, List.countP_cons, decide_eq_true_eq, if_pos h, if_neg (show ¬ x < 0 by omega)]
      try omega
    | succ i =>
      simp only [List.getD_cons_succ] at h
      have := ih (i := i) (by simpa using hi) h
      simp only [neg] at this
      simp only [neg, List.set_cons_succ, List.countP_cons]
      omega
theorem neg_le (l : List Int) : neg l ≤ l.length := List.countP_le_length
def Inn (n : Int) (l : List Int) : Prop := ∀ k, k < l.length → 0 ≤ l.getD k 0 ∧ l.getD k 0 < n
end Go.Proofs.Ytbdncdmkogbdhaa
end

section
/- Matchings that are drawn. -/
set_option linter.unusedSimpArgs false
set_option linter.unusedVariables false
namespace Go.Proofs.Ytbdncdmkogbdhaa
open Go Go.Av
attribute [local go_sem] gives_chk gives_ite gives_some gives_bind gives_join Sum.elim_inl Sum.elim_inr decide_eq_true_eq decide_eq_false_iff_not Bool.not_eq_true' Bool.not_eq_false' Bool.or_eq_true Bool.and_eq_true Bool.not_eq_eq_eq_not beq_iff_eq bne_iff_ne ne_eq Bool.or_eq_false_iff Bool.and_eq_false_iff Bool.not_eq_true Bool.not_eq_false Bool.not_true Bool.not_false Int.toNat_natCast beq_eq_false_iff_ne bne_eq_false_iff_eq Decidable.not_not Bool.default_bool

end Go.Proofs.Ytbdncdmkogbdhaa
end

section
/- Forests: the tops that both sides find. -/
set_option linter.unusedSimpArgs false
set_option linter.unusedVariables false
namespace Go.Proofs.Ytbdncdmkogbdhaa
open Go Go.Av
attribute [local go_sem] gives_chk gives_ite gives_some gives_bind gives_join Sum.elim_inl Sum.elim_inr decide_eq_true_eq decide_eq_false_iff_not Bool.not_eq_true' Bool.not_eq_false' Bool.or_eq_true Bool.and_eq_true Bool.not_eq_eq_eq_not beq_iff_eq bne_iff_ne ne_eq Bool.or_eq_false_iff Bool.and_eq_false_iff Bool.not_eq_true Bool.not_eq_false Bool.not_true Bool.not_false Int.toNat_natCast beq_eq_false_iff_ne bne_eq_false_iff_eq Decidable.not_not Bool.default_bool

end Go.Proofs.Ytbdncdmkogbdhaa
end

section
/- Marks that the laws lay into results; forests' laws; better cuts. -/
set_option linter.unusedSimpArgs false
set_option linter.unusedVariables false
namespace Go.Proofs.Ytbdncdmkogbdhaa
open Go Go.Av
attribute [local go_sem] gives_chk gives_ite gives_some gives_bind gives_join Sum.elim_inl Sum.elim_inr decide_eq_true_eq decide_eq_false_iff_not Bool.not_eq_true' Bool.not_eq_false' Bool.or_eq_true Bool.and_eq_true Bool.not_eq_eq_eq_not beq_iff_eq bne_iff_ne ne_eq Bool.or_eq_false_iff Bool.and_eq_false_iff Bool.not_eq_true Bool.not_eq_false Bool.not_true Bool.not_false Int.toNat_natCast beq_eq_false_iff_ne bne_eq_false_iff_eq Decidable.not_not Bool.default_bool

def mks {α : Type} (f : Nat → α) (n : Nat) : List α := (List.range n).map f
theorem mks_len {α : Type} (f : Nat → α) (n : Nat) : (mks f n).length = n := by simp [mks]
theorem mks_get {α : Type} {f : Nat → α} {n j : Nat} {d : α} (h : j < n) : (mks f n).getD j d = f j := by
  simp only [mks, List.getD_eq_getElem?_getD, List.getElem?_map, List.getElem?_range h, Option.map_some, Option.getD_some]
theorem loop_to {σ S X : Type} (st : σ → S) (ok : σ → Prop) (m : σ → Nat) {body : S → Option (S ⊕ X)} {Q : X → Prop} {s0 : S} (s : σ) (h0 : s0 = st s) (hs : ok s)
    (h : ∀ s, ok s → gives (body (st s)) fun r => match r with | .inl t => ∃ s', ok s' ∧ m s' < m s ∧ t = st s' | .inr x => Q x) : gives (loop body s0) Q := h0 ▸ gives_loop st ok m h s hs
end Go.Proofs.Ytbdncdmkogbdhaa
end
