/- Colors: the least that no neighbour before has. -/
import Derived.Test.YtngpllgpfndkkaaDoorMj
set_option linter.unusedSimpArgs false
set_option linter.unusedVariables false
namespace Go.Proofs.YtngpllgpfndkkaaDoor
open Go Go.Av
attribute [local go_sem] gives_chk gives_ite gives_some gives_bind gives_join Sum.elim_inl Sum.elim_inr decide_eq_true_eq decide_eq_false_iff_not Bool.not_eq_true' Bool.not_eq_false' Bool.or_eq_true Bool.and_eq_true Bool.not_eq_eq_eq_not beq_iff_eq bne_iff_ne ne_eq Bool.or_eq_false_iff Bool.and_eq_false_iff Bool.not_eq_true Bool.not_eq_false Bool.not_true Bool.not_false Int.toNat_natCast beq_eq_false_iff_ne bne_eq_false_iff_eq Decidable.not_not Bool.default_bool

def IsMex (P : Nat → Prop) (c : Nat) : Prop := ¬ P c ∧ ∀ j, j < c → P j
theorem IsMex.uniq {P Q : Nat → Prop} {c d : Nat} (h : IsMex P c) (k : IsMex Q d) (hpq : ∀ j, P j ↔ Q j) : c = d := by
  rcases Nat.lt_trichotomy c d with hl | hl | hl
  · exact absurd ((hpq c).2 (k.2 c hl)) h.1
  · exact hl
  · exact absurd ((hpq d).1 (h.2 d hl)) k.1
/-- Color c is one of a neighbour of v before it. -/
def Usd (es : List (Int × Int × Int)) (cs : List Int) (v c : Nat) : Prop := ∃ w : Nat, w < v ∧ Adj es v w ∧ cs.getD w 0 = (c : Int)
def Gre (es : List (Int × Int × Int)) (k : Nat) (cs : List Int) : Prop := cs.length = k ∧ ∀ v, v < k → ∃ c : Nat, cs.getD v 0 = (c : Int) ∧ IsMex (Usd es cs v) c
theorem getD_snoc {α : Type} {l : List α} {x d : α} {j : Nat} : (l ++ [x]).getD j d = if j < l.length then l.getD j d else if j = l.length then x else d := by
  simp only [List.getD_eq_getElem?_getD]
  split
  · rw [List.getElem?_append_left ‹_›]
  · rw [List.getElem?_append_right (by omega)]
    split
    · rename_i h; subst h; simp
    · rename_i h1 h2
      rw [List.getElem?_eq_none (by simp; omega)]; rfl
theorem Gre.uniq {es : List (Int × Int × Int)} {k : Nat} {cs ds : List Int} (h : Gre es k cs) (g : Gre es k ds) : cs = ds := by
  have key : ∀ v, v < k → cs.getD v 0 = ds.getD v 0 := by
    intro v
    induction v using Nat.strongRecOn with
    | _ v ih =>
      intro hv
      obtain ⟨c, h1, h2⟩ := h.2 v hv
      obtain ⟨d, g1, g2⟩ := g.2 v hv
      have : c = d := h2.uniq g2 fun j => by
        constructor
        · rintro ⟨w, e1, e2, e3⟩; exact ⟨w, e1, e2, by rw [← ih w e1 (by omega)]; exact e3⟩
        · rintro ⟨w, e1, e2, e3⟩; exact ⟨w, e1, e2, by rw [ih w e1 (by omega)]; exact e3⟩
      rw [h1, g1, this]
  apply List.ext_getElem (by rw [h.1, g.1])
  intro i h1 h2
  have := key i (by rw [← h.1]; exact h1)
  simpa [List.getD_eq_getElem?_getD, h1, h2] using this
theorem Gre.snoc {es : List (Int × Int × Int)} {k c : Nat} {cs : List Int} (h : Gre es k cs) (hc : IsMex (Usd es cs k) c) : Gre es (k + 1) (cs ++ [(c : Int)]) := by
  have hu : ∀ v, v ≤ k → ∀ j, Usd es (cs ++ [(c : Int)]) v j ↔ Usd es cs v j := fun v hv j => by
    constructor
    · rintro ⟨w, e1, e2, e3⟩
      rw [getD_snoc, if_pos (by rw [h.1]; omega)] at e3
      exact ⟨w, e1, e2, e3⟩
    · rintro ⟨w, e1, e2, e3⟩
      exact ⟨w, e1, e2, by rw [getD_snoc, if_pos (by rw [h.1]; omega)]; exact e3⟩
  have hm : ∀ v, v ≤ k → ∀ d, IsMex (Usd es cs v) d → IsMex (Usd es (cs ++ [(c : Int)]) v) d := fun v hv d hd =>
    ⟨fun hx => hd.1 ((hu v hv d).1 hx), fun j hj => (hu v hv j).2 (hd.2 j hj)⟩
  refine ⟨by simp [h.1], fun v hv => ?_⟩
  by_cases hvk : v = k
  · subst hvk
    exact ⟨c, by rw [getD_snoc, h.1, if_neg (by omega), if_pos rfl], hm v (Nat.le_refl _) c hc⟩
  · obtain ⟨d, h1, h2⟩ := h.2 v (by omega)
    exact ⟨d, by rw [getD_snoc, h.1, if_pos (by omega)]; exact h1, hm v (by omega) d h2⟩
theorem used_le {es : List (Int × Int × Int)} {cs : List Int} {v c : Nat} (h : ∀ j, j < c → Usd es cs v j) : c ≤ v := by
  have := pigeon (fun w => (cs.getD w 0).toNat) v (List.range c) List.nodup_range fun j hj => by
    obtain ⟨w, h1, _, h3⟩ := h j (List.mem_range.1 hj)
    exact ⟨w, h1, by simp only [h3]; omega⟩
  simpa using this
theorem Gre.le {es : List (Int × Int × Int)} {k : Nat} {cs : List Int} (h : Gre es k cs) {v : Nat} (hv : v < k) : 0 ≤ cs.getD v 0 ∧ cs.getD v 0 ≤ v := by
  obtain ⟨c, h1, h2⟩ := h.2 v hv
  have := used_le h2.2
  omega
/-- The reference. -/
theorem col_taken {n : Int} {es : List (Int × Int × Int)} {cs : List Int} {k c : Nat} (hg : GOk n es) (h : cs.length = k) (hk : (k : Int) < n) :
    loop (spec_ColorsOf_b0 k cs (nearL n es k n.toNat) c) (false, 0) = some (yes (Usd es cs k c)) := by
  have h16 := hg.2.1
  have hl := nearL_len n es k n.toNat
  have hmem : ∀ u, u ∈ nearL n es k n.toNat ↔ (0 ≤ u ∧ u < n.toNat ∧ Adj es k u) := fun u => nearL_mem n.toNat
  generalize nearL n es k n.toNat = L at hl hmem
  have hin : ∀ i, i < L.length → 0 ≤ L.getD i 0 ∧ Adj es k (L.getD i 0) := fun i hi => by
    have := (hmem (L.getD i 0)).1 (by simp only [List.getD_eq_getElem?_getD, List.getElem?_eq_getElem hi, Option.getD_some]; exact List.getElem_mem hi)
    exact ⟨this.1, this.2.2⟩
  have key : yes (Usd es cs k c) = yes (∃ i, i < L.length ∧ L.getD i 0 < (k : Int) ∧ cs.getD (L.getD i 0).toNat 0 = (c : Int)) := by
    rw [Bool.eq_iff_iff, yes_iff, yes_iff]
    constructor
    · rintro ⟨w, h1, h2, h3⟩
      obtain ⟨i, hi, he⟩ := List.mem_iff_getElem.1 ((hmem w).2 ⟨by omega, by omega, h2⟩)
      have hgi : L.getD i 0 = (w : Int) := by simp only [List.getD_eq_getElem?_getD, List.getElem?_eq_getElem hi, Option.getD_some]; exact he
      exact ⟨i, hi, by rw [hgi]; omega, by rw [hgi, Int.toNat_natCast]; exact h3⟩
    · rintro ⟨i, hi, h1, h2⟩
      obtain ⟨h3, h4⟩ := hin i hi
      exact ⟨(L.getD i 0).toNat, by omega, by rw [Int.toNat_of_nonneg h3]; exact h4, h2⟩
  rw [key]
  refine gives_eq.1 (loop_to (fun j : Nat => (yes (∃ i, i < j ∧ L.getD i 0 < (k : Int) ∧ cs.getD (L.getD i 0).toNat 0 = (c : Int)), (j : Int))) (fun j => j ≤ L.length) (fun j => L.length - j) 0 ?_ (Nat.zero_le _) ?_)
  · rw [yes_false (fun ⟨i, hi, _⟩ => by omega)]; rfl
  · intro j hj
    simp only [spec_ColorsOf_b0, go_sem]
    refine ⟨fun hc => ⟨fun _ => by omega, fun _ _ => by omega, fun _ hlt => ?_, by omega, j + 1, by omega, by omega, ?_⟩, fun hc => by rw [show j = L.length from by omega]⟩
    · have := hin j (by omega); omega
    · simp only [Prod.mk.injEq]
      refine ⟨?_, by omega⟩
      rw [Bool.eq_iff_iff, Bool.or_eq_true, Bool.and_eq_true, yes_iff, yes_iff, decide_eq_true_eq, beq_iff_eq]
      constructor
      · rintro (⟨i, h1, h2⟩ | h1)
        · exact ⟨i, by omega, h2⟩
        · exact ⟨j, by omega, h1⟩
      · rintro ⟨i, h1, h2⟩
        by_cases hij : i = j
        · subst hij; exact .inr h2
        · exact .inl ⟨i, by omega, h2⟩
theorem col_mex {n : Int} {es : List (Int × Int × Int)} {cs : List Int} {k : Nat} (hg : GOk n es) (h : cs.length = k) (hk : (k : Int) < n) :
    gives (loop (spec_ColorsOf_b1 k cs (nearL n es k n.toNat)) (0, true)) fun x => ∃ c : Nat, x = (c : Int) ∧ IsMex (Usd es cs k) c := by
  have h16 := hg.2.1
  refine loop_to (fun s : Nat × Bool => ((s.1 : Int), s.2)) (fun s => (∀ j, j < s.1 → Usd es cs k j) ∧ (s.2 = false → ¬ Usd es cs k s.1)) (fun s => 2 * (k + 1 - s.1) + (if s.2 then 1 else 0)) (0, true) rfl ⟨fun j hj => absurd hj (by omega), fun h => by cases h⟩ ?_
  rintro ⟨c, b⟩ ⟨h1, h2⟩
  simp only at h1 h2
  have hle := used_le h1
  simp only [spec_ColorsOf_b1]
  cases b with
  | false =>
    rw [if_neg (by simp), gives_some]
    exact ⟨c, rfl, h2 rfl, h1⟩
  | true =>
    rw [if_pos rfl, col_taken hg h hk]
    simp only [Option.bind_some]
    by_cases hu : Usd es cs k c
    · have h3 : ∀ j, j < c + 1 → Usd es cs k j := fun j hj => by
        by_cases hjc : j = c
        · subst hjc; exact hu
        · exact h1 j (by omega)
      have hle2 := used_le h3
      rw [yes_true hu, if_pos rfl, chk_pos (by omega), gives_some]
      exact ⟨(c + 1, true), ⟨h3, fun h => by cases h⟩, by simp only [↓reduceIte]; omega, by simp⟩
    · rw [yes_false hu, if_neg (by simp), gives_some]
      exact ⟨(c, false), ⟨h1, fun _ => hu⟩, by simp, rfl⟩
theorem spec_ColorsOf_ok {n : Int} {es : List (Int × Int × Int)} (hg : GOk n es) : gives (spec_ColorsOf n es) (Gre es n.toNat) := by
  have h0 := hg.1
  have h16 := hg.2.1
  have h40 := hg.2.2.1
  unfold spec_ColorsOf
  simp only [go_sem]
  refine loop_to (fun s : Nat × List Int => ((s.1 : Int), s.2)) (fun s => (s.1 : Int) ≤ n ∧ Gre es s.1 s.2) (fun s => n.toNat - s.1) (0, []) rfl ⟨h0, rfl, fun v hv => absurd hv (by omega)⟩ ?_
  rintro ⟨k, cs⟩ ⟨hk, hc⟩
  simp only at hk hc
  have hl := hc.1
  simp only [spec_ColorsOf_b2]
  by_cases hlt : (k : Int) < n
  · have hd : decide ((k : Int) < n) = true := by simpa using hlt
    rw [hd, if_pos rfl, spec_GraphValid_eq ⟨by omega, by omega⟩ (by omega), gok_true hg]
    simp only [Option.bind_some]
    rw [if_pos (show (true && true) = true from rfl), spec_NearOf_eq hg]
    simp only [Option.bind_some]
    rw [gives_bind]
    refine (col_mex hg hl hlt).mono ?_
    rintro x ⟨c, rfl, hm⟩
    rw [chk_pos (by omega), chk_pos (by omega), gives_some]
    exact ⟨(k + 1, cs ++ [(c : Int)]), ⟨by simp only; omega, hc.snoc hm⟩, by simp only; omega, by simp⟩
  · have hd : decide ((k : Int) < n) = false := by simpa using hlt
    rw [hd, if_neg (by simp)]
    simp only [Option.bind_some]
    rw [if_neg (by simp), gives_some, show n.toNat = k from by omega]
    exact hc
theorem spec_ColorsOf_not {n : Int} {es : List (Int × Int × Int)} (hn : -9223372036854775808 ≤ n ∧ n ≤ 9223372036854775807) (hx : es.length ≤ 1000000000) (hg : ¬ GOk n es) : spec_ColorsOf n es = some [] := by
  refine gives_eq.1 ?_
  unfold spec_ColorsOf
  simp only [go_sem]
  refine loop_to (fun _ : Unit => ((0 : Int), ([] : List Int))) (fun _ => True) (fun _ => 0) () rfl trivial ?_
  intro _ _
  simp only [spec_ColorsOf_b2, spec_GraphValid_eq hn hx, gok_false hg]
  by_cases hlt : (0 : Int) < n
  · have hd : decide ((0 : Int) < n) = true := by simpa using hlt
    rw [hd, if_pos rfl]
    simp only [Option.bind_some]
    rw [if_neg (by simp), gives_some]
  · have hd : decide ((0 : Int) < n) = false := by simpa using hlt
    rw [hd, if_neg (by simp)]
    simp only [Option.bind_some]
    rw [if_neg (by simp), gives_some]
/-- The program. -/
theorem fill_next {cs : List Int} {n k : Nat} {x : Int} (h : cs.length = k) (hk : k < n) : (cs ++ List.replicate (n - k) 0).set k x = (cs ++ [x]) ++ List.replicate (n - (k + 1)) 0 := by
  rw [List.set_append_right _ _ (by omega), h, Nat.sub_self, show n - k = (n - (k + 1)) + 1 from by omega, List.replicate_succ, List.set_cons_zero, List.append_assoc]
  rfl
theorem fill_get {cs : List Int} {n k j : Nat} (h : cs.length = k) (hj : j < k) : (cs ++ List.replicate (n - k) 0).getD j 0 = cs.getD j 0 := by
  simp only [List.getD_eq_getElem?_getD]
  rw [List.getElem?_append_left (by omega)]
theorem impl_below_eq {m : Int} {v : Nat} (h0 : 0 ≤ m) (hm : m < 4294967296) (hv : v < 32) : impl_vertexMask_below m v = some ((m.toNat &&& (2 ^ v - 1) : Nat) : Int) := by
  unfold impl_vertexMask_below
  rw [impl_maskOf_eq (by omega) (by omega), Int.toNat_natCast]
  simp only [Option.bind_some]
  have h2 := two_pow_u32 hv
  have h3 := Nat.two_pow_pos v
  generalize 2 ^ v = p at h2 h3
  rw [wrap_u32 (by omega) (by omega), bitsV_and ⟨h0, hm⟩ ⟨by omega, by omega⟩, show ((p : Int) - 1).toNat = p - 1 from by omega]
theorem not_u32 {m : Nat} (hm : m < 4294967296) : bitsV .xor .u32 (if IntKind.u32.signed then -1 else IntKind.u32.max) (m : Int) = ((4294967295 - m : Nat) : Int) ∧ ∀ i, (4294967295 - m).testBit i = (decide (i < 32) && !m.testBit i) := by
  have hb : ∀ i, (4294967295 - m).testBit i = (decide (i < 32) && !m.testBit i) := fun i => by
    rw [show 4294967295 - m = 2 ^ 32 - (m + 1) from by omega, Nat.testBit_two_pow_sub_succ (by omega)]
  have hx : (4294967295 : Nat) ^^^ m = 4294967295 - m := by
    refine Nat.eq_of_testBit_eq fun i => ?_
    rw [Nat.testBit_xor, hb i, show (4294967295 : Nat) = 2 ^ 32 - 1 from rfl, Nat.testBit_two_pow_sub_one]
    by_cases hi : i < 32
    · simp [hi]
    · rw [testBit_hi hm (by omega)]; simp [hi]
  refine ⟨?_, hb⟩
  have e1 : (if IntKind.u32.signed then (-1 : Int) else IntKind.u32.max) = 4294967295 := rfl
  rw [e1]
  have h1 := ofInt_u32 (a := 4294967295) ⟨by omega, by omega⟩
  have h2 := ofInt_u32 (a := (m : Int)) ⟨by omega, by omega⟩
  simp only [bitsV, BitVec.toNat_xor, h1, h2]
  rw [show (4294967295 : Int).toNat = 4294967295 from rfl, Int.toNat_natCast, hx]
  exact wrap_u32 (by omega) (by omega)
theorem impl_used {es : List (Int × Int × Int)} {cs : List Int} {n k : Nat} (hn : n ≤ 16) (hk : k < n) (hc : Gre es k cs) :
    gives (loop (impl_ColorsOf_b0 (cs ++ List.replicate (n - k) 0) (selL (fun w => yes (Adj es k w)) k)) (0, 0)) fun x => ∃ m : Nat, x = (m : Int) ∧ m < 4294967296 ∧ ∀ c, m.testBit c = true ↔ Usd es cs k c := by
  have hl := selL_len (fun w => yes (Adj es (k : Int) w)) k
  have hmem : ∀ u, u ∈ selL (fun w => yes (Adj es (k : Int) w)) k ↔ ∃ j : Nat, u = j ∧ j < k ∧ yes (Adj es k j) = true := fun u => selL_mem
  generalize selL (fun w => yes (Adj es (k : Int) w)) k = L at hl hmem
  have hin : ∀ i, i < L.length → ∃ w : Nat, L.getD i 0 = w ∧ w < k ∧ Adj es k w := fun i hi => by
    obtain ⟨j, h1, h2, h3⟩ := (hmem (L.getD i 0)).1 (by simp only [List.getD_eq_getElem?_getD, List.getElem?_eq_getElem hi, Option.getD_some]; exact List.getElem_mem hi)
    exact ⟨j, h1, h2, yes_iff.1 h3⟩
  refine loop_to (fun s : Nat × Nat => ((s.1 : Int), (s.2 : Int))) (fun s => s.1 < 4294967296 ∧ s.2 ≤ L.length ∧ ∀ c, s.1.testBit c = true ↔ ∃ i, i < s.2 ∧ cs.getD (L.getD i 0).toNat 0 = (c : Int)) (fun s => L.length - s.2) (0, 0) rfl ⟨by omega, Nat.zero_le _, fun c => by simp⟩ ?_
  rintro ⟨m, j⟩ ⟨hm, hj, hb⟩
  simp only at hm hj hb
  simp only [impl_ColorsOf_b0, go_sem, List.length_append, List.length_replicate]
  refine ⟨fun hc' => ?_, fun hc' => ?_⟩
  · have hlt : j < L.length := by omega
    obtain ⟨w, h1, h2, h3⟩ := hin j hlt
    have hlen := hc.1
    have hcw := hc.le h2
    refine ⟨by omega, by omega, ?_⟩
    rw [h1, Int.toNat_natCast, fill_get hlen h2, impl_maskOf_eq (by omega) (by omega), gives_some]
    have hbit : ∀ i, (2 ^ (cs.getD w 0).toNat : Nat).testBit i = decide ((cs.getD w 0).toNat = i) := fun i => Nat.testBit_two_pow
    have hp := two_pow_u32 (v := (cs.getD w 0).toNat) (by omega)
    generalize 2 ^ (cs.getD w 0).toNat = p at hbit hp
    refine ⟨by omega, ?_⟩
    rw [bitsV_or ⟨by omega, by omega⟩ ⟨by omega, by omega⟩, Int.toNat_natCast, Int.toNat_natCast]
    have hor := Nat.or_lt_two_pow (x := m) (y := p) (n := 32) (by omega) (by omega)
    refine ⟨(m ||| p, j + 1), ⟨by simp only; omega, by simp only; omega, fun c => ?_⟩, by simp only; omega, by simp⟩
    simp only
    rw [Nat.testBit_or, Bool.or_eq_true, hb c, hbit c, decide_eq_true_eq]
    constructor
    · rintro (⟨i, e1, e2⟩ | e)
      · exact ⟨i, by omega, e2⟩
      · exact ⟨j, by omega, by rw [h1, Int.toNat_natCast]; omega⟩
    · rintro ⟨i, e1, e2⟩
      by_cases hij : i = j
      · subst hij; rw [h1, Int.toNat_natCast] at e2; exact .inr (by omega)
      · exact .inl ⟨i, by omega, e2⟩
  · refine ⟨m, rfl, hm, fun c => ?_⟩
    rw [hb c]
    constructor
    · rintro ⟨i, e1, e2⟩
      obtain ⟨w, h1, h2, h3⟩ := hin i (by omega)
      exact ⟨w, h2, h3, by rw [h1, Int.toNat_natCast] at e2; exact e2⟩
    · rintro ⟨w, e1, e2, e3⟩
      obtain ⟨i, hi, he⟩ := List.mem_iff_getElem.1 ((hmem w).2 ⟨w, rfl, e1, yes_true e2⟩)
      have hgi : L.getD i 0 = (w : Int) := by simp only [List.getD_eq_getElem?_getD, List.getElem?_eq_getElem hi, Option.getD_some]; exact he
      exact ⟨i, by omega, by rw [hgi, Int.toNat_natCast]; exact e3⟩
theorem impl_ColorsOf_ok {n : Int} {es : List (Int × Int × Int)} (hg : GOk n es) : gives (impl_ColorsOf n es) (Gre es n.toNat) := by
  have h0 := hg.1
  have h16 := hg.2.1
  unfold impl_ColorsOf
  rw [impl_GraphValid_eq, gok_true hg]
  simp only [Option.bind_some]
  rw [if_neg (by simp), gives_bind]
  refine (impl_nearMasks_ok hg).mono fun ms hm => ?_
  rw [chk_pos (by omega)]
  simp only [go_sem]
  refine loop_to (fun s : Nat × List Int => ((s.1 : Int), s.2 ++ List.replicate (n.toNat - s.1) 0)) (fun s => s.1 ≤ n.toNat ∧ Gre es s.1 s.2) (fun s => n.toNat - s.1) (0, []) (by simp) ⟨Nat.zero_le _, rfl, fun v hv => absurd hv (by omega)⟩ ?_
  rintro ⟨k, cs⟩ ⟨hk, hc⟩
  simp only at hk hc
  have hl := hc.1
  simp only [impl_ColorsOf_b1, List.length_replicate, Int.toNat_natCast]
  by_cases hlt : k < n.toNat
  · obtain ⟨⟨m1, m2⟩, m3⟩ := hm.2 k hlt
    have hml := hm.1
    rw [if_pos (by simp only [decide_eq_true_eq]; omega), chk_pos (by omega), impl_below_eq m1 m2 (by omega)]
    simp only [Option.bind_some]
    have hand : (ms.getD k 0).toNat &&& (2 ^ k - 1) < 4294967296 := Nat.lt_of_le_of_lt Nat.and_le_left (by omega)
    have hbt : ∀ i, ((ms.getD k 0).toNat &&& (2 ^ k - 1)).testBit i = ((ms.getD k 0).toNat.testBit i && decide (i < k)) := fun i => by
      rw [Nat.testBit_and, Nat.testBit_two_pow_sub_one]
    generalize (ms.getD k 0).toNat &&& (2 ^ k - 1) = q at hand hbt
    rw [impl_list_eq (by omega) (by omega), Int.toNat_natCast]
    simp only [Option.bind_some]
    have e : selL q.testBit 32 = selL (fun w => yes (Adj es (k : Int) w)) k := by
      rw [selL_skip (a := k) (by omega) fun i h1 h2 => by rw [hbt i]; simp; omega]
      refine selL_congr fun j hj => ?_
      rw [Bool.eq_iff_iff, hbt j, yes_iff, Bool.and_eq_true, m3 j, decide_eq_true_eq]
      exact ⟨fun h => h.1, fun h => ⟨h, hj⟩⟩
    rw [e, gives_bind]
    refine (impl_used (n := n.toNat) (by omega) hlt hc).mono ?_
    rintro x ⟨m, rfl, hm1, hm2⟩
    obtain ⟨e1, e2⟩ := not_u32 hm1
    rw [e1]
    have hfree : ¬ Usd es cs k 31 := by
      rintro ⟨w, w1, _, w3⟩
      have := hc.le w1; omega
    have hne : 4294967295 - m ≠ 0 := fun h => by
      have h1 := e2 31
      rw [h, Nat.zero_testBit] at h1
      have h2 : m.testBit 31 = true := by
        cases hb : m.testBit 31
        · rw [hb] at h1; simp at h1
        · rfl
      exact hfree ((hm2 31).1 h2)
    obtain ⟨c, hc1, hlow⟩ := low_exists hne (by omega)
    rw [impl_least_eq (k := c) (by rw [Int.toNat_natCast]; exact hlow) hc1 (by omega) (by omega)]
    simp only [Option.bind_some]
    have hmex : IsMex (Usd es cs k) c := by
      refine ⟨fun hu => ?_, fun j hj => ?_⟩
      · have h1 := hlow.1
        rw [e2 c, (hm2 c).2 hu] at h1; simp at h1
      · have h1 := hlow.2 j hj
        rw [e2 j, decide_eq_true (show j < 32 by omega), Bool.true_and, Bool.not_eq_false'] at h1
        exact (hm2 j).1 h1
    rw [chk_pos (by simp only [List.length_append, List.length_replicate]; omega), chk_pos (by omega), gives_some, fill_next hl hlt]
    exact ⟨(k + 1, cs ++ [(c : Int)]), ⟨by simp only; omega, hc.snoc hmex⟩, by simp only; omega, by simp⟩
  · rw [if_neg (by simp only [decide_eq_true_eq]; omega), gives_some, show n.toNat - k = 0 from by omega, show n.toNat = k from by omega]
    simpa using hc
theorem impl_ColorsOf_not {n : Int} {es : List (Int × Int × Int)} (hg : ¬ GOk n es) : impl_ColorsOf n es = some [] := by
  unfold impl_ColorsOf
  rw [impl_GraphValid_eq, gok_false hg]
  simp only [Option.bind_some]
  rw [if_pos (show (!false) = true from rfl)]
/-- Both, at once. -/
theorem colors_eq {n : Int} {es : List (Int × Int × Int)} (hn : -9223372036854775808 ≤ n ∧ n ≤ 9223372036854775807) (hx : es.length ≤ 1000000000) :
    ∃ cs, impl_ColorsOf n es = some cs ∧ spec_ColorsOf n es = some cs ∧ cs.length ≤ 16 ∧ (GOk n es → Gre es n.toNat cs) ∧ (¬ GOk n es → cs = []) := by
  by_cases hg : GOk n es
  · obtain ⟨cs, h1, h2⟩ := impl_ColorsOf_ok hg
    obtain ⟨ds, h3, h4⟩ := spec_ColorsOf_ok hg
    have := h2.uniq h4
    subst this
    have h16 := hg.2.1
    have hl := h2.1
    exact ⟨cs, h1, h3, by omega, fun _ => h2, fun h => absurd hg h⟩
  · exact ⟨[], impl_ColorsOf_not hg, spec_ColorsOf_not hn hx hg, by simp, fun h => absurd h hg, fun _ => rfl⟩
theorem FnExactColorsOf_true {n : Int} {es : List (Int × Int × Int)} (hn : -9223372036854775808 ≤ n ∧ n ≤ 9223372036854775807) (hx : es.length ≤ 9223372036854775807) : laws_FnExactColorsOf n es = some true := by
  unfold laws_FnExactColorsOf
  refine law_graph hx fun hl => ?_
  have he : es.length ≤ 1000000000 := by omega
  obtain ⟨cs, c1, c2, c3, _⟩ := colors_eq hn he
  obtain ⟨⟨y11, y12⟩, g1, g2⟩ := markGraph_eq (n := n) (es := es) (k := 1) he (by omega) (by omega)
  simp only at g2
  simp only [toGraph_eq he, c1, c2, eqGraph_eq he, eqIntS_eq (xs := cs) (by omega), g1, Option.bind_some, markIntS_eq (xs := cs) (k := 1) (by omega) (by omega) (by omega), heldIntS_eq (n := cs.length) (k := 1) (by omega) (by omega) (by omega)]
  rw [if_neg (by simp), if_neg (by simp), if_pos (by simp; omega)]
  simp only [Option.bind_some]
  rw [if_neg (by simp; omega), if_neg (by simp; omega), if_neg (by simp), if_neg (by simp), if_neg (by simp; omega), if_neg (by simp)]
end Go.Proofs.YtngpllgpfndkkaaDoor
