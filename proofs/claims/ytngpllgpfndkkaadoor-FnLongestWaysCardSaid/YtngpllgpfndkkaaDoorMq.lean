/- Longest ways. -/
import Derived.Test.YtngpllgpfndkkaaDoorMl
import Derived.Test.YtngpllgpfndkkaaDoorMp
set_option linter.unusedSimpArgs false
set_option linter.unusedVariables false
namespace Go.Proofs.YtngpllgpfndkkaaDoor
open Go Go.Av
attribute [local go_sem] gives_chk gives_ite gives_some gives_bind gives_join Sum.elim_inl Sum.elim_inr decide_eq_true_eq decide_eq_false_iff_not Bool.not_eq_true' Bool.not_eq_false' Bool.or_eq_true Bool.and_eq_true Bool.not_eq_eq_eq_not beq_iff_eq bne_iff_ne ne_eq Bool.or_eq_false_iff Bool.and_eq_false_iff Bool.not_eq_true Bool.not_eq_false Bool.not_true Bool.not_false Int.toNat_natCast beq_eq_false_iff_ne bne_eq_false_iff_eq Decidable.not_not Bool.default_bool

/-- One edge laid into the sums. -/
def rx (ss : List Int) (e : Int × Int × Int) : List Int := ss.set e.2.1.toNat (max (ss.getD e.2.1.toNat 0) (ss.getD e.1.toNat 0 + e.2.2))
def rxL (ss : List Int) (l : List (Int × Int × Int)) : List Int := l.foldl rx ss
theorem rxL_snoc (ss : List Int) (l : List (Int × Int × Int)) (e : Int × Int × Int) : rxL ss (l ++ [e]) = rx (rxL ss l) e := by simp [rxL]
theorem rx_len (ss : List Int) (e : Int × Int × Int) : (rx ss e).length = ss.length := by simp [rx]
theorem rxL_len (ss : List Int) (l : List (Int × Int × Int)) : (rxL ss l).length = ss.length := by
  induction l generalizing ss with
  | nil => rfl
  | cons e l ih => show (rxL (rx ss e) l).length = _; rw [ih, rx_len]
/-- The edges among the first k that lead away from v. -/
def outs (es : List (Int × Int × Int)) (k : Nat) (v : Int) : List (Int × Int × Int) := (es.take k).filter fun e => decide (e.1 = v)
theorem outs_succ {es : List (Int × Int × Int)} {k : Nat} {v : Int} (h : k < es.length) : outs es (k + 1) v = if (es.getD k (0, 0, 0)).1 = v then outs es k v ++ [es.getD k (0, 0, 0)] else outs es k v := by
  have hk : es.getD k (0, 0, 0) = es[k] := by simp [List.getD_eq_getElem?_getD, h]
  unfold outs
  rw [List.take_succ_eq_append_getElem h, List.filter_append, hk]
  split
  · rename_i hc; simp [hc]
  · rename_i hc; simp [hc]
theorem outs_len (es : List (Int × Int × Int)) (k : Nat) (v : Int) : (outs es k v).length ≤ k := by
  have h1 := List.length_filter_le (fun e : Int × Int × Int => decide (e.1 = v)) (es.take k)
  have h2 := List.length_take_le k es
  unfold outs; omega
theorem outs_mem {es : List (Int × Int × Int)} {v : Int} {e : Int × Int × Int} : e ∈ outs es es.length v ↔ e.1 = v ∧ ∃ k, k < es.length ∧ e = es.getD k (0, 0, 0) := by
  unfold outs
  rw [List.take_length, List.mem_filter, decide_eq_true_eq, and_comm]
  refine and_congr_right fun _ => ⟨fun h => ?_, fun ⟨k, hk, he⟩ => ?_⟩
  · obtain ⟨k, hk, he⟩ := List.mem_iff_getElem.1 h
    exact ⟨k, hk, by rw [List.getD_eq_getElem?_getD, List.getElem?_eq_getElem hk, Option.getD_some, he]⟩
  · rw [he, List.getD_eq_getElem?_getD, List.getElem?_eq_getElem hk, Option.getD_some]
    exact List.getElem_mem hk
def Bd (B : Int) (ss : List Int) : Prop := ∀ i, 0 ≤ ss.getD i 0 ∧ ss.getD i 0 ≤ B
theorem rx_get {ss : List Int} {e : Int × Int × Int} {i : Nat} (h : e.2.1.toNat < ss.length) : (rx ss e).getD i 0 = if i = e.2.1.toNat then max (ss.getD e.2.1.toNat 0) (ss.getD e.1.toNat 0 + e.2.2) else ss.getD i 0 := by
  unfold rx; rw [getD_set _ _ _ _ _ h]
theorem Bd.rx {B : Int} {ss : List Int} {e : Int × Int × Int} (hb : Bd B ss) (h : e.2.1.toNat < ss.length) (hw : 0 ≤ e.2.2 ∧ e.2.2 ≤ 20) : Bd (B + 20) (rx ss e) := fun i => by
  rw [rx_get h]
  have h1 := hb i
  have h2 := hb e.1.toNat
  have h3 := hb e.2.1.toNat
  split <;> omega
theorem Bd.mono {B C : Int} {ss : List Int} (hb : Bd B ss) (h : B ≤ C) : Bd C ss := fun i => by have := hb i; omega
theorem Bd.zero (n : Nat) : Bd 0 (List.replicate n 0) := fun i => by
  by_cases h : i < n
  · simp [List.getD_eq_getElem?_getD, List.getElem?_replicate, h]
  · simp [List.getD_eq_getElem?_getD, List.getElem?_replicate, h]
/-- The edges of one vertex, by the reference. -/
theorem spec_ways_row {n : Int} {es : List (Int × Int × Int)} {o : List Nat} {ss : List Int} {k : Nat} {B : Int} (hg : GOk n es) (hk : k < o.length) (hlt : o.getD k 0 < n.toNat) (hl : ss.length = n.toNat) (hb : Bd B ss) (hB : B ≤ 1000000) :
    loop (spec_LongestWays_b0 es (natL o) (k : Int)) (0, ss) = some (rxL ss (outs es es.length (o.getD k 0 : Nat))) := by
  have h40 := hg.2.2.1
  have hy : (natL o).getD k 0 = ((o.getD k 0 : Nat) : Int) := by simp [natL, List.getD_eq_getElem?_getD, hk]
  have hnl := natL_len o
  refine gives_eq.1 (loop_to (fun j : Nat => ((j : Int), rxL ss (outs es j (o.getD k 0 : Nat)))) (fun j => j ≤ es.length ∧ Bd (B + 20 * j) (rxL ss (outs es j (o.getD k 0 : Nat)))) (fun j => es.length - j) 0 ?_ ⟨Nat.zero_le _, ?_⟩ ?_)
  · simp [outs, rxL]
  · simp only [outs, rxL, List.take_zero, List.filter_nil, List.foldl_nil]; exact hb.mono (by omega)
  · rintro j ⟨hj, hbj⟩
    have hlen := rxL_len ss (outs es j (o.getD k 0 : Nat))
    simp only [spec_LongestWays_b0, go_sem, hy]
    refine ⟨fun hc => ?_, fun hc => by rw [show j = es.length from by omega]⟩
    have hE := gok_len hg (k := j) (by omega)
    simp only [EOk] at hE
    have hs := outs_succ (es := es) (k := j) (v := (o.getD k 0 : Nat)) (by omega)
    refine ⟨by omega, by omega, fun he => ?_, fun he => ?_⟩
    · have h1 := hbj (o.getD k 0)
      rw [if_pos he, ] at hs
      have hsn : rxL ss (outs es (j + 1) (o.getD k 0 : Nat)) = rx (rxL ss (outs es j (o.getD k 0 : Nat))) (es.getD j (0, 0, 0)) := by rw [hs, rxL_snoc]
      refine ⟨by omega, by omega, by omega, by omega, by omega, by omega, j + 1, ⟨by omega, ?_⟩, by omega, ?_⟩
      · rw [hsn]
        exact (hbj.rx (by omega) (by omega)).mono (by omega)
      · rw [hsn]
        simp only [rx, he, Int.toNat_natCast, Int.natCast_add, Int.natCast_one]
    · rw [if_neg he] at hs
      exact ⟨by omega, j + 1, ⟨by omega, by rw [hs]; exact hbj.mono (by omega)⟩, by omega, by rw [hs]; simp⟩
/-- All of them, in this order. -/
def ways (es : List (Int × Int × Int)) (n : Nat) (o : List Nat) : Nat → List Int
  | 0 => List.replicate n 0
  | k + 1 => rxL (ways es n o k) (outs es es.length (o.getD k 0 : Nat))
theorem ways_len (es : List (Int × Int × Int)) (n : Nat) (o : List Nat) : ∀ k, (ways es n o k).length = n
  | 0 => by simp [ways]
  | k + 1 => by simp only [ways]; rw [rxL_len, ways_len es n o k]
theorem rxL_bd {B : Int} {ss : List Int} {l : List (Int × Int × Int)} (hb : Bd B ss) (h : ∀ e ∈ l, e.2.1.toNat < ss.length ∧ 0 ≤ e.2.2 ∧ e.2.2 ≤ 20) : Bd (B + 20 * l.length) (rxL ss l) := by
  induction l generalizing ss B with
  | nil => simpa [rxL] using hb
  | cons e l ih =>
    have he := h e List.mem_cons_self
    have := ih (B := B + 20) (ss := rx ss e) (hb.rx he.1 he.2) fun x hx => by rw [rx_len]; exact h x (List.mem_cons_of_mem _ hx)
    show Bd _ (rxL (rx ss e) l)
    exact this.mono (by simp only [List.length_cons]; omega)
theorem outs_ok {n : Int} {es : List (Int × Int × Int)} (hg : GOk n es) {v : Int} {e : Int × Int × Int} (h : e ∈ outs es es.length v) : e.1 = v ∧ (0 ≤ e.1 ∧ e.1 < n) ∧ (0 ≤ e.2.1 ∧ e.2.1 < n) ∧ (0 ≤ e.2.2 ∧ e.2.2 ≤ 20) ∧ ¬ e.1 = e.2.1 := by
  obtain ⟨h1, k, hk, rfl⟩ := outs_mem.1 h
  have hE := gok_len hg hk
  simp only [EOk] at hE
  omega
theorem ways_bd {n : Int} {es : List (Int × Int × Int)} {o : List Nat} (hg : GOk n es) : ∀ k : Nat, Bd (800 * (k : Nat)) (ways es n.toNat o k)
  | 0 => Bd.zero _
  | k + 1 => by
    have h40 := hg.2.2.1
    have hl := outs_len es es.length (o.getD k 0 : Nat)
    have := rxL_bd (l := outs es es.length (o.getD k 0 : Nat)) (ways_bd (o := o) hg k) fun e he => by
      have := outs_ok hg he
      rw [ways_len]; omega
    exact this.mono (by omega)
theorem spec_ways {n : Int} {es : List (Int × Int × Int)} {o : List Nat} (hg : GOk n es) (hlt : ∀ k, k < o.length → o.getD k 0 < n.toNat) (ho : o.length ≤ 16) :
    loop (spec_LongestWays_b1 es (natL o)) (0, List.replicate n.toNat 0) = some (ways es n.toNat o o.length) := by
  have hnl := natL_len o
  refine gives_eq.1 (loop_to (fun k : Nat => ((k : Int), ways es n.toNat o k)) (fun k => k ≤ o.length) (fun k => o.length - k) 0 (by simp [ways]) (Nat.zero_le _) ?_)
  intro k hk
  simp only [spec_LongestWays_b1, go_sem]
  refine ⟨fun hc => ?_, fun hc => by rw [show k = o.length from by omega]⟩
  rw [spec_ways_row hg (by omega) (hlt k (by omega)) (ways_len _ _ _ _) (ways_bd hg k) (by omega), gives_some]
  exact ⟨by omega, k + 1, by omega, by omega, by simp [ways]⟩
/-- The program's lists. -/
theorem impl_lists {n : Int} {es : List (Int × Int × Int)} (hg : GOk n es) : impl_Graph_lists n es = some (mks (fun v => outs es es.length (v : Int)) n.toNat) := by
  have h0 := hg.1
  have h16 := hg.2.1
  have h40 := hg.2.2.1
  unfold impl_Graph_lists
  rw [chk_pos (by omega)]
  have key : loop (impl_Graph_lists_b0 es) (0, List.replicate n.toNat []) = some (mks (fun v => outs es es.length (v : Int)) n.toNat) := by
    refine gives_eq.1 (loop_to (fun j : Nat => ((j : Int), mks (fun v => outs es j (v : Int)) n.toNat)) (fun j => j ≤ es.length) (fun j => es.length - j) 0 ?_ (Nat.zero_le _) ?_)
    · simp only [Prod.mk.injEq, mks]
      refine ⟨rfl, List.ext_getElem (by simp) fun i h1 h2 => by simp [outs]⟩
    · intro j hj
      have hml := mks_len (fun v : Nat => outs es j (v : Int)) n.toNat
      simp only [impl_Graph_lists_b0, go_sem]
      refine ⟨fun hc => ?_, fun hc => by rw [show j = es.length from by omega]⟩
      have hE := gok_len hg (k := j) (by omega)
      simp only [EOk] at hE
      have hgt : (mks (fun v : Nat => outs es j (v : Int)) n.toNat).getD (es.getD j (0, 0, 0)).1.toNat [] = outs es j (es.getD j (0, 0, 0)).1 := by
        rw [mks_get (by omega), show (((es.getD j (0, 0, 0)).1.toNat : Nat) : Int) = (es.getD j (0, 0, 0)).1 from by omega]
      have hol := outs_len es j (es.getD j (0, 0, 0)).1
      rw [hgt]
      refine ⟨by omega, by omega, by omega, by omega, by omega, j + 1, by omega, by omega, ?_⟩
      simp only [Prod.mk.injEq, Int.natCast_add, Int.natCast_one, true_and]
      refine List.ext_getElem (by simp [mks_len]) fun i h1 h2 => ?_
      rw [mks_len] at h2
      have hs := outs_succ (es := es) (k := j) (v := (i : Int)) (by omega)
      rw [List.getElem_set]
      simp only [mks, List.getElem_map, List.getElem_range]
      rw [hs]
      split
      · rename_i he
        subst he
        rw [if_pos (by omega), show (((es.getD j (0, 0, 0)).1.toNat : Nat) : Int) = (es.getD j (0, 0, 0)).1 from by omega]
      · rename_i he
        rw [if_neg (by omega)]
  rw [key]
  rfl
theorem impl_ways_row {n : Int} {es : List (Int × Int × Int)} {o : List Nat} {ss : List Int} {k : Nat} {B : Int} {ls : List (List (Int × Int × Int))} (hg : GOk n es) (hk : k < o.length) (hlt : o.getD k 0 < n.toNat) (hl : ss.length = n.toNat) (hb : Bd B ss) (hB : B ≤ 1000000)
    (hls : ls.getD (o.getD k 0) [] = outs es es.length (o.getD k 0 : Nat)) : loop (impl_LongestWays_b0 (natL o) (k : Int) ls) (0, ss) = some (rxL ss (outs es es.length (o.getD k 0 : Nat))) := by
  have h40 := hg.2.2.1
  have hy : (natL o).getD k 0 = ((o.getD k 0 : Nat) : Int) := by simp [natL, List.getD_eq_getElem?_getD, hk]
  have hol := outs_len es es.length (o.getD k 0 : Nat)
  have hok := fun e he => outs_ok hg (v := ((o.getD k 0 : Nat) : Int)) (e := e) he
  generalize hL : outs es es.length (o.getD k 0 : Nat) = L at hls hol hok ⊢
  refine gives_eq.1 (loop_to (fun j : Nat => ((j : Int), rxL ss (L.take j))) (fun j => j ≤ L.length ∧ Bd (B + 20 * j) (rxL ss (L.take j))) (fun j => L.length - j) 0 ?_ ⟨Nat.zero_le _, ?_⟩ ?_)
  · simp [rxL]
  · simp only [rxL, List.take_zero, List.foldl_nil]; exact hb.mono (by omega)
  · rintro j ⟨hj, hbj⟩
    have hlen := rxL_len ss (L.take j)
    simp only [impl_LongestWays_b0, go_sem, hy, hls]
    refine ⟨fun hc => ?_, fun hc => by rw [List.take_of_length_le (by omega)]⟩
    have hjl : j < L.length := by omega
    have hgt : L.getD j (0, 0, 0) = L[j] := by simp [List.getD_eq_getElem?_getD, hjl]
    have he := hok (L.getD j (0, 0, 0)) (hgt ▸ List.getElem_mem hjl)
    have h1 := hbj (o.getD k 0)
    have hsn : rxL ss (L.take (j + 1)) = rx (rxL ss (L.take j)) (L.getD j (0, 0, 0)) := by rw [List.take_succ_eq_append_getElem hjl, rxL_snoc, hgt]
    refine ⟨by omega, by omega, by omega, by omega, by omega, j + 1, ⟨by omega, ?_⟩, by omega, ?_⟩
    · rw [hsn]
      exact (hbj.rx (by omega) (by omega)).mono (by omega)
    · rw [hsn]
      simp only [rx, he.1, Int.toNat_natCast, Int.natCast_add, Int.natCast_one]
theorem set_getD {α : Type} {l : List α} {i : Nat} {d : α} (h : i < l.length) : l.set i (l.getD i d) = l := by
  rw [List.getD_eq_getElem?_getD, List.getElem?_eq_getElem h, Option.getD_some, List.set_getElem_self]
theorem impl_ways {n : Int} {es : List (Int × Int × Int)} {o : List Nat} (hg : GOk n es) (hlt : ∀ k, k < o.length → o.getD k 0 < n.toNat) (ho : o.length ≤ 16) :
    loop (impl_LongestWays_b1 (natL o)) (0, mks (fun v => outs es es.length (v : Int)) n.toNat, List.replicate n.toNat 0) = some (ways es n.toNat o o.length) := by
  have hnl := natL_len o
  have hml := mks_len (fun v : Nat => outs es es.length (v : Int)) n.toNat
  refine gives_eq.1 (loop_to (fun k : Nat => ((k : Int), mks (fun v => outs es es.length (v : Int)) n.toNat, ways es n.toNat o k)) (fun k => k ≤ o.length) (fun k => o.length - k) 0 (by simp [ways]) (Nat.zero_le _) ?_)
  intro k hk
  simp only [impl_LongestWays_b1, go_sem]
  refine ⟨fun hc => ?_, fun hc => by rw [show k = o.length from by omega]⟩
  have hlk := hlt k (by omega)
  have hy : (natL o).getD k 0 = ((o.getD k 0 : Nat) : Int) := by simp [natL, List.getD_eq_getElem?_getD, show k < o.length from by omega]
  rw [impl_ways_row hg (by omega) hlk (ways_len _ _ _ _) (ways_bd hg k) (by omega) (by rw [mks_get hlk]), gives_some, hy, Int.toNat_natCast, set_getD (by omega)]
  exact ⟨by omega, by omega, by omega, by omega, k + 1, by omega, by omega, by simp [ways]⟩
/-- Both, at once. -/
theorem ways_eq {n : Int} {es : List (Int × Int × Int)} (hn : -9223372036854775808 ≤ n ∧ n ≤ 9223372036854775807) (hx : es.length ≤ 1000000000) :
    ∃ r : List Int × Bool, impl_LongestWays n es = some r ∧ spec_LongestWays n es = some r ∧ r.1.length ≤ 16 ∧ (r.2 = true → GOk n es ∧ ∃ o, FWE n.toNat es o ∧ o.length = n.toNat ∧ r.1 = ways es n.toNat o o.length) ∧ (r.2 = false → r.1 = []) := by
  obtain ⟨⟨y, b⟩, f1, f2, f3, f4, f5⟩ := forward_eq (n := n) (es := es) hn hx
  unfold impl_LongestWays spec_LongestWays
  rw [f1, f2]
  simp only [Option.bind_some]
  simp only at f3 f4 f5
  cases b with
  | false => exact ⟨([], false), rfl, rfl, by simp, fun h => (by cases h), fun _ => rfl⟩
  | true =>
    obtain ⟨hg, o, rfl, h1, h2⟩ := f4 rfl
    have h0 := hg.1
    have h16 := hg.2.1
    have hlt : ∀ k, k < o.length → o.getD k 0 < n.toNat := fun k hk => (h1.1 k hk).1
    rw [if_neg (by simp), if_neg (by simp), spec_l8Fill_eq hg.1 (by omega), impl_lists hg]
    simp only [Option.bind_some]
    rw [chk_pos (by omega), spec_ways hg hlt (by omega), impl_ways hg hlt (by omega)]
    exact ⟨_, rfl, rfl, by simp only [ways_len]; omega, fun _ => ⟨hg, o, h1, h2, rfl⟩, fun h => (by cases h)⟩
theorem FnExactLongestWays_true {n : Int} {es : List (Int × Int × Int)} (hn : -9223372036854775808 ≤ n ∧ n ≤ 9223372036854775807) (hx : es.length ≤ 9223372036854775807) : laws_FnExactLongestWays n es = some true := by
  unfold laws_FnExactLongestWays
  refine law_graph hx fun hl => ?_
  have he : es.length ≤ 1000000000 := by omega
  obtain ⟨⟨cs, b⟩, c1, c2, c3, _⟩ := ways_eq hn he
  simp only at c3
  obtain ⟨⟨y11, y12⟩, g1, g2⟩ := markGraph_eq (n := n) (es := es) (k := 1) he (by omega) (by omega)
  simp only at g2
  simp only [toGraph_eq he, c1, c2, eqGraph_eq he, eqIntS_eq (xs := cs) (by omega), g1, Option.bind_some, markIntS_eq (xs := cs) (k := 1) (by omega) (by omega) (by omega), heldIntS_eq (n := cs.length) (k := 1) (by omega) (by omega) (by omega)]
  rw [if_neg (by simp), if_neg (by simp), if_pos (by simp; omega)]
  simp only [Option.bind_some]
  rw [if_neg (by simp; omega), if_neg (by simp; omega), if_neg (by simp), if_neg (by simp), if_neg (by simp; omega), if_neg (by simp)]
/-! The law. -/
theorem rxL_spec {u : Int} {ss : List Int} : ∀ {l : List (Int × Int × Int)}, (∀ e ∈ l, e.1 = u ∧ ¬ e.2.1.toNat = u.toNat ∧ e.2.1.toNat < ss.length) →
    (∀ i, (∀ e ∈ l, ¬ e.2.1.toNat = i) → (rxL ss l).getD i 0 = ss.getD i 0) ∧ (∀ i, ss.getD i 0 ≤ (rxL ss l).getD i 0) ∧ (∀ e ∈ l, ss.getD u.toNat 0 + e.2.2 ≤ (rxL ss l).getD e.2.1.toNat 0) ∧
    ∀ i, (rxL ss l).getD i 0 = ss.getD i 0 ∨ ∃ e ∈ l, e.2.1.toNat = i ∧ (rxL ss l).getD i 0 = ss.getD u.toNat 0 + e.2.2 := by
  intro l
  generalize hr : l.reverse = r
  induction r generalizing l with
  | nil =>
    have : l = [] := by simpa using hr
    subst this
    intro _
    exact ⟨fun _ _ => rfl, fun _ => Int.le_refl _, fun e he => (by cases he), fun _ => .inl rfl⟩
  | cons x r ih =>
    have hl : l = r.reverse ++ [x] := by rw [← List.reverse_reverse l, hr]; simp
    subst hl
    intro h
    obtain ⟨i1, i2, i3, i4⟩ := ih (l := r.reverse) (by simp) fun e he => h e (List.mem_append_left _ he)
    obtain ⟨x1, x2, x3⟩ := h x (by simp)
    have hu : (rxL ss r.reverse).getD u.toNat 0 = ss.getD u.toNat 0 := i1 _ fun e he => (h e (List.mem_append_left _ he)).2.1
    have hx := fun i => rx_get (ss := rxL ss r.reverse) (e := x) (i := i) (by rw [rxL_len]; exact x3)
    simp only [x1, hu] at hx
    rw [rxL_snoc]
    refine ⟨fun i hi => ?_, fun i => ?_, fun e he => ?_, fun i => ?_⟩
    · rw [hx, if_neg (fun e => hi x (by simp) e.symm)]
      exact i1 i fun e he => hi e (List.mem_append_left _ he)
    · rw [hx]
      split
      · rename_i e; subst e; have := i2 x.2.1.toNat; omega
      · exact i2 i
    · rw [hx]
      rcases List.mem_append.1 he with he | he
      · have := i3 e he
        split
        · rename_i e'; rw [e'] at this; omega
        · exact this
      · have : e = x := by simpa using he
        subst this
        rw [if_pos rfl]; omega
    · rw [hx]
      split
      · rename_i e; subst e
        rcases Int.le_total ((rxL ss r.reverse).getD x.2.1.toNat 0) (ss.getD u.toNat 0 + x.2.2) with hle | hle
        · exact .inr ⟨x, by simp, rfl, by omega⟩
        · rcases i4 x.2.1.toNat with h1 | ⟨e, h1, h2, h3⟩
          · exact .inl (by omega)
          · exact .inr ⟨e, List.mem_append_left _ h1, h2, by omega⟩
      · rcases i4 i with h1 | ⟨e, h1, h2, h3⟩
        · exact .inl h1
        · exact .inr ⟨e, List.mem_append_left _ h1, h2, h3⟩
theorem ways_law {n : Int} {es : List (Int × Int × Int)} {o : List Nat} (hg : GOk n es) (hf : FW n.toNat es o) : ∀ k, k ≤ o.length →
    (∀ j, j < es.length → (es.getD j (0, 0, 0)).1 ∈ natL (o.take k) → (ways es n.toNat o k).getD (es.getD j (0, 0, 0)).1.toNat 0 + (es.getD j (0, 0, 0)).2.2 ≤ (ways es n.toNat o k).getD (es.getD j (0, 0, 0)).2.1.toNat 0) ∧
    ∀ v, v < n.toNat → (ways es n.toNat o k).getD v 0 = 0 ∨ ∃ j, j < es.length ∧ (es.getD j (0, 0, 0)).1 ∈ natL (o.take k) ∧ (es.getD j (0, 0, 0)).2.1 = (v : Int) ∧ (ways es n.toNat o k).getD (es.getD j (0, 0, 0)).1.toNat 0 + (es.getD j (0, 0, 0)).2.2 = (ways es n.toNat o k).getD v 0
  | 0, _ => ⟨fun j hj hm => by simp [natL] at hm, fun v hv => .inl (by simp [ways, List.getD_eq_getElem?_getD, hv])⟩
  | k + 1, hk => by
    obtain ⟨a1, a2⟩ := ways_law hg hf k (by omega)
    obtain ⟨q1, q2, _⟩ := hf k (by omega)
    have hnd := hf.nodup
    have htk : natL (o.take (k + 1)) = natL (o.take k) ++ [((o.getD k 0 : Nat) : Int)] := by
      rw [List.take_succ_eq_append_getElem (by omega), natL_snoc, getD_lt (by omega)]
    obtain ⟨r1, r2, r3, r4⟩ := rxL_spec (u := ((o.getD k 0 : Nat) : Int)) (ss := ways es n.toNat o k) (l := outs es es.length (o.getD k 0 : Nat)) fun e he => by
      have := outs_ok hg he
      rw [ways_len]; omega
    simp only [Int.toNat_natCast] at r3 r4
    -- what is in already does not change
    have hold : ∀ x : Int, x ∈ natL (o.take (k + 1)) → (rxL (ways es n.toNat o k) (outs es es.length (o.getD k 0 : Nat))).getD x.toNat 0 = (ways es n.toNat o k).getD x.toNat 0 := fun x hx => by
      refine r1 _ fun e he e2 => ?_
      have hok := outs_ok hg he
      obtain ⟨_, j, hj, rfl⟩ := outs_mem.1 he
      have hx0 : (0 : Int) ≤ x := by obtain ⟨u, _, rfl⟩ := natL_mem.1 hx; omega
      have hto : (es.getD j (0, 0, 0)).2.1 = x := by omega
      rw [htk, List.mem_append, List.mem_singleton] at hx
      rcases hx with hx | hx
      · obtain ⟨u, hu, rfl⟩ := natL_mem.1 hx
        obtain ⟨i, hi, hiu⟩ := List.mem_iff_getElem.1 hu
        rw [List.length_take] at hi
        rw [List.getElem_take] at hiu
        have := (hf i (by omega)).2.1.2 j hj (by rw [getD_lt (show i < o.length by omega), hiu]; exact hto)
        rw [hok.1, natL_mem'] at this
        exact q2.1 (List.take_subset_take_left o (by omega : i ≤ k) this)
      · omega
    refine ⟨fun j hj hm => ?_, fun v hv => ?_⟩
    · simp only [ways]
      rw [hold _ hm]
      rw [htk, List.mem_append, List.mem_singleton] at hm
      rcases hm with hm | hm
      · exact Int.le_trans (a1 j hj hm) (r2 _)
      · have := r3 (es.getD j (0, 0, 0)) (outs_mem.2 ⟨hm, j, hj, rfl⟩)
        rw [hm, Int.toNat_natCast]; exact this
    · simp only [ways]
      have hin : ∀ x : Int, x ∈ natL (o.take k) → x ∈ natL (o.take (k + 1)) := fun x hx => by rw [htk]; exact List.mem_append_left _ hx
      rcases r4 v with h1 | ⟨e, h1, h2, h3⟩
      · rw [h1]
        rcases a2 v hv with h4 | ⟨j, j1, j2, j3, j4⟩
        · exact .inl h4
        · exact .inr ⟨j, j1, hin _ j2, j3, by rw [hold _ (hin _ j2)]; exact j4⟩
      · have hok := outs_ok hg h1
        obtain ⟨e1, j, hj, rfl⟩ := outs_mem.1 h1
        have hm : (es.getD j (0, 0, 0)).1 ∈ natL (o.take (k + 1)) := by rw [htk, e1]; exact List.mem_append_right _ (by simp)
        refine .inr ⟨j, hj, hm, by omega, ?_⟩
        rw [hold _ hm, h3, e1, Int.toNat_natCast]
theorem FW.all {n : Nat} {es : List (Int × Int × Int)} {o : List Nat} (h : FW n es o) (hl : o.length = n) {v : Nat} (hv : v < n) : v ∈ o := by
  refine Classical.byContradiction fun hm => ?_
  have := pigeon (fun v => v) n (v :: o) (List.nodup_cons.2 ⟨hm, h.nodup⟩) fun k hk => by
    rcases List.mem_cons.1 hk with rfl | hk
    · exact ⟨k, hv, rfl⟩
    · exact ⟨k, h.lt hk, rfl⟩
  simp only [List.length_cons] at this
  omega
theorem Forward_ok {b : List Int} {p : Int} (hb : Bts b) (hp : 0 ≤ p ∧ p ≤ 700000) : gives (spec_l20Forward b p) fun r => (-1 ≤ r.1 ∧ r.1 ≤ 17) ∧ r.2.1.length ≤ 20 ∧ 0 ≤ r.2.2 ∧ r.2.2 ≤ p + 201 := by
  unfold spec_l20Forward
  rw [gives_bind]
  refine (Graph_ok hb ⟨by omega, by omega⟩).mono ?_
  rintro ⟨n, es, q⟩ ⟨g1, g2, g3, g4⟩
  simp only at g1 g2 g3 g4 ⊢
  rw [gives_bind]
  refine (pick_ok hb ⟨by omega, by omega⟩).mono ?_
  rintro ⟨y0, p0⟩ ⟨e0, h0⟩
  simp only at e0 h0 ⊢
  have hs := spec_GraphValid_eq (n := n) (es := es) ⟨by omega, by omega⟩ (by omega)
  have key : gives (loop (spec_l20Forward_b0 es) (0, n, [])) fun r => (-1 ≤ r.1 ∧ r.1 ≤ 17) ∧ r.2.length ≤ 20 := by
    refine loop_to (fun s : Nat × Int × List (Int × Int × Int) => ((s.1 : Int), s.2.1, s.2.2)) (fun s => s.1 ≤ es.length ∧ (-1 ≤ s.2.1 ∧ s.2.1 ≤ 17) ∧ s.2.2.length ≤ s.1) (fun s => es.length - s.1) (0, n, []) rfl ⟨Nat.zero_le _, g1, by simp⟩ ?_
    rintro ⟨k, m, fs⟩ ⟨h1, h2, h3⟩
    simp only at h1 h2 h3
    simp only [spec_l20Forward_b0, go_sem]
    refine ⟨fun hc => ⟨by omega, (AddEdge_ok ⟨by omega, by omega⟩ (by omega)).mono ?_⟩, fun hc => ⟨h2, by omega⟩⟩
    rintro ⟨m', fs', ok⟩ ⟨h4, h5⟩
    simp only at h4 h5
    simp only [go_sem]
    exact ⟨by omega, (k + 1, m', fs'), ⟨by simp only; omega, by simp only; omega, by simp only; omega⟩, by simp only; omega, by simp⟩
  have fin : ∀ b : Bool, gives (if ((y0 == 0) || (!b)) = true then some (n, es, p0) else (loop (spec_l20Forward_b0 es) (0, n, [])).bind (fun ((t4_0_1, t4_1s_1) : Int × (List (Int × Int × Int))) => some (t4_0_1, t4_1s_1, p0))) fun r => (-1 ≤ r.1 ∧ r.1 ≤ 17) ∧ r.2.1.length ≤ 20 ∧ 0 ≤ r.2.2 ∧ r.2.2 ≤ p + 201 := by
    intro b
    rw [gives_ite]
    refine ⟨fun _ => gives_some.2 ⟨g1, g2, by simp only; omega, by simp only; omega⟩, fun _ => ?_⟩
    rw [gives_bind]
    refine key.mono ?_
    rintro ⟨m, fs⟩ ⟨k1, k2⟩
    exact gives_some.2 ⟨k1, k2, by simp only; omega, by simp only; omega⟩
  rw [gives_bind, gives_ite, hs]
  exact ⟨fun _ => gives_some.2 (fin _), fun _ => gives_some.2 (fin _)⟩
theorem DrawLongestWays_ok {b : List Int} (hb : Bts b) : gives (spec_DrawLongestWays b) fun r => (-1 ≤ r.1 ∧ r.1 ≤ 17) ∧ r.2.length ≤ 20 := by
  unfold spec_DrawLongestWays
  rw [gives_bind]
  refine (open_ok hb).mono' (by rfl) ?_
  rintro ⟨c, p⟩ ⟨h1, h2, h3⟩
  simp only at h1 h2 h3 ⊢
  rw [gives_bind]
  refine (Forward_ok h1 ⟨by omega, by omega⟩).mono ?_
  rintro ⟨n, es, q⟩ ⟨g1, g2, g3, g4⟩
  exact gives_some.2 ⟨g1, g2⟩
theorem lw_inner {n : Int} {es : List (Int × Int × Int)} {ss : List Int} {v : Nat} (hg : GOk n es) (hl : ss.length = n.toNat) (hb : Bd 1000000 ss) (hv : v < n.toNat)
    (ha : ∀ j, j < es.length → (es.getD j (0, 0, 0)).2.1 = (v : Int) → ss.getD (es.getD j (0, 0, 0)).1.toNat 0 + (es.getD j (0, 0, 0)).2.2 ≤ ss.getD v 0)
    (hw : ss.getD v 0 = 0 ∨ ∃ j, j < es.length ∧ (es.getD j (0, 0, 0)).2.1 = (v : Int) ∧ ss.getD (es.getD j (0, 0, 0)).1.toNat 0 + (es.getD j (0, 0, 0)).2.2 = ss.getD v 0) :
    loop (laws_FnLongestWays_b0 es ss (v : Int)) (ss.getD v 0 == 0, 0) = some (Sum.inl true) := by
  have h40 := hg.2.2.1
  refine gives_eq.1 (loop_to (fun k : Nat => (yes (ss.getD v 0 = 0 ∨ ∃ j, j < k ∧ (es.getD j (0, 0, 0)).2.1 = (v : Int) ∧ ss.getD (es.getD j (0, 0, 0)).1.toNat 0 + (es.getD j (0, 0, 0)).2.2 = ss.getD v 0), (k : Int))) (fun k => k ≤ es.length) (fun k => es.length - k) 0 ?_ (Nat.zero_le _) ?_)
  · simp only [Prod.mk.injEq]
    refine ⟨?_, rfl⟩
    rw [Bool.eq_iff_iff, yes_iff, beq_iff_eq]
    exact ⟨.inl, fun h => h.elim id fun ⟨j, hj, _⟩ => absurd hj (by omega)⟩
  · intro k hk
    simp only [laws_FnLongestWays_b0, go_sem]
    refine ⟨fun hc => ?_, fun hc => by rw [show k = es.length from by omega, yes_true hw]⟩
    have hE := gok_len hg (k := k) (by omega)
    simp only [EOk] at hE
    have h1 := hb (es.getD k (0, 0, 0)).1.toNat
    have h2 := ha k (by omega)
    clear hw ha
    refine ⟨by omega, fun _ => by omega, fun _ => by omega, fun _ => by omega, fun hh => ?_, fun hh => ⟨fun _ _ => by omega, fun _ _ => by omega, fun _ _ => by omega, by omega, k + 1, by omega, by omega, ?_⟩⟩
    · have := h2 hh.1
      omega
    · simp only [Prod.mk.injEq, Int.natCast_add, Int.natCast_one, and_true]
      rw [Bool.eq_iff_iff, Bool.or_eq_true, Bool.and_eq_true, yes_iff, yes_iff, beq_iff_eq, beq_iff_eq]
      constructor
      · rintro ((h | ⟨j, j1, j2⟩) | h)
        · exact .inl h
        · exact .inr ⟨j, by omega, j2⟩
        · exact .inr ⟨k, by omega, h⟩
      · rintro (h | ⟨j, j1, j2⟩)
        · exact .inl (.inl h)
        · by_cases hjk : j = k
          · subst hjk; exact .inr j2
          · exact .inl (.inr ⟨j, by omega, j2⟩)
theorem lw_outer {n : Int} {es : List (Int × Int × Int)} {o : List Nat} {ss : List Int} (hg : GOk n es) (hf : FWE n.toNat es o) (hlo : o.length = n.toNat) (hwl : ss.length = n.toNat) (hbd : Bd 1000000 ss)
    (w1 : ∀ j, j < es.length → (es.getD j (0, 0, 0)).1 ∈ natL o → ss.getD (es.getD j (0, 0, 0)).1.toNat 0 + (es.getD j (0, 0, 0)).2.2 ≤ ss.getD (es.getD j (0, 0, 0)).2.1.toNat 0)
    (w2 : ∀ v, v < n.toNat → ss.getD v 0 = 0 ∨ ∃ j, j < es.length ∧ (es.getD j (0, 0, 0)).1 ∈ natL o ∧ (es.getD j (0, 0, 0)).2.1 = (v : Int) ∧ ss.getD (es.getD j (0, 0, 0)).1.toNat 0 + (es.getD j (0, 0, 0)).2.2 = ss.getD v 0) :
    loop (laws_FnLongestWays_b1 n es ss) 0 = some (Sum.inl ()) := by
  have g0 := hg.1
  have g16 := hg.2.1
  refine gives_eq.1 (loop_to (fun v : Nat => (v : Int)) (fun v => v ≤ n.toNat) (fun v => n.toNat - v) 0 rfl (Nat.zero_le _) ?_)
  intro v hv
  simp only [laws_FnLongestWays_b1, gives_ite, gives_chk, gives_bind, gives_some, decide_eq_true_eq]
  refine ⟨fun hc => ⟨by omega, ?_⟩, fun _ => trivial⟩
  have hlw : loop (laws_FnLongestWays_b0 es ss (v : Int)) (ss.getD ((v : Int)).toNat 0 == 0, 0) = some (Sum.inl true) := lw_inner hg hwl hbd (by omega) (fun j hj hto => ?_) ((w2 v (by omega)).imp_right fun ⟨j, j1, _, j3, j4⟩ => ⟨j, j1, j3, j4⟩)
  · refine (gives_eq.2 hlw).mono ?_
    rintro _ rfl
    rw [Sum.elim_inl]
    simp only [gives_ite, gives_chk, gives_some]
    exact ⟨fun h => (by cases h), fun _ => ⟨by omega, v + 1, by omega, by omega, by simp⟩⟩
  · have hE := gok_len hg hj
    simp only [EOk] at hE
    have := w1 j hj (natL_mem.2 ⟨(es.getD j (0, 0, 0)).1.toNat, hf.1.all hlo (by omega), by omega⟩)
    rw [hto, Int.toNat_natCast] at this
    exact this
theorem FnLongestWays_true {b : List Int} (hb : Bts b) : laws_FnLongestWays b = some true := by
  unfold laws_FnLongestWays
  by_cases h0 : (1048576 : Int) < b.length
  · rw [if_pos (by simpa using h0)]
  · rw [if_neg (by simpa using h0)]
    obtain ⟨⟨n, es⟩, h1, h2, h3⟩ := DrawLongestWays_ok hb
    simp only at h2 h3
    obtain ⟨⟨cs, ok⟩, c1, c2, c3, c4, c5⟩ := ways_eq (n := n) (es := es) ⟨by omega, by omega⟩ (by omega)
    simp only at c3 c4 c5
    rw [h1]
    simp only [Option.bind_some, c1, c2, sameInts_self (xs := cs) (by omega)]
    rw [if_neg (by simp)]
    cases ok with
    | false =>
      have := c5 rfl
      subst this
      rw [if_pos (show (!false) = true from rfl)]
      simp [alive_eq]
    | true =>
      obtain ⟨hg, o, hf, hlo, rfl⟩ := c4 rfl
      have g0 := hg.1
      have g16 := hg.2.1
      have hwl := ways_len es n.toNat o o.length
      have hbd : Bd 1000000 (ways es n.toNat o o.length) := (ways_bd hg o.length).mono (by omega)
      obtain ⟨w1, w2⟩ := ways_law hg hf.1 o.length (Nat.le_refl _)
      rw [List.take_length] at w1 w2
      rw [if_neg (by simp), if_neg (by simp; omega)]
      generalize ways es n.toNat o o.length = ss at hwl hbd w1 w2 ⊢
      have hloop := lw_outer hg hf hlo hwl hbd w1 w2
      rw [hloop]
      rfl
end Go.Proofs.YtngpllgpfndkkaaDoor
