/- Longest ways. -/
import Derived.Test.YtdjckcedpnabpaaDoorMl
import Derived.Test.YtdjckcedpnabpaaDoorMp
set_option linter.unusedSimpArgs false
set_option linter.unusedVariables false
namespace Go.Proofs.YtdjckcedpnabpaaDoor
open Go Go.Av
attribute [local go_sem] gives_chk gives_ite gives_some gives_bind gives_join Sum.elim_inl Sum.elim_inr decide_eq_true_eq decide_eq_false_iff_not Bool.not_eq_true' Bool.not_eq_false' Bool.or_eq_true Bool.and_eq_true Bool.not_eq_eq_eq_not beq_iff_eq bne_iff_ne ne_eq Bool.or_eq_false_iff Bool.and_eq_false_iff Bool.not_eq_true Bool.not_eq_false Bool.not_true Bool.not_false Int.toNat_natCast beq_eq_false_iff_ne bne_eq_false_iff_eq Decidable.not_not Bool.default_bool

/-- One edge laid into the sums. -/
def rx (ss : List Int) (e : Int × Int × Int) : List Int := ss.set e.2.1.toNat (max (ss.getD e.2.1.toNat 0) (ss.getD e.1.toNat 0 + e.2.2))
def rxL (ss : List Int) (l : List (Int × Int × Int)) : List Int := l.foldl rx ss
theorem rxL_snoc (ss : List Int) (l : List (Int × Int × Int)) (e : Int × Int × Int) : rxL ss (l ++ [e]) = rx (rxL ss l) e := by simp [rxL]
theorem rx_len (ss : List Int) (e : Int × Int × Int) : (rx ss e).length = ss.length := by simp [rx]
theorem rxL_len (ss : List Int) (l : List (Int × Int × Int)) : (rxL ss l).length = ss.length := by
  induction l generalizing ss with
  | nil => rfl
  | cons e l ih => show (rxL (rx ss e) l).length = _; rw [ih, rx_len]
/-- The edges among the first k that lead away from v. -/
def outs (es : List (Int × Int × Int)) (k : Nat) (v : Int) : List (Int × Int × Int) := (es.take k).filter fun e => decide (e.1 = v)
theorem outs_succ {es : List (Int × Int × Int)} {k : Nat} {v : Int} (h : k < es.length) : outs es (k + 1) v = if (es.getD k (0, 0, 0)).1 = v then outs es k v ++ [es.getD k (0, 0, 0)] else outs es k v := by
  have hk : es.getD k (0, 0, 0) = es[k] := by simp [List.getD_eq_getElem?_getD, h]
  unfold outs
  rw [List.take_succ_eq_append_getElem h, List.filter_append, hk]
  split
  · rename_i hc; simp [hc]
  · rename_i hc; simp [hc]
theorem outs_len (es : List (Int × Int × Int)) (k : Nat) (v : Int) : (outs es k v).length ≤ k := by
  have h1 := List.length_filter_le (fun e : Int × Int × Int => decide (e.1 = v)) (es.take k)
  have h2 := List.length_take_le k es
  unfold outs; omega
theorem outs_mem {es : List (Int × Int × Int)} {v : Int} {e : Int × Int × Int} : e ∈ outs es es.length v ↔ e.1 = v ∧ ∃ k, k < es.length ∧ e = es.getD k (0, 0, 0) := by
  unfold outs
  rw [List.take_length, List.mem_filter, decide_eq_true_eq, and_comm]
  refine and_congr_right fun _ => ⟨fun h => ?_, fun ⟨k, hk, he⟩ => ?_⟩
  · obtain ⟨k, hk, he⟩ := List.mem_iff_getElem.1 h
    exact ⟨k, hk, by rw [List.getD_eq_getElem?_getD, List.getElem?_eq_getElem hk, Option.getD_some, he]⟩
  · rw [he, List.getD_eq_getElem?_getD, List.getElem?_eq_getElem hk, Option.getD_some]
    exact List.getElem_mem hk
def Bd (B : Int) (ss : List Int) : Prop := ∀ i, 0 ≤ ss.getD i 0 ∧ ss.getD i 0 ≤ B
theorem rx_get {ss : List Int} {e : Int × Int × Int} {i : Nat} (h : e.2.1.toNat < ss.length) : (rx ss e).getD i 0 = if i = e.2.1.toNat then max (ss.getD e.2.1.toNat 0) (ss.getD e.1.toNat 0 + e.2.2) else ss.getD i 0 := by
  unfold rx; rw [getD_set _ _ _ _ _ h]
theorem Bd.rx {B : Int} {ss : List Int} {e : Int × Int × Int} (hb : Bd B ss) (h : e.2.1.toNat < ss.length) (hw : 0 ≤ e.2.2 ∧ e.2.2 ≤ 20) : Bd (B + 20) (rx ss e) := fun i => by
  rw [rx_get h]
  have h1 := hb i
  have h2 := hb e.1.toNat
  have h3 := hb e.2.1.toNat
  split <;> omega
theorem Bd.mono {B C : Int} {ss : List Int} (hb : Bd B ss) (h : B ≤ C) : Bd C ss := fun i => by have := hb i; omega
theorem Bd.zero (n : Nat) : Bd 0 (List.replicate n 0) := fun i => by
  by_cases h : i < n
  · simp [List.getD_eq_getElem?_getD, List.getElem?_replicate, h]
  · simp [List.getD_eq_getElem?_getD, List.getElem?_replicate, h]
/-- All of them, in this order. -/
def ways (es : List (Int × Int × Int)) (n : Nat) (o : List Nat) : Nat → List Int
  | 0 => List.replicate n 0
  | k + 1 => rxL (ways es n o k) (outs es es.length (o.getD k 0 : Nat))
theorem ways_len (es : List (Int × Int × Int)) (n : Nat) (o : List Nat) : ∀ k, (ways es n o k).length = n
  | 0 => by simp [ways]
  | k + 1 => by simp only [ways]; rw [rxL_len, ways_len es n o k]
theorem rxL_bd {B : Int} {ss : List Int} {l : List (Int × Int × Int)} (hb : Bd B ss) (h : ∀ e ∈ l, e.2.1.toNat < ss.length ∧ 0 ≤ e.2.2 ∧ e.2.2 ≤ 20) : Bd (B + 20 * l.length) (rxL ss l) := by
  induction l generalizing ss B with
  | nil => simpa [rxL] using hb
  | cons e l ih =>
    have he := h e List.mem_cons_self
    have := ih (B := B + 20) (ss := rx ss e) (hb.rx he.1 he.2) fun x hx => by rw [rx_len]; exact h x (List.mem_cons_of_mem _ hx)
    show Bd _ (rxL (rx ss e) l)
    exact this.mono (by simp only [List.length_cons]; omega)
theorem outs_ok {n : Int} {es : List (Int × Int × Int)} (hg : GOk n es) {v : Int} {e : Int × Int × Int} (h : e ∈ outs es es.length v) : e.1 = v ∧ (0 ≤ e.1 ∧ e.1 < n) ∧ (0 ≤ e.2.1 ∧ e.2.1 < n) ∧ (0 ≤ e.2.2 ∧ e.2.2 ≤ 20) ∧ ¬ e.1 = e.2.1 := by
  obtain ⟨h1, k, hk, rfl⟩ := outs_mem.1 h
  have hE := gok_len hg hk
  simp only [EOk] at hE
  omega
theorem ways_bd {n : Int} {es : List (Int × Int × Int)} {o : List Nat} (hg : GOk n es) : ∀ k : Nat, Bd (800 * (k : Nat)) (ways es n.toNat o k)
  | 0 => Bd.zero _
  | k + 1 => by
    have h40 := hg.2.2.1
    have hl := outs_len es es.length (o.getD k 0 : Nat)
    have := rxL_bd (l := outs es es.length (o.getD k 0 : Nat)) (ways_bd (o := o) hg k) fun e he => by
      have := outs_ok hg he
      rw [ways_len]; omega
    exact this.mono (by omega)
theorem set_getD {α : Type} {l : List α} {i : Nat} {d : α} (h : i < l.length) : l.set i (l.getD i d) = l := by
  rw [List.getD_eq_getElem?_getD, List.getElem?_eq_getElem h, Option.getD_some, List.set_getElem_self]
/-! The law. -/
theorem rxL_spec {u : Int} {ss : List Int} : ∀ {l : List (Int × Int × Int)}, (∀ e ∈ l, e.1 = u ∧ ¬ e.2.1.toNat = u.toNat ∧ e.2.1.toNat < ss.length) →
    (∀ i, (∀ e ∈ l, ¬ e.2.1.toNat = i) → (rxL ss l).getD i 0 = ss.getD i 0) ∧ (∀ i, ss.getD i 0 ≤ (rxL ss l).getD i 0) ∧ (∀ e ∈ l, ss.getD u.toNat 0 + e.2.2 ≤ (rxL ss l).getD e.2.1.toNat 0) ∧
    ∀ i, (rxL ss l).getD i 0 = ss.getD i 0 ∨ ∃ e ∈ l, e.2.1.toNat = i ∧ (rxL ss l).getD i 0 = ss.getD u.toNat 0 + e.2.2 := by
  intro l
  generalize hr : l.reverse = r
  induction r generalizing l with
  | nil =>
    have : l = [] := by simpa using hr
    subst this
    intro _
    exact ⟨fun _ _ => rfl, fun _ => Int.le_refl _, fun e he => (by cases he), fun _ => .inl rfl⟩
  | cons x r ih =>
    have hl : l = r.reverse ++ [x] := by rw [← List.reverse_reverse l, hr]; simp
    subst hl
    intro h
    obtain ⟨i1, i2, i3, i4⟩ := ih (l := r.reverse) (by simp) fun e he => h e (List.mem_append_left _ he)
    obtain ⟨x1, x2, x3⟩ := h x (by simp)
    have hu : (rxL ss r.reverse).getD u.toNat 0 = ss.getD u.toNat 0 := i1 _ fun e he => (h e (List.mem_append_left _ he)).2.1
    have hx := fun i => rx_get (ss := rxL ss r.reverse) (e := x) (i := i) (by rw [rxL_len]; exact x3)
    simp only [x1, hu] at hx
    rw [rxL_snoc]
    refine ⟨fun i hi => ?_, fun i => ?_, fun e he => ?_, fun i => ?_⟩
    · rw [hx, if_neg (fun e => hi x (by simp) e.symm)]
      exact i1 i fun e he => hi e (List.mem_append_left _ he)
    · rw [hx]
      split
      · rename_i e; subst e; have := i2 x.2.1.toNat; omega
      · exact i2 i
    · rw [hx]
      rcases List.mem_append.1 he with he | he
      · have := i3 e he
        split
        · rename_i e'; rw [e'] at this; omega
        · exact this
      · have : e = x := by simpa using he
        subst this
        rw [if_pos rfl]; omega
    · rw [hx]
      split
      · rename_i e; subst e
        rcases Int.le_total ((rxL ss r.reverse).getD x.2.1.toNat 0) (ss.getD u.toNat 0 + x.2.2) with hle | hle
        · exact .inr ⟨x, by simp, rfl, by omega⟩
        · rcases i4 x.2.1.toNat with h1 | ⟨e, h1, h2, h3⟩
          · exact .inl (by omega)
          · exact .inr ⟨e, List.mem_append_left _ h1, h2, by omega⟩
      · rcases i4 i with h1 | ⟨e, h1, h2, h3⟩
        · exact .inl h1
        · exact .inr ⟨e, List.mem_append_left _ h1, h2, h3⟩
theorem ways_law {n : Int} {es : List (Int × Int × Int)} {o : List Nat} (hg : GOk n es) (hf : FW n.toNat es o) : ∀ k, k ≤ o.length →
    (∀ j, j < es.length → (es.getD j (0, 0, 0)).1 ∈ natL (o.take k) → (ways es n.toNat o k).getD (es.getD j (0, 0, 0)).1.toNat 0 + (es.getD j (0, 0, 0)).2.2 ≤ (ways es n.toNat o k).getD (es.getD j (0, 0, 0)).2.1.toNat 0) ∧
    ∀ v, v < n.toNat → (ways es n.toNat o k).getD v 0 = 0 ∨ ∃ j, j < es.length ∧ (es.getD j (0, 0, 0)).1 ∈ natL (o.take k) ∧ (es.getD j (0, 0, 0)).2.1 = (v : Int) ∧ (ways es n.toNat o k).getD (es.getD j (0, 0, 0)).1.toNat 0 + (es.getD j (0, 0, 0)).2.2 = (ways es n.toNat o k).getD v 0
  | 0, _ => ⟨fun j hj hm => by simp [natL] at hm, fun v hv => .inl (by simp [ways, List.getD_eq_getElem?_getD, hv])⟩
  | k + 1, hk => by
    obtain ⟨a1, a2⟩ := ways_law hg hf k (by omega)
    obtain ⟨q1, q2, _⟩ := hf k (by omega)
    have hnd := hf.nodup
    have htk : natL (o.take (k + 1)) = natL (o.take k) ++ [((o.getD k 0 : Nat) : Int)] := by
      rw [List.take_succ_eq_append_getElem (by omega), natL_snoc, getD_lt (by omega)]
    obtain ⟨r1, r2, r3, r4⟩ := rxL_spec (u := ((o.getD k 0 : Nat) : Int)) (ss := ways es n.toNat o k) (l := outs es es.length (o.getD k 0 : Nat)) fun e he => by
      have := outs_ok hg he
      rw [ways_len]; omega
    simp only [Int.toNat_natCast] at r3 r4
    -- what is in already does not change
    have hold : ∀ x : Int, x ∈ natL (o.take (k + 1)) → (rxL (ways es n.toNat o k) (outs es es.length (o.getD k 0 : Nat))).getD x.toNat 0 = (ways es n.toNat o k).getD x.toNat 0 := fun x hx => by
      refine r1 _ fun e he e2 => ?_
      have hok := outs_ok hg he
      obtain ⟨_, j, hj, rfl⟩ := outs_mem.1 he
      have hx0 : (0 : Int) ≤ x := by obtain ⟨u, _, rfl⟩ := natL_mem.1 hx; omega
      have hto : (es.getD j (0, 0, 0)).2.1 = x := by omega
      rw [htk, List.mem_append, List.mem_singleton] at hx
      rcases hx with hx | hx
      · obtain ⟨u, hu, rfl⟩ := natL_mem.1 hx
        obtain ⟨i, hi, hiu⟩ := List.mem_iff_getElem.1 hu
        rw [List.length_take] at hi
        rw [List.getElem_take] at hiu
        have := (hf i (by omega)).2.1.2 j hj (by rw [getD_lt (show i < o.length by omega), hiu]; exact hto)
        rw [hok.1, natL_mem'] at this
        exact q2.1 (List.take_subset_take_left o (by omega : i ≤ k) this)
      · omega
    refine ⟨fun j hj hm => ?_, fun v hv => ?_⟩
    · simp only [ways]
      rw [hold _ hm]
      rw [htk, List.mem_append, List.mem_singleton] at hm
      rcases hm with hm | hm
      · exact Int.le_trans (a1 j hj hm) (r2 _)
      · have := r3 (es.getD j (0, 0, 0)) (outs_mem.2 ⟨hm, j, hj, rfl⟩)
        rw [hm, Int.toNat_natCast]; exact this
    · simp only [ways]
      have hin : ∀ x : Int, x ∈ natL (o.take k) → x ∈ natL (o.take (k + 1)) := fun x hx => by rw [htk]; exact List.mem_append_left _ hx
      rcases r4 v with h1 | ⟨e, h1, h2, h3⟩
      · rw [h1]
        rcases a2 v hv with h4 | ⟨j, j1, j2, j3, j4⟩
        · exact .inl h4
        · exact .inr ⟨j, j1, hin _ j2, j3, by rw [hold _ (hin _ j2)]; exact j4⟩
      · have hok := outs_ok hg h1
        obtain ⟨e1, j, hj, rfl⟩ := outs_mem.1 h1
        have hm : (es.getD j (0, 0, 0)).1 ∈ natL (o.take (k + 1)) := by rw [htk, e1]; exact List.mem_append_right _ (by simp)
        refine .inr ⟨j, hj, hm, by omega, ?_⟩
        rw [hold _ hm, h3, e1, Int.toNat_natCast]
theorem FW.all {n : Nat} {es : List (Int × Int × Int)} {o : List Nat} (h : FW n es o) (hl : o.length = n) {v : Nat} (hv : v < n) : v ∈ o := by
  refine Classical.byContradiction fun hm => ?_
  have := pigeon (fun v => v) n (v :: o) (List.nodup_cons.2 ⟨hm, h.nodup⟩) fun k hk => by
    rcases List.mem_cons.1 hk with rfl | hk
    · exact ⟨k, hv, rfl⟩
    · exact ⟨k, h.lt hk, rfl⟩
  simp only [List.length_cons] at this
  omega
theorem Forward_ok {b : List Int} {p : Int} (hb : Bts b) (hp : 0 ≤ p ∧ p ≤ 700000) : gives (spec_l20Forward b p) fun r => (-1 ≤ r.1 ∧ r.1 ≤ 17) ∧ r.2.1.length ≤ 20 ∧ 0 ≤ r.2.2 ∧ r.2.2 ≤ p + 201 := by
  unfold spec_l20Forward
  rw [gives_bind]
  refine (Graph_ok hb ⟨by omega, by omega⟩).mono ?_
  rintro ⟨n, es, q⟩ ⟨g1, g2, g3, g4⟩
  simp only at g1 g2 g3 g4 ⊢
  rw [gives_bind]
  refine (pick_ok hb ⟨by omega, by omega⟩).mono ?_
  rintro ⟨y0, p0⟩ ⟨e0, h0⟩
  simp only at e0 h0 ⊢
  have hs := spec_GraphValid_eq (n := n) (es := es) ⟨by omega, by omega⟩ (by omega)
  have key : gives (loop (spec_l20Forward_b0 es) (0, n, [])) fun r => (-1 ≤ r.1 ∧ r.1 ≤ 17) ∧ r.2.length ≤ 20 := by
    refine loop_to (fun s : Nat × Int × List (Int × Int × Int) => ((s.1 : Int), s.2.1, s.2.2)) (fun s => s.1 ≤ es.length ∧ (-1 ≤ s.2.1 ∧ s.2.1 ≤ 17) ∧ s.2.2.length ≤ s.1) (fun s => es.length - s.1) (0, n, []) rfl ⟨Nat.zero_le _, g1, by simp⟩ ?_
    rintro ⟨k, m, fs⟩ ⟨h1, h2, h3⟩
    simp only at h1 h2 h3
    simp only [spec_l20Forward_b0, go_sem]
    refine ⟨fun hc => ⟨by omega, (AddEdge_ok ⟨by omega, by omega⟩ (by omega)).mono ?_⟩, fun hc => ⟨h2, by omega⟩⟩
    rintro ⟨m', fs', ok⟩ ⟨h4, h5⟩
    simp only at h4 h5
    simp only [go_sem]
    exact ⟨by omega, (k + 1, m', fs'), ⟨by simp only; omega, by simp only; omega, by simp only; omega⟩, by simp only; omega, by simp⟩
  have fin : ∀ b : Bool, gives (if ((y0 == 0) || (!b)) = true then some (n, es, p0) else (loop (spec_l20Forward_b0 es) (0, n, [])).bind (fun ((t4_0_1, t4_1s_1) : Int × (List (Int × Int × Int))) => some (t4_0_1, t4_1s_1, p0))) fun r => (-1 ≤ r.1 ∧ r.1 ≤ 17) ∧ r.2.1.length ≤ 20 ∧ 0 ≤ r.2.2 ∧ r.2.2 ≤ p + 201 := by
    intro b
    rw [gives_ite]
    refine ⟨fun _ => gives_some.2 ⟨g1, g2, by simp only; omega, by simp only; omega⟩, fun _ => ?_⟩
    rw [gives_bind]
    refine key.mono ?_
    rintro ⟨m, fs⟩ ⟨k1, k2⟩
    exact gives_some.2 ⟨k1, k2, by simp only; omega, by simp only; omega⟩
  rw [gives_bind, gives_ite, hs]
  exact ⟨fun _ => gives_some.2 (fin _), fun _ => gives_some.2 (fin _)⟩
end Go.Proofs.YtdjckcedpnabpaaDoor
