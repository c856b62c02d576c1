/- Least costs: a heap's way to them, and that by rounds over all edges; they can be turned. -/
import Derived.Test.YtbdncdmkogbdhaaNl
set_option linter.unusedSimpArgs false
set_option linter.unusedVariables false
namespace Go.Proofs.Ytbdncdmkogbdhaa
open Go Go.Av
abbrev E3 := Int × Int × Int
/-- A way of k edges from s to v, and what it costs. -/
def WW (es : List E3) (s : Int) : Nat → Int → Int → Prop
  | 0, v, c => v = s ∧ c = 0
  | k + 1, v, c => ∃ e ∈ es, ∃ c', WW es s k e.1 c' ∧ v = e.2.1 ∧ c = c' + e.2.2
theorem WW.front {es : List E3} {e : E3} (he : e ∈ es) : ∀ {k : Nat} {v c : Int}, WW es e.2.1 k v c → WW es e.1 (k + 1) v (c + e.2.2)
  | 0, v, c, h => ⟨e, he, 0, ⟨rfl, rfl⟩, h.1, by rw [h.2]⟩
  | k + 1, v, c, h => by
    obtain ⟨f, hf, c', h1, rfl, rfl⟩ := h
    exact ⟨f, hf, c' + e.2.2, WW.front he h1, rfl, by omega⟩
theorem WW.turn {es : List E3} {s : Int} : ∀ {k : Nat} {v c : Int}, WW es s k v c → WW (turnF es) v k s c
  | 0, v, c, h => ⟨h.1.symm, h.2⟩
  | k + 1, v, c, h => by
    obtain ⟨e, he, c', h1, rfl, rfl⟩ := h
    have hm : sw e ∈ turnF es := (turnF_perm es).mem_iff.2 (List.mem_map_of_mem he)
    exact WW.front hm (WW.turn h1)
/-- The least cost, -1 for none. -/
def Opt (es : List E3) (s v x : Int) : Prop := (∃ k, WW es s k v x) ∧ ∀ k c, WW es s k v c → x ≤ c
def CostV (es : List E3) (s v x : Int) : Prop := (0 ≤ x ∧ Opt es s v x) ∨ (x = -1 ∧ ∀ k c, ¬ WW es s k v c)
theorem CostV.uniq {es : List E3} {s v x y : Int} (h : CostV es s v x) (g : CostV es s v y) : x = y := by
  rcases h with ⟨_, ⟨k, h1⟩, h2⟩ | ⟨h1, h2⟩ <;> rcases g with ⟨_, ⟨j, g1⟩, g2⟩ | ⟨g1, g2⟩
  · have := h2 _ _ g1; have := g2 _ _ h1; omega
  · exact absurd h1 (g2 _ _)
  · exact absurd g1 (h2 _ _)
  · omega
theorem CostV.flip {n : Int} {es : List E3} (hg : GOk n es) {s v x : Int} (h : CostV es s v x) : CostV (turnF es) v s x := by
  have back : ∀ k c, WW (turnF es) v k s c → WW es s k v c := fun k c hw => by
    have := hw.turn
    rwa [turnF_turnF hg] at this
  rcases h with ⟨h0, ⟨k, h1⟩, h2⟩ | ⟨h1, h2⟩
  · exact .inl ⟨h0, ⟨k, h1.turn⟩, fun k c hw => h2 k c (back k c hw)⟩
  · exact .inr ⟨h1, fun k c hw => h2 k c (back k c hw)⟩
def CL (n : Nat) (es : List E3) (s : Int) (d : List Int) : Prop := d.length = n ∧ ∀ v, v < n → CostV es s (v : Int) (d.getD v 0)
theorem CL.uniq {n : Nat} {es : List E3} {s : Int} {d e : List Int} (h : CL n es s d) (g : CL n es s e) : d = e :=
  list_eq_of (d := 0) (by rw [h.1, g.1]) fun v hv => (h.2 v (by rw [← h.1]; exact hv)).uniq (g.2 v (by rw [← h.1]; exact hv))
theorem WW.nn {n : Int} {es : List E3} (hE : ∀ e ∈ es, EN n e) {s : Int} : ∀ {k : Nat} {v c : Int}, WW es s k v c → 0 ≤ c
  | 0, v, c, h => by rw [h.2]; exact Int.le_refl _
  | k + 1, v, c, h => by
    obtain ⟨e, he, c', h1, rfl, rfl⟩ := h
    have := WW.nn hE h1
    have := hE e he
    unfold EN at this
    omega
theorem least_ex {p : Nat → Prop} : ∀ k, p k → ∃ k, p k ∧ ∀ j, j < k → ¬ p j := by
  intro k
  induction k using Nat.strongRecOn with
  | _ k ih =>
    intro hk
    by_cases h : ∃ j, j < k ∧ p j
    · obtain ⟨j, hj, hp⟩ := h; exact ih j hj hp
    · exact ⟨k, hk, fun j hj hp => h ⟨j, hj, hp⟩⟩
theorem opt_ex {n : Int} {es : List E3} (hE : ∀ e ∈ es, EN n e) {s v : Int} {k : Nat} {c : Int} (h : WW es s k v c) : ∃ x, 0 ≤ x ∧ Opt es s v x := by
  obtain ⟨m, ⟨j, hj⟩, hm⟩ := least_ex (p := fun m : Nat => ∃ k, WW es s k v (m : Int)) c.toNat ⟨k, by rw [Int.toNat_of_nonneg (h.nn hE)]; exact h⟩
  refine ⟨(m : Int), by omega, ⟨j, hj⟩, fun k' c' h' => ?_⟩
  have hc := h'.nn hE
  have : ¬ c'.toNat < m := fun hlt => hm _ hlt ⟨k', by rw [Int.toNat_of_nonneg hc]; exact h'⟩
  omega
/-- A way of the least cost with k edges, and none with fewer. -/
def OK_ (es : List E3) (s u : Int) (k : Nat) : Prop := ∃ x, WW es s k u x ∧ ∀ j c, WW es s j u c → x ≤ c
theorem OK_.prev {n : Int} {es : List E3} (hE : ∀ e ∈ es, EN n e) {s u : Int} {i : Nat} (h : OK_ es s u (i + 1)) (hm : ∀ j, j < i + 1 → ¬ OK_ es s u j) :
    ∃ u', (0 ≤ u' ∧ u' < n) ∧ OK_ es s u' i ∧ ∀ j, j < i → ¬ OK_ es s u' j := by
  obtain ⟨x, ⟨e, he, c', h1, rfl, rfl⟩, h2⟩ := h
  have hen := hE e he
  unfold EN at hen
  have hmin : ∀ j c, WW es s j e.1 c → c' ≤ c := fun j c hw => by
    have := h2 (j + 1) (c + e.2.2) ⟨e, he, c, hw, rfl, rfl⟩
    omega
  refine ⟨e.1, ⟨hen.1, hen.2.1⟩, ⟨c', h1, hmin⟩, fun j hj ⟨y, hy1, hy2⟩ => ?_⟩
  have e1 : y = c' := by have := hy2 _ _ h1; have := hmin _ _ hy1; omega
  subst e1
  exact hm (j + 1) (by omega) ⟨y + e.2.2, ⟨e, he, y, hy1, rfl, rfl⟩, h2⟩
open Classical in
noncomputable def rkV (es : List E3) (s : Int) (u : Nat) : Nat := if h : ∃ k, OK_ es s (u : Int) k ∧ ∀ j, j < k → ¬ OK_ es s (u : Int) j then Classical.choose h else 0
theorem rkV_eq {es : List E3} {s : Int} {u k : Nat} (h1 : OK_ es s (u : Int) k) (h2 : ∀ j, j < k → ¬ OK_ es s (u : Int) j) : rkV es s u = k := by
  have h : ∃ k, OK_ es s (u : Int) k ∧ ∀ j, j < k → ¬ OK_ es s (u : Int) j := ⟨k, h1, h2⟩
  unfold rkV
  rw [dif_pos h]
  obtain ⟨g1, g2⟩ := Classical.choose_spec h
  rcases Nat.lt_trichotomy (Classical.choose h) k with hl | hl | hl
  · exact absurd g1 (h2 _ hl)
  · exact hl
  · exact absurd h1 (g2 _ hl)
/-- Fewer edges than vertices are enough. -/
theorem opt_short {n : Int} {es : List E3} (hE : ∀ e ∈ es, EN n e) {s v x : Int} (hs : 0 ≤ s ∧ s < n) (hv : 0 ≤ v ∧ v < n) (h : Opt es s v x) : ∃ k, k < n.toNat ∧ WW es s k v x := by
  obtain ⟨⟨k0, hk0⟩, hmin⟩ := h
  obtain ⟨K, hK1, hK2⟩ := least_ex (p := OK_ es s v) k0 ⟨x, hk0, hmin⟩
  have chain : ∀ m, m ≤ K → ∃ u : Int, (0 ≤ u ∧ u < n) ∧ OK_ es s u (K - m) ∧ ∀ j, j < K - m → ¬ OK_ es s u j := by
    intro m
    induction m with
    | zero => intro _; exact ⟨v, hv, hK1, hK2⟩
    | succ m ih =>
      intro hm
      obtain ⟨u, hu, h1, h2⟩ := ih (by omega)
      rw [show K - m = (K - (m + 1)) + 1 from by omega] at h1 h2
      exact h1.prev hE h2
  have hpg := pigeon (rkV es s) n.toNat (List.range (K + 1)) List.nodup_range (fun k hk => by
    have hk' : k ≤ K := by have := List.mem_range.1 hk; omega
    obtain ⟨u, hu, h1, h2⟩ := chain (K - k) (by omega)
    rw [show K - (K - k) = k from by omega] at h1 h2
    refine ⟨u.toNat, by omega, ?_⟩
    have e1 : ((u.toNat : Nat) : Int) = u := Int.toNat_of_nonneg hu.1
    exact rkV_eq (by rw [e1]; exact h1) (by rw [e1]; exact h2))
  rw [List.length_range] at hpg
  obtain ⟨y, hy1, hy2⟩ := hK1
  have : y = x := by have := hy2 _ _ hk0; have := hmin _ _ hy1; omega
  subst this
  exact ⟨K, by omega, hy1⟩

/-! By rounds over all edges. -/
theorem spec_CostsFrom_ok {n v : Int} {es : List E3} (hg : GOk n es) (h0 : 0 ≤ v) (hv : v < n) : gives (spec_CostsFrom n es v) (CL n.toNat es v) := by
  obtain ⟨g0, g16, g40, gE, gP_⟩ := gok_iff.1 hg
  unfold spec_CostsFrom
  rw [spec_GraphValid_eq ⟨by omega, by omega⟩ (by omega), gok_true hg, Option.bind_some, if_neg (by rw [wrap_fits (by omega) (by omega)]; simp; omega), spec_l8Fill_eq (by omega) (by omega), Option.bind_some, gives_chk]
  refine ⟨by simp; omega, ?_⟩
  rw [gives_bind]
  have hz : ∀ x, x < n.toNat → (List.replicate n.toNat (-1 : Int)).getD x 0 = -1 := fun x hx => by
    simp only [List.getD_eq_getElem?_getD, List.getElem?_replicate]; rw [if_pos hx]; rfl
  let ok := fun (m i : Nat) (d : List Int) => d.length = n.toNat ∧ ∀ u : Nat, u < n.toNat → (d.getD u 0 = -1 ∨ (0 ≤ d.getD u 0 ∧ ∃ k, WW es v k (u : Int) (d.getD u 0))) ∧ d.getD u 0 ≤ 20 * (40 * (m : Int) + i) ∧
    (∀ k, k ≤ m → ∀ c, WW es v k (u : Int) c → 0 ≤ d.getD u 0 ∧ d.getD u 0 ≤ c) ∧ (∀ j, j < i → (es.getD j (0, 0, 0)).2.1 = (u : Int) → ∀ c, WW es v m (es.getD j (0, 0, 0)).1 c → 0 ≤ d.getD u 0 ∧ d.getD u 0 ≤ c + (es.getD j (0, 0, 0)).2.2)
  refine (gives_loop (Q := CL n.toNat es v) (body := spec_CostsFrom_b1 n es) (fun z : Nat × List Int => ((z.1 : Int), z.2)) (fun z => z.1 ≤ n.toNat ∧ ok z.1 0 z.2) (fun z => n.toNat - z.1) ?_ (0, (List.replicate n.toNat (-1)).set v.toNat 0) ⟨Nat.zero_le _, by simp, fun u hu => ?_⟩).mono fun r hr => gives_some.2 hr
  · rintro ⟨m, d⟩ ⟨hm, hd⟩
    simp only at hm hd
    simp only [spec_CostsFrom_b1]
    rw [gives_ite]
    refine ⟨fun hc => ?_, fun hc => ?_⟩
    · simp only [decide_eq_true_eq] at hc
      rw [gives_bind]
      refine (gives_loop (Q := fun d' => ok (m + 1) 0 d') (body := spec_CostsFrom_b0 es) (fun z : Nat × List Int => ((z.1 : Int), z.2)) (fun z => z.1 ≤ es.length ∧ ok m z.1 z.2) (fun z => es.length - z.1) ?_ (0, d) ⟨Nat.zero_le _, hd⟩).mono fun d' hd' => ?_
      · rintro ⟨i, t⟩ ⟨hi, htl, htu⟩
        simp only at hi htl htu
        simp only [spec_CostsFrom_b0]
        rw [gives_ite]
        refine ⟨fun hc2 => ?_, fun hc2 => ?_⟩
        · simp only [decide_eq_true_eq] at hc2
          have hil : i < es.length := by omega
          have hem : es.getD i (0, 0, 0) ∈ es := by rw [getE hil]; exact List.getElem_mem hil
          rw [Int.toNat_natCast]
          generalize hee : es.getD i (0, 0, 0) = e at hem ⊢
          have hen := gE e hem
          unfold EN at hen
          obtain ⟨a1, a2, a3, a4, _, a5, a6⟩ := hen
          have ha := htu e.1.toNat (by omega)
          have hb := htu e.2.1.toNat (by omega)
          rw [Int.toNat_of_nonneg a1] at ha
          rw [Int.toNat_of_nonneg a3] at hb
          have hset := fun (x : Int) (u : Nat) => getD_set t e.2.1.toNat u x 0 (by omega)
          rw [gives_join, gives_chk, gives_chk, gives_chk, gives_chk, gives_chk, gives_chk]
          refine ⟨by omega, by omega, by rcases ha.1 with h | ⟨h, _⟩ <;> omega, by omega, fun _ => by omega, fun _ _ => by omega, ?_⟩
          rw [gives_ite]
          refine ⟨fun hc3 => ?_, fun hc3 => ?_⟩
          · simp only [Bool.and_eq_true, Bool.or_eq_true, decide_eq_true_eq] at hc3
            rw [gives_chk, gives_chk]
            refine ⟨by omega, by omega, gives_some.2 ⟨(i + 1, t.set e.2.1.toNat (t.getD e.1.toNat 0 + e.2.2)), ⟨by simp only; omega, by simp only; rw [List.length_set]; exact htl, fun u hu => ?_⟩, by simp only; omega, rfl⟩⟩
            simp only
            rw [hset]
            have hu0 := htu u hu
            by_cases hue : u = e.2.1.toNat
            · rw [if_pos hue]
              have huc : (u : Int) = e.2.1 := by omega
              rw [hue] at hu0
              rw [huc]
              rw [show ((e.2.1.toNat : Nat) : Int) = e.2.1 from by omega] at hu0
              have hwa : ∃ k, WW es v k e.1 (t.getD e.1.toNat 0) := by
                rcases ha.1 with h | ⟨_, h⟩
                · omega
                · exact h
              obtain ⟨ka, hwa⟩ := hwa
              refine ⟨.inr ⟨by omega, ka + 1, e, hem, _, hwa, rfl, rfl⟩, by have := ha.2.1; omega, fun k hk c hw => ?_, fun j hj hje c hw => ?_⟩
              · have := hu0.2.2.1 k hk c hw
                omega
              · by_cases hji : j = i
                · subst hji
                  rw [hee] at hw ⊢
                  have := ha.2.2.1 m (Nat.le_refl _) c hw
                  omega
                · have := hu0.2.2.2 j (by omega) hje c hw
                  omega
            · rw [if_neg hue]
              refine ⟨hu0.1, by have := hu0.2.1; omega, hu0.2.2.1, fun j hj hje c hw => ?_⟩
              by_cases hji : j = i
              · subst hji
                rw [hee] at hje
                omega
              · exact hu0.2.2.2 j (by omega) hje c hw
          · simp only [Bool.and_eq_true, Bool.or_eq_true, decide_eq_true_eq] at hc3
            rw [gives_chk]
            refine ⟨by omega, gives_some.2 ⟨(i + 1, t), ⟨by simp only; omega, htl, fun u hu => ?_⟩, by simp only; omega, rfl⟩⟩
            have hu0 := htu u hu
            simp only
            refine ⟨hu0.1, by have := hu0.2.1; omega, hu0.2.2.1, fun j hj hje c hw => ?_⟩
            by_cases hji : j = i
            · subst hji
              rw [hee] at hje hw ⊢
              have h1 := ha.2.2.1 m (Nat.le_refl _) c hw
              have h2 : u = e.2.1.toNat := by omega
              rw [h2]
              omega
            · exact hu0.2.2.2 j (by omega) hje c hw
        · simp only [decide_eq_true_eq] at hc2
          have hil : i = es.length := by omega
          subst hil
          refine gives_some.2 ⟨htl, fun u hu => ?_⟩
          have hu0 := htu u hu
          refine ⟨hu0.1, by have := hu0.2.1; omega, fun k hk c hw => ?_, fun j hj => absurd hj (by omega)⟩
          by_cases hkm : k ≤ m
          · exact hu0.2.2.1 k hkm c hw
          · have hk1 : k = m + 1 := by omega
            subst hk1
            obtain ⟨e, he, c', h1, h2, rfl⟩ := hw
            obtain ⟨j, hj, rfl⟩ := List.getElem_of_mem he
            have e1 : es.getD j (0, 0, 0) = es[j] := getE hj
            have := hu0.2.2.2 j hj (by rw [e1]; exact h2.symm) c' (by rw [e1]; exact h1)
            rw [e1] at this
            exact this
      · rw [gives_chk]
        exact ⟨by omega, gives_some.2 ⟨(m + 1, d'), ⟨by simp only; omega, hd'⟩, by simp only; omega, rfl⟩⟩
    · simp only [decide_eq_true_eq] at hc
      have hmn : m = n.toNat := by omega
      subst hmn
      refine gives_some.2 ⟨hd.1, fun u hu => ?_⟩
      have hu0 := hd.2 u hu
      by_cases hw : ∃ k c, WW es v k (u : Int) c
      · obtain ⟨k, c, hw⟩ := hw
        obtain ⟨x, hx0, hx⟩ := opt_ex gE hw
        obtain ⟨k1, hk1, hw1⟩ := opt_short gE ⟨h0, hv⟩ ⟨by omega, by omega⟩ hx
        have h1 := hu0.2.2.1 k1 (by omega) x hw1
        rcases hu0.1 with h2 | ⟨_, k2, h2⟩
        · omega
        · have h3 := hx.2 k2 _ h2
          have : d.getD u 0 = x := by omega
          rw [this]
          exact .inl ⟨hx0, hx⟩
      · rcases hu0.1 with h2 | ⟨_, k2, h2⟩
        · exact .inr ⟨h2, fun k c h => hw ⟨k, c, h⟩⟩
        · exact absurd ⟨k2, _, h2⟩ hw
  · simp only
    have hget := getD_set (List.replicate n.toNat (-1 : Int)) v.toNat u 0 0 (by simp; omega)
    rw [hget]
    by_cases hue : u = v.toNat
    · rw [if_pos hue]
      have huc : (u : Int) = v := by omega
      rw [huc]
      refine ⟨.inr ⟨by omega, 0, rfl, rfl⟩, by omega, fun k hk c hw => ⟨by omega, hw.nn gE⟩, fun j hj => absurd hj (by omega)⟩
    · rw [if_neg hue, hz u hu]
      refine ⟨.inl rfl, by omega, fun k hk c hw => ?_, fun j hj => absurd hj (by omega)⟩
      have hk0 : k = 0 := by omega
      subst hk0
      have := hw.1
      omega
theorem spec_CostsFrom_not {n v : Int} {es : List E3} (hn : -9223372036854775808 ≤ n ∧ n ≤ 9223372036854775807) (hx : es.length ≤ 1000000000) (h : ¬ (GOk n es ∧ 0 ≤ v ∧ v < n)) : spec_CostsFrom n es v = some [] := by
  unfold spec_CostsFrom
  rw [spec_GraphValid_eq hn hx, Option.bind_some]
  by_cases hg : GOk n es
  · have g0 := hg.1
    have g16 := hg.2.1
    rw [gok_true hg, if_pos ?_]
    have : ¬ (0 ≤ v ∧ v < n) := fun hh => h ⟨hg, hh⟩
    rw [wrap_fits (by omega) (by omega)]
    simp only [Bool.not_true, Bool.false_or, Bool.not_eq_true', Bool.and_eq_false_iff, decide_eq_false_iff_not]
    omega
  · rw [gok_false hg, if_pos (by rfl)]
end Go.Proofs.Ytbdncdmkogbdhaa
