/- Better cuts: moves one behind the other, each the least that gains. -/
import Derived.Test.YtngpllgpfndkkaaMi
set_option linter.unusedSimpArgs false
set_option linter.unusedVariables false
namespace Go.Proofs.Ytngpllgpfndkkaa
open Go Go.Av
attribute [local go_sem] gives_chk gives_ite gives_some gives_bind gives_join Sum.elim_inl Sum.elim_inr decide_eq_true_eq decide_eq_false_iff_not Bool.not_eq_true' Bool.not_eq_false' Bool.or_eq_true Bool.and_eq_true Bool.not_eq_eq_eq_not beq_iff_eq bne_iff_ne ne_eq Bool.or_eq_false_iff Bool.and_eq_false_iff Bool.not_eq_true Bool.not_eq_false Bool.not_true Bool.not_false Int.toNat_natCast beq_eq_false_iff_ne bne_eq_false_iff_eq Decidable.not_not Bool.default_bool

theorem sameFlags_self {xs : List Bool} (hx : xs.length ≤ 1000000000) : laws_sameFlags xs xs = some true := by
  unfold laws_sameFlags
  rw [if_neg (by simp), gives_same (xs := xs) (ys := xs) (d := false) rfl (fun k hk => by
    simp only [laws_sameFlags_b0, Int.toNat_natCast]
    by_cases h : k < xs.length
    · rw [if_pos (by simpa using h), chk_pos (by omega), chk_pos (by omega), if_neg (by simp), chk_pos (by omega), if_pos h, if_pos trivial]
    · rw [if_neg (by simpa using h), if_neg h]), if_pos rfl]
  rfl
/-- v is the least vertex whose move gains. -/
def Lst (n : Int) (es : List (Int × Int × Int)) (ss : List Bool) (v : Nat) : Prop := 1 ≤ v ∧ ((v : Int) + 1 < n) ∧ 0 < gainF es ss v es.length ∧ ∀ u : Nat, 1 ≤ u → u < v → gainF es ss u es.length ≤ 0
def Fin0 (n : Int) (es : List (Int × Int × Int)) (ss : List Bool) : Prop := ∀ u : Nat, 1 ≤ u → (u : Int) + 1 < n → gainF es ss u es.length ≤ 0
/-- k moves lead from a to b. -/
def Runs (n : Int) (es : List (Int × Int × Int)) : Nat → List Bool → List Bool → Prop
  | 0, a, b => a = b
  | k + 1, a, b => ∃ v, Lst n es a v ∧ Runs n es k (flipS a v) b
theorem Runs.snoc {n : Int} {es : List (Int × Int × Int)} {v : Nat} : ∀ {k : Nat} {a b : List Bool}, Runs n es k a b → Lst n es b v → Runs n es (k + 1) a (flipS b v)
  | 0, a, b, h, hv => by cases h; exact ⟨v, hv, rfl⟩
  | k + 1, a, b, h, hv => by obtain ⟨u, h1, h2⟩ := h; exact ⟨u, h1, h2.snoc hv⟩
theorem Runs.uniq {n : Int} {es : List (Int × Int × Int)} : ∀ {j k : Nat} {a b c : List Bool}, Runs n es j a b → Runs n es k a c → Fin0 n es b → Fin0 n es c → j = k ∧ b = c
  | 0, 0, a, b, c, h, g, _, _ => by cases h; cases g; exact ⟨rfl, rfl⟩
  | 0, k + 1, a, b, c, h, g, hb, _ => by
    cases h
    obtain ⟨v, ⟨h1, h2, h3, _⟩, _⟩ := g
    have := hb v h1 h2; omega
  | j + 1, 0, a, b, c, h, g, _, hc => by
    cases g
    obtain ⟨v, ⟨h1, h2, h3, _⟩, _⟩ := h
    have := hc v h1 h2; omega
  | j + 1, k + 1, a, b, c, h, g, hb, hc => by
    obtain ⟨v, ⟨h1, h2, h3, h4⟩, h5⟩ := h
    obtain ⟨u, ⟨g1, g2, g3, g4⟩, g5⟩ := g
    have : v = u := by
      rcases Nat.lt_trichotomy v u with hl | hl | hl
      · have := g4 v h1 hl; omega
      · exact hl
      · have := h4 u g1 hl; omega
    subst this
    obtain ⟨e1, e2⟩ := h5.uniq g5 hb hc
    exact ⟨by omega, e2⟩
theorem flipS_len (ss : List Bool) (v : Nat) : (flipS ss v).length = ss.length := by simp [flipS]
theorem Lst.less {n : Int} {es : List (Int × Int × Int)} {ss : List Bool} {v : Nat} (hg : GOk n es) (hl : (ss.length : Int) = n) (h : Lst n es ss v) : cutF es (flipS ss v) es.length + 1 ≤ cutF es ss es.length := by
  have := gain_cut hg hl (v := v) (by have := h.2.1; omega) es.length (Nat.le_refl _)
  have := h.2.2.1
  omega
theorem Runs.less {n : Int} {es : List (Int × Int × Int)} (hg : GOk n es) : ∀ {k : Nat} {a b : List Bool}, (a.length : Int) = n → Runs n es k a b → cutF es b es.length + k ≤ cutF es a es.length ∧ (b.length : Int) = n
  | 0, a, b, hl, h => by cases h; exact ⟨by omega, hl⟩
  | k + 1, a, b, hl, h => by
    obtain ⟨v, h1, h2⟩ := h
    have h3 := h1.less hg hl
    have h4 := Runs.less hg (by rw [flipS_len]; exact hl) h2
    exact ⟨by omega, h4.2⟩
theorem gv_ok {n : Int} {es : List (Int × Int × Int)} {ss : List Bool} (hg : GOk n es) (hl : (ss.length : Int) = n) :
    gives (impl_gainingVertex n es ss) fun r => (∃ v : Nat, r = (v : Int) ∧ Lst n es ss v) ∨ (r = -1 ∧ Fin0 n es ss) := by
  have h0 := hg.1
  have h16 := hg.2.1
  unfold impl_gainingVertex
  rw [gives_bind]
  refine loop_to (fun v : Nat => (v : Int)) (fun v => 1 ≤ v ∧ v ≤ 17 ∧ ∀ u : Nat, 1 ≤ u → u < v → gainF es ss u es.length ≤ 0) (fun v => 17 - v) 1 rfl ⟨by omega, by omega, fun u h1 h2 => absurd h2 (by omega)⟩ ?_
  rintro v ⟨h1, h2, h3⟩
  simp only [impl_gainingVertex_b0, impl_gainOf_eq hg hl, go_sem]
  refine ⟨by omega, fun hc => ⟨fun hp => .inl ⟨v, rfl, h1, by omega, hp, h3⟩, fun hp => ⟨by omega, v + 1, ⟨by omega, by omega, fun u g1 g2 => ?_⟩, by omega, by simp⟩⟩, fun hc => .inr ⟨trivial, fun u g1 g2 => h3 u g1 (by omega)⟩⟩
  by_cases huv : u = v
  · subst huv; omega
  · exact h3 u g1 (by omega)
theorem clone_bool {ss : List Bool} (hx : ss.length ≤ 1000000000) : slices_Clone_bool_bool ss = some ss := by
  unfold slices_Clone_bool_bool
  rw [both_eq (fun h => by
    have : ss = [] := List.length_eq_zero_iff.1 h
    subst this; rfl), if_neg (by simp), chk_pos (by omega), List.nil_append]
theorem impl_BetterCut_ok {n : Int} {es : List (Int × Int × Int)} {ss : List Bool} (hg : GOk n es) (hl : (ss.length : Int) = n) : gives (impl_BetterCut n es ss) fun r => ∃ k : Nat, r.2 = (k : Int) ∧ Runs n es k ss r.1 ∧ Fin0 n es r.1 := by
  have h0 := hg.1
  have h16 := hg.2.1
  have h40 := hg.2.2.1
  unfold impl_BetterCut
  rw [impl_sidesFit_eq]
  simp only [Option.bind_some]
  rw [if_neg (by simp [gok_true hg, hl]), clone_bool (by omega)]
  simp only [Option.bind_some]
  rw [gives_bind]
  refine (gv_ok hg hl).mono fun r0 hr0 => ?_
  simp only [go_sem]
  refine loop_to (fun s : Nat × Int × List Bool => ((s.1 : Int), s.2.1, s.2.2)) (fun s => Runs n es s.1 ss s.2.2 ∧ ((∃ v : Nat, s.2.1 = (v : Int) ∧ Lst n es s.2.2 v) ∨ (s.2.1 = -1 ∧ Fin0 n es s.2.2))) (fun s => (cutF es s.2.2 es.length).toNat) (0, r0, ss) rfl ⟨rfl, hr0⟩ ?_
  rintro ⟨k, v, cs⟩ ⟨h1, h2⟩
  simp only at h1 h2
  obtain ⟨hle, hcl⟩ := h1.less hg hl
  have hb := cutF_bound (ss := cs) hg es.length (Nat.le_refl _)
  have hb0 := cutF_bound (ss := ss) hg es.length (Nat.le_refl _)
  simp only [impl_BetterCut_b0, go_sem]
  rcases h2 with ⟨u, rfl, hu⟩ | ⟨rfl, hf⟩
  · have hless := hu.less hg hcl
    have hb2 := cutF_bound (ss := flipS cs u) hg es.length (Nat.le_refl _)
    have hu2 := hu.2.1
    refine ⟨fun _ => ⟨by omega, by omega, (gv_ok hg (ss := cs.set u (!cs.getD u false)) (by rw [← hcl]; simp)).mono fun r hr => ⟨(k + 1, r, flipS cs u), ⟨h1.snoc hu, hr⟩, by simp only; omega, by simp only [flipS, Int.natCast_add, Int.natCast_one, Int.toNat_natCast]⟩⟩, fun h => absurd h (by omega)⟩
  · exact ⟨fun h => absurd rfl h, fun _ => ⟨k, rfl, h1, hf⟩⟩
theorem spec_BetterCut_ok {n : Int} {es : List (Int × Int × Int)} {ss : List Bool} (hg : GOk n es) (hl : (ss.length : Int) = n) : gives (spec_BetterCut n es ss) fun r => ∃ k : Nat, r.2 = (k : Int) ∧ Runs n es k ss r.1 ∧ Fin0 n es r.1 := by
  have h0 := hg.1
  have h16 := hg.2.1
  have h40 := hg.2.2.1
  unfold spec_BetterCut
  rw [spec_GraphValid_eq ⟨by omega, by omega⟩ (by omega), gok_true hg]
  simp only [Option.bind_some]
  rw [if_neg (by simp [hl]), chk_pos (by omega), List.nil_append]
  simp only [go_sem]
  refine loop_to (fun s : Nat × Nat × List Bool => ((s.1 : Int), (s.2.1 : Int), s.2.2)) (fun s => Runs n es s.1 ss s.2.2 ∧ 1 ≤ s.2.1 ∧ s.2.1 ≤ 17 ∧ ∀ u : Nat, 1 ≤ u → u < s.2.1 → gainF es s.2.2 u es.length ≤ 0) (fun s => 20 * (cutF es s.2.2 es.length).toNat + (17 - s.2.1)) (0, 1, ss) rfl ⟨rfl, by simp, by simp, fun u h1 h2 => absurd h2 (by simp only; omega)⟩ ?_
  rintro ⟨k, v, cs⟩ ⟨h1, h2, h3, h4⟩
  simp only at h1 h2 h3 h4
  obtain ⟨hle, hcl⟩ := h1.less hg hl
  have hb := cutF_bound (ss := cs) hg es.length (Nat.le_refl _)
  have hb0 := cutF_bound (ss := ss) hg es.length (Nat.le_refl _)
  simp only [spec_BetterCut_b0, spec_CutGain_eq (n := n) (es := es) (ss := cs) (v := (v : Int)) ⟨by omega, by omega⟩ (by omega), go_sem]
  refine ⟨by omega, fun hc => ?_, fun hc => ⟨k, rfl, h1, fun u g1 g2 => h4 u g1 (by omega)⟩⟩
  have hgv : gainV n es cs v = gainF es cs v es.length := by unfold gainV; rw [if_pos ⟨gok_true hg, hcl, by omega, by omega⟩]
  rw [hgv]
  refine ⟨fun hp => ?_, fun hp => ⟨by omega, (k, v + 1, cs), ⟨h1, by simp only; omega, by simp only; omega, fun u g1 g2 => ?_⟩, by simp only; omega, by simp⟩⟩
  · have hL : Lst n es cs v := ⟨h2, hc, hp, h4⟩
    have hless := hL.less hg hcl
    have hb2 := cutF_bound (ss := flipS cs v) hg es.length (Nat.le_refl _)
    exact ⟨by omega, by omega, by omega, (k + 1, 1, flipS cs v), ⟨h1.snoc hL, by simp only; omega, by simp only; omega, fun u g1 g2 => absurd g2 (by simp only; omega)⟩, by simp only; omega, by simp [flipS]⟩
  · simp only at g1 g2 ⊢
    by_cases huv : u = v
    · subst huv; omega
    · exact h4 u g1 (by omega)
theorem bettercut_eq {n : Int} {es : List (Int × Int × Int)} {ss : List Bool} (hn : -9223372036854775808 ≤ n ∧ n ≤ 9223372036854775807) (hx : es.length ≤ 1000000000) (hs : ss.length ≤ 1000000000) :
    ∃ r : List Bool × Int, impl_BetterCut n es ss = some r ∧ spec_BetterCut n es ss = some r ∧ r.1.length ≤ 1000000000 ∧ ((GOk n es ∧ (ss.length : Int) = n) → ∃ k : Nat, r.2 = (k : Int) ∧ Runs n es k ss r.1 ∧ Fin0 n es r.1) ∧ (¬ (GOk n es ∧ (ss.length : Int) = n) → r = ([], 0)) := by
  by_cases h : GOk n es ∧ (ss.length : Int) = n
  · obtain ⟨r1, h1, k1, e1, p1, q1⟩ := impl_BetterCut_ok h.1 h.2
    obtain ⟨r2, h2, k2, e2, p2, q2⟩ := spec_BetterCut_ok h.1 h.2
    obtain ⟨e3, e4⟩ := p1.uniq p2 q1 q2
    have he : r1 = r2 := Prod.ext e4 (by rw [e1, e2, e3])
    subst he
    have hl := (p1.less h.1 h.2).2
    have h16 := h.1.2.1
    exact ⟨r1, h1, h2, by omega, fun _ => ⟨k1, e1, p1, q1⟩, fun hh => absurd h hh⟩
  · have hd : decide (gok n es = true ∧ (ss.length : Int) = n) = false := by
      rw [decide_eq_false_iff_not]; exact fun hh => h ⟨of_gok hh.1, hh.2⟩
    have h1 : impl_BetterCut n es ss = some ([], 0) := by
      unfold impl_BetterCut
      rw [impl_sidesFit_eq, hd]
      simp only [Option.bind_some]
      rw [if_pos (show (!false) = true from rfl)]
    have h2 : spec_BetterCut n es ss = some ([], 0) := by
      unfold spec_BetterCut
      rw [spec_GraphValid_eq hn hx]
      simp only [Option.bind_some]
      rw [if_pos]
      rw [Bool.or_eq_true, Bool.not_eq_true', bne_iff_ne]
      by_cases hg : GOk n es
      · exact .inr fun hh => h ⟨hg, hh⟩
      · exact .inl (gok_false hg)
    exact ⟨([], 0), h1, h2, by simp, fun hh => absurd hh h, fun _ => rfl⟩
theorem FnExactBetterCut_true {n : Int} {es : List (Int × Int × Int)} {ss : List Bool} (hn : -9223372036854775808 ≤ n ∧ n ≤ 9223372036854775807) (hx : es.length ≤ 9223372036854775807) : laws_FnExactBetterCut n es ss = some true := by
  unfold laws_FnExactBetterCut
  by_cases h0 : (1048576 : Int) < ss.length
  · rw [if_pos (by simpa using h0)]
  · rw [if_neg (by simpa using h0)]
    refine law_graph hx fun hl => ?_
    have he : es.length ≤ 1000000000 := by omega
    have hb : ss.length ≤ 1000000000 := by omega
    obtain ⟨⟨x, m⟩, c1, c2, c3, _⟩ := bettercut_eq hn he hb
    simp only at c3
    obtain ⟨⟨y11, y12⟩, g1, g2⟩ := markGraph_eq (n := n) (es := es) (k := 1) he (by omega) (by omega)
    simp only at g2
    simp only [toGraph_eq he, toBoolS_eq hb, c1, c2, eqGraph_eq he, eqBoolS_eq (xs := x) (by omega), eqBoolS_eq (xs := ss) (by omega), g1, Option.bind_some]
    rw [if_neg (by simp), if_neg (by simp), if_neg (by simp), markBoolS_eq (xs := ss) (k := y11) (by omega) (by omega) (by omega)]
    simp only [Option.bind_some, markBoolS_eq (xs := x) (k := 1) (by omega) (by omega) (by omega), heldBoolS_eq (n := x.length) (k := 1) (by omega) (by omega) (by omega)]
    rw [if_pos (by simp; omega)]
    simp only [Option.bind_some]
    rw [if_neg (by simp; omega), if_neg (by simp; omega), if_neg (by simp), if_neg (by simp), if_neg (by simp; omega), if_neg (by simp)]
theorem FnBetterCut_true {b : List Int} (hb : Bts b) : laws_FnBetterCut b = some true := by
  unfold laws_FnBetterCut
  by_cases h0 : (1048576 : Int) < b.length
  · rw [if_pos (by simpa using h0)]
  · rw [if_neg (by simpa using h0)]
    obtain ⟨⟨n, es, ss⟩, h1, h2, h3, h4⟩ := DrawCutWeight_ok hb
    simp only at h2 h3 h4
    have hd : spec_DrawBetterCut b = some (n, es, ss) := by unfold spec_DrawBetterCut; rw [h1]; rfl
    obtain ⟨⟨x, m⟩, c1, c2, c3, c4, c5⟩ := bettercut_eq (n := n) (es := es) (ss := ss) ⟨by omega, by omega⟩ (by omega) (by omega)
    simp only at c3 c4
    rw [hd]
    simp only [Option.bind_some, c1, c2, sameFlags_self (xs := x) c3, impl_GraphValid_eq]
    rw [if_neg (by simp)]
    by_cases h : GOk n es ∧ (ss.length : Int) = n
    · obtain ⟨k, rfl, hr, hf⟩ := c4 h
      obtain ⟨hle, hxl⟩ := hr.less h.1 h.2
      have h16 := h.1.2.1
      rw [if_neg (by simp [gok_true h.1, h.2])]
      have hloop : loop (laws_FnBetterCut_b0 n es x) 1 = some (Sum.inl ()) := by
        refine gives_eq.1 (loop_to (fun v : Nat => (v : Int)) (fun v => 1 ≤ v ∧ v ≤ 17) (fun v => 17 - v) 1 rfl ⟨by omega, by omega⟩ ?_)
        rintro v ⟨g1, g2⟩
        simp only [laws_FnBetterCut_b0, impl_CutGain_eq, go_sem]
        refine ⟨by omega, fun hc => ⟨fun hp => ?_, fun _ => ⟨by omega, v + 1, ⟨by omega, by omega⟩, by omega, by simp⟩⟩, fun _ => trivial⟩
        have hgv : gainV n es x v = gainF es x v es.length := by unfold gainV; rw [if_pos ⟨gok_true h.1, hxl, by omega, by omega⟩]
        have := hf v g1 hc
        omega
      obtain ⟨⟨x', m'⟩, d1, _, _, d4, _⟩ := bettercut_eq (n := n) (es := es) (ss := x) ⟨by omega, by omega⟩ (by omega) c3
      obtain ⟨k', e1, e2, e3⟩ := d4 ⟨h.1, hxl⟩
      simp only at e1 e2 e3
      obtain ⟨rfl, rfl⟩ := (show Runs n es 0 x x from rfl).uniq e2 hf e3
      subst e1
      rw [hloop]
      simp only [Option.bind_some, Sum.elim_inl, d1, impl_CutWeight_eq]
      have w1 : cutW n es ss = cutF es ss es.length := by unfold cutW; rw [if_pos ⟨gok_true h.1, h.2⟩]
      have w2 : cutW n es x = cutF es x es.length := by unfold cutW; rw [if_pos ⟨gok_true h.1, hxl⟩]
      have b1 := cutF_bound (ss := ss) h.1 es.length (Nat.le_refl _)
      have b2 := cutF_bound (ss := x) h.1 es.length (Nat.le_refl _)
      have hz : (((0 : Nat) : Int) == 0) = true := rfl
      rw [hz, if_pos rfl]
      simp only [Option.bind_some]
      rw [if_pos trivial]
      simp only [Option.bind_some, w1, w2]
      rw [chk_pos (by omega), Bool.true_and, decide_eq_true (by omega)]
    · obtain ⟨rfl, rfl⟩ := Prod.mk.inj (c5 h)
      rw [if_pos]
      · simp [alive_eq]
      · rw [Bool.or_eq_true, Bool.not_eq_true', bne_iff_ne]
        by_cases hg : GOk n es
        · exact .inr fun hh => h ⟨hg, hh⟩
        · exact .inl (gok_false hg)
end Go.Proofs.Ytngpllgpfndkkaa
