import Derived.Test.YteoedigfnfjopaaGreatNu
set_option linter.unusedSimpArgs false
set_option linter.unusedVariables false
namespace Go.Proofs.YteoedigfnfjopaaGreat
open Go Go.Av
attribute [local go_sem] gives_chk gives_ite gives_some gives_bind gives_join Sum.elim_inl Sum.elim_inr decide_eq_true_eq decide_eq_false_iff_not Bool.not_eq_true' Bool.not_eq_false' Bool.or_eq_true Bool.and_eq_true Bool.not_eq_eq_eq_not beq_iff_eq bne_iff_ne ne_eq Bool.or_eq_false_iff Bool.and_eq_false_iff Bool.not_eq_true Bool.not_eq_false Bool.not_true Bool.not_false Int.toNat_natCast beq_eq_false_iff_ne bne_eq_false_iff_eq Decidable.not_not Bool.default_bool
theorem col_loop {β X : Type} (N c : Nat) (P : β → Prop) {body : Int × List β → Option ((Int × List β) ⊕ X)} {Q : X → Prop}
 (h : ∀ (k : Nat) (l : List β), k ≤ N → l.length ≤ c * k → (∀ x ∈ l, P x) → gives (body ((k : Int), l)) fun r => match r with
   | .inl t => k < N ∧ t.1 = (k : Int) + 1 ∧ t.2.length ≤ l.length + c ∧ ∀ x ∈ t.2, P x
   | .inr x => Q x) : gives (loop body (0, [])) Q := by
 refine gives_loop (fun s : Nat × List β => ((s.1 : Int), s.2)) (fun s => s.1 ≤ N ∧ s.2.length ≤ c * s.1 ∧ ∀ x ∈ s.2, P x) (fun s => N - s.1) ?_ (0, []) ⟨Nat.zero_le _, by simp, by simp⟩
 rintro ⟨k, l⟩ ⟨h1, h2, h3⟩
 refine (h k l h1 h2 h3).mono ?_
 rintro (⟨t1, t2⟩ | x) hr
 ·obtain ⟨r1, r2, r3, r4⟩ := hr
  simp only at r2 r3 r4
  refine ⟨(k + 1, t2), ⟨r1, ?_, r4⟩, by simp only at h1 ⊢; omega, by simp only [r2, Int.natCast_add, Int.natCast_one]⟩
  simp only [Nat.mul_succ] at h2 ⊢
  omega
 ·exact hr
theorem cnt_loop {X : Type} (N : Nat) (P : Nat → Int → Prop) {body : Int × Int → Option ((Int × Int) ⊕ X)} {Q : X → Prop} (a : Int) (k0 : Nat) (ha : P k0 a) (hk0 : k0 ≤ N)
 (h : ∀ (k : Nat) (c : Int), k ≤ N → P k c → gives (body (c, (k : Int))) fun r => match r with
   | .inl t => k < N ∧ P (k + 1) t.1 ∧ t.2 = (k : Int) + 1
   | .inr x => Q x) : gives (loop body (a, (k0 : Int))) Q := by
 refine gives_loop (fun s : Nat × Int => (s.2, (s.1 : Int))) (fun s => s.1 ≤ N ∧ P s.1 s.2) (fun s => N - s.1) ?_ (k0, a) ⟨hk0, ha⟩
 rintro ⟨k, c⟩ ⟨h1, h2⟩
 refine (h k c h1 h2).mono ?_
 rintro (⟨t1, t2⟩ | x) hr
 ·obtain ⟨r1, r2, r3⟩ := hr
  simp only at r2 r3
  exact ⟨(k + 1, t1), ⟨r1, r2⟩, by simp only at h1 ⊢; omega, by simp only [r3, Int.natCast_add, Int.natCast_one]⟩
 ·exact hr
theorem getD_mem {α : Type} {l : List α} {k : Nat} (h : k < l.length) (d : α) : l.getD k d ∈ l := by
 rw [List.getD_eq_getElem?_getD, List.getElem?_eq_getElem h]; exact List.getElem_mem h
def Vl (x : Int) : Prop := 0 ≤ x ∧ x ≤ 999999
theorem ValuesFor_ok {ms : List Mg} {v : Int} (hm : ms.length ≤ 2000) (hv : ∀ m ∈ ms, Vl m.2.1) : gives (spec_ValuesFor ms v) fun r => r.length ≤ 2000 ∧ ∀ x ∈ r, Vl x := by
 unfold spec_ValuesFor
 rw [gives_bind]
 refine (col_loop (Q := fun r => r.length ≤ 2000 ∧ ∀ x ∈ r, Vl x) ms.length 1 Vl ?_).mono (fun r hr => gives_some.2 hr)
 intro k l hk hl hp
 simp only [spec_ValuesFor_b0, join, Int.toNat_natCast]
 by_cases h : k < ms.length
 ·rw [if_pos (by simp; omega), chk_pos (by omega)]
  have hr := hv _ (getD_mem h (0, 0, 0))
  split
  ·rw [chk_pos (by omega), chk_pos (by omega), chk_pos (by omega)]
   refine gives_some.2 ⟨h, rfl, by simp, fun x hx => ?_⟩
   rcases List.mem_append.1 hx with hx | hx
   ·exact hp x hx
   ·rw [List.mem_singleton] at hx; subst hx; exact hr
  ·rw [chk_pos (by omega)]
   exact gives_some.2 ⟨h, rfl, by simp, hp⟩
 ·rw [if_neg (by simp; omega)]
  exact gives_some.2 ⟨by omega, hp⟩
theorem Least_ok {a : List Int} (h0 : 0 < a.length) (ha : a.length ≤ 2000) (hv : ∀ x ∈ a, Vl x) : gives (spec_l10Least a) Vl := by
 unfold spec_l10Least
 rw [gives_chk, gives_bind]
 refine ⟨by omega, ?_⟩
 refine (cnt_loop (Q := Vl) a.length (fun _ => Vl) (a.getD 0 0) 1 (hv _ (getD_mem h0 _)) h0 ?_).mono (fun r hr => gives_some.2 hr)
 intro k c hk hc
 simp only [spec_l10Least_b0, Int.toNat_natCast]
 by_cases h : k < a.length
 ·rw [if_pos (by simpa using h), chk_pos (by omega), chk_pos (by omega)]
  have := hv _ (getD_mem h 0)
  refine gives_some.2 ⟨h, ?_, rfl⟩
  unfold Vl at *
  simp only
  omega
 ·rw [if_neg (by simpa using h)]; exact gives_some.2 hc
theorem NextOf_ok {n v : Int} {es : List Mg} (hg : GOk n es) : gives (spec_NextOf n es v) fun r => r.length ≤ 40 := by
 have h0 := hg.1
 have h16 := hg.2.1
 have h40 := hg.2.2.1
 unfold spec_NextOf
 rw [gives_bind]
 refine (col_loop (Q := fun r => r.length ≤ 40) es.length 1 (fun _ : Int => True) ?_).mono (fun r hr => gives_some.2 hr)
 intro k l hk hl hp
 simp only [spec_NextOf_b0, join, Int.toNat_natCast]
 rw [spec_GraphValid_eq ⟨by omega, by omega⟩ (by omega), gok_true hg]
 by_cases h : k < es.length
 ·rw [if_pos (by simpa using h), Option.bind_some, if_pos (by simp [h]), chk_pos (by omega)]
  split
  ·rw [chk_pos (by omega), chk_pos (by omega), chk_pos (by omega)]
   exact gives_some.2 ⟨h, rfl, by simp, fun _ _ => trivial⟩
  ·rw [chk_pos (by omega)]
   exact gives_some.2 ⟨h, rfl, by simp, fun _ _ => trivial⟩
 ·rw [if_neg (by simpa using h), Option.bind_some, if_neg (by simp)]
  refine gives_some.2 ?_
  simp only; omega
theorem Near_ok {n v : Int} {es : List Mg} (hg : GOk n es) : gives (spec_NearOf n es v) fun r => r.length ≤ 16 := by
 rw [spec_NearOf_eq hg]
 refine gives_some.2 ?_
 have := nearL_len n es v n.toNat
 have := hg.1
 have := hg.2.1
 omega
theorem Send_ok {a : List Int} {x y : Int} (ha : a.length ≤ 1000) : gives (spec_l10Send a x y) fun r => r.length ≤ a.length := by
 unfold spec_l10Send
 rw [gives_bind]
 refine (col_loop (Q := fun r => r.length ≤ a.length) a.length 1 (fun _ : Mg => True) ?_).mono (fun r hr => gives_some.2 hr)
 intro k l hk hl hp
 simp only [spec_l10Send_b0, Int.toNat_natCast]
 by_cases h : k < a.length
 ·rw [if_pos (by simpa using h), chk_pos (by omega), chk_pos (by omega), chk_pos (by omega)]
  exact gives_some.2 ⟨h, rfl, by simp, fun _ _ => trivial⟩
 ·rw [if_neg (by simpa using h)]
  refine gives_some.2 ?_
  simp only; omega
theorem Most_ok {a : List Int} (ha : a.length ≤ 2000) : gives (spec_MostFrequent a) fun _ => True := by
 unfold spec_MostFrequent
 rw [gives_bind]
 refine (gives_loop (Q := fun _ => True) (fun s : Nat × Int × Int => (s.2.1, s.2.2, (s.1 : Int))) (fun s => s.1 ≤ a.length) (fun s => a.length - s.1) ?_ (0, 0, 0) (Nat.zero_le _)).mono (fun r hr => gives_some.2 trivial)
 rintro ⟨k, u, w⟩ hk
 simp only at hk
 simp only [spec_MostFrequent_b1, join, Int.toNat_natCast]
 by_cases h : k < a.length
 ·rw [if_pos (by simpa using h), gives_bind]
  refine (cnt_loop (Q := fun _ => True) a.length (fun k c => 0 ≤ c ∧ c ≤ k) 0 0 (by omega) (Nat.zero_le _) ?_ : gives (loop (spec_MostFrequent_b0 a (k : Int)) (0, ((0 : Nat) : Int))) fun _ => True).mono ?_
  ·intro j c hj hc
   simp only [spec_MostFrequent_b0, join, Int.toNat_natCast]
   by_cases h2 : j < a.length
   ·rw [if_pos (by simpa using h2), chk_pos (by omega), chk_pos (by omega)]
    split
    ·rw [chk_pos (by omega), chk_pos (by omega)]
     exact gives_some.2 ⟨h2, by simp only; omega, rfl⟩
    ·rw [chk_pos (by omega)]
     exact gives_some.2 ⟨h2, by simp only; omega, rfl⟩
   ·rw [if_neg (by simpa using h2)]; exact gives_some.2 trivial
  ·intro t _
   rw [chk_pos (by intros; omega)]
   split
   ·rw [chk_pos (by omega), chk_pos (by omega)]
    exact gives_some.2 ⟨(k + 1, a.getD k 0, t), by simp only; omega, by simp only; omega, rfl⟩
   ·rw [chk_pos (by omega)]
    exact gives_some.2 ⟨(k + 1, u, w), by simp only; omega, by simp only; omega, rfl⟩
 ·rw [if_neg (by simpa using h)]; exact gives_some.2 trivial
theorem Many_ok {a : List Int} (ha : a.length ≤ 2000) : gives (spec_ManyAtLeast a) fun _ => True := by
 unfold spec_ManyAtLeast
 rw [gives_bind]
 refine (gives_loop (Q := fun _ => True) (fun k : Nat => (k : Int)) (fun k => k ≤ a.length) (fun k => a.length - k) ?_ 0 (Nat.zero_le _) : gives (loop (spec_ManyAtLeast_b1 a) ((0 : Nat) : Int)) fun _ => True).mono (fun r hr => by cases r <;> exact gives_some.2 trivial)
 intro k hk
 simp only [spec_ManyAtLeast_b1]
 by_cases h : k < a.length
 ·rw [if_pos (by simpa using h), gives_bind]
  refine (cnt_loop (Q := fun _ => True) a.length (fun k c => 0 ≤ c ∧ c ≤ k) 0 0 (by omega) (Nat.zero_le _) ?_ : gives (loop (spec_ManyAtLeast_b0 a (k : Int)) (0, ((0 : Nat) : Int))) fun _ => True).mono ?_
  ·intro j c hj hc
   simp only [spec_ManyAtLeast_b0, join, Int.toNat_natCast]
   by_cases h2 : j < a.length
   ·rw [if_pos (by simpa using h2), chk_pos (by omega), chk_pos (by omega)]
    split
    ·rw [chk_pos (by omega), chk_pos (by omega)]
     exact gives_some.2 ⟨h2, by simp only; omega, rfl⟩
    ·rw [chk_pos (by omega)]
     exact gives_some.2 ⟨h2, by simp only; omega, rfl⟩
   ·rw [if_neg (by simpa using h2)]; exact gives_some.2 trivial
  ·intro t _
   rw [chk_pos (by omega)]
   split
   ·exact gives_some.2 trivial
   ·rw [chk_pos (by omega)]
    exact gives_some.2 ⟨k + 1, by omega, by omega, rfl⟩
 ·rw [if_neg (by simpa using h)]; exact gives_some.2 trivial
theorem Greater_ok {n v : Int} {es : List Mg} (hg : GOk n es) : gives (spec_l10Greater n es v) fun r => r.length ≤ 16 := by
 unfold spec_l10Greater
 rw [gives_bind]
 refine (Near_ok hg).mono fun y hy => ?_
 rw [gives_bind]
 refine (col_loop (Q := fun r => r.length ≤ 16) y.length 1 (fun _ : Int => True) ?_).mono (fun r hr => gives_some.2 hr)
 intro k l hk hl hp
 simp only [spec_l10Greater_b0, join, Int.toNat_natCast]
 by_cases h : k < y.length
 ·rw [if_pos (by simpa using h), chk_pos (by omega)]
  split
  ·rw [chk_pos (by omega), chk_pos (by omega), chk_pos (by omega)]
   exact gives_some.2 ⟨h, rfl, by simp, fun _ _ => trivial⟩
  ·rw [chk_pos (by omega)]
   exact gives_some.2 ⟨h, rfl, by simp, fun _ _ => trivial⟩
 ·rw [if_neg (by simpa using h)]
  refine gives_some.2 ?_
  simp only; omega
theorem Has_ok {a : List Int} {v : Int} (ha : a.length ≤ 2000) : gives (spec_l7Has a v) fun _ => True := by
 unfold spec_l7Has
 rw [gives_bind]
 refine (gives_loop (Q := fun _ => True) (fun k : Nat => (k : Int)) (fun k => k ≤ a.length) (fun k => a.length - k) ?_ 0 (Nat.zero_le _) : gives (loop (spec_l7Has_b0 a v) ((0 : Nat) : Int)) fun _ => True).mono (fun r hr => by cases r <;> exact gives_some.2 trivial)
 intro k hk
 simp only [spec_l7Has_b0, Int.toNat_natCast]
 by_cases h : k < a.length
 ·rw [if_pos (by simpa using h), chk_pos (by omega)]
  split
  ·exact gives_some.2 trivial
  ·rw [chk_pos (by omega)]
   exact gives_some.2 ⟨k + 1, by omega, by omega, rfl⟩
 ·rw [if_neg (by simpa using h)]; exact gives_some.2 trivial
theorem join_gives {V A : Type} {f : (V → Option A) → Option A} {k : V → Option A} {Q : A → Prop} (P : V → Prop) (hf : ∀ k' : V → Option A, (∀ v, P v → gives (k' v) Q) → gives (f k') Q) (hk : ∀ v, P v → gives (k v) Q) : gives (join f k) Q := hf k hk
theorem Weight_b {n a b : Int} {es : List Mg} (hg : GOk n es) : gives (spec_WeightOf n es a b) fun w => -1 ≤ w ∧ w ≤ 20 := by
 have h0 := hg.1
 have h16 := hg.2.1
 have h40 := hg.2.2.1
 unfold spec_WeightOf
 rw [gives_bind]
 refine (gives_loop (Q := fun r : Unit ⊕ Int => ∀ w, r = .inr w → -1 ≤ w ∧ w ≤ 20) (fun k : Nat => (k : Int)) (fun k => k ≤ es.length) (fun k => es.length - k) ?_ 0 (Nat.zero_le _) : gives (loop (spec_WeightOf_b0 n es a b) ((0 : Nat) : Int)) fun r => ∀ w, r = .inr w → -1 ≤ w ∧ w ≤ 20).mono ?_
 ·intro k hk
  simp only [spec_WeightOf_b0, Int.toNat_natCast]
  rw [spec_GraphValid_eq ⟨by omega, by omega⟩ (by omega), gok_true hg]
  by_cases h : k < es.length
  ·rw [if_pos (by simpa using h), Option.bind_some, if_pos (by simp [h]), chk_pos (by omega), chk_pos (by intro _; omega)]
   split
   ·rw [chk_pos (by omega)]
    have h1 := hg.2.2.2 k h
    unfold EOk at h1
    refine gives_some.2 (fun w hw => ?_)
    obtain rfl := Sum.inr.inj hw
    omega
   ·rw [chk_pos (by omega)]
    exact gives_some.2 ⟨k + 1, by omega, by omega, rfl⟩
  ·rw [if_neg (by simpa using h), Option.bind_some, if_neg (by simp)]
   exact gives_some.2 (fun w hw => by cases hw)
 ·rintro (u | w) h
  ·exact gives_some.2 (by omega)
  ·exact gives_some.2 (h w rfl)
theorem l10Step_ok {n k1 k2 k3 rnd v val : Int} {es : List Mg} {a : List Int} (hg : GOk n es) (hval : -1 ≤ val ∧ val ≤ 999999) (ha : a.length ≤ 2000) (hv : ∀ x ∈ a, Vl x) :
 gives (spec_l10Step n es k1 k2 k3 rnd v val a) fun r => r.2.1.length ≤ 32000 := by
 unfold spec_l10Step
 have hns : ∀ {X : Type} {f : List Mg → Option X} {Q : X → Prop} (x y : Int), (∀ r : List Mg, r.length ≤ 16 → gives (f r) Q) → gives ((spec_NearOf n es v).bind fun y_3 => (spec_l10Send y_3 x y).bind f) Q := fun x y hf => by
  rw [gives_bind]
  refine (Near_ok hg).mono fun y3 h3 => ?_
  rw [gives_bind]
  exact (Send_ok (by omega)).mono fun y4 h4 => hf _ (by omega)
 refine join_gives (fun _ => True) (fun k' hk' => ?_) (fun t28 _ => ?_)
 ·split <;> exact hk' _ trivial
 split
 ·refine join_gives (fun x : Int => -1 ≤ x ∧ x ≤ 999999) (fun k' hk' => ?_) (fun t4 h4 => ?_)
  ·split
   ·exact hk' _ (by omega)
   ·exact hk' _ hval
  refine join_gives (fun x : Int => -1 ≤ x ∧ x ≤ 999999) (fun k' hk' => ?_) (fun t5 h5 => ?_)
  ·split
   ·exact hk' _ (by omega)
   ·exact hk' _ h4
  refine join_gives (fun x : Int × Bool => -1 ≤ x.1 ∧ x.1 ≤ 999999) (fun k' hk' => ?_) ?_
  ·split
   ·rename_i hc
    rw [gives_bind]
    refine (Least_ok (by simp at hc; omega) ha hv).mono fun y hy => ?_
    split
    ·exact hk' _ (by unfold Vl at hy; simp only; omega)
    ·exact hk' _ h5
   ·exact hk' _ h5
  ·rintro ⟨w, b⟩ hw
   simp only at hw ⊢
   rw [gives_bind]
   refine (NextOf_ok hg).mono fun y hy => ?_
   rw [gives_bind]
   refine (col_loop (Q := fun r : List Mg => r.length ≤ 40) y.length 1 (fun _ : Mg => True) ?_).mono (fun r hr => gives_some.2 (by simp only; omega))
   intro k l hk hl hp
   simp only [spec_l10Step_b0]
   by_cases h : k < y.length ∧ b = true
   ·rw [if_pos (by simp [h])]
    refine join_gives (fun x : Int => -1 ≤ x ∧ x ≤ 20) (fun k' hk' => ?_) (fun t hw' => ?_)
    ·split
     ·rw [chk_pos (by omega), gives_bind]
      exact (Weight_b hg).mono fun w' hw' => hk' _ hw'
     ·exact hk' _ (by omega)
    ·rw [chk_pos (by omega), chk_pos (by omega), chk_pos (by omega), chk_pos (by omega)]
     exact gives_some.2 ⟨h.1, rfl, by simp, fun _ _ => trivial⟩
   ·rw [if_neg (by simp only [Bool.and_eq_true, decide_eq_true_eq]; exact fun h' => h ⟨by omega, h'.2⟩)]
    refine gives_some.2 ?_
    simp only; omega
 split
 ·split
  ·exact hns _ _ fun r hr => gives_some.2 (by simp only; omega)
  ·refine join_gives (fun x : Int × List Mg => x.2.length ≤ 16) (fun k' hk' => ?_) ?_
   ·rw [gives_bind]
    have hl : gives (if decide (0 < (a.length : Int)) = true then spec_l10Least a else some default) fun _ => True := by
     split
     ·rename_i hc
      exact (Least_ok (by simp at hc; omega) ha hv).mono fun _ _ => trivial
     ·exact gives_some.2 trivial
    refine hl.mono fun y _ => ?_
    split
    ·rename_i hc
     rw [gives_bind]
     refine (Least_ok (by simp at hc; omega) ha hv).mono fun y _ => ?_
     exact hns _ _ fun r hr => hk' _ hr
    ·exact hk' _ (by simp)
   ·rintro ⟨w, l⟩ hl
    exact gives_some.2 (by simp only at hl ⊢; omega)
 split
 ·refine join_gives (fun _ => True) (fun k' hk' => ?_) (fun t _ => ?_)
  ·split
   ·exact hk' _ trivial
   ·split
    ·rw [gives_bind]
     exact (Most_ok ha).mono fun _ _ => hk' _ trivial
    ·exact hk' _ trivial
  refine join_gives (fun x : List Mg => x.length ≤ 16) (fun k' hk' => ?_) (fun l hl => ?_)
  ·split
   ·exact hns _ _ fun r hr => hk' _ hr
   ·exact hk' _ (by simp)
  ·exact gives_some.2 (by simp only; omega)
 split
 ·refine join_gives (fun _ => True) (fun k' hk' => ?_) (fun t _ => ?_)
  ·split
   ·rw [gives_bind]
    exact (Near_ok hg).mono fun _ _ => hk' _ trivial
   ·rw [gives_bind]
    exact (Many_ok ha).mono fun _ _ => hk' _ trivial
  refine join_gives (fun x : List Mg => x.length ≤ 16) (fun k' hk' => ?_) (fun l hl => ?_)
  ·split
   ·exact hns _ _ fun r hr => hk' _ hr
   ·exact hk' _ (by simp)
  ·exact gives_some.2 (by simp only; omega)
 split
 ·rw [gives_bind]
  refine (Greater_ok hg).mono fun y hy => ?_
  rw [gives_bind]
  exact (Send_ok (by omega)).mono fun y4 h4 => gives_some.2 (by simp only; omega)
 split
 ·rw [gives_bind]
  refine (col_loop (Q := fun r : List Mg => r.length ≤ 32000) a.length 16 (fun _ : Mg => True) ?_).mono (fun r hr => gives_some.2 hr)
  intro k l hk hl hp
  simp only [spec_l10Step_b1]
  by_cases h : k < a.length
  ·rw [if_pos (by simpa using h), chk_pos (by omega), gives_bind]
   refine (Greater_ok hg).mono fun y hy => ?_
   rw [gives_bind]
   refine (Send_ok (by omega)).mono fun y4 h4 => ?_
   rw [chk_pos (by omega), chk_pos (by omega)]
   exact gives_some.2 ⟨h, rfl, by simp; omega, fun _ _ => trivial⟩
  ·rw [if_neg (by simpa using h)]
   refine gives_some.2 ?_
   simp only; omega
 ·rw [gives_bind]
  refine (Near_ok hg).mono fun y hy => ?_
  rw [gives_bind]
  refine (cnt_loop (Q := fun _ => True) a.length (fun k c => 0 ≤ c ∧ c ≤ k) 0 0 (by omega) (Nat.zero_le _) ?_ : gives (loop (spec_l10Step_b2 a y) (0, ((0 : Nat) : Int))) fun _ => True).mono (fun _ _ => gives_some.2 (by simp))
  intro j c hj hc
  simp only [spec_l10Step_b2]
  by_cases h2 : j < a.length
  ·rw [if_pos (by simpa using h2)]
   refine join_gives (fun x : Int => 0 ≤ x ∧ x ≤ j + 1) (fun k' hk' => ?_) (fun t ht => ?_)
   ·rw [chk_pos (by omega), gives_bind]
    refine (Has_ok (by omega)).mono fun _ _ => ?_
    split
    ·rw [chk_pos (by omega)]; exact hk' _ (by omega)
    ·exact hk' _ (by omega)
   ·rw [chk_pos (by omega)]
    exact gives_some.2 ⟨h2, by simp only; omega, rfl⟩
  ·rw [if_neg (by simpa using h2)]; exact gives_some.2 trivial
theorem l11All_eq {n : Int} (hn : 0 ≤ n ∧ n ≤ 16) : spec_l11All n = some ((List.range n.toNat).map fun k : Nat => (k : Int)) := by
 unfold spec_l11All
 have h := loop_for (N := n.toNat) (body := spec_l11All_b0 n) (s0 := (0, [])) (fun k : Nat => ((k : Int), (List.range k).map fun k : Nat => (k : Int))) ((List.range n.toNat).map fun k : Nat => (k : Int)) (by simp) (fun k hk => by
  simp only [spec_l11All_b0]
  by_cases h : k < n.toNat
  ·rw [if_pos (by simp; omega), if_pos h, chk_pos (by simp; omega), chk_pos (by omega), List.range_succ, List.map_append]
   rfl
  ·rw [if_neg (by simp; omega), if_neg h, show k = n.toNat from by omega])
 rw [h]; rfl
theorem l11Some_ok {n k1 k2 k3 rnd : Int} {es ms : List Mg} {vs : List Int} {gs : List Bool} (hg : GOk n es) (hst : StOk rnd vs gs ms n) :
 gives (spec_l11Some n es k1 k2 k3 rnd vs gs ms ((List.range n.toNat).map fun k : Nat => (k : Int))) fun r => r.1.length = vs.length ∧ r.2.1.length = gs.length ∧ r.2.2.length ≤ 1000000 := by
 obtain ⟨a1, a2, a3, a4, a5, a6, a7, a8, a9⟩ := hst
 unfold spec_l11Some
 rw [gives_chk, gives_chk, gives_bind]
 refine ⟨by omega, by omega, ?_⟩
 refine (gives_loop (Q := fun r : List Int × List Bool × List Mg => r.1.length = vs.length ∧ r.2.1.length = gs.length ∧ r.2.2.length ≤ 1000000) (fun s : Nat × List Int × List Bool × List Mg => ((s.1 : Int), s.2))
  (fun s => s.1 ≤ n.toNat ∧ s.2.1.length = vs.length ∧ s.2.2.1.length = gs.length ∧ s.2.2.2.length ≤ 32000 * s.1) (fun s => n.toNat - s.1) ?_ (0, [] ++ vs, [] ++ gs, []) ⟨Nat.zero_le _, by simp, by simp, by simp⟩).mono (fun r hr => gives_some.2 hr)
 rintro ⟨k, v', g', m'⟩ ⟨h1, h2, h3, h4⟩
 simp only at h1 h2 h3 h4
 simp only [spec_l11Some_b0, List.length_map, List.length_range]
 by_cases h : k < n.toNat
 ·have e : ((List.range n.toNat).map fun k : Nat => (k : Int)).getD k 0 = (k : Int) := by
   rw [List.getD_eq_getElem?_getD, List.getElem?_map, List.getElem?_range h]; rfl
  rw [if_pos (by simp; omega)]
  simp only [Int.toNat_natCast, e]
  refine join_gives (fun x : List Int × List Bool × List Mg => x.1.length = vs.length ∧ x.2.1.length = gs.length ∧ x.2.2.length ≤ m'.length + 32000) (fun k' hk' => ?_) ?_
  ·rw [chk_pos (by omega), gives_bind]
   refine (ValuesFor_ok a7 (fun m hm => ?_)).mono fun y hy => ?_
   ·obtain ⟨j, hj, rfl⟩ := List.getElem_of_mem hm
    have := a9.1 j hj
    unfold MgOk at this
    rw [getE hj] at this
    unfold Vl; omega
   ·rw [chk_pos (by omega)]
    split
    ·exact hk' _ ⟨h2, h3, by simp only; omega⟩
    ·rw [chk_pos (by omega), gives_bind]
     refine (l10Step_ok hg (a8 k (by omega)) hy.1 hy.2).mono ?_
     rintro ⟨u, l, b⟩ hl
     simp only at hl ⊢
     rw [chk_pos (by omega), chk_pos (by omega), chk_pos (by omega)]
     exact hk' _ ⟨by simp [h2], by simp [h3], by simp; omega⟩
  ·rintro ⟨v2, g2, m2⟩ ⟨b1, b2, b3⟩
   simp only at b1 b2 b3 ⊢
   rw [chk_pos (by omega)]
   exact gives_some.2 ⟨(k + 1, v2, g2, m2), ⟨h, b1, b2, by simp only; omega⟩, by simp only; omega, rfl⟩
 ·rw [if_neg (by simp; omega)]
  exact gives_some.2 ⟨h2, h3, by simp only; omega⟩
theorem SortM_ok {ms : List Mg} : gives (spec_SortMessages ms) fun r => r.length ≤ 2000 := by
 by_cases h : ms.length ≤ 2000
 ·rw [spec_SortMessages_eq h]
  exact gives_some.2 (by rw [srtM_len]; exact h)
 ·unfold spec_SortMessages
  rw [loop_eq]
  simp only [spec_SortMessages_b1]
  rw [if_neg (by simp; omega)]
  exact gives_some.2 (by simp)
open Classical in
theorem sv_ok {r n : Int} {vs : List Int} {gs : List Bool} {ms : List Mg} (hv : vs.length ≤ 1000000000) (hm : ms.length ≤ 1000000000) (hn : 0 ≤ n ∧ n ≤ 16) :
 gives (spec_StateValid r vs gs ms n) fun b => b = true → StOk r vs gs ms n := by
 unfold spec_StateValid
 rw [spec_sv_b0 hv, Option.bind_some]
 by_cases h1 : ∀ k, k < vs.length → -1 ≤ vs.getD k 0 ∧ vs.getD k 0 ≤ 999999
 ·rw [if_pos h1, Sum.elim_inl, spec_sv_b1 hm (by omega), Option.bind_some]
  by_cases h2 : InOk n ms
  ·rw [if_pos h2, Sum.elim_inl]
   refine gives_some.2 fun hb => ?_
   simp only [Bool.and_eq_true, decide_eq_true_eq, beq_iff_eq] at hb
   exact ⟨by omega, by omega, by omega, by omega, by omega, by omega, by omega, h1, h2⟩
  ·rw [if_neg h2]; exact gives_some.2 (fun h => by cases h)
 ·rw [if_neg h1]; exact gives_some.2 (fun h => by cases h)
theorem pv_ok {a b c : Int} : gives (spec_ProgramValid a b c) fun _ => True := by
 unfold spec_ProgramValid
 refine join_gives (fun _ => True) (fun k' hk' => ?_) (fun t _ => ?_)
 ·split <;> exact hk' _ trivial
 split
 ·exact gives_some.2 trivial
 refine join_gives (fun _ => True) (fun k' hk' => ?_) (fun t _ => ?_)
 ·split <;> exact hk' _ trivial
 split <;> exact gives_some.2 trivial
def StL (vs : List Int) (gs : List Bool) (ms : List Mg) : Prop := vs.length ≤ 100 ∧ gs.length ≤ 100 ∧ ms.length ≤ 2100
theorem StepState_ok {n k1 k2 k3 rnd : Int} {es ms : List Mg} {vs : List Int} {gs : List Bool} (hn : -1 ≤ n ∧ n ≤ 17) (he : es.length ≤ 40) (hl : StL vs gs ms) :
 gives (spec_StepState n es k1 k2 k3 rnd vs gs ms) fun r => StL r.2.1 r.2.2.1 r.2.2.2.1 := by
 obtain ⟨l1, l2, l3⟩ := hl
 unfold spec_StepState spec_l1OwnGraph spec_l1OwnState
 rw [chk_pos (by omega), Option.bind_some, chk_pos (by omega), chk_pos (by omega), chk_pos (by omega)]
 dsimp only
 rw [Option.bind_some]
 simp only [List.nil_append]
 rw [spec_GraphValid_eq ⟨by omega, by omega⟩ (by omega), Option.bind_some]
 have z : StL [] [] [] := ⟨by simp, by simp, by simp⟩
 by_cases hg : GOk n es
 ·rw [gok_true hg, if_pos (by rfl), gives_bind]
  refine pv_ok.mono fun b _ => ?_
  rw [gives_bind]
  have hsv : gives (if (!(!true || !b)) = true then spec_StateValid rnd vs gs ms n else some default) fun c => (!(!true || !b)) = true → c = true → StOk rnd vs gs ms n := by
   split
   ·exact (sv_ok (by omega) (by omega) ⟨hg.1, hg.2.1⟩).mono fun c hc _ => hc
   ·rename_i h; exact gives_some.2 (fun h' => absurd h' h)
  refine hsv.mono fun c hc => ?_
  split
  ·exact gives_some.2 z
  ·rename_i hbc
   have hst := hc (by cases b <;> simp_all) (by cases b <;> cases c <;> simp_all)
   rw [l11All_eq ⟨hg.1, hg.2.1⟩, Option.bind_some, gives_bind]
   refine (l11Some_ok hg hst).mono ?_
   rintro ⟨v2, g2, m2⟩ ⟨b1, b2, b3⟩
   simp only at b1 b2 b3 ⊢
   have hr := hst.2.2
   rw [chk_pos (by omega), gives_bind]
   refine SortM_ok.mono fun m3 hm3 => ?_
   rw [gives_bind]
   have hsv2 : gives (if (!decide (2000 < (m2.length : Int))) = true then spec_StateValid (rnd + 1) v2 g2 m3 n else some default) fun _ => True := by
    split
    ·exact (sv_ok (by omega) (by omega) ⟨hg.1, hg.2.1⟩).mono fun _ _ => trivial
    ·exact gives_some.2 trivial
   refine hsv2.mono fun d _ => ?_
   split
   ·exact gives_some.2 z
   ·exact gives_some.2 ⟨by simp only; omega, by simp only; omega, by simp only; omega⟩
 ·rw [gok_false hg, if_neg (by simp), Option.bind_some, if_neg (by simp), Option.bind_some, if_pos (by simp)]
  exact gives_some.2 z
theorem odd_b {b : List Int} {p n : Int} (hb : Bts b) (hp : 0 ≤ p ∧ p ≤ 1000000) : gives (spec_l20Rd_odd b p n) fun r => p ≤ r.2 ∧ r.2 ≤ p + 1 := (odd_ok hb hp).mono fun r hr => by omega
theorem pick_b {b : List Int} {p n : Int} (hb : Bts b) (hp : 0 ≤ p ∧ p ≤ 1000000) (hn : 1 ≤ n) : gives (spec_l20Rd_pick b p n) fun r => r.2 = p + 1 ∧ 0 ≤ r.1 ∧ r.1 < n := (pick_ok hb hp).mono fun r hr => ⟨hr.1, hr.2.1, hr.2.2.1 hn⟩
theorem Start_ok {n : Int} (hn : 0 ≤ n ∧ n ≤ 16) : gives (spec_StartState n) fun r => StL r.2.1 r.2.2.1 r.2.2.2 := by
 unfold spec_StartState
 rw [if_neg (by simp; omega), gives_chk, gives_bind]
 refine ⟨by omega, ?_⟩
 refine (col_loop (Q := fun r : List Bool => r.length ≤ 16) n.toNat 1 (fun _ : Bool => True) ?_).mono (fun r hr => gives_some.2 ⟨by simp; omega, by simp only; omega, by simp⟩)
 intro k l hk hl hp
 simp only [spec_StartState_b0]
 by_cases h : k < n.toNat
 ·rw [if_pos (by simp; omega), chk_pos (by omega), chk_pos (by omega)]
  exact gives_some.2 ⟨h, rfl, by simp, fun _ _ => trivial⟩
 ·rw [if_neg (by simp; omega)]
  refine gives_some.2 ?_
  simp only; omega
theorem Program_ok {b : List Int} {p n m : Int} (hb : Bts b) (hp : 0 ≤ p ∧ p ≤ 800000) : gives (spec_l20Program b p n m) fun r => p ≤ r.2.2.2 ∧ r.2.2.2 ≤ p + 20 := by
 unfold spec_l20Program
 rw [gives_bind]
 refine (pick_b hb ⟨by omega, by omega⟩ (by omega)).mono ?_
 rintro ⟨y, p1⟩ ⟨e1, h1, h1'⟩
 simp only at e1 h1 h1' ⊢
 rw [chk_pos (by omega)]
 refine join_gives (fun x : Int × Int × Int => p ≤ x.1 ∧ x.1 ≤ p + 5) (fun k hk => ?_) ?_
 ·refine join_gives (fun _ => True) (fun k' hk' => ?_) (fun t _ => ?_)
  ·split <;> exact hk' _ trivial
  split
  ·rw [gives_bind]
   refine (pick_ok hb ⟨by omega, by omega⟩).mono ?_
   rintro ⟨y2, p2⟩ ⟨e2, h2⟩
   simp only at e2
   exact hk _ (by simp only; omega)
  refine join_gives (fun _ => True) (fun k' hk' => ?_) (fun t _ => ?_)
  ·split <;> exact hk' _ trivial
  split
  ·rw [gives_bind]
   refine (pick_b hb ⟨by omega, by omega⟩ (by omega)).mono ?_
   rintro ⟨y2, p2⟩ ⟨e2, h2, h2'⟩
   simp only at e2 h2 h2' ⊢
   rw [chk_pos (by omega), gives_bind]
   refine (pick_b hb ⟨by omega, by omega⟩ (by omega)).mono ?_
   rintro ⟨y3, p3⟩ ⟨e3, h3, h3'⟩
   simp only at e3 h3 h3' ⊢
   rw [chk_pos (by omega)]
   exact hk _ (by simp only; omega)
  ·exact hk _ (by simp only; omega)
 ·rintro ⟨q, u, w⟩ hq
  simp only at hq ⊢
  refine join_gives (fun x : Int × Int × Int × Int => p ≤ x.1 ∧ x.1 ≤ p + 20) (fun k hk => ?_) ?_
  ·rw [gives_bind]
   refine (odd_b hb ⟨by omega, by omega⟩).mono ?_
   rintro ⟨o, p4⟩ e4
   simp only at e4 ⊢
   split
   ·rw [gives_bind]
    refine (pick_b hb ⟨by omega, by omega⟩ (by omega)).mono ?_
    rintro ⟨y5, p5⟩ ⟨e5, h5, h5'⟩
    simp only at e5 h5 h5' ⊢
    split
    ·rw [gives_bind]
     refine (pick_b hb ⟨by omega, by omega⟩ (by omega)).mono ?_
     rintro ⟨y6, p6⟩ ⟨e6, h6, h6'⟩
     simp only at e6 h6 h6' ⊢
     rw [chk_pos (by omega)]
     exact hk _ (by simp only; omega)
    split
    ·rw [gives_bind]
     refine (pick_b hb ⟨by omega, by omega⟩ (by omega)).mono ?_
     rintro ⟨y6, p6⟩ ⟨e6, h6, h6'⟩
     simp only at e6 h6 h6' ⊢
     rw [chk_pos (by omega)]
     exact hk _ (by simp only; omega)
    ·rw [gives_bind]
     refine (pick_b hb ⟨by omega, by omega⟩ (by omega)).mono ?_
     rintro ⟨y6, p6⟩ ⟨e6, h6, h6'⟩
     simp only at e6 h6 h6' ⊢
     rw [chk_pos (by omega)]
     exact hk _ (by simp only; omega)
   ·exact hk _ (by simp only; omega)
  ·rintro ⟨q2, x, y, z⟩ hq2
   exact gives_some.2 (by simp only at hq2 ⊢; omega)
theorem Dense_b {b : List Int} {p : Int} (hb : Bts b) (hp : 0 ≤ p ∧ p ≤ 800000) : gives (spec_l20Dense b p) fun r => (0 ≤ r.1 ∧ r.1 ≤ 16) ∧ r.2.1.length ≤ 40 ∧ 0 ≤ r.2.2 ∧ r.2.2 ≤ p + 300 := by
 unfold spec_l20Dense
 rw [gives_bind]
 refine (pick_ok hb ⟨by omega, by omega⟩).mono ?_
 rintro ⟨y0, p0⟩ ⟨e0, h0⟩
 simp only at e0 h0 ⊢
 rw [gives_chk, gives_bind]
 refine ⟨by omega, (pick_ok hb ⟨by omega, by omega⟩).mono ?_⟩
 rintro ⟨y1, p1⟩ ⟨e1, h1⟩
 simp only at e1 h1 ⊢
 rw [gives_chk, gives_bind]
 refine ⟨by omega, ?_⟩
 refine (loop_to (Q := fun x : Int × Int × List (Int × Int × Int) => (0 ≤ x.1 ∧ x.1 ≤ p + 200) ∧ (0 ≤ x.2.1 ∧ x.2.1 ≤ 16) ∧ x.2.2.length ≤ 40) (fun s : Nat × Int × Int × List (Int × Int × Int) => ((s.1 : Int), s.2.1, s.2.2.1, s.2.2.2))
  (fun s => s.1 ≤ 21 ∧ (0 ≤ s.2.1 ∧ s.2.1 ≤ p + 200 - 4 * s.1) ∧ (0 ≤ s.2.2.1 ∧ s.2.2.1 ≤ 16) ∧ s.2.2.2.length ≤ 22 - s.1) (fun s => s.1) ((6 + y1).toNat, p1, 3 + y0, []) (by simp only; rw [show (((6 + y1).toNat : Nat) : Int) = 6 + y1 from by omega]) ⟨by simp only; omega, by simp only; omega, by simp only; omega, by simp⟩ ?_).mono ?_
 ·rintro ⟨k, q, m, es⟩ ⟨hk, hq, hm, hl⟩
  simp only at hk hq hm hl
  simp only [spec_l20Dense_b0, go_sem]
  refine ⟨fun hc => ?_, fun hc => ⟨by omega, hm, by omega⟩⟩
  refine (Edge_ok hb ⟨by omega, by omega⟩).mono ?_
  rintro ⟨a, c, w, q'⟩ hq'
  simp only at hq' ⊢
  refine (AddEdge_ok ⟨by omega, by omega⟩ (by omega)).mono ?_
  rintro ⟨m', es', ok⟩ ⟨hm', hl'⟩
  simp only at hm' hl'
  simp only [go_sem]
  exact ⟨by omega, (k - 1, q', m', es'), ⟨by simp only; omega, by simp only; omega, by simp only; omega, by simp only; omega⟩, by simp only; omega, by simp only; rw [show ((k - 1 : Nat) : Int) = (k : Int) - 1 from by omega]⟩
 ·rintro ⟨q, m, es⟩ ⟨hq, hm, hl⟩
  simp only at hq hm hl
  simp only [join]
  rw [gives_bind]
  refine (odd_b hb ⟨by omega, by omega⟩).mono ?_
  rintro ⟨o, q1⟩ ho
  simp only at ho ⊢
  rw [gives_ite]
  exact ⟨fun _ => gives_some.2 ⟨by simp only; omega, by simp only; omega⟩, fun _ => gives_some.2 ⟨by simp only; omega, by simp only; omega⟩⟩
theorem Task_ok {b : List Int} {p m : Int} (hb : Bts b) (hp : 0 ≤ p ∧ p ≤ 100000) : gives (spec_l20Task b p m) fun r => (-1 ≤ r.1 ∧ r.1 ≤ 17) ∧ r.2.1.length ≤ 40 ∧ 0 ≤ r.2.2.2.2.2 ∧ r.2.2.2.2.2 ≤ p + 1000 := by
 unfold spec_l20Task
 rw [gives_bind]
 refine (Graph_ok hb ⟨by omega, by omega⟩).mono ?_
 rintro ⟨n, es, q⟩ ⟨g1, g2, g3, g4⟩
 simp only at g1 g2 g3 g4 ⊢
 refine join_gives (fun x : Int × Int × List Mg => (0 ≤ x.1 ∧ x.1 ≤ p + 600) ∧ (-1 ≤ x.2.1 ∧ x.2.1 ≤ 17) ∧ x.2.2.length ≤ 40) (fun k hk => ?_) ?_
 ·rw [gives_bind]
  refine (pick_b hb ⟨by omega, by omega⟩ (by omega)).mono ?_
  rintro ⟨y, p1⟩ ⟨e1, h1, h1'⟩
  simp only at e1 h1 h1' ⊢
  split
  ·rw [gives_bind]
   refine (Dense_b hb ⟨by omega, by omega⟩).mono ?_
   rintro ⟨n', es', q'⟩ ⟨d1, d2, d3, d4⟩
   simp only at d1 d2 d3 d4 ⊢
   exact hk _ ⟨by simp only; omega, by simp only; omega, d2⟩
  ·exact hk _ ⟨by simp only; omega, g1, by simp only; omega⟩
 ·rintro ⟨q1, n1, e1⟩ ⟨h1, h2, h3⟩
  simp only at h1 h2 h3 ⊢
  rw [gives_bind]
  refine (Program_ok hb ⟨by omega, by omega⟩).mono ?_
  rintro ⟨x, y, z, w⟩ hw
  exact gives_some.2 ⟨h2, h3, by simp only at hw ⊢; omega⟩
theorem Messages_ok {b : List Int} {p : Int} {m : Nat} (hb : Bts b) (hp : 0 ≤ p ∧ p ≤ 100000) : gives (spec_l20Messages b p (m : Int)) fun r => r.1.length ≤ 9 ∧ 0 ≤ r.2 ∧ r.2 ≤ p + 40 := by
 unfold spec_l20Messages
 rw [gives_bind]
 refine (pick_b hb ⟨by omega, by omega⟩ (by omega)).mono ?_
 rintro ⟨y, p1⟩ ⟨e1, h1, h1'⟩
 simp only at e1 h1 h1' ⊢
 rw [gives_bind]
 refine (loop_to (Q := fun x : Int × List Mg => (0 ≤ x.1 ∧ x.1 ≤ p + 40) ∧ x.2.length ≤ 9) (fun s : Nat × Int × List Mg => ((s.1 : Int), s.2.1, s.2.2))
  (fun s => s.1 ≤ 9 ∧ (0 ≤ s.2.1 ∧ s.2.1 ≤ p + 40 - 3 * s.1) ∧ s.2.2.length ≤ 9 - s.1) (fun s => s.1) (y.toNat, p1, []) (by simp only; rw [show ((y.toNat : Nat) : Int) = y from by omega]) ⟨by simp only; omega, by simp only; omega, by simp⟩ ?_).mono ?_
 ·rintro ⟨k, q, l⟩ ⟨hk, hq, hl⟩
  simp only at hk hq hl
  simp only [spec_l20Messages_b0]
  by_cases h : 0 < k ∧ 0 < m
  ·rw [if_pos (by simp; omega), gives_bind]
   refine (pick_ok hb ⟨by omega, by omega⟩).mono ?_
   rintro ⟨a2, p2⟩ ⟨e2, h2⟩
   simp only at e2 h2 ⊢
   rw [gives_bind]
   refine (pick_ok hb ⟨by omega, by omega⟩).mono ?_
   rintro ⟨a3, p3⟩ ⟨e3, h3⟩
   simp only at e3 h3 ⊢
   rw [gives_bind]
   refine (pick_ok hb ⟨by omega, by omega⟩).mono ?_
   rintro ⟨a4, p4⟩ ⟨e4, h4⟩
   simp only at e4 h4 ⊢
   rw [chk_pos (by omega), chk_pos (by omega)]
   exact gives_some.2 ⟨(k - 1, p4, l ++ [(a2, a3, a4)]), ⟨by simp only; omega, by simp only; omega, by simp; omega⟩, by simp only; omega, by simp only; rw [show ((k - 1 : Nat) : Int) = (k : Int) - 1 from by omega]⟩
  ·rw [if_neg (by simp only [Bool.and_eq_true, decide_eq_true_eq]; omega)]
   exact gives_some.2 ⟨by simp only; omega, by simp only; omega⟩
 ·rintro ⟨q, l⟩ ⟨h1, h2⟩
  exact gives_some.2 ⟨h2, by simp only at h1 ⊢; omega⟩
theorem State_ok {b : List Int} {p n k1 k2 k3 m : Int} {es : List Mg} (hb : Bts b) (hp : 0 ≤ p ∧ p ≤ 50000) (hn : -1 ≤ n ∧ n ≤ 17) (he : es.length ≤ 40) :
 gives (spec_l20State b p n es k1 k2 k3 m) fun r => r.2.1.length ≤ 101 ∧ r.2.2.1.length ≤ 101 ∧ r.2.2.2.1.length ≤ 2200 := by
 unfold spec_l20State
 rw [gives_bind]
 refine (Start_ok (by omega)).mono ?_
 rintro ⟨r0, v0, g0, m0⟩ hs
 simp only at hs ⊢
 rw [gives_bind]
 refine (pick_b hb ⟨by omega, by omega⟩ (by omega)).mono ?_
 rintro ⟨y, p1⟩ ⟨e1, h1, h1'⟩
 simp only at e1 h1 h1' ⊢
 rw [gives_bind]
 refine (loop_to (Q := fun x : Int × List Int × List Bool × List Mg => StL x.2.1 x.2.2.1 x.2.2.2) (fun s : Nat × Int × List Int × List Bool × List Mg => ((s.1 : Int), s.2))
  (fun s => s.1 ≤ 4 ∧ StL s.2.2.1 s.2.2.2.1 s.2.2.2.2) (fun s => s.1) (y.toNat, r0, v0, g0, m0) (by simp only; rw [show ((y.toNat : Nat) : Int) = y from by omega]) ⟨by simp only; omega, hs⟩ ?_).mono ?_
 ·rintro ⟨k, r, v, g, l⟩ ⟨hk, hl⟩
  simp only at hk hl
  simp only [spec_l20State_b0]
  by_cases h : 0 < k
  ·rw [if_pos (by simp; omega)]
   refine join_gives (fun x : Int × List Int × List Bool × List Mg => StL x.2.1 x.2.2.1 x.2.2.2) (fun k' hk' => ?_) ?_
   ·rw [gives_bind]
    refine (StepState_ok hn he hl).mono ?_
    rintro ⟨r2, v2, g2, l2, ok⟩ h2
    simp only at h2 ⊢
    split
    ·exact hk' _ h2
    ·exact hk' _ hl
   ·rintro ⟨r2, v2, g2, l2⟩ h2
    simp only at h2 ⊢
    rw [chk_pos (by omega)]
    exact gives_some.2 ⟨(k - 1, r2, v2, g2, l2), ⟨by simp only; omega, h2⟩, by simp only; omega, by simp only; rw [show ((k - 1 : Nat) : Int) = (k : Int) - 1 from by omega]⟩
  ·rw [if_neg (by simp; omega)]
   exact gives_some.2 hl
 ·rintro ⟨r, v, g, l⟩ ⟨l1, l2, l3⟩
  simp only at l1 l2 l3 ⊢
  refine join_gives (fun x : Int × List Mg => (0 ≤ x.1 ∧ x.1 ≤ p + 100) ∧ x.2.length ≤ 2150) (fun k' hk' => ?_) ?_
  ·rw [gives_bind]
   refine (pick_b hb ⟨by omega, by omega⟩ (by omega)).mono ?_
   rintro ⟨y2, p2⟩ ⟨e2, h2, h2'⟩
   simp only at e2 h2 h2' ⊢
   split
   ·rw [chk_pos (by omega), gives_bind]
    refine (Messages_ok hb ⟨by omega, by omega⟩).mono ?_
    rintro ⟨l4, p3⟩ ⟨q1, q2, q3⟩
    simp only at q1 q2 q3 ⊢
    rw [chk_pos (by simp; omega), gives_bind]
    exact SortM_ok.mono fun l5 h5 => hk' _ ⟨by simp only; omega, by simp only; omega⟩
   ·exact hk' _ ⟨by simp only; omega, by simp only; omega⟩
  ·rintro ⟨q, l6⟩ ⟨h3, h4⟩
   simp only at h3 h4 ⊢
   refine join_gives (fun x : Int × Int × List Int × List Bool × List Mg => x.2.2.1.length ≤ 101 ∧ x.2.2.2.1.length ≤ 101 ∧ x.2.2.2.2.length ≤ 2200) (fun k' hk' => ?_) ?_
   ·rw [gives_bind]
    refine (odd_b hb ⟨by omega, by omega⟩).mono ?_
    rintro ⟨o, p4⟩ e4
    simp only at e4 ⊢
    split
    ·rw [gives_bind]
     refine (pick_b hb ⟨by omega, by omega⟩ (by omega)).mono ?_
     rintro ⟨y5, p5⟩ ⟨e5, h5, h5'⟩
     simp only at e5 h5 h5' ⊢
     split
     ·rw [gives_bind]
      refine (pick_b hb ⟨by omega, by omega⟩ (by omega)).mono ?_
      rintro ⟨y6, p6⟩ ⟨e6, h6, h6'⟩
      simp only at e6 h6 h6' ⊢
      rw [chk_pos (by omega)]
      exact hk' _ ⟨by simp only; omega, by simp only; omega, by simp only; omega⟩
     split
     ·rw [chk_pos (by omega)]
      exact hk' _ ⟨by simp only; omega, by simp; omega, by simp only; omega⟩
     split
     ·rw [chk_pos (by omega)]
      exact hk' _ ⟨by simp only; omega, by simp only; omega, by simp; omega⟩
     ·rw [chk_pos (by omega)]
      exact hk' _ ⟨by simp; omega, by simp only; omega, by simp only; omega⟩
    ·exact hk' _ ⟨by simp only; omega, by simp only; omega, by simp only; omega⟩
   ·rintro ⟨q2, r2, v2, g2, m2⟩ hq
    exact gives_some.2 hq
end Go.Proofs.YteoedigfnfjopaaGreat
