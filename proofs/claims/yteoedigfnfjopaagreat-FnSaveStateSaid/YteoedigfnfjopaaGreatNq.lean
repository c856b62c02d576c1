import Derived.Test.YteoedigfnfjopaaGreatNp
set_option linter.unusedSimpArgs false
set_option linter.unusedVariables false
namespace Go.Proofs.YteoedigfnfjopaaGreat
open Go Go.Av
attribute [local go_sem] gives_chk gives_ite gives_some gives_bind gives_join Sum.elim_inl Sum.elim_inr decide_eq_true_eq decide_eq_false_iff_not Bool.not_eq_true' Bool.not_eq_false' Bool.or_eq_true Bool.and_eq_true Bool.not_eq_eq_eq_not beq_iff_eq bne_iff_ne ne_eq Bool.or_eq_false_iff Bool.and_eq_false_iff Bool.not_eq_true Bool.not_eq_false Bool.not_true Bool.not_false Int.toNat_natCast beq_eq_false_iff_ne bne_eq_false_iff_eq Decidable.not_not Bool.default_bool
theorem loop_scanD {S X : Type} {N : Nat} {p : Nat → Prop} [∀ k, Decidable (p k)] {q : Prop} [Decidable q] (hq : (∀ k, k < N → p k) ↔ q) (st : Nat → S) (x y : X) {body : S → Option (S ⊕ X)} {s0 : S} (h0 : s0 = st 0)
 (hb : ∀ k, k ≤ N → body (st k) = if k < N then (if p k then some (.inl (st (k + 1))) else some (.inr y)) else some (.inr x)) :
 loop body s0 = some (if q then x else y) := by
 subst h0
 rw [loop_scan (N := N) (p := p) st x y (fun k h1 _ => by
  rw [hb k h1]
  by_cases h : k < N
  ·rw [if_pos h, if_pos h]
   by_cases h2 : p k
   ·rw [if_pos h2, if_pos h2]
   ·rw [if_neg h2, if_neg h2]
  ·rw [if_neg h, if_neg h])]
 by_cases h : q
 ·rw [if_pos h, if_pos (hq.2 h)]
 ·rw [if_neg h, if_neg (fun h' => h (hq.1 h'))]
def MgOk (n : Int) (m : Mg) : Prop := 0 ≤ m.1 ∧ m.1 < n ∧ 0 ≤ m.2.2 ∧ m.2.2 < n ∧ 0 ≤ m.2.1 ∧ m.2.1 ≤ 999999
instance (n : Int) (m : Mg) : Decidable (MgOk n m) := by unfold MgOk; infer_instance
def InOk (n : Int) (ms : List Mg) : Prop := (∀ k, k < ms.length → MgOk n (ms.getD k (0, 0, 0))) ∧ ms.Pairwise leM
def StOk (r : Int) (vs : List Int) (gs : List Bool) (ms : List Mg) (n : Int) : Prop :=
 0 ≤ n ∧ n ≤ 16 ∧ 0 ≤ r ∧ r ≤ 100 ∧ (vs.length : Int) = n ∧ (gs.length : Int) = n ∧ ms.length ≤ 2000 ∧ (∀ k, k < vs.length → -1 ≤ vs.getD k 0 ∧ vs.getD k 0 ≤ 999999) ∧ InOk n ms
open Classical in
noncomputable def sok (r : Int) (vs : List Int) (gs : List Bool) (ms : List Mg) (n : Int) : Bool := decide (StOk r vs gs ms n)
theorem l11_eq {n : Int} (hn : -9223372036854775807 ≤ n ∧ n ≤ 9223372036854775807) (m : Mg) : spec_l11Message m.1 m.2.1 m.2.2 n = some (decide (MgOk n m)) := by
 unfold spec_l11Message
 rw [wrap_fits (by omega) (by omega)]
 congr 1
 unfold MgOk
 grind
theorem messageFits_eq (n : Int) (m : Mg) : impl_messageFits m.1 m.2.1 m.2.2 n = some (decide (MgOk n m)) := by
 unfold impl_messageFits
 congr 1
 unfold MgOk
 grind
theorem spec_sv_b0 {vs : List Int} (hv : vs.length ≤ 1000000000) : loop (spec_StateValid_b0 vs) 0 = some (if ∀ k, k < vs.length → -1 ≤ vs.getD k 0 ∧ vs.getD k 0 ≤ 999999 then .inl () else .inr ()) := by
 refine loop_scanD (N := vs.length) (p := fun k => -1 ≤ vs.getD k 0 ∧ vs.getD k 0 ≤ 999999) Iff.rfl (fun k : Nat => (k : Int)) _ _ rfl ?_
 intro k hk
 simp only [spec_StateValid_b0, Int.toNat_natCast]
 by_cases h : k < vs.length
 ·rw [if_pos (by simpa using h), if_pos h, chk_pos (by omega)]
  by_cases hp : -1 ≤ vs.getD k 0 ∧ vs.getD k 0 ≤ 999999
  ·rw [if_pos hp, if_neg (by simp only [Bool.not_eq_true', Bool.and_eq_false_iff, decide_eq_false_iff_not]; omega), chk_pos (by omega)]; rfl
  ·rw [if_neg hp, if_pos (by simp only [Bool.not_eq_true', Bool.and_eq_false_iff, decide_eq_false_iff_not]; omega)]
 ·rw [if_neg (by simpa using h), if_neg h]
theorem stateFit_eq {vs : List Int} (hv : vs.length ≤ 1000000000) : impl_valuesFit vs = some (decide (∀ k, k < vs.length → -1 ≤ vs.getD k 0 ∧ vs.getD k 0 ≤ 999999)) := by
 have h1 : loop (impl_valuesFit_b0 vs) 0 = some (if ∀ k, k < vs.length → -1 ≤ vs.getD k 0 ∧ vs.getD k 0 ≤ 999999 then .inl () else .inr ()) := by
  refine loop_scanD (N := vs.length) (p := fun k => -1 ≤ vs.getD k 0 ∧ vs.getD k 0 ≤ 999999) Iff.rfl (fun k : Nat => (k : Int)) _ _ rfl ?_
  intro k hk
  simp only [impl_valuesFit_b0, impl_valueFits, Int.toNat_natCast]
  by_cases h : k < vs.length
  ·rw [if_pos (by simpa using h), if_pos h, chk_pos (by omega), Option.bind_some]
   by_cases hp : -1 ≤ vs.getD k 0 ∧ vs.getD k 0 ≤ 999999
   ·rw [if_pos hp, if_neg (by simp only [Bool.not_eq_true', Bool.and_eq_false_iff, decide_eq_false_iff_not]; omega), chk_pos (by omega)]; rfl
   ·rw [if_neg hp, if_pos (by simp only [Bool.not_eq_true', Bool.and_eq_false_iff, decide_eq_false_iff_not]; omega)]
  ·rw [if_neg (by simpa using h), if_neg h]
 unfold impl_valuesFit
 rw [h1, Option.bind_some]
 by_cases h : ∀ k, k < vs.length → -1 ≤ vs.getD k 0 ∧ vs.getD k 0 ≤ 999999
 ·rw [if_pos h, decide_eq_true h]; rfl
 ·rw [if_neg h, decide_eq_false h]; rfl
theorem inOk_iff {n : Int} {ms : List Mg} : InOk n ms ↔ ∀ k, k < ms.length → MgOk n (ms.getD k (0, 0, 0)) ∧ (0 < k → leM (ms.getD (k - 1) (0, 0, 0)) (ms.getD k (0, 0, 0))) := by
 unfold InOk
 rw [srt_iff]
 exact ⟨fun h k hk => ⟨h.1 k hk, h.2 k hk⟩, fun h => ⟨fun k hk => (h k hk).1, fun k hk => (h k hk).2⟩⟩
open Classical in
theorem spec_sv_b1 {ms : List Mg} {n : Int} (hm : ms.length ≤ 1000000000) (hn : 0 ≤ n ∧ n ≤ 1000000000) : loop (spec_StateValid_b1 ms n) 0 = some (if InOk n ms then .inl () else .inr ()) := by
 refine loop_scanD (N := ms.length) (p := fun k => MgOk n (ms.getD k (0, 0, 0)) ∧ (0 < k → leM (ms.getD (k - 1) (0, 0, 0)) (ms.getD k (0, 0, 0)))) inOk_iff.symm (fun k : Nat => (k : Int)) _ _ rfl ?_
 intro k hk
 simp only [spec_StateValid_b1, Int.toNat_natCast]
 have e : ((k : Int) - 1).toNat = k - 1 := by omega
 rw [e]
 by_cases h : k < ms.length
 ·rw [if_pos (by simpa using h), if_pos h, chk_pos (by omega), l11_eq (by omega), Option.bind_some, chk_pos (by omega)]
  by_cases hp : MgOk n (ms.getD k (0, 0, 0))
  ·rw [chk_pos (by intro _ _; omega), chk_pos (by intro _ h; simp at h; omega)]
   by_cases hk0 : 0 < k
   ·rw [if_pos (by simpa using hk0), if_pos (by rw [decide_eq_true hp]; rfl), l9_eq, Option.bind_some]
    by_cases hs : ltM (ms.getD k (0, 0, 0)) (ms.getD (k - 1) (0, 0, 0))
    ·rw [if_pos (by simp [-List.getD_eq_getElem?_getD, hs, hk0]), if_neg (fun hc => hc.2 hk0 hs)]
    ·rw [if_neg (by simp [-List.getD_eq_getElem?_getD, hs, hp]), chk_pos (by omega), if_pos ⟨hp, fun _ => hs⟩]; rfl
   ·rw [if_neg (by simpa using hk0), Option.bind_some, if_neg (by simp only [hp, decide_true, Bool.not_true, Bool.false_or, Bool.and_eq_true, decide_eq_true_eq]; omega), chk_pos (by omega), if_pos ⟨hp, fun h => absurd h hk0⟩]; rfl
  ·rw [chk_pos (by intro h; simp [-List.getD_eq_getElem?_getD, hp] at h), chk_pos (by intro h; simp [-List.getD_eq_getElem?_getD, hp] at h), if_neg (c := _ ∧ _) (fun hc => hp hc.1)]
   by_cases hk0 : 0 < k
   ·rw [if_pos (c := decide _ = true) (by simpa using hk0), if_neg (by simp [-List.getD_eq_getElem?_getD, hp]), Option.bind_some, if_pos (by simp [-List.getD_eq_getElem?_getD, hp])]
   ·rw [if_neg (c := decide _ = true) (by simpa using hk0), Option.bind_some, if_pos (by simp [-List.getD_eq_getElem?_getD, hp])]
 ·rw [if_neg (by simpa using h), if_neg h]
open Classical in
theorem spec_StateValid_eq {r : Int} {vs : List Int} {gs : List Bool} {ms : List Mg} (hv : vs.length ≤ 1000000000) (hg : gs.length ≤ 1000000000) (hm : ms.length ≤ 1000000000) :
 spec_StateValid r vs gs ms (vs.length : Int) = some (sok r vs gs ms vs.length) := by
 unfold spec_StateValid sok
 rw [spec_sv_b0 hv, Option.bind_some]
 by_cases h1 : ∀ k, k < vs.length → -1 ≤ vs.getD k 0 ∧ vs.getD k 0 ≤ 999999
 ·rw [if_pos h1, Sum.elim_inl, spec_sv_b1 hm (by omega), Option.bind_some]
  by_cases h2 : InOk vs.length ms
  ·rw [if_pos h2, Sum.elim_inl]
   congr 1
   rw [Bool.eq_iff_iff]
   simp only [go_sem]
   unfold StOk
   constructor
   ·intro h
    exact ⟨by omega, by omega, by omega, by omega, rfl, by omega, by omega, h1, h2⟩
   ·rintro ⟨a1, a2, a3, a4, a5, a6, a7, -⟩
    refine ⟨⟨⟨⟨⟨?_, ?_⟩, ?_, ?_⟩, ?_⟩, ?_⟩, ?_⟩ <;> first | exact trivial | omega
  ·rw [if_neg h2, Sum.elim_inr, decide_eq_false]
   exact fun h => h2 h.2.2.2.2.2.2.2.2
 ·rw [if_neg h1, Sum.elim_inr, decide_eq_false]
  exact fun h => h1 h.2.2.2.2.2.2.2.1
theorem orM_neg (x y : Mg) : orF [cmpI x.1 y.1, cmpI x.2.1 y.2.1, cmpI x.2.2 y.2.2] < 0 ↔ ltM x y := by
 unfold ltM
 simp only [orF, cmpI]; repeat' split
 all_goals omega
theorem isSorted_eq {ms : List Mg} (hm : ms.length ≤ 1000000000) : slices_IsSortedFunc_impl_Message_impl_Message__impl_compareMessages ms = some (decide (ms.Pairwise leM)) := by
 unfold slices_IsSortedFunc_impl_Message_impl_Message__impl_compareMessages
 have h0 : loop (slices_IsSortedFunc_impl_Message_impl_Message__impl_compareMessages_b0 ms) ((ms.length : Int) - 1) = some (if ms.Pairwise leM then .inl () else .inr ()) := by
  refine loop_scanD (N := ms.length - 1) (p := fun k => leM (ms.getD (ms.length - 2 - k) (0, 0, 0)) (ms.getD (ms.length - 1 - k) (0, 0, 0))) ?_ (fun k : Nat => (ms.length : Int) - 1 - k) _ _ (by simp) ?_
  ·constructor
   ·intro hc
    refine srt_iff.2 fun k hk h0 => ?_
    have := hc (ms.length - 1 - k) (by omega)
    rw [show ms.length - 2 - (ms.length - 1 - k) = k - 1 by omega, show ms.length - 1 - (ms.length - 1 - k) = k by omega] at this
    exact this
   ·intro h k hk
    have := srt_iff.1 h (ms.length - 1 - k) (by omega) (by omega)
    rw [show ms.length - 1 - k - 1 = ms.length - 2 - k by omega] at this
    exact this
  ·intro k hk
   simp only [slices_IsSortedFunc_impl_Message_impl_Message__impl_compareMessages_b0]
   by_cases h : k < ms.length - 1
   ·have e1 : ((ms.length : Int) - 1 - k).toNat = ms.length - 1 - k := by omega
    have e2 : ((ms.length : Int) - 1 - k - 1).toNat = ms.length - 2 - k := by omega
    rw [if_pos (by simp only [decide_eq_true_eq]; omega), if_pos h, chk_pos (by omega), chk_pos (by omega), chk_pos (by omega), e1, e2]
    have e3 := orM_neg (ms.getD (ms.length - 1 - k) (0, 0, 0)) (ms.getD (ms.length - 2 - k) (0, 0, 0))
    by_cases hp : leM (ms.getD (ms.length - 2 - k) (0, 0, 0)) (ms.getD (ms.length - 1 - k) (0, 0, 0))
    ·rw [if_pos hp, if_neg (by simp only [decide_eq_true_eq]; rw [e3]; exact hp), chk_pos (by omega)]
     congr 2; omega
    ·rw [if_neg hp, if_pos (by simp only [decide_eq_true_eq]; rw [e3]; exact Decidable.not_not.1 hp)]
   ·rw [if_neg (by simp only [decide_eq_true_eq]; omega), if_neg h]
 rw [chk_pos (by omega), h0, Option.bind_some]
 by_cases h : ms.Pairwise leM
 ·rw [decide_eq_true h, if_pos h]; rfl
 ·rw [decide_eq_false h, if_neg h]; rfl
open Classical in
theorem inboxFits_eq {ms : List Mg} {n : Int} (hm : ms.length ≤ 1000000000) : impl_inboxFits ms n = some (decide (ms.length ≤ 2000 ∧ InOk n ms)) := by
 have h0 : loop (impl_inboxFits_b0 ms n) 0 = some (if ∀ k, k < ms.length → MgOk n (ms.getD k (0, 0, 0)) then .inl () else .inr ()) := by
  refine loop_scanD (N := ms.length) (p := fun k => MgOk n (ms.getD k (0, 0, 0))) Iff.rfl (fun k : Nat => (k : Int)) _ _ rfl ?_
  intro k hk
  simp only [impl_inboxFits_b0, Int.toNat_natCast]
  by_cases h : k < ms.length
  ·rw [if_pos (by simpa using h), if_pos h, chk_pos (by omega), messageFits_eq, Option.bind_some]
   by_cases hp : MgOk n (ms.getD k (0, 0, 0))
   ·rw [if_pos hp, if_neg (by simp [-List.getD_eq_getElem?_getD, hp]), chk_pos (by omega)]; rfl
   ·rw [if_neg hp, if_pos (by simp [-List.getD_eq_getElem?_getD, hp])]
  ·rw [if_neg (by simpa using h), if_neg h]
 unfold impl_inboxFits
 by_cases h2 : ms.length ≤ 2000
 ·rw [if_pos (by simp; omega), isSorted_eq hm, Option.bind_some]
  by_cases h1 : ms.Pairwise leM
  ·rw [if_neg (by simp [h1]; omega), h0, Option.bind_some]
   by_cases h3 : ∀ k, k < ms.length → MgOk n (ms.getD k (0, 0, 0))
   ·rw [if_pos h3, decide_eq_true ⟨h2, h3, h1⟩]; rfl
   ·rw [if_neg h3, decide_eq_false (fun h => h3 h.2.1)]; rfl
  ·rw [if_pos (by simp [h1]), decide_eq_false (fun h => h1 h.2.2)]
 ·rw [if_neg (by simp; omega), Option.bind_some, if_pos (by simp <;> omega), decide_eq_false (fun h => h2 h.1)]
open Classical in
theorem impl_StateValid_eq {r n : Int} {vs : List Int} {gs : List Bool} {ms : List Mg} (hv : vs.length ≤ 1000000000) (hm : ms.length ≤ 1000000000) :
 impl_StateValid r vs gs ms n = some (sok r vs gs ms n) := by
 unfold impl_StateValid sok impl_roundFits
 by_cases h1 : 0 ≤ n ∧ n ≤ 16
 ·rw [if_pos (by simp only [Bool.not_eq_true', Bool.or_eq_false_iff, decide_eq_false_iff_not]; omega), Option.bind_some]
  by_cases h2 : 0 ≤ r ∧ r ≤ 100
  ·rw [if_neg (by simp only [go_sem]; omega)]
   by_cases h3 : (vs.length : Int) = n ∧ (gs.length : Int) = n
   ·rw [if_neg (by simp only [go_sem]; omega), stateFit_eq hv, Option.bind_some]
    by_cases h4 : ∀ k, k < vs.length → -1 ≤ vs.getD k 0 ∧ vs.getD k 0 ≤ 999999
    ·rw [if_pos (decide_eq_true h4), inboxFits_eq hm, Option.bind_some, decide_eq_true h4, Bool.true_and]
     congr 1
     rw [Bool.eq_iff_iff, decide_eq_true_eq, decide_eq_true_eq]
     exact ⟨fun h => ⟨h1.1, h1.2, h2.1, h2.2, h3.1, h3.2, h.1, h4, h.2⟩, fun h => ⟨h.2.2.2.2.2.2.1, h.2.2.2.2.2.2.2.2⟩⟩
    ·rw [if_neg (by rw [decide_eq_true_eq]; exact h4), Option.bind_some, decide_eq_false h4, Bool.false_and, decide_eq_false]
     exact fun h => h4 h.2.2.2.2.2.2.2.1
   ·rw [if_pos (by simp only [go_sem]; omega), decide_eq_false]
    exact fun h => h3 ⟨h.2.2.2.2.1, h.2.2.2.2.2.1⟩
  ·rw [if_pos (by simp only [go_sem]; omega), decide_eq_false]
   exact fun h => h2 ⟨h.2.2.1, h.2.2.2.1⟩
 ·rw [if_neg (by simp only [Bool.not_eq_true', Bool.or_eq_false_iff, decide_eq_false_iff_not]; omega), Option.bind_some, if_pos (by simp only [go_sem]; omega), decide_eq_false]
  exact fun h => h1 ⟨h.1, h.2.1⟩
end Go.Proofs.YteoedigfnfjopaaGreat
