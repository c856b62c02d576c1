/- Parts of graphs: every edge goes to the part of its first end's worker; joined, they are the graph again. -/
import Derived.Test.YtmcdlohjjbmimaaNi
set_option linter.unusedSimpArgs false
set_option linter.unusedVariables false
namespace Go.Proofs.Ytmcdlohjjbmimaa
open Go Go.Av

/-- Of a sorted list with an edge that is new to it. -/
theorem goI_new {n : Int} {es : List Ed} {e : Ed} (hg : GOk n es) (he : EN n e) (hd : ∀ y ∈ es, dfE y e) (hl : es.length < 40) :
    gok n (insE es e) = true ∧ (insE es e).length = es.length + 1 ∧ (insE es e).Perm (e :: es) := by
  obtain ⟨g1, g2, g3, g4, g5⟩ := gok_iff.1 hg
  obtain ⟨A1, M, A2, ⟨q1, q2, q3, q4⟩, h⟩ := insE_cut g5 e
  have hM : M = [] := by
    rcases q4 with h1 | ⟨m, rfl, h1, h2⟩
    · exact h1
    · exact (hd m (by rw [q1]; simp) ⟨h1, h2⟩).elim
  subst hM
  rw [List.nil_append] at q1
  rw [q1] at g5
  have hp := List.pairwise_append.1 g5
  have hperm : (insE es e).Perm (e :: es) := by rw [h, q1]; exact List.perm_middle
  have hlen : (insE es e).length = es.length + 1 := by rw [hperm.length_eq, List.length_cons]
  refine ⟨gok_true (gok_iff.2 ⟨g1, g2, by omega, fun y hy => ?_, ?_⟩), hlen, hperm⟩
  · rcases List.mem_cons.1 (hperm.mem_iff.1 hy) with rfl | h1
    · exact he
    · exact g4 y h1
  · rw [h]
    refine List.pairwise_append.2 ⟨hp.1, List.pairwise_cons.2 ⟨q3, hp.2.1⟩, fun a ha b hb => ?_⟩
    rcases List.mem_cons.1 hb with rfl | h1
    · exact q2 a ha
    · exact hp.2.2 a ha b h1
theorem dfE.symm {x y : Ed} (h : dfE x y) : dfE y x := fun e => h ⟨e.1.symm, e.2.symm⟩
/-- Edges that all have other ends go in, in whatever order. -/
theorem goI_all {n : Int} : ∀ {F es : List Ed}, GOk n es → (∀ e ∈ F, EN n e) → F.Pairwise dfE → (∀ x ∈ es, ∀ y ∈ F, dfE x y) → es.length + F.length ≤ 40 →
    ∃ r, goI n es F = some r ∧ r.Perm (es ++ F) ∧ GOk n r
  | [], es, hg, _, _, _, _ => ⟨es, rfl, by simp, hg⟩
  | e :: F, es, hg, hE, hP, hX, hl => by
    have hP' := List.pairwise_cons.1 hP
    rw [List.length_cons] at hl
    obtain ⟨h1, h2, h3⟩ := goI_new hg (hE e (List.mem_cons_self ..)) (fun y hy => hX y hy e (List.mem_cons_self ..)) (by omega)
    obtain ⟨r, k1, k2, k3⟩ := goI_all (F := F) (gokP h1) (fun x hx => hE x (List.mem_cons_of_mem _ hx)) hP'.2 (fun x hx y hy => by
      rcases List.mem_cons.1 (h3.mem_iff.1 hx) with rfl | h4
      · exact hP'.1 y hy
      · exact hX x h4 y (List.mem_cons_of_mem _ hy)) (by omega)
    refine ⟨r, ?_, ?_, k3⟩
    · simp only [goI]
      rw [if_pos ⟨h1, by omega⟩, k1]
    · refine k2.trans ?_
      refine (List.Perm.append_right F h3).trans ?_
      rw [List.cons_append]
      exact List.perm_middle.symm
/-- What goes in had other ends, and comes out again. -/
theorem goI_had {n : Int} : ∀ {F es r : List Ed}, GOk n es → goI n es F = some r → (∀ e ∈ F, EN n e) ∧ F.Pairwise dfE ∧ (∀ x ∈ es, ∀ y ∈ F, dfE x y) ∧ r.Perm (es ++ F) ∧ GOk n r
  | [], es, r, hg, h => by
    simp only [goI, Option.some.injEq] at h; subst h
    exact ⟨by simp, List.Pairwise.nil, by simp, by simp, hg⟩
  | e :: F, es, r, hg, h => by
    simp only [goI] at h
    split at h
    · rename_i hk
      obtain ⟨g1, g2, g3, g4, g5⟩ := gok_iff.1 hg
      obtain ⟨A1, M, A2, ⟨q1, q2, q3, q4⟩, h5⟩ := insE_cut g5 e
      have hM : M = [] := by
        rcases q4 with h1 | ⟨m, rfl, h1, h2⟩
        · exact h1
        · refine (hk.2 ?_).elim
          rw [h5, q1]; simp
      subst hM
      rw [List.nil_append] at q1
      have hperm : (insE es e).Perm (e :: es) := by rw [h5, q1]; exact List.perm_middle
      have hgr := gokP hk.1
      obtain ⟨k1, k2, k3, k4, k5⟩ := goI_had hgr h
      have hEe : EN n e := (gok_iff.1 hgr).2.2.2.1 e (hperm.mem_iff.2 (List.mem_cons_self ..))
      refine ⟨fun x hx => ?_, List.pairwise_cons.2 ⟨fun y hy => k3 e (hperm.mem_iff.2 (List.mem_cons_self ..)) y hy, k2⟩, fun x hx y hy => ?_, ?_, k5⟩
      · rcases List.mem_cons.1 hx with rfl | h1
        · exact hEe
        · exact k1 x h1
      · rcases List.mem_cons.1 hy with rfl | h1
        · rw [q1] at hx
          rcases List.mem_append.1 hx with h1 | h1
          · have := q2 x h1; unfold ltE at this; unfold dfE; omega
          · have := q3 x h1; unfold ltE at this; unfold dfE; omega
        · exact k3 x (hperm.mem_iff.2 (List.mem_cons_of_mem _ hx)) y h1
      · refine k4.trans ?_
        refine (List.Perm.append_right F hperm).trans ?_
        rw [List.cons_append]
        exact List.perm_middle.symm
    · cases h

/-! Owners. -/
def ownW (v w : Int) : Int := (13 * v + 5) % 17 % w
theorem spec_OwnerOf_eq {v w : Int} (h0 : 0 ≤ v) (h16 : v < 16) (hw : 1 ≤ w) (hw6 : w ≤ 6) : spec_OwnerOf v w = some (ownW v w) := by
  unfold spec_OwnerOf
  have hm := Int.emod_nonneg (13 * v + 5) (b := 17) (by omega)
  rw [if_neg (by simp; omega), chk_pos (by omega), chk_pos (by omega), chk_pos (by omega), chk_pos ⟨hm, by omega⟩]
  rfl

/-! The part of one worker. -/
def partE (es : List Ed) (w a : Int) : List Ed := es.filter fun e => ownW e.1 w == a
theorem take_next {es : List Ed} {k : Nat} (h : k < es.length) : es.take (k + 1) = es.take k ++ [es.getD k (0, 0, 0)] := by
  rw [← List.take_append_getElem h, List.getD_eq_getElem?_getD, List.getElem?_eq_getElem h]; rfl
theorem partE_next {es : List Ed} {k : Nat} {w a : Int} (h : k < es.length) : partE (es.take (k + 1)) w a = if ownW (es.getD k (0, 0, 0)).1 w = a then partE (es.take k) w a ++ [es.getD k (0, 0, 0)] else partE (es.take k) w a := by
  unfold partE
  rw [take_next h, List.filter_append]
  by_cases hc : ownW (es.getD k (0, 0, 0)).1 w = a
  · rw [if_pos hc, List.filter_cons_of_pos (by simpa using hc), List.filter_nil]
  · rw [if_neg hc, List.filter_cons_of_neg (by simpa using hc), List.filter_nil, List.append_nil]
theorem partE_le (es : List Ed) (w a : Int) : (partE es w a).length ≤ es.length := List.length_filter_le ..
theorem gD_mem {es : List Ed} {k : Nat} (h : k < es.length) : es.getD k (0, 0, 0) ∈ es := by
  rw [List.getD_eq_getElem?_getD, List.getElem?_eq_getElem h]; exact List.getElem_mem _
theorem spec_PartOf_eq {n : Int} {es : List Ed} {w a : Int} (hg : GOk n es) (hw : 1 ≤ w) (hw6 : w ≤ 6) (h0 : 0 ≤ a) (ha : a < w) : spec_PartOf n es w a = some (n, partE es w a) := by
  obtain ⟨g1, g2, g3, g4, g5⟩ := gok_iff.1 hg
  have h3 : spec_l1OwnGraph n es = some (n, es) := by unfold spec_l1OwnGraph; rw [chk_pos (by omega)]; rfl
  unfold spec_PartOf
  refine gives_eq.1 ?_
  rw [h3, Option.bind_some]
  dsimp only
  rw [spec_GraphValid_eq ⟨by omega, by omega⟩ (by omega), gok_true hg, Option.bind_some, if_neg (by rw [wrap_fits (by omega) (by omega)]; simp; omega), gives_bind]
  refine (gives_loop (Q := fun r : List Ed => r = partE es w a) (body := spec_PartOf_b0 w a es) (fun k : Nat => ((k : Int), partE (es.take k) w a)) (fun k => k ≤ es.length) (fun k => es.length - k) ?_ 0 (Nat.zero_le _)).mono ?_
  · intro k hk
    unfold spec_PartOf_b0
    rw [gives_ite]
    refine ⟨fun hc => ?_, fun hc => ?_⟩
    · simp only [decide_eq_true_eq] at hc
      have hkl : k < es.length := by omega
      have he := g4 _ (gD_mem hkl)
      unfold EN at he
      have hpl := partE_le (es.take k) w a
      have htl : (es.take k).length ≤ es.length := by rw [List.length_take]; omega
      rw [gives_join, gives_chk, Int.toNat_natCast, spec_OwnerOf_eq he.1 (by omega) hw hw6, Option.bind_some]
      refine ⟨by omega, ?_⟩
      rw [gives_ite]
      refine ⟨fun hb => ?_, fun hb => ?_⟩
      · rw [beq_iff_eq] at hb
        rw [gives_chk, gives_chk, gives_chk]
        exact ⟨by omega, by omega, by omega, gives_some.2 ⟨k + 1, by omega, by omega, by rw [partE_next hkl, if_pos hb]; rfl⟩⟩
      · rw [beq_iff_eq] at hb
        rw [gives_chk]
        exact ⟨by omega, gives_some.2 ⟨k + 1, by omega, by omega, by rw [partE_next hkl, if_neg hb]; rfl⟩⟩
    · simp only [decide_eq_true_eq] at hc
      refine gives_some.2 ?_
      rw [List.take_of_length_le (by omega)]
  · rintro _ rfl
    exact gives_some.2 rfl
theorem spec_PartOf_not {n : Int} {es : List Ed} {w a : Int} (hn : -9223372036854775808 ≤ n ∧ n ≤ 9223372036854775807) (hx : es.length ≤ 1000000000) (hw : -1000 ≤ w ∧ w ≤ 1000) (h : ¬ (GOk n es ∧ 1 ≤ w ∧ w ≤ 6 ∧ 0 ≤ a ∧ a < w)) : spec_PartOf n es w a = some (0, []) := by
  have h3 : spec_l1OwnGraph n es = some (n, es) := by unfold spec_l1OwnGraph; rw [chk_pos (by omega)]; rfl
  unfold spec_PartOf
  rw [h3, Option.bind_some]
  dsimp only
  rw [spec_GraphValid_eq hn hx, Option.bind_some, wrap_fits (by omega) (by omega)]
  by_cases hg : GOk n es
  · rw [gok_true hg, if_pos ?_]
    simp only [Bool.not_true, Bool.false_or, Bool.or_eq_true, Bool.not_eq_true', Bool.and_eq_false_iff, decide_eq_true_eq, decide_eq_false_iff_not]
    have : ¬ (1 ≤ w ∧ w ≤ 6 ∧ 0 ≤ a ∧ a < w) := fun hh => h ⟨hg, hh⟩
    omega
  · rw [gok_false hg, if_pos (by rfl)]

theorem perm_dfE {A B : List Ed} (h : A.Perm B) (hA : A.Pairwise dfE) : B.Pairwise dfE := (h.pairwise_iff (fun {x y} hxy => dfE.symm hxy)).1 hA
end Go.Proofs.Ytmcdlohjjbmimaa
