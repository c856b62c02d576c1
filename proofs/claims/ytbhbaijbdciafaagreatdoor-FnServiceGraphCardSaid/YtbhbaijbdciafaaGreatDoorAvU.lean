import Derived.Test.YtbhbaijbdciafaaGreatDoorAvT
set_option linter.unusedSimpArgs false
set_option linter.unusedVariables false
namespace Go.Av
open Go
variable {P : Program} {N : Nat} {pin : List Nat} {rq : Option Nat} {γ γ' : Nat → Option Nat} {ρ : List Value} {H : List AObj} {w w' : World}
abbrev Gs := List (Nat × Nat × Bool)
def gfind : Gs → Nat → Option Bool
 | [], _ => none
 | (j, _, v) :: r, i => if j = i then some v else gfind r i
def gfree : Gs → Option Nat → Bool
 | [], _ => true
 | (_, d, _) :: r, o => match o with
   | some d' => if d = d' then false else gfree r o
   | none => true
def gput (G : Gs) (o : Option Nat) : Gs := if gfree G o = true then G else []
def GOkay (ops : Array Oper) (G : Gs) (tmps : Array Value) : Prop := ∀ p ∈ G, (∃ oj, ops[p.1]? = some oj ∧ oj.dst = some p.2.1) ∧ yielded ops tmps p.1 = some p.2.2
theorem gfind_mem : ∀ {G : Gs} {j : Nat} {v : Bool}, gfind G j = some v → ∃ d, (j, d, v) ∈ G
 | [], j, v, h => by cases h
 | (i, d, u) :: r, j, v, h => by
   unfold gfind at h
   split at h
   ·rename_i hij; subst hij; simp at h; subst h; exact ⟨d, List.mem_cons_self ..⟩
   ·obtain ⟨d', h'⟩ := gfind_mem h; exact ⟨d', List.mem_cons_of_mem _ h'⟩
theorem gfree_spec : ∀ {G : Gs} {d' : Nat}, gfree G (some d') = true → ∀ p ∈ G, p.2.1 ≠ d'
 | [], d', h, p, hp => by simp at hp
 | (i, d, u) :: r, d', h, p, hp => by
   unfold gfree at h
   simp only at h
   split at h
   ·cases h
   ·rename_i hne
    rcases List.mem_cons.1 hp with rfl | hp
    ·exact hne
    ·exact gfree_spec h p hp
theorem GOkay.put {ops : Array Oper} {G : Gs} {a : Act} (h : GOkay ops G a.tmps) (o : Option Nat) (v : Value) : GOkay ops (gput G o) (a.put o v).tmps := by
 unfold gput
 split
 ·rename_i hf
  intro p hp
  obtain ⟨⟨oj, h1, h2⟩, h3⟩ := h p hp
  refine ⟨⟨oj, h1, h2⟩, ?_⟩
  cases o with
  | none => exact h3
  | some d' =>
    have hne := gfree_spec hf p hp
    unfold yielded at h3 ⊢
    simp only [h1, h2, Option.bind_some] at h3 ⊢
    have : (a.put (some d') v).tmps[p.2.1]? = a.tmps[p.2.1]? := by
     simp only [Act.put]
     rw [Array.getElem?_setIfInBounds_ne (by omega)]
    rw [this]; exact h3
 ·intro p hp; simp at hp
theorem GOkay.cons {ops : Array Oper} {G : Gs} {tmps : Array Value} (h : GOkay ops G tmps) {j d : Nat} {b : Bool} {oj : Oper} (h1 : ops[j]? = some oj) (h2 : oj.dst = some d) (h3 : yielded ops tmps j = some b) : GOkay ops ((j, d, b) :: G) tmps := fun p hp => by
 rcases List.mem_cons.1 hp with rfl | hp
 ·exact ⟨⟨oj, h1, h2⟩, h3⟩
 ·exact h p hp
section
variable (P N) (ft : FuncId → Option (List Value → Option (Prop × Value)))
def vcQg (ops : Array Oper) (H : List AObj) : List Oper → Gs → (Env → Prop) → Env → Prop
 | [], _, K, E => K E
 | o :: r, G, K, E => match o.guard with
   | none => vcQ P N ft o (vcQg ops H r (gput G o.dst) K) E H
   | some (j, want) => match gfind G j with
     | some v => if v = want then vcQ P N ft o (vcQg ops H r (gput G o.dst) K) E H else dstOk N o.dst = true ∧ vcQg ops H r (gput G o.dst) K (Env.put E o.dst skipV)
     | none => match guardV E ops j with
       | some (d, b) => (b = want → vcQ P N ft o (vcQg ops H r (gput ((j, d, want) :: G) o.dst) K) ((d, .v (.bool want)) :: E) H) ∧
        (b = !want → dstOk N o.dst = true ∧ vcQg ops H r (gput ((j, d, !want) :: G) o.dst) K (Env.put ((d, .v (.bool !want)) :: E) o.dst skipV))
       | none => match guardU E ops j with
         | true => dstOk N o.dst = true ∧ vcQg ops H r (gput G o.dst) K (Env.put E o.dst skipV)
         | false => False
end
theorem vcQg_sound {df : List Deferred} {ft : FuncId → Option (List Value → Option (Prop × Value))} (hft : PTab P ft) {ops : Array Oper} {w0 : World} (hne : ∃ w, CW γ ρ H w0 w) :
 ∀ {l : List Oper} {G : Gs} {K : Env → Prop} {E : Env} {a : Act}, vcQg P N ft ops H l G K E → GOkay ops G a.tmps → EnvOk ρ E a.tmps → a.tmps.size = N → a.defers = df →
  wpQuiet P ops (CW γ ρ H w0) (fun a' => a'.tmps.size = N ∧ a'.defers = df ∧ ∃ E', EnvOk ρ E' a'.tmps ∧ K E') l a
 | [], G, K, E, a, h, hG, hE, hs, hd => ⟨hs, hd, E, hE, h⟩
 | o :: rest, G, K, E, a, h, hG, hE, hs, hd => by
   have one : ∀ {G : Gs} {E : Env}, GOkay ops G a.tmps → EnvOk ρ E a.tmps → Region.wanted o (yielded ops a.tmps) = true → vcQ P N ft o (vcQg P N ft ops H rest (gput G o.dst) K) E H →
    wpQuiet P ops (CW γ ρ H w0) (fun a' => a'.tmps.size = N ∧ a'.defers = df ∧ ∃ E', EnvOk ρ E' a'.tmps ∧ K E') (o :: rest) a := by
    intro G E hG hE hw h
    obtain ⟨v, E', h1, h2, h3⟩ := vcQ_sound hft h hE hs hne
    unfold wpQuiet
    rw [if_pos hw]
    exact ⟨v, h1, vcQg_sound hft hne h3 (hG.put _ _) h2 (by rw [put_size]; exact hs) (by rw [put_defs]; exact hd)⟩
   have skip : ∀ {G : Gs} {E : Env}, GOkay ops G a.tmps → EnvOk ρ E a.tmps → Region.wanted o (yielded ops a.tmps) = false → dstOk N o.dst = true → vcQg P N ft ops H rest (gput G o.dst) K (Env.put E o.dst skipV) →
    wpQuiet P ops (CW γ ρ H w0) (fun a' => a'.tmps.size = N ∧ a'.defers = df ∧ ∃ E', EnvOk ρ E' a'.tmps ∧ K E') (o :: rest) a := by
    intro G E hG hE hw h1 h2
    unfold wpQuiet
    rw [if_neg (by simp [hw])]
    exact vcQg_sound hft hne h2 (hG.put _ _) (hE.put (fun n hn => by rw [hs]; rw [hn] at h1; simpa [dstOk] using h1) (x := skipV) rfl) (by rw [put_size]; exact hs) (by rw [put_defs]; exact hd)
   unfold vcQg at h
   split at h
   ·rename_i hg
    exact one hG hE (by simp [Region.wanted, hg]) h
   ·rename_i j want hg
    split at h
    ·rename_i v hv
     obtain ⟨d, hm⟩ := gfind_mem hv
     have hy := (hG _ hm).2
     simp only at hy
     split at h
     ·rename_i he; subst he; exact one hG hE (by simp [Region.wanted, hg, hy]) h
     ·rename_i he; exact skip hG hE (by simp [Region.wanted, hg, hy, he]) h.1 h.2
    ·split at h
     ·rename_i d b hgv
      unfold guardV at hgv
      split at hgv
      ·rename_i oj hoj
       split at hgv
       ·rename_i d' hd'
        split at hgv
        ·rename_i b' hb'
         simp at hgv
         obtain ⟨rfl, rfl⟩ := hgv
         have hv := rel_v (hE _ _ hb')
         have hE2 : EnvOk ρ ((d', .v (.bool b')) :: E) a.tmps := fun t x hx => by
          simp only [List.lookup_cons] at hx
          by_cases hdt : t = d'
          ·subst hdt; simp at hx; subst hx; exact hv
          ·have hne : (t == d') = false := by simpa using hdt
           rw [hne] at hx; exact hE t x hx
         have hy : yielded ops a.tmps j = some b' := by
          simp only [Array.getD_eq_getD_getElem?] at hv
          cases hx : a.tmps[d']? with
          | none => rw [hx] at hv; simp [undef] at hv
          | some v => rw [hx] at hv; simp at hv; subst hv; simp [yielded, hoj, hd', hx]
         have hG2 := hG.cons hoj hd' hy
         by_cases hb : b' = want
         ·subst hb
          exact one hG2 hE2 (by simp [Region.wanted, hg, hy]) (h.1 rfl)
         ·have hb2 : b' = !want := by cases b' <;> cases want <;> simp_all
          obtain ⟨h1, h2⟩ := h.2 hb2
          subst hb2
          exact skip hG2 hE2 (by simp [Region.wanted, hg, hy]) h1 h2
        ·cases hgv
       ·cases hgv
      ·cases hgv
     ·split at h
      ·rename_i hu
       have hy := guardU_spec hE hu
       exact skip hG hE (by simp [Region.wanted, hg, hy]) h.1 h.2
      ·exact h.elim
theorem awp_quietg {ft : FuncId → Option (List Value → Option (Prop × Value))} (hm : P.follows .mixedOrders = true) (hft : PTab P ft) {id : Nat} {l : List Oper} {Q : Exit → Env → List AObj → Prop} {E : Env} {H : List AObj}
 (hB : Region.lexB .any l.toArray = true) (h : vcQg P N ft l.toArray H l [] (fun E => Q .normal E H) E) (hnd : noDefer l.toArray = true := by rfl) : awp rq P N pin (.region id l.toArray true) Q E H := fun πv γ ρ a w hst => by
 have hC : CW γ ρ H w { w with drawn := w.drawn + 1 } := ⟨hst.heap.grow (fun _ _ => rfl) (Nat.le_refl _), Fr.drew γ w _ (Nat.le_succ _)⟩
 refine wpIn_mono (wpIn_quiet (Q := fun e a' w' => ∃ γ' ρ' E' H', Q e E' H' ∧ St N pin πv γ' ρ' E' H' a' w' ∧ Fr γ w γ' w') hnd hm hB hC ?_) fun e a2 w2 hq => hq.2
 have := vcQg_sound (γ := γ) (ρ := ρ) hft ⟨_, hC⟩ h (fun p hp => by simp at hp) hst.env hst.size rfl
 simp only [List.toList_toArray] at this ⊢
 refine wpQuiet_mono' ?_ _ _ this
 intro a' ⟨h1, h2, E', h3, h4⟩ w' hw'
 exact ⟨γ, ρ, E', H, h4, ⟨h1, by rw [h2]; exact hst.defs.keep hw'.2.keep, h3, hw'.1, hst.pins⟩, hw'.2⟩
def keepE (E : Env) (l : List Nat) : Env := l.map fun t => (t, (E.lookup t).getD .top)
theorem keepE_ok {E : Env} {tm : Array Value} (h : EnvOk ρ E tm) (l : List Nat) : EnvOk ρ (keepE E l) tm := fun t x hx => by
 unfold keepE at hx
 induction l with
 | nil => simp at hx
 | cons s l ih =>
   simp only [List.map_cons, List.lookup_cons] at hx
   by_cases hts : t = s
   ·subst hts
    simp at hx; subst hx
    cases hl : E.lookup t with
    | none => exact trivial
    | some y => exact h t y hl
   ·have hne : (t == s) = false := by simpa using hts
    rw [hne] at hx; exact ih hx
theorem awp_keep (l : List Nat) {c : Code} {Q : Exit → Env → List AObj → Prop} {E E' : Env} {H : List AObj} (hE : keepE E l = E') (k : awp rq P N pin c Q E' H) : awp rq P N pin c Q E H := by
 subst hE
 exact awp_red (fun _ γ ρ _ w hst => ⟨γ, ρ, ⟨hst.size, hst.defs, keepE_ok hst.env l, hst.heap, hst.pins⟩, Fr.refl _ _⟩) k
end Go.Av
