import Derived.Test.YteoedigfnfjopaaGreatAvP
set_option linter.unusedSimpArgs false
set_option linter.unusedVariables false
namespace Go.Av
open Go
variable {P : Program} {N : Nat} {pin : List Nat} {rq : Option Nat} {γ γ' : Nat → Option Nat} {ρ : List Value} {H : List AObj} {w w' : World}
def AV.killp1 (l : List Nat) : AV → AV
 | .sl p => if l.contains p then .top else .sl p
 | .pp p off => if l.contains p then .top else .pp p off
 | .ep p i e f => if l.contains p then .top else .ep p i e f
 | .ip p T => if l.contains p then .top else .ip p T
 | x => x
def AV.killp2 (l : List Nat) : AV → AV
 | .agg m => .agg (m.map (AV.killp1 l))
 | x => x.killp1 l
def AV.killp (l : List Nat) : AV → AV
 | .tup m => .tup (m.map (AV.killp2 l))
 | x => x.killp2 l
def Env.killp (l : List Nat) (E : Env) : Env := match l with | [] => E | l => E.map fun p => (p.1, p.2.killp l)
section
variable {ρ' : List Value} {l : List Nat} (hf : ∀ (o : Nat) (v : Value), o ∉ l → ρ[o]? = some v → ρ'[o]? = some v)
include hf
theorem rel1.killp {x : AV} {u : Value} (h : rel1 ρ x u) : rel1 ρ' (x.killp1 l) u := by
 have hone := h.one
 have key : ∀ (p : Nat) (v : Value), ¬ l.contains p = true → ρ[p]? = some v → ρ'[p]? = some v := fun p v hp hv => hf p v (by simpa using hp) hv
 cases x <;> simp only [AV.killp1]
 ·exact h
 ·exact h
 ·split
  ·exact hone
  ·exact ⟨key _ _ ‹_› h.1, h.2⟩
 ·split
  ·exact hone
  ·obtain ⟨b, h1, h2⟩ := h; exact ⟨b, key _ _ ‹_› h1, h2⟩
 ·split
  ·exact hone
  ·obtain ⟨b, ofs, n, cap, h1, h2⟩ := h; exact ⟨b, ofs, n, cap, key _ _ ‹_› h1, h2⟩
 ·split
  ·exact hone
  ·obtain ⟨b, h1, h2⟩ := h; exact ⟨b, key _ _ ‹_› h1, h2⟩
 ·exact h
 ·exact h
theorem Rel1s.killp {m : List AV} {cs : List Value} (h : Rel1s ρ m cs) : Rel1s ρ' (m.map (AV.killp1 l)) cs := by
 refine ⟨by simp [h.1], fun j x u hx hu => ?_⟩
 rw [List.getElem?_map] at hx
 cases hl : m[j]? with
 | none => rw [hl] at hx; cases hx
 | some y => rw [hl] at hx; simp at hx; subst hx; exact rel1.killp hf (h.2 j y u hl hu)
theorem rel2.killp {x : AV} {u : Value} (h : rel2 ρ x u) : rel2 ρ' (x.killp2 l) u := by
 have aux : ∀ y : AV, rel1 ρ' y u → rel2 ρ' y u := by
  intro y hy; cases y <;> simp only [rel1, rel2] at hy ⊢
  ·exact hy.1
  ·exact hy
  ·exact hy
  ·exact hy
  ·exact hy
 cases x <;> simp only [AV.killp2]
 ·trivial
 ·exact h
 ·exact aux _ (rel1.killp hf (x := .sl _) h)
 ·exact aux _ (rel1.killp hf (x := .pp _ _) h)
 ·exact aux _ (rel1.killp hf (x := .ep _ _ _ _) h)
 ·exact aux _ (rel1.killp hf (x := .ip _ _) h)
 ·obtain ⟨cs, h1, h2⟩ := h; exact ⟨cs, h1, Rel1s.killp hf h2⟩
 ·exact h
theorem rel.killp {x : AV} {u : Value} (h : rel ρ x u) : rel ρ' (x.killp l) u := by
 have aux : ∀ y : AV, rel2 ρ' y u → rel ρ' y u := by
  intro y hy; cases y <;> first | exact hy | (simp only [rel2] at hy)
 cases x <;> simp only [AV.killp]
 ·exact aux _ (rel2.killp hf (x := .top) h)
 ·exact aux _ (rel2.killp hf (x := .v _) h)
 ·exact aux _ (rel2.killp hf (x := .sl _) h)
 ·exact aux _ (rel2.killp hf (x := .pp _ _) h)
 ·exact aux _ (rel2.killp hf (x := .ep _ _ _ _) h)
 ·exact aux _ (rel2.killp hf (x := .ip _ _) h)
 ·exact aux _ (rel2.killp hf (x := .agg _) h)
 ·obtain ⟨cs, h1, h2⟩ := h
  refine ⟨cs, h1, by simp [h2.1], fun j x u hx hu => ?_⟩
  rename_i m
  rw [List.getElem?_map] at hx
  cases hl : m[j]? with
  | none => rw [hl] at hx; cases hx
  | some y => rw [hl] at hx; simp at hx; subst hx; exact rel2.killp hf (h2.2 j y u hl hu)
theorem EnvOk.killp {E : Env} {tm : Array Value} (h : EnvOk ρ E tm) : EnvOk ρ' (E.killp l) tm := by
 cases l with
 | nil =>
   intro t x hx
   have := h t x hx
   have id1 : ∀ y : AV, y.killp1 [] = y := fun y => by cases y <;> simp [AV.killp1]
   have id2 : ∀ y : AV, y.killp2 [] = y := fun y => by
    cases y <;> simp only [AV.killp2, id1]
    rename_i m
    congr 1
    exact (List.map_congr_left fun a _ => id1 a).trans (List.map_id m)
   have id3 : x.killp [] = x := by
    cases x <;> simp only [AV.killp, id2]
    rename_i m
    congr 1
    exact (List.map_congr_left fun a _ => id2 a).trans (List.map_id m)
   have := rel.killp hf this
   rwa [id3] at this
 | cons o l =>
   intro t x hx
   have hl : (Env.killp (o :: l) E).lookup t = (E.lookup t).map (AV.killp (o :: l)) := by
    simp only [Env.killp]
    clear hx h
    induction E with
    | nil => rfl
    | cons p E ih =>
      obtain ⟨k, y⟩ := p
      simp only [List.map_cons, List.lookup_cons] at ih ⊢
      cases h : (t == k) <;> simp [ih]
   rw [hl] at hx
   cases hl : E.lookup t with
   | none => rw [hl] at hx; cases hx
   | some y => rw [hl] at hx; simp at hx; subst hx; exact rel.killp hf (h t y hl)
end
def AObj.excl : AObj → Bool | .row true _ => true | .box _ => true | _ => false
def AObj.past (ex cs : List Nat) : AObj → AObj
 | .box m => .box (m.map (AV.killp1 cs))
 | .rbox m => .rbox (m.map (AV.killp1 cs))
 | .view s c => if ex.contains s then .dead else .view s c
 | .tak own c i f p => .tak own c i f (p.bind fun q => if cs.contains q then none else some q)
 | .mp m k p => .mp m k (p.bind fun q => if cs.contains q then none else some q)
 | x => x
def AObj.back (f : Nat → Option Nat) : AObj → AObj
 | .box m => .box (m.map (AV.ren1 f))
 | .row true c => .row true c
 | _ => .dead
def exIds : List Nat → List AObj → List Nat
 | o :: m, ob :: Hc => if ob.excl then o :: exIds m Hc else exIds m Hc
 | _, _ => []
def upId (m : List Nat) (n : Nat) : Nat → Option Nat := fun j => if j < m.length then m[j]? else some (n + (j - m.length))
def fit1 (m : List Nat) (x y : AV) : Prop :=
 match x with
 | .top => True
 | .sl j => (m[j]?).map AV.sl = some y
 | .pp j f => (m[j]?).map (fun o => AV.pp o f) = some y
 | .ep j i e f => (m[j]?).map (fun o => AV.ep o i e f) = some y
 | .ip j T => (m[j]?).map (fun o => AV.ip o T) = some y
 | .v x => y = .v x
 | _ => False
def fit1s (m : List Nat) : List AV → List AV → Prop
 | [], [] => True
 | x :: l, y :: k => fit1 m x y ∧ fit1s m l k
 | _, _ => False
def fit (m : List Nat) (x y : AV) : Prop :=
 match x with
 | .agg l => match y with | .agg k => fit1s m l k | _ => False
 | x => fit1 m x y
def fitAll (m : List Nat) : List AV → List AV → Prop
 | [], [] => True
 | x :: l, y :: k => fit m x y ∧ fitAll m l k
 | _, _ => False
section
variable {ρc : List Value} {m : List Nat} (hf : ∀ (j o : Nat), m[j]? = some o → ρc[j]? = ρ[o]?)
include hf
theorem fit1.rel1 {x y : AV} {u : Value} (h : fit1 m x y) (hu : rel1 ρ y u) : rel1 ρc x u := by
 cases x <;> simp only [fit1] at h
 ·exact hu.one
 ·subst h; exact hu
 ·rename_i j
  cases hj : m[j]? with
  | none => rw [hj] at h; simp at h
  | some o => rw [hj] at h; simp at h; subst h; exact ⟨(hf j o hj).trans hu.1, hu.2⟩
 ·rename_i j f
  cases hj : m[j]? with
  | none => rw [hj] at h; simp at h
  | some o => rw [hj] at h; simp at h; subst h; obtain ⟨b, h1, h2⟩ := hu; exact ⟨b, (hf j o hj).trans h1, h2⟩
 ·rename_i j i e f
  cases hj : m[j]? with
  | none => rw [hj] at h; simp at h
  | some o => rw [hj] at h; simp at h; subst h; obtain ⟨b, ofs, n, cap, h1, h2⟩ := hu; exact ⟨b, ofs, n, cap, (hf j o hj).trans h1, h2⟩
 ·rename_i j T
  cases hj : m[j]? with
  | none => rw [hj] at h; simp at h
  | some o => rw [hj] at h; simp at h; subst h; obtain ⟨b, h1, h2⟩ := hu; exact ⟨b, (hf j o hj).trans h1, h2⟩
theorem fit1s.rel1s : ∀ {l k : List AV} {cs : List Value}, fit1s m l k → Rel1s ρ k cs → Rel1s ρc l cs
 | [], [], cs, _, h => ⟨h.1, fun j x u hx => by simp at hx⟩
 | x :: l, y :: k, cs, h, hr => by
   match cs, hr with
   | [], hr => exact absurd hr.1 (by simp)
   | c :: cs, hr =>
     have ih := fit1s.rel1s (cs := cs) h.2 ⟨by have := hr.1; simpa using this, fun j x u hx hu => hr.2 (j + 1) x u (by simpa using hx) (by simpa using hu)⟩
     refine ⟨by simp [ih.1], fun j z u hz hu => ?_⟩
     cases j with
     | zero => simp at hz hu; subst hz hu; exact fit1.rel1 hf h.1 (hr.2 0 y c rfl rfl)
     | succ j => exact ih.2 j z u (by simpa using hz) (by simpa using hu)
 | [], _ :: _, _, h, _ => h.elim
 | _ :: _, [], _, h, _ => h.elim
theorem fit.rel {x y : AV} {u : Value} (h : fit m x y) (hu : rel ρ y u) : rel ρc x u := by
 cases x <;> simp only [fit] at h
 ·trivial
 ·simp only [fit1] at h; subst h; exact hu
 ·rename_i j
  simp only [fit1] at h
  cases hj : m[j]? with
  | none => rw [hj] at h; simp at h
  | some o => rw [hj] at h; simp at h; subst h; exact fit1.rel1 hf (x := .sl j) (y := .sl o) (by simp [fit1, hj]) hu
 ·rename_i j f
  simp only [fit1] at h
  cases hj : m[j]? with
  | none => rw [hj] at h; simp at h
  | some o => rw [hj] at h; simp at h; subst h; exact fit1.rel1 hf (x := .pp j f) (y := .pp o f) (by simp [fit1, hj]) hu
 ·rename_i j i e f
  simp only [fit1] at h
  cases hj : m[j]? with
  | none => rw [hj] at h; simp at h
  | some o => rw [hj] at h; simp at h; subst h; exact fit1.rel1 hf (x := .ep j i e f) (y := .ep o i e f) (by simp [fit1, hj]) hu
 ·rename_i j T
  simp only [fit1] at h
  cases hj : m[j]? with
  | none => rw [hj] at h; simp at h
  | some o => rw [hj] at h; simp at h; subst h; exact fit1.rel1 hf (x := .ip j T) (y := .ip o T) (by simp [fit1, hj]) hu
 ·split at h
  ·obtain ⟨cs, h1, h2⟩ := hu; exact ⟨cs, h1, fit1s.rel1s hf h h2⟩
  ·exact h.elim
 ·exact h.elim
theorem fitAll.rels : ∀ {l k : List AV} {us : List Value}, fitAll m l k → Rels ρ k us → Rels ρc l us
 | [], [], us, _, h => ⟨h.1, fun j x u hx => by simp at hx⟩
 | x :: l, y :: k, us, h, hr => by
   match us, hr with
   | [], hr => exact absurd hr.1 (by simp)
   | c :: us, hr =>
     have ih := fitAll.rels (us := us) h.2 ⟨by have := hr.1; simpa using this, fun j x u hx hu => hr.2 (j + 1) x u (by simpa using hx) (by simpa using hu)⟩
     refine ⟨by simp [ih.1], fun j z u hz hu => ?_⟩
     cases j with
     | zero => simp at hz hu; subst hz hu; exact fit.rel hf h.1 (hr.2 0 y c rfl rfl)
     | succ j => exact ih.2 j z u (by simpa using hz) (by simpa using hu)
 | [], _ :: _, _, h, _ => h.elim
 | _ :: _, [], _, h, _ => h.elim
end
def matchOb (H : List AObj) (m : List Nat) (ex : List Nat) (o : Nat) : AObj → Prop
 | .row true c => H[o]? = some (.row true c)
 | .row false c => rd H o = some c ∧ ex.contains o = false ∧ (match H[o]? with | some (.view s _) => ex.contains s = false | _ => True)
 | .box cells => match H[o]? with | some (.box cells') => fit1s m cells cells' | _ => False
 | .dead => True
 | .glob g c => H[o]? = some (.glob g c)
 | _ => False
def matchAll (H : List AObj) (m ex : List Nat) : List Nat → List AObj → Prop
 | [], [] => True
 | o :: l, ob :: Hc => o < H.length ∧ matchOb H m ex o ob ∧ matchAll H m ex l Hc
 | _, _ => False
theorem matchAll_spec {m ex : List Nat} : ∀ {l : List Nat} {Hc : List AObj}, matchAll H m ex l Hc → l.length = Hc.length ∧ ∀ (j o : Nat) (ob : AObj), l[j]? = some o → Hc[j]? = some ob → o < H.length ∧ matchOb H m ex o ob
 | [], [], _ => ⟨rfl, fun j o ob h => by simp at h⟩
 | o :: l, ob :: Hc, h => by
   obtain ⟨h1, h2, h3⟩ := h
   obtain ⟨h4, h5⟩ := matchAll_spec h3
   refine ⟨by simp [h4], fun j o' ob' ho hob => ?_⟩
   cases j with
   | zero => simp at ho hob; subst ho hob; exact ⟨h1, h2⟩
   | succ j => exact h5 j o' ob' (by simpa using ho) (by simpa using hob)
 | [], _ :: _, h => h.elim
 | _ :: _, [], h => h.elim
theorem exIds_spec : ∀ {m : List Nat} {Hc : List AObj} {o : Nat}, o ∈ exIds m Hc → ∃ (j : Nat) (ob : AObj), m[j]? = some o ∧ Hc[j]? = some ob ∧ ob.excl = true
 | o' :: m, ob :: Hc, o, h => by
   unfold exIds at h
   split at h
   ·rcases List.mem_cons.1 h with rfl | h
    ·exact ⟨0, ob, rfl, rfl, ‹_›⟩
    ·obtain ⟨j, ob', h1, h2, h3⟩ := exIds_spec h; exact ⟨j + 1, ob', by simpa using h1, by simpa using h2, h3⟩
   ·obtain ⟨j, ob', h1, h2, h3⟩ := exIds_spec h; exact ⟨j + 1, ob', by simpa using h1, by simpa using h2, h3⟩
 | [], _, o, h => by simp [exIds] at h
 | _ :: _, [], o, h => by simp [exIds] at h
theorem exIds_mem : ∀ {m : List Nat} {Hc : List AObj} {j o : Nat} {ob : AObj}, m[j]? = some o → Hc[j]? = some ob → ob.excl = true → o ∈ exIds m Hc
 | o' :: m, ob' :: Hc, 0, o, ob, h1, h2, h3 => by simp at h1 h2; subst h1 h2; simp [exIds, h3]
 | o' :: m, ob' :: Hc, j + 1, o, ob, h1, h2, h3 => by
   have := exIds_mem (m := m) (Hc := Hc) (j := j) (by simpa using h1) (by simpa using h2) h3
   unfold exIds; split
   ·exact List.mem_cons_of_mem _ this
   ·exact this
 | [], _, j, o, ob, h1, _, _ => by simp at h1
 | _ :: _, [], j, o, ob, _, h2, _ => by simp at h2
def setAll (f : Nat → Option Nat) : List Nat → List AObj → List AObj → List AObj → List AObj
 | o :: m, ob :: Hc, ob' :: Hc', H => setAll f m Hc Hc' (if ob.excl then H.set o (ob'.back f) else H)
 | _, _, _, H => H
def pastH (m : List Nat) (Hc : List AObj) (cons : List Nat) (H Hc' : List AObj) : List AObj :=
 setAll (upId m H.length) m Hc Hc' (H.map (AObj.past (exIds m Hc) cons)) ++ (Hc'.drop m.length).map (AObj.back (upId m H.length))
theorem setAll_len {f : Nat → Option Nat} : ∀ {m : List Nat} {Hc Hc' H : List AObj}, (setAll f m Hc Hc' H).length = H.length
 | o :: m, ob :: Hc, ob' :: Hc', H => by unfold setAll; rw [setAll_len]; split <;> simp
 | [], _, _, H => rfl
 | _ :: _, [], _, H => rfl
 | _ :: _, _ :: _, [], H => rfl
theorem setAll_other {f : Nat → Option Nat} : ∀ {m : List Nat} {Hc Hc' H : List AObj} {o : Nat}, o ∉ exIds m Hc → (setAll f m Hc Hc' H)[o]? = H[o]?
 | o' :: m, ob :: Hc, ob' :: Hc', H, o, h => by
   unfold exIds at h
   unfold setAll
   split at h
   ·rename_i he
    rw [List.mem_cons, not_or] at h
    rw [setAll_other h.2, if_pos he, List.getElem?_set_ne (Ne.symm h.1)]
   ·rename_i he
    rw [setAll_other h, if_neg he]
 | [], _, _, H, o, _ => rfl
 | _ :: _, [], _, H, o, _ => rfl
 | _ :: _, _ :: _, [], H, o, _ => rfl
theorem setAll_at {f : Nat → Option Nat} : ∀ {m : List Nat} {Hc Hc' H : List AObj} {j o : Nat} {ob ob' : AObj}, m.Nodup → m[j]? = some o → Hc[j]? = some ob → Hc'[j]? = some ob' → ob.excl = true → o < H.length →
 (setAll f m Hc Hc' H)[o]? = some (ob'.back f)
 | o0 :: m, ob0 :: Hc, ob0' :: Hc', H, 0, o, ob, ob', hn, h1, h2, h3, h4, h5 => by
   simp at h1 h2 h3
   subst h1 h2 h3
   unfold setAll
   rw [if_pos h4]
   have : o0 ∉ exIds m Hc := fun hm => by
    obtain ⟨j, ob, h6, _, _⟩ := exIds_spec hm
    exact (List.nodup_cons.1 hn).1 (List.mem_of_getElem? h6)
   rw [setAll_other this, List.getElem?_set_self h5]
 | o0 :: m, ob0 :: Hc, ob0' :: Hc', H, j + 1, o, ob, ob', hn, h1, h2, h3, h4, h5 => by
   unfold setAll
   exact setAll_at (List.nodup_cons.1 hn).2 (by simpa using h1) (by simpa using h2) (by simpa using h3) h4 (by split <;> simpa using h5)
 | [], _, _, H, j, o, ob, ob', _, h1, _, _, _, _ => by simp at h1
 | _ :: _, [], _, H, j, o, ob, ob', _, _, h2, _, _, _ => by simp at h2
 | _ :: _, _ :: _, [], H, j, o, ob, ob', _, _, _, h3, _, _ => by simp at h3
theorem wpA_guard {ops : Array Oper} {o : Oper} {rest : List Oper} {K : Env → List AObj → Prop} {E : Env} {H : List AObj} {j d : Nat} {want : Bool} (hg : o.guard = some (j, want)) (hv : guardV E ops j = some (d, want))
 (h : wpA P N pin ops ({ o with guard := none } :: rest) K E H) : wpA P N pin ops (o :: rest) K E H := by
 intro πv γ ρ a w hst
 have h1 := h πv γ ρ a w hst
 unfold wpList at h1 ⊢
 unfold guardV at hv
 split at hv
 ·rename_i oj hoj
  split at hv
  ·rename_i d' hd'
   split at hv
   ·rename_i b' hb'
    simp at hv
    obtain ⟨rfl, rfl⟩ := hv
    have hk := (hst.know hb').1
    have hy : yielded ops a.tmps j = some b' := by
     simp only [Array.getD_eq_getD_getElem?] at hk
     cases hx : a.tmps[d']? with
     | none => rw [hx] at hk; simp [undef] at hk
     | some v => rw [hx] at hk; simp at hk; subst hk; simp [yielded, hoj, hd', hx]
    rw [if_pos (by simp [Region.wanted])] at h1
    rw [if_pos (by simp [Region.wanted, hg, hy])]
    exact h1
   ·cases hv
  ·cases hv
 ·cases hv
theorem awp_last {c : Code} {Q : Exit → Env → List AObj → Prop} {E : Env} {H : List AObj} (h : ∀ K : Env → List AObj → Prop, (∀ E H, Q .normal E H → K E H) → awp rq P N pin c (Thn K Q) E H) : awp rq P N pin c Q E H :=
 awp_mono (h _ (fun _ _ h => h)) fun e E H hq => by cases e <;> exact hq
theorem Red.fin {E E' : Env} {H' : List AObj} (hE : Ele E E') (hH : H = H') : Red N pin E H E' H' := by subst hH; exact Red.env hE
theorem OpK_callP {f : FuncId} {as : List AV} {Hc : List AObj} {cons : List Nat} {R : AV → List AObj → Prop} (hc : FnA P f as Hc cons R) {d : Option Nat} {c : Call} {ty : TypeId} {pos' : String} {after : Array Edge} {K : Env → List AObj → Prop} {E : Env} {H : List AObj}
 (m cs : List Nat) (avs : List AV) {πv : Pv} {γ : Nat → Option Nat} {ρ : List Value} {a : Act} {w : World} (hst : St N pin πv γ ρ E H a w) {us : List Value} (hrun : (execOp a.eval ⟨d, .call c, ty, pos', after, none⟩).run P w = .ok (.enter f us.toArray) w) (hrel : Rels ρ avs us) (hargs : fitAll m as avs) (hd : dstOk N d = true)
 (hnd : m.Nodup ∨ (exIds m Hc = [] ∧ cs = [] ∧ cons = [])) (hm : matchAll H m (exIds m Hc) m Hc) (hcs : ∀ (j o : Nat), j ∈ cons → m[j]? = some o → o ∈ cs) (hcx : ∀ o ∈ cs, o ∈ exIds m Hc ∧ o ∉ pin)
 (hk : ∀ x Hc', R x Hc' → Hc.length ≤ Hc'.length → K ((E.killp cs).put d (x.ren (upId m H.length))) (pastH m Hc cs H Hc')) :
 ∀ (K' : Act → World → Prop) (Q' : Exit → Act → World → Prop), (∀ v w' γ' ρ' E' H', K E' H' → St N pin πv γ' ρ' E' H' (a.put d v) w' → Fr γ w γ' w' → K' (a.put d v) w') →
  Oper.wp P ⟨d, .call c, ty, pos', after, none⟩ a w K' Q' := by
 intro K' Q' hK
 have hH := hst.heap
 obtain ⟨hml, hmat⟩ := matchAll_spec hm
 let ex := exIds m Hc
 let ρc := m.map fun o => ρ.getD o undef
 let γc : Nat → Option Nat := fun b => (γ b).bind fun o => if ex.contains o then pos m o 0 else none
 have hρc : ∀ (j o : Nat), m[j]? = some o → ρc[j]? = ρ[o]? := fun j o h => by
  have hlt : o < ρ.length := by
   have hj := (List.getElem?_eq_some_iff.1 h).1
   obtain ⟨ob, hob⟩ : ∃ ob, Hc[j]? = some ob := ⟨Hc[j]'(by omega), List.getElem?_eq_getElem _⟩
   rw [hH.len]; exact (hmat j o ob h hob).1
  simp [ρc, h, List.getD, hlt]
 have hγx : ∀ (j o : Nat) (ob : AObj), m[j]? = some o → Hc[j]? = some ob → ob.excl = true → ∀ b, γ b = some o → γc b = some j := fun j o ob h1 h2 h3 b hb => by
  have hmem : o ∈ ex := exIds_mem h1 h2 h3
  have hn : m.Nodup := by
   rcases hnd with h | h
   ·exact h
   ·have hmem' : o ∈ exIds m Hc := hmem
    rw [h.1] at hmem'; cases hmem'
  have := pos_of (k := 0) hn h1
  simp [γc, hb, hmem, this]
 have hγr : ∀ (o : Nat), o ∉ ex → ∀ b, γ b = some o → γc b = none := fun o h b hb => by simp [γc, hb, h]
 have hHc : HeapOk γc ρc Hc w := by
  refine ⟨by simp [ρc, hml], fun j ob hob => ?_, fun b j hb => ?_⟩
  ·have hj : j < m.length := by rw [hml]; exact (List.getElem?_eq_some_iff.1 hob).1
   obtain ⟨o, ho⟩ : ∃ o, m[j]? = some o := ⟨m[j], List.getElem?_eq_getElem hj⟩
   obtain ⟨hol, hmo⟩ := hmat j o ob ho hob
   cases ob with
   | dead => exact trivial
   | box cells =>
     simp only [matchOb] at hmo
     split at hmo
     ·rename_i cells' heq
      obtain ⟨b, arr, e, h1, h2, h3, h4⟩ := hH.obj _ _ heq
      exact ⟨b, arr, e, by rw [hρc j o ho]; exact h1, hγx j o _ ho hob rfl b h2, h3, fit1s.rel1s hρc hmo h4⟩
     ·exact hmo.elim
   | rbox cells => exact hmo.elim
   | row own c =>
     cases own with
     | true =>
       obtain ⟨u, h1, h2⟩ := hH.obj _ _ hmo
       refine ⟨u, by rw [hρc j o ho]; exact h1, h2.mono fun b hb => ?_⟩
       simp at hb ⊢
       exact hγx j o _ ho hob rfl b hb
     | false =>
       obtain ⟨h1, h2, h3⟩ := hmo
       have hnx : o ∉ ex := by simpa using h2
       unfold rd at h1
       split at h1
       ·rename_i own' c' heq
        simp at h1; subst h1
        obtain ⟨u, h4, h5⟩ := hH.obj _ _ heq
        refine ⟨u, by rw [hρc j o ho]; exact h4, h5.ro.mono fun b hb => ?_⟩
        cases own' <;> simp at hb ⊢
        ·simp [γc, hb]
        ·exact hγr o hnx b hb
       ·rename_i s c' heq
        simp at h1; subst h1
        rw [heq] at h3
        obtain ⟨u, h4, h5⟩ := hH.obj _ _ heq
        refine ⟨u, by rw [hρc j o ho]; exact h4, h5.ro.mono fun b hb => ?_⟩
        simp at hb ⊢
        exact hγr s (by simpa using h3) b hb
       ·cases h1
   | view s c => exact hmo.elim
   | glob g c =>
     obtain ⟨h1, h2⟩ := hH.obj _ _ hmo
     exact ⟨by simp [γc, h1], h2⟩
   | tak own c i f p => exact hmo.elim
   | mix gs => exact hmo.elim
   | mp m k p => exact hmo.elim
   | mi m => exact hmo.elim
   | ext f => exact hmo.elim
  ·simp only [γc, Option.bind_eq_some_iff] at hb
   obtain ⟨o, h1, h2⟩ := hb
   split at h2
   ·obtain ⟨_, h3⟩ := pos_spec h2
    simp only [Nat.sub_zero] at h3
    exact ⟨by rw [← hml]; exact (List.getElem?_eq_some_iff.1 h3).1, (hH.lab b o h1).2⟩
   ·cases h2
 have hus : Rels ρc as us := fitAll.rels hρc hargs hrel
 unfold Oper.wp
 rw [hrun]
 simp only [Oper.upon]
 refine (hc.calls γc ρc _ w hHc hus).mono ?_
 rintro e w' ⟨r, x, γ1, ρ1, Hc', rfl, hR, hx, hH1, hfr, hlen, hkeep⟩
 have hn0 : exIds m Hc ≠ [] → m.Nodup := fun h => by rcases hnd with h' | h'; exact h'; exact absurd h'.1 h
 let up := upId m H.length
 let ρ' : List Value := (List.range H.length).map (fun o => if cs.contains o then (match pos m o 0 with | some j => ρ1.getD j undef | none => undef) else ρ.getD o undef) ++ ρ1.drop m.length
 have hρlen : ρ.length = H.length := hH.len
 have hρ'1 : ∀ (o : Nat) (v : Value), o ∉ cs → ρ[o]? = some v → ρ'[o]? = some v := fun o v h1 h2 => by
  have hlt : o < H.length := by rw [← hρlen]; exact (List.getElem?_eq_some_iff.1 h2).1
  simp only [ρ']
  rw [List.getElem?_append_left (by simpa using hlt)]
  simp [hlt, h1, List.getD, h2]
 have hρ'2 : ∀ (j p : Nat) (v : Value), up j = some p → ρ1[j]? = some v → ρ'[p]? = some v := fun j p v h1 h2 => by
  simp only [up, upId] at h1
  split at h1
  ·rename_i hj
   have hp : p < H.length := by
    obtain ⟨ob, hob⟩ : ∃ ob, Hc[j]? = some ob := ⟨Hc[j]'(by omega), List.getElem?_eq_getElem _⟩
    exact (hmat j p ob h1 hob).1
   by_cases hpc : p ∈ cs
   ·have hn : m.Nodup := hn0 (fun h => by have := (hcx p hpc).1; rw [h] at this; cases this)
    have hps := pos_of (k := 0) hn h1
    simp only [ρ']
    rw [List.getElem?_append_left (by simpa using hp)]
    simp at hps
    simp [hp, hpc, hps, List.getD, h2]
   ·have hjc : j ∉ cons := fun h => hpc (hcs j p h h1)
    have h3 := hkeep j (by omega) hjc
    rw [hρc j p h1] at h3
    exact hρ'1 p v hpc (by rw [← h3]; exact h2)
  ·rename_i hj
   simp at h1
   subst h1
   simp only [ρ']
   rw [List.getElem?_append_right (by simp), List.getElem?_drop]
   simp
   rw [show m.length + (j - m.length) = j by omega]
   exact h2
 let γ' : Nat → Option Nat := fun b => match γ1 b with
  | some j => up j
  | none => if b < w.heap.size then (match γ b with | some o => if ex.contains o then none else some o | none => none) else none
 have hγn : ∀ b o, b < w.heap.size → γ b = some o → o ∉ ex → w'.heap[b]? = w.heap[b]? ∧ γ' b = some o := fun b o hb h1 h2 => by
  obtain ⟨h3, h4⟩ := hfr.keep b hb (hγr o h2 b h1)
  exact ⟨h3, by simp [γ', h4, hb, h1, h2]⟩
 have hγ0 : ∀ b, b < w.heap.size → γ b = none → w'.heap[b]? = w.heap[b]? ∧ γ' b = none := fun b hb h1 => by
  obtain ⟨h3, h4⟩ := hfr.keep b hb (by simp [γc, h1])
  exact ⟨h3, by simp [γ', h4, hb, h1]⟩
 have hback : ∀ (j p : Nat) (ob : AObj), up j = some p → Hc'[j]? = some ob → has γ' ρ' w' p (ob.back up) := fun j p ob h1 h2 => by
  have h0 := hH1.obj j ob h2
  cases ob <;> simp only [AObj.back]
  ·exact trivial
  ·obtain ⟨b, arr, e, h3, h4, h5, h6⟩ := h0
   exact ⟨b, arr, e, hρ'2 _ _ _ h1 h3, by simp [γ', h4, h1], h5, h6.ren hρ'2⟩
  ·exact trivial
  ·rename_i own c
   cases own
   ·exact trivial
   ·obtain ⟨u, h3, h4⟩ := h0
    refine ⟨u, hρ'2 _ _ _ h1 h3, h4.mono fun b hb => ?_⟩
    simp at hb ⊢
    simp [γ', hb, h1]
  ·exact trivial
  ·exact trivial
  ·exact trivial
  ·exact trivial
  ·exact trivial
  ·exact trivial
  ·exact trivial
 have hpast : ∀ (o : Nat) (ob : AObj), o ∉ ex → H[o]? = some ob → o ∉ cs → has γ' ρ' w' o (ob.past ex cs) := fun o ob h1 h2 h3 => by
  have h0 := hH.obj o ob h2
  cases ob <;> simp only [AObj.past]
  ·exact trivial
  ·obtain ⟨b, arr, e, h4, h5, h6, h7⟩ := h0
   obtain ⟨h8, h9⟩ := hγn b o (hH.lab b o h5).2 h5 h1
   exact ⟨b, arr, e, hρ'1 _ _ h3 h4, h9, h8.trans h6, h7.killp hρ'1⟩
  ·obtain ⟨b, arr, e, fz, h4, h5, h6, h7⟩ := h0
   obtain ⟨h8, h9⟩ := hγ0 b (Array.getElem?_eq_some_iff.1 h6).1 h5
   exact ⟨b, arr, e, fz, hρ'1 _ _ h3 h4, h9, h8.trans h6, h7.killp hρ'1⟩
  ·rename_i own c
   obtain ⟨u, h4, h5⟩ := h0
   refine ⟨u, hρ'1 _ _ h3 h4, h5.stay fun b hb hlt => ?_⟩
   cases own <;> simp at hb ⊢
   ·exact hγ0 b hlt hb
   ·exact hγn b o hlt hb h1
  ·rename_i s c
   by_cases hs : s ∈ ex
   ·rw [if_pos (by simpa using hs)]; exact trivial
   ·rw [if_neg (by simpa using hs)]
    obtain ⟨u, h4, h5⟩ := h0
    exact ⟨u, hρ'1 _ _ h3 h4, h5.stay fun b hb hlt => hγn b s hlt hb hs⟩
  ·obtain ⟨h4, arr, e, fz, h5, h6⟩ := h0
   obtain ⟨h8, h9⟩ := hγ0 _ (Array.getElem?_eq_some_iff.1 h5).1 h4
   exact ⟨h9, arr, e, fz, h8.trans h5, h6⟩
  ·rename_i own c i f p
   obtain ⟨b, ofs, cap, h4, h5, h6, h9, h7⟩ := h0
   have hb : b < w.heap.size := h6.block_lt (by simpa [Cont.holed, Cont.len_rows] using Nat.zero_lt_of_lt h5)
   have hst : ∀ b', b' < w.heap.size → (γ b' = if own = true then some o else none) → w'.heap[b']? = w.heap[b']? ∧ (γ' b' = if own = true then some o else none) := fun b' hlt hb' => by
    cases own <;> simp only [Bool.false_eq_true, ↓reduceIte] at hb' ⊢
    ·exact hγ0 b' hlt hb'
    ·exact hγn b' o hlt hb' h1
   refine ⟨b, ofs, cap, hρ'1 _ _ h3 h4, h5, h6.stay fun b hb hlt => hst b hlt hb, (hst b hb h9).2, fun q hq => ?_⟩
   rw [Option.bind_eq_some_iff] at hq
   obtain ⟨r, hr, hrq⟩ := hq
   obtain ⟨v, h8, hv1, h10⟩ := h7 r hr
   split at hrq
   ·cases hrq
   ·rename_i hrc
    simp at hrq; subst hrq
    exact ⟨v, hρ'1 _ _ (by simpa using hrc) h8, hv1, by rw [World.cell?_of_block (w := w) (hst b hb h9).1]; exact h10⟩
  ·obtain ⟨u, h4, h5⟩ := h0
   exact ⟨u, hρ'1 _ _ h3 h4, h5.stay (fun b hb hlt => hγn b o hlt hb h1) (fun b hb hlt => hγ0 b hlt hb)⟩
  ·obtain ⟨u, h4, h5⟩ := h0
   refine ⟨u, hρ'1 _ _ h3 h4, h5.to (fun b hb hlt => hγn b o hlt hb h1) (fun q hq => ?_)⟩
   rw [Option.bind_eq_some_iff] at hq
   obtain ⟨r, hr, hrq⟩ := hq
   split at hrq
   ·cases hrq
   ·rename_i hrc
    simp at hrq; subst hrq
    exact ⟨r, hr, fun v hv => hρ'1 _ _ (by simpa using hrc) hv⟩
  ·obtain ⟨u, h4, h5⟩ := h0
   exact ⟨u, hρ'1 _ _ h3 h4, h5.to (fun b hb hlt => hγn b o hlt hb h1)⟩
  ·refine ExtP.stay _ h0 (fun b hlt hb => ?_) hfr.size (fun b hlt hb => (hγ0 b hlt hb).2) (fun b hlt hb => (hγn b o hlt hb h1).2)
   rcases hb with hb | hb
   ·exact (hγn b o hlt hb h1).1
   ·exact (hγ0 b hlt hb).1
 have hupn : ∀ j p, up j = some p → j < Hc'.length → p < H.length + (Hc'.length - m.length) := fun j p h1 h2 => by
  simp only [up, upId] at h1
  split at h1
  ·rename_i hj
   obtain ⟨ob, hob⟩ : ∃ ob, Hc[j]? = some ob := ⟨Hc[j]'(by omega), List.getElem?_eq_getElem _⟩
   have := (hmat j p ob h1 hob).1; omega
  ·simp at h1; omega
 have hH' : HeapOk γ' ρ' (pastH m Hc cs H Hc') w' := by
  have hl1 : (setAll up m Hc Hc' (H.map (AObj.past ex cs))).length = H.length := by rw [setAll_len]; simp
  refine ⟨?_, fun o ob ho => ?_, fun b o hb => ?_⟩
  ·simp only [pastH, List.length_append, List.length_map, List.length_drop, ρ', List.length_range]
   rw [show (setAll (upId m H.length) m Hc Hc' (H.map (AObj.past (exIds m Hc) cs))).length = H.length from hl1, hH1.len]
  ·unfold pastH at ho
   by_cases hlt : o < H.length
   ·rw [List.getElem?_append_left (by rw [show (setAll (upId m H.length) m Hc Hc' (H.map (AObj.past (exIds m Hc) cs))).length = H.length from hl1]; exact hlt)] at ho
    by_cases hex : o ∈ ex
    ·obtain ⟨j, ob0, h1, h2, h3⟩ := exIds_spec hex
     have hj : j < Hc'.length := by have := (List.getElem?_eq_some_iff.1 h2).1; omega
     rw [setAll_at (hn0 (fun h => by have hex' : o ∈ exIds m Hc := hex; rw [h] at hex'; cases hex')) h1 h2 (List.getElem?_eq_getElem hj) h3 (by simpa using hlt)] at ho
     simp at ho
     subst ho
     have hjm : j < m.length := (List.getElem?_eq_some_iff.1 h1).1
     exact hback j o _ (by simp only [up, upId]; rw [if_pos hjm]; exact h1) (List.getElem?_eq_getElem hj)
    ·rw [setAll_other hex, List.getElem?_map] at ho
     cases hob : H[o]? with
     | none => rw [hob] at ho; cases ho
     | some ob0 =>
       rw [hob] at ho
       simp at ho
       subst ho
       exact hpast o ob0 hex hob (fun h => hex (hcx o h).1)
   ·rw [List.getElem?_append_right (by rw [show (setAll (upId m H.length) m Hc Hc' (H.map (AObj.past (exIds m Hc) cs))).length = H.length from hl1]; omega)] at ho
    rw [show (setAll (upId m H.length) m Hc Hc' (H.map (AObj.past (exIds m Hc) cs))).length = H.length from hl1, List.getElem?_map, List.getElem?_drop] at ho
    cases hob : Hc'[m.length + (o - H.length)]? with
    | none => rw [hob] at ho; cases ho
    | some ob0 =>
      rw [hob] at ho
      simp at ho
      subst ho
      refine hback _ o _ ?_ hob
      simp only [up, upId]
      rw [if_neg (by omega)]
      congr 1
      omega
  ·have hlen' : (pastH m Hc cs H Hc').length = H.length + (Hc'.length - m.length) := by
    simp only [pastH, List.length_append, List.length_map, List.length_drop]
    rw [show (setAll (upId m H.length) m Hc Hc' (H.map (AObj.past (exIds m Hc) cs))).length = H.length from hl1]
   rw [hlen']
   simp only [γ'] at hb
   split at hb
   ·rename_i j hj
    have h1 := hH1.lab b j hj
    exact ⟨hupn j o hb h1.1, h1.2⟩
   ·split at hb
    ·rename_i hlt
     split at hb
     ·rename_i o' ho'
      split at hb
      ·cases hb
      ·simp at hb; subst hb
       have := hH.lab b o' ho'
       exact ⟨by omega, by have := hfr.size; omega⟩
     ·cases hb
    ·cases hb
 have hfr' : Fr γ w γ' w' := ⟨hfr.os, hfr.tape, hfr.output, hfr.size, fun b hb hg => hγ0 b hb hg, hfr.drawn⟩
 have hst' : St N pin πv γ' ρ' ((E.killp cs).put d (x.ren up)) (pastH m Hc cs H Hc') (a.put d r) w' :=
  ⟨by rw [put_size]; exact hst.size, by rw [put_defs]; exact hst.defs.keep hγ0, (hst.env.killp hρ'1).put (fun n hn => by subst hn; rw [hst.size]; simpa [dstOk] using hd) (rel.ren hρ'2 hx), hH',
   fun o ho => hρ'1 o _ (fun h => (hcx o h).2 ho) (hst.pins o ho)⟩
 exact hK r w' γ' ρ' _ _ (hk x Hc' hR hlen) hst' hfr'
theorem OpK_callG {f : FuncId} {as : List AV} {Hc : List AObj} {cons : List Nat} {R : AV → List AObj → Prop} (hc : FnA P f as Hc cons R) {d : Option Nat} {c : Call} {ty : TypeId} {pos' : String} {after : Array Edge} {K : Env → List AObj → Prop} {E : Env} {H : List AObj}
 (m cs : List Nat) (avs : List AV) (hent : ∀ {πv : Pv} {γ : Nat → Option Nat} {ρ : List Value} {a : Act} {w : World}, St N pin πv γ ρ E H a w → ∃ us, (execOp a.eval ⟨d, .call c, ty, pos', after, none⟩).run P w = .ok (.enter f us.toArray) w ∧ Rels ρ avs us) (hargs : fitAll m as avs) (hd : dstOk N d = true)
 (hnd : m.Nodup ∨ (exIds m Hc = [] ∧ cs = [] ∧ cons = [])) (hm : matchAll H m (exIds m Hc) m Hc) (hcs : ∀ (j o : Nat), j ∈ cons → m[j]? = some o → o ∈ cs) (hcx : ∀ o ∈ cs, o ∈ exIds m Hc ∧ o ∉ pin)
 (hk : ∀ x Hc', R x Hc' → Hc.length ≤ Hc'.length → K ((E.killp cs).put d (x.ren (upId m H.length))) (pastH m Hc cs H Hc')) :
 OpK P N pin ⟨d, .call c, ty, pos', after, none⟩ K E H := fun πv γ ρ a w hst K' Q' hK => by
 obtain ⟨us, hrun, hrel⟩ := hent hst
 exact OpK_callP hc m cs avs hst hrun hrel hargs hd hnd hm hcs hcx hk K' Q' hK
def evN (n : Nat) (E : Env) (x : Operand) : AV := match ev E x with | .v (.slice none 0 0) => .sl n | y => y
theorem OpK_callN {f : FuncId} {as : List AV} {Hc : List AObj} {cons : List Nat} {R : AV → List AObj → Prop} (hc : FnA P f as Hc cons R) {d : Option Nat} {c : Call} {ty : TypeId} {pos' : String} {after : Array Edge} {K : Env → List AObj → Prop} {E : Env} {H : List AObj}
 (k0 : Cont) (m cs : List Nat) (hcal : c.callee = .value (.func f)) (hargs : fitAll m as (c.args.toList.map (evN H.length E))) (hd : dstOk N d = true)
 (hnd : m.Nodup ∨ (exIds m Hc = [] ∧ cs = [] ∧ cons = [])) (hm : matchAll (H ++ [.row true k0]) m (exIds m Hc) m Hc) (hcs : ∀ (j o : Nat), j ∈ cons → m[j]? = some o → o ∈ cs) (hcx : ∀ o ∈ cs, o ∈ exIds m Hc ∧ o ∉ pin)
 (hk : ∀ x Hc', R x Hc' → Hc.length ≤ Hc'.length → K ((E.killp cs).put d (x.ren (upId m (H.length + 1)))) (pastH m Hc cs (H ++ [.row true k0]) Hc')) (hk0 : k0.rows = []) :
 OpK P N pin ⟨d, .call c, ty, pos', after, none⟩ K E H := fun πv γ ρ a w hst K' Q' hK => by
 have hst' : St N pin πv γ (ρ ++ [.slice none 0 0]) E (H ++ [.row true k0]) a w := ⟨hst.size, hst.defs, hst.env.ext _, hst.heap.nilrow k0 hk0 none, fun o ho => (getElem?_append_of (hst.pins o ho) _)⟩
 have hrel : Rels (ρ ++ [.slice none 0 0]) (c.args.toList.map (evN H.length E)) (c.args.toList.map a.eval) := by
  have h0 := evs_rel hst'.env c.args.toList
  refine ⟨by simp, fun j x u hx hu => ?_⟩
  rw [List.getElem?_map] at hx
  cases hj : c.args.toList[j]? with
  | none => rw [hj] at hx; cases hx
  | some y =>
    rw [hj] at hx
    simp only [Option.map_some, Option.some.injEq] at hx
    subst hx
    have h1 := h0.2 j (ev E y) u (by rw [List.getElem?_map, hj]; rfl) hu
    unfold evN
    split
    ·rename_i he
     rw [he] at h1
     have h2 : u = .slice none 0 0 := h1
     subst h2
     refine ⟨?_, rfl⟩
     rw [List.getElem?_append_right (by rw [hst.heap.len]; exact Nat.le_refl _), hst.heap.len]; simp
    ·exact h1
 refine OpK_callP hc m cs _ hst' (run_call_enter hc.enters hcal rfl) hrel hargs hd hnd hm hcs hcx (K := K) (fun x Hc' h1 h2 => by have := hk x Hc' h1 h2; rwa [List.length_append] ) K' Q' hK
theorem OpK_call {f : FuncId} {as : List AV} {Hc : List AObj} {cons : List Nat} {R : AV → List AObj → Prop} (hc : FnA P f as Hc cons R) {d : Option Nat} {c : Call} {ty : TypeId} {pos' : String} {after : Array Edge} {K : Env → List AObj → Prop} {E : Env} {H : List AObj}
 (m cs : List Nat) (hcal : c.callee = .value (.func f)) (hargs : fitAll m as (c.args.toList.map (ev E))) (hd : dstOk N d = true)
 (hnd : m.Nodup ∨ (exIds m Hc = [] ∧ cs = [] ∧ cons = [])) (hm : matchAll H m (exIds m Hc) m Hc) (hcs : ∀ (j o : Nat), j ∈ cons → m[j]? = some o → o ∈ cs) (hcx : ∀ o ∈ cs, o ∈ exIds m Hc ∧ o ∉ pin)
 (hk : ∀ x Hc', R x Hc' → Hc.length ≤ Hc'.length → K ((E.killp cs).put d (x.ren (upId m H.length))) (pastH m Hc cs H Hc')) :
 OpK P N pin ⟨d, .call c, ty, pos', after, none⟩ K E H :=
 OpK_callG hc m cs (c.args.toList.map (ev E)) (fun hst => ⟨_, run_call_enter hc.enters hcal rfl, evs_rel hst.env c.args.toList⟩) hargs hd hnd hm hcs hcx hk
def methodF (P : Program) (T : TypeId) (name : String) : Option (FuncId × Bool) :=
 match P.info? T with
 | some i => match i.methods.find? (·.name == name) with
   | some m => if m.path.isEmpty then m.func else none
   | none => none
 | none => none
def RecvP (P : Program) (E : Env) (H : List AObj) (recv : Operand) (name : String) (f : FuncId) (x : AV) : Prop :=
 (∃ o T e, ev E recv = .ip o (.ifc T) ∧ P.underlying T = some (.pointer e) ∧ ((methodF P T name = some (f, true) ∧ x = .pp o 0) ∨ (methodF P T name = some (f, false) ∧ H[o]? = some (.box [x]) ∧ ∃ d, P.underlying e = some d ∧ isAggD d = false))) ∨
 ∃ T cs d, ev E recv = .v (.iface T (.agg (List.toArray cs))) ∧ methodF P T name = some (f, false) ∧ P.underlying T = some d ∧ isAggD d = true ∧ x = .agg (cs.map .v) ∧ cs.all Value.oneCell' = true
theorem wpA_call {f : FuncId} {as : List AV} {Hc : List AObj} {cons : List Nat} {R : AV → List AObj → Prop} (hc : FnA P f as Hc cons R) {ops : Array Oper} {d : Option Nat} {c : Call} {ty : TypeId} {pos' : String} {after : Array Edge} {rest : List Oper} {K : Env → List AObj → Prop} {E : Env} {H : List AObj}
 (m cs : List Nat) (hcal : c.callee = .value (.func f)) (hargs : fitAll m as (c.args.toList.map (ev E))) (hd : dstOk N d = true)
 (hnd : m.Nodup ∨ (exIds m Hc = [] ∧ cs = [] ∧ cons = [])) (hm : matchAll H m (exIds m Hc) m Hc) (hcs : ∀ (j o : Nat), j ∈ cons → m[j]? = some o → o ∈ cs) (hcx : ∀ o ∈ cs, o ∈ exIds m Hc ∧ o ∉ pin)
 (hk : ∀ x Hc', R x Hc' → Hc.length ≤ Hc'.length → wpA P N pin ops rest K ((E.killp cs).put d (x.ren (upId m H.length))) (pastH m Hc cs H Hc')) :
 wpA P N pin ops (⟨d, .call c, ty, pos', after, none⟩ :: rest) K E H :=
 wpA_opK rfl (OpK_call hc m cs hcal hargs hd hnd hm hcs hcx hk)
end Go.Av
