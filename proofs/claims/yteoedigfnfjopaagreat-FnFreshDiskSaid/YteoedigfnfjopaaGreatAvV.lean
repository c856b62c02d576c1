import Derived.Test.YteoedigfnfjopaaGreatAvU
set_option linter.unusedSimpArgs false
set_option linter.unusedVariables false
namespace Go.Av
open Go
section plain
variable {R S V X A : Type}
def chk (p : Prop) [Decidable p] (x : Option R) : Option R := if p then x else none
theorem chk_some {p : Prop} [Decidable p] {x : Option R} {r : R} (h : chk p x = some r) : p ∧ x = some r := by
 unfold chk at h; split at h
 ·exact ⟨‹_›, h⟩
 ·cases h
theorem chk_pos {p : Prop} [Decidable p] {x : Option R} (h : p) : chk p x = x := by simp [chk, h]
theorem bind_some {x : Option A} {f : A → Option R} {r : R} (h : x.bind f = some r) : ∃ a, x = some a ∧ f a = some r := Option.bind_eq_some_iff.1 h
theorem bite_t {b : Bool} {x y : Option R} {r : R} (h : (if b then x else y) = some r) (hb : b = true) : x = some r := by subst hb; simpa using h
theorem bite_f {b : Bool} {x y : Option R} {r : R} (h : (if b then x else y) = some r) (hb : b = false) : y = some r := by subst hb; simpa using h
open Classical in
noncomputable def both (p : Prop) (f : Bool → Option R) : Option R := if p ∧ f true ≠ f false then none else f false
theorem both_some {p : Prop} {f : Bool → Option R} {r : R} (h : both p f = some r) (b : Bool) (hb : b = true → p) : f b = some r := by
 unfold both at h
 split at h
 ·cases h
 ·rename_i hn
  cases b
  ·exact h
  ·by_cases he : f true = f false
   ·rw [he]; exact h
   ·exact absurd ⟨hb rfl, he⟩ hn
theorem both_eq {p : Prop} {f : Bool → Option R} (h : p → f true = f false) : both p f = f false := by
 unfold both
 split
 ·rename_i hn; exact absurd (h hn.1) hn.2
 ·rfl
def join (f : (V → Option R) → Option R) (k : V → Option R) : Option R := f k
def loopN (body : S → Option (S ⊕ X)) : Nat → S → Option X
 | 0, _ => none
 | n + 1, s => match body s with
   | none => none
   | some (.inl s') => loopN body n s'
   | some (.inr x) => some x
theorem loopN_mono {body : S → Option (S ⊕ X)} : ∀ {n m : Nat} {s : S} {x : X}, loopN body n s = some x → n ≤ m → loopN body m s = some x
 | 0, _, _, _, h, _ => by cases h
 | n + 1, 0, _, _, _, hm => by omega
 | n + 1, m + 1, s, x, h, hm => by
   unfold loopN at h ⊢
   cases hb : body s with
   | none => rw [hb] at h; cases h
   | some r =>
     rw [hb] at h
     cases r with
     | inl s' => exact loopN_mono (n := n) (m := m) h (by omega)
     | inr y => exact h
open Classical in
noncomputable def loop (body : S → Option (S ⊕ X)) (s : S) : Option X := if h : ∃ n x, loopN body n s = some x then loopN body h.choose s else none
theorem loop_some {body : S → Option (S ⊕ X)} {s : S} {x : X} : loop body s = some x ↔ ∃ n, loopN body n s = some x := by
 unfold loop
 constructor
 ·intro h
  split at h
  ·exact ⟨_, h⟩
  ·cases h
 ·intro ⟨n, hn⟩
  have hex : ∃ n x, loopN body n s = some x := ⟨n, x, hn⟩
  rw [dif_pos hex]
  obtain ⟨y, hy⟩ := hex.choose_spec
  rw [hy]
  have h1 := loopN_mono hn (Nat.le_max_left n hex.choose)
  have h2 := loopN_mono hy (Nat.le_max_right n hex.choose)
  rw [h1] at h2; exact h2.symm
theorem loop_eq (body : S → Option (S ⊕ X)) (s : S) : loop body s = match body s with | none => none | some (.inl s') => loop body s' | some (.inr x) => some x := by
 apply Option.ext
 intro x
 rw [loop_some]
 constructor
 ·intro ⟨n, hn⟩
  cases n with
  | zero => cases hn
  | succ n =>
    unfold loopN at hn
    cases hb : body s with
    | none => rw [hb] at hn; cases hn
    | some r =>
      rw [hb] at hn
      cases r with
      | inl s' => exact loop_some.2 ⟨n, hn⟩
      | inr y => exact hn
 ·intro h
  cases hb : body s with
  | none => rw [hb] at h; cases h
  | some r =>
    rw [hb] at h
    cases r with
    | inl s' =>
      obtain ⟨n, hn⟩ := loop_some.1 h
      exact ⟨n + 1, by unfold loopN; rw [hb]; exact hn⟩
    | inr y => exact ⟨1, by unfold loopN; rw [hb]; exact h⟩
def gives (x : Option A) (Q : A → Prop) : Prop := ∃ a, x = some a ∧ Q a
theorem gives_some {a : A} {Q : A → Prop} : gives (some a) Q ↔ Q a := ⟨fun ⟨b, h, q⟩ => by cases h; exact q, fun q => ⟨a, rfl, q⟩⟩
theorem gives_none {Q : A → Prop} : gives none Q ↔ False := ⟨fun ⟨_, h, _⟩ => (by cases h), False.elim⟩
theorem gives_chk {p : Prop} [Decidable p] {x : Option A} {Q : A → Prop} : gives (chk p x) Q ↔ p ∧ gives x Q := by
 unfold chk; split
 ·rename_i h; exact ⟨fun q => ⟨h, q⟩, fun q => q.2⟩
 ·rename_i h; exact ⟨fun q => (gives_none.1 q).elim, fun q => absurd q.1 h⟩
theorem gives_ite {c : Prop} [Decidable c] {a b : Option A} {Q : A → Prop} : gives (if c then a else b) Q ↔ (c → gives a Q) ∧ (¬ c → gives b Q) := by
 split <;> rename_i h <;> simp [h]
theorem gives_bind {B : Type} {x : Option B} {f : B → Option A} {Q : A → Prop} : gives (x.bind f) Q ↔ gives x fun b => gives (f b) Q := by
 cases x <;> simp [gives]
theorem gives_join {f : (V → Option A) → Option A} {k : V → Option A} {Q : A → Prop} : gives (join f k) Q ↔ gives (f k) Q := Iff.rfl
theorem gives.mono {x : Option A} {Q Q' : A → Prop} (h : gives x Q) (hq : ∀ a, Q a → Q' a) : gives x Q' := let ⟨a, h1, h2⟩ := h; ⟨a, h1, hq a h2⟩
theorem gives.of {x : Option A} {a : A} {Q : A → Prop} (h : x = some a) (hq : Q a) : gives x Q := ⟨a, h, hq⟩
theorem gives_eq {x : Option A} {a : A} : gives x (fun b => b = a) ↔ x = some a := ⟨fun ⟨b, h, e⟩ => by subst e; exact h, fun h => ⟨a, h, rfl⟩⟩
theorem gives_loop {σ : Type} (st : σ → S) (ok : σ → Prop) (m : σ → Nat) {body : S → Option (S ⊕ X)} {Q : X → Prop}
 (h : ∀ s, ok s → gives (body (st s)) fun r => match r with | .inl t => ∃ s', ok s' ∧ m s' < m s ∧ t = st s' | .inr x => Q x) (s : σ) (hs : ok s) : gives (loop body (st s)) Q := by
 generalize hn : m s = n
 induction n using Nat.strongRecOn generalizing s with
 | _ n ih =>
   obtain ⟨r, h1, h2⟩ := h s hs
   rw [loop_eq, h1]
   cases r with
   | inl t =>
     obtain ⟨s', h3, h4, rfl⟩ := h2
     exact ih _ (hn ▸ h4) s' h3 rfl
   | inr x => exact ⟨x, rfl, h2⟩
end plain
variable {P : Program} {N : Nat} {pin : List Nat} {rq : Option Nat}
theorem awp_to (E1 : Env) (H1 : List AObj) {x y : Code} {Q : Exit → Env → List AObj → Prop} {E : Env} {H : List AObj}
 (hx : ∀ K : Env → List AObj → Prop, (∀ E' H', Red N pin E' H' E1 H1 → K E' H') → awp rq P N pin x (Thn K Q) E H) (hy : awp rq P N pin y Q E1 H1) : awp rq P N pin (.seq x y) Q E H :=
 awp_seq fun K hK => awp_mono (hx (fun E' H' => Red N pin E' H' E1 H1) fun _ _ h => h) fun e E' H' hq => by
  cases e with
  | normal => exact hK _ _ (awp_red hq hy)
  | _ => exact hq
theorem awp_end (E1 : Env) (H1 : List AObj) {x : Code} {Q : Exit → Env → List AObj → Prop} {E : Env} {H : List AObj}
 (hx : ∀ K : Env → List AObj → Prop, (∀ E' H', Red N pin E' H' E1 H1 → K E' H') → awp rq P N pin x (Thn K Q) E H) (hy : Q .normal E1 H1) : awp rq P N pin x Q E H := fun πv γ ρ a w hst =>
 wpIn_mono (hx (fun E' H' => Red N pin E' H' E1 H1) (fun _ _ h => h) πv γ ρ a w hst) fun e a w ⟨γ2, ρ2, E2, H2, hq, hs, hf⟩ => by
 cases e with
 | normal =>
   obtain ⟨γ3, ρ3, h1, h2⟩ := hq πv γ2 ρ2 a w hs
   exact ⟨γ3, ρ3, E1, H1, hy, h1, hf.trans h2⟩
 | _ => exact ⟨γ2, ρ2, E2, H2, hq, hs, hf⟩
theorem Red.nilCell {E : Env} {H : List AObj} {o i : Nat} {cells : List AV} (c : Cont) (hc : c.rows = []) (h : H[o]? = some (.box cells)) (hi : cells[i]? = some (.v (.slice none 0 0))) :
 Red N pin E H E ((H ++ [AObj.row true c]).set o (.box (cells.set i (.sl H.length)))) := fun πv γ ρ a w hst => by
 have ho : o < H.length := (List.getElem?_eq_some_iff.1 h).1
 have h1 := hst.heap.nilrow c hc none
 refine ⟨γ, ρ ++ [.slice none 0 0], ⟨hst.size, hst.defs, hst.env.ext _, ⟨by simp [hst.heap.len], fun p ob hp => ?_, fun b p hb => ?_⟩, fun p hp => (pins_ext hst _ p hp).trans (hst.pins p hp)⟩, Fr.refl _ _⟩
 ·by_cases hpo : p = o
  ·subst hpo
   rw [List.getElem?_set_self (by simp; omega)] at hp
   cases hp
   obtain ⟨b, arr, e, h2, h3, h4, h5⟩ := hst.heap.obj p _ h
   refine ⟨b, arr, e, getElem?_append_of h2 _, h3, h4, by simpa using h5.1, fun j x u hx hu => ?_⟩
   by_cases hji : j = i
   ·subst hji
    have hlt : j < cells.length := (List.getElem?_eq_some_iff.1 hi).1
    rw [List.getElem?_set_self hlt] at hx
    cases hx
    have := h5.2 j _ u hi hu
    simp only [rel1] at this ⊢
    refine ⟨?_, this.1 ▸ this.2⟩
    rw [this.1, ← hst.heap.len]; simp
   ·rw [List.getElem?_set_ne (by omega)] at hx
    exact (h5.2 j x u hx hu).ext _
  ·rw [List.getElem?_set_ne (by omega)] at hp
   exact h1.obj p ob hp
 ·obtain ⟨h2, h3⟩ := h1.lab b p hb
  exact ⟨by simpa using h2, h3⟩
theorem awp_join {V R : Type} {f : (V → Option R) → Option R} {k : V → Option R} {r : R} (h : join f k = some r) (I : V → Env) (J : V → List AObj) {x y : Code} {Q : Exit → Env → List AObj → Prop} {E : Env} {H : List AObj}
 (hx : ∀ k' : V → Option R, f k' = some r → awp rq P N pin x (Thn (fun E' H' => ∃ v, k' v = some r ∧ Red N pin E' H' (I v) (J v)) Q) E H)
 (hy : ∀ v, k v = some r → awp rq P N pin y Q (I v) (J v)) : awp rq P N pin (.seq x y) Q E H :=
 awp_seq fun K hK => awp_mono (hx k h) fun e E' H' hq => by
  cases e with
  | normal => obtain ⟨v, h1, h2⟩ := hq; exact hK _ _ (awp_red h2 (hy v h1))
  | _ => exact hq
section
variable (N pin)
def LoopQ {S X : Type} (I : S → Env) (J : S → List AObj) (ex : X → Exit) (IX : X → Env) (JX : X → List AObj) (r : S ⊕ X) : Exit → Env → List AObj → Prop := fun e E' H' =>
 match r with
 | .inl s' => e = .normal ∧ Red N pin E' H' (I s') (J s')
 | .inr y => e = ex y ∧ Red N pin E' H' (IX y) (JX y)
end
theorem LoopQ.next {S X : Type} {I : S → Env} {J : S → List AObj} {ex : X → Exit} {IX : X → Env} {JX : X → List AObj} {s : S} {E : Env} {H : List AObj} (h : Red N pin E H (I s) (J s)) : LoopQ N pin I J ex IX JX (.inl s) .normal E H := ⟨rfl, h⟩
theorem LoopQ.out {S X : Type} {I : S → Env} {J : S → List AObj} {ex : X → Exit} {IX : X → Env} {JX : X → List AObj} {y : X} {e : Exit} {E : Env} {H : List AObj} (he : e = ex y) (h : Red N pin E H (IX y) (JX y)) : LoopQ N pin I J ex IX JX (.inr y) e E H := ⟨he, h⟩
theorem awp_loopL {S X : Type} {body : S → Option (S ⊕ X)} {s0 : S} {x : X} (hx : loop body s0 = some x) (I : S → Env) (J : S → List AObj) (ex : X → Exit) (IX : X → Env) (JX : X → List AObj) {c : Code} {Q : Exit → Env → List AObj → Prop} {E : Env} {H : List AObj}
 (hex : ∀ y, ex y ≠ .normal) (h0 : Red N pin E H (I s0) (J s0))
 (round : ∀ s r, body s = some r → awp rq P N pin c (LoopQ N pin I J ex IX JX r) (I s) (J s))
 (rest : Q (ex x) (IX x) (JX x)) : awp rq P N pin (.loop c) Q E H := by
 obtain ⟨n, hn⟩ := loop_some.1 hx
 have key : awp rq P N pin (.loop c) (fun e E' H' => e = ex x ∧ Red N pin E' H' (IX x) (JX x)) E H := by
  refine awp_loop (σ := Nat × S) (fun s => loopN body s.1 s.2 = some x) (fun s => I s.2) (fun s => J s.2) (fun s => s.1) (n, s0) hn h0 ?_
  rintro ⟨k, s⟩ hs
  cases k with
  | zero => cases hs
  | succ k =>
    unfold loopN at hs
    cases hb : body s with
    | none => rw [hb] at hs; cases hs
    | some r =>
      rw [hb] at hs
      refine awp_mono (round s r hb) fun e E' H' hq => ?_
      cases r with
      | inl s' =>
        obtain ⟨rfl, hq⟩ := hq
        exact ⟨(k, s'), hs, Nat.lt_succ_self _, hq⟩
      | inr y =>
        obtain rfl : y = x := by simpa using hs
        obtain ⟨rfl, hq⟩ := hq
        have := hex y
        cases hy : ex y <;> first | exact absurd hy this | exact ⟨rfl, hq⟩
 intro πv γ ρ a w hst
 refine wpIn_mono (key πv γ ρ a w hst) fun e a w ⟨γ2, ρ2, E2, H2, ⟨he, hq⟩, hs, hf⟩ => ?_
 obtain ⟨γ3, ρ3, h1, h2⟩ := hq πv γ2 ρ2 a w hs
 exact ⟨γ3, ρ3, _, _, he ▸ rest, h1, hf.trans h2⟩
section
variable (P : Program) (N : Nat) (pin : List Nat) (ft : FuncId → Option (List Value → Option (Prop × Value)))
theorem vcD_nil (ops : Array Oper) (R : List AObj) (K : Env → List AObj → Prop) (E : Env) (H : List AObj) : vcD P N pin ft ops R [] K E H = K E H := rfl
theorem vcD_cons (ops : Array Oper) (R : List AObj) (i : Nat) (q : Bool) (r : List (Nat × Bool)) (K : Env → List AObj → Prop) (E : Env) (H : List AObj) : vcD P N pin ft ops R ((i, q) :: r) K E H = (match ops[i]? with
 | none => False
 | some o => match o.guard with
   | none => vcD1 P N pin ft R o q (vcD P N pin ft ops R r K) E H
   | some (j, want) => match guardV E ops j with
     | some (d, b) => (b = want → vcD1 P N pin ft R o q (vcD P N pin ft ops R r K) ((d, .v (.bool want)) :: E) H) ∧ (b = !want → dstOk N o.dst = true ∧ vcD P N pin ft ops R r K (Env.put ((d, .v (.bool !want)) :: E) o.dst skipV) H)
     | none => match guardU E ops j with
       | true => dstOk N o.dst = true ∧ vcD P N pin ft ops R r K (Env.put E o.dst skipV) H
       | false => False) := rfl
end
inductive Sch where
 | fin
 | free (i : Nat) (r : Sch)
 | one (i : Nat) (r : Sch)
 | two (i j : Nat) (ri rj : Sch)
def Sch.len : Sch → Nat
 | .fin => 0
 | .free _ r => r.len + 1
 | .one _ r => r.len + 1
 | .two _ _ r _ => r.len + 1
section
variable (P : Program) (N : Nat) (pin : List Nat) (ft : FuncId → Option (List Value → Option (Prop × Value)))
def opS (ops : Array Oper) (R : List AObj) (i : Nat) (q : Bool) (K : Env → List AObj → Prop) (E : Env) (H : List AObj) : Prop :=
 match ops[i]? with
 | none => False
 | some o => match o.guard with
   | none => vcD1 P N pin ft R o q K E H
   | some (j, want) => match guardV E ops j with
     | some (d, b) => (b = want → vcD1 P N pin ft R o q K ((d, .v (.bool want)) :: E) H) ∧ (b = !want → dstOk N o.dst = true ∧ K (Env.put ((d, .v (.bool !want)) :: E) o.dst skipV) H)
     | none => match guardU E ops j with
       | true => dstOk N o.dst = true ∧ K (Env.put E o.dst skipV) H
       | false => False
def vcT (ops : Array Oper) (R : List AObj) : Sch → (Env → List AObj → Prop) → Env → List AObj → Prop
 | .fin, K, E, H => K E H
 | .free i r, K, E, H => opS P N pin ft ops R i true (vcT ops R r K) E H
 | .one i r, K, E, H => opS P N pin ft ops R i false (vcT ops R r K) E H
 | .two i j ri rj, K, E, H => opS P N pin ft ops R i false (vcT ops R ri K) E H ∧ opS P N pin ft ops R j false (vcT ops R rj K) E H
theorem vcT_fin (ops : Array Oper) (R : List AObj) (K : Env → List AObj → Prop) (E : Env) (H : List AObj) : vcT P N pin ft ops R .fin K E H = K E H := rfl
theorem vcT_free (ops : Array Oper) (R : List AObj) (i : Nat) (r : Sch) (K : Env → List AObj → Prop) (E : Env) (H : List AObj) : vcT P N pin ft ops R (.free i r) K E H = opS P N pin ft ops R i true (vcT P N pin ft ops R r K) E H := rfl
theorem vcT_one (ops : Array Oper) (R : List AObj) (i : Nat) (r : Sch) (K : Env → List AObj → Prop) (E : Env) (H : List AObj) : vcT P N pin ft ops R (.one i r) K E H = opS P N pin ft ops R i false (vcT P N pin ft ops R r K) E H := rfl
theorem vcT_two (ops : Array Oper) (R : List AObj) (i j : Nat) (ri rj : Sch) (K : Env → List AObj → Prop) (E : Env) (H : List AObj) : vcT P N pin ft ops R (.two i j ri rj) K E H =
 (opS P N pin ft ops R i false (vcT P N pin ft ops R ri K) E H ∧ opS P N pin ft ops R j false (vcT P N pin ft ops R rj K) E H) := rfl
end
def schT (ops : Array Oper) : Sch → Array Bool → Bool
 | .fin, listed => (Region.ready .any ops listed).isEmpty
 | .free i r, listed => Region.free .any ops listed i && (Region.ready .any ops listed).contains i && schT ops r (listed.setIfInBounds i true)
 | .one i r, listed => (Region.ready .any ops listed == [i]) && schT ops r (listed.setIfInBounds i true)
 | .two i j ri rj, listed => (Region.ready .any ops listed == [i, j]) && schT ops ri (listed.setIfInBounds i true) && schT ops rj (listed.setIfInBounds j true) && (ri.len == rj.len)
def schTOk (ops : Array Oper) (s : Sch) : Bool := s.len == ops.size && Region.noSelect ops && schT ops s (Array.replicate ops.size false)
section
variable {ft : FuncId → Option (List Value → Option (Prop × Value))} {γ γ0 : Nat → Option Nat} {ρ ρ0 : List Value} {H0 : List AObj} {w0 : World} {πv : Pv} {ops : Array Oper} {K : Env → List AObj → Prop}
theorem opS_cases {R : List AObj} {i : Nat} {q : Bool} {E : Env} {H : List AObj} {a : Act} {w : World} (h : opS P N pin ft ops R i q K E H) (hst : St N pin πv γ ρ E H a w) :
 ∃ o, ops[i]? = some o ∧ ((∃ E1, St N pin πv γ ρ E1 H a w ∧ Region.wanted o (yielded ops a.tmps) = true ∧ vcD1 P N pin ft R o q K E1 H) ∨
  (∃ E1, EnvOk ρ E1 a.tmps ∧ Region.wanted o (yielded ops a.tmps) = false ∧ dstOk N o.dst = true ∧ K (Env.put E1 o.dst skipV) H)) := by
 unfold opS at h
 split at h
 ·exact h.elim
 ·rename_i o ho
  refine ⟨o, ho, ?_⟩
  split at h
  ·rename_i hg
   exact .inl ⟨E, hst, by simp [Region.wanted, hg], h⟩
  ·rename_i j want hg
   split at h
   ·rename_i d b hgv
    unfold guardV at hgv
    split at hgv
    ·rename_i oj hoj
     split at hgv
     ·rename_i d' hd'
      split at hgv
      ·rename_i b' hb'
       simp at hgv
       obtain ⟨rfl, rfl⟩ := hgv
       have hk := hst.know hb'
       have hy : yielded ops a.tmps j = some b' := by
        have := hk.1
        simp only [Array.getD_eq_getD_getElem?] at this
        cases hx : a.tmps[d']? with
        | none => rw [hx] at this; simp [undef] at this
        | some v => rw [hx] at this; simp at this; subst this; simp [yielded, hoj, hd', hx]
       by_cases hb : b' = want
       ·subst hb
        exact .inl ⟨_, hk.2, by simp [Region.wanted, hg, hy], h.1 rfl⟩
       ·have hb2 : b' = !want := by cases b' <;> cases want <;> simp_all
        obtain ⟨h1, h2⟩ := h.2 hb2
        subst hb2
        exact .inr ⟨_, hk.2.env, by simp [Region.wanted, hg, hy], h1, h2⟩
      ·cases hgv
     ·cases hgv
    ·cases hgv
   ·split at h
    ·rename_i hu
     have hy := guardU_spec hst.env hu
     exact .inr ⟨E, hst.env, by simp [Region.wanted, hg, hy], h.1, h.2⟩
    ·exact h.elim
theorem vcT_sound (hft : PTab P ft) (hsel : Region.noSelect ops = true) (hro : ∀ {γ : Nat → Option Nat} {ρ : List Value} {E : Env} {H : List AObj} {a : Act} {w w1 : World}, St N pin πv γ ρ E H a w → SW γ0 w0 w1 → Rd γ0 ρ (roH H0) w1) :
 ∀ {s : Sch} {listed : Array Bool} {γ : Nat → Option Nat} {ρ : List Value} {E : Env} {H : List AObj} {a : Act} {w : World}, schT ops s listed = true → vcT P N pin ft ops (roH H0) s K E H →
  St N pin πv γ ρ E H a w → Fr γ0 w0 γ w →
  wpAnyH P .any ops (fun e a' w' => e = .normal ∧ ∃ γ' ρ' E' H', K E' H' ∧ St N pin πv γ' ρ' E' H' a' w' ∧ Fr γ0 w0 γ' w') (SW γ0 w0) s.len listed a w := by
 have hS : ∀ {γ' : Nat → Option Nat} {w' : World}, Fr γ0 w0 γ' w' → SW γ0 w0 w' := fun hf => ⟨hf.size, fun b hb hg => (hf.keep b hb hg).1⟩
 have step : ∀ {i : Nat} {r : Sch} {listed : Array Bool} {γ : Nat → Option Nat} {ρ : List Value} {E : Env} {H : List AObj} {a : Act} {w : World},
  (∀ {γ : Nat → Option Nat} {ρ : List Value} {E : Env} {H : List AObj} {a : Act} {w : World}, vcT P N pin ft ops (roH H0) r K E H → St N pin πv γ ρ E H a w → Fr γ0 w0 γ w →
   wpAnyH P .any ops (fun e a' w' => e = .normal ∧ ∃ γ' ρ' E' H', K E' H' ∧ St N pin πv γ' ρ' E' H' a' w' ∧ Fr γ0 w0 γ' w') (SW γ0 w0) r.len (listed.setIfInBounds i true) a w) →
  opS P N pin ft ops (roH H0) i false (vcT P N pin ft ops (roH H0) r K) E H → St N pin πv γ ρ E H a w → Fr γ0 w0 γ w →
  wpOp P ops (fun e a' w' => e = .normal ∧ ∃ γ' ρ' E' H', K E' H' ∧ St N pin πv γ' ρ' E' H' a' w' ∧ Fr γ0 w0 γ' w') i
   (fun a' w' => SW γ0 w0 w' ∧ wpAnyH P .any ops (fun e a' w' => e = .normal ∧ ∃ γ' ρ' E' H', K E' H' ∧ St N pin πv γ' ρ' E' H' a' w' ∧ Fr γ0 w0 γ' w') (SW γ0 w0) r.len (listed.setIfInBounds i true) a' w') a w := by
  intro i r listed γ ρ E H a w hc h hst hfr
  obtain ⟨o, ho, ⟨E1, hst1, hw, h⟩ | ⟨E1, hE1, hw, hd, h⟩⟩ := opS_cases h hst
  ·unfold wpOp
   simp only [ho]
   rw [if_pos hw]
   left
   refine vcD1_effect hft h πv γ ρ a w hst1 _ _ fun v w' γ' ρ' E' H' hk hst' hfr' => ?_
   have hf2 := hfr.trans hfr'
   exact ⟨hS hf2, hc hk hst' hf2⟩
  ·have hst1 : St N pin πv γ ρ (Env.put E1 o.dst skipV) H (a.put o.dst undef) w := hst.put (v := undef) (x := skipV) hd rfl hE1 hst.heap (fun _ _ => rfl)
   unfold wpOp
   simp only [ho]
   rw [if_neg (by simp [hw])]
   exact ⟨hS hfr, hc h hst1 hfr⟩
 intro s
 induction s with
 | fin =>
   intro listed γ ρ E H a w hs h hst hfr
   exact wpAnyH_done (by simpa [schT] using hs) ⟨rfl, γ, ρ, E, H, h, hst, hfr⟩ 0
 | free i r ih =>
   intro listed γ ρ E H a w hs h hst hfr
   simp only [schT, Bool.and_eq_true] at hs
   obtain ⟨⟨hfree, hready⟩, hs'⟩ := hs
   obtain ⟨o, ho, ⟨E1, hst1, hw, h⟩ | ⟨E1, hE1, hw, hd, h⟩⟩ := opS_cases h hst
   ·simp only [vcD1] at h
    split at h
    ·rename_i hd
     split at h
     ·rename_i p x hq
      split at h
      ·rename_i hdet
       obtain ⟨v, h1, h2⟩ := quiet_run hst1.env (hro hst (hS hfr)) hq h.1
       refine wpAnyH_take (v := v) ho hsel hfree hready (fun c a w hx => by cases hx.1) (.inl ⟨hw, fun w1 hw1 => ?_⟩) (hS hfr) ?_
       ·obtain ⟨v', h3, h4⟩ := quiet_run hst1.env (hro hst hw1) hq h.1
        have := rel.det hdet h2 h4
        subst this
        exact h3
       ·exact ih hs' h.2 (hst1.put hd h2 hst1.env hst1.heap (fun _ _ => rfl)) hfr
      ·exact h.elim
     ·exact h.elim
    ·exact h.elim
   ·have hst1 : St N pin πv γ ρ (Env.put E1 o.dst skipV) H (a.put o.dst undef) w := hst.put (v := undef) (x := skipV) hd rfl hE1 hst.heap (fun _ _ => rfl)
    exact wpAnyH_take (v := undef) ho hsel hfree hready (fun c a w hx => by cases hx.1) (.inr ⟨hw, rfl⟩) (hS hfr) (ih hs' h hst1 hfr)
 | one i r ih =>
   intro listed γ ρ E H a w hs h hst hfr
   simp only [schT, Bool.and_eq_true, beq_iff_eq] at hs
   obtain ⟨hready, hs'⟩ := hs
   refine wpAnyH_all hready (by simp) fun j hj => ?_
   simp at hj
   subst hj
   exact step (fun h hst hfr => ih hs' h hst hfr) h hst hfr
 | two i j ri rj ihi ihj =>
   intro listed γ ρ E H a w hs h hst hfr
   simp only [schT, Bool.and_eq_true, beq_iff_eq] at hs
   obtain ⟨⟨⟨hready, hsi⟩, hsj⟩, hlen⟩ := hs
   refine wpAnyH_all hready (by simp) fun k hk => ?_
   simp at hk
   rcases hk with rfl | rfl
   ·exact step (fun h hst hfr => ihi hsi h hst hfr) h.1 hst hfr
   ·rw [hlen]
    exact step (fun h hst hfr => ihj hsj h hst hfr) h.2 hst hfr
def refIn (pins : List Nat) : AV → Bool
 | .sl o => pins.contains o
 | .pp o _ => pins.contains o
 | .ep o _ _ _ => pins.contains o
 | .ip o _ => pins.contains o
 | _ => true
def pinOb (pins : List Nat) (i : Nat) : AObj → Bool
 | .rbox cells => pins.contains i && cells.all (refIn pins)
 | .row false _ => pins.contains i
 | _ => true
def pinsFrom (pins : List Nat) (i : Nat) : List AObj → Bool
 | [] => true
 | ob :: r => pinOb pins i ob && pinsFrom pins (i + 1) r
theorem pinsFrom_get {pins : List Nat} : ∀ {H : List AObj} {i k : Nat} {ob : AObj}, pinsFrom pins i H = true → H[k]? = some ob → pinOb pins (i + k) ob = true
 | [], _, _, _, _, h => by simp at h
 | x :: r, i, 0, ob, h, hk => by
   simp only [List.getElem?_cons_zero, Option.some.injEq] at hk
   subst hk
   simp only [pinsFrom, Bool.and_eq_true] at h
   exact h.1
 | x :: r, i, k + 1, ob, h, hk => by
   simp only [List.getElem?_cons_succ] at hk
   simp only [pinsFrom, Bool.and_eq_true] at h
   have := pinsFrom_get h.2 hk
   rwa [show i + 1 + k = i + (k + 1) from by omega] at this
theorem roRdP {γ0 : Nat → Option Nat} {ρ ρ0 : List Value} {H0 : List AObj} {w w0 : World} {pins : List Nat} (hH : HeapOk γ0 ρ0 H0 w0) (hp : pinsFrom pins 0 H0 = true) (hρ : ∀ i ∈ pins, ∀ x : Value, ρ0[i]? = some x → ρ[i]? = some x) (hS : SW γ0 w0 w) : Rd γ0 ρ (roH H0) w := by
 intro o ob ho
 simp only [roH, List.getElem?_map] at ho
 cases hob : H0[o]? with
 | none => rw [hob] at ho; cases ho
 | some ob0 =>
   rw [hob] at ho
   simp at ho
   subst ho
   have h0 := hH.obj o ob0 hob
   have hpo := pinsFrom_get hp hob
   rw [Nat.zero_add] at hpo
   cases ob0 <;> simp only [roOb]
   ·exact trivial
   ·exact trivial
   ·obtain ⟨b, arr, e, fz, h1, h2, h3, h4⟩ := h0
    simp only [pinOb, Bool.and_eq_true, List.contains_iff_mem, List.all_eq_true] at hpo
    refine ⟨b, arr, e, fz, hρ _ hpo.1 _ h1, h2, (hS.2 b (Array.getElem?_eq_some_iff.1 h3).1 h2).trans h3, h4.1, fun j x u hx hu => ?_⟩
    have := h4.2 j x u hx hu
    have hr := hpo.2 x (List.mem_of_getElem? hx)
    cases x <;> simp only [rel1, refIn, List.contains_iff_mem] at this hr ⊢
    ·exact this
    ·exact this
    ·exact ⟨hρ _ hr _ this.1, this.2⟩
    ·obtain ⟨b, k1, k2⟩ := this; exact ⟨b, hρ _ hr _ k1, k2⟩
    ·obtain ⟨b, ofs, n, cap, k1, k2⟩ := this; exact ⟨b, ofs, n, cap, hρ _ hr _ k1, k2⟩
    ·obtain ⟨b, k1, k2⟩ := this; exact ⟨b, hρ _ hr _ k1, k2⟩
   ·rename_i own c
    cases own
    ·obtain ⟨u, h1, h2⟩ := h0
     simp only [pinOb, List.contains_iff_mem] at hpo
     exact ⟨u, hρ _ hpo _ h1, h2.stay fun b hb hlt => ⟨hS.2 b hlt (by simpa using hb), hb⟩⟩
    ·exact trivial
   ·exact trivial
   ·obtain ⟨h1, arr, e, fz, h2, h3⟩ := h0
    exact ⟨h1, arr, e, fz, (hS.2 _ (Array.getElem?_eq_some_iff.1 h2).1 h1).trans h2, h3⟩
   ·exact trivial
   ·exact trivial
   ·exact trivial
   ·exact trivial
   ·exact trivial
theorem awp_drawG (pins : List Nat) (hm : P.follows .mixedOrders = true) (hft : PTab P ft) {id : Nat} {l : List Oper} {Q : Exit → Env → List AObj → Prop} {E : Env} {H : List AObj} (s : Sch)
 (hB : schTOk l.toArray s = true) (hp : ∀ o ∈ pin, o ∈ pins) (hlt : ∀ o ∈ pins, o < H.length) (hrd : ∀ {γ : Nat → Option Nat} {ρ ρ1 : List Value} {w w1 : World}, HeapOk γ ρ H w → (∀ i ∈ pins, ρ1[i]? = some (ρ.getD i undef)) → SW γ w w1 → Rd γ ρ1 (roH H) w1) (h : vcT P N pins ft l.toArray (roH H) s (fun E H => Q .normal E H) E H) (hnd : noDefer l.toArray = true := by rfl) : awp rq P N pin (.region id l.toArray true) Q E H := fun πv γ ρ a w hst => by
 simp only [schTOk, Bool.and_eq_true, beq_iff_eq] at hB
 obtain ⟨⟨hlen, hsel⟩, hsch⟩ := hB
 let w1 : World := { w with drawn := w.drawn + 1 }
 have hfr1 : Fr γ w γ w1 := Fr.drew γ w _ (Nat.le_succ _)
 have hH1 : HeapOk γ ρ H w1 := hst.heap.grow (fun _ _ => rfl) (Nat.le_refl _)
 have hpins : ∀ o, o ∈ pins → ρ[o]? = some (ρ.getD o undef) := fun o ho => by
  have : o < ρ.length := by rw [hH1.len]; exact hlt o ho
  simp [List.getD, this]
 have hst1 : St N pins ⟨fun o => ρ.getD o undef, πv.z⟩ γ ρ E H a w1 := ⟨hst.size, hst.defs.keep hfr1.keep, hst.env, hH1, fun o ho => hpins o ho⟩
 have key := vcT_sound hft hsel (fun hs hw => hrd hH1 (fun i hi => hs.pins i hi) hw) hsch h hst1 (Fr.refl γ w1)
 rw [hlen] at key
 refine wpIn_mono (wpIn_any hnd (fun _ _ h => by cases h.1) hm (wpAny_of_held _ _ _ _ key)) ?_
 rintro e a' w' ⟨rfl, γ', ρ', E', H', hq, hs, hf⟩
 refine ⟨γ', ρ', E', H', hq, ⟨hs.size, hs.defs, hs.env, hs.heap, fun o ho => ?_⟩, hfr1.trans hf⟩
 have hol := hp o ho
 rw [hs.pins o hol, ← hst.pins o ho]
 exact (hpins o hol).symm
theorem awp_drawT (hm : P.follows .mixedOrders = true) (hft : PTab P ft) {id : Nat} {l : List Oper} {Q : Exit → Env → List AObj → Prop} {E : Env} {H : List AObj} (s : Sch)
 (hB : schTOk l.toArray s = true) (hp : ∀ o ∈ pin, o < H.length) (h : vcT P N (List.range H.length) ft l.toArray (roH H) s (fun E H => Q .normal E H) E H) (hnd : noDefer l.toArray = true := by rfl) : awp rq P N pin (.region id l.toArray true) Q E H :=
 awp_drawG (hnd := hnd) (List.range H.length) hm hft s hB (fun o ho => List.mem_range.2 (hp o ho)) (fun o ho => List.mem_range.1 ho) (fun {γ ρ ρ1 w w1} hH hpi hS => roRd hH (fun i x hx => by
  have hlt : i < H.length := by rw [← hH.len]; exact (List.getElem?_eq_some_iff.1 hx).1
  rw [hpi i (List.mem_range.2 hlt)]
  have : i < ρ.length := by rw [hH.len]; exact hlt
  simp [List.getD, this] at hx ⊢
  exact hx) hS) h
theorem awp_drawP (pins : List Nat) (hpk : pinsFrom pins 0 H0 = true) (hlt : pins.all (fun o => decide (o < H0.length)) = true) (hm : P.follows .mixedOrders = true) (hft : PTab P ft) {id : Nat} {l : List Oper} {Q : Exit → Env → List AObj → Prop} {E : Env} (s : Sch)
 (hB : schTOk l.toArray s = true) (hp : ∀ o ∈ pin, o ∈ pins) (h : vcT P N pins ft l.toArray (roH H0) s (fun E H => Q .normal E H) E H0) (hnd : noDefer l.toArray = true := by rfl) : awp rq P N pin (.region id l.toArray true) Q E H0 := by
 have hl : ∀ o ∈ pins, o < H0.length := fun o ho => by simpa using List.all_eq_true.1 hlt o ho
 exact awp_drawG (hnd := hnd) pins hm hft s hB hp hl (fun {γ ρ ρ1 w w1} hH hpi hS => roRdP hH hpk (fun i hi x hx => by
  rw [hpi i hi]
  have : i < ρ.length := by rw [hH.len]; exact hl i hi
  simp [List.getD, this] at hx ⊢
  exact hx) hS) h
end
theorem Red.auto {E E' : Env} {H H' : List AObj}
 (hE : Ele E E' := by (simp only [Sum.elim_inl, Sum.elim_inr, go_sem, Nat.reduceBEq, Nat.reduceLT, Nat.reduceAdd, Nat.reduceLeDiff, Nat.reduceSub, Nat.reduceEqDiff, Int.reduceToNat, reduceCtorEq, ↓reduceIte]) <;> first | done | rfl | omega | (simp only [*, Bool.false_or, Bool.true_or, Bool.or_false, Bool.or_true, Bool.false_and, Bool.true_and, Bool.and_false, Bool.and_true, Bool.not_true, Bool.not_false]; done) | (simp [*]; done) | (simp_all; done) | (refine ⟨?_, ?_⟩ <;> first | rfl | omega | (simp only [*, Bool.false_or, Bool.true_or, Bool.or_false, Bool.or_true, Bool.false_and, Bool.true_and, Bool.and_false, Bool.and_true, Bool.not_true, Bool.not_false]; done) | (simp [*]; done) | (simp_all; done)))
 (hH : H = H' := by first | rfl | (dsimp only [Sum.elim_inl, Sum.elim_inr]; done) | (simp only [go_sem, Nat.reduceBEq, Nat.reduceLT, Nat.reduceAdd, Nat.reduceLeDiff, Nat.reduceSub, Nat.reduceEqDiff, Int.reduceToNat, reduceCtorEq, ↓reduceIte]; done) | (simp [go_sem, Nat.reduceBEq, Nat.reduceLT, Nat.reduceAdd, Nat.reduceLeDiff, Nat.reduceSub, Nat.reduceEqDiff, Int.reduceToNat, reduceCtorEq, ↓reduceIte]; done) | (simp_all; done)) : Red N pin E H E' H' := Red.fin hE hH
theorem Red.selA {E E' : Env} {H H' : List AObj} (sel : List Nat) (k : Red N pin (E.ren (fun x => pos sel x 0)) (selH sel H) E' H') (hs : selOk pin sel H.length := by simp [selOk, pos]) : Red N pin E H E' H' := Red.trans (Red.sel sel hs) k
section
variable {ft : FuncId → Option (List Value → Option (Prop × Value))}
theorem pw8_32 : (2 : Int) ^ min 8 32 = 256 := rfl
theorem pw16_32 : (2 : Int) ^ min 16 32 = 65536 := rfl
theorem pw24_32 : (2 : Int) ^ min 24 32 = 16777216 := rfl
theorem pw27_32 : (2 : Int) ^ min 27 32 = 134217728 := rfl
theorem awp_reg (hft : PTab P ft) (E1 : Env) (H1 : List AObj) {id : Nat} {l : List Oper} {y : Code} {Q : Exit → Env → List AObj → Prop} {E : Env} {H : List AObj} (hy : awp rq P N pin y Q E1 H1)
 (hx : ∀ K : Env → List AObj → Prop, (∀ E' H', Red N pin E' H' E1 H1 → K E' H') → vcOps P N pin ft l.toArray l K E H := by
   clear h; intro K hK
   simp (maxSteps := 4000000) only [go_sem, Nat.reduceBEq, Nat.reduceLT, Nat.reduceAdd, Nat.reduceLeDiff, Nat.reduceSub, Nat.reduceEqDiff, Int.reduceToNat, reduceCtorEq, ↓reduceIte]
   repeat' (first | refine And.intro ?_ ?_ | intro hg)
   all_goals (try simp (disch := omega) only [wrap_fits])
   all_goals first | (refine hK _ _ ?_; exact Red.auto) | exact trivial | assumption | omega | exact wrap_fits (by omega) (by omega) | (simp (maxSteps := 4000000) only [go_sem, Nat.reduceBEq, Nat.reduceLT, Nat.reduceAdd, Nat.reduceLeDiff, Nat.reduceSub, Nat.reduceEqDiff, Int.reduceToNat, reduceCtorEq, ↓reduceIte]; (repeat' (first | refine And.intro ?_ ?_ | intro hg)); all_goals (try simp (disch := omega) only [wrap_fits]); all_goals first | (refine hK _ _ ?_; exact Red.auto) | exact trivial | assumption | omega | exact wrap_fits (by omega) (by omega)) | (simp_all; done) | (simp_all; omega)) (hnd : noDefer l.toArray = true := by rfl) : awp rq P N pin (.seq (.region id l.toArray false) y) Q E H :=
 awp_to E1 H1 (fun K hK => awp_region (hnd := hnd) hft (hx K hK)) hy
theorem awp_regQ (hm : P.follows .mixedOrders = true) (hft : PTab P ft) (E1 : Env) (H1 : List AObj) {id : Nat} {l : List Oper} {y : Code} {Q : Exit → Env → List AObj → Prop} {E : Env} {H : List AObj} (hy : awp rq P N pin y Q E1 H1)
 (hx : ∀ K : Env → Prop, (∀ E', Red N pin E' H E1 H1 → K E') → vcQg P N ft l.toArray H l [] K E := by
   clear h; intro K hK
   simp (maxSteps := 4000000) only [go_sem, Nat.reduceBEq, Nat.reduceLT, Nat.reduceAdd, Nat.reduceLeDiff, Nat.reduceSub, Nat.reduceEqDiff, Int.reduceToNat, reduceCtorEq, ↓reduceIte]
   repeat' (first | refine And.intro ?_ ?_ | intro hg)
   all_goals (try simp (disch := omega) only [wrap_fits])
   all_goals first | (refine hK _ ?_; exact Red.auto) | exact trivial | assumption | omega | exact wrap_fits (by omega) (by omega) | (simp_all; done) | (simp_all; omega))
 (hB : Region.lexB .any l.toArray = true := by kernel_rfl) (hnd : noDefer l.toArray = true := by rfl) : awp rq P N pin (.seq (.region id l.toArray true) y) Q E H :=
 awp_to E1 H1 (fun K hK => awp_quietg (hnd := hnd) hm hft hB (hx (fun E' => K E' H) fun E' h => hK E' H h)) hy
theorem awp_regE (hft : PTab P ft) (E1 : Env) (H1 : List AObj) {id : Nat} {l : List Oper} {Q : Exit → Env → List AObj → Prop} {E : Env} {H : List AObj} (hy : Q .normal E1 H1)
 (hx : ∀ K : Env → List AObj → Prop, (∀ E' H', Red N pin E' H' E1 H1 → K E' H') → vcOps P N pin ft l.toArray l K E H := by
   clear h; intro K hK
   simp (maxSteps := 4000000) only [go_sem, Nat.reduceBEq, Nat.reduceLT, Nat.reduceAdd, Nat.reduceLeDiff, Nat.reduceSub, Nat.reduceEqDiff, Int.reduceToNat, reduceCtorEq, ↓reduceIte]
   repeat' (first | refine And.intro ?_ ?_ | intro hg)
   all_goals (try simp (disch := omega) only [wrap_fits])
   all_goals first | (refine hK _ _ ?_; exact Red.auto) | exact trivial | assumption | omega | exact wrap_fits (by omega) (by omega) | (simp (maxSteps := 4000000) only [go_sem, Nat.reduceBEq, Nat.reduceLT, Nat.reduceAdd, Nat.reduceLeDiff, Nat.reduceSub, Nat.reduceEqDiff, Int.reduceToNat, reduceCtorEq, ↓reduceIte]; (repeat' (first | refine And.intro ?_ ?_ | intro hg)); all_goals (try simp (disch := omega) only [wrap_fits]); all_goals first | (refine hK _ _ ?_; exact Red.auto) | exact trivial | assumption | omega | exact wrap_fits (by omega) (by omega)) | (simp_all; done) | (simp_all; omega)) (hnd : noDefer l.toArray = true := by rfl) : awp rq P N pin (.region id l.toArray false) Q E H :=
 awp_end E1 H1 (fun K hK => awp_region (hnd := hnd) hft (hx K hK)) hy
theorem fin1 {p : Prop} (h : p := by first | exact trivial | exact ⟨trivial, trivial⟩ | exact ⟨trivial, trivial, trivial⟩ | exact ⟨trivial, trivial, trivial, trivial⟩ | (simp only [allP, and_true, true_and]; done) | (simp only [allP, and_true, true_and]; omega)) : p := h
theorem fin4 {p : Prop} (h : p := by first | exact ⟨rfl, rfl⟩ | (simp only [go_sem, Nat.reduceBEq, Nat.reduceLT, Nat.reduceAdd, Nat.reduceLeDiff, Nat.reduceSub, Nat.reduceEqDiff, Int.reduceToNat, reduceCtorEq, ↓reduceIte]; done) | (simp [go_sem, Nat.reduceBEq, Nat.reduceLT, Nat.reduceAdd, Nat.reduceLeDiff, Nat.reduceSub, Nat.reduceEqDiff, Int.reduceToNat, reduceCtorEq, ↓reduceIte]; done) | (simp only [go_sem, Nat.reduceBEq, Nat.reduceLT, Nat.reduceAdd, Nat.reduceLeDiff, Nat.reduceSub, Nat.reduceEqDiff, Int.reduceToNat, reduceCtorEq, ↓reduceIte]; exact ⟨rfl, rfl⟩) | (simp_all [go_sem, Nat.reduceBEq, Nat.reduceLT, Nat.reduceAdd, Nat.reduceLeDiff, Nat.reduceSub, Nat.reduceEqDiff, Int.reduceToNat, reduceCtorEq, ↓reduceIte]; done)) : p := h
def vcCall (N : Nat) (d : Option Nat) (c : Call) (as : List AV) (Hc : List AObj) (X : AV) (HX : List AObj) (m : List Nat) (K : Env → List AObj → Prop) (E : Env) (H : List AObj) : Prop :=
 fitAll m as (c.args.toList.map (ev E)) ∧ (dstOk N d = true ∧ ((m.Nodup ∨ exIds m Hc = []) ∧ (matchAll H m (exIds m Hc) m Hc ∧ K ((E.killp []).put d (X.ren (upId m H.length))) (pastH m Hc [] H HX))))
theorem vcCall_opK {f : FuncId} {as : List AV} {Hc : List AObj} {X : AV} {HX : List AObj} (hc : FnA P f as Hc [] (fun x H => x = X ∧ H = HX)) {d : Option Nat} {c : Call} {ty : TypeId} {pos' : String} {after : Array Edge} {K : Env → List AObj → Prop} {E : Env} {H : List AObj} {m : List Nat}
 (hcal : c.callee = .value (.func f)) (h : vcCall N d c as Hc X HX m K E H) : OpK P N pin ⟨d, .call c, ty, pos', after, none⟩ K E H :=
 OpK_call hc m [] hcal h.1 h.2.1 (h.2.2.1.imp id fun h => ⟨h, rfl, rfl⟩) h.2.2.2.1 (fun j o hj => by cases hj) (fun o ho => by cases ho) (fun x Hc' hR hl => by obtain ⟨rfl, rfl⟩ := hR; exact h.2.2.2.2)
theorem wpA_app {ops : Array Oper} {rest : List Oper} {K : Env → List AObj → Prop} : ∀ {l : List Oper} {E : Env} {H : List AObj}, wpA P N pin ops l (wpA P N pin ops rest K) E H → wpA P N pin ops (l ++ rest) K E H := fun {l E H} h πv γ ρ a w hst => by
 have key : ∀ (l : List Oper) (a : Act) (w : World) (Q1 Q2 : Exit → Act → World → Prop), (∀ e a w, Q1 e a w → e = .normal) → (∀ a w, Q1 .normal a w → wpList P ops Q2 rest a w) → wpList P ops Q1 l a w → wpList P ops Q2 (l ++ rest) a w := by
  intro l
  induction l with
  | nil => intro a w Q1 Q2 _ h2 h; exact h2 a w h
  | cons o l ih =>
    intro a w Q1 Q2 h1 h2 h
    rw [List.cons_append]
    unfold wpList at h ⊢
    split
    ·rename_i hw
     rw [if_pos hw] at h
     rcases h with h | ⟨_, a0, w0, h0⟩
     ·left
      unfold Oper.wp at h ⊢
      generalize (execOp a.eval o).run P w = r at h ⊢
      cases r with
      | ok n w' =>
        cases n <;> simp only [Oper.upon] at h ⊢ <;>
         first
          | exact ih _ _ _ _ h1 h2 h
          | exact Calls.mono h (fun e w'' he => by
           cases e
           ·exact ih _ _ _ _ h1 h2 he
           ·exact absurd (h1 _ _ _ he) (by simp)
           ·obtain ⟨a, w, h⟩ := he; exact absurd (h1 _ _ _ h) (by simp))
          | exact Rows.mono h (fun _ _ he => ih _ _ _ _ h1 h2 he)
          | exact h
      | halt x w' => cases x <;> simp only [Oper.upon] at h ⊢ <;> first | exact absurd (h1 _ _ _ h) (by simp) | exact h
     ·exact absurd (h1 _ _ _ h0) (by simp)
    ·rename_i hw
     rw [if_neg hw] at h
     exact ih _ _ _ _ h1 h2 h
 refine key l a w _ _ (fun e a w h => h.1) ?_ (h πv γ ρ a w hst)
 rintro a1 w1 ⟨_, γ1, ρ1, E1, H1, hK, hst1, hfr1⟩
 exact wpList_mono (fun e a2 w2 ⟨he, γ2, ρ2, E2, H2, hk, hs, hf⟩ => ⟨he, γ2, ρ2, E2, H2, hk, hs, hfr1.trans hf⟩) _ _ _ (hK πv γ1 ρ1 a1 w1 hst1)
structure CallC (P : Program) where
 {f : FuncId}
 {as : List AV}
 {Hc : List AObj}
 {X : AV}
 {HX : List AObj}
 {d : Option Nat}
 {c : Call}
 {ty : TypeId}
 {pos' : String}
 {after : Array Edge}
 i : Nat
 m : List Nat
 hc : FnA P f as Hc [] (fun x H => x = X ∧ H = HX)
def vcCalls (P : Program) (N : Nat) (pin : List Nat) (ft : FuncId → Option (List Value → Option (Prop × Value))) (ops : Array Oper) : List (CallC P) → List Oper → (Env → List AObj → Prop) → Env → List AObj → Prop
 | [], l, K => vcOps P N pin ft ops l K
 | x :: cs, l, K => vcOps P N pin ft ops (l.take x.i) (vcCall N x.d x.c x.as x.Hc x.X x.HX x.m (vcCalls P N pin ft ops cs (l.drop (x.i + 1)) K))
def okCalls {P : Program} : List (CallC P) → List Oper → Prop
 | [], _ => True
 | x :: cs, l => l[x.i]? = some ⟨x.d, .call x.c, x.ty, x.pos', x.after, none⟩ ∧ x.c.callee = .value (.func x.f) ∧ okCalls cs (l.drop (x.i + 1))
theorem vcCalls_sound (hft : PTab P ft) {ops : Array Oper} : ∀ {cs : List (CallC P)} {l : List Oper} {K : Env → List AObj → Prop} {E : Env} {H : List AObj}, okCalls cs l → vcCalls P N pin ft ops cs l K E H → wpA P N pin ops l K E H
 | [], l, K, E, H, _, h => vcOps_sound hft h
 | x :: cs, l, K, E, H, ho, h => by
   have h1 : wpA P N pin ops (l.take x.i) (wpA P N pin ops (⟨x.d, .call x.c, x.ty, x.pos', x.after, none⟩ :: l.drop (x.i + 1)) K) E H :=
    wpA_mono (fun E2 H2 h2 => wpA_opK rfl (vcCall_opK x.hc ho.2.1 ⟨h2.1, h2.2.1, h2.2.2.1, h2.2.2.2.1, vcCalls_sound hft ho.2.2 h2.2.2.2.2⟩)) (vcOps_sound hft h)
   have h2 := wpA_app h1
   obtain ⟨hlt, e⟩ := List.getElem?_eq_some_iff.1 ho.1
   rw [← e, ← List.drop_eq_getElem_cons hlt, List.take_append_drop] at h2
   exact h2
theorem awp_regCs (hft : PTab P ft) (E1 : Env) (H1 : List AObj) (cs : List (CallC P)) {id : Nat} {l : List Oper} {y : Code} {Q : Exit → Env → List AObj → Prop} {E : Env} {H : List AObj} (hy : awp rq P N pin y Q E1 H1)
 (ho : okCalls cs l := by first | exact ⟨rfl, rfl, trivial⟩ | exact ⟨rfl, rfl, rfl, rfl, trivial⟩ | exact ⟨rfl, rfl, rfl, rfl, rfl, rfl, trivial⟩ | exact ⟨rfl, rfl, rfl, rfl, rfl, rfl, rfl, rfl, trivial⟩ | exact ⟨rfl, rfl, rfl, rfl, rfl, rfl, rfl, rfl, rfl, rfl, trivial⟩)
 (hx : ∀ K : Env → List AObj → Prop, (∀ E' H', Red N pin E' H' E1 H1 → K E' H') → vcCalls P N pin ft l.toArray cs l K E H := by
   clear h; intro K hK
   simp (maxSteps := 4000000) only [go_sem, Nat.reduceBEq, Nat.reduceLT, Nat.reduceAdd, Nat.reduceLeDiff, Nat.reduceSub, Nat.reduceEqDiff, Int.reduceToNat, reduceCtorEq, ↓reduceIte]
   repeat' (first | refine And.intro ?_ ?_ | intro hg)
   all_goals (try simp (disch := omega) only [wrap_fits])
   all_goals first | (refine hK _ _ ?_; exact Red.auto) | exact trivial | assumption | omega | exact wrap_fits (by omega) (by omega) | (simp (maxSteps := 4000000) only [go_sem, Nat.reduceBEq, Nat.reduceLT, Nat.reduceAdd, Nat.reduceLeDiff, Nat.reduceSub, Nat.reduceEqDiff, Int.reduceToNat, reduceCtorEq, ↓reduceIte]; (repeat' (first | refine And.intro ?_ ?_ | intro hg)); all_goals (try simp (disch := omega) only [wrap_fits]); all_goals first | (refine hK _ _ ?_; exact Red.auto) | exact trivial | assumption | omega | exact wrap_fits (by omega) (by omega)) | (simp_all; done) | (simp_all; omega)) (hnd : noDefer l.toArray = true := by rfl) : awp rq P N pin (.seq (.region id l.toArray false) y) Q E H :=
 awp_to E1 H1 (fun K hK => fun πv γ ρ a w hst => wpIn_mono (wpIn_lit hnd (fun _ _ h => by cases h.1) (vcCalls_sound hft ho (hx K hK) πv γ ρ a w hst)) fun e a w ⟨he, γ2, ρ2, E2, H2, hq, hs⟩ => by subst he; exact ⟨γ2, ρ2, E2, H2, hq, hs⟩) hy
theorem awp_regECs (hft : PTab P ft) (E1 : Env) (H1 : List AObj) (cs : List (CallC P)) {id : Nat} {l : List Oper} {Q : Exit → Env → List AObj → Prop} {E : Env} {H : List AObj} (hy : Q .normal E1 H1)
 (ho : okCalls cs l := by first | exact ⟨rfl, rfl, trivial⟩ | exact ⟨rfl, rfl, rfl, rfl, trivial⟩ | exact ⟨rfl, rfl, rfl, rfl, rfl, rfl, trivial⟩ | exact ⟨rfl, rfl, rfl, rfl, rfl, rfl, rfl, rfl, trivial⟩ | exact ⟨rfl, rfl, rfl, rfl, rfl, rfl, rfl, rfl, rfl, rfl, trivial⟩)
 (hx : ∀ K : Env → List AObj → Prop, (∀ E' H', Red N pin E' H' E1 H1 → K E' H') → vcCalls P N pin ft l.toArray cs l K E H := by
   clear h; intro K hK
   simp (maxSteps := 4000000) only [go_sem, Nat.reduceBEq, Nat.reduceLT, Nat.reduceAdd, Nat.reduceLeDiff, Nat.reduceSub, Nat.reduceEqDiff, Int.reduceToNat, reduceCtorEq, ↓reduceIte]
   repeat' (first | refine And.intro ?_ ?_ | intro hg)
   all_goals (try simp (disch := omega) only [wrap_fits])
   all_goals first | (refine hK _ _ ?_; exact Red.auto) | exact trivial | assumption | omega | exact wrap_fits (by omega) (by omega) | (simp (maxSteps := 4000000) only [go_sem, Nat.reduceBEq, Nat.reduceLT, Nat.reduceAdd, Nat.reduceLeDiff, Nat.reduceSub, Nat.reduceEqDiff, Int.reduceToNat, reduceCtorEq, ↓reduceIte]; (repeat' (first | refine And.intro ?_ ?_ | intro hg)); all_goals (try simp (disch := omega) only [wrap_fits]); all_goals first | (refine hK _ _ ?_; exact Red.auto) | exact trivial | assumption | omega | exact wrap_fits (by omega) (by omega)) | (simp_all; done) | (simp_all; omega)) (hnd : noDefer l.toArray = true := by rfl) : awp rq P N pin (.region id l.toArray false) Q E H :=
 awp_end E1 H1 (fun K hK => fun πv γ ρ a w hst => wpIn_mono (wpIn_lit hnd (fun _ _ h => by cases h.1) (vcCalls_sound hft ho (hx K hK) πv γ ρ a w hst)) fun e a w ⟨he, γ2, ρ2, E2, H2, hq, hs⟩ => by subst he; exact ⟨γ2, ρ2, E2, H2, hq, hs⟩) hy
theorem FnA.ofA (N : Nat) (pin : List Nat) (rs : List ResultVar) {f : FuncId} {fn : Func} {c : Code} {as : List AV} {H : List AObj} {R : AV → List AObj → Prop} (hf : P.funcs[f]? = some fn) (hen : Enters P f)
 (h : awp none P N pin c (fun e E' H' => (e = .normal ∨ e = .ret) ∧ EndOk P rs pin H.length R E' H') (argEnv as 0) H) (hb : fn.body = some c := by rfl) (hn : fn.ntmps = N := by rfl) (hrs : fn.results = rs.toArray := by rfl) (has : as.length ≤ N := by simp)
 (hpin : ∀ o, o ∈ pin ↔ (o < H.length ∧ o ∉ ([] : List Nat)) := by simp; try omega) : FnA P f as H [] R := FnA.of hf hb hen hn hrs has hpin h
theorem wpA_callA {f : FuncId} {as : List AV} {Hc : List AObj} {cons : List Nat} {R : AV → List AObj → Prop} (hc : FnA P f as Hc cons R) {ops : Array Oper} {d : Option Nat} {c : Call} {ty : TypeId} {pos' : String} {after : Array Edge} {rest : List Oper} {K : Env → List AObj → Prop} {E : Env} {H : List AObj}
 (m cs : List Nat) (hk : ∀ x Hc', R x Hc' → Hc.length ≤ Hc'.length → wpA P N pin ops rest K ((E.killp cs).put d (x.ren (upId m H.length))) (pastH m Hc cs H Hc'))
 (hcal : c.callee = .value (.func f) := by rfl) (hargs : fitAll m as (c.args.toList.map (ev E)) := by first | (simp (maxSteps := 4000000) only [go_sem, Nat.reduceBEq, Nat.reduceLT, Nat.reduceAdd, Nat.reduceLeDiff, Nat.reduceSub, Nat.reduceEqDiff, Int.reduceToNat, reduceCtorEq, ↓reduceIte]; done) | (simp (maxSteps := 4000000) only [go_sem, Nat.reduceBEq, Nat.reduceLT, Nat.reduceAdd, Nat.reduceLeDiff, Nat.reduceSub, Nat.reduceEqDiff, Int.reduceToNat, reduceCtorEq, ↓reduceIte] <;> simp) | simp_all) (hd : dstOk N d = true := by rfl)
 (hnd : m.Nodup ∨ (exIds m Hc = [] ∧ cs = [] ∧ cons = []) := by simp [exIds, AObj.excl]) (hm : matchAll H m (exIds m Hc) m Hc := by first | (simp (maxSteps := 4000000) only [go_sem, Nat.reduceBEq, Nat.reduceLT, Nat.reduceAdd, Nat.reduceLeDiff, Nat.reduceSub, Nat.reduceEqDiff, Int.reduceToNat, reduceCtorEq, ↓reduceIte]; done) | (simp (maxSteps := 4000000) only [go_sem, Nat.reduceBEq, Nat.reduceLT, Nat.reduceAdd, Nat.reduceLeDiff, Nat.reduceSub, Nat.reduceEqDiff, Int.reduceToNat, reduceCtorEq, ↓reduceIte] <;> simp) | simp_all)
 (hcs : ∀ (j o : Nat), j ∈ cons → m[j]? = some o → o ∈ cs := by simp) (hcx : ∀ o ∈ cs, o ∈ exIds m Hc ∧ o ∉ pin := by simp [exIds, AObj.excl]) :
 wpA P N pin ops (⟨d, .call c, ty, pos', after, none⟩ :: rest) K E H := wpA_call hc m cs hcal hargs hd hnd hm hcs hcx hk
theorem OpK_callA {f : FuncId} {as : List AV} {Hc : List AObj} {cons : List Nat} {R : AV → List AObj → Prop} (hc : FnA P f as Hc cons R) {d : Option Nat} {c : Call} {ty : TypeId} {pos' : String} {after : Array Edge} {K : Env → List AObj → Prop} {E : Env} {H : List AObj}
 (m cs : List Nat) (hk : ∀ x Hc', R x Hc' → Hc.length ≤ Hc'.length → K ((E.killp cs).put d (x.ren (upId m H.length))) (pastH m Hc cs H Hc'))
 (hcal : c.callee = .value (.func f) := by rfl) (hargs : fitAll m as (c.args.toList.map (ev E)) := by first | (simp (maxSteps := 4000000) only [go_sem, Nat.reduceBEq, Nat.reduceLT, Nat.reduceAdd, Nat.reduceLeDiff, Nat.reduceSub, Nat.reduceEqDiff, Int.reduceToNat, reduceCtorEq, ↓reduceIte]; done) | (simp (maxSteps := 4000000) only [go_sem, Nat.reduceBEq, Nat.reduceLT, Nat.reduceAdd, Nat.reduceLeDiff, Nat.reduceSub, Nat.reduceEqDiff, Int.reduceToNat, reduceCtorEq, ↓reduceIte] <;> simp) | simp_all) (hd : dstOk N d = true := by rfl)
 (hnd : m.Nodup ∨ (exIds m Hc = [] ∧ cs = [] ∧ cons = []) := by simp [exIds, AObj.excl]) (hm : matchAll H m (exIds m Hc) m Hc := by first | (simp (maxSteps := 4000000) only [go_sem, Nat.reduceBEq, Nat.reduceLT, Nat.reduceAdd, Nat.reduceLeDiff, Nat.reduceSub, Nat.reduceEqDiff, Int.reduceToNat, reduceCtorEq, ↓reduceIte]; done) | (simp (maxSteps := 4000000) only [go_sem, Nat.reduceBEq, Nat.reduceLT, Nat.reduceAdd, Nat.reduceLeDiff, Nat.reduceSub, Nat.reduceEqDiff, Int.reduceToNat, reduceCtorEq, ↓reduceIte] <;> simp) | simp_all)
 (hcs : ∀ (j o : Nat), j ∈ cons → m[j]? = some o → o ∈ cs := by simp) (hcx : ∀ o ∈ cs, o ∈ exIds m Hc ∧ o ∉ pin := by simp [exIds, AObj.excl]) :
 OpK P N pin ⟨d, .call c, ty, pos', after, none⟩ K E H := OpK_call hc m cs hcal hargs hd hnd hm hcs hcx hk
theorem wpA_callN {f : FuncId} {as : List AV} {Hc : List AObj} {cons : List Nat} {R : AV → List AObj → Prop} (hc : FnA P f as Hc cons R) {ops : Array Oper} {d : Option Nat} {c : Call} {ty : TypeId} {pos' : String} {after : Array Edge} {rest : List Oper} {K : Env → List AObj → Prop} {E : Env} {H : List AObj}
 (k0 : Cont) (m cs : List Nat) (hk : ∀ x Hc', R x Hc' → Hc.length ≤ Hc'.length → wpA P N pin ops rest K ((E.killp cs).put d (x.ren (upId m (H.length + 1)))) (pastH m Hc cs (H ++ [.row true k0]) Hc'))
 (hcal : c.callee = .value (.func f) := by rfl) (hargs : fitAll m as (c.args.toList.map (evN H.length E)) := by first | (simp (maxSteps := 4000000) only [go_sem, Nat.reduceBEq, Nat.reduceLT, Nat.reduceAdd, Nat.reduceLeDiff, Nat.reduceSub, Nat.reduceEqDiff, Int.reduceToNat, reduceCtorEq, ↓reduceIte]; done) | (simp (maxSteps := 4000000) only [go_sem, Nat.reduceBEq, Nat.reduceLT, Nat.reduceAdd, Nat.reduceLeDiff, Nat.reduceSub, Nat.reduceEqDiff, Int.reduceToNat, reduceCtorEq, ↓reduceIte] <;> simp) | simp_all) (hd : dstOk N d = true := by rfl)
 (hnd : m.Nodup ∨ (exIds m Hc = [] ∧ cs = [] ∧ cons = []) := by simp [exIds, AObj.excl]) (hm : matchAll (H ++ [.row true k0]) m (exIds m Hc) m Hc := by first | (simp (maxSteps := 4000000) only [go_sem, Nat.reduceBEq, Nat.reduceLT, Nat.reduceAdd, Nat.reduceLeDiff, Nat.reduceSub, Nat.reduceEqDiff, Int.reduceToNat, reduceCtorEq, ↓reduceIte]; done) | (simp (maxSteps := 4000000) only [go_sem, Nat.reduceBEq, Nat.reduceLT, Nat.reduceAdd, Nat.reduceLeDiff, Nat.reduceSub, Nat.reduceEqDiff, Int.reduceToNat, reduceCtorEq, ↓reduceIte] <;> simp) | simp_all)
 (hcs : ∀ (j o : Nat), j ∈ cons → m[j]? = some o → o ∈ cs := by simp) (hcx : ∀ o ∈ cs, o ∈ exIds m Hc ∧ o ∉ pin := by simp [exIds, AObj.excl]) (hk0 : k0.rows = [] := by rfl) :
 wpA P N pin ops (⟨d, .call c, ty, pos', after, none⟩ :: rest) K E H := wpA_opK rfl (OpK_callN hc k0 m cs hcal hargs hd hnd hm hcs hcx hk hk0)
end
end Go.Av
