import Derived.Test.YtbhbaijbdciafaaGreatDoorAvG
set_option linter.unusedSimpArgs false
set_option linter.unusedVariables false
namespace Go.Av
open Go
def Cont.sets (c : Cont) (i f : Nat) (vs : List Value) : Option Cont :=
 match c with
 | .ints k xs => match vs with
   | [.int k' n] => if k = k' ∧ f = 0 then some (.ints k (xs.set i n)) else none
   | _ => none
 | .bools xs => match vs with
   | [.bool b] => if f = 0 then some (.bools (xs.set i b)) else none
   | _ => none
 | .strs xs => match vs with
   | [.string b] => if f = 0 then some (.strs (xs.set i b)) else none
   | _ => none
 | .pairs xs => match vs with
   | [.int .i64 a, .int .i64 b] => if f = 0 then some (.pairs (xs.set i (a, b))) else none
   | [.int .i64 a] => if f = 0 then some (.pairs (xs.set i (a, (xs.getD i (0, 0)).2))) else if f = 1 then some (.pairs (xs.set i ((xs.getD i (0, 0)).1, a))) else none
   | _ => none
 | .trips xs => match vs with
   | [.int .i64 a, .int .i64 b, .int .i64 d] => if f = 0 then some (.trips (xs.set i (a, b, d))) else none
   | [.int .i64 a] =>
     if f = 0 then some (.trips (xs.set i (a, (xs.getD i (0, 0, 0)).2.1, (xs.getD i (0, 0, 0)).2.2)))
     else if f = 1 then some (.trips (xs.set i ((xs.getD i (0, 0, 0)).1, a, (xs.getD i (0, 0, 0)).2.2)))
     else if f = 2 then some (.trips (xs.set i ((xs.getD i (0, 0, 0)).1, (xs.getD i (0, 0, 0)).2.1, a))) else none
   | _ => none
 | _ => none
theorem getD_set {α : Type} (l : List α) (i j : Nat) (x d : α) (hi : i < l.length) : (l.set i x).getD j d = if j = i then x else l.getD j d := by
 simp only [List.getD_eq_getElem?_getD, List.getElem?_set]
 by_cases h : i = j
 ·subst h; simp [hi]
 ·simp [h, Ne.symm h]
structure SetsOk (c c' : Cont) (i f : Nat) (vs : List Value) : Prop where
 flat : c.flat = true
 flat' : c'.flat = true
 len : c'.len = c.len
 esz : c'.esz = c.esz
 fit : f + vs.length ≤ c.esz
 one : ∀ v ∈ vs, v.oneCell' = true
 cell : ∀ j g x, j < c.len → c'.cell j g = some x → (j = i ∧ f ≤ g ∧ g < f + vs.length ∧ vs[g - f]? = some x) ∨ (¬ (j = i ∧ f ≤ g ∧ g < f + vs.length) ∧ c.cell j g = some x)
theorem Cont.sets_ok {c c' : Cont} {i f : Nat} {vs : List Value} (h : c.sets i f vs = some c') (hi : i < c.len) : SetsOk c c' i f vs := by
 cases c <;> simp only [Cont.sets] at h <;> simp only [Cont.len] at hi <;> first | (cases h; done) | skip
 case ints k xs =>
  split at h
  ·rename_i k' n
   split at h
   ·rename_i hk
    obtain ⟨rfl, rfl⟩ := hk
    simp at h
    subst h
    refine ⟨rfl, rfl, by simp [Cont.len], rfl, by simp [Cont.esz], by simp [Value.oneCell'], fun j g x hj hx => ?_⟩
    simp only [Cont.cell] at hx ⊢
    split at hx
    ·rename_i hg
     subst hg
     rw [getD_set _ _ _ _ _ hi] at hx
     by_cases hji : j = i
     ·simp [hji] at hx ⊢; exact hx
     ·simp [hji] at hx ⊢; exact hx
    ·cases hx
   ·cases h
  ·cases h
 case bools xs =>
  split at h
  ·rename_i n
   split at h
   ·rename_i hk
    subst hk
    simp at h
    subst h
    refine ⟨rfl, rfl, by simp [Cont.len], rfl, by simp [Cont.esz], by simp [Value.oneCell'], fun j g x hj hx => ?_⟩
    simp only [Cont.cell] at hx ⊢
    split at hx
    ·rename_i hg
     subst hg
     rw [getD_set _ _ _ _ _ hi] at hx
     by_cases hji : j = i
     ·simp [hji] at hx ⊢; exact hx
     ·simp [hji] at hx ⊢; exact hx
    ·cases hx
   ·cases h
  ·cases h
 case strs xs =>
  split at h
  ·rename_i n
   split at h
   ·rename_i hk
    subst hk
    simp at h
    subst h
    refine ⟨rfl, rfl, by simp [Cont.len], rfl, by simp [Cont.esz], by simp [Value.oneCell'], fun j g x hj hx => ?_⟩
    simp only [Cont.cell] at hx ⊢
    split at hx
    ·rename_i hg
     subst hg
     rw [getD_set _ _ _ _ _ hi] at hx
     by_cases hji : j = i
     ·simp [hji] at hx ⊢; exact hx
     ·simp [hji] at hx ⊢; exact hx
    ·cases hx
   ·cases h
  ·cases h
 case pairs xs =>
  split at h
  ·rename_i a b
   split at h
   ·rename_i hk
    subst hk
    simp at h
    subst h
    refine ⟨rfl, rfl, by simp [Cont.len], rfl, by simp [Cont.esz], by simp [Value.oneCell'], fun j g x hj hx => ?_⟩
    simp only [Cont.cell] at hx ⊢
    rw [getD_set _ _ _ _ _ hi] at hx
    by_cases hji : j = i
    ·subst hji
     left
     simp only [↓reduceIte] at hx
     split at hx
     ·rename_i hg; subst hg; simp at hx ⊢; exact hx
     ·split at hx
      ·rename_i hg; subst hg; simp at hx ⊢; exact hx
      ·cases hx
    ·simp only [hji, ↓reduceIte] at hx
     right; exact ⟨by simp [hji], hx⟩
   ·cases h
  ·rename_i a
   have key : ∀ (p : Int × Int) (f0 : Nat), (f0 = 0 → p = (a, (xs.getD i (0, 0)).2)) → (f0 = 1 → p = ((xs.getD i (0, 0)).1, a)) → f0 < 2 → f = f0 → some (Cont.pairs (xs.set i p)) = some c' → SetsOk (.pairs xs) c' i f [.int .i64 a] := by
    intro p f0 h0 h1 hf0 hf h
    simp at h
    subst h
    subst hf
    refine ⟨rfl, rfl, by simp [Cont.len], rfl, by simp [Cont.esz]; omega, by simp [Value.oneCell'], fun j g x hj hx => ?_⟩
    simp only [Cont.cell] at hx ⊢
    rw [getD_set _ _ _ _ _ hi] at hx
    by_cases hji : j = i
    ·subst hji
     simp only [↓reduceIte] at hx
     obtain rfl | rfl : f = 0 ∨ f = 1 := by omega
     ·rw [h0 rfl] at hx
      by_cases hg : g = 0
      ·subst hg; left; simp at hx ⊢; exact hx
      ·right; refine ⟨by simp; omega, ?_⟩; simp [hg] at hx ⊢; exact hx
     ·rw [h1 rfl] at hx
      by_cases hg : g = 1
      ·subst hg; left; simp at hx ⊢; exact hx
      ·right; refine ⟨by simp; omega, ?_⟩; simp [hg] at hx ⊢; exact hx
    ·simp only [hji, ↓reduceIte] at hx
     right; exact ⟨by simp [hji], hx⟩
   split at h
   ·exact key _ 0 (fun _ => rfl) (fun h => by omega) (by omega) ‹_› h
   ·split at h
    ·exact key _ 1 (fun h => by omega) (fun _ => rfl) (by omega) ‹_› h
    ·cases h
  ·cases h
 case trips xs =>
  split at h
  ·rename_i a b d
   split at h
   ·rename_i hk
    subst hk
    simp at h
    subst h
    refine ⟨rfl, rfl, by simp [Cont.len], rfl, by simp [Cont.esz], by simp [Value.oneCell'], fun j g x hj hx => ?_⟩
    simp only [Cont.cell] at hx ⊢
    rw [getD_set _ _ _ _ _ hi] at hx
    by_cases hji : j = i
    ·subst hji
     left
     simp only [↓reduceIte] at hx
     split at hx
     ·rename_i hg; subst hg; simp at hx ⊢; exact hx
     ·split at hx
      ·rename_i hg; subst hg; simp at hx ⊢; exact hx
      ·split at hx
       ·rename_i hg; subst hg; simp at hx ⊢; exact hx
       ·cases hx
    ·simp only [hji, ↓reduceIte] at hx
     right; exact ⟨by simp [hji], hx⟩
   ·cases h
  ·rename_i a
   have key : ∀ (p : Int × Int × Int) (f0 : Nat), (f0 = 0 → p = (a, (xs.getD i (0, 0, 0)).2.1, (xs.getD i (0, 0, 0)).2.2)) → (f0 = 1 → p = ((xs.getD i (0, 0, 0)).1, a, (xs.getD i (0, 0, 0)).2.2)) →
    (f0 = 2 → p = ((xs.getD i (0, 0, 0)).1, (xs.getD i (0, 0, 0)).2.1, a)) → f0 < 3 → f = f0 → some (Cont.trips (xs.set i p)) = some c' → SetsOk (.trips xs) c' i f [.int .i64 a] := by
    intro p f0 h0 h1 h2 hf0 hf h
    simp at h
    subst h
    subst hf
    refine ⟨rfl, rfl, by simp [Cont.len], rfl, by simp [Cont.esz]; omega, by simp [Value.oneCell'], fun j g x hj hx => ?_⟩
    simp only [Cont.cell] at hx ⊢
    rw [getD_set _ _ _ _ _ hi] at hx
    by_cases hji : j = i
    ·subst hji
     simp only [↓reduceIte] at hx
     obtain rfl | rfl | rfl : f = 0 ∨ f = 1 ∨ f = 2 := by omega
     ·rw [h0 rfl] at hx
      by_cases hg : g = 0
      ·subst hg; left; simp at hx ⊢; exact hx
      ·right; refine ⟨by simp; omega, ?_⟩; simp [hg] at hx ⊢; exact hx
     ·rw [h1 rfl] at hx
      by_cases hg : g = 1
      ·subst hg; left; simp at hx ⊢; exact hx
      ·right; refine ⟨by simp; omega, ?_⟩; simp [hg] at hx ⊢; exact hx
     ·rw [h2 rfl] at hx
      by_cases hg : g = 2
      ·subst hg; left; simp at hx ⊢; exact hx
      ·right; refine ⟨by simp; omega, ?_⟩; simp [hg] at hx ⊢; exact hx
    ·simp only [hji, ↓reduceIte] at hx
     right; exact ⟨by simp [hji], hx⟩
   split at h
   ·exact key _ 0 (fun _ => rfl) (fun h => by omega) (fun h => by omega) (by omega) ‹_› h
   ·split at h
    ·exact key _ 1 (fun h => by omega) (fun _ => rfl) (fun h => by omega) (by omega) ‹_› h
    ·split at h
     ·exact key _ 2 (fun h => by omega) (fun h => by omega) (fun _ => rfl) (by omega) ‹_› h
     ·cases h
  ·cases h
def Cont.app : Cont → Cont → Option Cont
 | .ints k xs, .ints k' ys => if k = k' then some (.ints k (xs ++ ys)) else none
 | .bools xs, .bools ys => some (.bools (xs ++ ys))
 | .strs xs, .strs ys => some (.strs (xs ++ ys))
 | .pairs xs, .pairs ys => some (.pairs (xs ++ ys))
 | .trips xs, .trips ys => some (.trips (xs ++ ys))
 | _, _ => none
structure AppOk (c d c' : Cont) : Prop where
 flat : c.flat = true
 flatd : d.flat = true
 flat' : c'.flat = true
 len : c'.len = c.len + d.len
 eszd : d.esz = c.esz
 esz' : c'.esz = c.esz
 cell : ∀ j g x, c'.cell j g = some x → (j < c.len ∧ c.cell j g = some x) ∨ (c.len ≤ j ∧ d.cell (j - c.len) g = some x)
theorem getD_app {α : Type} (l m : List α) (j : Nat) (d : α) : (l ++ m).getD j d = if j < l.length then l.getD j d else m.getD (j - l.length) d := by
 simp only [List.getD_eq_getElem?_getD, List.getElem?_append]
 split <;> rfl
theorem Cont.app_ok {c d c' : Cont} (h : c.app d = some c') : AppOk c d c' := by
 cases c <;> cases d <;> simp only [Cont.app] at h <;> first | (cases h; done) | skip
 case ints.ints k xs k' ys =>
  split at h
  ·rename_i hk
   subst hk
   simp at h
   subst h
   refine ⟨rfl, rfl, rfl, by simp [Cont.len], rfl, rfl, fun j g x hx => ?_⟩
   simp only [Cont.cell, Cont.len] at hx ⊢
   rw [getD_app] at hx
   by_cases hj : j < xs.length
   ·left; simp only [hj, ↓reduceIte] at hx; exact ⟨hj, hx⟩
   ·right; simp only [hj, ↓reduceIte] at hx; exact ⟨by omega, hx⟩
  ·cases h
 all_goals
  rename_i xs ys
  simp at h
  subst h
  refine ⟨rfl, rfl, rfl, by simp [Cont.len], rfl, rfl, fun j g x hx => ?_⟩
  simp only [Cont.cell, Cont.len] at hx ⊢
  rw [getD_app] at hx
  by_cases hj : j < xs.length
  ·left; simp only [hj, ↓reduceIte] at hx; exact ⟨hj, hx⟩
  ·right; simp only [hj, ↓reduceIte] at hx; exact ⟨by omega, hx⟩
def Cont.sub (c : Cont) (l h : Nat) : Cont :=
 match c with
 | .ints k xs => .ints k ((xs.take h).drop l)
 | .bools xs => .bools ((xs.take h).drop l)
 | .strs xs => .strs ((xs.take h).drop l)
 | .pairs xs => .pairs ((xs.take h).drop l)
 | .trips xs => .trips ((xs.take h).drop l)
 | .intss k xs => .intss k ((xs.take h).drop l)
 | .tripss xs => .tripss ((xs.take h).drop l)
 | .graphs xs => .graphs ((xs.take h).drop l)
 | .gen e rows => .gen e ((rows.take h).drop l)
theorem Cont.sub_rows (c : Cont) (l h : Nat) : (c.sub l h).rows = (c.rows.take h).drop l := by
 cases c <;> simp [Cont.sub, Cont.rows, List.map_take, List.map_drop]
theorem Cont.sub_esz (c : Cont) (l h : Nat) : (c.sub l h).esz = c.esz := by cases c <;> rfl
theorem CRep.sub {own : Bool} {w : World} {S : Nat → Prop} {c : Cont} {a : Option Addr} {n cap : Nat} (hr : CRep own w S (.sl c.esz c.rows) (.slice a n cap)) {l h : Nat} (hlh : l ≤ h) (hh : h ≤ c.len) :
 CRep own w S (.sl (c.sub l h).esz (c.sub l h).rows) (.slice (if cap = l then a else a.map (·.add (l * c.esz))) (h - l) (cap - l)) := by
 rw [Cont.sub_rows, Cont.sub_esz]
 generalize hrows : c.rows = rows at hr
 generalize hesz : c.esz = esz at hr
 have hlen : c.len = rows.length := by rw [← hrows, Cont.len_rows]
 have hnil : rows = [] → CRep own w S (.sl esz ((rows.take h).drop l)) (.slice (if cap = l then a else a.map (·.add (l * esz))) (h - l) (cap - l)) → True := fun _ _ => trivial
 cases hr with
 | nil =>
   simp at hlen
   have h0 : h = 0 := by omega
   have l0 : l = 0 := by omega
   subst h0 l0
   simp
   exact .nil _ _ _
 | ronil _ _ _ _ ho =>
   simp at hlen
   have h0 : h = 0 := by omega
   have l0 : l = 0 := by omega
   subst h0 l0
   simp
   exact .ronil _ _ _ _ ho
 | row S esz rows b off cap arr e fz n vals lab hS hb hfz hn hcap hmax hsz hrow hval hrep =>
   by_cases hc : cap = l
   ·have e0 : h - l = 0 := by omega
    have e1 : (rows.take h).drop l = [] := List.eq_nil_of_length_eq_zero (by simp; omega)
    have e2 : cap - l = 0 := by omega
    rw [e0, e1, e2]
    exact .nil _ _ _
   ·have e2 : ((some (⟨b, off, none⟩ : Addr)).map (·.add (l * esz))) = some ⟨b, off + l * esz, none⟩ := by
     simp [Addr.add]
     try (intro h0; simp [h0])
    rw [if_neg hc, e2]
    refine .row S esz _ b (off + l * esz) (cap - l) arr e fz (h - l) (fun i f => vals (l + i) f) (fun b' => ((lab b').1 - l, (lab b').2)) hS hb hfz ?_ ?_ (by omega) ?_ ?_ ?_ ?_
    ·simp; omega
    ·omega
    ·have e3 : off + l * esz + (cap - l) * esz = off + cap * esz := by rw [Nat.add_assoc, ← Nat.add_mul]; congr 2; omega
     omega
    ·intro r hr; exact hrow r (List.mem_of_mem_take (List.mem_of_mem_drop hr))
    ·intro i f hi hf
     simp at hi
     have := hval (l + i) f (by omega) hf
     rw [← this, Nat.add_mul]
     congr 1
     omega
    ·intro i f row cc h1 h2
     rw [List.getElem?_drop, List.getElem?_take] at h1
     split at h1
     ·have := hrep (l + i) f row cc h1 h2
      refine this.mono fun b' hb' => ⟨hb'.1, fun ho => ⟨(hb'.2 ho).1, ?_⟩⟩
      rw [(hb'.2 ho).2]
      simp
     ·cases h1
def Cont.child (c : Cont) (i f : Nat) : Option Cont :=
 match c with
 | .intss k xss => if f = 0 then some (.ints k (xss.getD i [])) else none
 | .tripss xss => if f = 0 then some (.trips (xss.getD i [])) else none
 | .graphs gs => if f = 1 then some (.trips (gs.getD i (0, [])).2) else none
 | _ => none
def Cont.setChild (c : Cont) (i f : Nat) (d : Cont) : Option Cont :=
 match c, d with
 | .intss k xss, .ints k' ys => if k = k' ∧ f = 0 then some (.intss k (xss.set i ys)) else none
 | .tripss xss, .trips ys => if f = 0 then some (.tripss (xss.set i ys)) else none
 | .graphs gs, .trips ys => if f = 1 then some (.graphs (gs.set i ((gs.getD i (0, [])).1, ys))) else none
 | _, _ => none
theorem Cont.child_ok {c d : Cont} {i f : Nat} (h : c.child i f = some d) (hi : i < c.len) : ∃ row, c.rows[i]? = some row ∧ row[f]? = some (.sl d.esz d.rows) := by
 cases c <;> simp only [Cont.child, reduceCtorEq] at h
 ·split at h
  ·rename_i k xss hf
   simp at h; subst h hf
   simp only [Cont.len] at hi
   exact ⟨_, by rw [Cont.rows, List.getElem?_map, List.getElem?_eq_getElem hi]; rfl, by simp [Cont.esz, Cont.rows, List.getD_eq_getElem?_getD, hi]⟩
  ·cases h
 ·split at h
  ·rename_i xss hf
   simp at h; subst h hf
   simp only [Cont.len] at hi
   exact ⟨_, by rw [Cont.rows, List.getElem?_map, List.getElem?_eq_getElem hi]; rfl, by simp [Cont.esz, Cont.rows, List.getD_eq_getElem?_getD, hi]⟩
  ·cases h
 ·split at h
  ·rename_i gs hf
   simp at h; subst h hf
   simp only [Cont.len] at hi
   exact ⟨_, by rw [Cont.rows, List.getElem?_map, List.getElem?_eq_getElem hi]; rfl, by simp [Cont.esz, Cont.rows, List.getD_eq_getElem?_getD, hi]⟩
  ·cases h
theorem Cont.setChild_ok {c c' d : Cont} {i f : Nat} (h : c.setChild i f d = some c') (hi : i < c.len) :
 c'.esz = c.esz ∧ c'.len = c.len ∧ ∃ row, c.rows[i]? = some row ∧ f < row.length ∧ c'.rows = c.rows.set i (row.set f (.sl d.esz d.rows)) := by
 cases c <;> cases d <;> simp only [Cont.setChild, reduceCtorEq] at h
 ·split at h
  ·rename_i k xss k' ys hf
   obtain ⟨rfl, rfl⟩ := hf
   simp at h; subst h
   simp only [Cont.len] at hi
   refine ⟨rfl, by simp [Cont.len], _, by rw [Cont.rows, List.getElem?_map, List.getElem?_eq_getElem hi]; rfl, by simp, ?_⟩
   simp [Cont.rows, Cont.esz, List.map_set]
  ·cases h
 ·split at h
  ·rename_i xss ys hf
   subst hf
   simp at h; subst h
   simp only [Cont.len] at hi
   refine ⟨rfl, by simp [Cont.len], _, by rw [Cont.rows, List.getElem?_map, List.getElem?_eq_getElem hi]; rfl, by simp, ?_⟩
   simp [Cont.rows, Cont.esz, List.map_set]
  ·cases h
 ·split at h
  ·rename_i gs ys hf
   subst hf
   simp at h; subst h
   simp only [Cont.len] at hi
   refine ⟨rfl, by simp [Cont.len], _, by rw [Cont.rows, List.getElem?_map, List.getElem?_eq_getElem hi]; rfl, by simp, ?_⟩
   simp [Cont.rows, Cont.esz, List.map_set, List.getD_eq_getElem?_getD, hi]
  ·cases h
section
variable {own : Bool} {w : World} {S Sc T : Nat → Prop} {esz n cap b ofs i f : Nat} {rows : List (List CV)} {row : List CV} {v : Value}
theorem idx_inj {e : Nat} {a b c d : Nat} (h1 : b < e) (h2 : d < e) (h : a * e + b = c * e + d) : a = c ∧ b = d := by
 rcases Nat.lt_trichotomy a c with hl | hl | hl
 ·have := Nat.mul_le_mul_right e hl; rw [Nat.succ_mul] at this; omega
 ·subst hl; exact ⟨rfl, by omega⟩
 ·have := Nat.mul_le_mul_right e hl; rw [Nat.succ_mul] at this; omega
theorem CRep.esz_of (h : CRep own w S (.sl esz rows) (.slice (some ⟨b, ofs, none⟩) n cap)) (hr : rows[i]? = some row) : row.length = esz := by
 cases h with
 | nil => simp at hr
 | ronil => simp at hr
 | row S esz rows b off cap arr e fz n vals lab hS hb hfz hn hcap hmax hsz hrow hval hrep => exact hrow row (List.mem_of_getElem? hr)
theorem CRep.arr_of (h : CRep true w S (.sl esz rows) (.slice (some ⟨b, ofs, none⟩) n cap)) (hr : 0 < rows.length) : ∃ arr e, w.heap[b]? = some (.cells arr e (0, 0)) ∧ ofs + cap * esz ≤ arr.size ∧ n ≤ cap := by
 cases h with
 | nil => simp at hr
 | ronil => simp at hr
 | row S esz rows b off cap arr e fz n vals lab hS hb hfz hn hcap hmax hsz hrow hval hrep =>
   have := hfz rfl
   subst this
   exact ⟨arr, e, hb, hsz, hcap⟩
theorem CRep.fill {e2 : Nat} {r2 : List (List CV)} (h : CRep own w S (.sl esz rows) (.slice (some ⟨b, ofs, none⟩) n cap)) (hr : rows[i]? = some row) (hf : f < row.length) (hcell : w.cell? ⟨b, ofs + i * esz + f, none⟩ = some v)
 (hc : CRep own w Sc (.sl e2 r2) v) (hT : ∀ b', S b' → T b') (hTc : ∀ b', Sc b' → T b') (hd : own = true → ∀ b', Sc b' → ¬ S b') : CRep own w T (.sl esz (rows.set i (row.set f (.sl e2 r2)))) (.slice (some ⟨b, ofs, none⟩) n cap) := by
 classical
 cases h with
 | nil => simp at hr
 | ronil => simp at hr
 | row S esz rows b off cap arr e fz n vals lab hS hb hfz hn hcap hmax hsz hrow hval hrep =>
   have hil : i < rows.length := (List.getElem?_eq_some_iff.1 hr).1
   have hre := hrow row (List.mem_of_getElem? hr)
   have hvv : vals i f = v := by
    have h1 := hval i f hil (by omega)
    simp [World.cell?, hb, h1] at hcell
    exact hcell
   refine .row T esz _ b ofs cap arr e fz _ vals (fun b' => if Sc b' then (i, f) else lab b') (hT _ hS) hb hfz (by simpa using hn) hcap hmax hsz ?_ ?_ ?_
   ·intro r hr'
    rcases List.mem_or_eq_of_mem_set hr' with h1 | h1
    ·exact hrow r h1
    ·rw [h1, List.length_set]; exact hre
   ·intro i' f' h1 h2; exact hval i' f' (by simpa using h1) h2
   ·intro i' f' row' c h1 h2
    by_cases hi : i' = i
    ·subst hi
     rw [List.getElem?_set_self hil] at h1
     simp at h1; subst h1
     by_cases hff : f' = f
     ·subst hff
      rw [List.getElem?_set_self (by omega)] at h2
      simp at h2; subst h2
      rw [hvv]
      refine hc.mono fun b' hb' => ⟨hTc _ hb', fun ho => ⟨fun hbb => ?_, by simp [hb']⟩⟩
      subst hbb; exact hd ho _ hb' hS
     ·rw [List.getElem?_set_ne (Ne.symm hff)] at h2
      refine (hrep i' f' row c hr h2).mono fun b' hb' => ⟨hT _ hb'.1, fun ho => ⟨(hb'.2 ho).1, ?_⟩⟩
      rw [if_neg (fun hx => hd ho _ hx hb'.1)]; exact (hb'.2 ho).2
    ·rw [List.getElem?_set_ne (Ne.symm hi)] at h1
     refine (hrep i' f' row' c h1 h2).mono fun b' hb' => ⟨hT _ hb'.1, fun ho => ⟨(hb'.2 ho).1, ?_⟩⟩
     rw [if_neg (fun hx => hd ho _ hx hb'.1)]; exact (hb'.2 ho).2
theorem CRep.takes {u : Value} {e2 : Nat} {r2 : List (List CV)} (h : CRep own w S (.sl esz rows) u) (hr : rows[i]? = some row) (hf : row[f]? = some (.sl e2 r2)) :
 ∃ b ofs cap v, u = .slice (some ⟨b, ofs, none⟩) rows.length cap ∧ S b ∧ w.cell? ⟨b, ofs + i * esz + f, none⟩ = some v ∧ v.oneCell' = true ∧ ∃ C : Nat → Prop, (∀ b', C b' → S b' ∧ (own = true → b' ≠ b)) ∧ CRep own w C (.sl e2 r2) v ∧
  CRep own w (fun b' => S b' ∧ (own = true → ¬ C b')) (.sl esz (rows.modify i fun r => r.set f .hole)) u := by
 cases h with
 | nil => simp at hr
 | ronil => simp at hr
 | row S esz rows b off cap arr e fz n vals lab hS hb hfz hn hcap hmax hsz hrow hval hrep =>
   subst hn
   have hil : i < rows.length := (List.getElem?_eq_some_iff.1 hr).1
   have hfl : f < row.length := (List.getElem?_eq_some_iff.1 hf).1
   have hre := hrow row (List.mem_of_getElem? hr)
   have hone : (vals i f).oneCell' = true := by
    have h1 := hrep i f row _ hr hf
    generalize vals i f = x at h1
    cases h1 <;> rfl
   refine ⟨b, off, cap, vals i f, rfl, hS, ?_, hone, fun b' => S b' ∧ (own = true → b' ≠ b ∧ lab b' = (i, f)), fun b' hb' => ⟨hb'.1, fun ho => (hb'.2 ho).1⟩, hrep i f row _ hr hf, ?_⟩
   ·simp [World.cell?, hb, hval i f hil (by omega)]
   ·refine .row _ esz _ b off cap arr e fz _ vals lab ⟨hS, fun ho hx => (hx.2 ho).1 rfl⟩ hb hfz (by simp) hcap hmax hsz ?_ ?_ ?_
    ·intro r hr'
     obtain ⟨j, hj, rfl⟩ := List.getElem_of_mem hr'
     rw [List.getElem_modify]
     have hjl : j < rows.length := by simpa using hj
     split
     ·rw [List.length_set]; exact hrow _ (List.getElem_mem hjl)
     ·exact hrow _ (List.getElem_mem hjl)
    ·intro i' f' h1 h2; exact hval i' f' (by simpa using h1) h2
    ·intro i' f' row' c h1 h2
     rw [List.getElem?_modify] at h1
     cases hx : rows[i']? with
     | none => rw [hx] at h1; simp at h1
     | some r0 =>
       rw [hx] at h1
       by_cases hi : i = i'
       ·subst hi
        simp at h1; subst h1
        by_cases hff : f' = f
        ·subst hff
         rw [hr] at hx; simp at hx; subst hx
         rw [List.getElem?_set_self hfl] at h2
         simp at h2; subst h2
         exact .hole _ _ hone
        ·rw [List.getElem?_set_ne (Ne.symm hff)] at h2
         refine (hrep i f' r0 c hx h2).mono fun b' hb' => ⟨⟨hb'.1, fun ho hc => ?_⟩, hb'.2⟩
         have h3 := (hb'.2 ho).2
         have h4 := (hc.2 ho).2
         rw [h3] at h4
         exact hff (Prod.mk.inj h4).2
       ·simp [hi] at h1; subst h1
        refine (hrep i' f' r0 c hx h2).mono fun b' hb' => ⟨⟨hb'.1, fun ho hc => ?_⟩, hb'.2⟩
        have h3 := (hb'.2 ho).2
        have h4 := (hc.2 ho).2
        rw [h3] at h4
        exact hi (Prod.mk.inj h4).1.symm
theorem CRep.hole_set {arr arr' : Array Value} {e : TypeId} (h : CRep true w S (.sl esz rows) (.slice (some ⟨b, ofs, none⟩) n cap)) (hr : rows[i]? = some row) (hf : row[f]? = some .hole) (hb : w.heap[b]? = some (.cells arr e (0, 0)))
 (hsz' : arr'.size = arr.size) (hone : v.oneCell' = true) (hget : ∀ j, arr'[j]? = if j = ofs + i * esz + f then some v else arr[j]?) : CRep true (w.setRow b arr') S (.sl esz rows) (.slice (some ⟨b, ofs, none⟩) n cap) := by
 cases h with
 | nil => simp at hr
 | ronil => simp at hr
 | row S esz rows b off cap arr0 e0 fz n vals lab hS hb0 hfz hn hcap hmax hsz hrow hval hrep =>
   rw [hb] at hb0
   simp only [Option.some.injEq, Obj.cells.injEq] at hb0
   obtain ⟨rfl, rfl, rfl⟩ := hb0
   have hfl : f < row.length := (List.getElem?_eq_some_iff.1 hf).1
   have hre := hrow row (List.mem_of_getElem? hr)
   refine .row S esz rows b ofs cap arr' e (0, 0) n (fun i' f' => if i' = i ∧ f' = f then v else vals i' f') lab hS (setRow_heap w b arr _ e _ hb) (fun _ => rfl) hn hcap hmax (by rw [hsz']; exact hsz) hrow ?_ ?_
   ·intro i' f' h1 h2
    rw [hget]
    by_cases hif : i' = i ∧ f' = f
    ·rw [if_pos hif, if_pos (by rw [hif.1, hif.2])]
    ·rw [if_neg hif, if_neg (fun he => hif (idx_inj h2 (by omega) (by omega)))]
     exact hval i' f' h1 h2
   ·intro i' f' row' c h1 h2
    by_cases hif : i' = i ∧ f' = f
    ·obtain ⟨rfl, rfl⟩ := hif
     rw [hr] at h1; simp at h1; subst h1
     rw [hf] at h2; simp at h2; subst h2
     simp only [and_self, ↓reduceIte]
     exact .hole _ _ hone
    ·rw [if_neg hif]
     exact (hrep i' f' row' c h1 h2).world fun b' hb' => setRow_other w b b' _ (hb'.2 rfl).1
theorem CRep.cell_set {arr arr' : Array Value} {e : TypeId} {x y : Value} (h : CRep true w S (.sl esz rows) (.slice (some ⟨b, ofs, none⟩) n cap)) (hr : rows[i]? = some row) (hf : row[f]? = some (.v y)) (hb : w.heap[b]? = some (.cells arr e (0, 0)))
 (hsz' : arr'.size = arr.size) (hone : x.oneCell' = true) (hget : ∀ j, arr'[j]? = if j = ofs + i * esz + f then some x else arr[j]?) : CRep true (w.setRow b arr') S (.sl esz (rows.set i (row.set f (.v x)))) (.slice (some ⟨b, ofs, none⟩) n cap) := by
 cases h with
 | nil => simp at hr
 | ronil => simp at hr
 | row S esz rows b off cap arr0 e0 fz n vals lab hS hb0 hfz hn hcap hmax hsz hrow hval hrep =>
   rw [hb] at hb0
   simp only [Option.some.injEq, Obj.cells.injEq] at hb0
   obtain ⟨rfl, rfl, rfl⟩ := hb0
   have hil : i < rows.length := (List.getElem?_eq_some_iff.1 hr).1
   have hfl : f < row.length := (List.getElem?_eq_some_iff.1 hf).1
   have hre := hrow row (List.mem_of_getElem? hr)
   refine .row S esz _ b ofs cap arr' e (0, 0) n (fun i' f' => if i' = i ∧ f' = f then x else vals i' f') lab hS (setRow_heap w b arr _ e _ hb) (fun _ => rfl) (by simpa using hn) hcap hmax (by rw [hsz']; exact hsz) ?_ ?_ ?_
   ·intro r hr'
    rcases List.mem_or_eq_of_mem_set hr' with h1 | h1
    ·exact hrow r h1
    ·rw [h1, List.length_set]; exact hre
   ·intro i' f' h1 h2
    rw [List.length_set] at h1
    rw [hget]
    by_cases hif : i' = i ∧ f' = f
    ·rw [if_pos hif, if_pos (by rw [hif.1, hif.2])]
    ·rw [if_neg hif, if_neg (fun he => hif (idx_inj h2 (by omega) (by omega)))]
     exact hval i' f' h1 h2
   ·intro i' f' row' c h1 h2
    by_cases hi' : i' = i
    ·subst hi'
     rw [List.getElem?_set_self hil] at h1
     obtain rfl := Option.some.inj h1
     by_cases hf' : f' = f
     ·subst hf'
      rw [List.getElem?_set_self hfl] at h2
      obtain rfl := Option.some.inj h2
      simp only [and_self, ↓reduceIte]
      exact .v _ _ hone
     ·rw [List.getElem?_set_ne (Ne.symm hf')] at h2
      rw [if_neg (fun hh => hf' hh.2)]
      exact (hrep i' f' row c hr h2).world fun b' hb' => setRow_other w b b' _ (hb'.2 rfl).1
    ·rw [List.getElem?_set_ne (Ne.symm hi')] at h1
     rw [if_neg (fun hh => hi' hh.1)]
     exact (hrep i' f' row' c h1 h2).world fun b' hb' => setRow_other w b b' _ (hb'.2 rfl).1
end
end Go.Av
