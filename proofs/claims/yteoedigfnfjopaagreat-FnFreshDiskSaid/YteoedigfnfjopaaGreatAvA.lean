import Derived.WalkKit
set_option linter.unusedSimpArgs false
set_option linter.unusedVariables false
namespace Go.Av
open Go
inductive IK where
 | ifc (T : Nat)
 | clo (f : Nat)
def IK.val : IK → Value → Value
 | .ifc T, p => .iface T p
 | .clo f, p => .func (.func f) #[] #[p]
inductive AV where
 | top
 | v (x : Value)
 | sl (o : Nat)
 | pp (o off : Nat)
 | ep (o i esz f : Nat)
 | ip (o : Nat) (k : IK)
 | agg (l : List AV)
 | tup (l : List AV)
inductive CV where
 | v (x : Value)
 | hole
 | sl (esz : Nat) (rows : List (List CV))
inductive Cont where
 | ints (k : IntKind) (xs : List Int)
 | bools (xs : List Bool)
 | strs (xs : List ByteArray)
 | pairs (xs : List (Int × Int))
 | trips (xs : List (Int × Int × Int))
 | intss (k : IntKind) (xss : List (List Int))
 | tripss (xss : List (List (Int × Int × Int)))
 | graphs (gs : List (Int × List (Int × Int × Int)))
 | gen (esz : Nat) (rows : List (List CV))
def Cont.esz : Cont → Nat
 | .ints .. | .bools _ | .strs _ | .intss .. | .tripss _ => 1
 | .pairs _ | .graphs _ => 2
 | .trips _ => 3
 | .gen e _ => e
def Cont.len : Cont → Nat
 | .ints _ xs => xs.length | .bools xs => xs.length | .strs xs => xs.length | .pairs xs => xs.length | .trips xs => xs.length
 | .intss _ xs => xs.length | .tripss xs => xs.length | .graphs xs => xs.length | .gen _ r => r.length
def cI (k : IntKind) (n : Int) : CV := .v (.int k n)
def Cont.rows : Cont → List (List CV)
 | .ints k xs => xs.map fun n => [cI k n]
 | .bools xs => xs.map fun b => [CV.v (.bool b)]
 | .strs xs => xs.map fun s => [CV.v (.string s)]
 | .pairs xs => xs.map fun p => [cI .i64 p.1, cI .i64 p.2]
 | .trips xs => xs.map fun p => [cI .i64 p.1, cI .i64 p.2.1, cI .i64 p.2.2]
 | .intss k xss => xss.map fun xs => [CV.sl 1 (xs.map fun n => [cI k n])]
 | .tripss xss => xss.map fun xs => [CV.sl 3 (xs.map fun p => [cI .i64 p.1, cI .i64 p.2.1, cI .i64 p.2.2])]
 | .graphs gs => gs.map fun g => [cI .i64 g.1, CV.sl 3 (g.2.map fun p => [cI .i64 p.1, cI .i64 p.2.1, cI .i64 p.2.2])]
 | .gen _ r => r
theorem Cont.len_rows (c : Cont) : c.rows.length = c.len := by cases c <;> simp [Cont.rows, Cont.len]
def Cont.cell (c : Cont) (i f : Nat) : Option Value :=
 match c with
 | .ints k xs => if f = 0 then some (.int k (xs.getD i 0)) else none
 | .bools xs => if f = 0 then some (.bool (xs.getD i false)) else none
 | .strs xs => if f = 0 then some (.string (xs.getD i default)) else none
 | .pairs xs => if f = 0 then some (.int .i64 (xs.getD i (0, 0)).1) else if f = 1 then some (.int .i64 (xs.getD i (0, 0)).2) else none
 | .trips xs => if f = 0 then some (.int .i64 (xs.getD i (0, 0, 0)).1) else if f = 1 then some (.int .i64 (xs.getD i (0, 0, 0)).2.1)
  else if f = 2 then some (.int .i64 (xs.getD i (0, 0, 0)).2.2) else none
 | .graphs gs => if f = 0 then some (.int .i64 (gs.getD i (0, [])).1) else none
 | _ => none
theorem Cont.cell_rows {c : Cont} {i f : Nat} {x : Value} (h : c.cell i f = some x) (hi : i < c.len) : ∃ row, c.rows[i]? = some row ∧ row[f]? = some (.v x) := by
 cases c <;> simp only [Cont.len] at hi <;> simp only [Cont.cell] at h
 all_goals
  first
   | (cases h; done)
   | (refine ⟨_, by rw [Cont.rows, List.getElem?_map, List.getElem?_eq_getElem hi]; rfl, ?_⟩
      repeat' (split at h)
      all_goals first
       | (cases h; done)
       | (subst_vars; simp at h; subst h; simp [cI, List.getElem?_eq_getElem hi]))
def Cont.cells (c : Cont) (i : Nat) : (f n : Nat) → Option (List AV)
 | _, 0 => some []
 | f, n + 1 => match c.cell i f, c.cells i (f + 1) n with
   | some x, some l => some (.v x :: l)
   | _, _ => none
def cellsAt (w : World) (b : Nat) : Prop := ∃ arr e fz, w.heap[b]? = some (.cells arr e fz)
structure ExtP where
 p : (Nat → Prop) → (Nat → Prop) → World → Prop
 stay : ∀ {S S' D D' : Nat → Prop} {w w' : World}, p S D w → (∀ b, b < w.heap.size → S b ∨ D b → w'.heap[b]? = w.heap[b]?) → w.heap.size ≤ w'.heap.size →
  (∀ b, b < w.heap.size → D b → D' b) → (∀ b, b < w.heap.size → S b → S' b) → p S' D' w'
 cells : ∀ {S D : Nat → Prop} {w : World}, p S D w → p S (fun b => D b ∧ cellsAt w b) w
theorem size_of_keeps {w w' : World} (h : ∀ b, b < w.heap.size → w'.heap[b]? = w.heap[b]?) : w.heap.size ≤ w'.heap.size := by
 by_cases h0 : w.heap.size = 0
 ·omega
 ·have h1 := h (w.heap.size - 1) (by omega)
  rw [Array.getElem?_eq_getElem (show w.heap.size - 1 < w.heap.size by omega)] at h1
  have := (Array.getElem?_eq_some_iff.1 h1).1
  omega
inductive AObj where
 | dead
 | box (cells : List AV)
 | rbox (cells : List AV)
 | row (own : Bool) (c : Cont)
 | view (src : Nat) (c : Cont)
 | glob (g : Nat) (c : Cont)
 | tak (own : Bool) (c : Cont) (i f : Nat) (p : Option Nat)
 | mix (gs : List (Int × List (Int × Int × Int)))
 | mp (m : List (Int × List (Int × Int × Int))) (k : Option Int) (p : Option Nat)
 | mi (m : List (Int × Int))
 | ext (f : ExtP)
inductive CRep (own : Bool) (w : World) : (Nat → Prop) → CV → Value → Prop where
 | v (S x) (h : x.oneCell' = true) : CRep own w S (.v x) x
 | hole (S u) (h : u.oneCell' = true) : CRep own w S .hole u
 | nil (S esz a) : CRep own w S (.sl esz []) (.slice a 0 0)
 | ronil (S esz a cap) (h : own = false) : CRep own w S (.sl esz []) (.slice a 0 cap)
 | row (S : Nat → Prop) (esz : Nat) (rows : List (List CV)) (b off cap : Nat) (arr : Array Value) (e : TypeId) (fz : Nat × Nat) (n : Nat)
  (vals : Nat → Nat → Value) (lab : Nat → Nat × Nat)
  (hS : S b) (hb : w.heap[b]? = some (.cells arr e fz)) (hfz : own = true → fz = (0, 0))
  (hn : n = rows.length) (hcap : n ≤ cap) (hmax : cap ≤ maxLen) (hsz : off + cap * esz ≤ arr.size) (hrow : ∀ r ∈ rows, r.length = esz)
  (hval : ∀ i f, i < rows.length → f < esz → arr[off + i * esz + f]? = some (vals i f))
  (hrep : ∀ i f row c, rows[i]? = some row → row[f]? = some c → CRep own w (fun b' => S b' ∧ (own = true → b' ≠ b ∧ lab b' = (i, f))) c (vals i f)) :
  CRep own w S (.sl esz rows) (.slice (some ⟨b, off, none⟩) n cap)
theorem CRep.mono {own : Bool} {w : World} {S : Nat → Prop} {c : CV} {u : Value} (h : CRep own w S c u) : ∀ {S' : Nat → Prop}, (∀ b, S b → S' b) → CRep own w S' c u := by
 induction h with
 | v S x h => intro S' hS; exact .v _ _ h
 | hole S u h => intro S' hS; exact .hole _ _ h
 | nil S esz a => intro S' hS; exact .nil _ _ _
 | ronil S esz a cap h => intro S' hS; exact .ronil _ _ _ _ h
 | row S esz rows b off cap arr e fz n vals lab hS hb hfz hn hcap hmax hsz hrow hval hrep ih =>
   intro S' hS'
   exact .row _ _ _ _ _ _ arr e fz _ vals lab (hS' _ hS) hb hfz hn hcap hmax hsz hrow hval
    (fun i f row c h1 h2 => ih i f row c h1 h2 (fun b h => ⟨hS' _ h.1, h.2⟩))
theorem CRep.world {own : Bool} {w w' : World} {S : Nat → Prop} {c : CV} {u : Value} (h : CRep own w S c u) : (∀ b, S b → w'.heap[b]? = w.heap[b]?) → CRep own w' S c u := by
 induction h with
 | v S x h => intro _; exact .v _ _ h
 | hole S u h => intro _; exact .hole _ _ h
 | nil S esz a => intro _; exact .nil _ _ _
 | ronil S esz a cap h => intro _; exact .ronil _ _ _ _ h
 | row S esz rows b off cap arr e fz n vals lab hS hb hfz hn hcap hmax hsz hrow hval hrep ih =>
   intro hw
   exact .row _ _ _ _ _ _ arr e fz _ vals lab hS ((hw b hS).trans hb) hfz hn hcap hmax hsz hrow hval
    (fun i f row c h1 h2 => ih i f row c h1 h2 (fun b h => hw b h.1))
theorem CRep.ro {own : Bool} {w : World} {S : Nat → Prop} {c : CV} {u : Value} (h : CRep own w S c u) : CRep false w S c u := by
 induction h with
 | v S x h => exact .v _ _ h
 | hole S u h => exact .hole _ _ h
 | nil S esz a => exact .nil _ _ _
 | ronil S esz a cap h => exact .ronil _ _ _ _ rfl
 | row S esz rows b off cap arr e fz n vals lab hS hb hfz hn hcap hmax hsz hrow hval hrep ih =>
   exact .row _ _ _ _ _ _ arr e fz _ vals lab hS hb (fun h => by cases h) hn hcap hmax hsz hrow hval
    (fun i f row c h1 h2 => (ih i f row c h1 h2).mono (fun b h => ⟨h.1, fun h => by cases h⟩))
theorem CRep.slice {own : Bool} {w : World} {S : Nat → Prop} {esz : Nat} {rows : List (List CV)} {u : Value} (h : CRep own w S (.sl esz rows) u) :
 ∃ a cap, u = .slice a rows.length cap ∧ rows.length ≤ maxLen := by
 cases h with
 | nil => exact ⟨_, _, rfl, by simp⟩
 | ronil => exact ⟨_, _, rfl, by simp⟩
 | row S esz rows b off cap arr e fz n vals lab hS hb hfz hn hcap hmax hsz hrow hval hrep => subst hn; exact ⟨_, _, rfl, Nat.le_trans hcap hmax⟩
theorem CRep.cell {own : Bool} {w : World} {S : Nat → Prop} {esz : Nat} {rows : List (List CV)} {u : Value} (h : CRep own w S (.sl esz rows) u)
 {i : Nat} {row : List CV} (hi : rows[i]? = some row) :
 ∃ b off cap, u = .slice (some ⟨b, off, none⟩) rows.length cap ∧ S b ∧ row.length = esz ∧
  ∀ f c, row[f]? = some c → ∃ val, w.cell? ⟨b, off + i * esz + f, none⟩ = some val ∧ val.oneCell' = true ∧ CRep own w S c val := by
 cases h with
 | nil => simp at hi
 | ronil => simp at hi
 | row S esz rows b off cap arr e fz n vals lab hS hb hfz hn hcap hmax hsz hrow hval hrep =>
   subst hn
   have hlt : i < rows.length := (List.getElem?_eq_some_iff.1 hi).1
   have hr : row.length = esz := hrow row (List.mem_of_getElem? hi)
   refine ⟨b, off, cap, rfl, hS, hr, fun f c hc => ?_⟩
   have hf : f < row.length := (List.getElem?_eq_some_iff.1 hc).1
   have h1 := hrep i f row c hi hc
   refine ⟨vals i f, ?_, ?_, h1.mono (fun b h => h.1)⟩
   ·simp [World.cell?, hb, hval i f hlt (by omega)]
   ·generalize vals i f = x at h1; cases h1 <;> first | assumption | rfl
theorem CRep.block_lt {own : Bool} {w : World} {S : Nat → Prop} {esz n cap b off : Nat} {rows : List (List CV)} (h : CRep own w S (.sl esz rows) (.slice (some ⟨b, off, none⟩) n cap)) (hr : 0 < rows.length) : b < w.heap.size := by
 cases h with
 | nil => simp at hr
 | ronil => simp at hr
 | row S esz rows b off cap arr e fz n vals lab hS hb hfz hn hcap hmax hsz hrow hval hrep => exact (Array.getElem?_eq_some_iff.1 hb).1
def rel1 (ρ : List Value) : AV → Value → Prop
 | .top, u => u.oneCell' = true
 | .v x, u => u = x ∧ x.oneCell' = true
 | .sl o, u => ρ[o]? = some u ∧ u.oneCell' = true
 | .pp o off, u => ∃ b, ρ[o]? = some (.pointer (some ⟨b, 0, none⟩)) ∧ u = .pointer (some ⟨b, off, none⟩)
 | .ep o i esz f, u => ∃ b ofs n cap, ρ[o]? = some (.slice (some ⟨b, ofs, none⟩) n cap) ∧ u = .pointer (some ⟨b, ofs + i * esz + f, none⟩)
 | .ip o k, u => ∃ b, ρ[o]? = some (.pointer (some ⟨b, 0, none⟩)) ∧ u = k.val (.pointer (some ⟨b, 0, none⟩))
 | .agg _, _ => False
 | .tup _, _ => False
theorem rel1.one {ρ : List Value} {x : AV} {u : Value} (h : rel1 ρ x u) : u.oneCell' = true := by
 cases x <;> simp only [rel1] at h
 ·exact h
 ·exact h.1 ▸ h.2
 ·exact h.2
 ·obtain ⟨b, _, rfl⟩ := h; rfl
 ·obtain ⟨b, _, _, _, _, rfl⟩ := h; rfl
 ·rename_i k; obtain ⟨b, _, rfl⟩ := h; cases k <;> rfl
def Rel1s (ρ : List Value) (l : List AV) (cs : List Value) : Prop := cs.length = l.length ∧ ∀ (j : Nat) (x : AV) (u : Value), l[j]? = some x → cs[j]? = some u → rel1 ρ x u
def rel2 (ρ : List Value) : AV → Value → Prop
 | .top, _ => True
 | .v x, u => u = x
 | .agg l, u => ∃ cs : List Value, u = .agg cs.toArray ∧ Rel1s ρ l cs
 | .tup _, _ => False
 | x, u => rel1 ρ x u
def Rel2s (ρ : List Value) (l : List AV) (cs : List Value) : Prop := cs.length = l.length ∧ ∀ (j : Nat) (x : AV) (u : Value), l[j]? = some x → cs[j]? = some u → rel2 ρ x u
def rel (ρ : List Value) : AV → Value → Prop
 | .tup l, u => ∃ cs : List Value, u = .tuple cs.toArray ∧ Rel2s ρ l cs
 | x, u => rel2 ρ x u
def Cont.holed (c : Cont) (i f : Nat) : List (List CV) := c.rows.modify i fun r => r.set f .hole
def tripC (p : Int × Int × Int) : List CV := [cI .i64 p.1, cI .i64 p.2.1, cI .i64 p.2.2]
def MRep (w : World) (So Sn : Nat → Prop) (gs : List (Int × List (Int × Int × Int))) (u : Value) : Prop :=
 CRep true w So (.sl 2 (gs.map fun g => [cI .i64 g.1, .hole])) u ∧ ∀ b ofs n cap, u = .slice (some ⟨b, ofs, none⟩) n cap → ∀ i g, gs[i]? = some g →
  ∃ v, w.cell? ⟨b, ofs + i * 2 + 1, none⟩ = some v ∧ CRep false w Sn (.sl 3 (g.2.map tripC)) v
def MapR (w : World) (So : Nat → Prop) (m : List (Int × List (Int × Int × Int))) (out : Option Int) (u : Value) : Prop :=
 ∃ (r : Nat) (es : Array MapEntry) (clock : Nat) (lab : Nat → Nat), u = .map (some r) ∧ So r ∧ w.heap[r]? = some (.map es clock) ∧ es.size = m.length ∧ (m.map (·.1)).Nodup ∧
  ∀ (i : Nat) (e : MapEntry) (x : Int × List (Int × Int × Int)), es[i]? = some e → m[i]? = some x → e.key = .int .i64 x.1 ∧ e.val.oneCell' = true ∧ (out ≠ some x.1 → CRep true w (fun b => So b ∧ b ≠ r ∧ lab b = i) (.sl 3 (x.2.map tripC)) e.val)
def MapAt (w : World) (u : Value) (k : Int) (v : Value) : Prop :=
 ∃ (r : Nat) (es : Array MapEntry) (clock : Nat), u = .map (some r) ∧ w.heap[r]? = some (.map es clock) ∧
  ((∃ (i : Nat) (e : MapEntry), es[i]? = some e ∧ e.key = .int .i64 k ∧ e.val = v) ∨ ((∀ (i : Nat) (e : MapEntry), es[i]? = some e → e.key ≠ .int .i64 k) ∧ v = .slice none 0 0))
def MapO (ρ : List Value) (w : World) (So : Nat → Prop) (m : List (Int × List (Int × Int × Int))) (k : Option Int) (p : Option Nat) (u : Value) : Prop :=
 MapR w So m k u ∧ ∀ k0 q, k = some k0 → p = some q → ∃ v, ρ[q]? = some v ∧ v.oneCell' = true ∧ MapAt w u k0 v
def MapI (w : World) (So : Nat → Prop) (m : List (Int × Int)) (u : Value) : Prop :=
 ∃ (r : Nat) (es : Array MapEntry) (clock : Nat), u = .map (some r) ∧ So r ∧ w.heap[r]? = some (.map es clock) ∧ es.size = m.length ∧ (m.map (·.1)).Nodup ∧
  ∀ (i : Nat) (e : MapEntry) (x : Int × Int), es[i]? = some e → m[i]? = some x → e.key = .int .i64 x.1 ∧ e.val = .int .i64 x.2
theorem MapI.to {w w' : World} {So So' : Nat → Prop} {m : List (Int × Int)} {u : Value} (h : MapI w So m u) (h1 : ∀ b, So b → b < w.heap.size → w'.heap[b]? = w.heap[b]? ∧ So' b) : MapI w' So' m u := by
 obtain ⟨r, es, clock, e1, e2, e3, e4⟩ := h
 have hr := h1 r e2 (Array.getElem?_eq_some_iff.1 e3).1
 exact ⟨r, es, clock, e1, hr.2, hr.1.trans e3, e4⟩
def has (γ : Nat → Option Nat) (ρ : List Value) (w : World) (o : Nat) : AObj → Prop
 | .dead => True
 | .box cells => ∃ b arr e, ρ[o]? = some (.pointer (some ⟨b, 0, none⟩)) ∧ γ b = some o ∧ w.heap[b]? = some (.cells arr e (0, 0)) ∧ Rel1s ρ cells arr.toList
 | .rbox cells => ∃ b arr e fz, ρ[o]? = some (.pointer (some ⟨b, 0, none⟩)) ∧ γ b = none ∧ w.heap[b]? = some (.cells arr e fz) ∧ Rel1s ρ cells arr.toList
 | .row own c => ∃ u, ρ[o]? = some u ∧ CRep own w (fun b => γ b = if own then some o else none) (.sl c.esz c.rows) u
 | .view src c => ∃ u, ρ[o]? = some u ∧ CRep true w (fun b => γ b = some src) (.sl c.esz c.rows) u
 | .glob g c => γ g = none ∧ ∃ arr e fz, w.heap[g]? = some (.cells arr e fz) ∧ ∀ i f x, i < c.len → c.cell i f = some x → arr[i * c.esz + f]? = some x ∧ x.oneCell' = true
 | .tak own c i f p => ∃ b ofs cap, ρ[o]? = some (.slice (some ⟨b, ofs, none⟩) c.len cap) ∧ i < c.len ∧ CRep own w (fun b => γ b = if own then some o else none) (.sl c.esz (c.holed i f)) (.slice (some ⟨b, ofs, none⟩) c.len cap) ∧
  (γ b = if own then some o else none) ∧ ∀ q, p = some q → ∃ v, ρ[q]? = some v ∧ v.oneCell' = true ∧ w.cell? ⟨b, ofs + i * c.esz + f, none⟩ = some v
 | .mix gs => ∃ u, ρ[o]? = some u ∧ MRep w (fun b => γ b = some o) (fun b => γ b = none) gs u
 | .mp m k p => ∃ u, ρ[o]? = some u ∧ MapO ρ w (fun b => γ b = some o) m k p u
 | .mi m => ∃ u, ρ[o]? = some u ∧ MapI w (fun b => γ b = some o) m u
 | .ext f => f.p (fun b => γ b = some o) (fun b => γ b = none) w
abbrev Env := List (Nat × AV)
def EnvOk (ρ : List Value) (E : Env) (tmps : Array Value) : Prop := ∀ t x, E.lookup t = some x → rel ρ x (tmps.getD t undef)
structure HeapOk (γ : Nat → Option Nat) (ρ : List Value) (H : List AObj) (w : World) : Prop where
 len : ρ.length = H.length
 obj : ∀ o ob, H[o]? = some ob → has γ ρ w o ob
 lab : ∀ b o, γ b = some o → o < H.length ∧ b < w.heap.size
structure Pv where
 v : Nat → Value
 z : Nat → Prop
instance : CoeFun Pv fun _ => Nat → Value := ⟨Pv.v⟩
def markOf (k : Nat) : Deferred := { target := .collected k, args := #[] }
def Defs (z : Nat → Prop) (γ : Nat → Option Nat) (w : World) (ds : List Deferred) : Prop :=
 (∀ b, z b → b < w.heap.size ∧ γ b = none) ∧ ∃ ks : List Nat, ds = ks.map markOf ∧ ks.Nodup ∧ ∀ k ∈ ks, ¬ z k ∧ w.heap[k]? = some (.deferred (some [])) ∧ γ k = none
theorem Defs.nil0 {z : Nat → Prop} {γ : Nat → Option Nat} {w : World} (h : ∀ b, z b → b < w.heap.size ∧ γ b = none) : Defs z γ w [] := ⟨h, [], rfl, .nil, fun _ h => by cases h⟩
theorem Defs.keep {z : Nat → Prop} {γ γ' : Nat → Option Nat} {w w' : World} {ds : List Deferred} (h : Defs z γ w ds) (hk : ∀ b, b < w.heap.size → γ b = none → w'.heap[b]? = w.heap[b]? ∧ γ' b = none) : Defs z γ' w' ds := by
 obtain ⟨h0, ks, h1, h2, h3⟩ := h
 refine ⟨fun b hb => ?_, ks, h1, h2, fun k hm => ?_⟩
 ·obtain ⟨g1, g2⟩ := h0 b hb
  obtain ⟨e1, e2⟩ := hk b g1 g2
  rw [Array.getElem?_eq_getElem g1] at e1
  exact ⟨(Array.getElem?_eq_some_iff.1 e1).1, e2⟩
 ·obtain ⟨g0, g1, g2⟩ := h3 k hm
  obtain ⟨e1, e2⟩ := hk k (Array.getElem?_eq_some_iff.1 g1).1 g2
  exact ⟨g0, e1.trans g1, e2⟩
theorem Defs.lab {z : Nat → Prop} {γ γ' : Nat → Option Nat} {w : World} {ds : List Deferred} (h : Defs z γ w ds) (hk : ∀ b, γ b = none → γ' b = none) : Defs z γ' w ds := h.keep fun b _ hb => ⟨rfl, hk b hb⟩
structure St (N : Nat) (pin : List Nat) (πv : Pv) (γ : Nat → Option Nat) (ρ : List Value) (E : Env) (H : List AObj) (a : Act) (w : World) : Prop where
 size : a.tmps.size = N
 defs : Defs πv.z γ w a.defers
 env : EnvOk ρ E a.tmps
 heap : HeapOk γ ρ H w
 pins : ∀ o ∈ pin, ρ[o]? = some (πv o)
structure Fr (γ : Nat → Option Nat) (w : World) (γ' : Nat → Option Nat) (w' : World) : Prop where
 os : w'.os = w.os
 tape : w'.tape = w.tape
 output : w'.output = w.output
 size : w.heap.size ≤ w'.heap.size
 keep : ∀ b, b < w.heap.size → γ b = none → w'.heap[b]? = w.heap[b]? ∧ γ' b = none
 drawn : w.drawn ≤ w'.drawn
theorem Fr.refl (γ : Nat → Option Nat) (w : World) : Fr γ w γ w := ⟨rfl, rfl, rfl, Nat.le_refl _, fun _ _ h => ⟨rfl, h⟩, Nat.le_refl _⟩
theorem Fr.trans {γ γ' γ'' : Nat → Option Nat} {w w' w'' : World} (h : Fr γ w γ' w') (k : Fr γ' w' γ'' w'') : Fr γ w γ'' w'' :=
 ⟨k.os.trans h.os, k.tape.trans h.tape, k.output.trans h.output, Nat.le_trans h.size k.size,
  fun b hb hg => let ⟨h1, h2⟩ := h.keep b hb hg; let ⟨k1, k2⟩ := k.keep b (Nat.lt_of_lt_of_le hb h.size) h2; ⟨k1.trans h1, k2⟩, Nat.le_trans h.drawn k.drawn⟩
theorem Fr.drew (γ : Nat → Option Nat) (w : World) (n : Nat) (h : w.drawn ≤ n) : Fr γ w γ { w with drawn := n } := ⟨rfl, rfl, rfl, Nat.le_refl _, fun _ _ h => ⟨rfl, h⟩, h⟩
theorem getElem?_append_of {α : Type} {l : List α} {i : Nat} {x : α} (h : l[i]? = some x) (m : List α) : (l ++ m)[i]? = some x := by
 have hlt := (List.getElem?_eq_some_iff.1 h).1
 rw [List.getElem?_append_left hlt]; exact h
theorem rel1.ext {ρ : List Value} {x : AV} {u : Value} (h : rel1 ρ x u) (m : List Value) : rel1 (ρ ++ m) x u := by
 cases x <;> simp only [rel1] at h ⊢
 ·exact h
 ·exact h
 ·exact ⟨getElem?_append_of h.1 m, h.2⟩
 ·obtain ⟨b, h1, h2⟩ := h; exact ⟨b, getElem?_append_of h1 m, h2⟩
 ·obtain ⟨b, ofs, n, cap, h1, h2⟩ := h; exact ⟨b, ofs, n, cap, getElem?_append_of h1 m, h2⟩
 ·obtain ⟨b, h1, h2⟩ := h; exact ⟨b, getElem?_append_of h1 m, h2⟩
theorem Rel1s.ext {ρ : List Value} {l : List AV} {cs : List Value} (h : Rel1s ρ l cs) (m : List Value) : Rel1s (ρ ++ m) l cs :=
 ⟨h.1, fun j x u h1 h2 => (h.2 j x u h1 h2).ext m⟩
theorem rel2.ext {ρ : List Value} {x : AV} {u : Value} (h : rel2 ρ x u) (m : List Value) : rel2 (ρ ++ m) x u := by
 cases x <;> simp only [rel2] at h ⊢
 ·exact h
 ·exact rel1.ext (x := .sl _) h m
 ·exact rel1.ext (x := .pp _ _) h m
 ·exact rel1.ext (x := .ep _ _ _ _) h m
 ·exact rel1.ext (x := .ip _ _) h m
 ·obtain ⟨cs, h1, h2⟩ := h; exact ⟨cs, h1, h2.ext m⟩
theorem Rel2s.ext {ρ : List Value} {l : List AV} {cs : List Value} (h : Rel2s ρ l cs) (m : List Value) : Rel2s (ρ ++ m) l cs :=
 ⟨h.1, fun j x u h1 h2 => (h.2 j x u h1 h2).ext m⟩
theorem rel.ext {ρ : List Value} {x : AV} {u : Value} (h : rel ρ x u) (m : List Value) : rel (ρ ++ m) x u := by
 cases x <;> simp only [rel] at h ⊢
 all_goals first | exact rel2.ext h m | (obtain ⟨cs, h1, h2⟩ := h; exact ⟨cs, h1, h2.ext m⟩)
theorem EnvOk.ext {ρ : List Value} {E : Env} {t : Array Value} (h : EnvOk ρ E t) (m : List Value) : EnvOk (ρ ++ m) E t := fun i x hx => (h i x hx).ext m
theorem CRep.lt {own : Bool} {w : World} {S : Nat → Prop} {c : CV} {u : Value} (h : CRep own w S c u) : CRep own w (fun b => S b ∧ b < w.heap.size) c u := by
 induction h with
 | v S x h => exact .v _ _ h
 | hole S u h => exact .hole _ _ h
 | nil S esz a => exact .nil _ _ _
 | ronil S esz a cap h => exact .ronil _ _ _ _ h
 | row S esz rows b off cap arr e fz n vals lab hS hb hfz hn hcap hmax hsz hrow hval hrep ih =>
   exact .row _ _ _ _ _ _ arr e fz _ vals lab ⟨hS, (Array.getElem?_eq_some_iff.1 hb).1⟩ hb hfz hn hcap hmax hsz hrow hval
    (fun i f row c h1 h2 => (ih i f row c h1 h2).mono (fun b h => ⟨⟨h.1.1, h.2⟩, h.1.2⟩))
theorem CRep.cl {own : Bool} {w : World} {S : Nat → Prop} {c : CV} {u : Value} (h : CRep own w S c u) : CRep own w (fun b => S b ∧ cellsAt w b) c u := by
 induction h with
 | v S x h => exact .v _ _ h
 | hole S u h => exact .hole _ _ h
 | nil S esz a => exact .nil _ _ _
 | ronil S esz a cap h => exact .ronil _ _ _ _ h
 | row S esz rows b off cap arr e fz n vals lab hS hb hfz hn hcap hmax hsz hrow hval hrep ih =>
   exact .row _ _ _ _ _ _ arr e fz _ vals lab ⟨hS, _, _, _, hb⟩ hb hfz hn hcap hmax hsz hrow hval
    (fun i f row c h1 h2 => (ih i f row c h1 h2).mono (fun b h => ⟨⟨h.1.1, h.2⟩, h.1.2⟩))
theorem CRep.stay {own : Bool} {w w' : World} {S S' : Nat → Prop} {c : CV} {u : Value} (h : CRep own w S c u)
 (hs : ∀ b, S b → b < w.heap.size → w'.heap[b]? = w.heap[b]? ∧ S' b) : CRep own w' S' c u :=
 (h.lt.world (w' := w') (fun b hb => (hs b hb.1 hb.2).1)).mono (fun b hb => (hs b hb.1 hb.2).2)
theorem MRep.stay {w w' : World} {So So' Sn Sn' : Nat → Prop} {gs : List (Int × List (Int × Int × Int))} {u : Value} (h : MRep w So Sn gs u)
 (h1 : ∀ b, So b → b < w.heap.size → w'.heap[b]? = w.heap[b]? ∧ So' b) (h2 : ∀ b, Sn b → b < w.heap.size → w'.heap[b]? = w.heap[b]? ∧ Sn' b) : MRep w' So' Sn' gs u := by
 obtain ⟨h3, h4⟩ := h
 refine ⟨h3.stay h1, fun b ofs n cap hu i g hg => ?_⟩
 obtain ⟨v, k1, k2⟩ := h4 b ofs n cap hu i g hg
 subst hu
 obtain ⟨b', off', cap', e1, e2, _⟩ := h3.cell (i := i) (row := [cI .i64 g.1, .hole]) (by rw [List.getElem?_map, hg]; rfl)
 simp at e1
 obtain ⟨⟨rfl, rfl⟩, _⟩ := e1
 have hlt : b < w.heap.size := World.block_lt_of_cell? w _ k1
 exact ⟨v, by rw [World.cell?_of_block (w := w) (h1 b e2 hlt).1]; exact k1, k2.stay h2⟩
theorem MRep.cl {w : World} {So Sn : Nat → Prop} {gs : List (Int × List (Int × Int × Int))} {u : Value} (h : MRep w So Sn gs u) : MRep w So (fun b => Sn b ∧ cellsAt w b) gs u :=
 ⟨h.1, fun b ofs n cap hu i g hg => let ⟨v, k1, k2⟩ := h.2 b ofs n cap hu i g hg; ⟨v, k1, k2.cl⟩⟩
theorem MRep.mono {w : World} {So So' Sn Sn' : Nat → Prop} {gs : List (Int × List (Int × Int × Int))} {u : Value} (h : MRep w So Sn gs u)
 (h1 : ∀ b, So b → So' b) (h2 : ∀ b, Sn b → Sn' b) : MRep w So' Sn' gs u := h.stay (fun b hb _ => ⟨rfl, h1 b hb⟩) (fun b hb _ => ⟨rfl, h2 b hb⟩)
theorem MapO.to {ρ ρ' : List Value} {w w' : World} {So So' : Nat → Prop} {m : List (Int × List (Int × Int × Int))} {k : Option Int} {p p' : Option Nat} {u : Value} (h : MapO ρ w So m k p u)
 (h1 : ∀ b, So b → b < w.heap.size → w'.heap[b]? = w.heap[b]? ∧ So' b) (h2 : ∀ q, p' = some q → ∃ q0, p = some q0 ∧ ∀ v, ρ[q0]? = some v → ρ'[q]? = some v) : MapO ρ' w' So' m k p' u := by
 obtain ⟨⟨r, es, clock, lab, e1, e2, e3, e4, e5, e6⟩, h4⟩ := h
 have hr := h1 r e2 (Array.getElem?_eq_some_iff.1 e3).1
 refine ⟨⟨r, es, clock, lab, e1, hr.2, hr.1.trans e3, e4, e5, fun i e x hi hx => ?_⟩, fun k0 q hk hq => ?_⟩
 ·obtain ⟨g1, g2, g3⟩ := e6 i e x hi hx
  exact ⟨g1, g2, fun ho => (g3 ho).stay fun b hb hlt => ⟨(h1 b hb.1 hlt).1, (h1 b hb.1 hlt).2, hb.2⟩⟩
 ·obtain ⟨q0, hq0, hv⟩ := h2 q hq
  obtain ⟨v, g1, g2, r', es', c', g3, g4, g5⟩ := h4 k0 q0 hk hq0
  subst e1
  simp at g3
  subst g3
  exact ⟨v, hv v g1, g2, r, es', c', rfl, hr.1.trans g4, g5⟩
theorem has.stay {γ γ' : Nat → Option Nat} {ρ ρ' : List Value} {w w' : World} {o : Nat} {ob : AObj} (h : has γ ρ w o ob)
 (hρ : ∀ (i : Nat) (x : Value), ρ[i]? = some x → ρ'[i]? = some x) (hlab : ∀ b p, γ b = some p → b < w.heap.size)
 (hs : ∀ b, b < w.heap.size → w'.heap[b]? = w.heap[b]? ∧ γ' b = γ b) : has γ' ρ' w' o ob := by
 have r1 : ∀ (x : AV) (u : Value), rel1 ρ x u → rel1 ρ' x u := by
  intro x u h
  cases x <;> simp only [rel1] at h ⊢
  ·exact h
  ·exact h
  ·exact ⟨hρ _ _ h.1, h.2⟩
  ·obtain ⟨b, h1, h2⟩ := h; exact ⟨b, hρ _ _ h1, h2⟩
  ·obtain ⟨b, ofs, n, cap, h1, h2⟩ := h; exact ⟨b, ofs, n, cap, hρ _ _ h1, h2⟩
  ·obtain ⟨b, h1, h2⟩ := h; exact ⟨b, hρ _ _ h1, h2⟩
 cases ob <;> simp only [has] at h ⊢
 ·obtain ⟨b, arr, e, h1, h2, h3, h4⟩ := h
  have hb := hlab b o h2
  exact ⟨b, arr, e, hρ _ _ h1, (hs b hb).2.trans h2, (hs b hb).1.trans h3, h4.1, fun j x u hx hu => r1 _ _ (h4.2 j x u hx hu)⟩
 ·obtain ⟨b, arr, e, fz, h1, h2, h3, h4⟩ := h
  have hb := (Array.getElem?_eq_some_iff.1 h3).1
  exact ⟨b, arr, e, fz, hρ _ _ h1, (hs b hb).2.trans h2, (hs b hb).1.trans h3, h4.1, fun j x u hx hu => r1 _ _ (h4.2 j x u hx hu)⟩
 ·obtain ⟨u, h1, h2⟩ := h
  exact ⟨u, hρ _ _ h1, h2.stay fun b hb hlt => ⟨(hs b hlt).1, (hs b hlt).2.trans hb⟩⟩
 ·obtain ⟨u, h1, h2⟩ := h
  exact ⟨u, hρ _ _ h1, h2.stay fun b hb hlt => ⟨(hs b hlt).1, (hs b hlt).2.trans hb⟩⟩
 ·obtain ⟨h1, arr, e, fz, h2, h3⟩ := h
  have hb := (Array.getElem?_eq_some_iff.1 h2).1
  exact ⟨(hs _ hb).2.trans h1, arr, e, fz, (hs _ hb).1.trans h2, h3⟩
 ·rename_i own c i f p
  obtain ⟨b, ofs, cap, h1, h2, h3, h6, h4⟩ := h
  have hb : b < w.heap.size := h3.block_lt (by simpa [Cont.holed, Cont.len_rows] using Nat.zero_lt_of_lt h2)
  refine ⟨b, ofs, cap, hρ _ _ h1, h2, h3.stay fun b hb hlt => ⟨(hs b hlt).1, (hs b hlt).2.trans hb⟩, (hs _ hb).2.trans h6, fun q hq => ?_⟩
  obtain ⟨v, h5, hv1, h7⟩ := h4 q hq
  exact ⟨v, hρ _ _ h5, hv1, by rw [World.cell?_of_block (w := w) (hs _ hb).1]; exact h7⟩
 ·obtain ⟨u, h1, h2⟩ := h
  exact ⟨u, hρ _ _ h1, h2.stay (fun b hb hlt => ⟨(hs b hlt).1, (hs b hlt).2.trans hb⟩) (fun b hb hlt => ⟨(hs b hlt).1, (hs b hlt).2.trans hb⟩)⟩
 ·obtain ⟨u, h1, h2⟩ := h
  exact ⟨u, hρ _ _ h1, h2.to (fun b hb hlt => ⟨(hs b hlt).1, (hs b hlt).2.trans hb⟩) (fun q hq => ⟨q, hq, fun v hv => hρ _ _ hv⟩)⟩
 ·obtain ⟨u, h1, h2⟩ := h
  exact ⟨u, hρ _ _ h1, h2.to (fun b hb hlt => ⟨(hs b hlt).1, (hs b hlt).2.trans hb⟩)⟩
 ·exact ExtP.stay _ h (fun b hlt _ => (hs b hlt).1) (size_of_keeps fun b hb => (hs b hb).1) (fun b hlt hb => (hs b hlt).2.trans hb) (fun b hlt hb => (hs b hlt).2.trans hb)
theorem HeapOk.push {γ γ' : Nat → Option Nat} {ρ : List Value} {H : List AObj} {w w' : World} (h : HeapOk γ ρ H w) (u : Value) (ob : AObj)
 (hs : ∀ b, b < w.heap.size → w'.heap[b]? = w.heap[b]? ∧ γ' b = γ b) (hsz : w.heap.size ≤ w'.heap.size)
 (hnew : ∀ b o, w.heap.size ≤ b → γ' b = some o → o = H.length ∧ b < w'.heap.size)
 (hob : has γ' (ρ ++ [u]) w' H.length ob) : HeapOk γ' (ρ ++ [u]) (H ++ [ob]) w' := by
 refine ⟨by simp [h.len], fun o ob' ho => ?_, fun b o hb => ?_⟩
 ·by_cases hlt : o < H.length
  ·rw [List.getElem?_append_left hlt] at ho
   exact has.stay (h.obj o ob' ho) (fun i x hx => getElem?_append_of hx _) (fun b p hp => (h.lab b p hp).2) hs
  ·have hlt' := (List.getElem?_eq_some_iff.1 ho).1
   have : o = H.length := by simp at hlt'; omega
   subst this
   simp at ho
   subst ho
   exact hob
 ·by_cases hlt : b < w.heap.size
  ·rw [(hs b hlt).2] at hb
   have := h.lab b o hb
   exact ⟨by simp; omega, by omega⟩
  ·have := hnew b o (by omega) hb
   exact ⟨by simp; omega, this.2⟩
theorem HeapOk.grow {γ : Nat → Option Nat} {ρ : List Value} {H : List AObj} {w w' : World} (h : HeapOk γ ρ H w)
 (hs : ∀ b, b < w.heap.size → w'.heap[b]? = w.heap[b]?) (hsz : w.heap.size ≤ w'.heap.size) : HeapOk γ ρ H w' :=
 ⟨h.len, fun o ob ho => has.stay (h.obj o ob ho) (fun _ _ hx => hx) (fun b p hp => (h.lab b p hp).2) (fun b hb => ⟨hs b hb, rfl⟩),
  fun b o hb => let ⟨h1, h2⟩ := h.lab b o hb; ⟨h1, by omega⟩⟩
def AV.kill1 (o : Nat) : AV → AV
 | .sl p => if p = o then .top else .sl p
 | .pp p off => if p = o then .top else .pp p off
 | .ep p i e f => if p = o then .top else .ep p i e f
 | .ip p T => if p = o then .top else .ip p T
 | x => x
def AV.kill2 (o : Nat) : AV → AV
 | .agg l => .agg (l.map (AV.kill1 o))
 | x => x.kill1 o
def AV.kill (o : Nat) : AV → AV
 | .tup l => .tup (l.map (AV.kill2 o))
 | x => x.kill2 o
def AObj.unview (o : Nat) : AObj → AObj
 | .view src c => if src = o then .dead else .view src c
 | x => x
def AObj.kill (o : Nat) : AObj → AObj
 | .box cells => .box (cells.map (AV.kill1 o))
 | .rbox cells => .rbox (cells.map (AV.kill1 o))
 | .tak own c i f p => .tak own c i f (if p = some o then none else p)
 | .mp m k p => .mp m k (if p = some o then none else p)
 | x => x
theorem rel1.kill {ρ : List Value} {o : Nat} {v : Value} {x : AV} {u : Value} (h : rel1 ρ x u) : rel1 (ρ.set o v) (x.kill1 o) u := by
 have hone := h.one
 have key : ∀ (p : Nat) (y : Value), p ≠ o → ρ[p]? = some y → (ρ.set o v)[p]? = some y := by
  intro p y hp hy; rw [List.getElem?_set_ne (Ne.symm hp)]; exact hy
 cases x <;> simp only [AV.kill1]
 ·exact h
 ·exact h
 ·split
  ·exact hone
  ·exact ⟨key _ _ ‹_› h.1, h.2⟩
 ·split
  ·exact hone
  ·obtain ⟨b, h1, h2⟩ := h; exact ⟨b, key _ _ ‹_› h1, h2⟩
 ·split
  ·exact hone
  ·obtain ⟨b, ofs, n, cap, h1, h2⟩ := h; exact ⟨b, ofs, n, cap, key _ _ ‹_› h1, h2⟩
 ·split
  ·exact hone
  ·obtain ⟨b, h1, h2⟩ := h; exact ⟨b, key _ _ ‹_› h1, h2⟩
 ·exact h
 ·exact h
theorem Rel1s.kill {ρ : List Value} {o : Nat} {v : Value} {l : List AV} {cs : List Value} (h : Rel1s ρ l cs) : Rel1s (ρ.set o v) (l.map (AV.kill1 o)) cs := by
 refine ⟨by simp [h.1], fun j x u hx hu => ?_⟩
 rw [List.getElem?_map] at hx
 cases hl : l[j]? with
 | none => rw [hl] at hx; cases hx
 | some y => rw [hl] at hx; simp at hx; subst hx; exact (h.2 j y u hl hu).kill
theorem rel2.kill {ρ : List Value} {o : Nat} {v : Value} {x : AV} {u : Value} (h : rel2 ρ x u) : rel2 (ρ.set o v) (x.kill2 o) u := by
 have aux : ∀ y : AV, rel1 (ρ.set o v) y u → rel2 (ρ.set o v) y u := by
  intro y hy; cases y <;> simp only [rel1, rel2] at hy ⊢
  ·exact hy.1
  ·exact hy
  ·exact hy
  ·exact hy
  ·exact hy
 cases x <;> simp only [AV.kill2]
 ·trivial
 ·exact h
 ·exact aux _ (rel1.kill (x := .sl _) h)
 ·exact aux _ (rel1.kill (x := .pp _ _) h)
 ·exact aux _ (rel1.kill (x := .ep _ _ _ _) h)
 ·exact aux _ (rel1.kill (x := .ip _ _) h)
 ·obtain ⟨cs, h1, h2⟩ := h; exact ⟨cs, h1, h2.kill⟩
 ·exact h
theorem rel.kill {ρ : List Value} {o : Nat} {v : Value} {x : AV} {u : Value} (h : rel ρ x u) : rel (ρ.set o v) (x.kill o) u := by
 have aux : ∀ y : AV, rel2 (ρ.set o v) y u → rel (ρ.set o v) y u := by
  intro y hy; cases y <;> first | exact hy | (simp only [rel2] at hy)
 cases x <;> simp only [AV.kill]
 ·exact aux _ (rel2.kill (x := .top) h)
 ·exact aux _ (rel2.kill (x := .v _) h)
 ·exact aux _ (rel2.kill (x := .sl _) h)
 ·exact aux _ (rel2.kill (x := .pp _ _) h)
 ·exact aux _ (rel2.kill (x := .ep _ _ _ _) h)
 ·exact aux _ (rel2.kill (x := .ip _ _) h)
 ·exact aux _ (rel2.kill (x := .agg _) h)
 ·obtain ⟨cs, h1, h2⟩ := h
  refine ⟨cs, h1, by simp [h2.1], fun j x u hx hu => ?_⟩
  rename_i l
  rw [List.getElem?_map] at hx
  cases hl : l[j]? with
  | none => rw [hl] at hx; cases hx
  | some y => rw [hl] at hx; simp at hx; subst hx; exact (h2.2 j y u hl hu).kill
def Env.kill (o : Nat) (E : Env) : Env := E.map fun p => (p.1, p.2.kill o)
theorem lookup_kill (o : Nat) (E : Env) (t : Nat) : (E.kill o).lookup t = (E.lookup t).map (AV.kill o) := by
 induction E with
 | nil => rfl
 | cons p E ih =>
   obtain ⟨k, y⟩ := p
   simp only [Env.kill, List.map_cons, List.lookup_cons] at ih ⊢
   cases h : (t == k) <;> simp [ih]
theorem EnvOk.kill {ρ : List Value} {E : Env} {tm : Array Value} (h : EnvOk ρ E tm) (o : Nat) (v : Value) : EnvOk (ρ.set o v) (E.kill o) tm := by
 intro t x hx
 rw [lookup_kill] at hx
 cases hl : E.lookup t with
 | none => rw [hl] at hx; cases hx
 | some y => rw [hl] at hx; simp at hx; subst hx; exact (h t y hl).kill
theorem HeapOk.upd {γ γ' : Nat → Option Nat} {ρ : List Value} {H : List AObj} {w w' : World} (h : HeapOk γ ρ H w) (o : Nat) (ho : o < H.length) (u : Value) (ob : AObj)
 (hs : ∀ b, b < w.heap.size → γ b ≠ some o → w'.heap[b]? = w.heap[b]? ∧ γ' b = γ b) (hsz : w.heap.size ≤ w'.heap.size)
 (hnew : ∀ b p, γ' b = some p → (b < w.heap.size ∧ γ b = some p) ∨ (p = o ∧ b < w'.heap.size))
 (hob : has γ' (ρ.set o u) w' o ob) : HeapOk γ' (ρ.set o u) (((H.map (AObj.unview o)).map (AObj.kill o)).set o ob) w' := by
 refine ⟨by simp [h.len], fun p ob' hp => ?_, fun b p hb => ?_⟩
 ·by_cases hpo : p = o
  ·subst hpo
   rw [List.getElem?_set_self (by simpa using ho)] at hp
   simp at hp
   subst hp
   exact hob
  ·rw [List.getElem?_set_ne (Ne.symm hpo), List.getElem?_map, List.getElem?_map] at hp
   cases hH : H[p]? with
   | none => rw [hH] at hp; cases hp
   | some ob0 =>
     rw [hH] at hp
     simp at hp
     have h0 := h.obj p ob0 hH
     have hset : ∀ (q : Nat) (x : Value), q ≠ o → ρ[q]? = some x → (ρ.set o u)[q]? = some x := by
      intro q x hq hx; rw [List.getElem?_set_ne (Ne.symm hq)]; exact hx
     have stay : ∀ {own : Bool} {S S' : Nat → Prop} {c : CV} {x : Value}, CRep own w S c x → (∀ b, S b → γ b ≠ some o) → (∀ b, S b → γ' b = γ b → S' b) → CRep own w' S' c x :=
      fun hc h1 h2 => hc.stay fun b hb hlt => ⟨(hs b hlt (h1 b hb)).1, h2 b hb (hs b hlt (h1 b hb)).2⟩
     subst hp
     cases ob0 <;> simp only [AObj.unview, AObj.kill]
     ·exact trivial
     ·obtain ⟨b, arr, e, h1, h2, h3, h4⟩ := h0
      have hb := (h.lab b p h2).2
      have hne : γ b ≠ some o := by rw [h2]; simpa using hpo
      exact ⟨b, arr, e, hset _ _ hpo h1, (hs b hb hne).2.trans h2, (hs b hb hne).1.trans h3, h4.kill⟩
     ·obtain ⟨b, arr, e, fz, h1, h2, h3, h4⟩ := h0
      have hb := (Array.getElem?_eq_some_iff.1 h3).1
      have hne : γ b ≠ some o := by rw [h2]; simp
      exact ⟨b, arr, e, fz, hset _ _ hpo h1, (hs b hb hne).2.trans h2, (hs b hb hne).1.trans h3, h4.kill⟩
     ·obtain ⟨x, h1, h2⟩ := h0
      rename_i own c
      refine ⟨x, hset _ _ hpo h1, stay h2 (fun b hb => ?_) (fun b hb hg => hg.trans hb)⟩
      rw [hb]; cases own <;> simp; exact hpo
     ·rename_i src c
      by_cases hsrc : src = o
      ·simp only [if_pos hsrc]; exact trivial
      ·simp only [if_neg hsrc]
       obtain ⟨x, h1, h2⟩ := h0
       exact ⟨x, hset _ _ hpo h1, stay h2 (fun b hb => by rw [hb]; simpa using hsrc) (fun b hb hg => hg.trans hb)⟩
     ·rename_i g c
      obtain ⟨h1, arr, e, fz, h2, h3⟩ := h0
      have hb := (Array.getElem?_eq_some_iff.1 h2).1
      have hne : γ g ≠ some o := by rw [h1]; simp
      exact ⟨(hs _ hb hne).2.trans h1, arr, e, fz, (hs _ hb hne).1.trans h2, h3⟩
     ·rename_i own c i f q0
      obtain ⟨b, ofs, cap, h1, h2, h3, h6, h4⟩ := h0
      have hb : b < w.heap.size := h3.block_lt (by simpa [Cont.holed, Cont.len_rows] using Nat.zero_lt_of_lt h2)
      have hnx : (if own = true then some p else none) ≠ some o := by cases own <;> simp [hpo]
      have hne : γ b ≠ some o := by rw [h6]; exact hnx
      refine ⟨b, ofs, cap, hset _ _ hpo h1, h2, stay h3 (fun b hb => by rw [hb]; exact hnx) (fun b hb hg => hg.trans hb), (hs _ hb hne).2.trans h6, fun q hq => ?_⟩
      by_cases hqo : q0 = some o
      ·rw [if_pos hqo] at hq; cases hq
      ·rw [if_neg hqo] at hq
       obtain ⟨v, h5, hv1, h7⟩ := h4 q hq
       have hq' : q ≠ o := by intro e; subst e; exact hqo hq
       exact ⟨v, hset _ _ hq' h5, hv1, by rw [World.cell?_of_block (w := w) (hs _ hb hne).1]; exact h7⟩
     ·obtain ⟨x, h1, h2⟩ := h0
      have hst : ∀ b (y : Option Nat), γ b = y → y ≠ some o → b < w.heap.size → w'.heap[b]? = w.heap[b]? ∧ γ' b = y := fun b y hb hy hlt => by
       have hne : γ b ≠ some o := by rw [hb]; exact hy
       exact ⟨(hs b hlt hne).1, (hs b hlt hne).2.trans hb⟩
      exact ⟨x, hset _ _ hpo h1, h2.stay (fun b hb hlt => hst b _ hb (by simpa using hpo) hlt) (fun b hb hlt => hst b _ hb (by simp) hlt)⟩
     ·rename_i m k q0
      obtain ⟨x, h1, h2⟩ := h0
      have hst : ∀ b (y : Option Nat), γ b = y → y ≠ some o → b < w.heap.size → w'.heap[b]? = w.heap[b]? ∧ γ' b = y := fun b y hb hy hlt => by
       have hne : γ b ≠ some o := by rw [hb]; exact hy
       exact ⟨(hs b hlt hne).1, (hs b hlt hne).2.trans hb⟩
      refine ⟨x, hset _ _ hpo h1, h2.to (fun b hb hlt => hst b _ hb (by simpa using hpo) hlt) (fun q hq => ?_)⟩
      by_cases hqo : q0 = some o
      ·rw [if_pos hqo] at hq; cases hq
      ·rw [if_neg hqo] at hq
       exact ⟨q, hq, fun v hv => hset q v (fun e => by subst e; exact hqo hq) hv⟩
     ·rename_i m
      obtain ⟨x, h1, h2⟩ := h0
      have hst : ∀ b (y : Option Nat), γ b = y → y ≠ some o → b < w.heap.size → w'.heap[b]? = w.heap[b]? ∧ γ' b = y := fun b y hb hy hlt => by
       have hne : γ b ≠ some o := by rw [hb]; exact hy
       exact ⟨(hs b hlt hne).1, (hs b hlt hne).2.trans hb⟩
      exact ⟨x, hset _ _ hpo h1, h2.to (fun b hb hlt => hst b _ hb (by simpa using hpo) hlt)⟩
     ·rename_i f
      have hne : ∀ b, γ b = some p ∨ γ b = none → γ b ≠ some o := fun b hb => by
       rcases hb with hb | hb
       ·rw [hb]; simpa using hpo
       ·rw [hb]; simp
      exact f.stay h0 (fun b hlt hb => (hs b hlt (hne b hb)).1) hsz (fun b hlt hb => ((hs b hlt (hne b (.inr hb))).2).trans hb) (fun b hlt hb => ((hs b hlt (hne b (.inl hb))).2).trans hb)
 ·rcases hnew b p hb with ⟨h1, h2⟩ | ⟨h1, h2⟩
  ·have := h.lab b p h2; exact ⟨by simpa using this.1, by omega⟩
  ·subst h1; exact ⟨by simpa using ho, h2⟩
end Go.Av
