import Derived.Laws.BytesArg
import Derived.Test.YteoedigfnfjopaaGreatAvC
set_option linter.unusedSimpArgs false
set_option linter.unusedVariables false
namespace Go.Av
open Go
def tsz (P : Program) (t : TypeId) : Option Nat := (P.info? t).map (·.size)
def tby (P : Program) (t : TypeId) : Option Nat := (P.info? t).map (·.bytes)
def tzero (P : Program) (t : TypeId) : Option Value := (P.info? t).bind (·.zero)
def isAggD : TypeDesc → Bool | .struct _ => true | .array _ _ => true | _ => false
theorem run_tsz {P : Program} {w : World} {t : TypeId} {n : Nat} (h : tsz P t = some n) : (sizeOf t).run P w = .ok n w := by
 unfold tsz at h
 cases hi : P.info? t with
 | none => rw [hi] at h; cases h
 | some i => rw [hi] at h; simp at h; simp [sizeOf, run_typeInfo w hi, h]
theorem run_tzero {P : Program} {w : World} {t : TypeId} {v : Value} (h : tzero P t = some v) : (zeroValue t).run P w = .ok v w := by
 unfold tzero at h
 cases hi : P.info? t with
 | none => rw [hi] at h; cases h
 | some i => rw [hi] at h; simp at h; simp [zeroValue, run_typeInfo w hi, h]
theorem run_tby {P : Program} {t : TypeId} {n : Nat} (h : tby P t = some n) : ∃ i, P.info? t = some i ∧ i.bytes = n := by
 unfold tby at h
 cases hi : P.info? t with
 | none => rw [hi] at h; cases h
 | some i => rw [hi] at h; simp at h; exact ⟨i, rfl, h⟩
theorem run_isAgg {P : Program} {w : World} {t : TypeId} {d : TypeDesc} (h : P.underlying t = some d) : (isAgg t).run P w = .ok (isAggD d) w := by
 cases d <;> simp [isAgg, run_under h, isAggD]
def rd (H : List AObj) (o : Nat) : Option Cont :=
 match H[o]? with
 | some (.row _ c) => some c
 | some (.view _ c) => some c
 | _ => none
def Rd (γ : Nat → Option Nat) (ρ : List Value) (H : List AObj) (w : World) : Prop := ∀ o ob, H[o]? = some ob → has γ ρ w o ob
theorem rd_rep {γ : Nat → Option Nat} {ρ : List Value} {H : List AObj} {w : World} (h : Rd γ ρ H w) {o : Nat} {c : Cont} (hr : rd H o = some c) :
 ∃ u S, ρ[o]? = some u ∧ CRep false w S (.sl c.esz c.rows) u := by
 unfold rd at hr
 split at hr
 ·rename_i h1; simp at hr; subst hr
  obtain ⟨u, h2, h3⟩ := h _ _ h1; exact ⟨u, _, h2, h3.ro⟩
 ·rename_i h1; simp at hr; subst hr
  obtain ⟨u, h2, h3⟩ := h _ _ h1; exact ⟨u, _, h2, h3.ro⟩
 ·cases hr
theorem rd_slice {γ : Nat → Option Nat} {ρ : List Value} {H : List AObj} {w : World} (h : Rd γ ρ H w) {o : Nat} {c : Cont} (hr : rd H o = some c) :
 ∃ a cap, ρ[o]? = some (.slice a c.len cap) ∧ c.len ≤ maxLen := by
 obtain ⟨u, S, h1, h2⟩ := rd_rep h hr
 obtain ⟨a, cap, h3, h4⟩ := h2.slice
 rw [Cont.len_rows] at h3 h4
 exact ⟨a, cap, by rw [h1, h3], h4⟩
theorem rd_cell {γ : Nat → Option Nat} {ρ : List Value} {H : List AObj} {w : World} (h : Rd γ ρ H w) {o : Nat} {c : Cont} (hr : rd H o = some c) {i : Nat} (hi : i < c.len) :
 ∃ b off cap, ρ[o]? = some (.slice (some ⟨b, off, none⟩) c.len cap) ∧
  ∀ f x, c.cell i f = some x → w.cell? ⟨b, off + i * c.esz + f, none⟩ = some x ∧ x.oneCell' = true := by
 obtain ⟨u, S, h1, h2⟩ := rd_rep h hr
 have hlt : i < c.rows.length := by rw [Cont.len_rows]; exact hi
 obtain ⟨b, off, cap, hu, _, _, hcell⟩ := h2.cell (List.getElem?_eq_getElem hlt)
 rw [Cont.len_rows] at hu
 refine ⟨b, off, cap, by rw [h1, hu], fun f x hx => ?_⟩
 obtain ⟨row, hrow, hf⟩ := Cont.cell_rows hx hi
 rw [List.getElem?_eq_getElem hlt] at hrow
 simp at hrow
 subst hrow
 obtain ⟨val, h3, h4, h5⟩ := hcell f _ hf
 cases h5
 exact ⟨h3, h4⟩
theorem Cont.cells_spec {c : Cont} {i : Nat} : ∀ {n f : Nat} {l : List AV}, c.cells i f n = some l → l.length = n ∧ ∀ j, j < n → ∃ x, l[j]? = some (.v x) ∧ c.cell i (f + j) = some x
 | 0, f, l, h => by simp [Cont.cells] at h; subst h; exact ⟨rfl, fun j hj => by omega⟩
 | n + 1, f, l, h => by
   unfold Cont.cells at h
   cases h1 : c.cell i f with
   | none => rw [h1] at h; cases h
   | some x =>
     cases h2 : c.cells i (f + 1) n with
     | none => rw [h1, h2] at h; cases h
     | some l' =>
       rw [h1, h2] at h
       simp at h
       subst h
       obtain ⟨h3, h4⟩ := Cont.cells_spec h2
       refine ⟨by simp [h3], fun j hj => ?_⟩
       cases j with
       | zero => exact ⟨x, rfl, h1⟩
       | succ j => obtain ⟨y, h5, h6⟩ := h4 j (by omega); exact ⟨y, by simpa using h5, by rw [← h6]; congr 1; omega⟩
def partAV (P : Program) (T : TypeId) (cells : List AV) (off : Nat) : Option AV :=
 match P.underlying T with
 | some d => if isAggD d then (match tsz P T with | some n => if off + n ≤ cells.length then some (.agg ((cells.drop off).take n)) else none | none => none) else cells[off]?
 | none => none
def rdI (H : List AObj) (o : Nat) : Option Cont :=
 match H[o]? with
 | some (.tak _ c _ _ _) => some c
 | _ => rd H o
theorem Cont.holed_len (c : Cont) (i f : Nat) : (c.holed i f).length = c.len := by simp [Cont.holed, Cont.len_rows]
theorem rdI_slice {γ : Nat → Option Nat} {ρ : List Value} {H : List AObj} {w : World} (h : Rd γ ρ H w) {o : Nat} {c : Cont} (hr : rdI H o = some c) :
 ∃ a cap, ρ[o]? = some (.slice a c.len cap) ∧ c.len ≤ maxLen := by
 unfold rdI at hr
 split at hr
 ·rename_i h1
  simp at hr; subst hr
  obtain ⟨b, ofs, cap, h2, _, h3, _⟩ := h _ _ h1
  obtain ⟨a', cap', h4, h5⟩ := h3.slice
  rw [Cont.holed_len] at h5
  exact ⟨_, _, h2, h5⟩
 ·exact rd_slice h hr
theorem rdI_at {γ : Nat → Option Nat} {ρ : List Value} {H : List AObj} {w : World} (h : Rd γ ρ H w) {o : Nat} {c : Cont} (hr : rdI H o = some c) {i : Nat} (hi : i < c.len) :
 ∃ b off cap, ρ[o]? = some (.slice (some ⟨b, off, none⟩) c.len cap) := by
 unfold rdI at hr
 split at hr
 ·rename_i h1
  simp at hr; subst hr
  obtain ⟨b, ofs, cap, h2, _⟩ := h _ _ h1
  exact ⟨_, _, _, h2⟩
 ·obtain ⟨b, off, cap, h2, _⟩ := rd_cell h hr hi
  exact ⟨_, _, _, h2⟩
def AObj.globC (g : Nat) : AObj → Option Cont
 | .glob g' c => if g' = g then some c else none
 | _ => none
def globC (g : Nat) : List AObj → Option Cont
 | [] => none
 | ob :: H => match ob.globC g with | some c => some c | none => globC g H
theorem globC_mem {g : Nat} {c : Cont} : ∀ {H : List AObj}, globC g H = some c → ∃ o : Nat, H[o]? = some (AObj.glob g c)
 | [], h => by simp [globC] at h
 | ob :: H, h => by
   unfold globC at h
   split at h
   ·rename_i c' hc
    cases ob <;> simp only [AObj.globC, reduceCtorEq] at hc
    split at hc
    ·rename_i he; subst he; simp at hc h; subst hc h; exact ⟨0, rfl⟩
    ·cases hc
   ·obtain ⟨o, ho⟩ := globC_mem h; exact ⟨o + 1, by simpa using ho⟩
def arrV (xs : List Int) : Value := .agg (xs.map (Value.int .i64)).toArray
def arrL : List Value → Option (List Int)
 | [] => some []
 | .int .i64 n :: l => (arrL l).map fun r => n :: r
 | _ => none
def arrD : Value → Option (List Int)
 | .agg cs => arrL cs.toList
 | _ => none
theorem arrL_map : ∀ xs : List Int, arrL (xs.map (Value.int .i64)) = some xs
 | [] => rfl
 | n :: xs => by simp [arrL, arrL_map xs]
theorem arrL_eq : ∀ {l : List Value} {xs : List Int}, arrL l = some xs → l = xs.map (Value.int .i64)
 | [], xs, h => by simp [arrL] at h; subst h; rfl
 | v :: l, xs, h => by
   unfold arrL at h
   split at h
   ·rename_i heq; simp at heq
   ·rename_i n l' heq
    simp at heq
    obtain ⟨rfl, rfl⟩ := heq
    cases h1 : arrL l with
    | none => rw [h1] at h; cases h
    | some r => rw [h1] at h; simp at h; subst h; simp [← arrL_eq h1]
   ·cases h
theorem arrD_eq {x : Value} {xs : List Int} (h : arrD x = some xs) : x = arrV xs := by
 unfold arrD at h
 split at h
 ·rename_i cs
  have := arrL_eq h
  simp [arrV, ← this]
 ·cases h
def zeros (n : Nat) : List Int := List.replicate n 0
def aggQ (c : Cont) (i f n : Nat) : Option (Prop × AV) :=
 match c.cells i f n with
 | some l => some (i < c.len, .agg l)
 | none => match c, i, f with
   | .ints .i64 xs, 0, 0 => if 0 < n then some (xs.length = n, .v (arrV xs)) else none
   | _, _, _ => none
def loadQ (P : Program) (H : List AObj) (T : TypeId) (p : AV) : Option (Prop × AV) :=
 match p with
 | .pp o off => match H[o]? with
   | some (.box cells) => (partAV P T cells off).map fun x => (True, x)
   | some (.rbox cells) => (partAV P T cells off).map fun x => (True, x)
   | _ => none
 | .ep o i esz f => match rd H o with
   | some c => if c.esz = esz then (match P.underlying T with
    | some d => if isAggD d then (match tsz P T with | some n => aggQ c i f n | none => none) else (c.cell i f).map fun x => (i < c.len, .v x)
    | none => none) else none
   | none => match H[o]? with
     | some (.tak _ c j g (some q)) => if j = i ∧ g = f ∧ c.esz = esz then (match P.underlying T with
      | some d => if isAggD d then none else some (True, .sl q)
      | none => none) else if g = 1 ∧ f = 0 ∧ c.esz = esz then (match P.underlying T with
      | some d => if isAggD d then (if j = i ∧ tsz P T = some 2 then (c.cell i 0).map fun x => (True, .agg [.v x, .sl q]) else none) else (c.cell i 0).map fun x => (i < c.len, .v x)
      | none => none) else none
     | _ => none
 | .v (.pointer (some ⟨g, k, none⟩)) => match globC g H with
   | some c => if c.esz = 1 then (match P.underlying T with
    | some d => if isAggD d then none else (c.cell k 0).map fun x => (k < c.len, .v x)
    | none => none) else none
   | none => none
 | _ => none
def fieldOff (P : Program) (T : TypeId) (f : Nat) : Option Nat :=
 match P.underlying T with
 | some (.struct fs) => match fs[f]? with
   | some fd => match tsz P fd.type with
     | some n => if 0 < n then some fd.offset else none
     | none => none
   | none => none
 | _ => none
def fieldType (P : Program) (T : TypeId) (f : Nat) : Option TypeId :=
 match P.underlying T with
 | some (.struct fs) => (fs[f]?).map (·.type)
 | _ => none
def addrAdd (p : AV) (n : Nat) : Option AV :=
 match p with
 | .pp o off => some (.pp o (off + n))
 | .ep o i esz f => some (.ep o i esz (f + n))
 | _ => none
def indexQ (P : Program) (H : List AObj) (T : TypeId) (x i : AV) : Option (Prop × AV) :=
 match i with
 | .v (.int _ n) => match P.underlying T with
   | some (.slice e) => match x with
     | .sl o => match rdI H o with
       | some c => if tsz P e = some c.esz then some (0 ≤ n ∧ n < c.len, .ep o n.toNat c.esz 0) else none
       | none => none
     | _ => none
   | some (.array len e) => match x with
     | .ep o j esz f => if tsz P e = some esz then some (0 ≤ n ∧ n < len, .ep o (j + n.toNat) esz f) else none
     | .v (.pointer (some ⟨g, k, none⟩)) => if tsz P e = some 1 then some (0 ≤ n ∧ n < len, .v (.pointer (some ⟨g, k + n.toNat, none⟩))) else none
     | _ => none
   | _ => none
 | _ => none
def builtinQ (P : Program) (H : List AObj) (b : Builtin) (args : List AV) (T : Option TypeId) : Option (Prop × AV) :=
 match b with
 | .len => match args with
   | [x] => match (T.bind P.underlying), x with
     | some (.slice _), .sl o => (rdI H o).map fun c => (True, .v (.int .i64 c.len))
     | some (.slice _), .v (.slice none 0 0) => some (True, .v (.int .i64 0))
     | some .string, .v (.string s) => some (True, .v (.int .i64 s.size))
     | _, _ => none
   | _ => none
 | .max => match args with
   | [.v (.int k a), .v (.int _ b)] => some (True, .v (.int k (max a b)))
   | _ => none
 | .min => match args with
   | [.v (.int k a), .v (.int _ b)] => some (True, .v (.int k (min a b)))
   | _ => none
 | _ => none
def callQ (P : Program) (E : Env) (H : List AObj) (c : Call) : Option (Prop × AV) :=
 match c.callee with
 | .builtin b => builtinQ P H b (c.args.toList.map (ev E)) (c.argTypes[0]?)
 | _ => none
def asCells : AV → Option (List AV)
 | .agg l => some l
 | .v x => if x.oneCell' then some [.v x] else none
 | .sl o => some [.sl o]
 | .pp o f => some [.pp o f]
 | .ep o i e f => some [.ep o i e f]
 | .ip o T => some [.ip o T]
 | _ => none
def placesOf (P : Program) : List Field → Option (List (Nat × Nat))
 | [] => some []
 | f :: r => match tsz P f.type, placesOf P r with
   | some n, some l => some ((f.offset, n) :: l)
   | _, _ => none
def buildCells (pl : List (Nat × Nat)) (cells : List AV) : List (Nat × AV) → Option (List AV)
 | [] => some cells
 | (i, x) :: r => match pl[i]?, asCells x with
   | some (off, n), some l => if l.length = n ∧ off + n ≤ cells.length then buildCells pl (cells.take off ++ l ++ cells.drop (off + n)) r else none
   | _, _ => none
def buildQ (P : Program) (T : TypeId) (parts : List (Nat × AV)) : Option AV :=
 match tzero P T, P.underlying T with
 | some z, some (.struct fs) => match asCells (ofConst z), placesOf P fs.toList with
   | some l, some pl => (buildCells pl l parts).map .agg
   | _, _ => none
 | _, _ => none
def plainEq (P : Program) (T : TypeId) : Bool :=
 !P.eqGuardType P.depth T && !P.stoodInHeld T && (match P.underlying T with | some (.struct fs) => fs.toList.all (fun f => f.name != "_") | _ => false)
def eqAgg (P : Program) : List Field → List AV → List AV → Option Bool
 | [], _, _ => some true
 | f :: fs, l, m => match P.underlying f.type, partAV P f.type l f.offset, partAV P f.type m f.offset with
   | some (.int _), some (.v (.int k a)), some (.v (.int k' b)) => if k = k' then (eqAgg P fs l m).map fun r => (a == b) && r else none
   | _, _, _ => none
def eqAggV (P : Program) (op : BinOp) (T : TypeId) (l m : List AV) : Option Bool :=
 if plainEq P T = true then match P.underlying T with
  | some (.struct fs) => match op with
    | .eql => eqAgg P fs.toList l m
    | .neq => (eqAgg P fs.toList l m).map fun r => !r
    | _ => none
  | _ => none
 else none
def plainVs : List AV → Option (List Value)
 | [] => some []
 | .v x :: l => (plainVs l).map fun r => x :: r
 | _ => none
def isIfaceD : TypeDesc → Bool | .interface _ => true | _ => false
def ifaceQ (P : Program) (T : TypeId) (x : AV) : Option AV :=
 match P.underlying T with
 | some d => if isIfaceD d then none else (match x with
   | .pp o 0 => some (.ip o (.ifc T))
   | .agg l => (plainVs l).map fun vs => .v (.iface T (.agg vs.toArray))
   | _ => none)
 | none => none
def assertQ (P : Program) (aT : TypeId) (ok : Bool) (x : AV) : Option AV :=
 match P.underlying aT, x with
 | some d, .v (.iface t (.agg cs)) => if isIfaceD d then none else if t = aT ∧ ok = true then (if cs.toList.all Value.oneCell' then some (.tup [.agg (cs.toList.map AV.v), .v (.bool true)]) else none) else none
 | _, _ => none
def lookupQ (P : Program) (H : List AObj) (T : TypeId) (x i : AV) (ok : Bool) : Option (Prop × AV) :=
 match P.underlying T, x, i with
 | some (.map kt et), .sl o, .v (.int .i64 k') => match P.underlying kt, tzero P et, H[o]? with
   | some (.int .i64), some (.slice none 0 0), some (.mp m (some k) (some p)) => if ok = true then none else some (k' = k, .sl p)
   | _, _, _ => none
 | _, _, _ => none
def getI (m : List (Int × Int)) (k : Int) : Int := ((m.find? fun x => x.1 == k).map (·.2)).getD 0
def setI (m : List (Int × Int)) (k y : Int) : List (Int × Int) := if m.any (fun x => x.1 == k) then m.map fun x => if x.1 = k then (k, y) else x else m ++ [(k, y)]
def lookupI (P : Program) (H : List AObj) (T : TypeId) (x i : AV) (ok : Bool) : Option (Prop × AV) :=
 match P.underlying T, x, i with
 | some (.map kt et), .sl o, .v (.int .i64 k) => match P.underlying kt, tzero P et, H[o]? with
   | some (.int .i64), some (.int .i64 0), some (.mi m) => if ok = true then none else some (True, .v (.int .i64 (getI m k)))
   | _, _, _ => none
 | _, _, _ => none
def quoC (op : BinOp) (y : Operand) (x : AV) : Option (Prop × AV) :=
 match op with
 | .quo => match y with
   | .const (.int k b) => if isTwo b = true then (match x with | .v (.int k' a) => if k = k' then some (fits k (a.tdiv b), .v (.int k (a.tdiv b))) else none | _ => none) else none
   | _ => none
 | _ => none
def strQ (P : Program) (H : List AObj) (s d : TypeId) (o : Nat) : Option (Prop × AV) :=
 match P.underlying s, P.underlying d, rd H o with
 | some (.slice e), some .string, some (.ints .u8 xs) => match P.underlying e with
   | some (.int .u8) => some (True, .v (.string (strOfNums xs)))
   | _ => none
 | _, _, _ => none
def quiet (P : Program) (E : Env) (H : List AObj) (op : Op) : Option (Prop × AV) :=
 match op with
 | .move x => some (True, ev E x)
 | .assign x => some (True, ev E x)
 | .pick c a b => match ev E c with
   | .v (.bool c) => some (True, if c then ev E a else ev E b)
   | _ => none
 | .binOp op T x y _ => match quoC op y (ev E x) with | some r => some r | none => match ev E x, ev E y with
   | .v a, .v b => (binV P op T a b).map fun r => (r.1, .v r.2)
   | .agg l, .agg m => (eqAggV P op T l m).map fun r => (True, .v (.bool r))
   | _, _ => none
 | .unOp op _ x => match ev E x with
   | .v a => (unV op a).map fun r => (r.1, .v r.2)
   | _ => none
 | .convert s d x => match ev E x with
   | .v a => (convV P s d a).map fun r => (r.1, .v r.2)
   | .sl o => strQ P H s d o
   | _ => none
 | .load T x => loadQ P H T (ev E x)
 | .nilCheck x => match ev E x with
   | .pp o off => some (True, .pp o off)
   | .ep o i e f => some (True, .ep o i e f)
   | .v (.iface t u) => some (True, .v (.iface t u))
   | _ => none
 | .fieldAddr T x f => match fieldOff P T f with
   | some n => (addrAdd (ev E x) n).map fun p => (True, p)
   | none => none
 | .field T x f => match P.underlying T, ev E x with
   | some (.struct fs), .agg l => match fs[f]? with
     | some fd => (partAV P fd.type l fd.offset).map fun x => (True, x)
     | none => none
   | _, _ => none
 | .indexAddr T x i => indexQ P H T (ev E x) (ev E i)
 | .index T x i => match P.underlying T, ev E x, ev E i with
   | some .string, .v (.string s), .v (.int _ n) => some (0 ≤ n ∧ n < s.size, .v (.int .u8 (s.data.toList.getD n.toNat 0).toNat))
   | some (.array len e), .v y, .v (.int _ n) => match arrD y, tsz P e, P.underlying e with
     | some xs, some 1, some (.int _) => some (0 ≤ n ∧ n < len ∧ n < xs.length, .v (.int .i64 (xs.getD n.toNat 0)))
     | _, _, _ => none
   | _, _, _ => none
 | .extract t i => match ev E t with
   | .tup l => (l[i]?).map fun x => (True, x)
   | _ => none
 | .lookup T x i ok => match lookupQ P H T (ev E x) (ev E i) ok with
   | some r => some r
   | none => lookupI P H T (ev E x) (ev E i) ok
 | .makeInterface T x => (ifaceQ P T (ev E x)).map fun x => (True, x)
 | .makeFunc (.func f) fi ca => match fi.toList, ca.toList with
   | [], [x] => match ev E x with
     | .pp o 0 => some (True, .ip o (.clo f))
     | _ => none
   | _, _ => none
 | .typeAssert x _ aT ok => (assertQ P aT ok (ev E x)).map fun x => (True, x)
 | .build T parts => (buildQ P T (parts.toList.map fun p => (p.1, ev E p.2))).map fun x => (True, x)
 | .call c => callQ P E H c
 | _ => none
end Go.Av
