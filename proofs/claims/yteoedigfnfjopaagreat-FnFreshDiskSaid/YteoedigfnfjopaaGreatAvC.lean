import Derived.Test.YteoedigfnfjopaaGreatAvB
import Derived.Lib.Strings
set_option linter.unusedSimpArgs false
set_option linter.unusedVariables false
namespace Go.Av
open Go
def fits (k : IntKind) (n : Int) : Prop := k.wrap n = n
theorem wrap_i64 {n : Int} (h : -9223372036854775808 ≤ n ∧ n ≤ 9223372036854775807) : IntKind.i64.wrap n = n := IntWalk.i64_in n h
theorem wrap_fits {n : Int} (h : -9223372036854775808 ≤ n) (h' : n ≤ 9223372036854775807) : IntKind.i64.wrap n = n := wrap_i64 ⟨h, h'⟩
def fits64 (n : Int) : Prop := -9223372036854775808 ≤ n ∧ n ≤ 9223372036854775807
def wrapTo (k : IntKind) (n : Int) : Prop × Value := match k with | .i64 => (fits64 n, .int .i64 n) | k => (True, .int k (k.wrap n))
theorem wrapTo_ok {k : IntKind} {n : Int} (h : (wrapTo k n).1) : (wrapTo k n).2 = .int k (k.wrap n) := by
 cases k <;> simp only [wrapTo] at h ⊢
 rw [wrap_i64 h]
def bitsV (op : BinOp) (k : IntKind) (x y : Int) : Int :=
 let a := BitVec.ofInt k.bits x
 let b := BitVec.ofInt k.bits y
 match op with
 | .and => k.wrap (a &&& b).toNat
 | .or => k.wrap (a ||| b).toNat
 | .xor => k.wrap (a ^^^ b).toNat
 | _ => k.wrap (a &&& ~~~b).toNat
theorem run_half {P : Program} {w : World} {T : TypeId} {ox oy : Operand} {k : IntKind} {a : Int} (hf : fits k (a.tdiv 2)) : (do eqGuard .quo T ox oy (.int k a) (.int k 2); binOp .quo T (.int k a) (.int k 2) : Sem Value).run P w = .ok (.int k (a.tdiv 2)) w := by
 unfold fits at hf
 simp [eqGuard, binOp, Op.intDiv, hf]
def isTwo (n : Int) : Bool := n == 2
theorem isTwo_2 : isTwo 2 = true := rfl
theorem isTwo_1 : isTwo 1 = false := rfl
theorem isTwo_3 : isTwo 3 = false := rfl
theorem isTwo_4 : isTwo 4 = false := rfl
theorem isTwo_5 : isTwo 5 = false := rfl
theorem isTwo_6 : isTwo 6 = false := rfl
theorem isTwo_7 : isTwo 7 = false := rfl
theorem isTwo_8 : isTwo 8 = false := rfl
theorem isTwo_9 : isTwo 9 = false := rfl
theorem isTwo_10 : isTwo 10 = false := rfl
theorem isTwo_11 : isTwo 11 = false := rfl
theorem isTwo_12 : isTwo 12 = false := rfl
theorem isTwo_13 : isTwo 13 = false := rfl
theorem isTwo_14 : isTwo 14 = false := rfl
theorem isTwo_15 : isTwo 15 = false := rfl
theorem isTwo_16 : isTwo 16 = false := rfl
theorem isTwo_17 : isTwo 17 = false := rfl
theorem isTwo_20 : isTwo 20 = false := rfl
theorem isTwo_24 : isTwo 24 = false := rfl
theorem isTwo_32 : isTwo 32 = false := rfl
theorem isTwo_60 : isTwo 60 = false := rfl
theorem isTwo_64 : isTwo 64 = false := rfl
theorem isTwo_100 : isTwo 100 = false := rfl
theorem isTwo_128 : isTwo 128 = false := rfl
theorem isTwo_256 : isTwo 256 = false := rfl
theorem byteList (a : ByteArray) : a.toList = a.data.toList := Go.Lib.toList_data a
theorem isTwo_1000 : isTwo 1000 = false := rfl
def binV (P : Program) (op : BinOp) (T : TypeId) (x y : Value) : Option (Prop × Value) :=
 match x, y with
 | .int k a, .int k' b =>
   if k = k' then
    match op with
    | .add => some (wrapTo k (a + b))
    | .sub => some (True, .int k (k.wrap (a - b)))
    | .mul => some (wrapTo k (a * b))
    | .quo => some (0 ≤ a ∧ 0 < b ∧ fits k (a / b), .int k (a / b))
    | .rem => some (0 ≤ a ∧ 0 < b, .int k (a % b))
    | .and => some (True, .int k (bitsV .and k a b))
    | .or => some (True, .int k (bitsV .or k a b))
    | .xor => some (True, .int k (bitsV .xor k a b))
    | .andNot => some (True, .int k (bitsV .andNot k a b))
    | .eql => some (True, .bool (a == b))
    | .neq => some (True, .bool (a != b))
    | .lss => some (True, .bool (decide (a < b)))
    | .leq => some (True, .bool (decide (a ≤ b)))
    | .gtr => some (True, .bool (decide (b < a)))
    | .geq => some (True, .bool (decide (b ≤ a)))
    | .shl => some (0 ≤ b, .int k (k.wrap (a * 2 ^ min b.toNat k.bits)))
    | .shr => some (0 ≤ b, .int k (a.fdiv (2 ^ min b.toNat k.bits)))
   else
    match op with
    | .shl => some (0 ≤ b, .int k (k.wrap (a * 2 ^ min b.toNat k.bits)))
    | .shr => some (0 ≤ b, .int k (a.fdiv (2 ^ min b.toNat k.bits)))
    | _ => none
 | .bool a, .bool b =>
   match op with
   | .eql => some (P.underlying T = some .bool, .bool (a == b))
   | .neq => some (P.underlying T = some .bool, .bool (!(a == b)))
   | _ => none
 | .string a, .string b =>
   match op with
   | .add => some (a.size + b.size ≤ 9223372036854775807, .string (a ++ b))
   | .eql => some (True, .bool (a.data.toList == b.data.toList))
   | .neq => some (True, .bool (!(a.data.toList == b.data.toList)))
   | _ => none
 | _, _ => none
theorem run_under {P : Program} {w : World} {t : TypeId} {d : TypeDesc} (h : P.underlying t = some d) : (underlying t).run P w = .ok d w := run_underlying h w
theorem run_equal_bool {P : Program} {w : World} {T : TypeId} (a b : Bool) (h : P.underlying T = some .bool) : (Op.equal T (.bool a) (.bool b)).run P w = .ok (a == b) w := by
 have key : ∀ d, (Op.equalIn (d + 1) T (.bool a) (.bool b)).run P w = .ok (a == b) w := fun d => by
  unfold Op.equalIn
  simp [run_under h]
 exact key 9999
theorem binV_run {P : Program} {w : World} {op : BinOp} {T : TypeId} {ox oy : Operand} {x y : Value} {p : Prop} {v : Value} (h : binV P op T x y = some (p, v)) (hp : p) :
 (do eqGuard op T ox oy x y; binOp op T x y : Sem Value).run P w = .ok v w := by
 cases x <;> cases y <;> simp only [binV] at h <;> first | (cases h; done) | skip
 ·rename_i a b
  cases op <;> simp only [reduceCtorEq, Option.some.injEq, Prod.mk.injEq] at h
  ·obtain ⟨h1, rfl⟩ := h
   subst h1
   have hb : binOp .eql T (.bool a) (.bool b) = (do pure (.bool (← Op.equal T (.bool a) (.bool b)))) := rfl
   rw [hb]
   simp [eqGuard, run_equal_bool a b hp]
  ·obtain ⟨h1, rfl⟩ := h
   subst h1
   have hb : binOp .neq T (.bool a) (.bool b) = (do pure (.bool (!(← Op.equal T (.bool a) (.bool b))))) := rfl
   rw [hb]
   simp [eqGuard, run_equal_bool a b hp]
 ·rename_i k a k' b
  by_cases hk : k = k'
  ·subst hk
   simp only [↓reduceIte] at h
   cases op <;> simp only [Option.some.injEq, Prod.mk.injEq] at h
   case add => have hv := wrapTo_ok (n := a + b) (k := k) (by rw [h]; exact hp); rw [h] at hv; simp only at hv; subst hv; simp [eqGuard, binOp, Op.intArith]
   case sub => obtain ⟨_, rfl⟩ := h; simp [eqGuard, binOp, Op.intArith]
   case mul => have hv := wrapTo_ok (n := a * b) (k := k) (by rw [h]; exact hp); rw [h] at hv; simp only at hv; subst hv; simp [eqGuard, binOp, Op.intArith]
   case quo =>
    obtain ⟨h1, rfl⟩ := h
    subst h1
    have hb : b ≠ 0 := by omega
    have ht : a.tdiv b = a / b := Int.tdiv_eq_ediv_of_nonneg hp.1
    have hf := hp.2.2
    unfold fits at hf
    simp [eqGuard, binOp, Op.intDiv, hb, ht, hf]
   case rem =>
    obtain ⟨h1, rfl⟩ := h
    subst h1
    have hb : b ≠ 0 := by omega
    have ht : a.tmod b = a % b := Int.tmod_eq_emod_of_nonneg hp.1
    simp [eqGuard, binOp, Op.intDiv, hb, ht]
   case shl =>
    obtain ⟨h1, rfl⟩ := h
    subst h1
    have hb : ¬ b < 0 := by omega
    simp [eqGuard, binOp, Op.shift, hb]
   case shr =>
    obtain ⟨h1, rfl⟩ := h
    subst h1
    have hb : ¬ b < 0 := by omega
    simp [eqGuard, binOp, Op.shift, hb]
   all_goals
    obtain ⟨h1, rfl⟩ := h
    simp [eqGuard, binOp, Op.intBits, Op.intCmp, bitsV]
  ·simp only [if_neg hk] at h
   cases op <;> simp only [reduceCtorEq, Option.some.injEq, Prod.mk.injEq] at h
   all_goals
    obtain ⟨h1, rfl⟩ := h
    subst h1
    have hb : ¬ b < 0 := by omega
    simp [eqGuard, binOp, Op.shift, hb]
 ·rename_i a b
  cases op <;> simp only [reduceCtorEq, Option.some.injEq, Prod.mk.injEq] at h
  ·obtain ⟨h1, rfl⟩ := h
   subst h1
   have hn : ¬ ((a.size + b.size : Nat) : Int) > IntKind.i64.max := by
    have : IntKind.i64.max = 9223372036854775807 := rfl
    omega
   have hb : binOp .add T (.string a) (.string b) = Op.stringOp .add a b := rfl
   rw [hb]
   simp only [eqGuard, Op.stringOp, if_neg hn]
   rfl
  ·obtain ⟨_, rfl⟩ := h
   have hb : binOp .eql T (.string a) (.string b) = Op.stringOp .eql a b := rfl
   rw [hb]
   simp [eqGuard, Op.stringOp, byteList]
  ·obtain ⟨_, rfl⟩ := h
   have hb : binOp .neq T (.string a) (.string b) = Op.stringOp .neq a b := rfl
   rw [hb]
   simp [eqGuard, Op.stringOp, byteList]
def unV (op : UnOp) (x : Value) : Option (Prop × Value) :=
 match op, x with
 | .neg, .int k n => some (wrapTo k (-n))
 | .xor, .int k n => some (True, .int k (bitsV .xor k (if k.signed then -1 else k.max) n))
 | .not, .bool b => some (True, .bool (!b))
 | _, _ => none
theorem unV_run {P : Program} {w : World} {op : UnOp} {x : Value} {p : Prop} {v : Value} (h : unV op x = some (p, v)) (hp : p) : (Op.unary op x).run P w = .ok v w := by
 cases op <;> cases x <;> simp only [unV] at h <;> first | (cases h; done) | skip
 all_goals simp only [Option.some.injEq, Prod.mk.injEq] at h
 all_goals first
  | (obtain ⟨h1, rfl⟩ := h; simp [Op.unary, Op.intBits, bitsV]; done)
  | (rename_i k n
     have hv := wrapTo_ok (n := -n) (k := k) (by rw [h]; exact hp)
     rw [h] at hv
     simp only at hv
     subst hv
     simp [Op.unary, Op.intArith])
def convV (P : Program) (src dst : TypeId) (x : Value) : Option (Prop × Value) :=
 match P.underlying src, P.underlying dst, x with
 | some (.int _), some (.int k), .int _ n => some (wrapTo k n)
 | some .string, some .string, .string s => some (True, .string s)
 | _, _, _ => none
theorem convV_run {P : Program} {w : World} {src dst : TypeId} {x : Value} {p : Prop} {v : Value} (h : convV P src dst x = some (p, v)) (hp : p) : (convert src dst x).run P w = .ok v w := by
 unfold convV at h
 split at h
 ·rename_i k _ n h1 h2
  have hv := wrapTo_ok (n := n) (k := k) (by simp only [Option.some.injEq] at h; rw [h]; exact hp)
  simp only [Option.some.injEq] at h
  rw [h] at hv
  simp only at hv
  subst hv
  simp [convert, run_under h1, run_under h2, Conv.intToInt]
 ·rename_i s h1 h2
  simp only [Option.some.injEq, Prod.mk.injEq] at h
  obtain ⟨_, rfl⟩ := h
  simp [convert, run_under h1, run_under h2]
 ·cases h
end Go.Av
