import Derived.Test.YtbhbaijbdciafaaGreatDoorAvR
set_option linter.unusedSimpArgs false
set_option linter.unusedVariables false
namespace Go.Av
open Go
variable {P : Program} {N : Nat} {pin : List Nat} {rq : Option Nat}
theorem rel_ofConst {ρ : List Value} {r v : Value} (h : rel ρ (ofConst r) v) : v = r := by
 cases r <;> try exact h
 rename_i cs
 simp only [ofConst] at h
 split at h
 ·obtain ⟨us, rfl, h1, h2⟩ := h
  obtain ⟨l⟩ := cs
  simp only [List.length_map] at h1
  have : us = l := by
   apply List.ext_getElem?
   intro j
   by_cases hj : j < l.length
   ·have a1 : (l.map AV.v)[j]? = some (.v l[j]) := by simp [hj]
    have a2 : us[j]? = some (us[j]'(by omega)) := List.getElem?_eq_getElem _
    have := (h2 j _ _ a1 a2).1
    rw [a2, this, List.getElem?_eq_getElem hj]
   ·rw [List.getElem?_eq_none (by omega), List.getElem?_eq_none (by omega)]
  subst this
  rfl
 ·exact h
theorem PureF.of {f : FuncId} {g : List Value → Option (Prop × Value)} (hen : Enters P f) (h : ∀ vs q r, g vs = some (q, r) → q → FnA P f (vs.map ofConst) [] [] (fun x _ => x = ofConst r)) : PureF P f g :=
 ⟨hen, fun vs q r hg hq w => by
  have h1 := (h vs q r hg hq).calls (fun _ => none) [] vs w ⟨rfl, fun o ob ho => by simp at ho, fun b o hb => by cases hb⟩ ⟨by simp, fun j y u hy hu => by
   rw [List.getElem?_map, hu] at hy
   simp at hy; subst hy
   exact ofConst_rel _ _⟩
  refine h1.mono fun e w' ⟨r', x, γ', ρ', H', h2, h3, h4, h5, h6, h7⟩ => ?_
  subst h3
  have : r' = r := rel_ofConst h4
  subst this
  exact ⟨h2, h6.os, h6.tape, h6.output, h6.size, fun b hb => (h6.keep b hb rfl).1, h6.drawn⟩⟩
def ftNone : FuncId → Option (List Value → Option (Prop × Value)) := fun _ => none
theorem ftNoneOk : PTab P ftNone := fun f g h => by cases h
def ftAdd (k : FuncId) (g : List Value → Option (Prop × Value)) (t : FuncId → Option (List Value → Option (Prop × Value))) : FuncId → Option (List Value → Option (Prop × Value)) := fun f => if f = k then some g else t f
theorem ftAddOk {k : FuncId} {g : List Value → Option (Prop × Value)} {t : FuncId → Option (List Value → Option (Prop × Value))} (h : PureF P k g) (ht : PTab P t) : PTab P (ftAdd k g t) := fun f g' hg => by
 unfold ftAdd at hg
 split at hg
 ·rename_i he; subst he; simp at hg; subst hg; exact h
 ·exact ht f g' hg
theorem awp_freeze {c : Code} {Q : Exit → Env → List AObj → Prop} {E : Env} {H H' : List AObj} (t : Nat) {o : Nat} {m : List AV} (_he : E.lookup t = some (.pp o 0)) (h : H[o]? = some (.box m))
 (hH : (H.map (AObj.unview o)).set o (.rbox m) = H') (k : awp rq P N pin c Q E H') : awp rq P N pin c Q E H := by subst hH; exact awp_red (Red.freezeBox h) k
theorem awp_freezeRow {c : Code} {Q : Exit → Env → List AObj → Prop} {E : Env} {H H' : List AObj} (t : Nat) {o : Nat} {m : Cont} (_he : E.lookup t = some (.sl o)) (h : H[o]? = some (.row true m))
 (hH : (H.map (AObj.unview o)).set o (.row false m) = H') (k : awp rq P N pin c Q E H') : awp rq P N pin c Q E H := by subst hH; exact awp_red (Red.freeze h) k
theorem bav_true {q : Prop} [Decidable q] (h : q) : AV.v (.bool true) = AV.v (.bool (decide q)) := by simp [h]
theorem bav_false {q : Prop} [Decidable q] (h : ¬ q) : AV.v (.bool false) = AV.v (.bool (decide q)) := by simp [h]
theorem bav_iff {p q : Prop} [Decidable p] [Decidable q] (h : p ↔ q) : AV.v (.bool (decide p)) = AV.v (.bool (decide q)) := by simp [h]
def unI : Value → Option Int
 | .int .i64 a => some a
 | _ => none
theorem unI_spec {v : Value} {a : Int} (h : unI v = some a) : v = .int .i64 a := by
 unfold unI at h; split at h
 ·simp at h; subst h; rfl
 ·cases h
def unK (k : IntKind) : Value → Option Int
 | .int k' a => if k' = k then some a else none
 | _ => none
def unB : Value → Option Bool
 | .bool a => some a
 | _ => none
def un3 : Value → Option (Int × Int × Int)
 | .agg cs => match cs.toList with
   | [.int .i64 a, .int .i64 b, .int .i64 c] => some (a, b, c)
   | _ => none
 | _ => none
theorem un3_spec {v : Value} {a b c : Int} (h : un3 v = some (a, b, c)) : v = .agg #[.int .i64 a, .int .i64 b, .int .i64 c] := by
 unfold un3 at h
 split at h
 ·rename_i cs
  split at h
  ·rename_i x y z hl
   simp at h
   obtain ⟨rfl, rfl, rfl⟩ := h
   obtain ⟨l⟩ := cs
   simp at hl
   subst hl
   rfl
  ·cases h
 ·cases h
theorem un3_agg (a b c : Int) : un3 (.agg #[.int .i64 a, .int .i64 b, .int .i64 c]) = some (a, b, c) := rfl
theorem unI_int (a : Int) : unI (.int .i64 a) = some a := rfl
theorem unB_bool (a : Bool) : unB (.bool a) = some a := rfl
theorem unK_int (k : IntKind) (a : Int) : unK k (.int k a) = some a := by simp [unK]
end Go.Av
