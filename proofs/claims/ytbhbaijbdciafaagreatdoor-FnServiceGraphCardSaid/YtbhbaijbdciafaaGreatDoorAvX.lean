import Derived.Test.YtbhbaijbdciafaaGreatDoorAvW
set_option linter.unusedSimpArgs false
set_option linter.unusedVariables false
namespace Go.Av
open Go Go.ChangeShapes Go.WideShapes Go.ChangeAt Go.RowKit
abbrev U8 := {x : Int // 0 ≤ x ∧ x ≤ 255}
section
variable {P : Program} {w : World} {H : Type} {enc : TypeId × Value → H}
theorem el_u8 {e : TypeId} (he : P.underlying e = some (.int .u8)) (n : Nat) (cs : List Value) (y : DataW H × List MemPlace) (h : DataW.trod enc P w 0 (fun _ => true) true n e cs = some y) : ∃ x : U8, ElemOk w (fun x => [cI .u8 x.1]) cs x := by
 obtain ⟨x, rfl, hw⟩ := trod_int' he h
 exact ⟨⟨x, Go.bounds_u8 hw⟩, ElemOk.one (cv := fun x : U8 => cI .u8 x.1) rfl (.v _ _ rfl)⟩
end
theorem u8_bounds (ys : List U8) (k : Nat) : 0 ≤ (ys.map Subtype.val).getD k 0 ∧ (ys.map Subtype.val).getD k 0 ≤ 255 := by
 simp only [List.getD_eq_getElem?_getD, List.getElem?_map]
 cases h : ys[k]? with
 | none => simp
 | some y => exact y.2
theorem has_bytes {ρ : List Value} {W : World} {o : Nat} {ys : List U8} {v : Value} (hv : ρ[o]? = some v) (h : CRep false W (fun _ => True) (.sl 1 (ys.map fun x => [cI .u8 x.1])) v) : has (fun _ => none) ρ W o (.row false (.ints .u8 (ys.map Subtype.val))) :=
 has_row hv (by
  have e : (Cont.ints .u8 (ys.map Subtype.val)).rows = ys.map fun x => [cI .u8 x.1] := by simp [Cont.rows, List.map_map, Function.comp_def]
  rw [e]; exact h)
section
variable {P : Program} {w : World} {H : Type} {enc : TypeId × Value → H}
end
abbrev GEl := {g : Int × List (Int × Int × Int) // fits64 g.1 ∧ g.2.length ≤ maxLen}
section
variable {P : Program} {w : World} {H : Type} {enc : TypeId × Value → H}
end
end Go.Av
