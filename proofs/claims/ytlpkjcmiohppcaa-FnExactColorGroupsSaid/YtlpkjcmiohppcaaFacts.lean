/- What the tables of the program say of its types and functions, looked up once. -/
import Derived.Test.YtlpkjcmiohppcaaAvU
import Derived.Test.YtlpkjcmiohppcaaProg
import Derived.KernelRfl
namespace Go.Proofs.Ytlpkjcmiohppcaa
open Go Go.Av
theorem tsz0 : tsz Try.prog 0 = some 1 := by kernel_rfl
theorem tby0 : tby Try.prog 0 = some 0 := by kernel_rfl
theorem tz0 : tzero Try.prog 0 = some (Value.tuple #[]) := by kernel_rfl
theorem tsz1 : tsz Try.prog 1 = some 1 := by kernel_rfl
theorem tby1 : tby Try.prog 1 = some 8 := by kernel_rfl
theorem tz1 : tzero Try.prog 1 = some Value.nilFunc := by kernel_rfl
theorem tsz3 : tsz Try.prog 3 = some 1 := by kernel_rfl
theorem tby3 : tby Try.prog 3 = some 8 := by kernel_rfl
theorem tz3 : tzero Try.prog 3 = some (Value.int IntKind.i64 0) := by kernel_rfl
theorem tsz4 : tsz Try.prog 4 = some 1 := by kernel_rfl
theorem tby4 : tby Try.prog 4 = some 1 := by kernel_rfl
theorem tz4 : tzero Try.prog 4 = some (Value.bool false) := by kernel_rfl
theorem tsz22 : tsz Try.prog 22 = some 1 := by kernel_rfl
theorem tby22 : tby Try.prog 22 = some 24 := by kernel_rfl
theorem tz22 : tzero Try.prog 22 = some (Value.slice none 0 0) := by kernel_rfl
theorem tsz27 : tsz Try.prog 27 = some 1 := by kernel_rfl
theorem tby27 : tby Try.prog 27 = some 24 := by kernel_rfl
theorem tz27 : tzero Try.prog 27 = some (Value.slice none 0 0) := by kernel_rfl
theorem en4 : Enters Try.prog 4 := Enters.of Try.func4 (by kernel_rfl) (by kernel_rfl)
theorem en16 : Enters Try.prog 16 := Enters.of Try.func16 (by kernel_rfl) (by kernel_rfl)
theorem en18 : Enters Try.prog 18 := Enters.of Try.func18 (by kernel_rfl) (by kernel_rfl)
theorem en19 : Enters Try.prog 19 := Enters.of Try.func19 (by kernel_rfl) (by kernel_rfl)
theorem en20 : Enters Try.prog 20 := Enters.of Try.func20 (by kernel_rfl) (by kernel_rfl)
theorem en21 : Enters Try.prog 21 := Enters.of Try.func21 (by kernel_rfl) (by kernel_rfl)
theorem en22 : Enters Try.prog 22 := Enters.of Try.func22 (by kernel_rfl) (by kernel_rfl)
theorem en23 : Enters Try.prog 23 := Enters.of Try.func23 (by kernel_rfl) (by kernel_rfl)
theorem en24 : Enters Try.prog 24 := Enters.of Try.func24 (by kernel_rfl) (by kernel_rfl)
theorem en48 : Enters Try.prog 48 := Enters.of Try.func48 (by kernel_rfl) (by kernel_rfl)
theorem en50 : Enters Try.prog 50 := Enters.of Try.func50 (by kernel_rfl) (by kernel_rfl)
theorem mixed : Try.prog.follows .mixedOrders = true := by kernel_rfl
end Go.Proofs.Ytlpkjcmiohppcaa
