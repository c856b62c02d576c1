/- What the tables of the program say of its types and functions, looked up once. -/
import Derived.Test.YtaogppnbeijjmaaDoorAvU
import Derived.Test.YtaogppnbeijjmaaDoorProg
import Derived.KernelRfl
namespace Go.Proofs.YtaogppnbeijjmaaDoor
open Go Go.Av
theorem tsz0 : tsz Tryd.prog 0 = some 1 := by kernel_rfl
theorem tby0 : tby Tryd.prog 0 = some 0 := by kernel_rfl
theorem tz0 : tzero Tryd.prog 0 = some (Value.tuple #[]) := by kernel_rfl
theorem tsz1 : tsz Tryd.prog 1 = some 1 := by kernel_rfl
theorem tby1 : tby Tryd.prog 1 = some 8 := by kernel_rfl
theorem tz1 : tzero Tryd.prog 1 = some Value.nilFunc := by kernel_rfl
theorem tsz2 : tsz Tryd.prog 2 = some 1 := by kernel_rfl
theorem tby2 : tby Tryd.prog 2 = some 8 := by kernel_rfl
theorem tz2 : tzero Tryd.prog 2 = some (Value.int IntKind.i64 0) := by kernel_rfl
theorem tsz3 : tsz Tryd.prog 3 = some 1 := by kernel_rfl
theorem tby3 : tby Tryd.prog 3 = some 8 := by kernel_rfl
theorem tz3 : tzero Tryd.prog 3 = some (Value.int IntKind.i64 0) := by kernel_rfl
theorem tsz4 : tsz Tryd.prog 4 = some 1 := by kernel_rfl
theorem tby4 : tby Tryd.prog 4 = some 1 := by kernel_rfl
theorem tz4 : tzero Tryd.prog 4 = some (Value.bool false) := by kernel_rfl
theorem tsz5 : tsz Tryd.prog 5 = some 1 := by kernel_rfl
theorem tby5 : tby Tryd.prog 5 = some 1 := by kernel_rfl
theorem tz5 : tzero Tryd.prog 5 = some (Value.int IntKind.u8 0) := by kernel_rfl
theorem tsz6 : tsz Tryd.prog 6 = some 1 := by kernel_rfl
theorem tby6 : tby Tryd.prog 6 = some 1 := by kernel_rfl
theorem tz6 : tzero Tryd.prog 6 = some (Value.int IntKind.u8 0) := by kernel_rfl
theorem tsz7 : tsz Tryd.prog 7 = some 4 := by kernel_rfl
theorem tby7 : tby Tryd.prog 7 = some 24 := by kernel_rfl
theorem tz7 : tzero Tryd.prog 7 = some (Value.agg #[(Value.int IntKind.i64 0), (Value.int IntKind.i64 0), (Value.bool false), (Value.int IntKind.u8 0)]) := by kernel_rfl
theorem fo7_0 : fieldOff Tryd.prog 7 0 = some 0 := by kernel_rfl
theorem fo7_1 : fieldOff Tryd.prog 7 1 = some 1 := by kernel_rfl
theorem fo7_2 : fieldOff Tryd.prog 7 2 = some 2 := by kernel_rfl
theorem fo7_3 : fieldOff Tryd.prog 7 3 = some 3 := by kernel_rfl
theorem tsz8 : tsz Tryd.prog 8 = some 4 := by kernel_rfl
theorem tby8 : tby Tryd.prog 8 = some 24 := by kernel_rfl
theorem tz8 : tzero Tryd.prog 8 = some (Value.agg #[(Value.int IntKind.i64 0), (Value.int IntKind.i64 0), (Value.bool false), (Value.int IntKind.u8 0)]) := by kernel_rfl
theorem fo8_0 : fieldOff Tryd.prog 8 0 = some 0 := by kernel_rfl
theorem fo8_1 : fieldOff Tryd.prog 8 1 = some 1 := by kernel_rfl
theorem fo8_2 : fieldOff Tryd.prog 8 2 = some 2 := by kernel_rfl
theorem fo8_3 : fieldOff Tryd.prog 8 3 = some 3 := by kernel_rfl
theorem tsz9 : tsz Tryd.prog 9 = some 1 := by kernel_rfl
theorem tby9 : tby Tryd.prog 9 = some 16 := by kernel_rfl
theorem tsz10 : tsz Tryd.prog 10 = some 1 := by kernel_rfl
theorem tby10 : tby Tryd.prog 10 = some 16 := by kernel_rfl
theorem tsz12 : tsz Tryd.prog 12 = some 1 := by kernel_rfl
theorem tby12 : tby Tryd.prog 12 = some 8 := by kernel_rfl
theorem tz12 : tzero Tryd.prog 12 = some (Value.int IntKind.u64 0) := by kernel_rfl
theorem tsz16 : tsz Tryd.prog 16 = some 1 := by kernel_rfl
theorem tby16 : tby Tryd.prog 16 = some 8 := by kernel_rfl
theorem tz16 : tzero Tryd.prog 16 = some (Value.pointer none) := by kernel_rfl
theorem tsz17 : tsz Tryd.prog 17 = some 1 := by kernel_rfl
theorem tby17 : tby Tryd.prog 17 = some 8 := by kernel_rfl
theorem tz17 : tzero Tryd.prog 17 = some (Value.pointer none) := by kernel_rfl
theorem tsz20 : tsz Tryd.prog 20 = some 1 := by kernel_rfl
theorem tby20 : tby Tryd.prog 20 = some 16 := by kernel_rfl
theorem tz20 : tzero Tryd.prog 20 = some Value.nilIface := by kernel_rfl
theorem tsz21 : tsz Tryd.prog 21 = some 1 := by kernel_rfl
theorem tby21 : tby Tryd.prog 21 = some 4 := by kernel_rfl
theorem tz21 : tzero Tryd.prog 21 = some (Value.int IntKind.i32 0) := by kernel_rfl
theorem tsz22 : tsz Tryd.prog 22 = some 1 := by kernel_rfl
theorem tby22 : tby Tryd.prog 22 = some 24 := by kernel_rfl
theorem tz22 : tzero Tryd.prog 22 = some (Value.slice none 0 0) := by kernel_rfl
theorem tsz23 : tsz Tryd.prog 23 = some 1 := by kernel_rfl
theorem tby23 : tby Tryd.prog 23 = some 24 := by kernel_rfl
theorem tz23 : tzero Tryd.prog 23 = some (Value.slice none 0 0) := by kernel_rfl
theorem tsz24 : tsz Tryd.prog 24 = some 2 := by kernel_rfl
theorem tby24 : tby Tryd.prog 24 = some 32 := by kernel_rfl
theorem tz24 : tzero Tryd.prog 24 = some (Value.agg #[(Value.int IntKind.i64 0), (Value.slice none 0 0)]) := by kernel_rfl
theorem fo24_0 : fieldOff Tryd.prog 24 0 = some 0 := by kernel_rfl
theorem fo24_1 : fieldOff Tryd.prog 24 1 = some 1 := by kernel_rfl
theorem tsz25 : tsz Tryd.prog 25 = some 2 := by kernel_rfl
theorem tby25 : tby Tryd.prog 25 = some 32 := by kernel_rfl
theorem tz25 : tzero Tryd.prog 25 = some (Value.agg #[(Value.int IntKind.i64 0), (Value.slice none 0 0)]) := by kernel_rfl
theorem fo25_0 : fieldOff Tryd.prog 25 0 = some 0 := by kernel_rfl
theorem fo25_1 : fieldOff Tryd.prog 25 1 = some 1 := by kernel_rfl
theorem tsz26 : tsz Tryd.prog 26 = some 3 := by kernel_rfl
theorem tby26 : tby Tryd.prog 26 = some 24 := by kernel_rfl
theorem tz26 : tzero Tryd.prog 26 = some (Value.agg #[(Value.int IntKind.i64 0), (Value.int IntKind.i64 0), (Value.int IntKind.i64 0)]) := by kernel_rfl
theorem peq26 : plainEq Tryd.prog 26 = true := by kernel_rfl
theorem fo26_0 : fieldOff Tryd.prog 26 0 = some 0 := by kernel_rfl
theorem fo26_1 : fieldOff Tryd.prog 26 1 = some 1 := by kernel_rfl
theorem fo26_2 : fieldOff Tryd.prog 26 2 = some 2 := by kernel_rfl
theorem tsz27 : tsz Tryd.prog 27 = some 3 := by kernel_rfl
theorem tby27 : tby Tryd.prog 27 = some 24 := by kernel_rfl
theorem tz27 : tzero Tryd.prog 27 = some (Value.agg #[(Value.int IntKind.i64 0), (Value.int IntKind.i64 0), (Value.int IntKind.i64 0)]) := by kernel_rfl
theorem peq27 : plainEq Tryd.prog 27 = true := by kernel_rfl
theorem fo27_0 : fieldOff Tryd.prog 27 0 = some 0 := by kernel_rfl
theorem fo27_1 : fieldOff Tryd.prog 27 1 = some 1 := by kernel_rfl
theorem fo27_2 : fieldOff Tryd.prog 27 2 = some 2 := by kernel_rfl
theorem tsz28 : tsz Tryd.prog 28 = some 1 := by kernel_rfl
theorem tby28 : tby Tryd.prog 28 = some 0 := by kernel_rfl
theorem tz28 : tzero Tryd.prog 28 = some (Value.tuple #[(Value.agg #[(Value.int IntKind.i64 0), (Value.slice none 0 0)]), (Value.agg #[(Value.int IntKind.i64 0), (Value.int IntKind.i64 0), (Value.int IntKind.i64 0)])]) := by kernel_rfl
theorem tsz30 : tsz Tryd.prog 30 = some 1 := by kernel_rfl
theorem tby30 : tby Tryd.prog 30 = some 0 := by kernel_rfl
theorem tz30 : tzero Tryd.prog 30 = some (Value.tuple #[(Value.agg #[(Value.int IntKind.i64 0), (Value.slice none 0 0)]), (Value.bool false)]) := by kernel_rfl
theorem tsz32 : tsz Tryd.prog 32 = some 1 := by kernel_rfl
theorem tby32 : tby Tryd.prog 32 = some 8 := by kernel_rfl
theorem tz32 : tzero Tryd.prog 32 = some Value.nilFunc := by kernel_rfl
theorem tsz34 : tsz Tryd.prog 34 = some 1 := by kernel_rfl
theorem tby34 : tby Tryd.prog 34 = some 24 := by kernel_rfl
theorem tz34 : tzero Tryd.prog 34 = some (Value.slice none 0 0) := by kernel_rfl
theorem tsz37 : tsz Tryd.prog 37 = some 1 := by kernel_rfl
theorem tby37 : tby Tryd.prog 37 = some 8 := by kernel_rfl
theorem tz37 : tzero Tryd.prog 37 = some (Value.pointer none) := by kernel_rfl
theorem tsz40 : tsz Tryd.prog 40 = some 1 := by kernel_rfl
theorem tby40 : tby Tryd.prog 40 = some 8 := by kernel_rfl
theorem tz40 : tzero Tryd.prog 40 = some Value.nilFunc := by kernel_rfl
theorem tsz44 : tsz Tryd.prog 44 = some 1 := by kernel_rfl
theorem tby44 : tby Tryd.prog 44 = some 0 := by kernel_rfl
theorem tz44 : tzero Tryd.prog 44 = some (Value.tuple #[(Value.int IntKind.i64 0), (Value.bool false)]) := by kernel_rfl
theorem tsz46 : tsz Tryd.prog 46 = some 1 := by kernel_rfl
theorem tby46 : tby Tryd.prog 46 = some 8 := by kernel_rfl
theorem tz46 : tzero Tryd.prog 46 = some Value.nilFunc := by kernel_rfl
theorem tsz53 : tsz Tryd.prog 53 = some 1 := by kernel_rfl
theorem tby53 : tby Tryd.prog 53 = some 24 := by kernel_rfl
theorem tz53 : tzero Tryd.prog 53 = some (Value.slice none 0 0) := by kernel_rfl
theorem tsz55 : tsz Tryd.prog 55 = some 2 := by kernel_rfl
theorem tby55 : tby Tryd.prog 55 = some 32 := by kernel_rfl
theorem tz55 : tzero Tryd.prog 55 = some (Value.agg #[(Value.slice none 0 0), (Value.int IntKind.i64 0)]) := by kernel_rfl
theorem fo55_0 : fieldOff Tryd.prog 55 0 = some 0 := by kernel_rfl
theorem fo55_1 : fieldOff Tryd.prog 55 1 = some 1 := by kernel_rfl
theorem tsz56 : tsz Tryd.prog 56 = some 2 := by kernel_rfl
theorem tby56 : tby Tryd.prog 56 = some 32 := by kernel_rfl
theorem tz56 : tzero Tryd.prog 56 = some (Value.agg #[(Value.slice none 0 0), (Value.int IntKind.i64 0)]) := by kernel_rfl
theorem fo56_0 : fieldOff Tryd.prog 56 0 = some 0 := by kernel_rfl
theorem fo56_1 : fieldOff Tryd.prog 56 1 = some 1 := by kernel_rfl
theorem tsz57 : tsz Tryd.prog 57 = some 1 := by kernel_rfl
theorem tby57 : tby Tryd.prog 57 = some 8 := by kernel_rfl
theorem tz57 : tzero Tryd.prog 57 = some (Value.int IntKind.u64 0) := by kernel_rfl
theorem tsz66 : tsz Tryd.prog 66 = some 1 := by kernel_rfl
theorem tby66 : tby Tryd.prog 66 = some 4 := by kernel_rfl
theorem tz66 : tzero Tryd.prog 66 = some (Value.int IntKind.u32 0) := by kernel_rfl
theorem tsz67 : tsz Tryd.prog 67 = some 1 := by kernel_rfl
theorem tby67 : tby Tryd.prog 67 = some 4 := by kernel_rfl
theorem tz67 : tzero Tryd.prog 67 = some (Value.int IntKind.u32 0) := by kernel_rfl
theorem tsz73 : tsz Tryd.prog 73 = some 32 := by kernel_rfl
theorem tby73 : tby Tryd.prog 73 = some 32 := by kernel_rfl
theorem tz73 : tzero Tryd.prog 73 = some (Value.agg #[(Value.int IntKind.u8 0), (Value.int IntKind.u8 0), (Value.int IntKind.u8 0), (Value.int IntKind.u8 0), (Value.int IntKind.u8 0), (Value.int IntKind.u8 0), (Value.int IntKind.u8 0), (Value.int IntKind.u8 0), (Value.int IntKind.u8 0), (Value.int IntKind.u8 0), (Value.int IntKind.u8 0), (Value.int IntKind.u8 0), (Value.int IntKind.u8 0), (Value.int IntKind.u8 0), (Value.int IntKind.u8 0), (Value.int IntKind.u8 0), (Value.int IntKind.u8 0), (Value.int IntKind.u8 0), (Value.int IntKind.u8 0), (Value.int IntKind.u8 0), (Value.int IntKind.u8 0), (Value.int IntKind.u8 0), (Value.int IntKind.u8 0), (Value.int IntKind.u8 0), (Value.int IntKind.u8 0), (Value.int IntKind.u8 0), (Value.int IntKind.u8 0), (Value.int IntKind.u8 0), (Value.int IntKind.u8 0), (Value.int IntKind.u8 0), (Value.int IntKind.u8 0), (Value.int IntKind.u8 0)]) := by kernel_rfl
theorem tsz77 : tsz Tryd.prog 77 = some 0 := by kernel_rfl
theorem tby77 : tby Tryd.prog 77 = some 0 := by kernel_rfl
theorem tz77 : tzero Tryd.prog 77 = some (Value.agg #[]) := by kernel_rfl
theorem tsz78 : tsz Tryd.prog 78 = some 0 := by kernel_rfl
theorem tby78 : tby Tryd.prog 78 = some 0 := by kernel_rfl
theorem tz78 : tzero Tryd.prog 78 = some (Value.agg #[]) := by kernel_rfl
theorem tsz79 : tsz Tryd.prog 79 = some 0 := by kernel_rfl
theorem tby79 : tby Tryd.prog 79 = some 0 := by kernel_rfl
theorem tz79 : tzero Tryd.prog 79 = some (Value.agg #[]) := by kernel_rfl
theorem tsz80 : tsz Tryd.prog 80 = some 1 := by kernel_rfl
theorem tby80 : tby Tryd.prog 80 = some 1 := by kernel_rfl
theorem tz80 : tzero Tryd.prog 80 = some (Value.int IntKind.u8 0) := by kernel_rfl
theorem tsz81 : tsz Tryd.prog 81 = some 1 := by kernel_rfl
theorem tby81 : tby Tryd.prog 81 = some 1 := by kernel_rfl
theorem tz81 : tzero Tryd.prog 81 = some (Value.int IntKind.u8 0) := by kernel_rfl
theorem tsz82 : tsz Tryd.prog 82 = some 1 := by kernel_rfl
theorem tby82 : tby Tryd.prog 82 = some 8 := by kernel_rfl
theorem tz82 : tzero Tryd.prog 82 = some Value.nilFunc := by kernel_rfl
theorem tsz83 : tsz Tryd.prog 83 = some 1 := by kernel_rfl
theorem tby83 : tby Tryd.prog 83 = some 8 := by kernel_rfl
theorem tz83 : tzero Tryd.prog 83 = some (Value.pointer none) := by kernel_rfl
theorem tsz84 : tsz Tryd.prog 84 = some 1 := by kernel_rfl
theorem tby84 : tby Tryd.prog 84 = some 4 := by kernel_rfl
theorem tz84 : tzero Tryd.prog 84 = some (Value.int IntKind.i32 0) := by kernel_rfl
theorem tsz85 : tsz Tryd.prog 85 = some 1 := by kernel_rfl
theorem tby85 : tby Tryd.prog 85 = some 4 := by kernel_rfl
theorem tz85 : tzero Tryd.prog 85 = some (Value.int IntKind.i32 0) := by kernel_rfl
theorem tsz86 : tsz Tryd.prog 86 = some 11 := by kernel_rfl
theorem tby86 : tby Tryd.prog 86 = some 48 := by kernel_rfl
theorem tz86 : tzero Tryd.prog 86 = some (Value.agg #[(Value.int IntKind.u64 0), (Value.int IntKind.u64 0), (Value.int IntKind.u32 0), (Value.int IntKind.u8 0), (Value.int IntKind.u8 0), (Value.int IntKind.u8 0), (Value.int IntKind.u8 0), Value.nilFunc, (Value.pointer none), (Value.int IntKind.i32 0), (Value.int IntKind.i32 0)]) := by kernel_rfl
theorem fo86_0 : fieldOff Tryd.prog 86 0 = some 0 := by kernel_rfl
theorem fo86_1 : fieldOff Tryd.prog 86 1 = some 1 := by kernel_rfl
theorem fo86_2 : fieldOff Tryd.prog 86 2 = some 2 := by kernel_rfl
theorem fo86_3 : fieldOff Tryd.prog 86 3 = some 3 := by kernel_rfl
theorem fo86_4 : fieldOff Tryd.prog 86 4 = some 4 := by kernel_rfl
theorem fo86_5 : fieldOff Tryd.prog 86 5 = some 5 := by kernel_rfl
theorem fo86_6 : fieldOff Tryd.prog 86 6 = some 6 := by kernel_rfl
theorem fo86_7 : fieldOff Tryd.prog 86 7 = some 7 := by kernel_rfl
theorem fo86_8 : fieldOff Tryd.prog 86 8 = some 8 := by kernel_rfl
theorem fo86_9 : fieldOff Tryd.prog 86 9 = some 9 := by kernel_rfl
theorem fo86_10 : fieldOff Tryd.prog 86 10 = some 10 := by kernel_rfl
theorem tsz87 : tsz Tryd.prog 87 = some 11 := by kernel_rfl
theorem tby87 : tby Tryd.prog 87 = some 48 := by kernel_rfl
theorem tz87 : tzero Tryd.prog 87 = some (Value.agg #[(Value.int IntKind.u64 0), (Value.int IntKind.u64 0), (Value.int IntKind.u32 0), (Value.int IntKind.u8 0), (Value.int IntKind.u8 0), (Value.int IntKind.u8 0), (Value.int IntKind.u8 0), Value.nilFunc, (Value.pointer none), (Value.int IntKind.i32 0), (Value.int IntKind.i32 0)]) := by kernel_rfl
theorem fo87_0 : fieldOff Tryd.prog 87 0 = some 0 := by kernel_rfl
theorem fo87_1 : fieldOff Tryd.prog 87 1 = some 1 := by kernel_rfl
theorem fo87_2 : fieldOff Tryd.prog 87 2 = some 2 := by kernel_rfl
theorem fo87_3 : fieldOff Tryd.prog 87 3 = some 3 := by kernel_rfl
theorem fo87_4 : fieldOff Tryd.prog 87 4 = some 4 := by kernel_rfl
theorem fo87_5 : fieldOff Tryd.prog 87 5 = some 5 := by kernel_rfl
theorem fo87_6 : fieldOff Tryd.prog 87 6 = some 6 := by kernel_rfl
theorem fo87_7 : fieldOff Tryd.prog 87 7 = some 7 := by kernel_rfl
theorem fo87_8 : fieldOff Tryd.prog 87 8 = some 8 := by kernel_rfl
theorem fo87_9 : fieldOff Tryd.prog 87 9 = some 9 := by kernel_rfl
theorem fo87_10 : fieldOff Tryd.prog 87 10 = some 10 := by kernel_rfl
theorem tsz88 : tsz Tryd.prog 88 = some 1 := by kernel_rfl
theorem tby88 : tby Tryd.prog 88 = some 8 := by kernel_rfl
theorem tz88 : tzero Tryd.prog 88 = some (Value.pointer none) := by kernel_rfl
theorem en3 : Enters Tryd.prog 3 := Enters.of Tryd.func3 (by kernel_rfl) (by kernel_rfl)
theorem en4 : Enters Tryd.prog 4 := Enters.of Tryd.func4 (by kernel_rfl) (by kernel_rfl)
theorem en5 : Enters Tryd.prog 5 := Enters.of Tryd.func5 (by kernel_rfl) (by kernel_rfl)
theorem en6 : Enters Tryd.prog 6 := Enters.of Tryd.func6 (by kernel_rfl) (by kernel_rfl)
theorem en7 : Enters Tryd.prog 7 := Enters.of Tryd.func7 (by kernel_rfl) (by kernel_rfl)
theorem en8 : Enters Tryd.prog 8 := Enters.of Tryd.func8 (by kernel_rfl) (by kernel_rfl)
theorem en9 : Enters Tryd.prog 9 := Enters.of Tryd.func9 (by kernel_rfl) (by kernel_rfl)
theorem en10 : Enters Tryd.prog 10 := Enters.of Tryd.func10 (by kernel_rfl) (by kernel_rfl)
theorem en11 : Enters Tryd.prog 11 := Enters.of Tryd.func11 (by kernel_rfl) (by kernel_rfl)
theorem en12 : Enters Tryd.prog 12 := Enters.of Tryd.func12 (by kernel_rfl) (by kernel_rfl)
theorem en13 : Enters Tryd.prog 13 := Enters.of Tryd.func13 (by kernel_rfl) (by kernel_rfl)
theorem en14 : Enters Tryd.prog 14 := Enters.of Tryd.func14 (by kernel_rfl) (by kernel_rfl)
theorem en15 : Enters Tryd.prog 15 := Enters.of Tryd.func15 (by kernel_rfl) (by kernel_rfl)
theorem en16 : Enters Tryd.prog 16 := Enters.of Tryd.func16 (by kernel_rfl) (by kernel_rfl)
theorem en17 : Enters Tryd.prog 17 := Enters.of Tryd.func17 (by kernel_rfl) (by kernel_rfl)
theorem en18 : Enters Tryd.prog 18 := Enters.of Tryd.func18 (by kernel_rfl) (by kernel_rfl)
theorem en19 : Enters Tryd.prog 19 := Enters.of Tryd.func19 (by kernel_rfl) (by kernel_rfl)
theorem en20 : Enters Tryd.prog 20 := Enters.of Tryd.func20 (by kernel_rfl) (by kernel_rfl)
theorem en21 : Enters Tryd.prog 21 := Enters.of Tryd.func21 (by kernel_rfl) (by kernel_rfl)
theorem en22 : Enters Tryd.prog 22 := Enters.of Tryd.func22 (by kernel_rfl) (by kernel_rfl)
theorem en23 : Enters Tryd.prog 23 := Enters.of Tryd.func23 (by kernel_rfl) (by kernel_rfl)
theorem en24 : Enters Tryd.prog 24 := Enters.of Tryd.func24 (by kernel_rfl) (by kernel_rfl)
theorem en25 : Enters Tryd.prog 25 := Enters.of Tryd.func25 (by kernel_rfl) (by kernel_rfl)
theorem en26 : Enters Tryd.prog 26 := Enters.of Tryd.func26 (by kernel_rfl) (by kernel_rfl)
theorem en27 : Enters Tryd.prog 27 := Enters.of Tryd.func27 (by kernel_rfl) (by kernel_rfl)
theorem en28 : Enters Tryd.prog 28 := Enters.of Tryd.func28 (by kernel_rfl) (by kernel_rfl)
theorem en29 : Enters Tryd.prog 29 := Enters.of Tryd.func29 (by kernel_rfl) (by kernel_rfl)
theorem en31 : Enters Tryd.prog 31 := Enters.of Tryd.func31 (by kernel_rfl) (by kernel_rfl)
theorem en32 : Enters Tryd.prog 32 := Enters.of Tryd.func32 (by kernel_rfl) (by kernel_rfl)
theorem en33 : Enters Tryd.prog 33 := Enters.of Tryd.func33 (by kernel_rfl) (by kernel_rfl)
theorem en34 : Enters Tryd.prog 34 := Enters.of Tryd.func34 (by kernel_rfl) (by kernel_rfl)
theorem en35 : Enters Tryd.prog 35 := Enters.of Tryd.func35 (by kernel_rfl) (by kernel_rfl)
theorem en36 : Enters Tryd.prog 36 := Enters.of Tryd.func36 (by kernel_rfl) (by kernel_rfl)
theorem en37 : Enters Tryd.prog 37 := Enters.of Tryd.func37 (by kernel_rfl) (by kernel_rfl)
theorem en38 : Enters Tryd.prog 38 := Enters.of Tryd.func38 (by kernel_rfl) (by kernel_rfl)
theorem en39 : Enters Tryd.prog 39 := Enters.of Tryd.func39 (by kernel_rfl) (by kernel_rfl)
theorem en40 : Enters Tryd.prog 40 := Enters.of Tryd.func40 (by kernel_rfl) (by kernel_rfl)
theorem en41 : Enters Tryd.prog 41 := Enters.of Tryd.func41 (by kernel_rfl) (by kernel_rfl)
def tab0 : List Int := [0, 1, 28, 2, 29, 14, 24, 3, 30, 22, 20, 15, 25, 17, 4, 8, 31, 27, 13, 23, 21, 19, 16, 7, 26, 12, 18, 6, 11, 5, 10, 9]
theorem mixed : Tryd.prog.follows .mixedOrders = true := by kernel_rfl
end Go.Proofs.YtaogppnbeijjmaaDoor
