/- What the tables of the program say of its types and functions, looked up once. -/
import Derived.Test.YtmcdlohjjbmimaaAvU
import Derived.Test.YtmcdlohjjbmimaaProg
import Derived.KernelRfl
namespace Go.Proofs.Ytmcdlohjjbmimaa
open Go Go.Av
theorem tsz0 : tsz Try.prog 0 = some 1 := by kernel_rfl
theorem tby0 : tby Try.prog 0 = some 0 := by kernel_rfl
theorem tz0 : tzero Try.prog 0 = some (Value.tuple #[]) := by kernel_rfl
theorem tsz1 : tsz Try.prog 1 = some 1 := by kernel_rfl
theorem tby1 : tby Try.prog 1 = some 8 := by kernel_rfl
theorem tz1 : tzero Try.prog 1 = some Value.nilFunc := by kernel_rfl
theorem tsz2 : tsz Try.prog 2 = some 1 := by kernel_rfl
theorem tby2 : tby Try.prog 2 = some 8 := by kernel_rfl
theorem tz2 : tzero Try.prog 2 = some (Value.int IntKind.i64 0) := by kernel_rfl
theorem tsz3 : tsz Try.prog 3 = some 1 := by kernel_rfl
theorem tby3 : tby Try.prog 3 = some 8 := by kernel_rfl
theorem tz3 : tzero Try.prog 3 = some (Value.int IntKind.i64 0) := by kernel_rfl
theorem tsz4 : tsz Try.prog 4 = some 1 := by kernel_rfl
theorem tby4 : tby Try.prog 4 = some 1 := by kernel_rfl
theorem tz4 : tzero Try.prog 4 = some (Value.bool false) := by kernel_rfl
theorem tsz5 : tsz Try.prog 5 = some 1 := by kernel_rfl
theorem tby5 : tby Try.prog 5 = some 1 := by kernel_rfl
theorem tz5 : tzero Try.prog 5 = some (Value.int IntKind.u8 0) := by kernel_rfl
theorem tsz6 : tsz Try.prog 6 = some 1 := by kernel_rfl
theorem tby6 : tby Try.prog 6 = some 1 := by kernel_rfl
theorem tz6 : tzero Try.prog 6 = some (Value.int IntKind.u8 0) := by kernel_rfl
theorem tsz7 : tsz Try.prog 7 = some 4 := by kernel_rfl
theorem tby7 : tby Try.prog 7 = some 24 := by kernel_rfl
theorem tz7 : tzero Try.prog 7 = some (Value.agg #[(Value.int IntKind.i64 0), (Value.int IntKind.i64 0), (Value.bool false), (Value.int IntKind.u8 0)]) := by kernel_rfl
theorem fo7_0 : fieldOff Try.prog 7 0 = some 0 := by kernel_rfl
theorem fo7_1 : fieldOff Try.prog 7 1 = some 1 := by kernel_rfl
theorem fo7_2 : fieldOff Try.prog 7 2 = some 2 := by kernel_rfl
theorem fo7_3 : fieldOff Try.prog 7 3 = some 3 := by kernel_rfl
theorem tsz8 : tsz Try.prog 8 = some 4 := by kernel_rfl
theorem tby8 : tby Try.prog 8 = some 24 := by kernel_rfl
theorem tz8 : tzero Try.prog 8 = some (Value.agg #[(Value.int IntKind.i64 0), (Value.int IntKind.i64 0), (Value.bool false), (Value.int IntKind.u8 0)]) := by kernel_rfl
theorem fo8_0 : fieldOff Try.prog 8 0 = some 0 := by kernel_rfl
theorem fo8_1 : fieldOff Try.prog 8 1 = some 1 := by kernel_rfl
theorem fo8_2 : fieldOff Try.prog 8 2 = some 2 := by kernel_rfl
theorem fo8_3 : fieldOff Try.prog 8 3 = some 3 := by kernel_rfl
theorem tsz9 : tsz Try.prog 9 = some 1 := by kernel_rfl
theorem tby9 : tby Try.prog 9 = some 16 := by kernel_rfl
theorem tsz10 : tsz Try.prog 10 = some 1 := by kernel_rfl
theorem tby10 : tby Try.prog 10 = some 16 := by kernel_rfl
theorem tsz12 : tsz Try.prog 12 = some 1 := by kernel_rfl
theorem tby12 : tby Try.prog 12 = some 8 := by kernel_rfl
theorem tz12 : tzero Try.prog 12 = some (Value.int IntKind.u64 0) := by kernel_rfl
theorem tsz16 : tsz Try.prog 16 = some 1 := by kernel_rfl
theorem tby16 : tby Try.prog 16 = some 8 := by kernel_rfl
theorem tz16 : tzero Try.prog 16 = some (Value.pointer none) := by kernel_rfl
theorem tsz17 : tsz Try.prog 17 = some 1 := by kernel_rfl
theorem tby17 : tby Try.prog 17 = some 8 := by kernel_rfl
theorem tz17 : tzero Try.prog 17 = some (Value.pointer none) := by kernel_rfl
theorem tsz20 : tsz Try.prog 20 = some 1 := by kernel_rfl
theorem tby20 : tby Try.prog 20 = some 16 := by kernel_rfl
theorem tz20 : tzero Try.prog 20 = some Value.nilIface := by kernel_rfl
theorem tsz21 : tsz Try.prog 21 = some 1 := by kernel_rfl
theorem tby21 : tby Try.prog 21 = some 4 := by kernel_rfl
theorem tz21 : tzero Try.prog 21 = some (Value.int IntKind.i32 0) := by kernel_rfl
theorem tsz22 : tsz Try.prog 22 = some 1 := by kernel_rfl
theorem tby22 : tby Try.prog 22 = some 24 := by kernel_rfl
theorem tz22 : tzero Try.prog 22 = some (Value.slice none 0 0) := by kernel_rfl
theorem tsz23 : tsz Try.prog 23 = some 1 := by kernel_rfl
theorem tby23 : tby Try.prog 23 = some 24 := by kernel_rfl
theorem tz23 : tzero Try.prog 23 = some (Value.slice none 0 0) := by kernel_rfl
theorem tsz24 : tsz Try.prog 24 = some 2 := by kernel_rfl
theorem tby24 : tby Try.prog 24 = some 32 := by kernel_rfl
theorem tz24 : tzero Try.prog 24 = some (Value.agg #[(Value.int IntKind.i64 0), (Value.slice none 0 0)]) := by kernel_rfl
theorem fo24_0 : fieldOff Try.prog 24 0 = some 0 := by kernel_rfl
theorem fo24_1 : fieldOff Try.prog 24 1 = some 1 := by kernel_rfl
theorem tsz25 : tsz Try.prog 25 = some 2 := by kernel_rfl
theorem tby25 : tby Try.prog 25 = some 32 := by kernel_rfl
theorem tz25 : tzero Try.prog 25 = some (Value.agg #[(Value.int IntKind.i64 0), (Value.slice none 0 0)]) := by kernel_rfl
theorem fo25_0 : fieldOff Try.prog 25 0 = some 0 := by kernel_rfl
theorem fo25_1 : fieldOff Try.prog 25 1 = some 1 := by kernel_rfl
theorem tsz32 : tsz Try.prog 32 = some 1 := by kernel_rfl
theorem tby32 : tby Try.prog 32 = some 24 := by kernel_rfl
theorem tz32 : tzero Try.prog 32 = some (Value.slice none 0 0) := by kernel_rfl
theorem tsz34 : tsz Try.prog 34 = some 3 := by kernel_rfl
theorem tby34 : tby Try.prog 34 = some 24 := by kernel_rfl
theorem tz34 : tzero Try.prog 34 = some (Value.agg #[(Value.int IntKind.i64 0), (Value.int IntKind.i64 0), (Value.int IntKind.i64 0)]) := by kernel_rfl
theorem peq34 : plainEq Try.prog 34 = true := by kernel_rfl
theorem fo34_0 : fieldOff Try.prog 34 0 = some 0 := by kernel_rfl
theorem fo34_1 : fieldOff Try.prog 34 1 = some 1 := by kernel_rfl
theorem fo34_2 : fieldOff Try.prog 34 2 = some 2 := by kernel_rfl
theorem tsz35 : tsz Try.prog 35 = some 3 := by kernel_rfl
theorem tby35 : tby Try.prog 35 = some 24 := by kernel_rfl
theorem tz35 : tzero Try.prog 35 = some (Value.agg #[(Value.int IntKind.i64 0), (Value.int IntKind.i64 0), (Value.int IntKind.i64 0)]) := by kernel_rfl
theorem peq35 : plainEq Try.prog 35 = true := by kernel_rfl
theorem fo35_0 : fieldOff Try.prog 35 0 = some 0 := by kernel_rfl
theorem fo35_1 : fieldOff Try.prog 35 1 = some 1 := by kernel_rfl
theorem fo35_2 : fieldOff Try.prog 35 2 = some 2 := by kernel_rfl
theorem tsz36 : tsz Try.prog 36 = some 1 := by kernel_rfl
theorem tby36 : tby Try.prog 36 = some 0 := by kernel_rfl
theorem tz36 : tzero Try.prog 36 = some (Value.tuple #[(Value.agg #[(Value.int IntKind.i64 0), (Value.slice none 0 0)]), (Value.bool false)]) := by kernel_rfl
theorem tsz40 : tsz Try.prog 40 = some 1 := by kernel_rfl
theorem tby40 : tby Try.prog 40 = some 8 := by kernel_rfl
theorem tz40 : tzero Try.prog 40 = some (Value.pointer none) := by kernel_rfl
theorem tsz44 : tsz Try.prog 44 = some 1 := by kernel_rfl
theorem tby44 : tby Try.prog 44 = some 8 := by kernel_rfl
theorem tz44 : tzero Try.prog 44 = some Value.nilFunc := by kernel_rfl
theorem tsz52 : tsz Try.prog 52 = some 1 := by kernel_rfl
theorem tby52 : tby Try.prog 52 = some 24 := by kernel_rfl
theorem tz52 : tzero Try.prog 52 = some (Value.slice none 0 0) := by kernel_rfl
theorem tsz54 : tsz Try.prog 54 = some 1 := by kernel_rfl
theorem tby54 : tby Try.prog 54 = some 8 := by kernel_rfl
theorem tz54 : tzero Try.prog 54 = some Value.nilFunc := by kernel_rfl
theorem tsz56 : tsz Try.prog 56 = some 2 := by kernel_rfl
theorem tby56 : tby Try.prog 56 = some 32 := by kernel_rfl
theorem tz56 : tzero Try.prog 56 = some (Value.agg #[(Value.slice none 0 0), (Value.int IntKind.i64 0)]) := by kernel_rfl
theorem fo56_0 : fieldOff Try.prog 56 0 = some 0 := by kernel_rfl
theorem fo56_1 : fieldOff Try.prog 56 1 = some 1 := by kernel_rfl
theorem tsz57 : tsz Try.prog 57 = some 2 := by kernel_rfl
theorem tby57 : tby Try.prog 57 = some 32 := by kernel_rfl
theorem tz57 : tzero Try.prog 57 = some (Value.agg #[(Value.slice none 0 0), (Value.int IntKind.i64 0)]) := by kernel_rfl
theorem fo57_0 : fieldOff Try.prog 57 0 = some 0 := by kernel_rfl
theorem fo57_1 : fieldOff Try.prog 57 1 = some 1 := by kernel_rfl
theorem tsz60 : tsz Try.prog 60 = some 1 := by kernel_rfl
theorem tby60 : tby Try.prog 60 = some 0 := by kernel_rfl
theorem tz60 : tzero Try.prog 60 = some (Value.tuple #[(Value.int IntKind.i64 0), (Value.bool false)]) := by kernel_rfl
theorem tsz65 : tsz Try.prog 65 = some 1 := by kernel_rfl
theorem tby65 : tby Try.prog 65 = some 8 := by kernel_rfl
theorem tz65 : tzero Try.prog 65 = some (Value.int IntKind.u64 0) := by kernel_rfl
theorem tsz73 : tsz Try.prog 73 = some 0 := by kernel_rfl
theorem tby73 : tby Try.prog 73 = some 0 := by kernel_rfl
theorem tz73 : tzero Try.prog 73 = some (Value.agg #[]) := by kernel_rfl
theorem tsz74 : tsz Try.prog 74 = some 0 := by kernel_rfl
theorem tby74 : tby Try.prog 74 = some 0 := by kernel_rfl
theorem tz74 : tzero Try.prog 74 = some (Value.agg #[]) := by kernel_rfl
theorem tsz75 : tsz Try.prog 75 = some 0 := by kernel_rfl
theorem tby75 : tby Try.prog 75 = some 0 := by kernel_rfl
theorem tz75 : tzero Try.prog 75 = some (Value.agg #[]) := by kernel_rfl
theorem tsz77 : tsz Try.prog 77 = some 1 := by kernel_rfl
theorem tby77 : tby Try.prog 77 = some 4 := by kernel_rfl
theorem tz77 : tzero Try.prog 77 = some (Value.int IntKind.u32 0) := by kernel_rfl
theorem tsz78 : tsz Try.prog 78 = some 1 := by kernel_rfl
theorem tby78 : tby Try.prog 78 = some 1 := by kernel_rfl
theorem tz78 : tzero Try.prog 78 = some (Value.int IntKind.u8 0) := by kernel_rfl
theorem tsz79 : tsz Try.prog 79 = some 1 := by kernel_rfl
theorem tby79 : tby Try.prog 79 = some 1 := by kernel_rfl
theorem tz79 : tzero Try.prog 79 = some (Value.int IntKind.u8 0) := by kernel_rfl
theorem tsz80 : tsz Try.prog 80 = some 1 := by kernel_rfl
theorem tby80 : tby Try.prog 80 = some 8 := by kernel_rfl
theorem tz80 : tzero Try.prog 80 = some Value.nilFunc := by kernel_rfl
theorem tsz81 : tsz Try.prog 81 = some 1 := by kernel_rfl
theorem tby81 : tby Try.prog 81 = some 8 := by kernel_rfl
theorem tz81 : tzero Try.prog 81 = some (Value.pointer none) := by kernel_rfl
theorem tsz82 : tsz Try.prog 82 = some 1 := by kernel_rfl
theorem tby82 : tby Try.prog 82 = some 4 := by kernel_rfl
theorem tz82 : tzero Try.prog 82 = some (Value.int IntKind.i32 0) := by kernel_rfl
theorem tsz83 : tsz Try.prog 83 = some 1 := by kernel_rfl
theorem tby83 : tby Try.prog 83 = some 4 := by kernel_rfl
theorem tz83 : tzero Try.prog 83 = some (Value.int IntKind.i32 0) := by kernel_rfl
theorem tsz84 : tsz Try.prog 84 = some 11 := by kernel_rfl
theorem tby84 : tby Try.prog 84 = some 48 := by kernel_rfl
theorem tz84 : tzero Try.prog 84 = some (Value.agg #[(Value.int IntKind.u64 0), (Value.int IntKind.u64 0), (Value.int IntKind.u32 0), (Value.int IntKind.u8 0), (Value.int IntKind.u8 0), (Value.int IntKind.u8 0), (Value.int IntKind.u8 0), Value.nilFunc, (Value.pointer none), (Value.int IntKind.i32 0), (Value.int IntKind.i32 0)]) := by kernel_rfl
theorem fo84_0 : fieldOff Try.prog 84 0 = some 0 := by kernel_rfl
theorem fo84_1 : fieldOff Try.prog 84 1 = some 1 := by kernel_rfl
theorem fo84_2 : fieldOff Try.prog 84 2 = some 2 := by kernel_rfl
theorem fo84_3 : fieldOff Try.prog 84 3 = some 3 := by kernel_rfl
theorem fo84_4 : fieldOff Try.prog 84 4 = some 4 := by kernel_rfl
theorem fo84_5 : fieldOff Try.prog 84 5 = some 5 := by kernel_rfl
theorem fo84_6 : fieldOff Try.prog 84 6 = some 6 := by kernel_rfl
theorem fo84_7 : fieldOff Try.prog 84 7 = some 7 := by kernel_rfl
theorem fo84_8 : fieldOff Try.prog 84 8 = some 8 := by kernel_rfl
theorem fo84_9 : fieldOff Try.prog 84 9 = some 9 := by kernel_rfl
theorem fo84_10 : fieldOff Try.prog 84 10 = some 10 := by kernel_rfl
theorem tsz85 : tsz Try.prog 85 = some 11 := by kernel_rfl
theorem tby85 : tby Try.prog 85 = some 48 := by kernel_rfl
theorem tz85 : tzero Try.prog 85 = some (Value.agg #[(Value.int IntKind.u64 0), (Value.int IntKind.u64 0), (Value.int IntKind.u32 0), (Value.int IntKind.u8 0), (Value.int IntKind.u8 0), (Value.int IntKind.u8 0), (Value.int IntKind.u8 0), Value.nilFunc, (Value.pointer none), (Value.int IntKind.i32 0), (Value.int IntKind.i32 0)]) := by kernel_rfl
theorem fo85_0 : fieldOff Try.prog 85 0 = some 0 := by kernel_rfl
theorem fo85_1 : fieldOff Try.prog 85 1 = some 1 := by kernel_rfl
theorem fo85_2 : fieldOff Try.prog 85 2 = some 2 := by kernel_rfl
theorem fo85_3 : fieldOff Try.prog 85 3 = some 3 := by kernel_rfl
theorem fo85_4 : fieldOff Try.prog 85 4 = some 4 := by kernel_rfl
theorem fo85_5 : fieldOff Try.prog 85 5 = some 5 := by kernel_rfl
theorem fo85_6 : fieldOff Try.prog 85 6 = some 6 := by kernel_rfl
theorem fo85_7 : fieldOff Try.prog 85 7 = some 7 := by kernel_rfl
theorem fo85_8 : fieldOff Try.prog 85 8 = some 8 := by kernel_rfl
theorem fo85_9 : fieldOff Try.prog 85 9 = some 9 := by kernel_rfl
theorem fo85_10 : fieldOff Try.prog 85 10 = some 10 := by kernel_rfl
theorem tsz86 : tsz Try.prog 86 = some 1 := by kernel_rfl
theorem tby86 : tby Try.prog 86 = some 8 := by kernel_rfl
theorem tz86 : tzero Try.prog 86 = some (Value.pointer none) := by kernel_rfl
theorem en4 : Enters Try.prog 4 := Enters.of Try.func4 (by kernel_rfl) (by kernel_rfl)
theorem en7 : Enters Try.prog 7 := Enters.of Try.func7 (by kernel_rfl) (by kernel_rfl)
theorem en8 : Enters Try.prog 8 := Enters.of Try.func8 (by kernel_rfl) (by kernel_rfl)
theorem en9 : Enters Try.prog 9 := Enters.of Try.func9 (by kernel_rfl) (by kernel_rfl)
theorem en10 : Enters Try.prog 10 := Enters.of Try.func10 (by kernel_rfl) (by kernel_rfl)
theorem en12 : Enters Try.prog 12 := Enters.of Try.func12 (by kernel_rfl) (by kernel_rfl)
theorem en13 : Enters Try.prog 13 := Enters.of Try.func13 (by kernel_rfl) (by kernel_rfl)
theorem en14 : Enters Try.prog 14 := Enters.of Try.func14 (by kernel_rfl) (by kernel_rfl)
theorem en15 : Enters Try.prog 15 := Enters.of Try.func15 (by kernel_rfl) (by kernel_rfl)
theorem en16 : Enters Try.prog 16 := Enters.of Try.func16 (by kernel_rfl) (by kernel_rfl)
theorem en17 : Enters Try.prog 17 := Enters.of Try.func17 (by kernel_rfl) (by kernel_rfl)
theorem en18 : Enters Try.prog 18 := Enters.of Try.func18 (by kernel_rfl) (by kernel_rfl)
theorem en19 : Enters Try.prog 19 := Enters.of Try.func19 (by kernel_rfl) (by kernel_rfl)
theorem en20 : Enters Try.prog 20 := Enters.of Try.func20 (by kernel_rfl) (by kernel_rfl)
theorem en22 : Enters Try.prog 22 := Enters.of Try.func22 (by kernel_rfl) (by kernel_rfl)
theorem en23 : Enters Try.prog 23 := Enters.of Try.func23 (by kernel_rfl) (by kernel_rfl)
theorem en24 : Enters Try.prog 24 := Enters.of Try.func24 (by kernel_rfl) (by kernel_rfl)
theorem en25 : Enters Try.prog 25 := Enters.of Try.func25 (by kernel_rfl) (by kernel_rfl)
theorem en26 : Enters Try.prog 26 := Enters.of Try.func26 (by kernel_rfl) (by kernel_rfl)
theorem en27 : Enters Try.prog 27 := Enters.of Try.func27 (by kernel_rfl) (by kernel_rfl)
theorem en28 : Enters Try.prog 28 := Enters.of Try.func28 (by kernel_rfl) (by kernel_rfl)
theorem en29 : Enters Try.prog 29 := Enters.of Try.func29 (by kernel_rfl) (by kernel_rfl)
theorem en30 : Enters Try.prog 30 := Enters.of Try.func30 (by kernel_rfl) (by kernel_rfl)
theorem en31 : Enters Try.prog 31 := Enters.of Try.func31 (by kernel_rfl) (by kernel_rfl)
theorem en32 : Enters Try.prog 32 := Enters.of Try.func32 (by kernel_rfl) (by kernel_rfl)
theorem en33 : Enters Try.prog 33 := Enters.of Try.func33 (by kernel_rfl) (by kernel_rfl)
theorem en34 : Enters Try.prog 34 := Enters.of Try.func34 (by kernel_rfl) (by kernel_rfl)
theorem en35 : Enters Try.prog 35 := Enters.of Try.func35 (by kernel_rfl) (by kernel_rfl)
theorem en36 : Enters Try.prog 36 := Enters.of Try.func36 (by kernel_rfl) (by kernel_rfl)
theorem en37 : Enters Try.prog 37 := Enters.of Try.func37 (by kernel_rfl) (by kernel_rfl)
theorem en38 : Enters Try.prog 38 := Enters.of Try.func38 (by kernel_rfl) (by kernel_rfl)
theorem en39 : Enters Try.prog 39 := Enters.of Try.func39 (by kernel_rfl) (by kernel_rfl)
theorem en40 : Enters Try.prog 40 := Enters.of Try.func40 (by kernel_rfl) (by kernel_rfl)
theorem en42 : Enters Try.prog 42 := Enters.of Try.func42 (by kernel_rfl) (by kernel_rfl)
theorem en43 : Enters Try.prog 43 := Enters.of Try.func43 (by kernel_rfl) (by kernel_rfl)
theorem en44 : Enters Try.prog 44 := Enters.of Try.func44 (by kernel_rfl) (by kernel_rfl)
theorem en45 : Enters Try.prog 45 := Enters.of Try.func45 (by kernel_rfl) (by kernel_rfl)
theorem mixed : Try.prog.follows .mixedOrders = true := by kernel_rfl
end Go.Proofs.Ytmcdlohjjbmimaa
