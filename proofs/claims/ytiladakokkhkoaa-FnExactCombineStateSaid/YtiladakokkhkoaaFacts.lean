/- What the tables of the program say of its types and functions, looked up once. -/
import Derived.Test.YtiladakokkhkoaaAvU
import Derived.Test.YtiladakokkhkoaaProg
import Derived.KernelRfl
namespace Go.Proofs.Ytiladakokkhkoaa
open Go Go.Av
theorem tsz0 : tsz Try.prog 0 = some 1 := by kernel_rfl
theorem tby0 : tby Try.prog 0 = some 0 := by kernel_rfl
theorem tz0 : tzero Try.prog 0 = some (Value.tuple #[]) := by kernel_rfl
theorem tsz1 : tsz Try.prog 1 = some 1 := by kernel_rfl
theorem tby1 : tby Try.prog 1 = some 8 := by kernel_rfl
theorem tz1 : tzero Try.prog 1 = some Value.nilFunc := by kernel_rfl
theorem tsz2 : tsz Try.prog 2 = some 1 := by kernel_rfl
theorem tby2 : tby Try.prog 2 = some 8 := by kernel_rfl
theorem tz2 : tzero Try.prog 2 = some (Value.int IntKind.i64 0) := by kernel_rfl
theorem tsz3 : tsz Try.prog 3 = some 1 := by kernel_rfl
theorem tby3 : tby Try.prog 3 = some 8 := by kernel_rfl
theorem tz3 : tzero Try.prog 3 = some (Value.int IntKind.i64 0) := by kernel_rfl
theorem tsz4 : tsz Try.prog 4 = some 1 := by kernel_rfl
theorem tby4 : tby Try.prog 4 = some 1 := by kernel_rfl
theorem tz4 : tzero Try.prog 4 = some (Value.bool false) := by kernel_rfl
theorem tsz5 : tsz Try.prog 5 = some 1 := by kernel_rfl
theorem tby5 : tby Try.prog 5 = some 1 := by kernel_rfl
theorem tz5 : tzero Try.prog 5 = some (Value.int IntKind.u8 0) := by kernel_rfl
theorem tsz6 : tsz Try.prog 6 = some 1 := by kernel_rfl
theorem tby6 : tby Try.prog 6 = some 1 := by kernel_rfl
theorem tz6 : tzero Try.prog 6 = some (Value.int IntKind.u8 0) := by kernel_rfl
theorem tsz7 : tsz Try.prog 7 = some 4 := by kernel_rfl
theorem tby7 : tby Try.prog 7 = some 24 := by kernel_rfl
theorem tz7 : tzero Try.prog 7 = some (Value.agg #[(Value.int IntKind.i64 0), (Value.int IntKind.i64 0), (Value.bool false), (Value.int IntKind.u8 0)]) := by kernel_rfl
theorem fo7_0 : fieldOff Try.prog 7 0 = some 0 := by kernel_rfl
theorem fo7_1 : fieldOff Try.prog 7 1 = some 1 := by kernel_rfl
theorem fo7_2 : fieldOff Try.prog 7 2 = some 2 := by kernel_rfl
theorem fo7_3 : fieldOff Try.prog 7 3 = some 3 := by kernel_rfl
theorem tsz8 : tsz Try.prog 8 = some 4 := by kernel_rfl
theorem tby8 : tby Try.prog 8 = some 24 := by kernel_rfl
theorem tz8 : tzero Try.prog 8 = some (Value.agg #[(Value.int IntKind.i64 0), (Value.int IntKind.i64 0), (Value.bool false), (Value.int IntKind.u8 0)]) := by kernel_rfl
theorem fo8_0 : fieldOff Try.prog 8 0 = some 0 := by kernel_rfl
theorem fo8_1 : fieldOff Try.prog 8 1 = some 1 := by kernel_rfl
theorem fo8_2 : fieldOff Try.prog 8 2 = some 2 := by kernel_rfl
theorem fo8_3 : fieldOff Try.prog 8 3 = some 3 := by kernel_rfl
theorem tsz9 : tsz Try.prog 9 = some 1 := by kernel_rfl
theorem tby9 : tby Try.prog 9 = some 16 := by kernel_rfl
theorem tsz10 : tsz Try.prog 10 = some 1 := by kernel_rfl
theorem tby10 : tby Try.prog 10 = some 16 := by kernel_rfl
theorem tsz12 : tsz Try.prog 12 = some 1 := by kernel_rfl
theorem tby12 : tby Try.prog 12 = some 8 := by kernel_rfl
theorem tz12 : tzero Try.prog 12 = some (Value.int IntKind.u64 0) := by kernel_rfl
theorem tsz16 : tsz Try.prog 16 = some 1 := by kernel_rfl
theorem tby16 : tby Try.prog 16 = some 8 := by kernel_rfl
theorem tz16 : tzero Try.prog 16 = some (Value.pointer none) := by kernel_rfl
theorem tsz17 : tsz Try.prog 17 = some 1 := by kernel_rfl
theorem tby17 : tby Try.prog 17 = some 8 := by kernel_rfl
theorem tz17 : tzero Try.prog 17 = some (Value.pointer none) := by kernel_rfl
theorem tsz20 : tsz Try.prog 20 = some 1 := by kernel_rfl
theorem tby20 : tby Try.prog 20 = some 16 := by kernel_rfl
theorem tz20 : tzero Try.prog 20 = some Value.nilIface := by kernel_rfl
theorem tsz21 : tsz Try.prog 21 = some 1 := by kernel_rfl
theorem tby21 : tby Try.prog 21 = some 4 := by kernel_rfl
theorem tz21 : tzero Try.prog 21 = some (Value.int IntKind.i32 0) := by kernel_rfl
theorem tsz22 : tsz Try.prog 22 = some 3 := by kernel_rfl
theorem tby22 : tby Try.prog 22 = some 24 := by kernel_rfl
theorem tz22 : tzero Try.prog 22 = some (Value.agg #[(Value.int IntKind.i64 0), (Value.int IntKind.i64 0), (Value.int IntKind.i64 0)]) := by kernel_rfl
theorem peq22 : plainEq Try.prog 22 = true := by kernel_rfl
theorem fo22_0 : fieldOff Try.prog 22 0 = some 0 := by kernel_rfl
theorem fo22_1 : fieldOff Try.prog 22 1 = some 1 := by kernel_rfl
theorem fo22_2 : fieldOff Try.prog 22 2 = some 2 := by kernel_rfl
theorem tsz23 : tsz Try.prog 23 = some 3 := by kernel_rfl
theorem tby23 : tby Try.prog 23 = some 24 := by kernel_rfl
theorem tz23 : tzero Try.prog 23 = some (Value.agg #[(Value.int IntKind.i64 0), (Value.int IntKind.i64 0), (Value.int IntKind.i64 0)]) := by kernel_rfl
theorem peq23 : plainEq Try.prog 23 = true := by kernel_rfl
theorem fo23_0 : fieldOff Try.prog 23 0 = some 0 := by kernel_rfl
theorem fo23_1 : fieldOff Try.prog 23 1 = some 1 := by kernel_rfl
theorem fo23_2 : fieldOff Try.prog 23 2 = some 2 := by kernel_rfl
theorem tsz24 : tsz Try.prog 24 = some 1 := by kernel_rfl
theorem tby24 : tby Try.prog 24 = some 24 := by kernel_rfl
theorem tz24 : tzero Try.prog 24 = some (Value.slice none 0 0) := by kernel_rfl
theorem tsz25 : tsz Try.prog 25 = some 1 := by kernel_rfl
theorem tby25 : tby Try.prog 25 = some 24 := by kernel_rfl
theorem tz25 : tzero Try.prog 25 = some (Value.slice none 0 0) := by kernel_rfl
theorem tsz26 : tsz Try.prog 26 = some 1 := by kernel_rfl
theorem tby26 : tby Try.prog 26 = some 24 := by kernel_rfl
theorem tz26 : tzero Try.prog 26 = some (Value.slice none 0 0) := by kernel_rfl
theorem tsz27 : tsz Try.prog 27 = some 4 := by kernel_rfl
theorem tby27 : tby Try.prog 27 = some 80 := by kernel_rfl
theorem tz27 : tzero Try.prog 27 = some (Value.agg #[(Value.int IntKind.i64 0), (Value.slice none 0 0), (Value.slice none 0 0), (Value.slice none 0 0)]) := by kernel_rfl
theorem fo27_0 : fieldOff Try.prog 27 0 = some 0 := by kernel_rfl
theorem fo27_1 : fieldOff Try.prog 27 1 = some 1 := by kernel_rfl
theorem fo27_2 : fieldOff Try.prog 27 2 = some 2 := by kernel_rfl
theorem fo27_3 : fieldOff Try.prog 27 3 = some 3 := by kernel_rfl
theorem tsz28 : tsz Try.prog 28 = some 4 := by kernel_rfl
theorem tby28 : tby Try.prog 28 = some 80 := by kernel_rfl
theorem tz28 : tzero Try.prog 28 = some (Value.agg #[(Value.int IntKind.i64 0), (Value.slice none 0 0), (Value.slice none 0 0), (Value.slice none 0 0)]) := by kernel_rfl
theorem fo28_0 : fieldOff Try.prog 28 0 = some 0 := by kernel_rfl
theorem fo28_1 : fieldOff Try.prog 28 1 = some 1 := by kernel_rfl
theorem fo28_2 : fieldOff Try.prog 28 2 = some 2 := by kernel_rfl
theorem fo28_3 : fieldOff Try.prog 28 3 = some 3 := by kernel_rfl
theorem tsz30 : tsz Try.prog 30 = some 1 := by kernel_rfl
theorem tby30 : tby Try.prog 30 = some 24 := by kernel_rfl
theorem tz30 : tzero Try.prog 30 = some (Value.slice none 0 0) := by kernel_rfl
theorem tsz31 : tsz Try.prog 31 = some 4 := by kernel_rfl
theorem tby31 : tby Try.prog 31 = some 80 := by kernel_rfl
theorem tz31 : tzero Try.prog 31 = some (Value.agg #[(Value.int IntKind.i64 0), (Value.slice none 0 0), (Value.slice none 0 0), (Value.slice none 0 0)]) := by kernel_rfl
theorem fo31_0 : fieldOff Try.prog 31 0 = some 0 := by kernel_rfl
theorem fo31_1 : fieldOff Try.prog 31 1 = some 1 := by kernel_rfl
theorem fo31_2 : fieldOff Try.prog 31 2 = some 2 := by kernel_rfl
theorem fo31_3 : fieldOff Try.prog 31 3 = some 3 := by kernel_rfl
theorem tsz32 : tsz Try.prog 32 = some 4 := by kernel_rfl
theorem tby32 : tby Try.prog 32 = some 80 := by kernel_rfl
theorem tz32 : tzero Try.prog 32 = some (Value.agg #[(Value.int IntKind.i64 0), (Value.slice none 0 0), (Value.slice none 0 0), (Value.slice none 0 0)]) := by kernel_rfl
theorem fo32_0 : fieldOff Try.prog 32 0 = some 0 := by kernel_rfl
theorem fo32_1 : fieldOff Try.prog 32 1 = some 1 := by kernel_rfl
theorem fo32_2 : fieldOff Try.prog 32 2 = some 2 := by kernel_rfl
theorem fo32_3 : fieldOff Try.prog 32 3 = some 3 := by kernel_rfl
theorem tsz34 : tsz Try.prog 34 = some 3 := by kernel_rfl
theorem tby34 : tby Try.prog 34 = some 24 := by kernel_rfl
theorem tz34 : tzero Try.prog 34 = some (Value.agg #[(Value.int IntKind.i64 0), (Value.int IntKind.i64 0), (Value.int IntKind.i64 0)]) := by kernel_rfl
theorem peq34 : plainEq Try.prog 34 = true := by kernel_rfl
theorem fo34_0 : fieldOff Try.prog 34 0 = some 0 := by kernel_rfl
theorem fo34_1 : fieldOff Try.prog 34 1 = some 1 := by kernel_rfl
theorem fo34_2 : fieldOff Try.prog 34 2 = some 2 := by kernel_rfl
theorem tsz40 : tsz Try.prog 40 = some 1 := by kernel_rfl
theorem tby40 : tby Try.prog 40 = some 8 := by kernel_rfl
theorem tz40 : tzero Try.prog 40 = some Value.nilFunc := by kernel_rfl
theorem tsz44 : tsz Try.prog 44 = some 1 := by kernel_rfl
theorem tby44 : tby Try.prog 44 = some 8 := by kernel_rfl
theorem tz44 : tzero Try.prog 44 = some Value.nilFunc := by kernel_rfl
theorem tsz56 : tsz Try.prog 56 = some 1 := by kernel_rfl
theorem tby56 : tby Try.prog 56 = some 8 := by kernel_rfl
theorem tz56 : tzero Try.prog 56 = some Value.nilFunc := by kernel_rfl
theorem tsz58 : tsz Try.prog 58 = some 3 := by kernel_rfl
theorem tby58 : tby Try.prog 58 = some 24 := by kernel_rfl
theorem tz58 : tzero Try.prog 58 = some (Value.agg #[(Value.int IntKind.i64 0), (Value.int IntKind.i64 0), (Value.int IntKind.i64 0)]) := by kernel_rfl
theorem peq58 : plainEq Try.prog 58 = true := by kernel_rfl
theorem fo58_0 : fieldOff Try.prog 58 0 = some 0 := by kernel_rfl
theorem fo58_1 : fieldOff Try.prog 58 1 = some 1 := by kernel_rfl
theorem fo58_2 : fieldOff Try.prog 58 2 = some 2 := by kernel_rfl
theorem tsz59 : tsz Try.prog 59 = some 3 := by kernel_rfl
theorem tby59 : tby Try.prog 59 = some 24 := by kernel_rfl
theorem tz59 : tzero Try.prog 59 = some (Value.agg #[(Value.int IntKind.i64 0), (Value.int IntKind.i64 0), (Value.int IntKind.i64 0)]) := by kernel_rfl
theorem peq59 : plainEq Try.prog 59 = true := by kernel_rfl
theorem fo59_0 : fieldOff Try.prog 59 0 = some 0 := by kernel_rfl
theorem fo59_1 : fieldOff Try.prog 59 1 = some 1 := by kernel_rfl
theorem fo59_2 : fieldOff Try.prog 59 2 = some 2 := by kernel_rfl
theorem tsz63 : tsz Try.prog 63 = some 3 := by kernel_rfl
theorem tby63 : tby Try.prog 63 = some 24 := by kernel_rfl
theorem tz63 : tzero Try.prog 63 = some (Value.agg #[(Value.int IntKind.i64 0), (Value.int IntKind.i64 0), (Value.int IntKind.i64 0)]) := by kernel_rfl
theorem peq63 : plainEq Try.prog 63 = true := by kernel_rfl
theorem fo63_0 : fieldOff Try.prog 63 0 = some 0 := by kernel_rfl
theorem fo63_1 : fieldOff Try.prog 63 1 = some 1 := by kernel_rfl
theorem fo63_2 : fieldOff Try.prog 63 2 = some 2 := by kernel_rfl
theorem tsz67 : tsz Try.prog 67 = some 1 := by kernel_rfl
theorem tby67 : tby Try.prog 67 = some 8 := by kernel_rfl
theorem tz67 : tzero Try.prog 67 = some (Value.map none) := by kernel_rfl
theorem tsz70 : tsz Try.prog 70 = some 1 := by kernel_rfl
theorem tby70 : tby Try.prog 70 = some 8 := by kernel_rfl
theorem tz70 : tzero Try.prog 70 = some Value.nilFunc := by kernel_rfl
theorem tsz74 : tsz Try.prog 74 = some 1 := by kernel_rfl
theorem tby74 : tby Try.prog 74 = some 8 := by kernel_rfl
theorem tz74 : tzero Try.prog 74 = some (Value.int IntKind.u64 0) := by kernel_rfl
theorem tsz79 : tsz Try.prog 79 = some 1 := by kernel_rfl
theorem tby79 : tby Try.prog 79 = some 8 := by kernel_rfl
theorem tz79 : tzero Try.prog 79 = some (Value.int IntKind.i64 0) := by kernel_rfl
theorem tsz80 : tsz Try.prog 80 = some 1 := by kernel_rfl
theorem tby80 : tby Try.prog 80 = some 0 := by kernel_rfl
theorem tz80 : tzero Try.prog 80 = some (Value.tuple #[(Value.int IntKind.i64 0), (Value.int IntKind.i64 0)]) := by kernel_rfl
theorem tsz85 : tsz Try.prog 85 = some 1 := by kernel_rfl
theorem tby85 : tby Try.prog 85 = some 0 := by kernel_rfl
theorem tz85 : tzero Try.prog 85 = some (Value.tuple #[(Value.int IntKind.i64 0), (Value.bool false)]) := by kernel_rfl
theorem tsz88 : tsz Try.prog 88 = some 1 := by kernel_rfl
theorem tby88 : tby Try.prog 88 = some 4 := by kernel_rfl
theorem tz88 : tzero Try.prog 88 = some (Value.int IntKind.u32 0) := by kernel_rfl
theorem tsz90 : tsz Try.prog 90 = some 1 := by kernel_rfl
theorem tby90 : tby Try.prog 90 = some 8 := by kernel_rfl
theorem tz90 : tzero Try.prog 90 = some (Value.int IntKind.u64 0) := by kernel_rfl
theorem tsz96 : tsz Try.prog 96 = some 1 := by kernel_rfl
theorem tby96 : tby Try.prog 96 = some 8 := by kernel_rfl
theorem tz96 : tzero Try.prog 96 = some (Value.int IntKind.u64 0) := by kernel_rfl
theorem tsz100 : tsz Try.prog 100 = some 1 := by kernel_rfl
theorem tby100 : tby Try.prog 100 = some 8 := by kernel_rfl
theorem tz100 : tzero Try.prog 100 = some (Value.pointer none) := by kernel_rfl
theorem tsz104 : tsz Try.prog 104 = some 1 := by kernel_rfl
theorem tby104 : tby Try.prog 104 = some 8 := by kernel_rfl
theorem tz104 : tzero Try.prog 104 = some (Value.pointer none) := by kernel_rfl
theorem tsz105 : tsz Try.prog 105 = some 1 := by kernel_rfl
theorem tby105 : tby Try.prog 105 = some 0 := by kernel_rfl
theorem tz105 : tzero Try.prog 105 = some (Value.tuple #[(Value.int IntKind.i64 0), (Value.int IntKind.i64 0)]) := by kernel_rfl
theorem tsz111 : tsz Try.prog 111 = some 0 := by kernel_rfl
theorem tby111 : tby Try.prog 111 = some 0 := by kernel_rfl
theorem tz111 : tzero Try.prog 111 = some (Value.agg #[]) := by kernel_rfl
theorem tsz112 : tsz Try.prog 112 = some 0 := by kernel_rfl
theorem tby112 : tby Try.prog 112 = some 0 := by kernel_rfl
theorem tz112 : tzero Try.prog 112 = some (Value.agg #[]) := by kernel_rfl
theorem tsz113 : tsz Try.prog 113 = some 0 := by kernel_rfl
theorem tby113 : tby Try.prog 113 = some 0 := by kernel_rfl
theorem tz113 : tzero Try.prog 113 = some (Value.agg #[]) := by kernel_rfl
theorem tsz115 : tsz Try.prog 115 = some 1 := by kernel_rfl
theorem tby115 : tby Try.prog 115 = some 1 := by kernel_rfl
theorem tz115 : tzero Try.prog 115 = some (Value.int IntKind.u8 0) := by kernel_rfl
theorem tsz116 : tsz Try.prog 116 = some 1 := by kernel_rfl
theorem tby116 : tby Try.prog 116 = some 1 := by kernel_rfl
theorem tz116 : tzero Try.prog 116 = some (Value.int IntKind.u8 0) := by kernel_rfl
theorem tsz117 : tsz Try.prog 117 = some 1 := by kernel_rfl
theorem tby117 : tby Try.prog 117 = some 8 := by kernel_rfl
theorem tz117 : tzero Try.prog 117 = some Value.nilFunc := by kernel_rfl
theorem tsz118 : tsz Try.prog 118 = some 1 := by kernel_rfl
theorem tby118 : tby Try.prog 118 = some 8 := by kernel_rfl
theorem tz118 : tzero Try.prog 118 = some (Value.pointer none) := by kernel_rfl
theorem tsz119 : tsz Try.prog 119 = some 1 := by kernel_rfl
theorem tby119 : tby Try.prog 119 = some 4 := by kernel_rfl
theorem tz119 : tzero Try.prog 119 = some (Value.int IntKind.i32 0) := by kernel_rfl
theorem tsz120 : tsz Try.prog 120 = some 1 := by kernel_rfl
theorem tby120 : tby Try.prog 120 = some 4 := by kernel_rfl
theorem tz120 : tzero Try.prog 120 = some (Value.int IntKind.i32 0) := by kernel_rfl
theorem tsz121 : tsz Try.prog 121 = some 11 := by kernel_rfl
theorem tby121 : tby Try.prog 121 = some 48 := by kernel_rfl
theorem tz121 : tzero Try.prog 121 = some (Value.agg #[(Value.int IntKind.u64 0), (Value.int IntKind.u64 0), (Value.int IntKind.u32 0), (Value.int IntKind.u8 0), (Value.int IntKind.u8 0), (Value.int IntKind.u8 0), (Value.int IntKind.u8 0), Value.nilFunc, (Value.pointer none), (Value.int IntKind.i32 0), (Value.int IntKind.i32 0)]) := by kernel_rfl
theorem fo121_0 : fieldOff Try.prog 121 0 = some 0 := by kernel_rfl
theorem fo121_1 : fieldOff Try.prog 121 1 = some 1 := by kernel_rfl
theorem fo121_2 : fieldOff Try.prog 121 2 = some 2 := by kernel_rfl
theorem fo121_3 : fieldOff Try.prog 121 3 = some 3 := by kernel_rfl
theorem fo121_4 : fieldOff Try.prog 121 4 = some 4 := by kernel_rfl
theorem fo121_5 : fieldOff Try.prog 121 5 = some 5 := by kernel_rfl
theorem fo121_6 : fieldOff Try.prog 121 6 = some 6 := by kernel_rfl
theorem fo121_7 : fieldOff Try.prog 121 7 = some 7 := by kernel_rfl
theorem fo121_8 : fieldOff Try.prog 121 8 = some 8 := by kernel_rfl
theorem fo121_9 : fieldOff Try.prog 121 9 = some 9 := by kernel_rfl
theorem fo121_10 : fieldOff Try.prog 121 10 = some 10 := by kernel_rfl
theorem tsz122 : tsz Try.prog 122 = some 11 := by kernel_rfl
theorem tby122 : tby Try.prog 122 = some 48 := by kernel_rfl
theorem tz122 : tzero Try.prog 122 = some (Value.agg #[(Value.int IntKind.u64 0), (Value.int IntKind.u64 0), (Value.int IntKind.u32 0), (Value.int IntKind.u8 0), (Value.int IntKind.u8 0), (Value.int IntKind.u8 0), (Value.int IntKind.u8 0), Value.nilFunc, (Value.pointer none), (Value.int IntKind.i32 0), (Value.int IntKind.i32 0)]) := by kernel_rfl
theorem fo122_0 : fieldOff Try.prog 122 0 = some 0 := by kernel_rfl
theorem fo122_1 : fieldOff Try.prog 122 1 = some 1 := by kernel_rfl
theorem fo122_2 : fieldOff Try.prog 122 2 = some 2 := by kernel_rfl
theorem fo122_3 : fieldOff Try.prog 122 3 = some 3 := by kernel_rfl
theorem fo122_4 : fieldOff Try.prog 122 4 = some 4 := by kernel_rfl
theorem fo122_5 : fieldOff Try.prog 122 5 = some 5 := by kernel_rfl
theorem fo122_6 : fieldOff Try.prog 122 6 = some 6 := by kernel_rfl
theorem fo122_7 : fieldOff Try.prog 122 7 = some 7 := by kernel_rfl
theorem fo122_8 : fieldOff Try.prog 122 8 = some 8 := by kernel_rfl
theorem fo122_9 : fieldOff Try.prog 122 9 = some 9 := by kernel_rfl
theorem fo122_10 : fieldOff Try.prog 122 10 = some 10 := by kernel_rfl
theorem tsz123 : tsz Try.prog 123 = some 1 := by kernel_rfl
theorem tby123 : tby Try.prog 123 = some 8 := by kernel_rfl
theorem tz123 : tzero Try.prog 123 = some (Value.pointer none) := by kernel_rfl
theorem en3 : Enters Try.prog 3 := Enters.of Try.func3 (by kernel_rfl) (by kernel_rfl)
theorem en4 : Enters Try.prog 4 := Enters.of Try.func4 (by kernel_rfl) (by kernel_rfl)
theorem en5 : Enters Try.prog 5 := Enters.of Try.func5 (by kernel_rfl) (by kernel_rfl)
theorem en6 : Enters Try.prog 6 := Enters.of Try.func6 (by kernel_rfl) (by kernel_rfl)
theorem en7 : Enters Try.prog 7 := Enters.of Try.func7 (by kernel_rfl) (by kernel_rfl)
theorem en8 : Enters Try.prog 8 := Enters.of Try.func8 (by kernel_rfl) (by kernel_rfl)
theorem en9 : Enters Try.prog 9 := Enters.of Try.func9 (by kernel_rfl) (by kernel_rfl)
theorem en10 : Enters Try.prog 10 := Enters.of Try.func10 (by kernel_rfl) (by kernel_rfl)
theorem en11 : Enters Try.prog 11 := Enters.of Try.func11 (by kernel_rfl) (by kernel_rfl)
theorem en12 : Enters Try.prog 12 := Enters.of Try.func12 (by kernel_rfl) (by kernel_rfl)
theorem en13 : Enters Try.prog 13 := Enters.of Try.func13 (by kernel_rfl) (by kernel_rfl)
theorem en14 : Enters Try.prog 14 := Enters.of Try.func14 (by kernel_rfl) (by kernel_rfl)
theorem en15 : Enters Try.prog 15 := Enters.of Try.func15 (by kernel_rfl) (by kernel_rfl)
theorem en16 : Enters Try.prog 16 := Enters.of Try.func16 (by kernel_rfl) (by kernel_rfl)
theorem en17 : Enters Try.prog 17 := Enters.of Try.func17 (by kernel_rfl) (by kernel_rfl)
theorem en18 : Enters Try.prog 18 := Enters.of Try.func18 (by kernel_rfl) (by kernel_rfl)
theorem en19 : Enters Try.prog 19 := Enters.of Try.func19 (by kernel_rfl) (by kernel_rfl)
theorem en20 : Enters Try.prog 20 := Enters.of Try.func20 (by kernel_rfl) (by kernel_rfl)
theorem en21 : Enters Try.prog 21 := Enters.of Try.func21 (by kernel_rfl) (by kernel_rfl)
theorem en22 : Enters Try.prog 22 := Enters.of Try.func22 (by kernel_rfl) (by kernel_rfl)
theorem en23 : Enters Try.prog 23 := Enters.of Try.func23 (by kernel_rfl) (by kernel_rfl)
theorem en24 : Enters Try.prog 24 := Enters.of Try.func24 (by kernel_rfl) (by kernel_rfl)
theorem en25 : Enters Try.prog 25 := Enters.of Try.func25 (by kernel_rfl) (by kernel_rfl)
theorem en26 : Enters Try.prog 26 := Enters.of Try.func26 (by kernel_rfl) (by kernel_rfl)
theorem en27 : Enters Try.prog 27 := Enters.of Try.func27 (by kernel_rfl) (by kernel_rfl)
theorem en28 : Enters Try.prog 28 := Enters.of Try.func28 (by kernel_rfl) (by kernel_rfl)
theorem en29 : Enters Try.prog 29 := Enters.of Try.func29 (by kernel_rfl) (by kernel_rfl)
theorem en30 : Enters Try.prog 30 := Enters.of Try.func30 (by kernel_rfl) (by kernel_rfl)
theorem en31 : Enters Try.prog 31 := Enters.of Try.func31 (by kernel_rfl) (by kernel_rfl)
theorem en32 : Enters Try.prog 32 := Enters.of Try.func32 (by kernel_rfl) (by kernel_rfl)
theorem en33 : Enters Try.prog 33 := Enters.of Try.func33 (by kernel_rfl) (by kernel_rfl)
theorem en34 : Enters Try.prog 34 := Enters.of Try.func34 (by kernel_rfl) (by kernel_rfl)
theorem en35 : Enters Try.prog 35 := Enters.of Try.func35 (by kernel_rfl) (by kernel_rfl)
theorem en36 : Enters Try.prog 36 := Enters.of Try.func36 (by kernel_rfl) (by kernel_rfl)
theorem en37 : Enters Try.prog 37 := Enters.of Try.func37 (by kernel_rfl) (by kernel_rfl)
theorem en38 : Enters Try.prog 38 := Enters.of Try.func38 (by kernel_rfl) (by kernel_rfl)
theorem en39 : Enters Try.prog 39 := Enters.of Try.func39 (by kernel_rfl) (by kernel_rfl)
theorem en40 : Enters Try.prog 40 := Enters.of Try.func40 (by kernel_rfl) (by kernel_rfl)
theorem en41 : Enters Try.prog 41 := Enters.of Try.func41 (by kernel_rfl) (by kernel_rfl)
theorem en42 : Enters Try.prog 42 := Enters.of Try.func42 (by kernel_rfl) (by kernel_rfl)
theorem en43 : Enters Try.prog 43 := Enters.of Try.func43 (by kernel_rfl) (by kernel_rfl)
theorem en44 : Enters Try.prog 44 := Enters.of Try.func44 (by kernel_rfl) (by kernel_rfl)
theorem en45 : Enters Try.prog 45 := Enters.of Try.func45 (by kernel_rfl) (by kernel_rfl)
theorem en46 : Enters Try.prog 46 := Enters.of Try.func46 (by kernel_rfl) (by kernel_rfl)
theorem en47 : Enters Try.prog 47 := Enters.of Try.func47 (by kernel_rfl) (by kernel_rfl)
theorem en48 : Enters Try.prog 48 := Enters.of Try.func48 (by kernel_rfl) (by kernel_rfl)
theorem en49 : Enters Try.prog 49 := Enters.of Try.func49 (by kernel_rfl) (by kernel_rfl)
theorem en50 : Enters Try.prog 50 := Enters.of Try.func50 (by kernel_rfl) (by kernel_rfl)
theorem en51 : Enters Try.prog 51 := Enters.of Try.func51 (by kernel_rfl) (by kernel_rfl)
theorem en52 : Enters Try.prog 52 := Enters.of Try.func52 (by kernel_rfl) (by kernel_rfl)
theorem en53 : Enters Try.prog 53 := Enters.of Try.func53 (by kernel_rfl) (by kernel_rfl)
theorem en54 : Enters Try.prog 54 := Enters.of Try.func54 (by kernel_rfl) (by kernel_rfl)
theorem en55 : Enters Try.prog 55 := Enters.of Try.func55 (by kernel_rfl) (by kernel_rfl)
theorem en56 : Enters Try.prog 56 := Enters.of Try.func56 (by kernel_rfl) (by kernel_rfl)
theorem en57 : Enters Try.prog 57 := Enters.of Try.func57 (by kernel_rfl) (by kernel_rfl)
theorem en58 : Enters Try.prog 58 := Enters.of Try.func58 (by kernel_rfl) (by kernel_rfl)
theorem en59 : Enters Try.prog 59 := Enters.of Try.func59 (by kernel_rfl) (by kernel_rfl)
theorem en60 : Enters Try.prog 60 := Enters.of Try.func60 (by kernel_rfl) (by kernel_rfl)
theorem en61 : Enters Try.prog 61 := Enters.of Try.func61 (by kernel_rfl) (by kernel_rfl)
theorem en62 : Enters Try.prog 62 := Enters.of Try.func62 (by kernel_rfl) (by kernel_rfl)
theorem en63 : Enters Try.prog 63 := Enters.of Try.func63 (by kernel_rfl) (by kernel_rfl)
theorem en64 : Enters Try.prog 64 := Enters.of Try.func64 (by kernel_rfl) (by kernel_rfl)
theorem en65 : Enters Try.prog 65 := Enters.of Try.func65 (by kernel_rfl) (by kernel_rfl)
theorem en66 : Enters Try.prog 66 := Enters.of Try.func66 (by kernel_rfl) (by kernel_rfl)
theorem en67 : Enters Try.prog 67 := Enters.of Try.func67 (by kernel_rfl) (by kernel_rfl)
theorem en68 : Enters Try.prog 68 := Enters.of Try.func68 (by kernel_rfl) (by kernel_rfl)
theorem en69 : Enters Try.prog 69 := Enters.of Try.func69 (by kernel_rfl) (by kernel_rfl)
theorem en70 : Enters Try.prog 70 := Enters.of Try.func70 (by kernel_rfl) (by kernel_rfl)
theorem en71 : Enters Try.prog 71 := Enters.of Try.func71 (by kernel_rfl) (by kernel_rfl)
theorem en72 : Enters Try.prog 72 := Enters.of Try.func72 (by kernel_rfl) (by kernel_rfl)
theorem en73 : Enters Try.prog 73 := Enters.of Try.func73 (by kernel_rfl) (by kernel_rfl)
theorem en74 : Enters Try.prog 74 := Enters.of Try.func74 (by kernel_rfl) (by kernel_rfl)
theorem en75 : Enters Try.prog 75 := Enters.of Try.func75 (by kernel_rfl) (by kernel_rfl)
theorem en76 : Enters Try.prog 76 := Enters.of Try.func76 (by kernel_rfl) (by kernel_rfl)
theorem en77 : Enters Try.prog 77 := Enters.of Try.func77 (by kernel_rfl) (by kernel_rfl)
theorem en78 : Enters Try.prog 78 := Enters.of Try.func78 (by kernel_rfl) (by kernel_rfl)
theorem en79 : Enters Try.prog 79 := Enters.of Try.func79 (by kernel_rfl) (by kernel_rfl)
theorem en80 : Enters Try.prog 80 := Enters.of Try.func80 (by kernel_rfl) (by kernel_rfl)
theorem en81 : Enters Try.prog 81 := Enters.of Try.func81 (by kernel_rfl) (by kernel_rfl)
theorem en82 : Enters Try.prog 82 := Enters.of Try.func82 (by kernel_rfl) (by kernel_rfl)
theorem en83 : Enters Try.prog 83 := Enters.of Try.func83 (by kernel_rfl) (by kernel_rfl)
theorem en84 : Enters Try.prog 84 := Enters.of Try.func84 (by kernel_rfl) (by kernel_rfl)
theorem en85 : Enters Try.prog 85 := Enters.of Try.func85 (by kernel_rfl) (by kernel_rfl)
theorem en86 : Enters Try.prog 86 := Enters.of Try.func86 (by kernel_rfl) (by kernel_rfl)
theorem en87 : Enters Try.prog 87 := Enters.of Try.func87 (by kernel_rfl) (by kernel_rfl)
theorem en88 : Enters Try.prog 88 := Enters.of Try.func88 (by kernel_rfl) (by kernel_rfl)
theorem en89 : Enters Try.prog 89 := Enters.of Try.func89 (by kernel_rfl) (by kernel_rfl)
theorem en90 : Enters Try.prog 90 := Enters.of Try.func90 (by kernel_rfl) (by kernel_rfl)
theorem en91 : Enters Try.prog 91 := Enters.of Try.func91 (by kernel_rfl) (by kernel_rfl)
theorem en92 : Enters Try.prog 92 := Enters.of Try.func92 (by kernel_rfl) (by kernel_rfl)
theorem mixed : Try.prog.follows .mixedOrders = true := by kernel_rfl
end Go.Proofs.Ytiladakokkhkoaa
