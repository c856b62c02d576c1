/- What the tables of the program say of its types and functions, looked up once. -/
import Derived.Test.YtbdncdmkogbdhaaAvU
import Derived.Test.YtbdncdmkogbdhaaProg
import Derived.KernelRfl
namespace Go.Proofs.Ytbdncdmkogbdhaa
open Go Go.Av
theorem tsz0 : tsz Try.prog 0 = some 1 := by kernel_rfl
theorem tby0 : tby Try.prog 0 = some 0 := by kernel_rfl
theorem tz0 : tzero Try.prog 0 = some (Value.tuple #[]) := by kernel_rfl
theorem tsz1 : tsz Try.prog 1 = some 1 := by kernel_rfl
theorem tby1 : tby Try.prog 1 = some 8 := by kernel_rfl
theorem tz1 : tzero Try.prog 1 = some Value.nilFunc := by kernel_rfl
theorem tsz2 : tsz Try.prog 2 = some 1 := by kernel_rfl
theorem tby2 : tby Try.prog 2 = some 8 := by kernel_rfl
theorem tz2 : tzero Try.prog 2 = some (Value.int IntKind.i64 0) := by kernel_rfl
theorem tsz3 : tsz Try.prog 3 = some 1 := by kernel_rfl
theorem tby3 : tby Try.prog 3 = some 8 := by kernel_rfl
theorem tz3 : tzero Try.prog 3 = some (Value.int IntKind.i64 0) := by kernel_rfl
theorem tsz4 : tsz Try.prog 4 = some 1 := by kernel_rfl
theorem tby4 : tby Try.prog 4 = some 1 := by kernel_rfl
theorem tz4 : tzero Try.prog 4 = some (Value.bool false) := by kernel_rfl
theorem tsz5 : tsz Try.prog 5 = some 1 := by kernel_rfl
theorem tby5 : tby Try.prog 5 = some 1 := by kernel_rfl
theorem tz5 : tzero Try.prog 5 = some (Value.int IntKind.u8 0) := by kernel_rfl
theorem tsz6 : tsz Try.prog 6 = some 1 := by kernel_rfl
theorem tby6 : tby Try.prog 6 = some 1 := by kernel_rfl
theorem tz6 : tzero Try.prog 6 = some (Value.int IntKind.u8 0) := by kernel_rfl
theorem tsz7 : tsz Try.prog 7 = some 4 := by kernel_rfl
theorem tby7 : tby Try.prog 7 = some 24 := by kernel_rfl
theorem tz7 : tzero Try.prog 7 = some (Value.agg #[(Value.int IntKind.i64 0), (Value.int IntKind.i64 0), (Value.bool false), (Value.int IntKind.u8 0)]) := by kernel_rfl
theorem fo7_0 : fieldOff Try.prog 7 0 = some 0 := by kernel_rfl
theorem fo7_1 : fieldOff Try.prog 7 1 = some 1 := by kernel_rfl
theorem fo7_2 : fieldOff Try.prog 7 2 = some 2 := by kernel_rfl
theorem fo7_3 : fieldOff Try.prog 7 3 = some 3 := by kernel_rfl
theorem tsz8 : tsz Try.prog 8 = some 4 := by kernel_rfl
theorem tby8 : tby Try.prog 8 = some 24 := by kernel_rfl
theorem tz8 : tzero Try.prog 8 = some (Value.agg #[(Value.int IntKind.i64 0), (Value.int IntKind.i64 0), (Value.bool false), (Value.int IntKind.u8 0)]) := by kernel_rfl
theorem fo8_0 : fieldOff Try.prog 8 0 = some 0 := by kernel_rfl
theorem fo8_1 : fieldOff Try.prog 8 1 = some 1 := by kernel_rfl
theorem fo8_2 : fieldOff Try.prog 8 2 = some 2 := by kernel_rfl
theorem fo8_3 : fieldOff Try.prog 8 3 = some 3 := by kernel_rfl
theorem tsz9 : tsz Try.prog 9 = some 1 := by kernel_rfl
theorem tby9 : tby Try.prog 9 = some 16 := by kernel_rfl
theorem tsz10 : tsz Try.prog 10 = some 1 := by kernel_rfl
theorem tby10 : tby Try.prog 10 = some 16 := by kernel_rfl
theorem tsz12 : tsz Try.prog 12 = some 1 := by kernel_rfl
theorem tby12 : tby Try.prog 12 = some 8 := by kernel_rfl
theorem tz12 : tzero Try.prog 12 = some (Value.int IntKind.u64 0) := by kernel_rfl
theorem tsz16 : tsz Try.prog 16 = some 1 := by kernel_rfl
theorem tby16 : tby Try.prog 16 = some 8 := by kernel_rfl
theorem tz16 : tzero Try.prog 16 = some (Value.pointer none) := by kernel_rfl
theorem tsz17 : tsz Try.prog 17 = some 1 := by kernel_rfl
theorem tby17 : tby Try.prog 17 = some 8 := by kernel_rfl
theorem tz17 : tzero Try.prog 17 = some (Value.pointer none) := by kernel_rfl
theorem tsz20 : tsz Try.prog 20 = some 1 := by kernel_rfl
theorem tby20 : tby Try.prog 20 = some 16 := by kernel_rfl
theorem tz20 : tzero Try.prog 20 = some Value.nilIface := by kernel_rfl
theorem tsz21 : tsz Try.prog 21 = some 1 := by kernel_rfl
theorem tby21 : tby Try.prog 21 = some 4 := by kernel_rfl
theorem tz21 : tzero Try.prog 21 = some (Value.int IntKind.i32 0) := by kernel_rfl
theorem tsz22 : tsz Try.prog 22 = some 1 := by kernel_rfl
theorem tby22 : tby Try.prog 22 = some 24 := by kernel_rfl
theorem tz22 : tzero Try.prog 22 = some (Value.slice none 0 0) := by kernel_rfl
theorem tsz23 : tsz Try.prog 23 = some 1 := by kernel_rfl
theorem tby23 : tby Try.prog 23 = some 24 := by kernel_rfl
theorem tz23 : tzero Try.prog 23 = some (Value.slice none 0 0) := by kernel_rfl
theorem tsz24 : tsz Try.prog 24 = some 2 := by kernel_rfl
theorem tby24 : tby Try.prog 24 = some 32 := by kernel_rfl
theorem tz24 : tzero Try.prog 24 = some (Value.agg #[(Value.int IntKind.i64 0), (Value.slice none 0 0)]) := by kernel_rfl
theorem fo24_0 : fieldOff Try.prog 24 0 = some 0 := by kernel_rfl
theorem fo24_1 : fieldOff Try.prog 24 1 = some 1 := by kernel_rfl
theorem tsz25 : tsz Try.prog 25 = some 2 := by kernel_rfl
theorem tby25 : tby Try.prog 25 = some 32 := by kernel_rfl
theorem tz25 : tzero Try.prog 25 = some (Value.agg #[(Value.int IntKind.i64 0), (Value.slice none 0 0)]) := by kernel_rfl
theorem fo25_0 : fieldOff Try.prog 25 0 = some 0 := by kernel_rfl
theorem fo25_1 : fieldOff Try.prog 25 1 = some 1 := by kernel_rfl
theorem tsz26 : tsz Try.prog 26 = some 1 := by kernel_rfl
theorem tby26 : tby Try.prog 26 = some 0 := by kernel_rfl
theorem tz26 : tzero Try.prog 26 = some (Value.tuple #[(Value.agg #[(Value.int IntKind.i64 0), (Value.slice none 0 0)]), (Value.int IntKind.i64 0)]) := by kernel_rfl
theorem tsz28 : tsz Try.prog 28 = some 1 := by kernel_rfl
theorem tby28 : tby Try.prog 28 = some 24 := by kernel_rfl
theorem tz28 : tzero Try.prog 28 = some (Value.slice none 0 0) := by kernel_rfl
theorem tsz32 : tsz Try.prog 32 = some 1 := by kernel_rfl
theorem tby32 : tby Try.prog 32 = some 8 := by kernel_rfl
theorem tz32 : tzero Try.prog 32 = some Value.nilFunc := by kernel_rfl
theorem tsz35 : tsz Try.prog 35 = some 1 := by kernel_rfl
theorem tby35 : tby Try.prog 35 = some 8 := by kernel_rfl
theorem tz35 : tzero Try.prog 35 = some (Value.pointer none) := by kernel_rfl
theorem tsz40 : tsz Try.prog 40 = some 1 := by kernel_rfl
theorem tby40 : tby Try.prog 40 = some 24 := by kernel_rfl
theorem tz40 : tzero Try.prog 40 = some (Value.slice none 0 0) := by kernel_rfl
theorem tsz44 : tsz Try.prog 44 = some 3 := by kernel_rfl
theorem tby44 : tby Try.prog 44 = some 24 := by kernel_rfl
theorem tz44 : tzero Try.prog 44 = some (Value.agg #[(Value.int IntKind.i64 0), (Value.int IntKind.i64 0), (Value.int IntKind.i64 0)]) := by kernel_rfl
theorem peq44 : plainEq Try.prog 44 = true := by kernel_rfl
theorem fo44_0 : fieldOff Try.prog 44 0 = some 0 := by kernel_rfl
theorem fo44_1 : fieldOff Try.prog 44 1 = some 1 := by kernel_rfl
theorem fo44_2 : fieldOff Try.prog 44 2 = some 2 := by kernel_rfl
theorem tsz45 : tsz Try.prog 45 = some 3 := by kernel_rfl
theorem tby45 : tby Try.prog 45 = some 24 := by kernel_rfl
theorem tz45 : tzero Try.prog 45 = some (Value.agg #[(Value.int IntKind.i64 0), (Value.int IntKind.i64 0), (Value.int IntKind.i64 0)]) := by kernel_rfl
theorem peq45 : plainEq Try.prog 45 = true := by kernel_rfl
theorem fo45_0 : fieldOff Try.prog 45 0 = some 0 := by kernel_rfl
theorem fo45_1 : fieldOff Try.prog 45 1 = some 1 := by kernel_rfl
theorem fo45_2 : fieldOff Try.prog 45 2 = some 2 := by kernel_rfl
theorem tsz48 : tsz Try.prog 48 = some 1 := by kernel_rfl
theorem tby48 : tby Try.prog 48 = some 8 := by kernel_rfl
theorem tz48 : tzero Try.prog 48 = some Value.nilFunc := by kernel_rfl
theorem tsz52 : tsz Try.prog 52 = some 2 := by kernel_rfl
theorem tby52 : tby Try.prog 52 = some 32 := by kernel_rfl
theorem tz52 : tzero Try.prog 52 = some (Value.agg #[(Value.slice none 0 0), (Value.int IntKind.i64 0)]) := by kernel_rfl
theorem fo52_0 : fieldOff Try.prog 52 0 = some 0 := by kernel_rfl
theorem fo52_1 : fieldOff Try.prog 52 1 = some 1 := by kernel_rfl
theorem tsz53 : tsz Try.prog 53 = some 2 := by kernel_rfl
theorem tby53 : tby Try.prog 53 = some 32 := by kernel_rfl
theorem tz53 : tzero Try.prog 53 = some (Value.agg #[(Value.slice none 0 0), (Value.int IntKind.i64 0)]) := by kernel_rfl
theorem fo53_0 : fieldOff Try.prog 53 0 = some 0 := by kernel_rfl
theorem fo53_1 : fieldOff Try.prog 53 1 = some 1 := by kernel_rfl
theorem tsz55 : tsz Try.prog 55 = some 1 := by kernel_rfl
theorem tby55 : tby Try.prog 55 = some 8 := by kernel_rfl
theorem tz55 : tzero Try.prog 55 = some (Value.pointer none) := by kernel_rfl
theorem tsz56 : tsz Try.prog 56 = some 2 := by kernel_rfl
theorem tby56 : tby Try.prog 56 = some 16 := by kernel_rfl
theorem tz56 : tzero Try.prog 56 = some (Value.agg #[(Value.int IntKind.i64 0), (Value.int IntKind.i64 0)]) := by kernel_rfl
theorem peq56 : plainEq Try.prog 56 = true := by kernel_rfl
theorem fo56_0 : fieldOff Try.prog 56 0 = some 0 := by kernel_rfl
theorem fo56_1 : fieldOff Try.prog 56 1 = some 1 := by kernel_rfl
theorem tsz57 : tsz Try.prog 57 = some 2 := by kernel_rfl
theorem tby57 : tby Try.prog 57 = some 16 := by kernel_rfl
theorem tz57 : tzero Try.prog 57 = some (Value.agg #[(Value.int IntKind.i64 0), (Value.int IntKind.i64 0)]) := by kernel_rfl
theorem peq57 : plainEq Try.prog 57 = true := by kernel_rfl
theorem fo57_0 : fieldOff Try.prog 57 0 = some 0 := by kernel_rfl
theorem fo57_1 : fieldOff Try.prog 57 1 = some 1 := by kernel_rfl
theorem tsz58 : tsz Try.prog 58 = some 1 := by kernel_rfl
theorem tby58 : tby Try.prog 58 = some 24 := by kernel_rfl
theorem tz58 : tzero Try.prog 58 = some (Value.slice none 0 0) := by kernel_rfl
theorem tsz59 : tsz Try.prog 59 = some 1 := by kernel_rfl
theorem tby59 : tby Try.prog 59 = some 24 := by kernel_rfl
theorem tz59 : tzero Try.prog 59 = some (Value.slice none 0 0) := by kernel_rfl
theorem tsz60 : tsz Try.prog 60 = some 1 := by kernel_rfl
theorem tby60 : tby Try.prog 60 = some 8 := by kernel_rfl
theorem tz60 : tzero Try.prog 60 = some Value.nilFunc := by kernel_rfl
theorem tsz61 : tsz Try.prog 61 = some 1 := by kernel_rfl
theorem tby61 : tby Try.prog 61 = some 0 := by kernel_rfl
theorem tz61 : tzero Try.prog 61 = some (Value.tuple #[(Value.agg #[(Value.int IntKind.i64 0), (Value.int IntKind.i64 0)]), (Value.bool false)]) := by kernel_rfl
theorem tsz68 : tsz Try.prog 68 = some 1 := by kernel_rfl
theorem tby68 : tby Try.prog 68 = some 8 := by kernel_rfl
theorem tz68 : tzero Try.prog 68 = some (Value.int IntKind.u64 0) := by kernel_rfl
theorem tsz72 : tsz Try.prog 72 = some 1 := by kernel_rfl
theorem tby72 : tby Try.prog 72 = some 0 := by kernel_rfl
theorem tz72 : tzero Try.prog 72 = some (Value.tuple #[(Value.agg #[(Value.int IntKind.i64 0), (Value.slice none 0 0)]), (Value.bool false)]) := by kernel_rfl
theorem tsz75 : tsz Try.prog 75 = some 1 := by kernel_rfl
theorem tby75 : tby Try.prog 75 = some 16 := by kernel_rfl
theorem tz75 : tzero Try.prog 75 = some Value.nilIface := by kernel_rfl
theorem tsz76 : tsz Try.prog 76 = some 1 := by kernel_rfl
theorem tby76 : tby Try.prog 76 = some 16 := by kernel_rfl
theorem tz76 : tzero Try.prog 76 = some Value.nilIface := by kernel_rfl
theorem tsz77 : tsz Try.prog 77 = some 1 := by kernel_rfl
theorem tby77 : tby Try.prog 77 = some 8 := by kernel_rfl
theorem tz77 : tzero Try.prog 77 = some Value.nilFunc := by kernel_rfl
theorem tsz79 : tsz Try.prog 79 = some 1 := by kernel_rfl
theorem tby79 : tby Try.prog 79 = some 8 := by kernel_rfl
theorem tz79 : tzero Try.prog 79 = some Value.nilFunc := by kernel_rfl
theorem tsz80 : tsz Try.prog 80 = some 1 := by kernel_rfl
theorem tby80 : tby Try.prog 80 = some 8 := by kernel_rfl
theorem tz80 : tzero Try.prog 80 = some Value.nilFunc := by kernel_rfl
theorem tsz83 : tsz Try.prog 83 = some 1 := by kernel_rfl
theorem tby83 : tby Try.prog 83 = some 8 := by kernel_rfl
theorem tz83 : tzero Try.prog 83 = some (Value.int IntKind.i64 0) := by kernel_rfl
theorem tsz84 : tsz Try.prog 84 = some 1 := by kernel_rfl
theorem tby84 : tby Try.prog 84 = some 0 := by kernel_rfl
theorem tz84 : tzero Try.prog 84 = some (Value.tuple #[(Value.int IntKind.i64 0), (Value.int IntKind.i64 0)]) := by kernel_rfl
theorem tsz88 : tsz Try.prog 88 = some 1 := by kernel_rfl
theorem tby88 : tby Try.prog 88 = some 0 := by kernel_rfl
theorem tz88 : tzero Try.prog 88 = some (Value.tuple #[(Value.int IntKind.i64 0), (Value.bool false)]) := by kernel_rfl
theorem tsz91 : tsz Try.prog 91 = some 1 := by kernel_rfl
theorem tby91 : tby Try.prog 91 = some 4 := by kernel_rfl
theorem tz91 : tzero Try.prog 91 = some (Value.int IntKind.u32 0) := by kernel_rfl
theorem tsz93 : tsz Try.prog 93 = some 1 := by kernel_rfl
theorem tby93 : tby Try.prog 93 = some 8 := by kernel_rfl
theorem tz93 : tzero Try.prog 93 = some (Value.int IntKind.u64 0) := by kernel_rfl
theorem tsz94 : tsz Try.prog 94 = some 1 := by kernel_rfl
theorem tby94 : tby Try.prog 94 = some 8 := by kernel_rfl
theorem tz94 : tzero Try.prog 94 = some Value.nilFunc := by kernel_rfl
theorem tsz95 : tsz Try.prog 95 = some 1 := by kernel_rfl
theorem tby95 : tby Try.prog 95 = some 8 := by kernel_rfl
theorem tz95 : tzero Try.prog 95 = some (Value.int IntKind.u64 0) := by kernel_rfl
theorem tsz99 : tsz Try.prog 99 = some 1 := by kernel_rfl
theorem tby99 : tby Try.prog 99 = some 8 := by kernel_rfl
theorem tz99 : tzero Try.prog 99 = some (Value.pointer none) := by kernel_rfl
theorem tsz101 : tsz Try.prog 101 = some 1 := by kernel_rfl
theorem tby101 : tby Try.prog 101 = some 8 := by kernel_rfl
theorem tz101 : tzero Try.prog 101 = some (Value.pointer none) := by kernel_rfl
theorem tsz102 : tsz Try.prog 102 = some 1 := by kernel_rfl
theorem tby102 : tby Try.prog 102 = some 0 := by kernel_rfl
theorem tz102 : tzero Try.prog 102 = some (Value.tuple #[(Value.int IntKind.i64 0), (Value.int IntKind.i64 0)]) := by kernel_rfl
theorem tsz107 : tsz Try.prog 107 = some 0 := by kernel_rfl
theorem tby107 : tby Try.prog 107 = some 0 := by kernel_rfl
theorem tz107 : tzero Try.prog 107 = some (Value.agg #[]) := by kernel_rfl
theorem tsz108 : tsz Try.prog 108 = some 0 := by kernel_rfl
theorem tby108 : tby Try.prog 108 = some 0 := by kernel_rfl
theorem tz108 : tzero Try.prog 108 = some (Value.agg #[]) := by kernel_rfl
theorem tsz109 : tsz Try.prog 109 = some 0 := by kernel_rfl
theorem tby109 : tby Try.prog 109 = some 0 := by kernel_rfl
theorem tz109 : tzero Try.prog 109 = some (Value.agg #[]) := by kernel_rfl
theorem tsz110 : tsz Try.prog 110 = some 1 := by kernel_rfl
theorem tby110 : tby Try.prog 110 = some 1 := by kernel_rfl
theorem tz110 : tzero Try.prog 110 = some (Value.int IntKind.u8 0) := by kernel_rfl
theorem tsz111 : tsz Try.prog 111 = some 1 := by kernel_rfl
theorem tby111 : tby Try.prog 111 = some 1 := by kernel_rfl
theorem tz111 : tzero Try.prog 111 = some (Value.int IntKind.u8 0) := by kernel_rfl
theorem tsz112 : tsz Try.prog 112 = some 1 := by kernel_rfl
theorem tby112 : tby Try.prog 112 = some 8 := by kernel_rfl
theorem tz112 : tzero Try.prog 112 = some Value.nilFunc := by kernel_rfl
theorem tsz113 : tsz Try.prog 113 = some 1 := by kernel_rfl
theorem tby113 : tby Try.prog 113 = some 8 := by kernel_rfl
theorem tz113 : tzero Try.prog 113 = some (Value.pointer none) := by kernel_rfl
theorem tsz114 : tsz Try.prog 114 = some 1 := by kernel_rfl
theorem tby114 : tby Try.prog 114 = some 4 := by kernel_rfl
theorem tz114 : tzero Try.prog 114 = some (Value.int IntKind.i32 0) := by kernel_rfl
theorem tsz115 : tsz Try.prog 115 = some 1 := by kernel_rfl
theorem tby115 : tby Try.prog 115 = some 4 := by kernel_rfl
theorem tz115 : tzero Try.prog 115 = some (Value.int IntKind.i32 0) := by kernel_rfl
theorem tsz116 : tsz Try.prog 116 = some 11 := by kernel_rfl
theorem tby116 : tby Try.prog 116 = some 48 := by kernel_rfl
theorem tz116 : tzero Try.prog 116 = some (Value.agg #[(Value.int IntKind.u64 0), (Value.int IntKind.u64 0), (Value.int IntKind.u32 0), (Value.int IntKind.u8 0), (Value.int IntKind.u8 0), (Value.int IntKind.u8 0), (Value.int IntKind.u8 0), Value.nilFunc, (Value.pointer none), (Value.int IntKind.i32 0), (Value.int IntKind.i32 0)]) := by kernel_rfl
theorem fo116_0 : fieldOff Try.prog 116 0 = some 0 := by kernel_rfl
theorem fo116_1 : fieldOff Try.prog 116 1 = some 1 := by kernel_rfl
theorem fo116_2 : fieldOff Try.prog 116 2 = some 2 := by kernel_rfl
theorem fo116_3 : fieldOff Try.prog 116 3 = some 3 := by kernel_rfl
theorem fo116_4 : fieldOff Try.prog 116 4 = some 4 := by kernel_rfl
theorem fo116_5 : fieldOff Try.prog 116 5 = some 5 := by kernel_rfl
theorem fo116_6 : fieldOff Try.prog 116 6 = some 6 := by kernel_rfl
theorem fo116_7 : fieldOff Try.prog 116 7 = some 7 := by kernel_rfl
theorem fo116_8 : fieldOff Try.prog 116 8 = some 8 := by kernel_rfl
theorem fo116_9 : fieldOff Try.prog 116 9 = some 9 := by kernel_rfl
theorem fo116_10 : fieldOff Try.prog 116 10 = some 10 := by kernel_rfl
theorem tsz117 : tsz Try.prog 117 = some 11 := by kernel_rfl
theorem tby117 : tby Try.prog 117 = some 48 := by kernel_rfl
theorem tz117 : tzero Try.prog 117 = some (Value.agg #[(Value.int IntKind.u64 0), (Value.int IntKind.u64 0), (Value.int IntKind.u32 0), (Value.int IntKind.u8 0), (Value.int IntKind.u8 0), (Value.int IntKind.u8 0), (Value.int IntKind.u8 0), Value.nilFunc, (Value.pointer none), (Value.int IntKind.i32 0), (Value.int IntKind.i32 0)]) := by kernel_rfl
theorem fo117_0 : fieldOff Try.prog 117 0 = some 0 := by kernel_rfl
theorem fo117_1 : fieldOff Try.prog 117 1 = some 1 := by kernel_rfl
theorem fo117_2 : fieldOff Try.prog 117 2 = some 2 := by kernel_rfl
theorem fo117_3 : fieldOff Try.prog 117 3 = some 3 := by kernel_rfl
theorem fo117_4 : fieldOff Try.prog 117 4 = some 4 := by kernel_rfl
theorem fo117_5 : fieldOff Try.prog 117 5 = some 5 := by kernel_rfl
theorem fo117_6 : fieldOff Try.prog 117 6 = some 6 := by kernel_rfl
theorem fo117_7 : fieldOff Try.prog 117 7 = some 7 := by kernel_rfl
theorem fo117_8 : fieldOff Try.prog 117 8 = some 8 := by kernel_rfl
theorem fo117_9 : fieldOff Try.prog 117 9 = some 9 := by kernel_rfl
theorem fo117_10 : fieldOff Try.prog 117 10 = some 10 := by kernel_rfl
theorem tsz118 : tsz Try.prog 118 = some 1 := by kernel_rfl
theorem tby118 : tby Try.prog 118 = some 8 := by kernel_rfl
theorem tz118 : tzero Try.prog 118 = some (Value.pointer none) := by kernel_rfl
theorem en3 : Enters Try.prog 3 := Enters.of Try.func3 (by kernel_rfl) (by kernel_rfl)
theorem en4 : Enters Try.prog 4 := Enters.of Try.func4 (by kernel_rfl) (by kernel_rfl)
theorem en5 : Enters Try.prog 5 := Enters.of Try.func5 (by kernel_rfl) (by kernel_rfl)
theorem en6 : Enters Try.prog 6 := Enters.of Try.func6 (by kernel_rfl) (by kernel_rfl)
theorem en7 : Enters Try.prog 7 := Enters.of Try.func7 (by kernel_rfl) (by kernel_rfl)
theorem en8 : Enters Try.prog 8 := Enters.of Try.func8 (by kernel_rfl) (by kernel_rfl)
theorem en9 : Enters Try.prog 9 := Enters.of Try.func9 (by kernel_rfl) (by kernel_rfl)
theorem en10 : Enters Try.prog 10 := Enters.of Try.func10 (by kernel_rfl) (by kernel_rfl)
theorem en11 : Enters Try.prog 11 := Enters.of Try.func11 (by kernel_rfl) (by kernel_rfl)
theorem en12 : Enters Try.prog 12 := Enters.of Try.func12 (by kernel_rfl) (by kernel_rfl)
theorem en13 : Enters Try.prog 13 := Enters.of Try.func13 (by kernel_rfl) (by kernel_rfl)
theorem en14 : Enters Try.prog 14 := Enters.of Try.func14 (by kernel_rfl) (by kernel_rfl)
theorem en15 : Enters Try.prog 15 := Enters.of Try.func15 (by kernel_rfl) (by kernel_rfl)
theorem en16 : Enters Try.prog 16 := Enters.of Try.func16 (by kernel_rfl) (by kernel_rfl)
theorem en17 : Enters Try.prog 17 := Enters.of Try.func17 (by kernel_rfl) (by kernel_rfl)
theorem en18 : Enters Try.prog 18 := Enters.of Try.func18 (by kernel_rfl) (by kernel_rfl)
theorem en19 : Enters Try.prog 19 := Enters.of Try.func19 (by kernel_rfl) (by kernel_rfl)
theorem en20 : Enters Try.prog 20 := Enters.of Try.func20 (by kernel_rfl) (by kernel_rfl)
theorem en21 : Enters Try.prog 21 := Enters.of Try.func21 (by kernel_rfl) (by kernel_rfl)
theorem en22 : Enters Try.prog 22 := Enters.of Try.func22 (by kernel_rfl) (by kernel_rfl)
theorem en23 : Enters Try.prog 23 := Enters.of Try.func23 (by kernel_rfl) (by kernel_rfl)
theorem en24 : Enters Try.prog 24 := Enters.of Try.func24 (by kernel_rfl) (by kernel_rfl)
theorem en25 : Enters Try.prog 25 := Enters.of Try.func25 (by kernel_rfl) (by kernel_rfl)
theorem en26 : Enters Try.prog 26 := Enters.of Try.func26 (by kernel_rfl) (by kernel_rfl)
theorem en27 : Enters Try.prog 27 := Enters.of Try.func27 (by kernel_rfl) (by kernel_rfl)
theorem en28 : Enters Try.prog 28 := Enters.of Try.func28 (by kernel_rfl) (by kernel_rfl)
theorem en29 : Enters Try.prog 29 := Enters.of Try.func29 (by kernel_rfl) (by kernel_rfl)
theorem en30 : Enters Try.prog 30 := Enters.of Try.func30 (by kernel_rfl) (by kernel_rfl)
theorem en31 : Enters Try.prog 31 := Enters.of Try.func31 (by kernel_rfl) (by kernel_rfl)
theorem en32 : Enters Try.prog 32 := Enters.of Try.func32 (by kernel_rfl) (by kernel_rfl)
theorem en33 : Enters Try.prog 33 := Enters.of Try.func33 (by kernel_rfl) (by kernel_rfl)
theorem en34 : Enters Try.prog 34 := Enters.of Try.func34 (by kernel_rfl) (by kernel_rfl)
theorem en35 : Enters Try.prog 35 := Enters.of Try.func35 (by kernel_rfl) (by kernel_rfl)
theorem en36 : Enters Try.prog 36 := Enters.of Try.func36 (by kernel_rfl) (by kernel_rfl)
theorem en37 : Enters Try.prog 37 := Enters.of Try.func37 (by kernel_rfl) (by kernel_rfl)
theorem en38 : Enters Try.prog 38 := Enters.of Try.func38 (by kernel_rfl) (by kernel_rfl)
theorem en39 : Enters Try.prog 39 := Enters.of Try.func39 (by kernel_rfl) (by kernel_rfl)
theorem en40 : Enters Try.prog 40 := Enters.of Try.func40 (by kernel_rfl) (by kernel_rfl)
theorem en41 : Enters Try.prog 41 := Enters.of Try.func41 (by kernel_rfl) (by kernel_rfl)
theorem en42 : Enters Try.prog 42 := Enters.of Try.func42 (by kernel_rfl) (by kernel_rfl)
theorem en43 : Enters Try.prog 43 := Enters.of Try.func43 (by kernel_rfl) (by kernel_rfl)
theorem en44 : Enters Try.prog 44 := Enters.of Try.func44 (by kernel_rfl) (by kernel_rfl)
theorem en45 : Enters Try.prog 45 := Enters.of Try.func45 (by kernel_rfl) (by kernel_rfl)
theorem en46 : Enters Try.prog 46 := Enters.of Try.func46 (by kernel_rfl) (by kernel_rfl)
theorem en47 : Enters Try.prog 47 := Enters.of Try.func47 (by kernel_rfl) (by kernel_rfl)
theorem en48 : Enters Try.prog 48 := Enters.of Try.func48 (by kernel_rfl) (by kernel_rfl)
theorem en49 : Enters Try.prog 49 := Enters.of Try.func49 (by kernel_rfl) (by kernel_rfl)
theorem en50 : Enters Try.prog 50 := Enters.of Try.func50 (by kernel_rfl) (by kernel_rfl)
theorem en51 : Enters Try.prog 51 := Enters.of Try.func51 (by kernel_rfl) (by kernel_rfl)
theorem en52 : Enters Try.prog 52 := Enters.of Try.func52 (by kernel_rfl) (by kernel_rfl)
theorem en53 : Enters Try.prog 53 := Enters.of Try.func53 (by kernel_rfl) (by kernel_rfl)
theorem en54 : Enters Try.prog 54 := Enters.of Try.func54 (by kernel_rfl) (by kernel_rfl)
theorem en55 : Enters Try.prog 55 := Enters.of Try.func55 (by kernel_rfl) (by kernel_rfl)
theorem en56 : Enters Try.prog 56 := Enters.of Try.func56 (by kernel_rfl) (by kernel_rfl)
theorem en57 : Enters Try.prog 57 := Enters.of Try.func57 (by kernel_rfl) (by kernel_rfl)
theorem en58 : Enters Try.prog 58 := Enters.of Try.func58 (by kernel_rfl) (by kernel_rfl)
theorem en75 : Enters Try.prog 75 := Enters.of Try.func75 (by kernel_rfl) (by kernel_rfl)
theorem en76 : Enters Try.prog 76 := Enters.of Try.func76 (by kernel_rfl) (by kernel_rfl)
theorem en77 : Enters Try.prog 77 := Enters.of Try.func77 (by kernel_rfl) (by kernel_rfl)
theorem en78 : Enters Try.prog 78 := Enters.of Try.func78 (by kernel_rfl) (by kernel_rfl)
theorem mf55_Len : methodF Try.prog 55 "Len" = some (26, false) := by kernel_rfl
theorem mf55_Less : methodF Try.prog 55 "Less" = some (75, false) := by kernel_rfl
theorem mf55_Pop : methodF Try.prog 55 "Pop" = some (76, true) := by kernel_rfl
theorem mf55_Push : methodF Try.prog 55 "Push" = some (77, true) := by kernel_rfl
theorem mf55_Swap : methodF Try.prog 55 "Swap" = some (78, false) := by kernel_rfl
theorem mixed : Try.prog.follows .mixedOrders = true := by kernel_rfl
end Go.Proofs.Ytbdncdmkogbdhaa
