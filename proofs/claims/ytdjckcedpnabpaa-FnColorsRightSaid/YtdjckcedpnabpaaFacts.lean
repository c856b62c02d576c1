/- What the tables of the program say of its types and functions, looked up once. -/
import Derived.Test.YtdjckcedpnabpaaAvU
import Derived.Test.YtdjckcedpnabpaaProg
import Derived.KernelRfl
namespace Go.Proofs.Ytdjckcedpnabpaa
open Go Go.Av
theorem tsz0 : tsz Try.prog 0 = some 1 := by kernel_rfl
theorem tby0 : tby Try.prog 0 = some 0 := by kernel_rfl
theorem tz0 : tzero Try.prog 0 = some (Value.tuple #[]) := by kernel_rfl
theorem tsz1 : tsz Try.prog 1 = some 1 := by kernel_rfl
theorem tby1 : tby Try.prog 1 = some 8 := by kernel_rfl
theorem tz1 : tzero Try.prog 1 = some Value.nilFunc := by kernel_rfl
theorem tsz2 : tsz Try.prog 2 = some 1 := by kernel_rfl
theorem tby2 : tby Try.prog 2 = some 8 := by kernel_rfl
theorem tz2 : tzero Try.prog 2 = some (Value.int IntKind.i64 0) := by kernel_rfl
theorem tsz3 : tsz Try.prog 3 = some 1 := by kernel_rfl
theorem tby3 : tby Try.prog 3 = some 8 := by kernel_rfl
theorem tz3 : tzero Try.prog 3 = some (Value.int IntKind.i64 0) := by kernel_rfl
theorem tsz4 : tsz Try.prog 4 = some 1 := by kernel_rfl
theorem tby4 : tby Try.prog 4 = some 1 := by kernel_rfl
theorem tz4 : tzero Try.prog 4 = some (Value.bool false) := by kernel_rfl
theorem tsz5 : tsz Try.prog 5 = some 1 := by kernel_rfl
theorem tby5 : tby Try.prog 5 = some 1 := by kernel_rfl
theorem tz5 : tzero Try.prog 5 = some (Value.int IntKind.u8 0) := by kernel_rfl
theorem tsz6 : tsz Try.prog 6 = some 1 := by kernel_rfl
theorem tby6 : tby Try.prog 6 = some 1 := by kernel_rfl
theorem tz6 : tzero Try.prog 6 = some (Value.int IntKind.u8 0) := by kernel_rfl
theorem tsz7 : tsz Try.prog 7 = some 4 := by kernel_rfl
theorem tby7 : tby Try.prog 7 = some 24 := by kernel_rfl
theorem tz7 : tzero Try.prog 7 = some (Value.agg #[(Value.int IntKind.i64 0), (Value.int IntKind.i64 0), (Value.bool false), (Value.int IntKind.u8 0)]) := by kernel_rfl
theorem fo7_0 : fieldOff Try.prog 7 0 = some 0 := by kernel_rfl
theorem fo7_1 : fieldOff Try.prog 7 1 = some 1 := by kernel_rfl
theorem fo7_2 : fieldOff Try.prog 7 2 = some 2 := by kernel_rfl
theorem fo7_3 : fieldOff Try.prog 7 3 = some 3 := by kernel_rfl
theorem tsz8 : tsz Try.prog 8 = some 4 := by kernel_rfl
theorem tby8 : tby Try.prog 8 = some 24 := by kernel_rfl
theorem tz8 : tzero Try.prog 8 = some (Value.agg #[(Value.int IntKind.i64 0), (Value.int IntKind.i64 0), (Value.bool false), (Value.int IntKind.u8 0)]) := by kernel_rfl
theorem fo8_0 : fieldOff Try.prog 8 0 = some 0 := by kernel_rfl
theorem fo8_1 : fieldOff Try.prog 8 1 = some 1 := by kernel_rfl
theorem fo8_2 : fieldOff Try.prog 8 2 = some 2 := by kernel_rfl
theorem fo8_3 : fieldOff Try.prog 8 3 = some 3 := by kernel_rfl
theorem tsz9 : tsz Try.prog 9 = some 1 := by kernel_rfl
theorem tby9 : tby Try.prog 9 = some 16 := by kernel_rfl
theorem tsz10 : tsz Try.prog 10 = some 1 := by kernel_rfl
theorem tby10 : tby Try.prog 10 = some 16 := by kernel_rfl
theorem tsz12 : tsz Try.prog 12 = some 1 := by kernel_rfl
theorem tby12 : tby Try.prog 12 = some 8 := by kernel_rfl
theorem tz12 : tzero Try.prog 12 = some (Value.int IntKind.u64 0) := by kernel_rfl
theorem tsz16 : tsz Try.prog 16 = some 1 := by kernel_rfl
theorem tby16 : tby Try.prog 16 = some 8 := by kernel_rfl
theorem tz16 : tzero Try.prog 16 = some (Value.pointer none) := by kernel_rfl
theorem tsz17 : tsz Try.prog 17 = some 1 := by kernel_rfl
theorem tby17 : tby Try.prog 17 = some 8 := by kernel_rfl
theorem tz17 : tzero Try.prog 17 = some (Value.pointer none) := by kernel_rfl
theorem tsz20 : tsz Try.prog 20 = some 1 := by kernel_rfl
theorem tby20 : tby Try.prog 20 = some 16 := by kernel_rfl
theorem tz20 : tzero Try.prog 20 = some Value.nilIface := by kernel_rfl
theorem tsz21 : tsz Try.prog 21 = some 1 := by kernel_rfl
theorem tby21 : tby Try.prog 21 = some 4 := by kernel_rfl
theorem tz21 : tzero Try.prog 21 = some (Value.int IntKind.i32 0) := by kernel_rfl
theorem tsz22 : tsz Try.prog 22 = some 1 := by kernel_rfl
theorem tby22 : tby Try.prog 22 = some 24 := by kernel_rfl
theorem tz22 : tzero Try.prog 22 = some (Value.slice none 0 0) := by kernel_rfl
theorem tsz23 : tsz Try.prog 23 = some 1 := by kernel_rfl
theorem tby23 : tby Try.prog 23 = some 24 := by kernel_rfl
theorem tz23 : tzero Try.prog 23 = some (Value.slice none 0 0) := by kernel_rfl
theorem tsz24 : tsz Try.prog 24 = some 2 := by kernel_rfl
theorem tby24 : tby Try.prog 24 = some 32 := by kernel_rfl
theorem tz24 : tzero Try.prog 24 = some (Value.agg #[(Value.int IntKind.i64 0), (Value.slice none 0 0)]) := by kernel_rfl
theorem fo24_0 : fieldOff Try.prog 24 0 = some 0 := by kernel_rfl
theorem fo24_1 : fieldOff Try.prog 24 1 = some 1 := by kernel_rfl
theorem tsz25 : tsz Try.prog 25 = some 2 := by kernel_rfl
theorem tby25 : tby Try.prog 25 = some 32 := by kernel_rfl
theorem tz25 : tzero Try.prog 25 = some (Value.agg #[(Value.int IntKind.i64 0), (Value.slice none 0 0)]) := by kernel_rfl
theorem fo25_0 : fieldOff Try.prog 25 0 = some 0 := by kernel_rfl
theorem fo25_1 : fieldOff Try.prog 25 1 = some 1 := by kernel_rfl
theorem tsz32 : tsz Try.prog 32 = some 3 := by kernel_rfl
theorem tby32 : tby Try.prog 32 = some 24 := by kernel_rfl
theorem tz32 : tzero Try.prog 32 = some (Value.agg #[(Value.int IntKind.i64 0), (Value.int IntKind.i64 0), (Value.int IntKind.i64 0)]) := by kernel_rfl
theorem peq32 : plainEq Try.prog 32 = true := by kernel_rfl
theorem fo32_0 : fieldOff Try.prog 32 0 = some 0 := by kernel_rfl
theorem fo32_1 : fieldOff Try.prog 32 1 = some 1 := by kernel_rfl
theorem fo32_2 : fieldOff Try.prog 32 2 = some 2 := by kernel_rfl
theorem tsz33 : tsz Try.prog 33 = some 3 := by kernel_rfl
theorem tby33 : tby Try.prog 33 = some 24 := by kernel_rfl
theorem tz33 : tzero Try.prog 33 = some (Value.agg #[(Value.int IntKind.i64 0), (Value.int IntKind.i64 0), (Value.int IntKind.i64 0)]) := by kernel_rfl
theorem peq33 : plainEq Try.prog 33 = true := by kernel_rfl
theorem fo33_0 : fieldOff Try.prog 33 0 = some 0 := by kernel_rfl
theorem fo33_1 : fieldOff Try.prog 33 1 = some 1 := by kernel_rfl
theorem fo33_2 : fieldOff Try.prog 33 2 = some 2 := by kernel_rfl
theorem tsz40 : tsz Try.prog 40 = some 1 := by kernel_rfl
theorem tby40 : tby Try.prog 40 = some 8 := by kernel_rfl
theorem tz40 : tzero Try.prog 40 = some Value.nilFunc := by kernel_rfl
theorem tsz42 : tsz Try.prog 42 = some 1 := by kernel_rfl
theorem tby42 : tby Try.prog 42 = some 24 := by kernel_rfl
theorem tz42 : tzero Try.prog 42 = some (Value.slice none 0 0) := by kernel_rfl
theorem tsz43 : tsz Try.prog 43 = some 1 := by kernel_rfl
theorem tby43 : tby Try.prog 43 = some 0 := by kernel_rfl
theorem tz43 : tzero Try.prog 43 = some (Value.tuple #[(Value.agg #[(Value.int IntKind.i64 0), (Value.slice none 0 0)]), (Value.slice none 0 0)]) := by kernel_rfl
theorem tsz44 : tsz Try.prog 44 = some 1 := by kernel_rfl
theorem tby44 : tby Try.prog 44 = some 8 := by kernel_rfl
theorem tz44 : tzero Try.prog 44 = some Value.nilFunc := by kernel_rfl
theorem tsz51 : tsz Try.prog 51 = some 1 := by kernel_rfl
theorem tby51 : tby Try.prog 51 = some 8 := by kernel_rfl
theorem tz51 : tzero Try.prog 51 = some (Value.pointer none) := by kernel_rfl
theorem tsz55 : tsz Try.prog 55 = some 1 := by kernel_rfl
theorem tby55 : tby Try.prog 55 = some 8 := by kernel_rfl
theorem tz55 : tzero Try.prog 55 = some Value.nilFunc := by kernel_rfl
theorem tsz56 : tsz Try.prog 56 = some 1 := by kernel_rfl
theorem tby56 : tby Try.prog 56 = some 0 := by kernel_rfl
theorem tz56 : tzero Try.prog 56 = some (Value.tuple #[(Value.agg #[(Value.int IntKind.i64 0), (Value.slice none 0 0)]), (Value.bool false)]) := by kernel_rfl
theorem tsz74 : tsz Try.prog 74 = some 2 := by kernel_rfl
theorem tby74 : tby Try.prog 74 = some 32 := by kernel_rfl
theorem tz74 : tzero Try.prog 74 = some (Value.agg #[(Value.slice none 0 0), (Value.int IntKind.i64 0)]) := by kernel_rfl
theorem fo74_0 : fieldOff Try.prog 74 0 = some 0 := by kernel_rfl
theorem fo74_1 : fieldOff Try.prog 74 1 = some 1 := by kernel_rfl
theorem tsz75 : tsz Try.prog 75 = some 2 := by kernel_rfl
theorem tby75 : tby Try.prog 75 = some 32 := by kernel_rfl
theorem tz75 : tzero Try.prog 75 = some (Value.agg #[(Value.slice none 0 0), (Value.int IntKind.i64 0)]) := by kernel_rfl
theorem fo75_0 : fieldOff Try.prog 75 0 = some 0 := by kernel_rfl
theorem fo75_1 : fieldOff Try.prog 75 1 = some 1 := by kernel_rfl
theorem tsz79 : tsz Try.prog 79 = some 1 := by kernel_rfl
theorem tby79 : tby Try.prog 79 = some 8 := by kernel_rfl
theorem tz79 : tzero Try.prog 79 = some (Value.int IntKind.u64 0) := by kernel_rfl
theorem tsz96 : tsz Try.prog 96 = some 1 := by kernel_rfl
theorem tby96 : tby Try.prog 96 = some 8 := by kernel_rfl
theorem tz96 : tzero Try.prog 96 = some (Value.int IntKind.i64 0) := by kernel_rfl
theorem tsz97 : tsz Try.prog 97 = some 1 := by kernel_rfl
theorem tby97 : tby Try.prog 97 = some 0 := by kernel_rfl
theorem tz97 : tzero Try.prog 97 = some (Value.tuple #[(Value.int IntKind.i64 0), (Value.int IntKind.i64 0)]) := by kernel_rfl
theorem tsz101 : tsz Try.prog 101 = some 1 := by kernel_rfl
theorem tby101 : tby Try.prog 101 = some 0 := by kernel_rfl
theorem tz101 : tzero Try.prog 101 = some (Value.tuple #[(Value.int IntKind.i64 0), (Value.bool false)]) := by kernel_rfl
theorem tsz104 : tsz Try.prog 104 = some 1 := by kernel_rfl
theorem tby104 : tby Try.prog 104 = some 4 := by kernel_rfl
theorem tz104 : tzero Try.prog 104 = some (Value.int IntKind.u32 0) := by kernel_rfl
theorem tsz106 : tsz Try.prog 106 = some 1 := by kernel_rfl
theorem tby106 : tby Try.prog 106 = some 8 := by kernel_rfl
theorem tz106 : tzero Try.prog 106 = some (Value.int IntKind.u64 0) := by kernel_rfl
theorem tsz114 : tsz Try.prog 114 = some 1 := by kernel_rfl
theorem tby114 : tby Try.prog 114 = some 8 := by kernel_rfl
theorem tz114 : tzero Try.prog 114 = some (Value.int IntKind.u64 0) := by kernel_rfl
theorem tsz118 : tsz Try.prog 118 = some 1 := by kernel_rfl
theorem tby118 : tby Try.prog 118 = some 8 := by kernel_rfl
theorem tz118 : tzero Try.prog 118 = some (Value.pointer none) := by kernel_rfl
theorem tsz121 : tsz Try.prog 121 = some 1 := by kernel_rfl
theorem tby121 : tby Try.prog 121 = some 8 := by kernel_rfl
theorem tz121 : tzero Try.prog 121 = some (Value.pointer none) := by kernel_rfl
theorem tsz122 : tsz Try.prog 122 = some 1 := by kernel_rfl
theorem tby122 : tby Try.prog 122 = some 0 := by kernel_rfl
theorem tz122 : tzero Try.prog 122 = some (Value.tuple #[(Value.int IntKind.i64 0), (Value.int IntKind.i64 0)]) := by kernel_rfl
theorem tsz127 : tsz Try.prog 127 = some 0 := by kernel_rfl
theorem tby127 : tby Try.prog 127 = some 0 := by kernel_rfl
theorem tz127 : tzero Try.prog 127 = some (Value.agg #[]) := by kernel_rfl
theorem tsz128 : tsz Try.prog 128 = some 0 := by kernel_rfl
theorem tby128 : tby Try.prog 128 = some 0 := by kernel_rfl
theorem tz128 : tzero Try.prog 128 = some (Value.agg #[]) := by kernel_rfl
theorem tsz129 : tsz Try.prog 129 = some 0 := by kernel_rfl
theorem tby129 : tby Try.prog 129 = some 0 := by kernel_rfl
theorem tz129 : tzero Try.prog 129 = some (Value.agg #[]) := by kernel_rfl
theorem tsz130 : tsz Try.prog 130 = some 1 := by kernel_rfl
theorem tby130 : tby Try.prog 130 = some 1 := by kernel_rfl
theorem tz130 : tzero Try.prog 130 = some (Value.int IntKind.u8 0) := by kernel_rfl
theorem tsz131 : tsz Try.prog 131 = some 1 := by kernel_rfl
theorem tby131 : tby Try.prog 131 = some 1 := by kernel_rfl
theorem tz131 : tzero Try.prog 131 = some (Value.int IntKind.u8 0) := by kernel_rfl
theorem tsz132 : tsz Try.prog 132 = some 1 := by kernel_rfl
theorem tby132 : tby Try.prog 132 = some 8 := by kernel_rfl
theorem tz132 : tzero Try.prog 132 = some Value.nilFunc := by kernel_rfl
theorem tsz133 : tsz Try.prog 133 = some 1 := by kernel_rfl
theorem tby133 : tby Try.prog 133 = some 8 := by kernel_rfl
theorem tz133 : tzero Try.prog 133 = some (Value.pointer none) := by kernel_rfl
theorem tsz134 : tsz Try.prog 134 = some 1 := by kernel_rfl
theorem tby134 : tby Try.prog 134 = some 4 := by kernel_rfl
theorem tz134 : tzero Try.prog 134 = some (Value.int IntKind.i32 0) := by kernel_rfl
theorem tsz135 : tsz Try.prog 135 = some 1 := by kernel_rfl
theorem tby135 : tby Try.prog 135 = some 4 := by kernel_rfl
theorem tz135 : tzero Try.prog 135 = some (Value.int IntKind.i32 0) := by kernel_rfl
theorem tsz136 : tsz Try.prog 136 = some 11 := by kernel_rfl
theorem tby136 : tby Try.prog 136 = some 48 := by kernel_rfl
theorem tz136 : tzero Try.prog 136 = some (Value.agg #[(Value.int IntKind.u64 0), (Value.int IntKind.u64 0), (Value.int IntKind.u32 0), (Value.int IntKind.u8 0), (Value.int IntKind.u8 0), (Value.int IntKind.u8 0), (Value.int IntKind.u8 0), Value.nilFunc, (Value.pointer none), (Value.int IntKind.i32 0), (Value.int IntKind.i32 0)]) := by kernel_rfl
theorem fo136_0 : fieldOff Try.prog 136 0 = some 0 := by kernel_rfl
theorem fo136_1 : fieldOff Try.prog 136 1 = some 1 := by kernel_rfl
theorem fo136_2 : fieldOff Try.prog 136 2 = some 2 := by kernel_rfl
theorem fo136_3 : fieldOff Try.prog 136 3 = some 3 := by kernel_rfl
theorem fo136_4 : fieldOff Try.prog 136 4 = some 4 := by kernel_rfl
theorem fo136_5 : fieldOff Try.prog 136 5 = some 5 := by kernel_rfl
theorem fo136_6 : fieldOff Try.prog 136 6 = some 6 := by kernel_rfl
theorem fo136_7 : fieldOff Try.prog 136 7 = some 7 := by kernel_rfl
theorem fo136_8 : fieldOff Try.prog 136 8 = some 8 := by kernel_rfl
theorem fo136_9 : fieldOff Try.prog 136 9 = some 9 := by kernel_rfl
theorem fo136_10 : fieldOff Try.prog 136 10 = some 10 := by kernel_rfl
theorem tsz137 : tsz Try.prog 137 = some 11 := by kernel_rfl
theorem tby137 : tby Try.prog 137 = some 48 := by kernel_rfl
theorem tz137 : tzero Try.prog 137 = some (Value.agg #[(Value.int IntKind.u64 0), (Value.int IntKind.u64 0), (Value.int IntKind.u32 0), (Value.int IntKind.u8 0), (Value.int IntKind.u8 0), (Value.int IntKind.u8 0), (Value.int IntKind.u8 0), Value.nilFunc, (Value.pointer none), (Value.int IntKind.i32 0), (Value.int IntKind.i32 0)]) := by kernel_rfl
theorem fo137_0 : fieldOff Try.prog 137 0 = some 0 := by kernel_rfl
theorem fo137_1 : fieldOff Try.prog 137 1 = some 1 := by kernel_rfl
theorem fo137_2 : fieldOff Try.prog 137 2 = some 2 := by kernel_rfl
theorem fo137_3 : fieldOff Try.prog 137 3 = some 3 := by kernel_rfl
theorem fo137_4 : fieldOff Try.prog 137 4 = some 4 := by kernel_rfl
theorem fo137_5 : fieldOff Try.prog 137 5 = some 5 := by kernel_rfl
theorem fo137_6 : fieldOff Try.prog 137 6 = some 6 := by kernel_rfl
theorem fo137_7 : fieldOff Try.prog 137 7 = some 7 := by kernel_rfl
theorem fo137_8 : fieldOff Try.prog 137 8 = some 8 := by kernel_rfl
theorem fo137_9 : fieldOff Try.prog 137 9 = some 9 := by kernel_rfl
theorem fo137_10 : fieldOff Try.prog 137 10 = some 10 := by kernel_rfl
theorem tsz138 : tsz Try.prog 138 = some 1 := by kernel_rfl
theorem tby138 : tby Try.prog 138 = some 8 := by kernel_rfl
theorem tz138 : tzero Try.prog 138 = some (Value.pointer none) := by kernel_rfl
theorem en5 : Enters Try.prog 5 := Enters.of Try.func5 (by kernel_rfl) (by kernel_rfl)
theorem en8 : Enters Try.prog 8 := Enters.of Try.func8 (by kernel_rfl) (by kernel_rfl)
theorem en11 : Enters Try.prog 11 := Enters.of Try.func11 (by kernel_rfl) (by kernel_rfl)
theorem en12 : Enters Try.prog 12 := Enters.of Try.func12 (by kernel_rfl) (by kernel_rfl)
theorem en14 : Enters Try.prog 14 := Enters.of Try.func14 (by kernel_rfl) (by kernel_rfl)
theorem en20 : Enters Try.prog 20 := Enters.of Try.func20 (by kernel_rfl) (by kernel_rfl)
theorem en21 : Enters Try.prog 21 := Enters.of Try.func21 (by kernel_rfl) (by kernel_rfl)
theorem en22 : Enters Try.prog 22 := Enters.of Try.func22 (by kernel_rfl) (by kernel_rfl)
theorem en27 : Enters Try.prog 27 := Enters.of Try.func27 (by kernel_rfl) (by kernel_rfl)
theorem en28 : Enters Try.prog 28 := Enters.of Try.func28 (by kernel_rfl) (by kernel_rfl)
theorem en29 : Enters Try.prog 29 := Enters.of Try.func29 (by kernel_rfl) (by kernel_rfl)
theorem en30 : Enters Try.prog 30 := Enters.of Try.func30 (by kernel_rfl) (by kernel_rfl)
theorem en31 : Enters Try.prog 31 := Enters.of Try.func31 (by kernel_rfl) (by kernel_rfl)
theorem en32 : Enters Try.prog 32 := Enters.of Try.func32 (by kernel_rfl) (by kernel_rfl)
theorem en33 : Enters Try.prog 33 := Enters.of Try.func33 (by kernel_rfl) (by kernel_rfl)
theorem en34 : Enters Try.prog 34 := Enters.of Try.func34 (by kernel_rfl) (by kernel_rfl)
theorem en35 : Enters Try.prog 35 := Enters.of Try.func35 (by kernel_rfl) (by kernel_rfl)
theorem en36 : Enters Try.prog 36 := Enters.of Try.func36 (by kernel_rfl) (by kernel_rfl)
theorem en37 : Enters Try.prog 37 := Enters.of Try.func37 (by kernel_rfl) (by kernel_rfl)
theorem en43 : Enters Try.prog 43 := Enters.of Try.func43 (by kernel_rfl) (by kernel_rfl)
theorem en44 : Enters Try.prog 44 := Enters.of Try.func44 (by kernel_rfl) (by kernel_rfl)
theorem en45 : Enters Try.prog 45 := Enters.of Try.func45 (by kernel_rfl) (by kernel_rfl)
theorem en50 : Enters Try.prog 50 := Enters.of Try.func50 (by kernel_rfl) (by kernel_rfl)
theorem en51 : Enters Try.prog 51 := Enters.of Try.func51 (by kernel_rfl) (by kernel_rfl)
theorem en52 : Enters Try.prog 52 := Enters.of Try.func52 (by kernel_rfl) (by kernel_rfl)
theorem en53 : Enters Try.prog 53 := Enters.of Try.func53 (by kernel_rfl) (by kernel_rfl)
theorem en54 : Enters Try.prog 54 := Enters.of Try.func54 (by kernel_rfl) (by kernel_rfl)
theorem en55 : Enters Try.prog 55 := Enters.of Try.func55 (by kernel_rfl) (by kernel_rfl)
theorem en56 : Enters Try.prog 56 := Enters.of Try.func56 (by kernel_rfl) (by kernel_rfl)
theorem en59 : Enters Try.prog 59 := Enters.of Try.func59 (by kernel_rfl) (by kernel_rfl)
theorem en64 : Enters Try.prog 64 := Enters.of Try.func64 (by kernel_rfl) (by kernel_rfl)
theorem en65 : Enters Try.prog 65 := Enters.of Try.func65 (by kernel_rfl) (by kernel_rfl)
theorem en66 : Enters Try.prog 66 := Enters.of Try.func66 (by kernel_rfl) (by kernel_rfl)
theorem en67 : Enters Try.prog 67 := Enters.of Try.func67 (by kernel_rfl) (by kernel_rfl)
theorem en68 : Enters Try.prog 68 := Enters.of Try.func68 (by kernel_rfl) (by kernel_rfl)
theorem en69 : Enters Try.prog 69 := Enters.of Try.func69 (by kernel_rfl) (by kernel_rfl)
theorem en70 : Enters Try.prog 70 := Enters.of Try.func70 (by kernel_rfl) (by kernel_rfl)
theorem en71 : Enters Try.prog 71 := Enters.of Try.func71 (by kernel_rfl) (by kernel_rfl)
theorem en72 : Enters Try.prog 72 := Enters.of Try.func72 (by kernel_rfl) (by kernel_rfl)
theorem en73 : Enters Try.prog 73 := Enters.of Try.func73 (by kernel_rfl) (by kernel_rfl)
theorem en74 : Enters Try.prog 74 := Enters.of Try.func74 (by kernel_rfl) (by kernel_rfl)
theorem en77 : Enters Try.prog 77 := Enters.of Try.func77 (by kernel_rfl) (by kernel_rfl)
theorem en78 : Enters Try.prog 78 := Enters.of Try.func78 (by kernel_rfl) (by kernel_rfl)
theorem en79 : Enters Try.prog 79 := Enters.of Try.func79 (by kernel_rfl) (by kernel_rfl)
theorem en80 : Enters Try.prog 80 := Enters.of Try.func80 (by kernel_rfl) (by kernel_rfl)
theorem en81 : Enters Try.prog 81 := Enters.of Try.func81 (by kernel_rfl) (by kernel_rfl)
theorem en82 : Enters Try.prog 82 := Enters.of Try.func82 (by kernel_rfl) (by kernel_rfl)
theorem mixed : Try.prog.follows .mixedOrders = true := by kernel_rfl
end Go.Proofs.Ytdjckcedpnabpaa
