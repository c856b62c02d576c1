/- What the tables of the program say of its types and functions, looked up once. -/
import Derived.Test.YtdjckcedpnabpaaDoorAvU
import Derived.Test.YtdjckcedpnabpaaDoorProg
import Derived.KernelRfl
namespace Go.Proofs.YtdjckcedpnabpaaDoor
open Go Go.Av
theorem tsz0 : tsz Tryd.prog 0 = some 1 := by kernel_rfl
theorem tby0 : tby Tryd.prog 0 = some 0 := by kernel_rfl
theorem tz0 : tzero Tryd.prog 0 = some (Value.tuple #[]) := by kernel_rfl
theorem tsz1 : tsz Tryd.prog 1 = some 1 := by kernel_rfl
theorem tby1 : tby Tryd.prog 1 = some 8 := by kernel_rfl
theorem tz1 : tzero Tryd.prog 1 = some Value.nilFunc := by kernel_rfl
theorem tsz2 : tsz Tryd.prog 2 = some 1 := by kernel_rfl
theorem tby2 : tby Tryd.prog 2 = some 8 := by kernel_rfl
theorem tz2 : tzero Tryd.prog 2 = some (Value.int IntKind.i64 0) := by kernel_rfl
theorem tsz3 : tsz Tryd.prog 3 = some 1 := by kernel_rfl
theorem tby3 : tby Tryd.prog 3 = some 8 := by kernel_rfl
theorem tz3 : tzero Tryd.prog 3 = some (Value.int IntKind.i64 0) := by kernel_rfl
theorem tsz4 : tsz Tryd.prog 4 = some 1 := by kernel_rfl
theorem tby4 : tby Tryd.prog 4 = some 1 := by kernel_rfl
theorem tz4 : tzero Tryd.prog 4 = some (Value.bool false) := by kernel_rfl
theorem tsz5 : tsz Tryd.prog 5 = some 1 := by kernel_rfl
theorem tby5 : tby Tryd.prog 5 = some 1 := by kernel_rfl
theorem tz5 : tzero Tryd.prog 5 = some (Value.int IntKind.u8 0) := by kernel_rfl
theorem tsz6 : tsz Tryd.prog 6 = some 1 := by kernel_rfl
theorem tby6 : tby Tryd.prog 6 = some 1 := by kernel_rfl
theorem tz6 : tzero Tryd.prog 6 = some (Value.int IntKind.u8 0) := by kernel_rfl
theorem tsz7 : tsz Tryd.prog 7 = some 4 := by kernel_rfl
theorem tby7 : tby Tryd.prog 7 = some 24 := by kernel_rfl
theorem tz7 : tzero Tryd.prog 7 = some (Value.agg #[(Value.int IntKind.i64 0), (Value.int IntKind.i64 0), (Value.bool false), (Value.int IntKind.u8 0)]) := by kernel_rfl
theorem fo7_0 : fieldOff Tryd.prog 7 0 = some 0 := by kernel_rfl
theorem fo7_1 : fieldOff Tryd.prog 7 1 = some 1 := by kernel_rfl
theorem fo7_2 : fieldOff Tryd.prog 7 2 = some 2 := by kernel_rfl
theorem fo7_3 : fieldOff Tryd.prog 7 3 = some 3 := by kernel_rfl
theorem tsz8 : tsz Tryd.prog 8 = some 4 := by kernel_rfl
theorem tby8 : tby Tryd.prog 8 = some 24 := by kernel_rfl
theorem tz8 : tzero Tryd.prog 8 = some (Value.agg #[(Value.int IntKind.i64 0), (Value.int IntKind.i64 0), (Value.bool false), (Value.int IntKind.u8 0)]) := by kernel_rfl
theorem fo8_0 : fieldOff Tryd.prog 8 0 = some 0 := by kernel_rfl
theorem fo8_1 : fieldOff Tryd.prog 8 1 = some 1 := by kernel_rfl
theorem fo8_2 : fieldOff Tryd.prog 8 2 = some 2 := by kernel_rfl
theorem fo8_3 : fieldOff Tryd.prog 8 3 = some 3 := by kernel_rfl
theorem tsz9 : tsz Tryd.prog 9 = some 1 := by kernel_rfl
theorem tby9 : tby Tryd.prog 9 = some 16 := by kernel_rfl
theorem tsz10 : tsz Tryd.prog 10 = some 1 := by kernel_rfl
theorem tby10 : tby Tryd.prog 10 = some 16 := by kernel_rfl
theorem tsz12 : tsz Tryd.prog 12 = some 1 := by kernel_rfl
theorem tby12 : tby Tryd.prog 12 = some 8 := by kernel_rfl
theorem tz12 : tzero Tryd.prog 12 = some (Value.int IntKind.u64 0) := by kernel_rfl
theorem tsz16 : tsz Tryd.prog 16 = some 1 := by kernel_rfl
theorem tby16 : tby Tryd.prog 16 = some 8 := by kernel_rfl
theorem tz16 : tzero Tryd.prog 16 = some (Value.pointer none) := by kernel_rfl
theorem tsz17 : tsz Tryd.prog 17 = some 1 := by kernel_rfl
theorem tby17 : tby Tryd.prog 17 = some 8 := by kernel_rfl
theorem tz17 : tzero Tryd.prog 17 = some (Value.pointer none) := by kernel_rfl
theorem tsz20 : tsz Tryd.prog 20 = some 1 := by kernel_rfl
theorem tby20 : tby Tryd.prog 20 = some 16 := by kernel_rfl
theorem tz20 : tzero Tryd.prog 20 = some Value.nilIface := by kernel_rfl
theorem tsz21 : tsz Tryd.prog 21 = some 1 := by kernel_rfl
theorem tby21 : tby Tryd.prog 21 = some 4 := by kernel_rfl
theorem tz21 : tzero Tryd.prog 21 = some (Value.int IntKind.i32 0) := by kernel_rfl
theorem tsz22 : tsz Tryd.prog 22 = some 1 := by kernel_rfl
theorem tby22 : tby Tryd.prog 22 = some 24 := by kernel_rfl
theorem tz22 : tzero Tryd.prog 22 = some (Value.slice none 0 0) := by kernel_rfl
theorem tsz23 : tsz Tryd.prog 23 = some 1 := by kernel_rfl
theorem tby23 : tby Tryd.prog 23 = some 24 := by kernel_rfl
theorem tz23 : tzero Tryd.prog 23 = some (Value.slice none 0 0) := by kernel_rfl
theorem tsz24 : tsz Tryd.prog 24 = some 2 := by kernel_rfl
theorem tby24 : tby Tryd.prog 24 = some 32 := by kernel_rfl
theorem tz24 : tzero Tryd.prog 24 = some (Value.agg #[(Value.int IntKind.i64 0), (Value.slice none 0 0)]) := by kernel_rfl
theorem fo24_0 : fieldOff Tryd.prog 24 0 = some 0 := by kernel_rfl
theorem fo24_1 : fieldOff Tryd.prog 24 1 = some 1 := by kernel_rfl
theorem tsz25 : tsz Tryd.prog 25 = some 2 := by kernel_rfl
theorem tby25 : tby Tryd.prog 25 = some 32 := by kernel_rfl
theorem tz25 : tzero Tryd.prog 25 = some (Value.agg #[(Value.int IntKind.i64 0), (Value.slice none 0 0)]) := by kernel_rfl
theorem fo25_0 : fieldOff Tryd.prog 25 0 = some 0 := by kernel_rfl
theorem fo25_1 : fieldOff Tryd.prog 25 1 = some 1 := by kernel_rfl
theorem tsz30 : tsz Tryd.prog 30 = some 1 := by kernel_rfl
theorem tby30 : tby Tryd.prog 30 = some 24 := by kernel_rfl
theorem tz30 : tzero Tryd.prog 30 = some (Value.slice none 0 0) := by kernel_rfl
theorem tsz32 : tsz Tryd.prog 32 = some 1 := by kernel_rfl
theorem tby32 : tby Tryd.prog 32 = some 8 := by kernel_rfl
theorem tz32 : tzero Tryd.prog 32 = some Value.nilFunc := by kernel_rfl
theorem tsz40 : tsz Tryd.prog 40 = some 1 := by kernel_rfl
theorem tby40 : tby Tryd.prog 40 = some 8 := by kernel_rfl
theorem tz40 : tzero Tryd.prog 40 = some Value.nilFunc := by kernel_rfl
theorem tsz44 : tsz Tryd.prog 44 = some 1 := by kernel_rfl
theorem tby44 : tby Tryd.prog 44 = some 8 := by kernel_rfl
theorem tz44 : tzero Tryd.prog 44 = some Value.nilFunc := by kernel_rfl
theorem tsz46 : tsz Tryd.prog 46 = some 1 := by kernel_rfl
theorem tby46 : tby Tryd.prog 46 = some 8 := by kernel_rfl
theorem tz46 : tzero Tryd.prog 46 = some (Value.pointer none) := by kernel_rfl
theorem tsz50 : tsz Tryd.prog 50 = some 3 := by kernel_rfl
theorem tby50 : tby Tryd.prog 50 = some 24 := by kernel_rfl
theorem tz50 : tzero Tryd.prog 50 = some (Value.agg #[(Value.int IntKind.i64 0), (Value.int IntKind.i64 0), (Value.int IntKind.i64 0)]) := by kernel_rfl
theorem peq50 : plainEq Tryd.prog 50 = true := by kernel_rfl
theorem fo50_0 : fieldOff Tryd.prog 50 0 = some 0 := by kernel_rfl
theorem fo50_1 : fieldOff Tryd.prog 50 1 = some 1 := by kernel_rfl
theorem fo50_2 : fieldOff Tryd.prog 50 2 = some 2 := by kernel_rfl
theorem tsz51 : tsz Tryd.prog 51 = some 3 := by kernel_rfl
theorem tby51 : tby Tryd.prog 51 = some 24 := by kernel_rfl
theorem tz51 : tzero Tryd.prog 51 = some (Value.agg #[(Value.int IntKind.i64 0), (Value.int IntKind.i64 0), (Value.int IntKind.i64 0)]) := by kernel_rfl
theorem peq51 : plainEq Tryd.prog 51 = true := by kernel_rfl
theorem fo51_0 : fieldOff Tryd.prog 51 0 = some 0 := by kernel_rfl
theorem fo51_1 : fieldOff Tryd.prog 51 1 = some 1 := by kernel_rfl
theorem fo51_2 : fieldOff Tryd.prog 51 2 = some 2 := by kernel_rfl
theorem tsz53 : tsz Tryd.prog 53 = some 1 := by kernel_rfl
theorem tby53 : tby Tryd.prog 53 = some 4 := by kernel_rfl
theorem tz53 : tzero Tryd.prog 53 = some (Value.int IntKind.u32 0) := by kernel_rfl
theorem tsz54 : tsz Tryd.prog 54 = some 1 := by kernel_rfl
theorem tby54 : tby Tryd.prog 54 = some 4 := by kernel_rfl
theorem tz54 : tzero Tryd.prog 54 = some (Value.int IntKind.u32 0) := by kernel_rfl
theorem tsz55 : tsz Tryd.prog 55 = some 1 := by kernel_rfl
theorem tby55 : tby Tryd.prog 55 = some 24 := by kernel_rfl
theorem tz55 : tzero Tryd.prog 55 = some (Value.slice none 0 0) := by kernel_rfl
theorem tsz60 : tsz Tryd.prog 60 = some 1 := by kernel_rfl
theorem tby60 : tby Tryd.prog 60 = some 8 := by kernel_rfl
theorem tz60 : tzero Tryd.prog 60 = some Value.nilFunc := by kernel_rfl
theorem tsz69 : tsz Tryd.prog 69 = some 1 := by kernel_rfl
theorem tby69 : tby Tryd.prog 69 = some 24 := by kernel_rfl
theorem tz69 : tzero Tryd.prog 69 = some (Value.slice none 0 0) := by kernel_rfl
theorem tsz71 : tsz Tryd.prog 71 = some 2 := by kernel_rfl
theorem tby71 : tby Tryd.prog 71 = some 32 := by kernel_rfl
theorem tz71 : tzero Tryd.prog 71 = some (Value.agg #[(Value.slice none 0 0), (Value.int IntKind.i64 0)]) := by kernel_rfl
theorem fo71_0 : fieldOff Tryd.prog 71 0 = some 0 := by kernel_rfl
theorem fo71_1 : fieldOff Tryd.prog 71 1 = some 1 := by kernel_rfl
theorem tsz72 : tsz Tryd.prog 72 = some 2 := by kernel_rfl
theorem tby72 : tby Tryd.prog 72 = some 32 := by kernel_rfl
theorem tz72 : tzero Tryd.prog 72 = some (Value.agg #[(Value.slice none 0 0), (Value.int IntKind.i64 0)]) := by kernel_rfl
theorem fo72_0 : fieldOff Tryd.prog 72 0 = some 0 := by kernel_rfl
theorem fo72_1 : fieldOff Tryd.prog 72 1 = some 1 := by kernel_rfl
theorem tsz77 : tsz Tryd.prog 77 = some 1 := by kernel_rfl
theorem tby77 : tby Tryd.prog 77 = some 8 := by kernel_rfl
theorem tz77 : tzero Tryd.prog 77 = some (Value.int IntKind.u64 0) := by kernel_rfl
theorem tsz81 : tsz Tryd.prog 81 = some 1 := by kernel_rfl
theorem tby81 : tby Tryd.prog 81 = some 0 := by kernel_rfl
theorem tz81 : tzero Tryd.prog 81 = some (Value.tuple #[(Value.agg #[(Value.int IntKind.i64 0), (Value.slice none 0 0)]), (Value.bool false)]) := by kernel_rfl
theorem tsz86 : tsz Tryd.prog 86 = some 1 := by kernel_rfl
theorem tby86 : tby Tryd.prog 86 = some 8 := by kernel_rfl
theorem tz86 : tzero Tryd.prog 86 = some (Value.int IntKind.i64 0) := by kernel_rfl
theorem tsz87 : tsz Tryd.prog 87 = some 1 := by kernel_rfl
theorem tby87 : tby Tryd.prog 87 = some 0 := by kernel_rfl
theorem tz87 : tzero Tryd.prog 87 = some (Value.tuple #[(Value.int IntKind.i64 0), (Value.int IntKind.i64 0)]) := by kernel_rfl
theorem tsz91 : tsz Tryd.prog 91 = some 1 := by kernel_rfl
theorem tby91 : tby Tryd.prog 91 = some 0 := by kernel_rfl
theorem tz91 : tzero Tryd.prog 91 = some (Value.tuple #[(Value.int IntKind.i64 0), (Value.bool false)]) := by kernel_rfl
theorem tsz94 : tsz Tryd.prog 94 = some 1 := by kernel_rfl
theorem tby94 : tby Tryd.prog 94 = some 8 := by kernel_rfl
theorem tz94 : tzero Tryd.prog 94 = some (Value.int IntKind.u64 0) := by kernel_rfl
theorem tsz95 : tsz Tryd.prog 95 = some 32 := by kernel_rfl
theorem tby95 : tby Tryd.prog 95 = some 32 := by kernel_rfl
theorem tz95 : tzero Tryd.prog 95 = some (Value.agg #[(Value.int IntKind.u8 0), (Value.int IntKind.u8 0), (Value.int IntKind.u8 0), (Value.int IntKind.u8 0), (Value.int IntKind.u8 0), (Value.int IntKind.u8 0), (Value.int IntKind.u8 0), (Value.int IntKind.u8 0), (Value.int IntKind.u8 0), (Value.int IntKind.u8 0), (Value.int IntKind.u8 0), (Value.int IntKind.u8 0), (Value.int IntKind.u8 0), (Value.int IntKind.u8 0), (Value.int IntKind.u8 0), (Value.int IntKind.u8 0), (Value.int IntKind.u8 0), (Value.int IntKind.u8 0), (Value.int IntKind.u8 0), (Value.int IntKind.u8 0), (Value.int IntKind.u8 0), (Value.int IntKind.u8 0), (Value.int IntKind.u8 0), (Value.int IntKind.u8 0), (Value.int IntKind.u8 0), (Value.int IntKind.u8 0), (Value.int IntKind.u8 0), (Value.int IntKind.u8 0), (Value.int IntKind.u8 0), (Value.int IntKind.u8 0), (Value.int IntKind.u8 0), (Value.int IntKind.u8 0)]) := by kernel_rfl
theorem tsz96 : tsz Tryd.prog 96 = some 1 := by kernel_rfl
theorem tby96 : tby Tryd.prog 96 = some 8 := by kernel_rfl
theorem tz96 : tzero Tryd.prog 96 = some (Value.int IntKind.u64 0) := by kernel_rfl
theorem tsz100 : tsz Tryd.prog 100 = some 1 := by kernel_rfl
theorem tby100 : tby Tryd.prog 100 = some 8 := by kernel_rfl
theorem tz100 : tzero Tryd.prog 100 = some (Value.pointer none) := by kernel_rfl
theorem tsz102 : tsz Tryd.prog 102 = some 1 := by kernel_rfl
theorem tby102 : tby Tryd.prog 102 = some 8 := by kernel_rfl
theorem tz102 : tzero Tryd.prog 102 = some (Value.pointer none) := by kernel_rfl
theorem tsz103 : tsz Tryd.prog 103 = some 1 := by kernel_rfl
theorem tby103 : tby Tryd.prog 103 = some 0 := by kernel_rfl
theorem tz103 : tzero Tryd.prog 103 = some (Value.tuple #[(Value.int IntKind.i64 0), (Value.int IntKind.i64 0)]) := by kernel_rfl
theorem tsz108 : tsz Tryd.prog 108 = some 0 := by kernel_rfl
theorem tby108 : tby Tryd.prog 108 = some 0 := by kernel_rfl
theorem tz108 : tzero Tryd.prog 108 = some (Value.agg #[]) := by kernel_rfl
theorem tsz109 : tsz Tryd.prog 109 = some 0 := by kernel_rfl
theorem tby109 : tby Tryd.prog 109 = some 0 := by kernel_rfl
theorem tz109 : tzero Tryd.prog 109 = some (Value.agg #[]) := by kernel_rfl
theorem tsz110 : tsz Tryd.prog 110 = some 0 := by kernel_rfl
theorem tby110 : tby Tryd.prog 110 = some 0 := by kernel_rfl
theorem tz110 : tzero Tryd.prog 110 = some (Value.agg #[]) := by kernel_rfl
theorem tsz111 : tsz Tryd.prog 111 = some 1 := by kernel_rfl
theorem tby111 : tby Tryd.prog 111 = some 1 := by kernel_rfl
theorem tz111 : tzero Tryd.prog 111 = some (Value.int IntKind.u8 0) := by kernel_rfl
theorem tsz112 : tsz Tryd.prog 112 = some 1 := by kernel_rfl
theorem tby112 : tby Tryd.prog 112 = some 1 := by kernel_rfl
theorem tz112 : tzero Tryd.prog 112 = some (Value.int IntKind.u8 0) := by kernel_rfl
theorem tsz113 : tsz Tryd.prog 113 = some 1 := by kernel_rfl
theorem tby113 : tby Tryd.prog 113 = some 8 := by kernel_rfl
theorem tz113 : tzero Tryd.prog 113 = some Value.nilFunc := by kernel_rfl
theorem tsz114 : tsz Tryd.prog 114 = some 1 := by kernel_rfl
theorem tby114 : tby Tryd.prog 114 = some 8 := by kernel_rfl
theorem tz114 : tzero Tryd.prog 114 = some (Value.pointer none) := by kernel_rfl
theorem tsz115 : tsz Tryd.prog 115 = some 1 := by kernel_rfl
theorem tby115 : tby Tryd.prog 115 = some 4 := by kernel_rfl
theorem tz115 : tzero Tryd.prog 115 = some (Value.int IntKind.i32 0) := by kernel_rfl
theorem tsz116 : tsz Tryd.prog 116 = some 1 := by kernel_rfl
theorem tby116 : tby Tryd.prog 116 = some 4 := by kernel_rfl
theorem tz116 : tzero Tryd.prog 116 = some (Value.int IntKind.i32 0) := by kernel_rfl
theorem tsz117 : tsz Tryd.prog 117 = some 11 := by kernel_rfl
theorem tby117 : tby Tryd.prog 117 = some 48 := by kernel_rfl
theorem tz117 : tzero Tryd.prog 117 = some (Value.agg #[(Value.int IntKind.u64 0), (Value.int IntKind.u64 0), (Value.int IntKind.u32 0), (Value.int IntKind.u8 0), (Value.int IntKind.u8 0), (Value.int IntKind.u8 0), (Value.int IntKind.u8 0), Value.nilFunc, (Value.pointer none), (Value.int IntKind.i32 0), (Value.int IntKind.i32 0)]) := by kernel_rfl
theorem fo117_0 : fieldOff Tryd.prog 117 0 = some 0 := by kernel_rfl
theorem fo117_1 : fieldOff Tryd.prog 117 1 = some 1 := by kernel_rfl
theorem fo117_2 : fieldOff Tryd.prog 117 2 = some 2 := by kernel_rfl
theorem fo117_3 : fieldOff Tryd.prog 117 3 = some 3 := by kernel_rfl
theorem fo117_4 : fieldOff Tryd.prog 117 4 = some 4 := by kernel_rfl
theorem fo117_5 : fieldOff Tryd.prog 117 5 = some 5 := by kernel_rfl
theorem fo117_6 : fieldOff Tryd.prog 117 6 = some 6 := by kernel_rfl
theorem fo117_7 : fieldOff Tryd.prog 117 7 = some 7 := by kernel_rfl
theorem fo117_8 : fieldOff Tryd.prog 117 8 = some 8 := by kernel_rfl
theorem fo117_9 : fieldOff Tryd.prog 117 9 = some 9 := by kernel_rfl
theorem fo117_10 : fieldOff Tryd.prog 117 10 = some 10 := by kernel_rfl
theorem tsz118 : tsz Tryd.prog 118 = some 11 := by kernel_rfl
theorem tby118 : tby Tryd.prog 118 = some 48 := by kernel_rfl
theorem tz118 : tzero Tryd.prog 118 = some (Value.agg #[(Value.int IntKind.u64 0), (Value.int IntKind.u64 0), (Value.int IntKind.u32 0), (Value.int IntKind.u8 0), (Value.int IntKind.u8 0), (Value.int IntKind.u8 0), (Value.int IntKind.u8 0), Value.nilFunc, (Value.pointer none), (Value.int IntKind.i32 0), (Value.int IntKind.i32 0)]) := by kernel_rfl
theorem fo118_0 : fieldOff Tryd.prog 118 0 = some 0 := by kernel_rfl
theorem fo118_1 : fieldOff Tryd.prog 118 1 = some 1 := by kernel_rfl
theorem fo118_2 : fieldOff Tryd.prog 118 2 = some 2 := by kernel_rfl
theorem fo118_3 : fieldOff Tryd.prog 118 3 = some 3 := by kernel_rfl
theorem fo118_4 : fieldOff Tryd.prog 118 4 = some 4 := by kernel_rfl
theorem fo118_5 : fieldOff Tryd.prog 118 5 = some 5 := by kernel_rfl
theorem fo118_6 : fieldOff Tryd.prog 118 6 = some 6 := by kernel_rfl
theorem fo118_7 : fieldOff Tryd.prog 118 7 = some 7 := by kernel_rfl
theorem fo118_8 : fieldOff Tryd.prog 118 8 = some 8 := by kernel_rfl
theorem fo118_9 : fieldOff Tryd.prog 118 9 = some 9 := by kernel_rfl
theorem fo118_10 : fieldOff Tryd.prog 118 10 = some 10 := by kernel_rfl
theorem tsz119 : tsz Tryd.prog 119 = some 1 := by kernel_rfl
theorem tby119 : tby Tryd.prog 119 = some 8 := by kernel_rfl
theorem tz119 : tzero Tryd.prog 119 = some (Value.pointer none) := by kernel_rfl
theorem en8 : Enters Tryd.prog 8 := Enters.of Tryd.func8 (by kernel_rfl) (by kernel_rfl)
theorem en14 : Enters Tryd.prog 14 := Enters.of Tryd.func14 (by kernel_rfl) (by kernel_rfl)
theorem en15 : Enters Tryd.prog 15 := Enters.of Tryd.func15 (by kernel_rfl) (by kernel_rfl)
theorem en18 : Enters Tryd.prog 18 := Enters.of Tryd.func18 (by kernel_rfl) (by kernel_rfl)
theorem en19 : Enters Tryd.prog 19 := Enters.of Tryd.func19 (by kernel_rfl) (by kernel_rfl)
theorem en26 : Enters Tryd.prog 26 := Enters.of Tryd.func26 (by kernel_rfl) (by kernel_rfl)
theorem en30 : Enters Tryd.prog 30 := Enters.of Tryd.func30 (by kernel_rfl) (by kernel_rfl)
theorem en31 : Enters Tryd.prog 31 := Enters.of Tryd.func31 (by kernel_rfl) (by kernel_rfl)
theorem en32 : Enters Tryd.prog 32 := Enters.of Tryd.func32 (by kernel_rfl) (by kernel_rfl)
theorem en33 : Enters Tryd.prog 33 := Enters.of Tryd.func33 (by kernel_rfl) (by kernel_rfl)
theorem en34 : Enters Tryd.prog 34 := Enters.of Tryd.func34 (by kernel_rfl) (by kernel_rfl)
theorem en35 : Enters Tryd.prog 35 := Enters.of Tryd.func35 (by kernel_rfl) (by kernel_rfl)
theorem en36 : Enters Tryd.prog 36 := Enters.of Tryd.func36 (by kernel_rfl) (by kernel_rfl)
theorem en37 : Enters Tryd.prog 37 := Enters.of Tryd.func37 (by kernel_rfl) (by kernel_rfl)
theorem en39 : Enters Tryd.prog 39 := Enters.of Tryd.func39 (by kernel_rfl) (by kernel_rfl)
theorem en40 : Enters Tryd.prog 40 := Enters.of Tryd.func40 (by kernel_rfl) (by kernel_rfl)
theorem en41 : Enters Tryd.prog 41 := Enters.of Tryd.func41 (by kernel_rfl) (by kernel_rfl)
theorem en42 : Enters Tryd.prog 42 := Enters.of Tryd.func42 (by kernel_rfl) (by kernel_rfl)
theorem en43 : Enters Tryd.prog 43 := Enters.of Tryd.func43 (by kernel_rfl) (by kernel_rfl)
theorem en44 : Enters Tryd.prog 44 := Enters.of Tryd.func44 (by kernel_rfl) (by kernel_rfl)
theorem en45 : Enters Tryd.prog 45 := Enters.of Tryd.func45 (by kernel_rfl) (by kernel_rfl)
theorem en46 : Enters Tryd.prog 46 := Enters.of Tryd.func46 (by kernel_rfl) (by kernel_rfl)
theorem en47 : Enters Tryd.prog 47 := Enters.of Tryd.func47 (by kernel_rfl) (by kernel_rfl)
theorem en48 : Enters Tryd.prog 48 := Enters.of Tryd.func48 (by kernel_rfl) (by kernel_rfl)
theorem en49 : Enters Tryd.prog 49 := Enters.of Tryd.func49 (by kernel_rfl) (by kernel_rfl)
theorem en50 : Enters Tryd.prog 50 := Enters.of Tryd.func50 (by kernel_rfl) (by kernel_rfl)
theorem en54 : Enters Tryd.prog 54 := Enters.of Tryd.func54 (by kernel_rfl) (by kernel_rfl)
theorem en55 : Enters Tryd.prog 55 := Enters.of Tryd.func55 (by kernel_rfl) (by kernel_rfl)
theorem en56 : Enters Tryd.prog 56 := Enters.of Tryd.func56 (by kernel_rfl) (by kernel_rfl)
theorem en57 : Enters Tryd.prog 57 := Enters.of Tryd.func57 (by kernel_rfl) (by kernel_rfl)
theorem en58 : Enters Tryd.prog 58 := Enters.of Tryd.func58 (by kernel_rfl) (by kernel_rfl)
theorem en59 : Enters Tryd.prog 59 := Enters.of Tryd.func59 (by kernel_rfl) (by kernel_rfl)
theorem en60 : Enters Tryd.prog 60 := Enters.of Tryd.func60 (by kernel_rfl) (by kernel_rfl)
theorem en62 : Enters Tryd.prog 62 := Enters.of Tryd.func62 (by kernel_rfl) (by kernel_rfl)
theorem en63 : Enters Tryd.prog 63 := Enters.of Tryd.func63 (by kernel_rfl) (by kernel_rfl)
theorem en64 : Enters Tryd.prog 64 := Enters.of Tryd.func64 (by kernel_rfl) (by kernel_rfl)
theorem en65 : Enters Tryd.prog 65 := Enters.of Tryd.func65 (by kernel_rfl) (by kernel_rfl)
theorem en66 : Enters Tryd.prog 66 := Enters.of Tryd.func66 (by kernel_rfl) (by kernel_rfl)
theorem en67 : Enters Tryd.prog 67 := Enters.of Tryd.func67 (by kernel_rfl) (by kernel_rfl)
theorem en68 : Enters Tryd.prog 68 := Enters.of Tryd.func68 (by kernel_rfl) (by kernel_rfl)
theorem en69 : Enters Tryd.prog 69 := Enters.of Tryd.func69 (by kernel_rfl) (by kernel_rfl)
theorem en70 : Enters Tryd.prog 70 := Enters.of Tryd.func70 (by kernel_rfl) (by kernel_rfl)
theorem en71 : Enters Tryd.prog 71 := Enters.of Tryd.func71 (by kernel_rfl) (by kernel_rfl)
theorem en72 : Enters Tryd.prog 72 := Enters.of Tryd.func72 (by kernel_rfl) (by kernel_rfl)
theorem en73 : Enters Tryd.prog 73 := Enters.of Tryd.func73 (by kernel_rfl) (by kernel_rfl)
theorem en74 : Enters Tryd.prog 74 := Enters.of Tryd.func74 (by kernel_rfl) (by kernel_rfl)
theorem en75 : Enters Tryd.prog 75 := Enters.of Tryd.func75 (by kernel_rfl) (by kernel_rfl)
theorem en76 : Enters Tryd.prog 76 := Enters.of Tryd.func76 (by kernel_rfl) (by kernel_rfl)
theorem en77 : Enters Tryd.prog 77 := Enters.of Tryd.func77 (by kernel_rfl) (by kernel_rfl)
theorem en78 : Enters Tryd.prog 78 := Enters.of Tryd.func78 (by kernel_rfl) (by kernel_rfl)
theorem en79 : Enters Tryd.prog 79 := Enters.of Tryd.func79 (by kernel_rfl) (by kernel_rfl)
theorem en80 : Enters Tryd.prog 80 := Enters.of Tryd.func80 (by kernel_rfl) (by kernel_rfl)
theorem en81 : Enters Tryd.prog 81 := Enters.of Tryd.func81 (by kernel_rfl) (by kernel_rfl)
theorem en82 : Enters Tryd.prog 82 := Enters.of Tryd.func82 (by kernel_rfl) (by kernel_rfl)
theorem en83 : Enters Tryd.prog 83 := Enters.of Tryd.func83 (by kernel_rfl) (by kernel_rfl)
theorem en84 : Enters Tryd.prog 84 := Enters.of Tryd.func84 (by kernel_rfl) (by kernel_rfl)
theorem en85 : Enters Tryd.prog 85 := Enters.of Tryd.func85 (by kernel_rfl) (by kernel_rfl)
theorem en86 : Enters Tryd.prog 86 := Enters.of Tryd.func86 (by kernel_rfl) (by kernel_rfl)
theorem en87 : Enters Tryd.prog 87 := Enters.of Tryd.func87 (by kernel_rfl) (by kernel_rfl)
theorem en88 : Enters Tryd.prog 88 := Enters.of Tryd.func88 (by kernel_rfl) (by kernel_rfl)
theorem en89 : Enters Tryd.prog 89 := Enters.of Tryd.func89 (by kernel_rfl) (by kernel_rfl)
theorem en90 : Enters Tryd.prog 90 := Enters.of Tryd.func90 (by kernel_rfl) (by kernel_rfl)
def tab0 : List Int := [0, 1, 28, 2, 29, 14, 24, 3, 30, 22, 20, 15, 25, 17, 4, 8, 31, 27, 13, 23, 21, 19, 16, 7, 26, 12, 18, 6, 11, 5, 10, 9]
theorem mixed : Tryd.prog.follows .mixedOrders = true := by kernel_rfl
end Go.Proofs.YtdjckcedpnabpaaDoor
