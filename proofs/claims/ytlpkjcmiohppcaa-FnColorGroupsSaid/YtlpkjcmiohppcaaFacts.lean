/- What the tables of the program say of its types and functions, looked up once. -/
import Derived.Test.YtlpkjcmiohppcaaAvU
import Derived.Test.YtlpkjcmiohppcaaProg
import Derived.KernelRfl
namespace Go.Proofs.Ytlpkjcmiohppcaa
open Go Go.Av
theorem tsz0 : tsz Try.prog 0 = some 1 := by kernel_rfl
theorem tby0 : tby Try.prog 0 = some 0 := by kernel_rfl
theorem tz0 : tzero Try.prog 0 = some (Value.tuple #[]) := by kernel_rfl
theorem tsz1 : tsz Try.prog 1 = some 1 := by kernel_rfl
theorem tby1 : tby Try.prog 1 = some 8 := by kernel_rfl
theorem tz1 : tzero Try.prog 1 = some Value.nilFunc := by kernel_rfl
theorem tsz2 : tsz Try.prog 2 = some 1 := by kernel_rfl
theorem tby2 : tby Try.prog 2 = some 8 := by kernel_rfl
theorem tz2 : tzero Try.prog 2 = some (Value.int IntKind.i64 0) := by kernel_rfl
theorem tsz3 : tsz Try.prog 3 = some 1 := by kernel_rfl
theorem tby3 : tby Try.prog 3 = some 8 := by kernel_rfl
theorem tz3 : tzero Try.prog 3 = some (Value.int IntKind.i64 0) := by kernel_rfl
theorem tsz4 : tsz Try.prog 4 = some 1 := by kernel_rfl
theorem tby4 : tby Try.prog 4 = some 1 := by kernel_rfl
theorem tz4 : tzero Try.prog 4 = some (Value.bool false) := by kernel_rfl
theorem tsz5 : tsz Try.prog 5 = some 1 := by kernel_rfl
theorem tby5 : tby Try.prog 5 = some 1 := by kernel_rfl
theorem tz5 : tzero Try.prog 5 = some (Value.int IntKind.u8 0) := by kernel_rfl
theorem tsz6 : tsz Try.prog 6 = some 1 := by kernel_rfl
theorem tby6 : tby Try.prog 6 = some 1 := by kernel_rfl
theorem tz6 : tzero Try.prog 6 = some (Value.int IntKind.u8 0) := by kernel_rfl
theorem tsz7 : tsz Try.prog 7 = some 4 := by kernel_rfl
theorem tby7 : tby Try.prog 7 = some 24 := by kernel_rfl
theorem tz7 : tzero Try.prog 7 = some (Value.agg #[(Value.int IntKind.i64 0), (Value.int IntKind.i64 0), (Value.bool false), (Value.int IntKind.u8 0)]) := by kernel_rfl
theorem fo7_0 : fieldOff Try.prog 7 0 = some 0 := by kernel_rfl
theorem fo7_1 : fieldOff Try.prog 7 1 = some 1 := by kernel_rfl
theorem fo7_2 : fieldOff Try.prog 7 2 = some 2 := by kernel_rfl
theorem fo7_3 : fieldOff Try.prog 7 3 = some 3 := by kernel_rfl
theorem tsz8 : tsz Try.prog 8 = some 4 := by kernel_rfl
theorem tby8 : tby Try.prog 8 = some 24 := by kernel_rfl
theorem tz8 : tzero Try.prog 8 = some (Value.agg #[(Value.int IntKind.i64 0), (Value.int IntKind.i64 0), (Value.bool false), (Value.int IntKind.u8 0)]) := by kernel_rfl
theorem fo8_0 : fieldOff Try.prog 8 0 = some 0 := by kernel_rfl
theorem fo8_1 : fieldOff Try.prog 8 1 = some 1 := by kernel_rfl
theorem fo8_2 : fieldOff Try.prog 8 2 = some 2 := by kernel_rfl
theorem fo8_3 : fieldOff Try.prog 8 3 = some 3 := by kernel_rfl
theorem tsz9 : tsz Try.prog 9 = some 1 := by kernel_rfl
theorem tby9 : tby Try.prog 9 = some 16 := by kernel_rfl
theorem tsz10 : tsz Try.prog 10 = some 1 := by kernel_rfl
theorem tby10 : tby Try.prog 10 = some 16 := by kernel_rfl
theorem tsz12 : tsz Try.prog 12 = some 1 := by kernel_rfl
theorem tby12 : tby Try.prog 12 = some 8 := by kernel_rfl
theorem tz12 : tzero Try.prog 12 = some (Value.int IntKind.u64 0) := by kernel_rfl
theorem tsz16 : tsz Try.prog 16 = some 1 := by kernel_rfl
theorem tby16 : tby Try.prog 16 = some 8 := by kernel_rfl
theorem tz16 : tzero Try.prog 16 = some (Value.pointer none) := by kernel_rfl
theorem tsz17 : tsz Try.prog 17 = some 1 := by kernel_rfl
theorem tby17 : tby Try.prog 17 = some 8 := by kernel_rfl
theorem tz17 : tzero Try.prog 17 = some (Value.pointer none) := by kernel_rfl
theorem tsz20 : tsz Try.prog 20 = some 1 := by kernel_rfl
theorem tby20 : tby Try.prog 20 = some 16 := by kernel_rfl
theorem tz20 : tzero Try.prog 20 = some Value.nilIface := by kernel_rfl
theorem tsz21 : tsz Try.prog 21 = some 1 := by kernel_rfl
theorem tby21 : tby Try.prog 21 = some 4 := by kernel_rfl
theorem tz21 : tzero Try.prog 21 = some (Value.int IntKind.i32 0) := by kernel_rfl
theorem tsz22 : tsz Try.prog 22 = some 1 := by kernel_rfl
theorem tby22 : tby Try.prog 22 = some 24 := by kernel_rfl
theorem tz22 : tzero Try.prog 22 = some (Value.slice none 0 0) := by kernel_rfl
theorem tsz23 : tsz Try.prog 23 = some 1 := by kernel_rfl
theorem tby23 : tby Try.prog 23 = some 8 := by kernel_rfl
theorem tz23 : tzero Try.prog 23 = some Value.nilFunc := by kernel_rfl
theorem tsz24 : tsz Try.prog 24 = some 1 := by kernel_rfl
theorem tby24 : tby Try.prog 24 = some 8 := by kernel_rfl
theorem tz24 : tzero Try.prog 24 = some Value.nilFunc := by kernel_rfl
theorem tsz27 : tsz Try.prog 27 = some 1 := by kernel_rfl
theorem tby27 : tby Try.prog 27 = some 24 := by kernel_rfl
theorem tz27 : tzero Try.prog 27 = some (Value.slice none 0 0) := by kernel_rfl
theorem tsz32 : tsz Try.prog 32 = some 1 := by kernel_rfl
theorem tby32 : tby Try.prog 32 = some 24 := by kernel_rfl
theorem tz32 : tzero Try.prog 32 = some (Value.slice none 0 0) := by kernel_rfl
theorem tsz36 : tsz Try.prog 36 = some 1 := by kernel_rfl
theorem tby36 : tby Try.prog 36 = some 24 := by kernel_rfl
theorem tz36 : tzero Try.prog 36 = some (Value.slice none 0 0) := by kernel_rfl
theorem tsz37 : tsz Try.prog 37 = some 2 := by kernel_rfl
theorem tby37 : tby Try.prog 37 = some 32 := by kernel_rfl
theorem tz37 : tzero Try.prog 37 = some (Value.agg #[(Value.int IntKind.i64 0), (Value.slice none 0 0)]) := by kernel_rfl
theorem fo37_0 : fieldOff Try.prog 37 0 = some 0 := by kernel_rfl
theorem fo37_1 : fieldOff Try.prog 37 1 = some 1 := by kernel_rfl
theorem tsz38 : tsz Try.prog 38 = some 2 := by kernel_rfl
theorem tby38 : tby Try.prog 38 = some 32 := by kernel_rfl
theorem tz38 : tzero Try.prog 38 = some (Value.agg #[(Value.int IntKind.i64 0), (Value.slice none 0 0)]) := by kernel_rfl
theorem fo38_0 : fieldOff Try.prog 38 0 = some 0 := by kernel_rfl
theorem fo38_1 : fieldOff Try.prog 38 1 = some 1 := by kernel_rfl
theorem tsz40 : tsz Try.prog 40 = some 1 := by kernel_rfl
theorem tby40 : tby Try.prog 40 = some 8 := by kernel_rfl
theorem tz40 : tzero Try.prog 40 = some Value.nilFunc := by kernel_rfl
theorem tsz42 : tsz Try.prog 42 = some 1 := by kernel_rfl
theorem tby42 : tby Try.prog 42 = some 24 := by kernel_rfl
theorem tz42 : tzero Try.prog 42 = some (Value.slice none 0 0) := by kernel_rfl
theorem tsz43 : tsz Try.prog 43 = some 2 := by kernel_rfl
theorem tby43 : tby Try.prog 43 = some 32 := by kernel_rfl
theorem tz43 : tzero Try.prog 43 = some (Value.agg #[(Value.int IntKind.i64 0), (Value.slice none 0 0)]) := by kernel_rfl
theorem fo43_0 : fieldOff Try.prog 43 0 = some 0 := by kernel_rfl
theorem fo43_1 : fieldOff Try.prog 43 1 = some 1 := by kernel_rfl
theorem tsz44 : tsz Try.prog 44 = some 2 := by kernel_rfl
theorem tby44 : tby Try.prog 44 = some 32 := by kernel_rfl
theorem tz44 : tzero Try.prog 44 = some (Value.agg #[(Value.int IntKind.i64 0), (Value.slice none 0 0)]) := by kernel_rfl
theorem fo44_0 : fieldOff Try.prog 44 0 = some 0 := by kernel_rfl
theorem fo44_1 : fieldOff Try.prog 44 1 = some 1 := by kernel_rfl
theorem tsz63 : tsz Try.prog 63 = some 1 := by kernel_rfl
theorem tby63 : tby Try.prog 63 = some 8 := by kernel_rfl
theorem tz63 : tzero Try.prog 63 = some (Value.pointer none) := by kernel_rfl
theorem tsz70 : tsz Try.prog 70 = some 3 := by kernel_rfl
theorem tby70 : tby Try.prog 70 = some 24 := by kernel_rfl
theorem tz70 : tzero Try.prog 70 = some (Value.agg #[(Value.int IntKind.i64 0), (Value.int IntKind.i64 0), (Value.int IntKind.i64 0)]) := by kernel_rfl
theorem peq70 : plainEq Try.prog 70 = true := by kernel_rfl
theorem fo70_0 : fieldOff Try.prog 70 0 = some 0 := by kernel_rfl
theorem fo70_1 : fieldOff Try.prog 70 1 = some 1 := by kernel_rfl
theorem fo70_2 : fieldOff Try.prog 70 2 = some 2 := by kernel_rfl
theorem tsz71 : tsz Try.prog 71 = some 3 := by kernel_rfl
theorem tby71 : tby Try.prog 71 = some 24 := by kernel_rfl
theorem tz71 : tzero Try.prog 71 = some (Value.agg #[(Value.int IntKind.i64 0), (Value.int IntKind.i64 0), (Value.int IntKind.i64 0)]) := by kernel_rfl
theorem peq71 : plainEq Try.prog 71 = true := by kernel_rfl
theorem fo71_0 : fieldOff Try.prog 71 0 = some 0 := by kernel_rfl
theorem fo71_1 : fieldOff Try.prog 71 1 = some 1 := by kernel_rfl
theorem fo71_2 : fieldOff Try.prog 71 2 = some 2 := by kernel_rfl
theorem tsz84 : tsz Try.prog 84 = some 1 := by kernel_rfl
theorem tby84 : tby Try.prog 84 = some 4 := by kernel_rfl
theorem tz84 : tzero Try.prog 84 = some (Value.int IntKind.u32 0) := by kernel_rfl
theorem tsz88 : tsz Try.prog 88 = some 2 := by kernel_rfl
theorem tby88 : tby Try.prog 88 = some 32 := by kernel_rfl
theorem tz88 : tzero Try.prog 88 = some (Value.agg #[(Value.slice none 0 0), (Value.int IntKind.i64 0)]) := by kernel_rfl
theorem fo88_0 : fieldOff Try.prog 88 0 = some 0 := by kernel_rfl
theorem fo88_1 : fieldOff Try.prog 88 1 = some 1 := by kernel_rfl
theorem tsz89 : tsz Try.prog 89 = some 2 := by kernel_rfl
theorem tby89 : tby Try.prog 89 = some 32 := by kernel_rfl
theorem tz89 : tzero Try.prog 89 = some (Value.agg #[(Value.slice none 0 0), (Value.int IntKind.i64 0)]) := by kernel_rfl
theorem fo89_0 : fieldOff Try.prog 89 0 = some 0 := by kernel_rfl
theorem fo89_1 : fieldOff Try.prog 89 1 = some 1 := by kernel_rfl
theorem tsz92 : tsz Try.prog 92 = some 3 := by kernel_rfl
theorem tby92 : tby Try.prog 92 = some 24 := by kernel_rfl
theorem tz92 : tzero Try.prog 92 = some (Value.agg #[(Value.int IntKind.i64 0), (Value.int IntKind.i64 0), (Value.int IntKind.i64 0)]) := by kernel_rfl
theorem peq92 : plainEq Try.prog 92 = true := by kernel_rfl
theorem fo92_0 : fieldOff Try.prog 92 0 = some 0 := by kernel_rfl
theorem fo92_1 : fieldOff Try.prog 92 1 = some 1 := by kernel_rfl
theorem fo92_2 : fieldOff Try.prog 92 2 = some 2 := by kernel_rfl
theorem tsz106 : tsz Try.prog 106 = some 0 := by kernel_rfl
theorem tby106 : tby Try.prog 106 = some 0 := by kernel_rfl
theorem tz106 : tzero Try.prog 106 = some (Value.agg #[]) := by kernel_rfl
theorem tsz107 : tsz Try.prog 107 = some 0 := by kernel_rfl
theorem tby107 : tby Try.prog 107 = some 0 := by kernel_rfl
theorem tz107 : tzero Try.prog 107 = some (Value.agg #[]) := by kernel_rfl
theorem tsz108 : tsz Try.prog 108 = some 0 := by kernel_rfl
theorem tby108 : tby Try.prog 108 = some 0 := by kernel_rfl
theorem tz108 : tzero Try.prog 108 = some (Value.agg #[]) := by kernel_rfl
theorem tsz110 : tsz Try.prog 110 = some 1 := by kernel_rfl
theorem tby110 : tby Try.prog 110 = some 1 := by kernel_rfl
theorem tz110 : tzero Try.prog 110 = some (Value.int IntKind.u8 0) := by kernel_rfl
theorem tsz111 : tsz Try.prog 111 = some 1 := by kernel_rfl
theorem tby111 : tby Try.prog 111 = some 1 := by kernel_rfl
theorem tz111 : tzero Try.prog 111 = some (Value.int IntKind.u8 0) := by kernel_rfl
theorem tsz112 : tsz Try.prog 112 = some 1 := by kernel_rfl
theorem tby112 : tby Try.prog 112 = some 8 := by kernel_rfl
theorem tz112 : tzero Try.prog 112 = some Value.nilFunc := by kernel_rfl
theorem tsz113 : tsz Try.prog 113 = some 1 := by kernel_rfl
theorem tby113 : tby Try.prog 113 = some 8 := by kernel_rfl
theorem tz113 : tzero Try.prog 113 = some (Value.pointer none) := by kernel_rfl
theorem tsz114 : tsz Try.prog 114 = some 1 := by kernel_rfl
theorem tby114 : tby Try.prog 114 = some 4 := by kernel_rfl
theorem tz114 : tzero Try.prog 114 = some (Value.int IntKind.i32 0) := by kernel_rfl
theorem tsz115 : tsz Try.prog 115 = some 1 := by kernel_rfl
theorem tby115 : tby Try.prog 115 = some 4 := by kernel_rfl
theorem tz115 : tzero Try.prog 115 = some (Value.int IntKind.i32 0) := by kernel_rfl
theorem tsz116 : tsz Try.prog 116 = some 11 := by kernel_rfl
theorem tby116 : tby Try.prog 116 = some 48 := by kernel_rfl
theorem tz116 : tzero Try.prog 116 = some (Value.agg #[(Value.int IntKind.u64 0), (Value.int IntKind.u64 0), (Value.int IntKind.u32 0), (Value.int IntKind.u8 0), (Value.int IntKind.u8 0), (Value.int IntKind.u8 0), (Value.int IntKind.u8 0), Value.nilFunc, (Value.pointer none), (Value.int IntKind.i32 0), (Value.int IntKind.i32 0)]) := by kernel_rfl
theorem fo116_0 : fieldOff Try.prog 116 0 = some 0 := by kernel_rfl
theorem fo116_1 : fieldOff Try.prog 116 1 = some 1 := by kernel_rfl
theorem fo116_2 : fieldOff Try.prog 116 2 = some 2 := by kernel_rfl
theorem fo116_3 : fieldOff Try.prog 116 3 = some 3 := by kernel_rfl
theorem fo116_4 : fieldOff Try.prog 116 4 = some 4 := by kernel_rfl
theorem fo116_5 : fieldOff Try.prog 116 5 = some 5 := by kernel_rfl
theorem fo116_6 : fieldOff Try.prog 116 6 = some 6 := by kernel_rfl
theorem fo116_7 : fieldOff Try.prog 116 7 = some 7 := by kernel_rfl
theorem fo116_8 : fieldOff Try.prog 116 8 = some 8 := by kernel_rfl
theorem fo116_9 : fieldOff Try.prog 116 9 = some 9 := by kernel_rfl
theorem fo116_10 : fieldOff Try.prog 116 10 = some 10 := by kernel_rfl
theorem tsz117 : tsz Try.prog 117 = some 11 := by kernel_rfl
theorem tby117 : tby Try.prog 117 = some 48 := by kernel_rfl
theorem tz117 : tzero Try.prog 117 = some (Value.agg #[(Value.int IntKind.u64 0), (Value.int IntKind.u64 0), (Value.int IntKind.u32 0), (Value.int IntKind.u8 0), (Value.int IntKind.u8 0), (Value.int IntKind.u8 0), (Value.int IntKind.u8 0), Value.nilFunc, (Value.pointer none), (Value.int IntKind.i32 0), (Value.int IntKind.i32 0)]) := by kernel_rfl
theorem fo117_0 : fieldOff Try.prog 117 0 = some 0 := by kernel_rfl
theorem fo117_1 : fieldOff Try.prog 117 1 = some 1 := by kernel_rfl
theorem fo117_2 : fieldOff Try.prog 117 2 = some 2 := by kernel_rfl
theorem fo117_3 : fieldOff Try.prog 117 3 = some 3 := by kernel_rfl
theorem fo117_4 : fieldOff Try.prog 117 4 = some 4 := by kernel_rfl
theorem fo117_5 : fieldOff Try.prog 117 5 = some 5 := by kernel_rfl
theorem fo117_6 : fieldOff Try.prog 117 6 = some 6 := by kernel_rfl
theorem fo117_7 : fieldOff Try.prog 117 7 = some 7 := by kernel_rfl
theorem fo117_8 : fieldOff Try.prog 117 8 = some 8 := by kernel_rfl
theorem fo117_9 : fieldOff Try.prog 117 9 = some 9 := by kernel_rfl
theorem fo117_10 : fieldOff Try.prog 117 10 = some 10 := by kernel_rfl
theorem tsz118 : tsz Try.prog 118 = some 1 := by kernel_rfl
theorem tby118 : tby Try.prog 118 = some 8 := by kernel_rfl
theorem tz118 : tzero Try.prog 118 = some (Value.pointer none) := by kernel_rfl
theorem en5 : Enters Try.prog 5 := Enters.of Try.func5 (by kernel_rfl) (by kernel_rfl)
theorem en19 : Enters Try.prog 19 := Enters.of Try.func19 (by kernel_rfl) (by kernel_rfl)
theorem en20 : Enters Try.prog 20 := Enters.of Try.func20 (by kernel_rfl) (by kernel_rfl)
theorem en25 : Enters Try.prog 25 := Enters.of Try.func25 (by kernel_rfl) (by kernel_rfl)
theorem en26 : Enters Try.prog 26 := Enters.of Try.func26 (by kernel_rfl) (by kernel_rfl)
theorem en27 : Enters Try.prog 27 := Enters.of Try.func27 (by kernel_rfl) (by kernel_rfl)
theorem en48 : Enters Try.prog 48 := Enters.of Try.func48 (by kernel_rfl) (by kernel_rfl)
theorem en51 : Enters Try.prog 51 := Enters.of Try.func51 (by kernel_rfl) (by kernel_rfl)
theorem en52 : Enters Try.prog 52 := Enters.of Try.func52 (by kernel_rfl) (by kernel_rfl)
theorem en53 : Enters Try.prog 53 := Enters.of Try.func53 (by kernel_rfl) (by kernel_rfl)
theorem en54 : Enters Try.prog 54 := Enters.of Try.func54 (by kernel_rfl) (by kernel_rfl)
theorem en55 : Enters Try.prog 55 := Enters.of Try.func55 (by kernel_rfl) (by kernel_rfl)
theorem en74 : Enters Try.prog 74 := Enters.of Try.func74 (by kernel_rfl) (by kernel_rfl)
theorem mixed : Try.prog.follows .mixedOrders = true := by kernel_rfl
end Go.Proofs.Ytlpkjcmiohppcaa
