/- What the tables of the program say of its types and functions, looked up once. -/
import Derived.Test.YtncminpafiahpaaAvU
import Derived.Test.YtncminpafiahpaaProg
import Derived.KernelRfl
namespace Go.Proofs.Ytncminpafiahpaa
open Go Go.Av
theorem tsz0 : tsz Try.prog 0 = some 1 := by kernel_rfl
theorem tby0 : tby Try.prog 0 = some 0 := by kernel_rfl
theorem tz0 : tzero Try.prog 0 = some (Value.tuple #[]) := by kernel_rfl
theorem tsz1 : tsz Try.prog 1 = some 1 := by kernel_rfl
theorem tby1 : tby Try.prog 1 = some 8 := by kernel_rfl
theorem tz1 : tzero Try.prog 1 = some Value.nilFunc := by kernel_rfl
theorem tsz2 : tsz Try.prog 2 = some 1 := by kernel_rfl
theorem tby2 : tby Try.prog 2 = some 8 := by kernel_rfl
theorem tz2 : tzero Try.prog 2 = some (Value.int IntKind.i64 0) := by kernel_rfl
theorem tsz3 : tsz Try.prog 3 = some 1 := by kernel_rfl
theorem tby3 : tby Try.prog 3 = some 8 := by kernel_rfl
theorem tz3 : tzero Try.prog 3 = some (Value.int IntKind.i64 0) := by kernel_rfl
theorem tsz4 : tsz Try.prog 4 = some 1 := by kernel_rfl
theorem tby4 : tby Try.prog 4 = some 1 := by kernel_rfl
theorem tz4 : tzero Try.prog 4 = some (Value.bool false) := by kernel_rfl
theorem tsz5 : tsz Try.prog 5 = some 1 := by kernel_rfl
theorem tby5 : tby Try.prog 5 = some 1 := by kernel_rfl
theorem tz5 : tzero Try.prog 5 = some (Value.int IntKind.u8 0) := by kernel_rfl
theorem tsz6 : tsz Try.prog 6 = some 1 := by kernel_rfl
theorem tby6 : tby Try.prog 6 = some 1 := by kernel_rfl
theorem tz6 : tzero Try.prog 6 = some (Value.int IntKind.u8 0) := by kernel_rfl
theorem tsz7 : tsz Try.prog 7 = some 4 := by kernel_rfl
theorem tby7 : tby Try.prog 7 = some 24 := by kernel_rfl
theorem tz7 : tzero Try.prog 7 = some (Value.agg #[(Value.int IntKind.i64 0), (Value.int IntKind.i64 0), (Value.bool false), (Value.int IntKind.u8 0)]) := by kernel_rfl
theorem fo7_0 : fieldOff Try.prog 7 0 = some 0 := by kernel_rfl
theorem fo7_1 : fieldOff Try.prog 7 1 = some 1 := by kernel_rfl
theorem fo7_2 : fieldOff Try.prog 7 2 = some 2 := by kernel_rfl
theorem fo7_3 : fieldOff Try.prog 7 3 = some 3 := by kernel_rfl
theorem tsz8 : tsz Try.prog 8 = some 4 := by kernel_rfl
theorem tby8 : tby Try.prog 8 = some 24 := by kernel_rfl
theorem tz8 : tzero Try.prog 8 = some (Value.agg #[(Value.int IntKind.i64 0), (Value.int IntKind.i64 0), (Value.bool false), (Value.int IntKind.u8 0)]) := by kernel_rfl
theorem fo8_0 : fieldOff Try.prog 8 0 = some 0 := by kernel_rfl
theorem fo8_1 : fieldOff Try.prog 8 1 = some 1 := by kernel_rfl
theorem fo8_2 : fieldOff Try.prog 8 2 = some 2 := by kernel_rfl
theorem fo8_3 : fieldOff Try.prog 8 3 = some 3 := by kernel_rfl
theorem tsz9 : tsz Try.prog 9 = some 1 := by kernel_rfl
theorem tby9 : tby Try.prog 9 = some 16 := by kernel_rfl
theorem tsz10 : tsz Try.prog 10 = some 1 := by kernel_rfl
theorem tby10 : tby Try.prog 10 = some 16 := by kernel_rfl
theorem tsz12 : tsz Try.prog 12 = some 1 := by kernel_rfl
theorem tby12 : tby Try.prog 12 = some 8 := by kernel_rfl
theorem tz12 : tzero Try.prog 12 = some (Value.int IntKind.u64 0) := by kernel_rfl
theorem tsz16 : tsz Try.prog 16 = some 1 := by kernel_rfl
theorem tby16 : tby Try.prog 16 = some 8 := by kernel_rfl
theorem tz16 : tzero Try.prog 16 = some (Value.pointer none) := by kernel_rfl
theorem tsz17 : tsz Try.prog 17 = some 1 := by kernel_rfl
theorem tby17 : tby Try.prog 17 = some 8 := by kernel_rfl
theorem tz17 : tzero Try.prog 17 = some (Value.pointer none) := by kernel_rfl
theorem tsz20 : tsz Try.prog 20 = some 1 := by kernel_rfl
theorem tby20 : tby Try.prog 20 = some 16 := by kernel_rfl
theorem tz20 : tzero Try.prog 20 = some Value.nilIface := by kernel_rfl
theorem tsz21 : tsz Try.prog 21 = some 1 := by kernel_rfl
theorem tby21 : tby Try.prog 21 = some 4 := by kernel_rfl
theorem tz21 : tzero Try.prog 21 = some (Value.int IntKind.i32 0) := by kernel_rfl
theorem tsz22 : tsz Try.prog 22 = some 1 := by kernel_rfl
theorem tby22 : tby Try.prog 22 = some 24 := by kernel_rfl
theorem tz22 : tzero Try.prog 22 = some (Value.slice none 0 0) := by kernel_rfl
theorem tsz23 : tsz Try.prog 23 = some 2 := by kernel_rfl
theorem tby23 : tby Try.prog 23 = some 32 := by kernel_rfl
theorem tz23 : tzero Try.prog 23 = some (Value.agg #[(Value.int IntKind.i64 0), (Value.slice none 0 0)]) := by kernel_rfl
theorem fo23_0 : fieldOff Try.prog 23 0 = some 0 := by kernel_rfl
theorem fo23_1 : fieldOff Try.prog 23 1 = some 1 := by kernel_rfl
theorem tsz24 : tsz Try.prog 24 = some 2 := by kernel_rfl
theorem tby24 : tby Try.prog 24 = some 32 := by kernel_rfl
theorem tz24 : tzero Try.prog 24 = some (Value.agg #[(Value.int IntKind.i64 0), (Value.slice none 0 0)]) := by kernel_rfl
theorem fo24_0 : fieldOff Try.prog 24 0 = some 0 := by kernel_rfl
theorem fo24_1 : fieldOff Try.prog 24 1 = some 1 := by kernel_rfl
theorem tsz26 : tsz Try.prog 26 = some 1 := by kernel_rfl
theorem tby26 : tby Try.prog 26 = some 24 := by kernel_rfl
theorem tz26 : tzero Try.prog 26 = some (Value.slice none 0 0) := by kernel_rfl
theorem tsz32 : tsz Try.prog 32 = some 1 := by kernel_rfl
theorem tby32 : tby Try.prog 32 = some 8 := by kernel_rfl
theorem tz32 : tzero Try.prog 32 = some Value.nilFunc := by kernel_rfl
theorem tsz37 : tsz Try.prog 37 = some 1 := by kernel_rfl
theorem tby37 : tby Try.prog 37 = some 24 := by kernel_rfl
theorem tz37 : tzero Try.prog 37 = some (Value.slice none 0 0) := by kernel_rfl
theorem tsz38 : tsz Try.prog 38 = some 1 := by kernel_rfl
theorem tby38 : tby Try.prog 38 = some 24 := by kernel_rfl
theorem tz38 : tzero Try.prog 38 = some (Value.slice none 0 0) := by kernel_rfl
theorem tsz39 : tsz Try.prog 39 = some 5 := by kernel_rfl
theorem tby39 : tby Try.prog 39 = some 104 := by kernel_rfl
theorem tz39 : tzero Try.prog 39 = some (Value.agg #[(Value.slice none 0 0), (Value.int IntKind.i64 0), (Value.slice none 0 0), (Value.slice none 0 0), (Value.slice none 0 0)]) := by kernel_rfl
theorem fo39_0 : fieldOff Try.prog 39 0 = some 0 := by kernel_rfl
theorem fo39_1 : fieldOff Try.prog 39 1 = some 1 := by kernel_rfl
theorem fo39_2 : fieldOff Try.prog 39 2 = some 2 := by kernel_rfl
theorem fo39_3 : fieldOff Try.prog 39 3 = some 3 := by kernel_rfl
theorem fo39_4 : fieldOff Try.prog 39 4 = some 4 := by kernel_rfl
theorem tsz40 : tsz Try.prog 40 = some 5 := by kernel_rfl
theorem tby40 : tby Try.prog 40 = some 104 := by kernel_rfl
theorem tz40 : tzero Try.prog 40 = some (Value.agg #[(Value.slice none 0 0), (Value.int IntKind.i64 0), (Value.slice none 0 0), (Value.slice none 0 0), (Value.slice none 0 0)]) := by kernel_rfl
theorem fo40_0 : fieldOff Try.prog 40 0 = some 0 := by kernel_rfl
theorem fo40_1 : fieldOff Try.prog 40 1 = some 1 := by kernel_rfl
theorem fo40_2 : fieldOff Try.prog 40 2 = some 2 := by kernel_rfl
theorem fo40_3 : fieldOff Try.prog 40 3 = some 3 := by kernel_rfl
theorem fo40_4 : fieldOff Try.prog 40 4 = some 4 := by kernel_rfl
theorem tsz42 : tsz Try.prog 42 = some 1 := by kernel_rfl
theorem tby42 : tby Try.prog 42 = some 0 := by kernel_rfl
theorem tz42 : tzero Try.prog 42 = some (Value.tuple #[(Value.agg #[(Value.slice none 0 0), (Value.int IntKind.i64 0), (Value.slice none 0 0), (Value.slice none 0 0), (Value.slice none 0 0)]), (Value.int IntKind.i64 0)]) := by kernel_rfl
theorem tsz44 : tsz Try.prog 44 = some 1 := by kernel_rfl
theorem tby44 : tby Try.prog 44 = some 8 := by kernel_rfl
theorem tz44 : tzero Try.prog 44 = some Value.nilFunc := by kernel_rfl
theorem tsz48 : tsz Try.prog 48 = some 1 := by kernel_rfl
theorem tby48 : tby Try.prog 48 = some 24 := by kernel_rfl
theorem tz48 : tzero Try.prog 48 = some (Value.slice none 0 0) := by kernel_rfl
theorem tsz49 : tsz Try.prog 49 = some 5 := by kernel_rfl
theorem tby49 : tby Try.prog 49 = some 104 := by kernel_rfl
theorem tz49 : tzero Try.prog 49 = some (Value.agg #[(Value.slice none 0 0), (Value.int IntKind.i64 0), (Value.slice none 0 0), (Value.slice none 0 0), (Value.slice none 0 0)]) := by kernel_rfl
theorem fo49_0 : fieldOff Try.prog 49 0 = some 0 := by kernel_rfl
theorem fo49_1 : fieldOff Try.prog 49 1 = some 1 := by kernel_rfl
theorem fo49_2 : fieldOff Try.prog 49 2 = some 2 := by kernel_rfl
theorem fo49_3 : fieldOff Try.prog 49 3 = some 3 := by kernel_rfl
theorem fo49_4 : fieldOff Try.prog 49 4 = some 4 := by kernel_rfl
theorem tsz50 : tsz Try.prog 50 = some 5 := by kernel_rfl
theorem tby50 : tby Try.prog 50 = some 104 := by kernel_rfl
theorem tz50 : tzero Try.prog 50 = some (Value.agg #[(Value.slice none 0 0), (Value.int IntKind.i64 0), (Value.slice none 0 0), (Value.slice none 0 0), (Value.slice none 0 0)]) := by kernel_rfl
theorem fo50_0 : fieldOff Try.prog 50 0 = some 0 := by kernel_rfl
theorem fo50_1 : fieldOff Try.prog 50 1 = some 1 := by kernel_rfl
theorem fo50_2 : fieldOff Try.prog 50 2 = some 2 := by kernel_rfl
theorem fo50_3 : fieldOff Try.prog 50 3 = some 3 := by kernel_rfl
theorem fo50_4 : fieldOff Try.prog 50 4 = some 4 := by kernel_rfl
theorem tsz52 : tsz Try.prog 52 = some 1 := by kernel_rfl
theorem tby52 : tby Try.prog 52 = some 0 := by kernel_rfl
theorem tz52 : tzero Try.prog 52 = some (Value.tuple #[(Value.agg #[(Value.slice none 0 0), (Value.int IntKind.i64 0), (Value.slice none 0 0), (Value.slice none 0 0), (Value.slice none 0 0)]), (Value.bool false)]) := by kernel_rfl
theorem tsz56 : tsz Try.prog 56 = some 1 := by kernel_rfl
theorem tby56 : tby Try.prog 56 = some 8 := by kernel_rfl
theorem tz56 : tzero Try.prog 56 = some Value.nilFunc := by kernel_rfl
theorem tsz68 : tsz Try.prog 68 = some 3 := by kernel_rfl
theorem tby68 : tby Try.prog 68 = some 24 := by kernel_rfl
theorem tz68 : tzero Try.prog 68 = some (Value.agg #[(Value.int IntKind.i64 0), (Value.int IntKind.i64 0), (Value.int IntKind.i64 0)]) := by kernel_rfl
theorem peq68 : plainEq Try.prog 68 = true := by kernel_rfl
theorem fo68_0 : fieldOff Try.prog 68 0 = some 0 := by kernel_rfl
theorem fo68_1 : fieldOff Try.prog 68 1 = some 1 := by kernel_rfl
theorem fo68_2 : fieldOff Try.prog 68 2 = some 2 := by kernel_rfl
theorem tsz75 : tsz Try.prog 75 = some 1 := by kernel_rfl
theorem tby75 : tby Try.prog 75 = some 24 := by kernel_rfl
theorem tz75 : tzero Try.prog 75 = some (Value.slice none 0 0) := by kernel_rfl
theorem tsz80 : tsz Try.prog 80 = some 1 := by kernel_rfl
theorem tby80 : tby Try.prog 80 = some 8 := by kernel_rfl
theorem tz80 : tzero Try.prog 80 = some Value.nilFunc := by kernel_rfl
theorem tsz93 : tsz Try.prog 93 = some 1 := by kernel_rfl
theorem tby93 : tby Try.prog 93 = some 8 := by kernel_rfl
theorem tz93 : tzero Try.prog 93 = some (Value.pointer none) := by kernel_rfl
theorem tsz97 : tsz Try.prog 97 = some 2 := by kernel_rfl
theorem tby97 : tby Try.prog 97 = some 16 := by kernel_rfl
theorem tz97 : tzero Try.prog 97 = some (Value.agg #[(Value.int IntKind.i64 0), (Value.int IntKind.i64 0)]) := by kernel_rfl
theorem peq97 : plainEq Try.prog 97 = true := by kernel_rfl
theorem fo97_0 : fieldOff Try.prog 97 0 = some 0 := by kernel_rfl
theorem fo97_1 : fieldOff Try.prog 97 1 = some 1 := by kernel_rfl
theorem tsz98 : tsz Try.prog 98 = some 2 := by kernel_rfl
theorem tby98 : tby Try.prog 98 = some 16 := by kernel_rfl
theorem tz98 : tzero Try.prog 98 = some (Value.agg #[(Value.int IntKind.i64 0), (Value.int IntKind.i64 0)]) := by kernel_rfl
theorem peq98 : plainEq Try.prog 98 = true := by kernel_rfl
theorem fo98_0 : fieldOff Try.prog 98 0 = some 0 := by kernel_rfl
theorem fo98_1 : fieldOff Try.prog 98 1 = some 1 := by kernel_rfl
theorem tsz116 : tsz Try.prog 116 = some 1 := by kernel_rfl
theorem tby116 : tby Try.prog 116 = some 4 := by kernel_rfl
theorem tz116 : tzero Try.prog 116 = some (Value.int IntKind.u32 0) := by kernel_rfl
theorem tsz119 : tsz Try.prog 119 = some 3 := by kernel_rfl
theorem tby119 : tby Try.prog 119 = some 24 := by kernel_rfl
theorem tz119 : tzero Try.prog 119 = some (Value.agg #[(Value.int IntKind.i64 0), (Value.int IntKind.i64 0), (Value.int IntKind.i64 0)]) := by kernel_rfl
theorem peq119 : plainEq Try.prog 119 = true := by kernel_rfl
theorem fo119_0 : fieldOff Try.prog 119 0 = some 0 := by kernel_rfl
theorem fo119_1 : fieldOff Try.prog 119 1 = some 1 := by kernel_rfl
theorem fo119_2 : fieldOff Try.prog 119 2 = some 2 := by kernel_rfl
theorem tsz123 : tsz Try.prog 123 = some 2 := by kernel_rfl
theorem tby123 : tby Try.prog 123 = some 32 := by kernel_rfl
theorem tz123 : tzero Try.prog 123 = some (Value.agg #[(Value.slice none 0 0), (Value.int IntKind.i64 0)]) := by kernel_rfl
theorem fo123_0 : fieldOff Try.prog 123 0 = some 0 := by kernel_rfl
theorem fo123_1 : fieldOff Try.prog 123 1 = some 1 := by kernel_rfl
theorem tsz124 : tsz Try.prog 124 = some 2 := by kernel_rfl
theorem tby124 : tby Try.prog 124 = some 32 := by kernel_rfl
theorem tz124 : tzero Try.prog 124 = some (Value.agg #[(Value.slice none 0 0), (Value.int IntKind.i64 0)]) := by kernel_rfl
theorem fo124_0 : fieldOff Try.prog 124 0 = some 0 := by kernel_rfl
theorem fo124_1 : fieldOff Try.prog 124 1 = some 1 := by kernel_rfl
theorem tsz127 : tsz Try.prog 127 = some 1 := by kernel_rfl
theorem tby127 : tby Try.prog 127 = some 8 := by kernel_rfl
theorem tz127 : tzero Try.prog 127 = some (Value.pointer none) := by kernel_rfl
theorem tsz129 : tsz Try.prog 129 = some 2 := by kernel_rfl
theorem tby129 : tby Try.prog 129 = some 16 := by kernel_rfl
theorem tz129 : tzero Try.prog 129 = some (Value.agg #[(Value.int IntKind.i64 0), (Value.int IntKind.i64 0)]) := by kernel_rfl
theorem peq129 : plainEq Try.prog 129 = true := by kernel_rfl
theorem fo129_0 : fieldOff Try.prog 129 0 = some 0 := by kernel_rfl
theorem fo129_1 : fieldOff Try.prog 129 1 = some 1 := by kernel_rfl
theorem tsz148 : tsz Try.prog 148 = some 0 := by kernel_rfl
theorem tby148 : tby Try.prog 148 = some 0 := by kernel_rfl
theorem tz148 : tzero Try.prog 148 = some (Value.agg #[]) := by kernel_rfl
theorem tsz149 : tsz Try.prog 149 = some 0 := by kernel_rfl
theorem tby149 : tby Try.prog 149 = some 0 := by kernel_rfl
theorem tz149 : tzero Try.prog 149 = some (Value.agg #[]) := by kernel_rfl
theorem tsz150 : tsz Try.prog 150 = some 0 := by kernel_rfl
theorem tby150 : tby Try.prog 150 = some 0 := by kernel_rfl
theorem tz150 : tzero Try.prog 150 = some (Value.agg #[]) := by kernel_rfl
theorem tsz152 : tsz Try.prog 152 = some 1 := by kernel_rfl
theorem tby152 : tby Try.prog 152 = some 1 := by kernel_rfl
theorem tz152 : tzero Try.prog 152 = some (Value.int IntKind.u8 0) := by kernel_rfl
theorem tsz153 : tsz Try.prog 153 = some 1 := by kernel_rfl
theorem tby153 : tby Try.prog 153 = some 1 := by kernel_rfl
theorem tz153 : tzero Try.prog 153 = some (Value.int IntKind.u8 0) := by kernel_rfl
theorem tsz154 : tsz Try.prog 154 = some 1 := by kernel_rfl
theorem tby154 : tby Try.prog 154 = some 8 := by kernel_rfl
theorem tz154 : tzero Try.prog 154 = some Value.nilFunc := by kernel_rfl
theorem tsz155 : tsz Try.prog 155 = some 1 := by kernel_rfl
theorem tby155 : tby Try.prog 155 = some 8 := by kernel_rfl
theorem tz155 : tzero Try.prog 155 = some (Value.pointer none) := by kernel_rfl
theorem tsz156 : tsz Try.prog 156 = some 1 := by kernel_rfl
theorem tby156 : tby Try.prog 156 = some 4 := by kernel_rfl
theorem tz156 : tzero Try.prog 156 = some (Value.int IntKind.i32 0) := by kernel_rfl
theorem tsz157 : tsz Try.prog 157 = some 1 := by kernel_rfl
theorem tby157 : tby Try.prog 157 = some 4 := by kernel_rfl
theorem tz157 : tzero Try.prog 157 = some (Value.int IntKind.i32 0) := by kernel_rfl
theorem tsz158 : tsz Try.prog 158 = some 11 := by kernel_rfl
theorem tby158 : tby Try.prog 158 = some 48 := by kernel_rfl
theorem tz158 : tzero Try.prog 158 = some (Value.agg #[(Value.int IntKind.u64 0), (Value.int IntKind.u64 0), (Value.int IntKind.u32 0), (Value.int IntKind.u8 0), (Value.int IntKind.u8 0), (Value.int IntKind.u8 0), (Value.int IntKind.u8 0), Value.nilFunc, (Value.pointer none), (Value.int IntKind.i32 0), (Value.int IntKind.i32 0)]) := by kernel_rfl
theorem fo158_0 : fieldOff Try.prog 158 0 = some 0 := by kernel_rfl
theorem fo158_1 : fieldOff Try.prog 158 1 = some 1 := by kernel_rfl
theorem fo158_2 : fieldOff Try.prog 158 2 = some 2 := by kernel_rfl
theorem fo158_3 : fieldOff Try.prog 158 3 = some 3 := by kernel_rfl
theorem fo158_4 : fieldOff Try.prog 158 4 = some 4 := by kernel_rfl
theorem fo158_5 : fieldOff Try.prog 158 5 = some 5 := by kernel_rfl
theorem fo158_6 : fieldOff Try.prog 158 6 = some 6 := by kernel_rfl
theorem fo158_7 : fieldOff Try.prog 158 7 = some 7 := by kernel_rfl
theorem fo158_8 : fieldOff Try.prog 158 8 = some 8 := by kernel_rfl
theorem fo158_9 : fieldOff Try.prog 158 9 = some 9 := by kernel_rfl
theorem fo158_10 : fieldOff Try.prog 158 10 = some 10 := by kernel_rfl
theorem tsz159 : tsz Try.prog 159 = some 11 := by kernel_rfl
theorem tby159 : tby Try.prog 159 = some 48 := by kernel_rfl
theorem tz159 : tzero Try.prog 159 = some (Value.agg #[(Value.int IntKind.u64 0), (Value.int IntKind.u64 0), (Value.int IntKind.u32 0), (Value.int IntKind.u8 0), (Value.int IntKind.u8 0), (Value.int IntKind.u8 0), (Value.int IntKind.u8 0), Value.nilFunc, (Value.pointer none), (Value.int IntKind.i32 0), (Value.int IntKind.i32 0)]) := by kernel_rfl
theorem fo159_0 : fieldOff Try.prog 159 0 = some 0 := by kernel_rfl
theorem fo159_1 : fieldOff Try.prog 159 1 = some 1 := by kernel_rfl
theorem fo159_2 : fieldOff Try.prog 159 2 = some 2 := by kernel_rfl
theorem fo159_3 : fieldOff Try.prog 159 3 = some 3 := by kernel_rfl
theorem fo159_4 : fieldOff Try.prog 159 4 = some 4 := by kernel_rfl
theorem fo159_5 : fieldOff Try.prog 159 5 = some 5 := by kernel_rfl
theorem fo159_6 : fieldOff Try.prog 159 6 = some 6 := by kernel_rfl
theorem fo159_7 : fieldOff Try.prog 159 7 = some 7 := by kernel_rfl
theorem fo159_8 : fieldOff Try.prog 159 8 = some 8 := by kernel_rfl
theorem fo159_9 : fieldOff Try.prog 159 9 = some 9 := by kernel_rfl
theorem fo159_10 : fieldOff Try.prog 159 10 = some 10 := by kernel_rfl
theorem tsz160 : tsz Try.prog 160 = some 1 := by kernel_rfl
theorem tby160 : tby Try.prog 160 = some 8 := by kernel_rfl
theorem tz160 : tzero Try.prog 160 = some (Value.pointer none) := by kernel_rfl
theorem en4 : Enters Try.prog 4 := Enters.of Try.func4 (by kernel_rfl) (by kernel_rfl)
theorem en23 : Enters Try.prog 23 := Enters.of Try.func23 (by kernel_rfl) (by kernel_rfl)
theorem en24 : Enters Try.prog 24 := Enters.of Try.func24 (by kernel_rfl) (by kernel_rfl)
theorem en25 : Enters Try.prog 25 := Enters.of Try.func25 (by kernel_rfl) (by kernel_rfl)
theorem en26 : Enters Try.prog 26 := Enters.of Try.func26 (by kernel_rfl) (by kernel_rfl)
theorem en27 : Enters Try.prog 27 := Enters.of Try.func27 (by kernel_rfl) (by kernel_rfl)
theorem en28 : Enters Try.prog 28 := Enters.of Try.func28 (by kernel_rfl) (by kernel_rfl)
theorem en29 : Enters Try.prog 29 := Enters.of Try.func29 (by kernel_rfl) (by kernel_rfl)
theorem en31 : Enters Try.prog 31 := Enters.of Try.func31 (by kernel_rfl) (by kernel_rfl)
theorem en37 : Enters Try.prog 37 := Enters.of Try.func37 (by kernel_rfl) (by kernel_rfl)
theorem en72 : Enters Try.prog 72 := Enters.of Try.func72 (by kernel_rfl) (by kernel_rfl)
theorem en73 : Enters Try.prog 73 := Enters.of Try.func73 (by kernel_rfl) (by kernel_rfl)
theorem en74 : Enters Try.prog 74 := Enters.of Try.func74 (by kernel_rfl) (by kernel_rfl)
theorem en75 : Enters Try.prog 75 := Enters.of Try.func75 (by kernel_rfl) (by kernel_rfl)
theorem en76 : Enters Try.prog 76 := Enters.of Try.func76 (by kernel_rfl) (by kernel_rfl)
theorem en77 : Enters Try.prog 77 := Enters.of Try.func77 (by kernel_rfl) (by kernel_rfl)
theorem en78 : Enters Try.prog 78 := Enters.of Try.func78 (by kernel_rfl) (by kernel_rfl)
theorem en79 : Enters Try.prog 79 := Enters.of Try.func79 (by kernel_rfl) (by kernel_rfl)
theorem en80 : Enters Try.prog 80 := Enters.of Try.func80 (by kernel_rfl) (by kernel_rfl)
theorem en81 : Enters Try.prog 81 := Enters.of Try.func81 (by kernel_rfl) (by kernel_rfl)
theorem en82 : Enters Try.prog 82 := Enters.of Try.func82 (by kernel_rfl) (by kernel_rfl)
theorem en85 : Enters Try.prog 85 := Enters.of Try.func85 (by kernel_rfl) (by kernel_rfl)
theorem en86 : Enters Try.prog 86 := Enters.of Try.func86 (by kernel_rfl) (by kernel_rfl)
theorem en93 : Enters Try.prog 93 := Enters.of Try.func93 (by kernel_rfl) (by kernel_rfl)
theorem en102 : Enters Try.prog 102 := Enters.of Try.func102 (by kernel_rfl) (by kernel_rfl)
theorem en114 : Enters Try.prog 114 := Enters.of Try.func114 (by kernel_rfl) (by kernel_rfl)
theorem en115 : Enters Try.prog 115 := Enters.of Try.func115 (by kernel_rfl) (by kernel_rfl)
theorem en116 : Enters Try.prog 116 := Enters.of Try.func116 (by kernel_rfl) (by kernel_rfl)
theorem en117 : Enters Try.prog 117 := Enters.of Try.func117 (by kernel_rfl) (by kernel_rfl)
theorem en118 : Enters Try.prog 118 := Enters.of Try.func118 (by kernel_rfl) (by kernel_rfl)
theorem en119 : Enters Try.prog 119 := Enters.of Try.func119 (by kernel_rfl) (by kernel_rfl)
theorem en120 : Enters Try.prog 120 := Enters.of Try.func120 (by kernel_rfl) (by kernel_rfl)
theorem en121 : Enters Try.prog 121 := Enters.of Try.func121 (by kernel_rfl) (by kernel_rfl)
theorem en122 : Enters Try.prog 122 := Enters.of Try.func122 (by kernel_rfl) (by kernel_rfl)
theorem en123 : Enters Try.prog 123 := Enters.of Try.func123 (by kernel_rfl) (by kernel_rfl)
theorem en124 : Enters Try.prog 124 := Enters.of Try.func124 (by kernel_rfl) (by kernel_rfl)
theorem en138 : Enters Try.prog 138 := Enters.of Try.func138 (by kernel_rfl) (by kernel_rfl)
theorem mixed : Try.prog.follows .mixedOrders = true := by kernel_rfl
end Go.Proofs.Ytncminpafiahpaa
