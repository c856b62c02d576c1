/- What the tables of the program say of its types and functions, looked up once. -/
import Derived.Test.YtncminpafiahpaaAvU
import Derived.Test.YtncminpafiahpaaProg
import Derived.KernelRfl
namespace Go.Proofs.Ytncminpafiahpaa
open Go Go.Av
theorem tsz0 : tsz Try.prog 0 = some 1 := by kernel_rfl
theorem tby0 : tby Try.prog 0 = some 0 := by kernel_rfl
theorem tz0 : tzero Try.prog 0 = some (Value.tuple #[]) := by kernel_rfl
theorem tsz1 : tsz Try.prog 1 = some 1 := by kernel_rfl
theorem tby1 : tby Try.prog 1 = some 8 := by kernel_rfl
theorem tz1 : tzero Try.prog 1 = some Value.nilFunc := by kernel_rfl
theorem tsz2 : tsz Try.prog 2 = some 1 := by kernel_rfl
theorem tby2 : tby Try.prog 2 = some 8 := by kernel_rfl
theorem tz2 : tzero Try.prog 2 = some (Value.int IntKind.i64 0) := by kernel_rfl
theorem tsz3 : tsz Try.prog 3 = some 1 := by kernel_rfl
theorem tby3 : tby Try.prog 3 = some 8 := by kernel_rfl
theorem tz3 : tzero Try.prog 3 = some (Value.int IntKind.i64 0) := by kernel_rfl
theorem tsz4 : tsz Try.prog 4 = some 1 := by kernel_rfl
theorem tby4 : tby Try.prog 4 = some 1 := by kernel_rfl
theorem tz4 : tzero Try.prog 4 = some (Value.bool false) := by kernel_rfl
theorem tsz5 : tsz Try.prog 5 = some 1 := by kernel_rfl
theorem tby5 : tby Try.prog 5 = some 1 := by kernel_rfl
theorem tz5 : tzero Try.prog 5 = some (Value.int IntKind.u8 0) := by kernel_rfl
theorem tsz6 : tsz Try.prog 6 = some 1 := by kernel_rfl
theorem tby6 : tby Try.prog 6 = some 1 := by kernel_rfl
theorem tz6 : tzero Try.prog 6 = some (Value.int IntKind.u8 0) := by kernel_rfl
theorem tsz7 : tsz Try.prog 7 = some 4 := by kernel_rfl
theorem tby7 : tby Try.prog 7 = some 24 := by kernel_rfl
theorem tz7 : tzero Try.prog 7 = some (Value.agg #[(Value.int IntKind.i64 0), (Value.int IntKind.i64 0), (Value.bool false), (Value.int IntKind.u8 0)]) := by kernel_rfl
theorem fo7_0 : fieldOff Try.prog 7 0 = some 0 := by kernel_rfl
theorem fo7_1 : fieldOff Try.prog 7 1 = some 1 := by kernel_rfl
theorem fo7_2 : fieldOff Try.prog 7 2 = some 2 := by kernel_rfl
theorem fo7_3 : fieldOff Try.prog 7 3 = some 3 := by kernel_rfl
theorem tsz8 : tsz Try.prog 8 = some 4 := by kernel_rfl
theorem tby8 : tby Try.prog 8 = some 24 := by kernel_rfl
theorem tz8 : tzero Try.prog 8 = some (Value.agg #[(Value.int IntKind.i64 0), (Value.int IntKind.i64 0), (Value.bool false), (Value.int IntKind.u8 0)]) := by kernel_rfl
theorem fo8_0 : fieldOff Try.prog 8 0 = some 0 := by kernel_rfl
theorem fo8_1 : fieldOff Try.prog 8 1 = some 1 := by kernel_rfl
theorem fo8_2 : fieldOff Try.prog 8 2 = some 2 := by kernel_rfl
theorem fo8_3 : fieldOff Try.prog 8 3 = some 3 := by kernel_rfl
theorem tsz9 : tsz Try.prog 9 = some 1 := by kernel_rfl
theorem tby9 : tby Try.prog 9 = some 16 := by kernel_rfl
theorem tsz10 : tsz Try.prog 10 = some 1 := by kernel_rfl
theorem tby10 : tby Try.prog 10 = some 16 := by kernel_rfl
theorem tsz12 : tsz Try.prog 12 = some 1 := by kernel_rfl
theorem tby12 : tby Try.prog 12 = some 8 := by kernel_rfl
theorem tz12 : tzero Try.prog 12 = some (Value.int IntKind.u64 0) := by kernel_rfl
theorem tsz16 : tsz Try.prog 16 = some 1 := by kernel_rfl
theorem tby16 : tby Try.prog 16 = some 8 := by kernel_rfl
theorem tz16 : tzero Try.prog 16 = some (Value.pointer none) := by kernel_rfl
theorem tsz17 : tsz Try.prog 17 = some 1 := by kernel_rfl
theorem tby17 : tby Try.prog 17 = some 8 := by kernel_rfl
theorem tz17 : tzero Try.prog 17 = some (Value.pointer none) := by kernel_rfl
theorem tsz20 : tsz Try.prog 20 = some 1 := by kernel_rfl
theorem tby20 : tby Try.prog 20 = some 16 := by kernel_rfl
theorem tz20 : tzero Try.prog 20 = some Value.nilIface := by kernel_rfl
theorem tsz21 : tsz Try.prog 21 = some 1 := by kernel_rfl
theorem tby21 : tby Try.prog 21 = some 4 := by kernel_rfl
theorem tz21 : tzero Try.prog 21 = some (Value.int IntKind.i32 0) := by kernel_rfl
theorem tsz22 : tsz Try.prog 22 = some 1 := by kernel_rfl
theorem tby22 : tby Try.prog 22 = some 24 := by kernel_rfl
theorem tz22 : tzero Try.prog 22 = some (Value.slice none 0 0) := by kernel_rfl
theorem tsz23 : tsz Try.prog 23 = some 2 := by kernel_rfl
theorem tby23 : tby Try.prog 23 = some 32 := by kernel_rfl
theorem tz23 : tzero Try.prog 23 = some (Value.agg #[(Value.int IntKind.i64 0), (Value.slice none 0 0)]) := by kernel_rfl
theorem fo23_0 : fieldOff Try.prog 23 0 = some 0 := by kernel_rfl
theorem fo23_1 : fieldOff Try.prog 23 1 = some 1 := by kernel_rfl
theorem tsz24 : tsz Try.prog 24 = some 2 := by kernel_rfl
theorem tby24 : tby Try.prog 24 = some 32 := by kernel_rfl
theorem tz24 : tzero Try.prog 24 = some (Value.agg #[(Value.int IntKind.i64 0), (Value.slice none 0 0)]) := by kernel_rfl
theorem fo24_0 : fieldOff Try.prog 24 0 = some 0 := by kernel_rfl
theorem fo24_1 : fieldOff Try.prog 24 1 = some 1 := by kernel_rfl
theorem tsz26 : tsz Try.prog 26 = some 1 := by kernel_rfl
theorem tby26 : tby Try.prog 26 = some 24 := by kernel_rfl
theorem tz26 : tzero Try.prog 26 = some (Value.slice none 0 0) := by kernel_rfl
theorem tsz28 : tsz Try.prog 28 = some 1 := by kernel_rfl
theorem tby28 : tby Try.prog 28 = some 24 := by kernel_rfl
theorem tz28 : tzero Try.prog 28 = some (Value.slice none 0 0) := by kernel_rfl
theorem tsz29 : tsz Try.prog 29 = some 2 := by kernel_rfl
theorem tby29 : tby Try.prog 29 = some 32 := by kernel_rfl
theorem tz29 : tzero Try.prog 29 = some (Value.agg #[(Value.int IntKind.i64 0), (Value.slice none 0 0)]) := by kernel_rfl
theorem fo29_0 : fieldOff Try.prog 29 0 = some 0 := by kernel_rfl
theorem fo29_1 : fieldOff Try.prog 29 1 = some 1 := by kernel_rfl
theorem tsz30 : tsz Try.prog 30 = some 2 := by kernel_rfl
theorem tby30 : tby Try.prog 30 = some 32 := by kernel_rfl
theorem tz30 : tzero Try.prog 30 = some (Value.agg #[(Value.int IntKind.i64 0), (Value.slice none 0 0)]) := by kernel_rfl
theorem fo30_0 : fieldOff Try.prog 30 0 = some 0 := by kernel_rfl
theorem fo30_1 : fieldOff Try.prog 30 1 = some 1 := by kernel_rfl
theorem tsz32 : tsz Try.prog 32 = some 1 := by kernel_rfl
theorem tby32 : tby Try.prog 32 = some 8 := by kernel_rfl
theorem tz32 : tzero Try.prog 32 = some Value.nilFunc := by kernel_rfl
theorem tsz37 : tsz Try.prog 37 = some 1 := by kernel_rfl
theorem tby37 : tby Try.prog 37 = some 24 := by kernel_rfl
theorem tz37 : tzero Try.prog 37 = some (Value.slice none 0 0) := by kernel_rfl
theorem tsz38 : tsz Try.prog 38 = some 1 := by kernel_rfl
theorem tby38 : tby Try.prog 38 = some 24 := by kernel_rfl
theorem tz38 : tzero Try.prog 38 = some (Value.slice none 0 0) := by kernel_rfl
theorem tsz39 : tsz Try.prog 39 = some 5 := by kernel_rfl
theorem tby39 : tby Try.prog 39 = some 104 := by kernel_rfl
theorem tz39 : tzero Try.prog 39 = some (Value.agg #[(Value.slice none 0 0), (Value.int IntKind.i64 0), (Value.slice none 0 0), (Value.slice none 0 0), (Value.slice none 0 0)]) := by kernel_rfl
theorem fo39_0 : fieldOff Try.prog 39 0 = some 0 := by kernel_rfl
theorem fo39_1 : fieldOff Try.prog 39 1 = some 1 := by kernel_rfl
theorem fo39_2 : fieldOff Try.prog 39 2 = some 2 := by kernel_rfl
theorem fo39_3 : fieldOff Try.prog 39 3 = some 3 := by kernel_rfl
theorem fo39_4 : fieldOff Try.prog 39 4 = some 4 := by kernel_rfl
theorem tsz40 : tsz Try.prog 40 = some 5 := by kernel_rfl
theorem tby40 : tby Try.prog 40 = some 104 := by kernel_rfl
theorem tz40 : tzero Try.prog 40 = some (Value.agg #[(Value.slice none 0 0), (Value.int IntKind.i64 0), (Value.slice none 0 0), (Value.slice none 0 0), (Value.slice none 0 0)]) := by kernel_rfl
theorem fo40_0 : fieldOff Try.prog 40 0 = some 0 := by kernel_rfl
theorem fo40_1 : fieldOff Try.prog 40 1 = some 1 := by kernel_rfl
theorem fo40_2 : fieldOff Try.prog 40 2 = some 2 := by kernel_rfl
theorem fo40_3 : fieldOff Try.prog 40 3 = some 3 := by kernel_rfl
theorem fo40_4 : fieldOff Try.prog 40 4 = some 4 := by kernel_rfl
theorem tsz44 : tsz Try.prog 44 = some 1 := by kernel_rfl
theorem tby44 : tby Try.prog 44 = some 8 := by kernel_rfl
theorem tz44 : tzero Try.prog 44 = some Value.nilFunc := by kernel_rfl
theorem tsz48 : tsz Try.prog 48 = some 1 := by kernel_rfl
theorem tby48 : tby Try.prog 48 = some 24 := by kernel_rfl
theorem tz48 : tzero Try.prog 48 = some (Value.slice none 0 0) := by kernel_rfl
theorem tsz49 : tsz Try.prog 49 = some 5 := by kernel_rfl
theorem tby49 : tby Try.prog 49 = some 104 := by kernel_rfl
theorem tz49 : tzero Try.prog 49 = some (Value.agg #[(Value.slice none 0 0), (Value.int IntKind.i64 0), (Value.slice none 0 0), (Value.slice none 0 0), (Value.slice none 0 0)]) := by kernel_rfl
theorem fo49_0 : fieldOff Try.prog 49 0 = some 0 := by kernel_rfl
theorem fo49_1 : fieldOff Try.prog 49 1 = some 1 := by kernel_rfl
theorem fo49_2 : fieldOff Try.prog 49 2 = some 2 := by kernel_rfl
theorem fo49_3 : fieldOff Try.prog 49 3 = some 3 := by kernel_rfl
theorem fo49_4 : fieldOff Try.prog 49 4 = some 4 := by kernel_rfl
theorem tsz50 : tsz Try.prog 50 = some 5 := by kernel_rfl
theorem tby50 : tby Try.prog 50 = some 104 := by kernel_rfl
theorem tz50 : tzero Try.prog 50 = some (Value.agg #[(Value.slice none 0 0), (Value.int IntKind.i64 0), (Value.slice none 0 0), (Value.slice none 0 0), (Value.slice none 0 0)]) := by kernel_rfl
theorem fo50_0 : fieldOff Try.prog 50 0 = some 0 := by kernel_rfl
theorem fo50_1 : fieldOff Try.prog 50 1 = some 1 := by kernel_rfl
theorem fo50_2 : fieldOff Try.prog 50 2 = some 2 := by kernel_rfl
theorem fo50_3 : fieldOff Try.prog 50 3 = some 3 := by kernel_rfl
theorem fo50_4 : fieldOff Try.prog 50 4 = some 4 := by kernel_rfl
theorem tsz56 : tsz Try.prog 56 = some 1 := by kernel_rfl
theorem tby56 : tby Try.prog 56 = some 8 := by kernel_rfl
theorem tz56 : tzero Try.prog 56 = some Value.nilFunc := by kernel_rfl
theorem tsz68 : tsz Try.prog 68 = some 3 := by kernel_rfl
theorem tby68 : tby Try.prog 68 = some 24 := by kernel_rfl
theorem tz68 : tzero Try.prog 68 = some (Value.agg #[(Value.int IntKind.i64 0), (Value.int IntKind.i64 0), (Value.int IntKind.i64 0)]) := by kernel_rfl
theorem peq68 : plainEq Try.prog 68 = true := by kernel_rfl
theorem fo68_0 : fieldOff Try.prog 68 0 = some 0 := by kernel_rfl
theorem fo68_1 : fieldOff Try.prog 68 1 = some 1 := by kernel_rfl
theorem fo68_2 : fieldOff Try.prog 68 2 = some 2 := by kernel_rfl
theorem tsz69 : tsz Try.prog 69 = some 3 := by kernel_rfl
theorem tby69 : tby Try.prog 69 = some 24 := by kernel_rfl
theorem tz69 : tzero Try.prog 69 = some (Value.agg #[(Value.int IntKind.i64 0), (Value.int IntKind.i64 0), (Value.int IntKind.i64 0)]) := by kernel_rfl
theorem peq69 : plainEq Try.prog 69 = true := by kernel_rfl
theorem fo69_0 : fieldOff Try.prog 69 0 = some 0 := by kernel_rfl
theorem fo69_1 : fieldOff Try.prog 69 1 = some 1 := by kernel_rfl
theorem fo69_2 : fieldOff Try.prog 69 2 = some 2 := by kernel_rfl
theorem tsz70 : tsz Try.prog 70 = some 1 := by kernel_rfl
theorem tby70 : tby Try.prog 70 = some 0 := by kernel_rfl
theorem tz70 : tzero Try.prog 70 = some (Value.tuple #[(Value.agg #[(Value.int IntKind.i64 0), (Value.slice none 0 0)]), (Value.bool false)]) := by kernel_rfl
theorem tsz75 : tsz Try.prog 75 = some 1 := by kernel_rfl
theorem tby75 : tby Try.prog 75 = some 24 := by kernel_rfl
theorem tz75 : tzero Try.prog 75 = some (Value.slice none 0 0) := by kernel_rfl
theorem tsz80 : tsz Try.prog 80 = some 1 := by kernel_rfl
theorem tby80 : tby Try.prog 80 = some 8 := by kernel_rfl
theorem tz80 : tzero Try.prog 80 = some Value.nilFunc := by kernel_rfl
theorem tsz88 : tsz Try.prog 88 = some 1 := by kernel_rfl
theorem tby88 : tby Try.prog 88 = some 8 := by kernel_rfl
theorem tz88 : tzero Try.prog 88 = some Value.nilFunc := by kernel_rfl
theorem tsz93 : tsz Try.prog 93 = some 1 := by kernel_rfl
theorem tby93 : tby Try.prog 93 = some 8 := by kernel_rfl
theorem tz93 : tzero Try.prog 93 = some (Value.pointer none) := by kernel_rfl
theorem tsz97 : tsz Try.prog 97 = some 2 := by kernel_rfl
theorem tby97 : tby Try.prog 97 = some 16 := by kernel_rfl
theorem tz97 : tzero Try.prog 97 = some (Value.agg #[(Value.int IntKind.i64 0), (Value.int IntKind.i64 0)]) := by kernel_rfl
theorem peq97 : plainEq Try.prog 97 = true := by kernel_rfl
theorem fo97_0 : fieldOff Try.prog 97 0 = some 0 := by kernel_rfl
theorem fo97_1 : fieldOff Try.prog 97 1 = some 1 := by kernel_rfl
theorem tsz98 : tsz Try.prog 98 = some 2 := by kernel_rfl
theorem tby98 : tby Try.prog 98 = some 16 := by kernel_rfl
theorem tz98 : tzero Try.prog 98 = some (Value.agg #[(Value.int IntKind.i64 0), (Value.int IntKind.i64 0)]) := by kernel_rfl
theorem peq98 : plainEq Try.prog 98 = true := by kernel_rfl
theorem fo98_0 : fieldOff Try.prog 98 0 = some 0 := by kernel_rfl
theorem fo98_1 : fieldOff Try.prog 98 1 = some 1 := by kernel_rfl
theorem tsz114 : tsz Try.prog 114 = some 1 := by kernel_rfl
theorem tby114 : tby Try.prog 114 = some 24 := by kernel_rfl
theorem tz114 : tzero Try.prog 114 = some (Value.slice none 0 0) := by kernel_rfl
theorem tsz116 : tsz Try.prog 116 = some 1 := by kernel_rfl
theorem tby116 : tby Try.prog 116 = some 4 := by kernel_rfl
theorem tz116 : tzero Try.prog 116 = some (Value.int IntKind.u32 0) := by kernel_rfl
theorem tsz117 : tsz Try.prog 117 = some 1 := by kernel_rfl
theorem tby117 : tby Try.prog 117 = some 4 := by kernel_rfl
theorem tz117 : tzero Try.prog 117 = some (Value.int IntKind.u32 0) := by kernel_rfl
theorem tsz119 : tsz Try.prog 119 = some 3 := by kernel_rfl
theorem tby119 : tby Try.prog 119 = some 24 := by kernel_rfl
theorem tz119 : tzero Try.prog 119 = some (Value.agg #[(Value.int IntKind.i64 0), (Value.int IntKind.i64 0), (Value.int IntKind.i64 0)]) := by kernel_rfl
theorem peq119 : plainEq Try.prog 119 = true := by kernel_rfl
theorem fo119_0 : fieldOff Try.prog 119 0 = some 0 := by kernel_rfl
theorem fo119_1 : fieldOff Try.prog 119 1 = some 1 := by kernel_rfl
theorem fo119_2 : fieldOff Try.prog 119 2 = some 2 := by kernel_rfl
theorem tsz123 : tsz Try.prog 123 = some 2 := by kernel_rfl
theorem tby123 : tby Try.prog 123 = some 32 := by kernel_rfl
theorem tz123 : tzero Try.prog 123 = some (Value.agg #[(Value.slice none 0 0), (Value.int IntKind.i64 0)]) := by kernel_rfl
theorem fo123_0 : fieldOff Try.prog 123 0 = some 0 := by kernel_rfl
theorem fo123_1 : fieldOff Try.prog 123 1 = some 1 := by kernel_rfl
theorem tsz124 : tsz Try.prog 124 = some 2 := by kernel_rfl
theorem tby124 : tby Try.prog 124 = some 32 := by kernel_rfl
theorem tz124 : tzero Try.prog 124 = some (Value.agg #[(Value.slice none 0 0), (Value.int IntKind.i64 0)]) := by kernel_rfl
theorem fo124_0 : fieldOff Try.prog 124 0 = some 0 := by kernel_rfl
theorem fo124_1 : fieldOff Try.prog 124 1 = some 1 := by kernel_rfl
theorem tsz129 : tsz Try.prog 129 = some 2 := by kernel_rfl
theorem tby129 : tby Try.prog 129 = some 16 := by kernel_rfl
theorem tz129 : tzero Try.prog 129 = some (Value.agg #[(Value.int IntKind.i64 0), (Value.int IntKind.i64 0)]) := by kernel_rfl
theorem peq129 : plainEq Try.prog 129 = true := by kernel_rfl
theorem fo129_0 : fieldOff Try.prog 129 0 = some 0 := by kernel_rfl
theorem fo129_1 : fieldOff Try.prog 129 1 = some 1 := by kernel_rfl
theorem tsz142 : tsz Try.prog 142 = some 1 := by kernel_rfl
theorem tby142 : tby Try.prog 142 = some 8 := by kernel_rfl
theorem tz142 : tzero Try.prog 142 = some (Value.int IntKind.u64 0) := by kernel_rfl
theorem tsz148 : tsz Try.prog 148 = some 0 := by kernel_rfl
theorem tby148 : tby Try.prog 148 = some 0 := by kernel_rfl
theorem tz148 : tzero Try.prog 148 = some (Value.agg #[]) := by kernel_rfl
theorem tsz149 : tsz Try.prog 149 = some 0 := by kernel_rfl
theorem tby149 : tby Try.prog 149 = some 0 := by kernel_rfl
theorem tz149 : tzero Try.prog 149 = some (Value.agg #[]) := by kernel_rfl
theorem tsz150 : tsz Try.prog 150 = some 0 := by kernel_rfl
theorem tby150 : tby Try.prog 150 = some 0 := by kernel_rfl
theorem tz150 : tzero Try.prog 150 = some (Value.agg #[]) := by kernel_rfl
theorem tsz152 : tsz Try.prog 152 = some 1 := by kernel_rfl
theorem tby152 : tby Try.prog 152 = some 1 := by kernel_rfl
theorem tz152 : tzero Try.prog 152 = some (Value.int IntKind.u8 0) := by kernel_rfl
theorem tsz153 : tsz Try.prog 153 = some 1 := by kernel_rfl
theorem tby153 : tby Try.prog 153 = some 1 := by kernel_rfl
theorem tz153 : tzero Try.prog 153 = some (Value.int IntKind.u8 0) := by kernel_rfl
theorem tsz154 : tsz Try.prog 154 = some 1 := by kernel_rfl
theorem tby154 : tby Try.prog 154 = some 8 := by kernel_rfl
theorem tz154 : tzero Try.prog 154 = some Value.nilFunc := by kernel_rfl
theorem tsz155 : tsz Try.prog 155 = some 1 := by kernel_rfl
theorem tby155 : tby Try.prog 155 = some 8 := by kernel_rfl
theorem tz155 : tzero Try.prog 155 = some (Value.pointer none) := by kernel_rfl
theorem tsz156 : tsz Try.prog 156 = some 1 := by kernel_rfl
theorem tby156 : tby Try.prog 156 = some 4 := by kernel_rfl
theorem tz156 : tzero Try.prog 156 = some (Value.int IntKind.i32 0) := by kernel_rfl
theorem tsz157 : tsz Try.prog 157 = some 1 := by kernel_rfl
theorem tby157 : tby Try.prog 157 = some 4 := by kernel_rfl
theorem tz157 : tzero Try.prog 157 = some (Value.int IntKind.i32 0) := by kernel_rfl
theorem tsz158 : tsz Try.prog 158 = some 11 := by kernel_rfl
theorem tby158 : tby Try.prog 158 = some 48 := by kernel_rfl
theorem tz158 : tzero Try.prog 158 = some (Value.agg #[(Value.int IntKind.u64 0), (Value.int IntKind.u64 0), (Value.int IntKind.u32 0), (Value.int IntKind.u8 0), (Value.int IntKind.u8 0), (Value.int IntKind.u8 0), (Value.int IntKind.u8 0), Value.nilFunc, (Value.pointer none), (Value.int IntKind.i32 0), (Value.int IntKind.i32 0)]) := by kernel_rfl
theorem fo158_0 : fieldOff Try.prog 158 0 = some 0 := by kernel_rfl
theorem fo158_1 : fieldOff Try.prog 158 1 = some 1 := by kernel_rfl
theorem fo158_2 : fieldOff Try.prog 158 2 = some 2 := by kernel_rfl
theorem fo158_3 : fieldOff Try.prog 158 3 = some 3 := by kernel_rfl
theorem fo158_4 : fieldOff Try.prog 158 4 = some 4 := by kernel_rfl
theorem fo158_5 : fieldOff Try.prog 158 5 = some 5 := by kernel_rfl
theorem fo158_6 : fieldOff Try.prog 158 6 = some 6 := by kernel_rfl
theorem fo158_7 : fieldOff Try.prog 158 7 = some 7 := by kernel_rfl
theorem fo158_8 : fieldOff Try.prog 158 8 = some 8 := by kernel_rfl
theorem fo158_9 : fieldOff Try.prog 158 9 = some 9 := by kernel_rfl
theorem fo158_10 : fieldOff Try.prog 158 10 = some 10 := by kernel_rfl
theorem tsz159 : tsz Try.prog 159 = some 11 := by kernel_rfl
theorem tby159 : tby Try.prog 159 = some 48 := by kernel_rfl
theorem tz159 : tzero Try.prog 159 = some (Value.agg #[(Value.int IntKind.u64 0), (Value.int IntKind.u64 0), (Value.int IntKind.u32 0), (Value.int IntKind.u8 0), (Value.int IntKind.u8 0), (Value.int IntKind.u8 0), (Value.int IntKind.u8 0), Value.nilFunc, (Value.pointer none), (Value.int IntKind.i32 0), (Value.int IntKind.i32 0)]) := by kernel_rfl
theorem fo159_0 : fieldOff Try.prog 159 0 = some 0 := by kernel_rfl
theorem fo159_1 : fieldOff Try.prog 159 1 = some 1 := by kernel_rfl
theorem fo159_2 : fieldOff Try.prog 159 2 = some 2 := by kernel_rfl
theorem fo159_3 : fieldOff Try.prog 159 3 = some 3 := by kernel_rfl
theorem fo159_4 : fieldOff Try.prog 159 4 = some 4 := by kernel_rfl
theorem fo159_5 : fieldOff Try.prog 159 5 = some 5 := by kernel_rfl
theorem fo159_6 : fieldOff Try.prog 159 6 = some 6 := by kernel_rfl
theorem fo159_7 : fieldOff Try.prog 159 7 = some 7 := by kernel_rfl
theorem fo159_8 : fieldOff Try.prog 159 8 = some 8 := by kernel_rfl
theorem fo159_9 : fieldOff Try.prog 159 9 = some 9 := by kernel_rfl
theorem fo159_10 : fieldOff Try.prog 159 10 = some 10 := by kernel_rfl
theorem tsz160 : tsz Try.prog 160 = some 1 := by kernel_rfl
theorem tby160 : tby Try.prog 160 = some 8 := by kernel_rfl
theorem tz160 : tzero Try.prog 160 = some (Value.pointer none) := by kernel_rfl
theorem en9 : Enters Try.prog 9 := Enters.of Try.func9 (by kernel_rfl) (by kernel_rfl)
theorem en15 : Enters Try.prog 15 := Enters.of Try.func15 (by kernel_rfl) (by kernel_rfl)
theorem en17 : Enters Try.prog 17 := Enters.of Try.func17 (by kernel_rfl) (by kernel_rfl)
theorem en27 : Enters Try.prog 27 := Enters.of Try.func27 (by kernel_rfl) (by kernel_rfl)
theorem en29 : Enters Try.prog 29 := Enters.of Try.func29 (by kernel_rfl) (by kernel_rfl)
theorem en46 : Enters Try.prog 46 := Enters.of Try.func46 (by kernel_rfl) (by kernel_rfl)
theorem en49 : Enters Try.prog 49 := Enters.of Try.func49 (by kernel_rfl) (by kernel_rfl)
theorem en50 : Enters Try.prog 50 := Enters.of Try.func50 (by kernel_rfl) (by kernel_rfl)
theorem en51 : Enters Try.prog 51 := Enters.of Try.func51 (by kernel_rfl) (by kernel_rfl)
theorem en61 : Enters Try.prog 61 := Enters.of Try.func61 (by kernel_rfl) (by kernel_rfl)
theorem en63 : Enters Try.prog 63 := Enters.of Try.func63 (by kernel_rfl) (by kernel_rfl)
theorem en65 : Enters Try.prog 65 := Enters.of Try.func65 (by kernel_rfl) (by kernel_rfl)
theorem en66 : Enters Try.prog 66 := Enters.of Try.func66 (by kernel_rfl) (by kernel_rfl)
theorem en67 : Enters Try.prog 67 := Enters.of Try.func67 (by kernel_rfl) (by kernel_rfl)
theorem en68 : Enters Try.prog 68 := Enters.of Try.func68 (by kernel_rfl) (by kernel_rfl)
theorem en69 : Enters Try.prog 69 := Enters.of Try.func69 (by kernel_rfl) (by kernel_rfl)
theorem en73 : Enters Try.prog 73 := Enters.of Try.func73 (by kernel_rfl) (by kernel_rfl)
theorem en82 : Enters Try.prog 82 := Enters.of Try.func82 (by kernel_rfl) (by kernel_rfl)
theorem en86 : Enters Try.prog 86 := Enters.of Try.func86 (by kernel_rfl) (by kernel_rfl)
theorem en91 : Enters Try.prog 91 := Enters.of Try.func91 (by kernel_rfl) (by kernel_rfl)
theorem en93 : Enters Try.prog 93 := Enters.of Try.func93 (by kernel_rfl) (by kernel_rfl)
theorem en96 : Enters Try.prog 96 := Enters.of Try.func96 (by kernel_rfl) (by kernel_rfl)
theorem en98 : Enters Try.prog 98 := Enters.of Try.func98 (by kernel_rfl) (by kernel_rfl)
theorem en100 : Enters Try.prog 100 := Enters.of Try.func100 (by kernel_rfl) (by kernel_rfl)
theorem en101 : Enters Try.prog 101 := Enters.of Try.func101 (by kernel_rfl) (by kernel_rfl)
theorem en102 : Enters Try.prog 102 := Enters.of Try.func102 (by kernel_rfl) (by kernel_rfl)
theorem en104 : Enters Try.prog 104 := Enters.of Try.func104 (by kernel_rfl) (by kernel_rfl)
theorem en108 : Enters Try.prog 108 := Enters.of Try.func108 (by kernel_rfl) (by kernel_rfl)
theorem en109 : Enters Try.prog 109 := Enters.of Try.func109 (by kernel_rfl) (by kernel_rfl)
theorem en111 : Enters Try.prog 111 := Enters.of Try.func111 (by kernel_rfl) (by kernel_rfl)
theorem en112 : Enters Try.prog 112 := Enters.of Try.func112 (by kernel_rfl) (by kernel_rfl)
theorem en124 : Enters Try.prog 124 := Enters.of Try.func124 (by kernel_rfl) (by kernel_rfl)
theorem en127 : Enters Try.prog 127 := Enters.of Try.func127 (by kernel_rfl) (by kernel_rfl)
theorem en131 : Enters Try.prog 131 := Enters.of Try.func131 (by kernel_rfl) (by kernel_rfl)
theorem en134 : Enters Try.prog 134 := Enters.of Try.func134 (by kernel_rfl) (by kernel_rfl)
theorem en135 : Enters Try.prog 135 := Enters.of Try.func135 (by kernel_rfl) (by kernel_rfl)
theorem en136 : Enters Try.prog 136 := Enters.of Try.func136 (by kernel_rfl) (by kernel_rfl)
theorem en137 : Enters Try.prog 137 := Enters.of Try.func137 (by kernel_rfl) (by kernel_rfl)
theorem en141 : Enters Try.prog 141 := Enters.of Try.func141 (by kernel_rfl) (by kernel_rfl)
theorem en143 : Enters Try.prog 143 := Enters.of Try.func143 (by kernel_rfl) (by kernel_rfl)
theorem mixed : Try.prog.follows .mixedOrders = true := by kernel_rfl
end Go.Proofs.Ytncminpafiahpaa
