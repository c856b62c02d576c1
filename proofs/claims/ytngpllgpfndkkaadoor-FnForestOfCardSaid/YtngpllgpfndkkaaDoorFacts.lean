/- What the tables of the program say of its types and functions, looked up once. -/
import Derived.Test.YtngpllgpfndkkaaDoorAvU
import Derived.Test.YtngpllgpfndkkaaDoorProg
import Derived.KernelRfl
namespace Go.Proofs.YtngpllgpfndkkaaDoor
open Go Go.Av
theorem tsz0 : tsz Tryd.prog 0 = some 1 := by kernel_rfl
theorem tby0 : tby Tryd.prog 0 = some 0 := by kernel_rfl
theorem tz0 : tzero Tryd.prog 0 = some (Value.tuple #[]) := by kernel_rfl
theorem tsz1 : tsz Tryd.prog 1 = some 1 := by kernel_rfl
theorem tby1 : tby Tryd.prog 1 = some 8 := by kernel_rfl
theorem tz1 : tzero Tryd.prog 1 = some Value.nilFunc := by kernel_rfl
theorem tsz2 : tsz Tryd.prog 2 = some 1 := by kernel_rfl
theorem tby2 : tby Tryd.prog 2 = some 8 := by kernel_rfl
theorem tz2 : tzero Tryd.prog 2 = some (Value.int IntKind.i64 0) := by kernel_rfl
theorem tsz3 : tsz Tryd.prog 3 = some 1 := by kernel_rfl
theorem tby3 : tby Tryd.prog 3 = some 8 := by kernel_rfl
theorem tz3 : tzero Tryd.prog 3 = some (Value.int IntKind.i64 0) := by kernel_rfl
theorem tsz4 : tsz Tryd.prog 4 = some 1 := by kernel_rfl
theorem tby4 : tby Tryd.prog 4 = some 1 := by kernel_rfl
theorem tz4 : tzero Tryd.prog 4 = some (Value.bool false) := by kernel_rfl
theorem tsz5 : tsz Tryd.prog 5 = some 1 := by kernel_rfl
theorem tby5 : tby Tryd.prog 5 = some 1 := by kernel_rfl
theorem tz5 : tzero Tryd.prog 5 = some (Value.int IntKind.u8 0) := by kernel_rfl
theorem tsz6 : tsz Tryd.prog 6 = some 1 := by kernel_rfl
theorem tby6 : tby Tryd.prog 6 = some 1 := by kernel_rfl
theorem tz6 : tzero Tryd.prog 6 = some (Value.int IntKind.u8 0) := by kernel_rfl
theorem tsz7 : tsz Tryd.prog 7 = some 4 := by kernel_rfl
theorem tby7 : tby Tryd.prog 7 = some 24 := by kernel_rfl
theorem tz7 : tzero Tryd.prog 7 = some (Value.agg #[(Value.int IntKind.i64 0), (Value.int IntKind.i64 0), (Value.bool false), (Value.int IntKind.u8 0)]) := by kernel_rfl
theorem fo7_0 : fieldOff Tryd.prog 7 0 = some 0 := by kernel_rfl
theorem fo7_1 : fieldOff Tryd.prog 7 1 = some 1 := by kernel_rfl
theorem fo7_2 : fieldOff Tryd.prog 7 2 = some 2 := by kernel_rfl
theorem fo7_3 : fieldOff Tryd.prog 7 3 = some 3 := by kernel_rfl
theorem tsz8 : tsz Tryd.prog 8 = some 4 := by kernel_rfl
theorem tby8 : tby Tryd.prog 8 = some 24 := by kernel_rfl
theorem tz8 : tzero Tryd.prog 8 = some (Value.agg #[(Value.int IntKind.i64 0), (Value.int IntKind.i64 0), (Value.bool false), (Value.int IntKind.u8 0)]) := by kernel_rfl
theorem fo8_0 : fieldOff Tryd.prog 8 0 = some 0 := by kernel_rfl
theorem fo8_1 : fieldOff Tryd.prog 8 1 = some 1 := by kernel_rfl
theorem fo8_2 : fieldOff Tryd.prog 8 2 = some 2 := by kernel_rfl
theorem fo8_3 : fieldOff Tryd.prog 8 3 = some 3 := by kernel_rfl
theorem tsz9 : tsz Tryd.prog 9 = some 1 := by kernel_rfl
theorem tby9 : tby Tryd.prog 9 = some 16 := by kernel_rfl
theorem tsz10 : tsz Tryd.prog 10 = some 1 := by kernel_rfl
theorem tby10 : tby Tryd.prog 10 = some 16 := by kernel_rfl
theorem tsz11 : tsz Tryd.prog 11 = some 1 := by kernel_rfl
theorem tby11 : tby Tryd.prog 11 = some 16 := by kernel_rfl
theorem tsz12 : tsz Tryd.prog 12 = some 1 := by kernel_rfl
theorem tby12 : tby Tryd.prog 12 = some 8 := by kernel_rfl
theorem tz12 : tzero Tryd.prog 12 = some (Value.int IntKind.u64 0) := by kernel_rfl
theorem tsz13 : tsz Tryd.prog 13 = some 2 := by kernel_rfl
theorem tby13 : tby Tryd.prog 13 = some 24 := by kernel_rfl
theorem fo13_0 : fieldOff Tryd.prog 13 0 = some 0 := by kernel_rfl
theorem fo13_1 : fieldOff Tryd.prog 13 1 = some 1 := by kernel_rfl
theorem tsz14 : tsz Tryd.prog 14 = some 2 := by kernel_rfl
theorem tby14 : tby Tryd.prog 14 = some 24 := by kernel_rfl
theorem fo14_0 : fieldOff Tryd.prog 14 0 = some 0 := by kernel_rfl
theorem fo14_1 : fieldOff Tryd.prog 14 1 = some 1 := by kernel_rfl
theorem tsz15 : tsz Tryd.prog 15 = some 1 := by kernel_rfl
theorem tby15 : tby Tryd.prog 15 = some 8 := by kernel_rfl
theorem tz15 : tzero Tryd.prog 15 = some (Value.pointer none) := by kernel_rfl
theorem tsz16 : tsz Tryd.prog 16 = some 1 := by kernel_rfl
theorem tby16 : tby Tryd.prog 16 = some 8 := by kernel_rfl
theorem tz16 : tzero Tryd.prog 16 = some (Value.pointer none) := by kernel_rfl
theorem tsz17 : tsz Tryd.prog 17 = some 1 := by kernel_rfl
theorem tby17 : tby Tryd.prog 17 = some 8 := by kernel_rfl
theorem tz17 : tzero Tryd.prog 17 = some (Value.pointer none) := by kernel_rfl
theorem tsz18 : tsz Tryd.prog 18 = some 1 := by kernel_rfl
theorem tby18 : tby Tryd.prog 18 = some 8 := by kernel_rfl
theorem tz18 : tzero Tryd.prog 18 = some (Value.agg #[(Value.pointer none)]) := by kernel_rfl
theorem fo18_0 : fieldOff Tryd.prog 18 0 = some 0 := by kernel_rfl
theorem tsz19 : tsz Tryd.prog 19 = some 1 := by kernel_rfl
theorem tby19 : tby Tryd.prog 19 = some 8 := by kernel_rfl
theorem tz19 : tzero Tryd.prog 19 = some (Value.agg #[(Value.pointer none)]) := by kernel_rfl
theorem fo19_0 : fieldOff Tryd.prog 19 0 = some 0 := by kernel_rfl
theorem tsz20 : tsz Tryd.prog 20 = some 1 := by kernel_rfl
theorem tby20 : tby Tryd.prog 20 = some 16 := by kernel_rfl
theorem tz20 : tzero Tryd.prog 20 = some Value.nilIface := by kernel_rfl
theorem tsz21 : tsz Tryd.prog 21 = some 1 := by kernel_rfl
theorem tby21 : tby Tryd.prog 21 = some 4 := by kernel_rfl
theorem tz21 : tzero Tryd.prog 21 = some (Value.int IntKind.i32 0) := by kernel_rfl
theorem tsz22 : tsz Tryd.prog 22 = some 1 := by kernel_rfl
theorem tby22 : tby Tryd.prog 22 = some 24 := by kernel_rfl
theorem tz22 : tzero Tryd.prog 22 = some (Value.slice none 0 0) := by kernel_rfl
theorem tsz23 : tsz Tryd.prog 23 = some 2 := by kernel_rfl
theorem tby23 : tby Tryd.prog 23 = some 32 := by kernel_rfl
theorem tz23 : tzero Tryd.prog 23 = some (Value.agg #[(Value.int IntKind.i64 0), (Value.slice none 0 0)]) := by kernel_rfl
theorem fo23_0 : fieldOff Tryd.prog 23 0 = some 0 := by kernel_rfl
theorem fo23_1 : fieldOff Tryd.prog 23 1 = some 1 := by kernel_rfl
theorem tsz24 : tsz Tryd.prog 24 = some 2 := by kernel_rfl
theorem tby24 : tby Tryd.prog 24 = some 32 := by kernel_rfl
theorem tz24 : tzero Tryd.prog 24 = some (Value.agg #[(Value.int IntKind.i64 0), (Value.slice none 0 0)]) := by kernel_rfl
theorem fo24_0 : fieldOff Tryd.prog 24 0 = some 0 := by kernel_rfl
theorem fo24_1 : fieldOff Tryd.prog 24 1 = some 1 := by kernel_rfl
theorem tsz25 : tsz Tryd.prog 25 = some 1 := by kernel_rfl
theorem tby25 : tby Tryd.prog 25 = some 8 := by kernel_rfl
theorem tz25 : tzero Tryd.prog 25 = some Value.nilFunc := by kernel_rfl
theorem tsz26 : tsz Tryd.prog 26 = some 1 := by kernel_rfl
theorem tby26 : tby Tryd.prog 26 = some 24 := by kernel_rfl
theorem tz26 : tzero Tryd.prog 26 = some (Value.slice none 0 0) := by kernel_rfl
theorem tsz27 : tsz Tryd.prog 27 = some 1 := by kernel_rfl
theorem tby27 : tby Tryd.prog 27 = some 8 := by kernel_rfl
theorem tz27 : tzero Tryd.prog 27 = some Value.nilFunc := by kernel_rfl
theorem tsz28 : tsz Tryd.prog 28 = some 1 := by kernel_rfl
theorem tby28 : tby Tryd.prog 28 = some 24 := by kernel_rfl
theorem tz28 : tzero Tryd.prog 28 = some (Value.slice none 0 0) := by kernel_rfl
theorem tsz29 : tsz Tryd.prog 29 = some 2 := by kernel_rfl
theorem tby29 : tby Tryd.prog 29 = some 32 := by kernel_rfl
theorem tz29 : tzero Tryd.prog 29 = some (Value.agg #[(Value.int IntKind.i64 0), (Value.slice none 0 0)]) := by kernel_rfl
theorem fo29_0 : fieldOff Tryd.prog 29 0 = some 0 := by kernel_rfl
theorem fo29_1 : fieldOff Tryd.prog 29 1 = some 1 := by kernel_rfl
theorem tsz30 : tsz Tryd.prog 30 = some 2 := by kernel_rfl
theorem tby30 : tby Tryd.prog 30 = some 32 := by kernel_rfl
theorem tz30 : tzero Tryd.prog 30 = some (Value.agg #[(Value.int IntKind.i64 0), (Value.slice none 0 0)]) := by kernel_rfl
theorem fo30_0 : fieldOff Tryd.prog 30 0 = some 0 := by kernel_rfl
theorem fo30_1 : fieldOff Tryd.prog 30 1 = some 1 := by kernel_rfl
theorem tsz31 : tsz Tryd.prog 31 = some 1 := by kernel_rfl
theorem tby31 : tby Tryd.prog 31 = some 8 := by kernel_rfl
theorem tz31 : tzero Tryd.prog 31 = some Value.nilFunc := by kernel_rfl
theorem tsz32 : tsz Tryd.prog 32 = some 1 := by kernel_rfl
theorem tby32 : tby Tryd.prog 32 = some 8 := by kernel_rfl
theorem tz32 : tzero Tryd.prog 32 = some Value.nilFunc := by kernel_rfl
theorem tsz33 : tsz Tryd.prog 33 = some 1 := by kernel_rfl
theorem tby33 : tby Tryd.prog 33 = some 8 := by kernel_rfl
theorem tz33 : tzero Tryd.prog 33 = some Value.nilFunc := by kernel_rfl
theorem tsz34 : tsz Tryd.prog 34 = some 1 := by kernel_rfl
theorem tby34 : tby Tryd.prog 34 = some 8 := by kernel_rfl
theorem tz34 : tzero Tryd.prog 34 = some Value.nilFunc := by kernel_rfl
theorem tsz35 : tsz Tryd.prog 35 = some 1 := by kernel_rfl
theorem tby35 : tby Tryd.prog 35 = some 8 := by kernel_rfl
theorem tz35 : tzero Tryd.prog 35 = some Value.nilFunc := by kernel_rfl
theorem tsz36 : tsz Tryd.prog 36 = some 1 := by kernel_rfl
theorem tby36 : tby Tryd.prog 36 = some 8 := by kernel_rfl
theorem tz36 : tzero Tryd.prog 36 = some Value.nilFunc := by kernel_rfl
theorem tsz37 : tsz Tryd.prog 37 = some 1 := by kernel_rfl
theorem tby37 : tby Tryd.prog 37 = some 0 := by kernel_rfl
theorem tz37 : tzero Tryd.prog 37 = some (Value.tuple #[(Value.slice none 0 0), (Value.bool false)]) := by kernel_rfl
theorem tsz38 : tsz Tryd.prog 38 = some 1 := by kernel_rfl
theorem tby38 : tby Tryd.prog 38 = some 8 := by kernel_rfl
theorem tz38 : tzero Tryd.prog 38 = some Value.nilFunc := by kernel_rfl
theorem tsz39 : tsz Tryd.prog 39 = some 1 := by kernel_rfl
theorem tby39 : tby Tryd.prog 39 = some 24 := by kernel_rfl
theorem tz39 : tzero Tryd.prog 39 = some (Value.slice none 0 0) := by kernel_rfl
theorem tsz40 : tsz Tryd.prog 40 = some 1 := by kernel_rfl
theorem tby40 : tby Tryd.prog 40 = some 8 := by kernel_rfl
theorem tz40 : tzero Tryd.prog 40 = some Value.nilFunc := by kernel_rfl
theorem tsz41 : tsz Tryd.prog 41 = some 1 := by kernel_rfl
theorem tby41 : tby Tryd.prog 41 = some 8 := by kernel_rfl
theorem tz41 : tzero Tryd.prog 41 = some Value.nilFunc := by kernel_rfl
theorem tsz42 : tsz Tryd.prog 42 = some 1 := by kernel_rfl
theorem tby42 : tby Tryd.prog 42 = some 8 := by kernel_rfl
theorem tz42 : tzero Tryd.prog 42 = some Value.nilFunc := by kernel_rfl
theorem tsz43 : tsz Tryd.prog 43 = some 1 := by kernel_rfl
theorem tby43 : tby Tryd.prog 43 = some 8 := by kernel_rfl
theorem tz43 : tzero Tryd.prog 43 = some Value.nilFunc := by kernel_rfl
theorem tsz44 : tsz Tryd.prog 44 = some 1 := by kernel_rfl
theorem tby44 : tby Tryd.prog 44 = some 8 := by kernel_rfl
theorem tz44 : tzero Tryd.prog 44 = some Value.nilFunc := by kernel_rfl
theorem tsz45 : tsz Tryd.prog 45 = some 3 := by kernel_rfl
theorem tby45 : tby Tryd.prog 45 = some 24 := by kernel_rfl
theorem tz45 : tzero Tryd.prog 45 = some (Value.agg #[(Value.int IntKind.i64 0), (Value.int IntKind.i64 0), (Value.int IntKind.i64 0)]) := by kernel_rfl
theorem fo45_0 : fieldOff Tryd.prog 45 0 = some 0 := by kernel_rfl
theorem fo45_1 : fieldOff Tryd.prog 45 1 = some 1 := by kernel_rfl
theorem fo45_2 : fieldOff Tryd.prog 45 2 = some 2 := by kernel_rfl
theorem tsz46 : tsz Tryd.prog 46 = some 3 := by kernel_rfl
theorem tby46 : tby Tryd.prog 46 = some 24 := by kernel_rfl
theorem tz46 : tzero Tryd.prog 46 = some (Value.agg #[(Value.int IntKind.i64 0), (Value.int IntKind.i64 0), (Value.int IntKind.i64 0)]) := by kernel_rfl
theorem fo46_0 : fieldOff Tryd.prog 46 0 = some 0 := by kernel_rfl
theorem fo46_1 : fieldOff Tryd.prog 46 1 = some 1 := by kernel_rfl
theorem fo46_2 : fieldOff Tryd.prog 46 2 = some 2 := by kernel_rfl
theorem tsz47 : tsz Tryd.prog 47 = some 1 := by kernel_rfl
theorem tby47 : tby Tryd.prog 47 = some 8 := by kernel_rfl
theorem tz47 : tzero Tryd.prog 47 = some Value.nilFunc := by kernel_rfl
theorem tsz48 : tsz Tryd.prog 48 = some 1 := by kernel_rfl
theorem tby48 : tby Tryd.prog 48 = some 8 := by kernel_rfl
theorem tz48 : tzero Tryd.prog 48 = some Value.nilFunc := by kernel_rfl
theorem tsz49 : tsz Tryd.prog 49 = some 1 := by kernel_rfl
theorem tby49 : tby Tryd.prog 49 = some 8 := by kernel_rfl
theorem tz49 : tzero Tryd.prog 49 = some Value.nilFunc := by kernel_rfl
theorem tsz50 : tsz Tryd.prog 50 = some 1 := by kernel_rfl
theorem tby50 : tby Tryd.prog 50 = some 24 := by kernel_rfl
theorem tz50 : tzero Tryd.prog 50 = some (Value.slice none 0 0) := by kernel_rfl
theorem tsz51 : tsz Tryd.prog 51 = some 1 := by kernel_rfl
theorem tby51 : tby Tryd.prog 51 = some 8 := by kernel_rfl
theorem tz51 : tzero Tryd.prog 51 = some Value.nilFunc := by kernel_rfl
theorem tsz52 : tsz Tryd.prog 52 = some 1 := by kernel_rfl
theorem tby52 : tby Tryd.prog 52 = some 4 := by kernel_rfl
theorem tz52 : tzero Tryd.prog 52 = some (Value.int IntKind.u32 0) := by kernel_rfl
theorem tsz53 : tsz Tryd.prog 53 = some 1 := by kernel_rfl
theorem tby53 : tby Tryd.prog 53 = some 4 := by kernel_rfl
theorem tz53 : tzero Tryd.prog 53 = some (Value.int IntKind.u32 0) := by kernel_rfl
theorem tsz54 : tsz Tryd.prog 54 = some 1 := by kernel_rfl
theorem tby54 : tby Tryd.prog 54 = some 8 := by kernel_rfl
theorem tz54 : tzero Tryd.prog 54 = some Value.nilFunc := by kernel_rfl
theorem tsz55 : tsz Tryd.prog 55 = some 1 := by kernel_rfl
theorem tby55 : tby Tryd.prog 55 = some 8 := by kernel_rfl
theorem tz55 : tzero Tryd.prog 55 = some Value.nilFunc := by kernel_rfl
theorem tsz56 : tsz Tryd.prog 56 = some 1 := by kernel_rfl
theorem tby56 : tby Tryd.prog 56 = some 8 := by kernel_rfl
theorem tz56 : tzero Tryd.prog 56 = some Value.nilFunc := by kernel_rfl
theorem tsz57 : tsz Tryd.prog 57 = some 1 := by kernel_rfl
theorem tby57 : tby Tryd.prog 57 = some 8 := by kernel_rfl
theorem tz57 : tzero Tryd.prog 57 = some Value.nilFunc := by kernel_rfl
theorem tsz58 : tsz Tryd.prog 58 = some 1 := by kernel_rfl
theorem tby58 : tby Tryd.prog 58 = some 8 := by kernel_rfl
theorem tz58 : tzero Tryd.prog 58 = some Value.nilFunc := by kernel_rfl
theorem tsz59 : tsz Tryd.prog 59 = some 1 := by kernel_rfl
theorem tby59 : tby Tryd.prog 59 = some 8 := by kernel_rfl
theorem tz59 : tzero Tryd.prog 59 = some Value.nilFunc := by kernel_rfl
theorem tsz60 : tsz Tryd.prog 60 = some 1 := by kernel_rfl
theorem tby60 : tby Tryd.prog 60 = some 8 := by kernel_rfl
theorem tz60 : tzero Tryd.prog 60 = some Value.nilFunc := by kernel_rfl
theorem tsz61 : tsz Tryd.prog 61 = some 1 := by kernel_rfl
theorem tby61 : tby Tryd.prog 61 = some 8 := by kernel_rfl
theorem tz61 : tzero Tryd.prog 61 = some Value.nilFunc := by kernel_rfl
theorem tsz62 : tsz Tryd.prog 62 = some 1 := by kernel_rfl
theorem tby62 : tby Tryd.prog 62 = some 8 := by kernel_rfl
theorem tz62 : tzero Tryd.prog 62 = some (Value.pointer none) := by kernel_rfl
theorem tsz63 : tsz Tryd.prog 63 = some 1 := by kernel_rfl
theorem tby63 : tby Tryd.prog 63 = some 8 := by kernel_rfl
theorem tz63 : tzero Tryd.prog 63 = some Value.nilFunc := by kernel_rfl
theorem tsz64 : tsz Tryd.prog 64 = some 1 := by kernel_rfl
theorem tby64 : tby Tryd.prog 64 = some 8 := by kernel_rfl
theorem tz64 : tzero Tryd.prog 64 = some Value.nilFunc := by kernel_rfl
theorem tsz65 : tsz Tryd.prog 65 = some 1 := by kernel_rfl
theorem tby65 : tby Tryd.prog 65 = some 8 := by kernel_rfl
theorem tz65 : tzero Tryd.prog 65 = some Value.nilFunc := by kernel_rfl
theorem tsz66 : tsz Tryd.prog 66 = some 1 := by kernel_rfl
theorem tby66 : tby Tryd.prog 66 = some 8 := by kernel_rfl
theorem tz66 : tzero Tryd.prog 66 = some Value.nilFunc := by kernel_rfl
theorem tsz67 : tsz Tryd.prog 67 = some 1 := by kernel_rfl
theorem tby67 : tby Tryd.prog 67 = some 8 := by kernel_rfl
theorem tz67 : tzero Tryd.prog 67 = some Value.nilFunc := by kernel_rfl
theorem tsz68 : tsz Tryd.prog 68 = some 1 := by kernel_rfl
theorem tby68 : tby Tryd.prog 68 = some 8 := by kernel_rfl
theorem tz68 : tzero Tryd.prog 68 = some Value.nilFunc := by kernel_rfl
theorem tsz69 : tsz Tryd.prog 69 = some 1 := by kernel_rfl
theorem tby69 : tby Tryd.prog 69 = some 8 := by kernel_rfl
theorem tz69 : tzero Tryd.prog 69 = some Value.nilFunc := by kernel_rfl
theorem tsz70 : tsz Tryd.prog 70 = some 1 := by kernel_rfl
theorem tby70 : tby Tryd.prog 70 = some 24 := by kernel_rfl
theorem tz70 : tzero Tryd.prog 70 = some (Value.slice none 0 0) := by kernel_rfl
theorem tsz71 : tsz Tryd.prog 71 = some 1 := by kernel_rfl
theorem tby71 : tby Tryd.prog 71 = some 8 := by kernel_rfl
theorem tz71 : tzero Tryd.prog 71 = some Value.nilFunc := by kernel_rfl
theorem tsz72 : tsz Tryd.prog 72 = some 1 := by kernel_rfl
theorem tby72 : tby Tryd.prog 72 = some 8 := by kernel_rfl
theorem tz72 : tzero Tryd.prog 72 = some Value.nilFunc := by kernel_rfl
theorem tsz73 : tsz Tryd.prog 73 = some 1 := by kernel_rfl
theorem tby73 : tby Tryd.prog 73 = some 0 := by kernel_rfl
theorem tz73 : tzero Tryd.prog 73 = some (Value.tuple #[(Value.int IntKind.i64 0), (Value.int IntKind.i64 0), (Value.bool false)]) := by kernel_rfl
theorem tsz74 : tsz Tryd.prog 74 = some 1 := by kernel_rfl
theorem tby74 : tby Tryd.prog 74 = some 8 := by kernel_rfl
theorem tz74 : tzero Tryd.prog 74 = some Value.nilFunc := by kernel_rfl
theorem tsz75 : tsz Tryd.prog 75 = some 1 := by kernel_rfl
theorem tby75 : tby Tryd.prog 75 = some 8 := by kernel_rfl
theorem tz75 : tzero Tryd.prog 75 = some Value.nilFunc := by kernel_rfl
theorem tsz76 : tsz Tryd.prog 76 = some 1 := by kernel_rfl
theorem tby76 : tby Tryd.prog 76 = some 8 := by kernel_rfl
theorem tz76 : tzero Tryd.prog 76 = some Value.nilFunc := by kernel_rfl
theorem tsz77 : tsz Tryd.prog 77 = some 1 := by kernel_rfl
theorem tby77 : tby Tryd.prog 77 = some 8 := by kernel_rfl
theorem tz77 : tzero Tryd.prog 77 = some Value.nilFunc := by kernel_rfl
theorem tsz78 : tsz Tryd.prog 78 = some 3 := by kernel_rfl
theorem tby78 : tby Tryd.prog 78 = some 24 := by kernel_rfl
theorem tz78 : tzero Tryd.prog 78 = some (Value.agg #[(Value.int IntKind.i64 0), (Value.int IntKind.i64 0), (Value.int IntKind.i64 0)]) := by kernel_rfl
theorem fo78_0 : fieldOff Tryd.prog 78 0 = some 0 := by kernel_rfl
theorem fo78_1 : fieldOff Tryd.prog 78 1 = some 1 := by kernel_rfl
theorem fo78_2 : fieldOff Tryd.prog 78 2 = some 2 := by kernel_rfl
theorem tsz79 : tsz Tryd.prog 79 = some 1 := by kernel_rfl
theorem tby79 : tby Tryd.prog 79 = some 8 := by kernel_rfl
theorem tz79 : tzero Tryd.prog 79 = some (Value.int IntKind.u64 0) := by kernel_rfl
theorem tsz80 : tsz Tryd.prog 80 = some 1 := by kernel_rfl
theorem tby80 : tby Tryd.prog 80 = some 8 := by kernel_rfl
theorem tz80 : tzero Tryd.prog 80 = some Value.nilFunc := by kernel_rfl
theorem tsz81 : tsz Tryd.prog 81 = some 2 := by kernel_rfl
theorem tby81 : tby Tryd.prog 81 = some 32 := by kernel_rfl
theorem tz81 : tzero Tryd.prog 81 = some (Value.agg #[(Value.slice none 0 0), (Value.int IntKind.i64 0)]) := by kernel_rfl
theorem fo81_0 : fieldOff Tryd.prog 81 0 = some 0 := by kernel_rfl
theorem fo81_1 : fieldOff Tryd.prog 81 1 = some 1 := by kernel_rfl
theorem tsz82 : tsz Tryd.prog 82 = some 2 := by kernel_rfl
theorem tby82 : tby Tryd.prog 82 = some 32 := by kernel_rfl
theorem tz82 : tzero Tryd.prog 82 = some (Value.agg #[(Value.slice none 0 0), (Value.int IntKind.i64 0)]) := by kernel_rfl
theorem fo82_0 : fieldOff Tryd.prog 82 0 = some 0 := by kernel_rfl
theorem fo82_1 : fieldOff Tryd.prog 82 1 = some 1 := by kernel_rfl
theorem tsz83 : tsz Tryd.prog 83 = some 1 := by kernel_rfl
theorem tby83 : tby Tryd.prog 83 = some 0 := by kernel_rfl
theorem tz83 : tzero Tryd.prog 83 = some (Value.tuple #[(Value.agg #[(Value.int IntKind.i64 0), (Value.slice none 0 0)]), (Value.bool false)]) := by kernel_rfl
theorem tsz84 : tsz Tryd.prog 84 = some 1 := by kernel_rfl
theorem tby84 : tby Tryd.prog 84 = some 8 := by kernel_rfl
theorem tz84 : tzero Tryd.prog 84 = some Value.nilFunc := by kernel_rfl
theorem tsz85 : tsz Tryd.prog 85 = some 1 := by kernel_rfl
theorem tby85 : tby Tryd.prog 85 = some 8 := by kernel_rfl
theorem tz85 : tzero Tryd.prog 85 = some Value.nilFunc := by kernel_rfl
theorem tsz86 : tsz Tryd.prog 86 = some 1 := by kernel_rfl
theorem tby86 : tby Tryd.prog 86 = some 8 := by kernel_rfl
theorem tz86 : tzero Tryd.prog 86 = some Value.nilFunc := by kernel_rfl
theorem tsz87 : tsz Tryd.prog 87 = some 1 := by kernel_rfl
theorem tby87 : tby Tryd.prog 87 = some 8 := by kernel_rfl
theorem tz87 : tzero Tryd.prog 87 = some Value.nilFunc := by kernel_rfl
theorem tsz88 : tsz Tryd.prog 88 = some 1 := by kernel_rfl
theorem tby88 : tby Tryd.prog 88 = some 8 := by kernel_rfl
theorem tz88 : tzero Tryd.prog 88 = some Value.nilFunc := by kernel_rfl
theorem tsz89 : tsz Tryd.prog 89 = some 32 := by kernel_rfl
theorem tby89 : tby Tryd.prog 89 = some 32 := by kernel_rfl
theorem tz89 : tzero Tryd.prog 89 = some (Value.agg #[(Value.int IntKind.u8 0), (Value.int IntKind.u8 0), (Value.int IntKind.u8 0), (Value.int IntKind.u8 0), (Value.int IntKind.u8 0), (Value.int IntKind.u8 0), (Value.int IntKind.u8 0), (Value.int IntKind.u8 0), (Value.int IntKind.u8 0), (Value.int IntKind.u8 0), (Value.int IntKind.u8 0), (Value.int IntKind.u8 0), (Value.int IntKind.u8 0), (Value.int IntKind.u8 0), (Value.int IntKind.u8 0), (Value.int IntKind.u8 0), (Value.int IntKind.u8 0), (Value.int IntKind.u8 0), (Value.int IntKind.u8 0), (Value.int IntKind.u8 0), (Value.int IntKind.u8 0), (Value.int IntKind.u8 0), (Value.int IntKind.u8 0), (Value.int IntKind.u8 0), (Value.int IntKind.u8 0), (Value.int IntKind.u8 0), (Value.int IntKind.u8 0), (Value.int IntKind.u8 0), (Value.int IntKind.u8 0), (Value.int IntKind.u8 0), (Value.int IntKind.u8 0), (Value.int IntKind.u8 0)]) := by kernel_rfl
theorem tsz90 : tsz Tryd.prog 90 = some 1 := by kernel_rfl
theorem tby90 : tby Tryd.prog 90 = some 8 := by kernel_rfl
theorem tz90 : tzero Tryd.prog 90 = some Value.nilFunc := by kernel_rfl
theorem tsz91 : tsz Tryd.prog 91 = some 1 := by kernel_rfl
theorem tby91 : tby Tryd.prog 91 = some 8 := by kernel_rfl
theorem tz91 : tzero Tryd.prog 91 = some Value.nilFunc := by kernel_rfl
theorem tsz92 : tsz Tryd.prog 92 = some 4 := by kernel_rfl
theorem tby92 : tby Tryd.prog 92 = some 40 := by kernel_rfl
theorem fo92_0 : fieldOff Tryd.prog 92 0 = some 0 := by kernel_rfl
theorem fo92_1 : fieldOff Tryd.prog 92 1 = some 1 := by kernel_rfl
theorem fo92_2 : fieldOff Tryd.prog 92 2 = some 2 := by kernel_rfl
theorem fo92_3 : fieldOff Tryd.prog 92 3 = some 3 := by kernel_rfl
theorem tsz93 : tsz Tryd.prog 93 = some 4 := by kernel_rfl
theorem tby93 : tby Tryd.prog 93 = some 40 := by kernel_rfl
theorem fo93_0 : fieldOff Tryd.prog 93 0 = some 0 := by kernel_rfl
theorem fo93_1 : fieldOff Tryd.prog 93 1 = some 1 := by kernel_rfl
theorem fo93_2 : fieldOff Tryd.prog 93 2 = some 2 := by kernel_rfl
theorem fo93_3 : fieldOff Tryd.prog 93 3 = some 3 := by kernel_rfl
theorem tsz94 : tsz Tryd.prog 94 = some 0 := by kernel_rfl
theorem tby94 : tby Tryd.prog 94 = some 0 := by kernel_rfl
theorem tz94 : tzero Tryd.prog 94 = some (Value.agg #[]) := by kernel_rfl
theorem tsz95 : tsz Tryd.prog 95 = some 0 := by kernel_rfl
theorem tby95 : tby Tryd.prog 95 = some 0 := by kernel_rfl
theorem tz95 : tzero Tryd.prog 95 = some (Value.agg #[]) := by kernel_rfl
theorem tsz96 : tsz Tryd.prog 96 = some 0 := by kernel_rfl
theorem tby96 : tby Tryd.prog 96 = some 0 := by kernel_rfl
theorem tz96 : tzero Tryd.prog 96 = some (Value.agg #[]) := by kernel_rfl
theorem tsz97 : tsz Tryd.prog 97 = some 1 := by kernel_rfl
theorem tby97 : tby Tryd.prog 97 = some 1 := by kernel_rfl
theorem tz97 : tzero Tryd.prog 97 = some (Value.int IntKind.u8 0) := by kernel_rfl
theorem tsz98 : tsz Tryd.prog 98 = some 1 := by kernel_rfl
theorem tby98 : tby Tryd.prog 98 = some 1 := by kernel_rfl
theorem tz98 : tzero Tryd.prog 98 = some (Value.int IntKind.u8 0) := by kernel_rfl
theorem tsz99 : tsz Tryd.prog 99 = some 1 := by kernel_rfl
theorem tby99 : tby Tryd.prog 99 = some 8 := by kernel_rfl
theorem tz99 : tzero Tryd.prog 99 = some Value.nilFunc := by kernel_rfl
theorem tsz100 : tsz Tryd.prog 100 = some 1 := by kernel_rfl
theorem tby100 : tby Tryd.prog 100 = some 8 := by kernel_rfl
theorem tz100 : tzero Tryd.prog 100 = some (Value.pointer none) := by kernel_rfl
theorem tsz101 : tsz Tryd.prog 101 = some 1 := by kernel_rfl
theorem tby101 : tby Tryd.prog 101 = some 4 := by kernel_rfl
theorem tz101 : tzero Tryd.prog 101 = some (Value.int IntKind.i32 0) := by kernel_rfl
theorem tsz102 : tsz Tryd.prog 102 = some 1 := by kernel_rfl
theorem tby102 : tby Tryd.prog 102 = some 4 := by kernel_rfl
theorem tz102 : tzero Tryd.prog 102 = some (Value.int IntKind.i32 0) := by kernel_rfl
theorem tsz103 : tsz Tryd.prog 103 = some 11 := by kernel_rfl
theorem tby103 : tby Tryd.prog 103 = some 48 := by kernel_rfl
theorem tz103 : tzero Tryd.prog 103 = some (Value.agg #[(Value.int IntKind.u64 0), (Value.int IntKind.u64 0), (Value.int IntKind.u32 0), (Value.int IntKind.u8 0), (Value.int IntKind.u8 0), (Value.int IntKind.u8 0), (Value.int IntKind.u8 0), Value.nilFunc, (Value.pointer none), (Value.int IntKind.i32 0), (Value.int IntKind.i32 0)]) := by kernel_rfl
theorem fo103_0 : fieldOff Tryd.prog 103 0 = some 0 := by kernel_rfl
theorem fo103_1 : fieldOff Tryd.prog 103 1 = some 1 := by kernel_rfl
theorem fo103_2 : fieldOff Tryd.prog 103 2 = some 2 := by kernel_rfl
theorem fo103_3 : fieldOff Tryd.prog 103 3 = some 3 := by kernel_rfl
theorem fo103_4 : fieldOff Tryd.prog 103 4 = some 4 := by kernel_rfl
theorem fo103_5 : fieldOff Tryd.prog 103 5 = some 5 := by kernel_rfl
theorem fo103_6 : fieldOff Tryd.prog 103 6 = some 6 := by kernel_rfl
theorem fo103_7 : fieldOff Tryd.prog 103 7 = some 7 := by kernel_rfl
theorem fo103_8 : fieldOff Tryd.prog 103 8 = some 8 := by kernel_rfl
theorem fo103_9 : fieldOff Tryd.prog 103 9 = some 9 := by kernel_rfl
theorem fo103_10 : fieldOff Tryd.prog 103 10 = some 10 := by kernel_rfl
theorem tsz104 : tsz Tryd.prog 104 = some 11 := by kernel_rfl
theorem tby104 : tby Tryd.prog 104 = some 48 := by kernel_rfl
theorem tz104 : tzero Tryd.prog 104 = some (Value.agg #[(Value.int IntKind.u64 0), (Value.int IntKind.u64 0), (Value.int IntKind.u32 0), (Value.int IntKind.u8 0), (Value.int IntKind.u8 0), (Value.int IntKind.u8 0), (Value.int IntKind.u8 0), Value.nilFunc, (Value.pointer none), (Value.int IntKind.i32 0), (Value.int IntKind.i32 0)]) := by kernel_rfl
theorem fo104_0 : fieldOff Tryd.prog 104 0 = some 0 := by kernel_rfl
theorem fo104_1 : fieldOff Tryd.prog 104 1 = some 1 := by kernel_rfl
theorem fo104_2 : fieldOff Tryd.prog 104 2 = some 2 := by kernel_rfl
theorem fo104_3 : fieldOff Tryd.prog 104 3 = some 3 := by kernel_rfl
theorem fo104_4 : fieldOff Tryd.prog 104 4 = some 4 := by kernel_rfl
theorem fo104_5 : fieldOff Tryd.prog 104 5 = some 5 := by kernel_rfl
theorem fo104_6 : fieldOff Tryd.prog 104 6 = some 6 := by kernel_rfl
theorem fo104_7 : fieldOff Tryd.prog 104 7 = some 7 := by kernel_rfl
theorem fo104_8 : fieldOff Tryd.prog 104 8 = some 8 := by kernel_rfl
theorem fo104_9 : fieldOff Tryd.prog 104 9 = some 9 := by kernel_rfl
theorem fo104_10 : fieldOff Tryd.prog 104 10 = some 10 := by kernel_rfl
theorem tsz105 : tsz Tryd.prog 105 = some 1 := by kernel_rfl
theorem tby105 : tby Tryd.prog 105 = some 8 := by kernel_rfl
theorem tz105 : tzero Tryd.prog 105 = some (Value.pointer none) := by kernel_rfl
theorem en3 : Enters Tryd.prog 3 := Enters.of Tryd.func3 (by kernel_rfl) (by kernel_rfl)
theorem en4 : Enters Tryd.prog 4 := Enters.of Tryd.func4 (by kernel_rfl) (by kernel_rfl)
theorem en5 : Enters Tryd.prog 5 := Enters.of Tryd.func5 (by kernel_rfl) (by kernel_rfl)
theorem en6 : Enters Tryd.prog 6 := Enters.of Tryd.func6 (by kernel_rfl) (by kernel_rfl)
theorem en7 : Enters Tryd.prog 7 := Enters.of Tryd.func7 (by kernel_rfl) (by kernel_rfl)
theorem en8 : Enters Tryd.prog 8 := Enters.of Tryd.func8 (by kernel_rfl) (by kernel_rfl)
theorem en9 : Enters Tryd.prog 9 := Enters.of Tryd.func9 (by kernel_rfl) (by kernel_rfl)
theorem en10 : Enters Tryd.prog 10 := Enters.of Tryd.func10 (by kernel_rfl) (by kernel_rfl)
theorem en11 : Enters Tryd.prog 11 := Enters.of Tryd.func11 (by kernel_rfl) (by kernel_rfl)
theorem en12 : Enters Tryd.prog 12 := Enters.of Tryd.func12 (by kernel_rfl) (by kernel_rfl)
theorem en13 : Enters Tryd.prog 13 := Enters.of Tryd.func13 (by kernel_rfl) (by kernel_rfl)
theorem en14 : Enters Tryd.prog 14 := Enters.of Tryd.func14 (by kernel_rfl) (by kernel_rfl)
theorem en15 : Enters Tryd.prog 15 := Enters.of Tryd.func15 (by kernel_rfl) (by kernel_rfl)
theorem en16 : Enters Tryd.prog 16 := Enters.of Tryd.func16 (by kernel_rfl) (by kernel_rfl)
theorem en17 : Enters Tryd.prog 17 := Enters.of Tryd.func17 (by kernel_rfl) (by kernel_rfl)
theorem en18 : Enters Tryd.prog 18 := Enters.of Tryd.func18 (by kernel_rfl) (by kernel_rfl)
theorem en19 : Enters Tryd.prog 19 := Enters.of Tryd.func19 (by kernel_rfl) (by kernel_rfl)
theorem en20 : Enters Tryd.prog 20 := Enters.of Tryd.func20 (by kernel_rfl) (by kernel_rfl)
theorem en21 : Enters Tryd.prog 21 := Enters.of Tryd.func21 (by kernel_rfl) (by kernel_rfl)
theorem en22 : Enters Tryd.prog 22 := Enters.of Tryd.func22 (by kernel_rfl) (by kernel_rfl)
theorem en23 : Enters Tryd.prog 23 := Enters.of Tryd.func23 (by kernel_rfl) (by kernel_rfl)
theorem en24 : Enters Tryd.prog 24 := Enters.of Tryd.func24 (by kernel_rfl) (by kernel_rfl)
theorem en25 : Enters Tryd.prog 25 := Enters.of Tryd.func25 (by kernel_rfl) (by kernel_rfl)
theorem en26 : Enters Tryd.prog 26 := Enters.of Tryd.func26 (by kernel_rfl) (by kernel_rfl)
theorem en27 : Enters Tryd.prog 27 := Enters.of Tryd.func27 (by kernel_rfl) (by kernel_rfl)
theorem en28 : Enters Tryd.prog 28 := Enters.of Tryd.func28 (by kernel_rfl) (by kernel_rfl)
theorem en29 : Enters Tryd.prog 29 := Enters.of Tryd.func29 (by kernel_rfl) (by kernel_rfl)
theorem en30 : Enters Tryd.prog 30 := Enters.of Tryd.func30 (by kernel_rfl) (by kernel_rfl)
theorem en31 : Enters Tryd.prog 31 := Enters.of Tryd.func31 (by kernel_rfl) (by kernel_rfl)
theorem en32 : Enters Tryd.prog 32 := Enters.of Tryd.func32 (by kernel_rfl) (by kernel_rfl)
theorem en33 : Enters Tryd.prog 33 := Enters.of Tryd.func33 (by kernel_rfl) (by kernel_rfl)
theorem en34 : Enters Tryd.prog 34 := Enters.of Tryd.func34 (by kernel_rfl) (by kernel_rfl)
theorem en35 : Enters Tryd.prog 35 := Enters.of Tryd.func35 (by kernel_rfl) (by kernel_rfl)
theorem en36 : Enters Tryd.prog 36 := Enters.of Tryd.func36 (by kernel_rfl) (by kernel_rfl)
theorem en37 : Enters Tryd.prog 37 := Enters.of Tryd.func37 (by kernel_rfl) (by kernel_rfl)
theorem en38 : Enters Tryd.prog 38 := Enters.of Tryd.func38 (by kernel_rfl) (by kernel_rfl)
theorem en39 : Enters Tryd.prog 39 := Enters.of Tryd.func39 (by kernel_rfl) (by kernel_rfl)
theorem en40 : Enters Tryd.prog 40 := Enters.of Tryd.func40 (by kernel_rfl) (by kernel_rfl)
theorem en41 : Enters Tryd.prog 41 := Enters.of Tryd.func41 (by kernel_rfl) (by kernel_rfl)
theorem en42 : Enters Tryd.prog 42 := Enters.of Tryd.func42 (by kernel_rfl) (by kernel_rfl)
theorem en43 : Enters Tryd.prog 43 := Enters.of Tryd.func43 (by kernel_rfl) (by kernel_rfl)
theorem en44 : Enters Tryd.prog 44 := Enters.of Tryd.func44 (by kernel_rfl) (by kernel_rfl)
theorem en45 : Enters Tryd.prog 45 := Enters.of Tryd.func45 (by kernel_rfl) (by kernel_rfl)
theorem en46 : Enters Tryd.prog 46 := Enters.of Tryd.func46 (by kernel_rfl) (by kernel_rfl)
theorem en47 : Enters Tryd.prog 47 := Enters.of Tryd.func47 (by kernel_rfl) (by kernel_rfl)
theorem en48 : Enters Tryd.prog 48 := Enters.of Tryd.func48 (by kernel_rfl) (by kernel_rfl)
theorem en49 : Enters Tryd.prog 49 := Enters.of Tryd.func49 (by kernel_rfl) (by kernel_rfl)
theorem en50 : Enters Tryd.prog 50 := Enters.of Tryd.func50 (by kernel_rfl) (by kernel_rfl)
theorem en51 : Enters Tryd.prog 51 := Enters.of Tryd.func51 (by kernel_rfl) (by kernel_rfl)
theorem en52 : Enters Tryd.prog 52 := Enters.of Tryd.func52 (by kernel_rfl) (by kernel_rfl)
theorem en53 : Enters Tryd.prog 53 := Enters.of Tryd.func53 (by kernel_rfl) (by kernel_rfl)
theorem en54 : Enters Tryd.prog 54 := Enters.of Tryd.func54 (by kernel_rfl) (by kernel_rfl)
theorem en55 : Enters Tryd.prog 55 := Enters.of Tryd.func55 (by kernel_rfl) (by kernel_rfl)
theorem en56 : Enters Tryd.prog 56 := Enters.of Tryd.func56 (by kernel_rfl) (by kernel_rfl)
theorem en57 : Enters Tryd.prog 57 := Enters.of Tryd.func57 (by kernel_rfl) (by kernel_rfl)
theorem en58 : Enters Tryd.prog 58 := Enters.of Tryd.func58 (by kernel_rfl) (by kernel_rfl)
theorem en59 : Enters Tryd.prog 59 := Enters.of Tryd.func59 (by kernel_rfl) (by kernel_rfl)
theorem en60 : Enters Tryd.prog 60 := Enters.of Tryd.func60 (by kernel_rfl) (by kernel_rfl)
theorem en61 : Enters Tryd.prog 61 := Enters.of Tryd.func61 (by kernel_rfl) (by kernel_rfl)
theorem en62 : Enters Tryd.prog 62 := Enters.of Tryd.func62 (by kernel_rfl) (by kernel_rfl)
theorem en63 : Enters Tryd.prog 63 := Enters.of Tryd.func63 (by kernel_rfl) (by kernel_rfl)
theorem en64 : Enters Tryd.prog 64 := Enters.of Tryd.func64 (by kernel_rfl) (by kernel_rfl)
theorem en65 : Enters Tryd.prog 65 := Enters.of Tryd.func65 (by kernel_rfl) (by kernel_rfl)
theorem en66 : Enters Tryd.prog 66 := Enters.of Tryd.func66 (by kernel_rfl) (by kernel_rfl)
theorem en67 : Enters Tryd.prog 67 := Enters.of Tryd.func67 (by kernel_rfl) (by kernel_rfl)
theorem en68 : Enters Tryd.prog 68 := Enters.of Tryd.func68 (by kernel_rfl) (by kernel_rfl)
theorem en69 : Enters Tryd.prog 69 := Enters.of Tryd.func69 (by kernel_rfl) (by kernel_rfl)
theorem en70 : Enters Tryd.prog 70 := Enters.of Tryd.func70 (by kernel_rfl) (by kernel_rfl)
theorem en71 : Enters Tryd.prog 71 := Enters.of Tryd.func71 (by kernel_rfl) (by kernel_rfl)
theorem en72 : Enters Tryd.prog 72 := Enters.of Tryd.func72 (by kernel_rfl) (by kernel_rfl)
theorem en73 : Enters Tryd.prog 73 := Enters.of Tryd.func73 (by kernel_rfl) (by kernel_rfl)
theorem en74 : Enters Tryd.prog 74 := Enters.of Tryd.func74 (by kernel_rfl) (by kernel_rfl)
theorem en75 : Enters Tryd.prog 75 := Enters.of Tryd.func75 (by kernel_rfl) (by kernel_rfl)
theorem en76 : Enters Tryd.prog 76 := Enters.of Tryd.func76 (by kernel_rfl) (by kernel_rfl)
theorem en77 : Enters Tryd.prog 77 := Enters.of Tryd.func77 (by kernel_rfl) (by kernel_rfl)
theorem en97 : Enters Tryd.prog 97 := Enters.of Tryd.func97 (by kernel_rfl) (by kernel_rfl)
def tab0 : List Int := [0, 1, 28, 2, 29, 14, 24, 3, 30, 22, 20, 15, 25, 17, 4, 8, 31, 27, 13, 23, 21, 19, 16, 7, 26, 12, 18, 6, 11, 5, 10, 9]
theorem mixed : Tryd.prog.follows .mixedOrders = true := by kernel_rfl
end Go.Proofs.YtngpllgpfndkkaaDoor
