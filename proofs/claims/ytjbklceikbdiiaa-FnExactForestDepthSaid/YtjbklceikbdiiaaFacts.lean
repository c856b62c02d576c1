/- What the tables of the program say of its types and functions, looked up once. -/
import Derived.Test.YtjbklceikbdiiaaAvS
import Derived.Test.YtjbklceikbdiiaaProg
import Derived.KernelRfl
namespace Go.Proofs.Ytjbklceikbdiiaa
open Go Go.Av
theorem tsz0 : tsz Try.prog 0 = some 1 := by kernel_rfl
theorem tby0 : tby Try.prog 0 = some 0 := by kernel_rfl
theorem tz0 : tzero Try.prog 0 = some (Value.tuple #[]) := by kernel_rfl
theorem tsz1 : tsz Try.prog 1 = some 1 := by kernel_rfl
theorem tby1 : tby Try.prog 1 = some 8 := by kernel_rfl
theorem tz1 : tzero Try.prog 1 = some Value.nilFunc := by kernel_rfl
theorem tsz2 : tsz Try.prog 2 = some 1 := by kernel_rfl
theorem tby2 : tby Try.prog 2 = some 8 := by kernel_rfl
theorem tz2 : tzero Try.prog 2 = some (Value.int IntKind.i64 0) := by kernel_rfl
theorem tsz3 : tsz Try.prog 3 = some 1 := by kernel_rfl
theorem tby3 : tby Try.prog 3 = some 8 := by kernel_rfl
theorem tz3 : tzero Try.prog 3 = some (Value.int IntKind.i64 0) := by kernel_rfl
theorem tsz4 : tsz Try.prog 4 = some 1 := by kernel_rfl
theorem tby4 : tby Try.prog 4 = some 1 := by kernel_rfl
theorem tz4 : tzero Try.prog 4 = some (Value.bool false) := by kernel_rfl
theorem tsz5 : tsz Try.prog 5 = some 1 := by kernel_rfl
theorem tby5 : tby Try.prog 5 = some 1 := by kernel_rfl
theorem tz5 : tzero Try.prog 5 = some (Value.int IntKind.u8 0) := by kernel_rfl
theorem tsz6 : tsz Try.prog 6 = some 1 := by kernel_rfl
theorem tby6 : tby Try.prog 6 = some 1 := by kernel_rfl
theorem tz6 : tzero Try.prog 6 = some (Value.int IntKind.u8 0) := by kernel_rfl
theorem tsz7 : tsz Try.prog 7 = some 4 := by kernel_rfl
theorem tby7 : tby Try.prog 7 = some 24 := by kernel_rfl
theorem tz7 : tzero Try.prog 7 = some (Value.agg #[(Value.int IntKind.i64 0), (Value.int IntKind.i64 0), (Value.bool false), (Value.int IntKind.u8 0)]) := by kernel_rfl
theorem fo7_0 : fieldOff Try.prog 7 0 = some 0 := by kernel_rfl
theorem fo7_1 : fieldOff Try.prog 7 1 = some 1 := by kernel_rfl
theorem fo7_2 : fieldOff Try.prog 7 2 = some 2 := by kernel_rfl
theorem fo7_3 : fieldOff Try.prog 7 3 = some 3 := by kernel_rfl
theorem tsz8 : tsz Try.prog 8 = some 4 := by kernel_rfl
theorem tby8 : tby Try.prog 8 = some 24 := by kernel_rfl
theorem tz8 : tzero Try.prog 8 = some (Value.agg #[(Value.int IntKind.i64 0), (Value.int IntKind.i64 0), (Value.bool false), (Value.int IntKind.u8 0)]) := by kernel_rfl
theorem fo8_0 : fieldOff Try.prog 8 0 = some 0 := by kernel_rfl
theorem fo8_1 : fieldOff Try.prog 8 1 = some 1 := by kernel_rfl
theorem fo8_2 : fieldOff Try.prog 8 2 = some 2 := by kernel_rfl
theorem fo8_3 : fieldOff Try.prog 8 3 = some 3 := by kernel_rfl
theorem tsz9 : tsz Try.prog 9 = some 1 := by kernel_rfl
theorem tby9 : tby Try.prog 9 = some 16 := by kernel_rfl
theorem tsz10 : tsz Try.prog 10 = some 1 := by kernel_rfl
theorem tby10 : tby Try.prog 10 = some 16 := by kernel_rfl
theorem tsz11 : tsz Try.prog 11 = some 1 := by kernel_rfl
theorem tby11 : tby Try.prog 11 = some 16 := by kernel_rfl
theorem tsz12 : tsz Try.prog 12 = some 1 := by kernel_rfl
theorem tby12 : tby Try.prog 12 = some 8 := by kernel_rfl
theorem tz12 : tzero Try.prog 12 = some (Value.int IntKind.u64 0) := by kernel_rfl
theorem tsz13 : tsz Try.prog 13 = some 2 := by kernel_rfl
theorem tby13 : tby Try.prog 13 = some 24 := by kernel_rfl
theorem fo13_0 : fieldOff Try.prog 13 0 = some 0 := by kernel_rfl
theorem fo13_1 : fieldOff Try.prog 13 1 = some 1 := by kernel_rfl
theorem tsz14 : tsz Try.prog 14 = some 2 := by kernel_rfl
theorem tby14 : tby Try.prog 14 = some 24 := by kernel_rfl
theorem fo14_0 : fieldOff Try.prog 14 0 = some 0 := by kernel_rfl
theorem fo14_1 : fieldOff Try.prog 14 1 = some 1 := by kernel_rfl
theorem tsz15 : tsz Try.prog 15 = some 1 := by kernel_rfl
theorem tby15 : tby Try.prog 15 = some 8 := by kernel_rfl
theorem tz15 : tzero Try.prog 15 = some (Value.pointer none) := by kernel_rfl
theorem tsz16 : tsz Try.prog 16 = some 1 := by kernel_rfl
theorem tby16 : tby Try.prog 16 = some 8 := by kernel_rfl
theorem tz16 : tzero Try.prog 16 = some (Value.pointer none) := by kernel_rfl
theorem tsz17 : tsz Try.prog 17 = some 1 := by kernel_rfl
theorem tby17 : tby Try.prog 17 = some 8 := by kernel_rfl
theorem tz17 : tzero Try.prog 17 = some (Value.pointer none) := by kernel_rfl
theorem tsz18 : tsz Try.prog 18 = some 1 := by kernel_rfl
theorem tby18 : tby Try.prog 18 = some 8 := by kernel_rfl
theorem tz18 : tzero Try.prog 18 = some (Value.agg #[(Value.pointer none)]) := by kernel_rfl
theorem fo18_0 : fieldOff Try.prog 18 0 = some 0 := by kernel_rfl
theorem tsz19 : tsz Try.prog 19 = some 1 := by kernel_rfl
theorem tby19 : tby Try.prog 19 = some 8 := by kernel_rfl
theorem tz19 : tzero Try.prog 19 = some (Value.agg #[(Value.pointer none)]) := by kernel_rfl
theorem fo19_0 : fieldOff Try.prog 19 0 = some 0 := by kernel_rfl
theorem tsz20 : tsz Try.prog 20 = some 1 := by kernel_rfl
theorem tby20 : tby Try.prog 20 = some 16 := by kernel_rfl
theorem tz20 : tzero Try.prog 20 = some Value.nilIface := by kernel_rfl
theorem tsz21 : tsz Try.prog 21 = some 1 := by kernel_rfl
theorem tby21 : tby Try.prog 21 = some 4 := by kernel_rfl
theorem tz21 : tzero Try.prog 21 = some (Value.int IntKind.i32 0) := by kernel_rfl
theorem tsz22 : tsz Try.prog 22 = some 1 := by kernel_rfl
theorem tby22 : tby Try.prog 22 = some 24 := by kernel_rfl
theorem tz22 : tzero Try.prog 22 = some (Value.slice none 0 0) := by kernel_rfl
theorem tsz23 : tsz Try.prog 23 = some 1 := by kernel_rfl
theorem tby23 : tby Try.prog 23 = some 8 := by kernel_rfl
theorem tz23 : tzero Try.prog 23 = some Value.nilFunc := by kernel_rfl
theorem tsz24 : tsz Try.prog 24 = some 1 := by kernel_rfl
theorem tby24 : tby Try.prog 24 = some 8 := by kernel_rfl
theorem tz24 : tzero Try.prog 24 = some Value.nilFunc := by kernel_rfl
theorem tsz25 : tsz Try.prog 25 = some 1 := by kernel_rfl
theorem tby25 : tby Try.prog 25 = some 8 := by kernel_rfl
theorem tz25 : tzero Try.prog 25 = some Value.nilFunc := by kernel_rfl
theorem tsz26 : tsz Try.prog 26 = some 1 := by kernel_rfl
theorem tby26 : tby Try.prog 26 = some 8 := by kernel_rfl
theorem tz26 : tzero Try.prog 26 = some Value.nilFunc := by kernel_rfl
theorem tsz27 : tsz Try.prog 27 = some 1 := by kernel_rfl
theorem tby27 : tby Try.prog 27 = some 24 := by kernel_rfl
theorem tz27 : tzero Try.prog 27 = some (Value.slice none 0 0) := by kernel_rfl
theorem tsz28 : tsz Try.prog 28 = some 1 := by kernel_rfl
theorem tby28 : tby Try.prog 28 = some 8 := by kernel_rfl
theorem tz28 : tzero Try.prog 28 = some Value.nilFunc := by kernel_rfl
theorem tsz29 : tsz Try.prog 29 = some 1 := by kernel_rfl
theorem tby29 : tby Try.prog 29 = some 8 := by kernel_rfl
theorem tz29 : tzero Try.prog 29 = some Value.nilFunc := by kernel_rfl
theorem tsz30 : tsz Try.prog 30 = some 1 := by kernel_rfl
theorem tby30 : tby Try.prog 30 = some 8 := by kernel_rfl
theorem tz30 : tzero Try.prog 30 = some Value.nilFunc := by kernel_rfl
theorem tsz31 : tsz Try.prog 31 = some 1 := by kernel_rfl
theorem tby31 : tby Try.prog 31 = some 8 := by kernel_rfl
theorem tz31 : tzero Try.prog 31 = some Value.nilFunc := by kernel_rfl
theorem tsz32 : tsz Try.prog 32 = some 1 := by kernel_rfl
theorem tby32 : tby Try.prog 32 = some 24 := by kernel_rfl
theorem tz32 : tzero Try.prog 32 = some (Value.slice none 0 0) := by kernel_rfl
theorem tsz33 : tsz Try.prog 33 = some 1 := by kernel_rfl
theorem tby33 : tby Try.prog 33 = some 8 := by kernel_rfl
theorem tz33 : tzero Try.prog 33 = some Value.nilFunc := by kernel_rfl
theorem tsz34 : tsz Try.prog 34 = some 1 := by kernel_rfl
theorem tby34 : tby Try.prog 34 = some 8 := by kernel_rfl
theorem tz34 : tzero Try.prog 34 = some Value.nilFunc := by kernel_rfl
theorem tsz35 : tsz Try.prog 35 = some 1 := by kernel_rfl
theorem tby35 : tby Try.prog 35 = some 8 := by kernel_rfl
theorem tz35 : tzero Try.prog 35 = some Value.nilFunc := by kernel_rfl
theorem tsz36 : tsz Try.prog 36 = some 1 := by kernel_rfl
theorem tby36 : tby Try.prog 36 = some 8 := by kernel_rfl
theorem tz36 : tzero Try.prog 36 = some Value.nilFunc := by kernel_rfl
theorem tsz37 : tsz Try.prog 37 = some 1 := by kernel_rfl
theorem tby37 : tby Try.prog 37 = some 0 := by kernel_rfl
theorem tz37 : tzero Try.prog 37 = some (Value.tuple #[(Value.int IntKind.i64 0), (Value.int IntKind.i64 0), (Value.bool false)]) := by kernel_rfl
theorem tsz38 : tsz Try.prog 38 = some 1 := by kernel_rfl
theorem tby38 : tby Try.prog 38 = some 8 := by kernel_rfl
theorem tz38 : tzero Try.prog 38 = some Value.nilFunc := by kernel_rfl
theorem tsz39 : tsz Try.prog 39 = some 1 := by kernel_rfl
theorem tby39 : tby Try.prog 39 = some 8 := by kernel_rfl
theorem tz39 : tzero Try.prog 39 = some (Value.pointer none) := by kernel_rfl
theorem tsz40 : tsz Try.prog 40 = some 1 := by kernel_rfl
theorem tby40 : tby Try.prog 40 = some 8 := by kernel_rfl
theorem tz40 : tzero Try.prog 40 = some Value.nilFunc := by kernel_rfl
theorem tsz41 : tsz Try.prog 41 = some 1 := by kernel_rfl
theorem tby41 : tby Try.prog 41 = some 8 := by kernel_rfl
theorem tz41 : tzero Try.prog 41 = some Value.nilFunc := by kernel_rfl
theorem tsz42 : tsz Try.prog 42 = some 1 := by kernel_rfl
theorem tby42 : tby Try.prog 42 = some 8 := by kernel_rfl
theorem tz42 : tzero Try.prog 42 = some Value.nilFunc := by kernel_rfl
theorem tsz43 : tsz Try.prog 43 = some 1 := by kernel_rfl
theorem tby43 : tby Try.prog 43 = some 8 := by kernel_rfl
theorem tz43 : tzero Try.prog 43 = some Value.nilFunc := by kernel_rfl
theorem tsz44 : tsz Try.prog 44 = some 2 := by kernel_rfl
theorem tby44 : tby Try.prog 44 = some 32 := by kernel_rfl
theorem tz44 : tzero Try.prog 44 = some (Value.agg #[(Value.slice none 0 0), (Value.int IntKind.i64 0)]) := by kernel_rfl
theorem fo44_0 : fieldOff Try.prog 44 0 = some 0 := by kernel_rfl
theorem fo44_1 : fieldOff Try.prog 44 1 = some 1 := by kernel_rfl
theorem tsz45 : tsz Try.prog 45 = some 2 := by kernel_rfl
theorem tby45 : tby Try.prog 45 = some 32 := by kernel_rfl
theorem tz45 : tzero Try.prog 45 = some (Value.agg #[(Value.slice none 0 0), (Value.int IntKind.i64 0)]) := by kernel_rfl
theorem fo45_0 : fieldOff Try.prog 45 0 = some 0 := by kernel_rfl
theorem fo45_1 : fieldOff Try.prog 45 1 = some 1 := by kernel_rfl
theorem tsz46 : tsz Try.prog 46 = some 1 := by kernel_rfl
theorem tby46 : tby Try.prog 46 = some 8 := by kernel_rfl
theorem tz46 : tzero Try.prog 46 = some Value.nilFunc := by kernel_rfl
theorem tsz47 : tsz Try.prog 47 = some 4 := by kernel_rfl
theorem tby47 : tby Try.prog 47 = some 40 := by kernel_rfl
theorem fo47_0 : fieldOff Try.prog 47 0 = some 0 := by kernel_rfl
theorem fo47_1 : fieldOff Try.prog 47 1 = some 1 := by kernel_rfl
theorem fo47_2 : fieldOff Try.prog 47 2 = some 2 := by kernel_rfl
theorem fo47_3 : fieldOff Try.prog 47 3 = some 3 := by kernel_rfl
theorem tsz48 : tsz Try.prog 48 = some 4 := by kernel_rfl
theorem tby48 : tby Try.prog 48 = some 40 := by kernel_rfl
theorem fo48_0 : fieldOff Try.prog 48 0 = some 0 := by kernel_rfl
theorem fo48_1 : fieldOff Try.prog 48 1 = some 1 := by kernel_rfl
theorem fo48_2 : fieldOff Try.prog 48 2 = some 2 := by kernel_rfl
theorem fo48_3 : fieldOff Try.prog 48 3 = some 3 := by kernel_rfl
theorem tsz49 : tsz Try.prog 49 = some 0 := by kernel_rfl
theorem tby49 : tby Try.prog 49 = some 0 := by kernel_rfl
theorem tz49 : tzero Try.prog 49 = some (Value.agg #[]) := by kernel_rfl
theorem tsz50 : tsz Try.prog 50 = some 0 := by kernel_rfl
theorem tby50 : tby Try.prog 50 = some 0 := by kernel_rfl
theorem tz50 : tzero Try.prog 50 = some (Value.agg #[]) := by kernel_rfl
theorem tsz51 : tsz Try.prog 51 = some 0 := by kernel_rfl
theorem tby51 : tby Try.prog 51 = some 0 := by kernel_rfl
theorem tz51 : tzero Try.prog 51 = some (Value.agg #[]) := by kernel_rfl
theorem tsz52 : tsz Try.prog 52 = some 1 := by kernel_rfl
theorem tby52 : tby Try.prog 52 = some 8 := by kernel_rfl
theorem tz52 : tzero Try.prog 52 = some Value.nilFunc := by kernel_rfl
theorem tsz53 : tsz Try.prog 53 = some 1 := by kernel_rfl
theorem tby53 : tby Try.prog 53 = some 4 := by kernel_rfl
theorem tz53 : tzero Try.prog 53 = some (Value.int IntKind.u32 0) := by kernel_rfl
theorem tsz54 : tsz Try.prog 54 = some 1 := by kernel_rfl
theorem tby54 : tby Try.prog 54 = some 1 := by kernel_rfl
theorem tz54 : tzero Try.prog 54 = some (Value.int IntKind.u8 0) := by kernel_rfl
theorem tsz55 : tsz Try.prog 55 = some 1 := by kernel_rfl
theorem tby55 : tby Try.prog 55 = some 1 := by kernel_rfl
theorem tz55 : tzero Try.prog 55 = some (Value.int IntKind.u8 0) := by kernel_rfl
theorem tsz56 : tsz Try.prog 56 = some 1 := by kernel_rfl
theorem tby56 : tby Try.prog 56 = some 8 := by kernel_rfl
theorem tz56 : tzero Try.prog 56 = some Value.nilFunc := by kernel_rfl
theorem tsz57 : tsz Try.prog 57 = some 1 := by kernel_rfl
theorem tby57 : tby Try.prog 57 = some 8 := by kernel_rfl
theorem tz57 : tzero Try.prog 57 = some (Value.pointer none) := by kernel_rfl
theorem tsz58 : tsz Try.prog 58 = some 1 := by kernel_rfl
theorem tby58 : tby Try.prog 58 = some 4 := by kernel_rfl
theorem tz58 : tzero Try.prog 58 = some (Value.int IntKind.i32 0) := by kernel_rfl
theorem tsz59 : tsz Try.prog 59 = some 1 := by kernel_rfl
theorem tby59 : tby Try.prog 59 = some 4 := by kernel_rfl
theorem tz59 : tzero Try.prog 59 = some (Value.int IntKind.i32 0) := by kernel_rfl
theorem tsz60 : tsz Try.prog 60 = some 11 := by kernel_rfl
theorem tby60 : tby Try.prog 60 = some 48 := by kernel_rfl
theorem tz60 : tzero Try.prog 60 = some (Value.agg #[(Value.int IntKind.u64 0), (Value.int IntKind.u64 0), (Value.int IntKind.u32 0), (Value.int IntKind.u8 0), (Value.int IntKind.u8 0), (Value.int IntKind.u8 0), (Value.int IntKind.u8 0), Value.nilFunc, (Value.pointer none), (Value.int IntKind.i32 0), (Value.int IntKind.i32 0)]) := by kernel_rfl
theorem fo60_0 : fieldOff Try.prog 60 0 = some 0 := by kernel_rfl
theorem fo60_1 : fieldOff Try.prog 60 1 = some 1 := by kernel_rfl
theorem fo60_2 : fieldOff Try.prog 60 2 = some 2 := by kernel_rfl
theorem fo60_3 : fieldOff Try.prog 60 3 = some 3 := by kernel_rfl
theorem fo60_4 : fieldOff Try.prog 60 4 = some 4 := by kernel_rfl
theorem fo60_5 : fieldOff Try.prog 60 5 = some 5 := by kernel_rfl
theorem fo60_6 : fieldOff Try.prog 60 6 = some 6 := by kernel_rfl
theorem fo60_7 : fieldOff Try.prog 60 7 = some 7 := by kernel_rfl
theorem fo60_8 : fieldOff Try.prog 60 8 = some 8 := by kernel_rfl
theorem fo60_9 : fieldOff Try.prog 60 9 = some 9 := by kernel_rfl
theorem fo60_10 : fieldOff Try.prog 60 10 = some 10 := by kernel_rfl
theorem tsz61 : tsz Try.prog 61 = some 11 := by kernel_rfl
theorem tby61 : tby Try.prog 61 = some 48 := by kernel_rfl
theorem tz61 : tzero Try.prog 61 = some (Value.agg #[(Value.int IntKind.u64 0), (Value.int IntKind.u64 0), (Value.int IntKind.u32 0), (Value.int IntKind.u8 0), (Value.int IntKind.u8 0), (Value.int IntKind.u8 0), (Value.int IntKind.u8 0), Value.nilFunc, (Value.pointer none), (Value.int IntKind.i32 0), (Value.int IntKind.i32 0)]) := by kernel_rfl
theorem fo61_0 : fieldOff Try.prog 61 0 = some 0 := by kernel_rfl
theorem fo61_1 : fieldOff Try.prog 61 1 = some 1 := by kernel_rfl
theorem fo61_2 : fieldOff Try.prog 61 2 = some 2 := by kernel_rfl
theorem fo61_3 : fieldOff Try.prog 61 3 = some 3 := by kernel_rfl
theorem fo61_4 : fieldOff Try.prog 61 4 = some 4 := by kernel_rfl
theorem fo61_5 : fieldOff Try.prog 61 5 = some 5 := by kernel_rfl
theorem fo61_6 : fieldOff Try.prog 61 6 = some 6 := by kernel_rfl
theorem fo61_7 : fieldOff Try.prog 61 7 = some 7 := by kernel_rfl
theorem fo61_8 : fieldOff Try.prog 61 8 = some 8 := by kernel_rfl
theorem fo61_9 : fieldOff Try.prog 61 9 = some 9 := by kernel_rfl
theorem fo61_10 : fieldOff Try.prog 61 10 = some 10 := by kernel_rfl
theorem tsz62 : tsz Try.prog 62 = some 1 := by kernel_rfl
theorem tby62 : tby Try.prog 62 = some 8 := by kernel_rfl
theorem tz62 : tzero Try.prog 62 = some (Value.pointer none) := by kernel_rfl
theorem en3 : Enters Try.prog 3 := Enters.of Try.func3 (by kernel_rfl) (by kernel_rfl)
theorem en4 : Enters Try.prog 4 := Enters.of Try.func4 (by kernel_rfl) (by kernel_rfl)
theorem en5 : Enters Try.prog 5 := Enters.of Try.func5 (by kernel_rfl) (by kernel_rfl)
theorem en6 : Enters Try.prog 6 := Enters.of Try.func6 (by kernel_rfl) (by kernel_rfl)
theorem en7 : Enters Try.prog 7 := Enters.of Try.func7 (by kernel_rfl) (by kernel_rfl)
theorem en8 : Enters Try.prog 8 := Enters.of Try.func8 (by kernel_rfl) (by kernel_rfl)
theorem en9 : Enters Try.prog 9 := Enters.of Try.func9 (by kernel_rfl) (by kernel_rfl)
theorem en10 : Enters Try.prog 10 := Enters.of Try.func10 (by kernel_rfl) (by kernel_rfl)
theorem en11 : Enters Try.prog 11 := Enters.of Try.func11 (by kernel_rfl) (by kernel_rfl)
theorem en12 : Enters Try.prog 12 := Enters.of Try.func12 (by kernel_rfl) (by kernel_rfl)
theorem en13 : Enters Try.prog 13 := Enters.of Try.func13 (by kernel_rfl) (by kernel_rfl)
theorem en14 : Enters Try.prog 14 := Enters.of Try.func14 (by kernel_rfl) (by kernel_rfl)
theorem en15 : Enters Try.prog 15 := Enters.of Try.func15 (by kernel_rfl) (by kernel_rfl)
theorem en16 : Enters Try.prog 16 := Enters.of Try.func16 (by kernel_rfl) (by kernel_rfl)
theorem en17 : Enters Try.prog 17 := Enters.of Try.func17 (by kernel_rfl) (by kernel_rfl)
theorem en18 : Enters Try.prog 18 := Enters.of Try.func18 (by kernel_rfl) (by kernel_rfl)
theorem en19 : Enters Try.prog 19 := Enters.of Try.func19 (by kernel_rfl) (by kernel_rfl)
theorem en20 : Enters Try.prog 20 := Enters.of Try.func20 (by kernel_rfl) (by kernel_rfl)
theorem en21 : Enters Try.prog 21 := Enters.of Try.func21 (by kernel_rfl) (by kernel_rfl)
theorem en22 : Enters Try.prog 22 := Enters.of Try.func22 (by kernel_rfl) (by kernel_rfl)
theorem en23 : Enters Try.prog 23 := Enters.of Try.func23 (by kernel_rfl) (by kernel_rfl)
theorem en24 : Enters Try.prog 24 := Enters.of Try.func24 (by kernel_rfl) (by kernel_rfl)
theorem en25 : Enters Try.prog 25 := Enters.of Try.func25 (by kernel_rfl) (by kernel_rfl)
theorem en26 : Enters Try.prog 26 := Enters.of Try.func26 (by kernel_rfl) (by kernel_rfl)
theorem en27 : Enters Try.prog 27 := Enters.of Try.func27 (by kernel_rfl) (by kernel_rfl)
theorem mixed : Try.prog.follows .mixedOrders = true := by kernel_rfl
end Go.Proofs.Ytjbklceikbdiiaa
