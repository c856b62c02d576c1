/- What the tables of the program say of its types and functions, looked up once. -/
import Derived.Test.YtaogppnbeijjmaaAvU
import Derived.Test.YtaogppnbeijjmaaProg
import Derived.KernelRfl
namespace Go.Proofs.Ytaogppnbeijjmaa
open Go Go.Av
theorem tsz0 : tsz Try.prog 0 = some 1 := by kernel_rfl
theorem tby0 : tby Try.prog 0 = some 0 := by kernel_rfl
theorem tz0 : tzero Try.prog 0 = some (Value.tuple #[]) := by kernel_rfl
theorem tsz1 : tsz Try.prog 1 = some 1 := by kernel_rfl
theorem tby1 : tby Try.prog 1 = some 8 := by kernel_rfl
theorem tz1 : tzero Try.prog 1 = some Value.nilFunc := by kernel_rfl
theorem tsz2 : tsz Try.prog 2 = some 1 := by kernel_rfl
theorem tby2 : tby Try.prog 2 = some 8 := by kernel_rfl
theorem tz2 : tzero Try.prog 2 = some (Value.int IntKind.i64 0) := by kernel_rfl
theorem tsz3 : tsz Try.prog 3 = some 1 := by kernel_rfl
theorem tby3 : tby Try.prog 3 = some 8 := by kernel_rfl
theorem tz3 : tzero Try.prog 3 = some (Value.int IntKind.i64 0) := by kernel_rfl
theorem tsz4 : tsz Try.prog 4 = some 1 := by kernel_rfl
theorem tby4 : tby Try.prog 4 = some 1 := by kernel_rfl
theorem tz4 : tzero Try.prog 4 = some (Value.bool false) := by kernel_rfl
theorem tsz5 : tsz Try.prog 5 = some 1 := by kernel_rfl
theorem tby5 : tby Try.prog 5 = some 1 := by kernel_rfl
theorem tz5 : tzero Try.prog 5 = some (Value.int IntKind.u8 0) := by kernel_rfl
theorem tsz6 : tsz Try.prog 6 = some 1 := by kernel_rfl
theorem tby6 : tby Try.prog 6 = some 1 := by kernel_rfl
theorem tz6 : tzero Try.prog 6 = some (Value.int IntKind.u8 0) := by kernel_rfl
theorem tsz7 : tsz Try.prog 7 = some 4 := by kernel_rfl
theorem tby7 : tby Try.prog 7 = some 24 := by kernel_rfl
theorem tz7 : tzero Try.prog 7 = some (Value.agg #[(Value.int IntKind.i64 0), (Value.int IntKind.i64 0), (Value.bool false), (Value.int IntKind.u8 0)]) := by kernel_rfl
theorem fo7_0 : fieldOff Try.prog 7 0 = some 0 := by kernel_rfl
theorem fo7_1 : fieldOff Try.prog 7 1 = some 1 := by kernel_rfl
theorem fo7_2 : fieldOff Try.prog 7 2 = some 2 := by kernel_rfl
theorem fo7_3 : fieldOff Try.prog 7 3 = some 3 := by kernel_rfl
theorem tsz8 : tsz Try.prog 8 = some 4 := by kernel_rfl
theorem tby8 : tby Try.prog 8 = some 24 := by kernel_rfl
theorem tz8 : tzero Try.prog 8 = some (Value.agg #[(Value.int IntKind.i64 0), (Value.int IntKind.i64 0), (Value.bool false), (Value.int IntKind.u8 0)]) := by kernel_rfl
theorem fo8_0 : fieldOff Try.prog 8 0 = some 0 := by kernel_rfl
theorem fo8_1 : fieldOff Try.prog 8 1 = some 1 := by kernel_rfl
theorem fo8_2 : fieldOff Try.prog 8 2 = some 2 := by kernel_rfl
theorem fo8_3 : fieldOff Try.prog 8 3 = some 3 := by kernel_rfl
theorem tsz9 : tsz Try.prog 9 = some 1 := by kernel_rfl
theorem tby9 : tby Try.prog 9 = some 16 := by kernel_rfl
theorem tsz10 : tsz Try.prog 10 = some 1 := by kernel_rfl
theorem tby10 : tby Try.prog 10 = some 16 := by kernel_rfl
theorem tsz12 : tsz Try.prog 12 = some 1 := by kernel_rfl
theorem tby12 : tby Try.prog 12 = some 8 := by kernel_rfl
theorem tz12 : tzero Try.prog 12 = some (Value.int IntKind.u64 0) := by kernel_rfl
theorem tsz16 : tsz Try.prog 16 = some 1 := by kernel_rfl
theorem tby16 : tby Try.prog 16 = some 8 := by kernel_rfl
theorem tz16 : tzero Try.prog 16 = some (Value.pointer none) := by kernel_rfl
theorem tsz17 : tsz Try.prog 17 = some 1 := by kernel_rfl
theorem tby17 : tby Try.prog 17 = some 8 := by kernel_rfl
theorem tz17 : tzero Try.prog 17 = some (Value.pointer none) := by kernel_rfl
theorem tsz20 : tsz Try.prog 20 = some 1 := by kernel_rfl
theorem tby20 : tby Try.prog 20 = some 16 := by kernel_rfl
theorem tz20 : tzero Try.prog 20 = some Value.nilIface := by kernel_rfl
theorem tsz21 : tsz Try.prog 21 = some 1 := by kernel_rfl
theorem tby21 : tby Try.prog 21 = some 4 := by kernel_rfl
theorem tz21 : tzero Try.prog 21 = some (Value.int IntKind.i32 0) := by kernel_rfl
theorem tsz22 : tsz Try.prog 22 = some 1 := by kernel_rfl
theorem tby22 : tby Try.prog 22 = some 24 := by kernel_rfl
theorem tz22 : tzero Try.prog 22 = some (Value.slice none 0 0) := by kernel_rfl
theorem tsz23 : tsz Try.prog 23 = some 1 := by kernel_rfl
theorem tby23 : tby Try.prog 23 = some 24 := by kernel_rfl
theorem tz23 : tzero Try.prog 23 = some (Value.slice none 0 0) := by kernel_rfl
theorem tsz24 : tsz Try.prog 24 = some 2 := by kernel_rfl
theorem tby24 : tby Try.prog 24 = some 32 := by kernel_rfl
theorem tz24 : tzero Try.prog 24 = some (Value.agg #[(Value.int IntKind.i64 0), (Value.slice none 0 0)]) := by kernel_rfl
theorem fo24_0 : fieldOff Try.prog 24 0 = some 0 := by kernel_rfl
theorem fo24_1 : fieldOff Try.prog 24 1 = some 1 := by kernel_rfl
theorem tsz25 : tsz Try.prog 25 = some 2 := by kernel_rfl
theorem tby25 : tby Try.prog 25 = some 32 := by kernel_rfl
theorem tz25 : tzero Try.prog 25 = some (Value.agg #[(Value.int IntKind.i64 0), (Value.slice none 0 0)]) := by kernel_rfl
theorem fo25_0 : fieldOff Try.prog 25 0 = some 0 := by kernel_rfl
theorem fo25_1 : fieldOff Try.prog 25 1 = some 1 := by kernel_rfl
theorem tsz32 : tsz Try.prog 32 = some 1 := by kernel_rfl
theorem tby32 : tby Try.prog 32 = some 24 := by kernel_rfl
theorem tz32 : tzero Try.prog 32 = some (Value.slice none 0 0) := by kernel_rfl
theorem tsz34 : tsz Try.prog 34 = some 3 := by kernel_rfl
theorem tby34 : tby Try.prog 34 = some 24 := by kernel_rfl
theorem tz34 : tzero Try.prog 34 = some (Value.agg #[(Value.int IntKind.i64 0), (Value.int IntKind.i64 0), (Value.int IntKind.i64 0)]) := by kernel_rfl
theorem peq34 : plainEq Try.prog 34 = true := by kernel_rfl
theorem fo34_0 : fieldOff Try.prog 34 0 = some 0 := by kernel_rfl
theorem fo34_1 : fieldOff Try.prog 34 1 = some 1 := by kernel_rfl
theorem fo34_2 : fieldOff Try.prog 34 2 = some 2 := by kernel_rfl
theorem tsz35 : tsz Try.prog 35 = some 3 := by kernel_rfl
theorem tby35 : tby Try.prog 35 = some 24 := by kernel_rfl
theorem tz35 : tzero Try.prog 35 = some (Value.agg #[(Value.int IntKind.i64 0), (Value.int IntKind.i64 0), (Value.int IntKind.i64 0)]) := by kernel_rfl
theorem peq35 : plainEq Try.prog 35 = true := by kernel_rfl
theorem fo35_0 : fieldOff Try.prog 35 0 = some 0 := by kernel_rfl
theorem fo35_1 : fieldOff Try.prog 35 1 = some 1 := by kernel_rfl
theorem fo35_2 : fieldOff Try.prog 35 2 = some 2 := by kernel_rfl
theorem tsz36 : tsz Try.prog 36 = some 1 := by kernel_rfl
theorem tby36 : tby Try.prog 36 = some 0 := by kernel_rfl
theorem tz36 : tzero Try.prog 36 = some (Value.tuple #[(Value.agg #[(Value.int IntKind.i64 0), (Value.slice none 0 0)]), (Value.bool false)]) := by kernel_rfl
theorem tsz40 : tsz Try.prog 40 = some 1 := by kernel_rfl
theorem tby40 : tby Try.prog 40 = some 24 := by kernel_rfl
theorem tz40 : tzero Try.prog 40 = some (Value.slice none 0 0) := by kernel_rfl
theorem tsz44 : tsz Try.prog 44 = some 1 := by kernel_rfl
theorem tby44 : tby Try.prog 44 = some 8 := by kernel_rfl
theorem tz44 : tzero Try.prog 44 = some Value.nilFunc := by kernel_rfl
theorem tsz59 : tsz Try.prog 59 = some 1 := by kernel_rfl
theorem tby59 : tby Try.prog 59 = some 24 := by kernel_rfl
theorem tz59 : tzero Try.prog 59 = some (Value.slice none 0 0) := by kernel_rfl
theorem tsz61 : tsz Try.prog 61 = some 1 := by kernel_rfl
theorem tby61 : tby Try.prog 61 = some 8 := by kernel_rfl
theorem tz61 : tzero Try.prog 61 = some Value.nilFunc := by kernel_rfl
theorem tsz64 : tsz Try.prog 64 = some 1 := by kernel_rfl
theorem tby64 : tby Try.prog 64 = some 24 := by kernel_rfl
theorem tz64 : tzero Try.prog 64 = some (Value.slice none 0 0) := by kernel_rfl
theorem tsz65 : tsz Try.prog 65 = some 2 := by kernel_rfl
theorem tby65 : tby Try.prog 65 = some 32 := by kernel_rfl
theorem tz65 : tzero Try.prog 65 = some (Value.agg #[(Value.int IntKind.i64 0), (Value.slice none 0 0)]) := by kernel_rfl
theorem fo65_0 : fieldOff Try.prog 65 0 = some 0 := by kernel_rfl
theorem fo65_1 : fieldOff Try.prog 65 1 = some 1 := by kernel_rfl
theorem tsz66 : tsz Try.prog 66 = some 2 := by kernel_rfl
theorem tby66 : tby Try.prog 66 = some 32 := by kernel_rfl
theorem tz66 : tzero Try.prog 66 = some (Value.agg #[(Value.int IntKind.i64 0), (Value.slice none 0 0)]) := by kernel_rfl
theorem fo66_0 : fieldOff Try.prog 66 0 = some 0 := by kernel_rfl
theorem fo66_1 : fieldOff Try.prog 66 1 = some 1 := by kernel_rfl
theorem tsz74 : tsz Try.prog 74 = some 1 := by kernel_rfl
theorem tby74 : tby Try.prog 74 = some 0 := by kernel_rfl
theorem tz74 : tzero Try.prog 74 = some (Value.tuple #[(Value.int IntKind.i64 0), (Value.bool false)]) := by kernel_rfl
theorem tsz81 : tsz Try.prog 81 = some 1 := by kernel_rfl
theorem tby81 : tby Try.prog 81 = some 8 := by kernel_rfl
theorem tz81 : tzero Try.prog 81 = some (Value.int IntKind.u64 0) := by kernel_rfl
theorem tsz85 : tsz Try.prog 85 = some 3 := by kernel_rfl
theorem tby85 : tby Try.prog 85 = some 24 := by kernel_rfl
theorem tz85 : tzero Try.prog 85 = some (Value.agg #[(Value.int IntKind.i64 0), (Value.int IntKind.i64 0), (Value.int IntKind.i64 0)]) := by kernel_rfl
theorem peq85 : plainEq Try.prog 85 = true := by kernel_rfl
theorem fo85_0 : fieldOff Try.prog 85 0 = some 0 := by kernel_rfl
theorem fo85_1 : fieldOff Try.prog 85 1 = some 1 := by kernel_rfl
theorem fo85_2 : fieldOff Try.prog 85 2 = some 2 := by kernel_rfl
theorem tsz90 : tsz Try.prog 90 = some 0 := by kernel_rfl
theorem tby90 : tby Try.prog 90 = some 0 := by kernel_rfl
theorem tz90 : tzero Try.prog 90 = some (Value.agg #[]) := by kernel_rfl
theorem tsz91 : tsz Try.prog 91 = some 0 := by kernel_rfl
theorem tby91 : tby Try.prog 91 = some 0 := by kernel_rfl
theorem tz91 : tzero Try.prog 91 = some (Value.agg #[]) := by kernel_rfl
theorem tsz92 : tsz Try.prog 92 = some 0 := by kernel_rfl
theorem tby92 : tby Try.prog 92 = some 0 := by kernel_rfl
theorem tz92 : tzero Try.prog 92 = some (Value.agg #[]) := by kernel_rfl
theorem tsz94 : tsz Try.prog 94 = some 1 := by kernel_rfl
theorem tby94 : tby Try.prog 94 = some 4 := by kernel_rfl
theorem tz94 : tzero Try.prog 94 = some (Value.int IntKind.u32 0) := by kernel_rfl
theorem tsz95 : tsz Try.prog 95 = some 1 := by kernel_rfl
theorem tby95 : tby Try.prog 95 = some 1 := by kernel_rfl
theorem tz95 : tzero Try.prog 95 = some (Value.int IntKind.u8 0) := by kernel_rfl
theorem tsz96 : tsz Try.prog 96 = some 1 := by kernel_rfl
theorem tby96 : tby Try.prog 96 = some 1 := by kernel_rfl
theorem tz96 : tzero Try.prog 96 = some (Value.int IntKind.u8 0) := by kernel_rfl
theorem tsz97 : tsz Try.prog 97 = some 1 := by kernel_rfl
theorem tby97 : tby Try.prog 97 = some 8 := by kernel_rfl
theorem tz97 : tzero Try.prog 97 = some Value.nilFunc := by kernel_rfl
theorem tsz98 : tsz Try.prog 98 = some 1 := by kernel_rfl
theorem tby98 : tby Try.prog 98 = some 8 := by kernel_rfl
theorem tz98 : tzero Try.prog 98 = some (Value.pointer none) := by kernel_rfl
theorem tsz99 : tsz Try.prog 99 = some 1 := by kernel_rfl
theorem tby99 : tby Try.prog 99 = some 4 := by kernel_rfl
theorem tz99 : tzero Try.prog 99 = some (Value.int IntKind.i32 0) := by kernel_rfl
theorem tsz100 : tsz Try.prog 100 = some 1 := by kernel_rfl
theorem tby100 : tby Try.prog 100 = some 4 := by kernel_rfl
theorem tz100 : tzero Try.prog 100 = some (Value.int IntKind.i32 0) := by kernel_rfl
theorem tsz101 : tsz Try.prog 101 = some 11 := by kernel_rfl
theorem tby101 : tby Try.prog 101 = some 48 := by kernel_rfl
theorem tz101 : tzero Try.prog 101 = some (Value.agg #[(Value.int IntKind.u64 0), (Value.int IntKind.u64 0), (Value.int IntKind.u32 0), (Value.int IntKind.u8 0), (Value.int IntKind.u8 0), (Value.int IntKind.u8 0), (Value.int IntKind.u8 0), Value.nilFunc, (Value.pointer none), (Value.int IntKind.i32 0), (Value.int IntKind.i32 0)]) := by kernel_rfl
theorem fo101_0 : fieldOff Try.prog 101 0 = some 0 := by kernel_rfl
theorem fo101_1 : fieldOff Try.prog 101 1 = some 1 := by kernel_rfl
theorem fo101_2 : fieldOff Try.prog 101 2 = some 2 := by kernel_rfl
theorem fo101_3 : fieldOff Try.prog 101 3 = some 3 := by kernel_rfl
theorem fo101_4 : fieldOff Try.prog 101 4 = some 4 := by kernel_rfl
theorem fo101_5 : fieldOff Try.prog 101 5 = some 5 := by kernel_rfl
theorem fo101_6 : fieldOff Try.prog 101 6 = some 6 := by kernel_rfl
theorem fo101_7 : fieldOff Try.prog 101 7 = some 7 := by kernel_rfl
theorem fo101_8 : fieldOff Try.prog 101 8 = some 8 := by kernel_rfl
theorem fo101_9 : fieldOff Try.prog 101 9 = some 9 := by kernel_rfl
theorem fo101_10 : fieldOff Try.prog 101 10 = some 10 := by kernel_rfl
theorem tsz102 : tsz Try.prog 102 = some 11 := by kernel_rfl
theorem tby102 : tby Try.prog 102 = some 48 := by kernel_rfl
theorem tz102 : tzero Try.prog 102 = some (Value.agg #[(Value.int IntKind.u64 0), (Value.int IntKind.u64 0), (Value.int IntKind.u32 0), (Value.int IntKind.u8 0), (Value.int IntKind.u8 0), (Value.int IntKind.u8 0), (Value.int IntKind.u8 0), Value.nilFunc, (Value.pointer none), (Value.int IntKind.i32 0), (Value.int IntKind.i32 0)]) := by kernel_rfl
theorem fo102_0 : fieldOff Try.prog 102 0 = some 0 := by kernel_rfl
theorem fo102_1 : fieldOff Try.prog 102 1 = some 1 := by kernel_rfl
theorem fo102_2 : fieldOff Try.prog 102 2 = some 2 := by kernel_rfl
theorem fo102_3 : fieldOff Try.prog 102 3 = some 3 := by kernel_rfl
theorem fo102_4 : fieldOff Try.prog 102 4 = some 4 := by kernel_rfl
theorem fo102_5 : fieldOff Try.prog 102 5 = some 5 := by kernel_rfl
theorem fo102_6 : fieldOff Try.prog 102 6 = some 6 := by kernel_rfl
theorem fo102_7 : fieldOff Try.prog 102 7 = some 7 := by kernel_rfl
theorem fo102_8 : fieldOff Try.prog 102 8 = some 8 := by kernel_rfl
theorem fo102_9 : fieldOff Try.prog 102 9 = some 9 := by kernel_rfl
theorem fo102_10 : fieldOff Try.prog 102 10 = some 10 := by kernel_rfl
theorem tsz103 : tsz Try.prog 103 = some 1 := by kernel_rfl
theorem tby103 : tby Try.prog 103 = some 8 := by kernel_rfl
theorem tz103 : tzero Try.prog 103 = some (Value.pointer none) := by kernel_rfl
theorem en5 : Enters Try.prog 5 := Enters.of Try.func5 (by kernel_rfl) (by kernel_rfl)
theorem en10 : Enters Try.prog 10 := Enters.of Try.func10 (by kernel_rfl) (by kernel_rfl)
theorem en13 : Enters Try.prog 13 := Enters.of Try.func13 (by kernel_rfl) (by kernel_rfl)
theorem en14 : Enters Try.prog 14 := Enters.of Try.func14 (by kernel_rfl) (by kernel_rfl)
theorem en16 : Enters Try.prog 16 := Enters.of Try.func16 (by kernel_rfl) (by kernel_rfl)
theorem en17 : Enters Try.prog 17 := Enters.of Try.func17 (by kernel_rfl) (by kernel_rfl)
theorem en18 : Enters Try.prog 18 := Enters.of Try.func18 (by kernel_rfl) (by kernel_rfl)
theorem en19 : Enters Try.prog 19 := Enters.of Try.func19 (by kernel_rfl) (by kernel_rfl)
theorem en20 : Enters Try.prog 20 := Enters.of Try.func20 (by kernel_rfl) (by kernel_rfl)
theorem en21 : Enters Try.prog 21 := Enters.of Try.func21 (by kernel_rfl) (by kernel_rfl)
theorem en22 : Enters Try.prog 22 := Enters.of Try.func22 (by kernel_rfl) (by kernel_rfl)
theorem en23 : Enters Try.prog 23 := Enters.of Try.func23 (by kernel_rfl) (by kernel_rfl)
theorem en28 : Enters Try.prog 28 := Enters.of Try.func28 (by kernel_rfl) (by kernel_rfl)
theorem en30 : Enters Try.prog 30 := Enters.of Try.func30 (by kernel_rfl) (by kernel_rfl)
theorem en31 : Enters Try.prog 31 := Enters.of Try.func31 (by kernel_rfl) (by kernel_rfl)
theorem en33 : Enters Try.prog 33 := Enters.of Try.func33 (by kernel_rfl) (by kernel_rfl)
theorem en35 : Enters Try.prog 35 := Enters.of Try.func35 (by kernel_rfl) (by kernel_rfl)
theorem en36 : Enters Try.prog 36 := Enters.of Try.func36 (by kernel_rfl) (by kernel_rfl)
theorem en37 : Enters Try.prog 37 := Enters.of Try.func37 (by kernel_rfl) (by kernel_rfl)
theorem en39 : Enters Try.prog 39 := Enters.of Try.func39 (by kernel_rfl) (by kernel_rfl)
theorem en40 : Enters Try.prog 40 := Enters.of Try.func40 (by kernel_rfl) (by kernel_rfl)
theorem en41 : Enters Try.prog 41 := Enters.of Try.func41 (by kernel_rfl) (by kernel_rfl)
theorem en42 : Enters Try.prog 42 := Enters.of Try.func42 (by kernel_rfl) (by kernel_rfl)
theorem en43 : Enters Try.prog 43 := Enters.of Try.func43 (by kernel_rfl) (by kernel_rfl)
theorem en44 : Enters Try.prog 44 := Enters.of Try.func44 (by kernel_rfl) (by kernel_rfl)
theorem en45 : Enters Try.prog 45 := Enters.of Try.func45 (by kernel_rfl) (by kernel_rfl)
theorem en48 : Enters Try.prog 48 := Enters.of Try.func48 (by kernel_rfl) (by kernel_rfl)
theorem en49 : Enters Try.prog 49 := Enters.of Try.func49 (by kernel_rfl) (by kernel_rfl)
theorem en50 : Enters Try.prog 50 := Enters.of Try.func50 (by kernel_rfl) (by kernel_rfl)
theorem en51 : Enters Try.prog 51 := Enters.of Try.func51 (by kernel_rfl) (by kernel_rfl)
theorem en52 : Enters Try.prog 52 := Enters.of Try.func52 (by kernel_rfl) (by kernel_rfl)
theorem en53 : Enters Try.prog 53 := Enters.of Try.func53 (by kernel_rfl) (by kernel_rfl)
theorem en54 : Enters Try.prog 54 := Enters.of Try.func54 (by kernel_rfl) (by kernel_rfl)
theorem en55 : Enters Try.prog 55 := Enters.of Try.func55 (by kernel_rfl) (by kernel_rfl)
theorem en56 : Enters Try.prog 56 := Enters.of Try.func56 (by kernel_rfl) (by kernel_rfl)
theorem en58 : Enters Try.prog 58 := Enters.of Try.func58 (by kernel_rfl) (by kernel_rfl)
theorem en59 : Enters Try.prog 59 := Enters.of Try.func59 (by kernel_rfl) (by kernel_rfl)
theorem en60 : Enters Try.prog 60 := Enters.of Try.func60 (by kernel_rfl) (by kernel_rfl)
theorem en61 : Enters Try.prog 61 := Enters.of Try.func61 (by kernel_rfl) (by kernel_rfl)
theorem en62 : Enters Try.prog 62 := Enters.of Try.func62 (by kernel_rfl) (by kernel_rfl)
theorem mixed : Try.prog.follows .mixedOrders = true := by kernel_rfl
end Go.Proofs.Ytaogppnbeijjmaa
