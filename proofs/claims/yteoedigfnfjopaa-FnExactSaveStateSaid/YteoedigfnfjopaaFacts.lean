/- What the tables of the program say of its types and functions, looked up once. -/
import Derived.Test.YteoedigfnfjopaaAvU
import Derived.Test.YteoedigfnfjopaaProg
import Derived.KernelRfl
namespace Go.Proofs.Yteoedigfnfjopaa
open Go Go.Av
theorem tsz0 : tsz Try.prog 0 = some 1 := by kernel_rfl
theorem tby0 : tby Try.prog 0 = some 0 := by kernel_rfl
theorem tz0 : tzero Try.prog 0 = some (Value.tuple #[]) := by kernel_rfl
theorem tsz1 : tsz Try.prog 1 = some 1 := by kernel_rfl
theorem tby1 : tby Try.prog 1 = some 8 := by kernel_rfl
theorem tz1 : tzero Try.prog 1 = some Value.nilFunc := by kernel_rfl
theorem tsz2 : tsz Try.prog 2 = some 1 := by kernel_rfl
theorem tby2 : tby Try.prog 2 = some 8 := by kernel_rfl
theorem tz2 : tzero Try.prog 2 = some (Value.int IntKind.i64 0) := by kernel_rfl
theorem tsz3 : tsz Try.prog 3 = some 1 := by kernel_rfl
theorem tby3 : tby Try.prog 3 = some 8 := by kernel_rfl
theorem tz3 : tzero Try.prog 3 = some (Value.int IntKind.i64 0) := by kernel_rfl
theorem tsz4 : tsz Try.prog 4 = some 1 := by kernel_rfl
theorem tby4 : tby Try.prog 4 = some 1 := by kernel_rfl
theorem tz4 : tzero Try.prog 4 = some (Value.bool false) := by kernel_rfl
theorem tsz5 : tsz Try.prog 5 = some 1 := by kernel_rfl
theorem tby5 : tby Try.prog 5 = some 1 := by kernel_rfl
theorem tz5 : tzero Try.prog 5 = some (Value.int IntKind.u8 0) := by kernel_rfl
theorem tsz6 : tsz Try.prog 6 = some 1 := by kernel_rfl
theorem tby6 : tby Try.prog 6 = some 1 := by kernel_rfl
theorem tz6 : tzero Try.prog 6 = some (Value.int IntKind.u8 0) := by kernel_rfl
theorem tsz7 : tsz Try.prog 7 = some 4 := by kernel_rfl
theorem tby7 : tby Try.prog 7 = some 24 := by kernel_rfl
theorem tz7 : tzero Try.prog 7 = some (Value.agg #[(Value.int IntKind.i64 0), (Value.int IntKind.i64 0), (Value.bool false), (Value.int IntKind.u8 0)]) := by kernel_rfl
theorem fo7_0 : fieldOff Try.prog 7 0 = some 0 := by kernel_rfl
theorem fo7_1 : fieldOff Try.prog 7 1 = some 1 := by kernel_rfl
theorem fo7_2 : fieldOff Try.prog 7 2 = some 2 := by kernel_rfl
theorem fo7_3 : fieldOff Try.prog 7 3 = some 3 := by kernel_rfl
theorem tsz8 : tsz Try.prog 8 = some 4 := by kernel_rfl
theorem tby8 : tby Try.prog 8 = some 24 := by kernel_rfl
theorem tz8 : tzero Try.prog 8 = some (Value.agg #[(Value.int IntKind.i64 0), (Value.int IntKind.i64 0), (Value.bool false), (Value.int IntKind.u8 0)]) := by kernel_rfl
theorem fo8_0 : fieldOff Try.prog 8 0 = some 0 := by kernel_rfl
theorem fo8_1 : fieldOff Try.prog 8 1 = some 1 := by kernel_rfl
theorem fo8_2 : fieldOff Try.prog 8 2 = some 2 := by kernel_rfl
theorem fo8_3 : fieldOff Try.prog 8 3 = some 3 := by kernel_rfl
theorem tsz9 : tsz Try.prog 9 = some 1 := by kernel_rfl
theorem tby9 : tby Try.prog 9 = some 16 := by kernel_rfl
theorem tsz10 : tsz Try.prog 10 = some 1 := by kernel_rfl
theorem tby10 : tby Try.prog 10 = some 16 := by kernel_rfl
theorem tsz12 : tsz Try.prog 12 = some 1 := by kernel_rfl
theorem tby12 : tby Try.prog 12 = some 8 := by kernel_rfl
theorem tz12 : tzero Try.prog 12 = some (Value.int IntKind.u64 0) := by kernel_rfl
theorem tsz16 : tsz Try.prog 16 = some 1 := by kernel_rfl
theorem tby16 : tby Try.prog 16 = some 8 := by kernel_rfl
theorem tz16 : tzero Try.prog 16 = some (Value.pointer none) := by kernel_rfl
theorem tsz17 : tsz Try.prog 17 = some 1 := by kernel_rfl
theorem tby17 : tby Try.prog 17 = some 8 := by kernel_rfl
theorem tz17 : tzero Try.prog 17 = some (Value.pointer none) := by kernel_rfl
theorem tsz20 : tsz Try.prog 20 = some 1 := by kernel_rfl
theorem tby20 : tby Try.prog 20 = some 16 := by kernel_rfl
theorem tz20 : tzero Try.prog 20 = some Value.nilIface := by kernel_rfl
theorem tsz21 : tsz Try.prog 21 = some 1 := by kernel_rfl
theorem tby21 : tby Try.prog 21 = some 4 := by kernel_rfl
theorem tz21 : tzero Try.prog 21 = some (Value.int IntKind.i32 0) := by kernel_rfl
theorem tsz22 : tsz Try.prog 22 = some 1 := by kernel_rfl
theorem tby22 : tby Try.prog 22 = some 24 := by kernel_rfl
theorem tz22 : tzero Try.prog 22 = some (Value.slice none 0 0) := by kernel_rfl
theorem tsz23 : tsz Try.prog 23 = some 1 := by kernel_rfl
theorem tby23 : tby Try.prog 23 = some 24 := by kernel_rfl
theorem tz23 : tzero Try.prog 23 = some (Value.slice none 0 0) := by kernel_rfl
theorem tsz24 : tsz Try.prog 24 = some 1 := by kernel_rfl
theorem tby24 : tby Try.prog 24 = some 24 := by kernel_rfl
theorem tz24 : tzero Try.prog 24 = some (Value.slice none 0 0) := by kernel_rfl
theorem tsz25 : tsz Try.prog 25 = some 4 := by kernel_rfl
theorem tby25 : tby Try.prog 25 = some 80 := by kernel_rfl
theorem tz25 : tzero Try.prog 25 = some (Value.agg #[(Value.int IntKind.i64 0), (Value.slice none 0 0), (Value.slice none 0 0), (Value.slice none 0 0)]) := by kernel_rfl
theorem fo25_0 : fieldOff Try.prog 25 0 = some 0 := by kernel_rfl
theorem fo25_1 : fieldOff Try.prog 25 1 = some 1 := by kernel_rfl
theorem fo25_2 : fieldOff Try.prog 25 2 = some 2 := by kernel_rfl
theorem fo25_3 : fieldOff Try.prog 25 3 = some 3 := by kernel_rfl
theorem tsz26 : tsz Try.prog 26 = some 4 := by kernel_rfl
theorem tby26 : tby Try.prog 26 = some 80 := by kernel_rfl
theorem tz26 : tzero Try.prog 26 = some (Value.agg #[(Value.int IntKind.i64 0), (Value.slice none 0 0), (Value.slice none 0 0), (Value.slice none 0 0)]) := by kernel_rfl
theorem fo26_0 : fieldOff Try.prog 26 0 = some 0 := by kernel_rfl
theorem fo26_1 : fieldOff Try.prog 26 1 = some 1 := by kernel_rfl
theorem fo26_2 : fieldOff Try.prog 26 2 = some 2 := by kernel_rfl
theorem fo26_3 : fieldOff Try.prog 26 3 = some 3 := by kernel_rfl
theorem tsz28 : tsz Try.prog 28 = some 2 := by kernel_rfl
theorem tby28 : tby Try.prog 28 = some 48 := by kernel_rfl
theorem tz28 : tzero Try.prog 28 = some (Value.agg #[(Value.slice none 0 0), (Value.slice none 0 0)]) := by kernel_rfl
theorem fo28_0 : fieldOff Try.prog 28 0 = some 0 := by kernel_rfl
theorem fo28_1 : fieldOff Try.prog 28 1 = some 1 := by kernel_rfl
theorem tsz29 : tsz Try.prog 29 = some 2 := by kernel_rfl
theorem tby29 : tby Try.prog 29 = some 48 := by kernel_rfl
theorem tz29 : tzero Try.prog 29 = some (Value.agg #[(Value.slice none 0 0), (Value.slice none 0 0)]) := by kernel_rfl
theorem fo29_0 : fieldOff Try.prog 29 0 = some 0 := by kernel_rfl
theorem fo29_1 : fieldOff Try.prog 29 1 = some 1 := by kernel_rfl
theorem tsz30 : tsz Try.prog 30 = some 1 := by kernel_rfl
theorem tby30 : tby Try.prog 30 = some 0 := by kernel_rfl
theorem tz30 : tzero Try.prog 30 = some (Value.tuple #[(Value.agg #[(Value.slice none 0 0), (Value.slice none 0 0)]), (Value.bool false)]) := by kernel_rfl
theorem tsz32 : tsz Try.prog 32 = some 1 := by kernel_rfl
theorem tby32 : tby Try.prog 32 = some 24 := by kernel_rfl
theorem tz32 : tzero Try.prog 32 = some (Value.slice none 0 0) := by kernel_rfl
theorem tsz33 : tsz Try.prog 33 = some 4 := by kernel_rfl
theorem tby33 : tby Try.prog 33 = some 80 := by kernel_rfl
theorem tz33 : tzero Try.prog 33 = some (Value.agg #[(Value.int IntKind.i64 0), (Value.slice none 0 0), (Value.slice none 0 0), (Value.slice none 0 0)]) := by kernel_rfl
theorem fo33_0 : fieldOff Try.prog 33 0 = some 0 := by kernel_rfl
theorem fo33_1 : fieldOff Try.prog 33 1 = some 1 := by kernel_rfl
theorem fo33_2 : fieldOff Try.prog 33 2 = some 2 := by kernel_rfl
theorem fo33_3 : fieldOff Try.prog 33 3 = some 3 := by kernel_rfl
theorem tsz34 : tsz Try.prog 34 = some 4 := by kernel_rfl
theorem tby34 : tby Try.prog 34 = some 80 := by kernel_rfl
theorem tz34 : tzero Try.prog 34 = some (Value.agg #[(Value.int IntKind.i64 0), (Value.slice none 0 0), (Value.slice none 0 0), (Value.slice none 0 0)]) := by kernel_rfl
theorem fo34_0 : fieldOff Try.prog 34 0 = some 0 := by kernel_rfl
theorem fo34_1 : fieldOff Try.prog 34 1 = some 1 := by kernel_rfl
theorem fo34_2 : fieldOff Try.prog 34 2 = some 2 := by kernel_rfl
theorem fo34_3 : fieldOff Try.prog 34 3 = some 3 := by kernel_rfl
theorem tsz40 : tsz Try.prog 40 = some 1 := by kernel_rfl
theorem tby40 : tby Try.prog 40 = some 8 := by kernel_rfl
theorem tz40 : tzero Try.prog 40 = some Value.nilFunc := by kernel_rfl
theorem tsz41 : tsz Try.prog 41 = some 2 := by kernel_rfl
theorem tby41 : tby Try.prog 41 = some 48 := by kernel_rfl
theorem tz41 : tzero Try.prog 41 = some (Value.agg #[(Value.slice none 0 0), (Value.slice none 0 0)]) := by kernel_rfl
theorem fo41_0 : fieldOff Try.prog 41 0 = some 0 := by kernel_rfl
theorem fo41_1 : fieldOff Try.prog 41 1 = some 1 := by kernel_rfl
theorem tsz44 : tsz Try.prog 44 = some 1 := by kernel_rfl
theorem tby44 : tby Try.prog 44 = some 8 := by kernel_rfl
theorem tz44 : tzero Try.prog 44 = some Value.nilFunc := by kernel_rfl
theorem tsz56 : tsz Try.prog 56 = some 1 := by kernel_rfl
theorem tby56 : tby Try.prog 56 = some 8 := by kernel_rfl
theorem tz56 : tzero Try.prog 56 = some Value.nilFunc := by kernel_rfl
theorem tsz61 : tsz Try.prog 61 = some 3 := by kernel_rfl
theorem tby61 : tby Try.prog 61 = some 24 := by kernel_rfl
theorem tz61 : tzero Try.prog 61 = some (Value.agg #[(Value.int IntKind.i64 0), (Value.int IntKind.i64 0), (Value.int IntKind.i64 0)]) := by kernel_rfl
theorem peq61 : plainEq Try.prog 61 = true := by kernel_rfl
theorem fo61_0 : fieldOff Try.prog 61 0 = some 0 := by kernel_rfl
theorem fo61_1 : fieldOff Try.prog 61 1 = some 1 := by kernel_rfl
theorem fo61_2 : fieldOff Try.prog 61 2 = some 2 := by kernel_rfl
theorem tsz62 : tsz Try.prog 62 = some 3 := by kernel_rfl
theorem tby62 : tby Try.prog 62 = some 24 := by kernel_rfl
theorem tz62 : tzero Try.prog 62 = some (Value.agg #[(Value.int IntKind.i64 0), (Value.int IntKind.i64 0), (Value.int IntKind.i64 0)]) := by kernel_rfl
theorem peq62 : plainEq Try.prog 62 = true := by kernel_rfl
theorem fo62_0 : fieldOff Try.prog 62 0 = some 0 := by kernel_rfl
theorem fo62_1 : fieldOff Try.prog 62 1 = some 1 := by kernel_rfl
theorem fo62_2 : fieldOff Try.prog 62 2 = some 2 := by kernel_rfl
theorem tsz64 : tsz Try.prog 64 = some 3 := by kernel_rfl
theorem tby64 : tby Try.prog 64 = some 24 := by kernel_rfl
theorem tz64 : tzero Try.prog 64 = some (Value.agg #[(Value.int IntKind.i64 0), (Value.int IntKind.i64 0), (Value.int IntKind.i64 0)]) := by kernel_rfl
theorem peq64 : plainEq Try.prog 64 = true := by kernel_rfl
theorem fo64_0 : fieldOff Try.prog 64 0 = some 0 := by kernel_rfl
theorem fo64_1 : fieldOff Try.prog 64 1 = some 1 := by kernel_rfl
theorem fo64_2 : fieldOff Try.prog 64 2 = some 2 := by kernel_rfl
theorem tsz66 : tsz Try.prog 66 = some 1 := by kernel_rfl
theorem tby66 : tby Try.prog 66 = some 8 := by kernel_rfl
theorem tz66 : tzero Try.prog 66 = some Value.nilFunc := by kernel_rfl
theorem tsz67 : tsz Try.prog 67 = some 1 := by kernel_rfl
theorem tby67 : tby Try.prog 67 = some 24 := by kernel_rfl
theorem tz67 : tzero Try.prog 67 = some (Value.slice none 0 0) := by kernel_rfl
theorem tsz71 : tsz Try.prog 71 = some 1 := by kernel_rfl
theorem tby71 : tby Try.prog 71 = some 8 := by kernel_rfl
theorem tz71 : tzero Try.prog 71 = some Value.nilFunc := by kernel_rfl
theorem tsz72 : tsz Try.prog 72 = some 1 := by kernel_rfl
theorem tby72 : tby Try.prog 72 = some 8 := by kernel_rfl
theorem tz72 : tzero Try.prog 72 = some Value.nilFunc := by kernel_rfl
theorem tsz79 : tsz Try.prog 79 = some 3 := by kernel_rfl
theorem tby79 : tby Try.prog 79 = some 24 := by kernel_rfl
theorem tz79 : tzero Try.prog 79 = some (Value.agg #[(Value.int IntKind.i64 0), (Value.int IntKind.i64 0), (Value.int IntKind.i64 0)]) := by kernel_rfl
theorem peq79 : plainEq Try.prog 79 = true := by kernel_rfl
theorem fo79_0 : fieldOff Try.prog 79 0 = some 0 := by kernel_rfl
theorem fo79_1 : fieldOff Try.prog 79 1 = some 1 := by kernel_rfl
theorem fo79_2 : fieldOff Try.prog 79 2 = some 2 := by kernel_rfl
theorem tsz80 : tsz Try.prog 80 = some 3 := by kernel_rfl
theorem tby80 : tby Try.prog 80 = some 24 := by kernel_rfl
theorem tz80 : tzero Try.prog 80 = some (Value.agg #[(Value.int IntKind.i64 0), (Value.int IntKind.i64 0), (Value.int IntKind.i64 0)]) := by kernel_rfl
theorem peq80 : plainEq Try.prog 80 = true := by kernel_rfl
theorem fo80_0 : fieldOff Try.prog 80 0 = some 0 := by kernel_rfl
theorem fo80_1 : fieldOff Try.prog 80 1 = some 1 := by kernel_rfl
theorem fo80_2 : fieldOff Try.prog 80 2 = some 2 := by kernel_rfl
theorem tsz88 : tsz Try.prog 88 = some 1 := by kernel_rfl
theorem tby88 : tby Try.prog 88 = some 8 := by kernel_rfl
theorem tz88 : tzero Try.prog 88 = some Value.nilFunc := by kernel_rfl
theorem tsz89 : tsz Try.prog 89 = some 1 := by kernel_rfl
theorem tby89 : tby Try.prog 89 = some 24 := by kernel_rfl
theorem tz89 : tzero Try.prog 89 = some (Value.agg #[(Value.slice none 0 0)]) := by kernel_rfl
theorem fo89_0 : fieldOff Try.prog 89 0 = some 0 := by kernel_rfl
theorem tsz90 : tsz Try.prog 90 = some 1 := by kernel_rfl
theorem tby90 : tby Try.prog 90 = some 24 := by kernel_rfl
theorem tz90 : tzero Try.prog 90 = some (Value.agg #[(Value.slice none 0 0)]) := by kernel_rfl
theorem fo90_0 : fieldOff Try.prog 90 0 = some 0 := by kernel_rfl
theorem tsz95 : tsz Try.prog 95 = some 1 := by kernel_rfl
theorem tby95 : tby Try.prog 95 = some 8 := by kernel_rfl
theorem tz95 : tzero Try.prog 95 = some (Value.pointer none) := by kernel_rfl
theorem tsz97 : tsz Try.prog 97 = some 4 := by kernel_rfl
theorem tby97 : tby Try.prog 97 = some 40 := by kernel_rfl
theorem fo97_0 : fieldOff Try.prog 97 0 = some 0 := by kernel_rfl
theorem fo97_1 : fieldOff Try.prog 97 1 = some 1 := by kernel_rfl
theorem fo97_2 : fieldOff Try.prog 97 2 = some 2 := by kernel_rfl
theorem fo97_3 : fieldOff Try.prog 97 3 = some 3 := by kernel_rfl
theorem tsz98 : tsz Try.prog 98 = some 4 := by kernel_rfl
theorem tby98 : tby Try.prog 98 = some 40 := by kernel_rfl
theorem fo98_0 : fieldOff Try.prog 98 0 = some 0 := by kernel_rfl
theorem fo98_1 : fieldOff Try.prog 98 1 = some 1 := by kernel_rfl
theorem fo98_2 : fieldOff Try.prog 98 2 = some 2 := by kernel_rfl
theorem fo98_3 : fieldOff Try.prog 98 3 = some 3 := by kernel_rfl
theorem tsz99 : tsz Try.prog 99 = some 0 := by kernel_rfl
theorem tby99 : tby Try.prog 99 = some 0 := by kernel_rfl
theorem tz99 : tzero Try.prog 99 = some (Value.agg #[]) := by kernel_rfl
theorem tsz100 : tsz Try.prog 100 = some 0 := by kernel_rfl
theorem tby100 : tby Try.prog 100 = some 0 := by kernel_rfl
theorem tz100 : tzero Try.prog 100 = some (Value.agg #[]) := by kernel_rfl
theorem tsz101 : tsz Try.prog 101 = some 0 := by kernel_rfl
theorem tby101 : tby Try.prog 101 = some 0 := by kernel_rfl
theorem tz101 : tzero Try.prog 101 = some (Value.agg #[]) := by kernel_rfl
theorem tsz102 : tsz Try.prog 102 = some 1 := by kernel_rfl
theorem tby102 : tby Try.prog 102 = some 8 := by kernel_rfl
theorem tz102 : tzero Try.prog 102 = some Value.nilFunc := by kernel_rfl
theorem tsz103 : tsz Try.prog 103 = some 1 := by kernel_rfl
theorem tby103 : tby Try.prog 103 = some 4 := by kernel_rfl
theorem tz103 : tzero Try.prog 103 = some (Value.int IntKind.u32 0) := by kernel_rfl
theorem tsz104 : tsz Try.prog 104 = some 1 := by kernel_rfl
theorem tby104 : tby Try.prog 104 = some 1 := by kernel_rfl
theorem tz104 : tzero Try.prog 104 = some (Value.int IntKind.u8 0) := by kernel_rfl
theorem tsz105 : tsz Try.prog 105 = some 1 := by kernel_rfl
theorem tby105 : tby Try.prog 105 = some 1 := by kernel_rfl
theorem tz105 : tzero Try.prog 105 = some (Value.int IntKind.u8 0) := by kernel_rfl
theorem tsz106 : tsz Try.prog 106 = some 1 := by kernel_rfl
theorem tby106 : tby Try.prog 106 = some 8 := by kernel_rfl
theorem tz106 : tzero Try.prog 106 = some Value.nilFunc := by kernel_rfl
theorem tsz107 : tsz Try.prog 107 = some 1 := by kernel_rfl
theorem tby107 : tby Try.prog 107 = some 8 := by kernel_rfl
theorem tz107 : tzero Try.prog 107 = some (Value.pointer none) := by kernel_rfl
theorem tsz108 : tsz Try.prog 108 = some 1 := by kernel_rfl
theorem tby108 : tby Try.prog 108 = some 4 := by kernel_rfl
theorem tz108 : tzero Try.prog 108 = some (Value.int IntKind.i32 0) := by kernel_rfl
theorem tsz109 : tsz Try.prog 109 = some 1 := by kernel_rfl
theorem tby109 : tby Try.prog 109 = some 4 := by kernel_rfl
theorem tz109 : tzero Try.prog 109 = some (Value.int IntKind.i32 0) := by kernel_rfl
theorem tsz110 : tsz Try.prog 110 = some 11 := by kernel_rfl
theorem tby110 : tby Try.prog 110 = some 48 := by kernel_rfl
theorem tz110 : tzero Try.prog 110 = some (Value.agg #[(Value.int IntKind.u64 0), (Value.int IntKind.u64 0), (Value.int IntKind.u32 0), (Value.int IntKind.u8 0), (Value.int IntKind.u8 0), (Value.int IntKind.u8 0), (Value.int IntKind.u8 0), Value.nilFunc, (Value.pointer none), (Value.int IntKind.i32 0), (Value.int IntKind.i32 0)]) := by kernel_rfl
theorem fo110_0 : fieldOff Try.prog 110 0 = some 0 := by kernel_rfl
theorem fo110_1 : fieldOff Try.prog 110 1 = some 1 := by kernel_rfl
theorem fo110_2 : fieldOff Try.prog 110 2 = some 2 := by kernel_rfl
theorem fo110_3 : fieldOff Try.prog 110 3 = some 3 := by kernel_rfl
theorem fo110_4 : fieldOff Try.prog 110 4 = some 4 := by kernel_rfl
theorem fo110_5 : fieldOff Try.prog 110 5 = some 5 := by kernel_rfl
theorem fo110_6 : fieldOff Try.prog 110 6 = some 6 := by kernel_rfl
theorem fo110_7 : fieldOff Try.prog 110 7 = some 7 := by kernel_rfl
theorem fo110_8 : fieldOff Try.prog 110 8 = some 8 := by kernel_rfl
theorem fo110_9 : fieldOff Try.prog 110 9 = some 9 := by kernel_rfl
theorem fo110_10 : fieldOff Try.prog 110 10 = some 10 := by kernel_rfl
theorem tsz111 : tsz Try.prog 111 = some 11 := by kernel_rfl
theorem tby111 : tby Try.prog 111 = some 48 := by kernel_rfl
theorem tz111 : tzero Try.prog 111 = some (Value.agg #[(Value.int IntKind.u64 0), (Value.int IntKind.u64 0), (Value.int IntKind.u32 0), (Value.int IntKind.u8 0), (Value.int IntKind.u8 0), (Value.int IntKind.u8 0), (Value.int IntKind.u8 0), Value.nilFunc, (Value.pointer none), (Value.int IntKind.i32 0), (Value.int IntKind.i32 0)]) := by kernel_rfl
theorem fo111_0 : fieldOff Try.prog 111 0 = some 0 := by kernel_rfl
theorem fo111_1 : fieldOff Try.prog 111 1 = some 1 := by kernel_rfl
theorem fo111_2 : fieldOff Try.prog 111 2 = some 2 := by kernel_rfl
theorem fo111_3 : fieldOff Try.prog 111 3 = some 3 := by kernel_rfl
theorem fo111_4 : fieldOff Try.prog 111 4 = some 4 := by kernel_rfl
theorem fo111_5 : fieldOff Try.prog 111 5 = some 5 := by kernel_rfl
theorem fo111_6 : fieldOff Try.prog 111 6 = some 6 := by kernel_rfl
theorem fo111_7 : fieldOff Try.prog 111 7 = some 7 := by kernel_rfl
theorem fo111_8 : fieldOff Try.prog 111 8 = some 8 := by kernel_rfl
theorem fo111_9 : fieldOff Try.prog 111 9 = some 9 := by kernel_rfl
theorem fo111_10 : fieldOff Try.prog 111 10 = some 10 := by kernel_rfl
theorem tsz113 : tsz Try.prog 113 = some 1 := by kernel_rfl
theorem tby113 : tby Try.prog 113 = some 8 := by kernel_rfl
theorem tz113 : tzero Try.prog 113 = some (Value.pointer none) := by kernel_rfl
theorem en4 : Enters Try.prog 4 := Enters.of Try.func4 (by kernel_rfl) (by kernel_rfl)
theorem en5 : Enters Try.prog 5 := Enters.of Try.func5 (by kernel_rfl) (by kernel_rfl)
theorem en7 : Enters Try.prog 7 := Enters.of Try.func7 (by kernel_rfl) (by kernel_rfl)
theorem en9 : Enters Try.prog 9 := Enters.of Try.func9 (by kernel_rfl) (by kernel_rfl)
theorem en10 : Enters Try.prog 10 := Enters.of Try.func10 (by kernel_rfl) (by kernel_rfl)
theorem en11 : Enters Try.prog 11 := Enters.of Try.func11 (by kernel_rfl) (by kernel_rfl)
theorem en12 : Enters Try.prog 12 := Enters.of Try.func12 (by kernel_rfl) (by kernel_rfl)
theorem en13 : Enters Try.prog 13 := Enters.of Try.func13 (by kernel_rfl) (by kernel_rfl)
theorem en14 : Enters Try.prog 14 := Enters.of Try.func14 (by kernel_rfl) (by kernel_rfl)
theorem en15 : Enters Try.prog 15 := Enters.of Try.func15 (by kernel_rfl) (by kernel_rfl)
theorem en16 : Enters Try.prog 16 := Enters.of Try.func16 (by kernel_rfl) (by kernel_rfl)
theorem en17 : Enters Try.prog 17 := Enters.of Try.func17 (by kernel_rfl) (by kernel_rfl)
theorem en18 : Enters Try.prog 18 := Enters.of Try.func18 (by kernel_rfl) (by kernel_rfl)
theorem en19 : Enters Try.prog 19 := Enters.of Try.func19 (by kernel_rfl) (by kernel_rfl)
theorem en20 : Enters Try.prog 20 := Enters.of Try.func20 (by kernel_rfl) (by kernel_rfl)
theorem en21 : Enters Try.prog 21 := Enters.of Try.func21 (by kernel_rfl) (by kernel_rfl)
theorem en22 : Enters Try.prog 22 := Enters.of Try.func22 (by kernel_rfl) (by kernel_rfl)
theorem en23 : Enters Try.prog 23 := Enters.of Try.func23 (by kernel_rfl) (by kernel_rfl)
theorem en24 : Enters Try.prog 24 := Enters.of Try.func24 (by kernel_rfl) (by kernel_rfl)
theorem en25 : Enters Try.prog 25 := Enters.of Try.func25 (by kernel_rfl) (by kernel_rfl)
theorem en26 : Enters Try.prog 26 := Enters.of Try.func26 (by kernel_rfl) (by kernel_rfl)
theorem en27 : Enters Try.prog 27 := Enters.of Try.func27 (by kernel_rfl) (by kernel_rfl)
theorem en28 : Enters Try.prog 28 := Enters.of Try.func28 (by kernel_rfl) (by kernel_rfl)
theorem en29 : Enters Try.prog 29 := Enters.of Try.func29 (by kernel_rfl) (by kernel_rfl)
theorem en30 : Enters Try.prog 30 := Enters.of Try.func30 (by kernel_rfl) (by kernel_rfl)
theorem en31 : Enters Try.prog 31 := Enters.of Try.func31 (by kernel_rfl) (by kernel_rfl)
theorem en32 : Enters Try.prog 32 := Enters.of Try.func32 (by kernel_rfl) (by kernel_rfl)
theorem en33 : Enters Try.prog 33 := Enters.of Try.func33 (by kernel_rfl) (by kernel_rfl)
theorem en34 : Enters Try.prog 34 := Enters.of Try.func34 (by kernel_rfl) (by kernel_rfl)
theorem en35 : Enters Try.prog 35 := Enters.of Try.func35 (by kernel_rfl) (by kernel_rfl)
theorem en36 : Enters Try.prog 36 := Enters.of Try.func36 (by kernel_rfl) (by kernel_rfl)
theorem en37 : Enters Try.prog 37 := Enters.of Try.func37 (by kernel_rfl) (by kernel_rfl)
theorem en38 : Enters Try.prog 38 := Enters.of Try.func38 (by kernel_rfl) (by kernel_rfl)
theorem en39 : Enters Try.prog 39 := Enters.of Try.func39 (by kernel_rfl) (by kernel_rfl)
theorem en40 : Enters Try.prog 40 := Enters.of Try.func40 (by kernel_rfl) (by kernel_rfl)
theorem en41 : Enters Try.prog 41 := Enters.of Try.func41 (by kernel_rfl) (by kernel_rfl)
theorem en42 : Enters Try.prog 42 := Enters.of Try.func42 (by kernel_rfl) (by kernel_rfl)
theorem en43 : Enters Try.prog 43 := Enters.of Try.func43 (by kernel_rfl) (by kernel_rfl)
theorem en44 : Enters Try.prog 44 := Enters.of Try.func44 (by kernel_rfl) (by kernel_rfl)
theorem en45 : Enters Try.prog 45 := Enters.of Try.func45 (by kernel_rfl) (by kernel_rfl)
theorem en46 : Enters Try.prog 46 := Enters.of Try.func46 (by kernel_rfl) (by kernel_rfl)
theorem en47 : Enters Try.prog 47 := Enters.of Try.func47 (by kernel_rfl) (by kernel_rfl)
theorem en48 : Enters Try.prog 48 := Enters.of Try.func48 (by kernel_rfl) (by kernel_rfl)
theorem en49 : Enters Try.prog 49 := Enters.of Try.func49 (by kernel_rfl) (by kernel_rfl)
theorem en50 : Enters Try.prog 50 := Enters.of Try.func50 (by kernel_rfl) (by kernel_rfl)
theorem en51 : Enters Try.prog 51 := Enters.of Try.func51 (by kernel_rfl) (by kernel_rfl)
theorem en52 : Enters Try.prog 52 := Enters.of Try.func52 (by kernel_rfl) (by kernel_rfl)
theorem en53 : Enters Try.prog 53 := Enters.of Try.func53 (by kernel_rfl) (by kernel_rfl)
theorem en54 : Enters Try.prog 54 := Enters.of Try.func54 (by kernel_rfl) (by kernel_rfl)
theorem en55 : Enters Try.prog 55 := Enters.of Try.func55 (by kernel_rfl) (by kernel_rfl)
theorem en56 : Enters Try.prog 56 := Enters.of Try.func56 (by kernel_rfl) (by kernel_rfl)
theorem en57 : Enters Try.prog 57 := Enters.of Try.func57 (by kernel_rfl) (by kernel_rfl)
theorem en58 : Enters Try.prog 58 := Enters.of Try.func58 (by kernel_rfl) (by kernel_rfl)
theorem en59 : Enters Try.prog 59 := Enters.of Try.func59 (by kernel_rfl) (by kernel_rfl)
theorem en60 : Enters Try.prog 60 := Enters.of Try.func60 (by kernel_rfl) (by kernel_rfl)
theorem en61 : Enters Try.prog 61 := Enters.of Try.func61 (by kernel_rfl) (by kernel_rfl)
theorem en62 : Enters Try.prog 62 := Enters.of Try.func62 (by kernel_rfl) (by kernel_rfl)
theorem en63 : Enters Try.prog 63 := Enters.of Try.func63 (by kernel_rfl) (by kernel_rfl)
theorem en64 : Enters Try.prog 64 := Enters.of Try.func64 (by kernel_rfl) (by kernel_rfl)
theorem en65 : Enters Try.prog 65 := Enters.of Try.func65 (by kernel_rfl) (by kernel_rfl)
theorem en66 : Enters Try.prog 66 := Enters.of Try.func66 (by kernel_rfl) (by kernel_rfl)
theorem en67 : Enters Try.prog 67 := Enters.of Try.func67 (by kernel_rfl) (by kernel_rfl)
theorem en68 : Enters Try.prog 68 := Enters.of Try.func68 (by kernel_rfl) (by kernel_rfl)
theorem en69 : Enters Try.prog 69 := Enters.of Try.func69 (by kernel_rfl) (by kernel_rfl)
theorem en70 : Enters Try.prog 70 := Enters.of Try.func70 (by kernel_rfl) (by kernel_rfl)
theorem en71 : Enters Try.prog 71 := Enters.of Try.func71 (by kernel_rfl) (by kernel_rfl)
theorem en72 : Enters Try.prog 72 := Enters.of Try.func72 (by kernel_rfl) (by kernel_rfl)
theorem en73 : Enters Try.prog 73 := Enters.of Try.func73 (by kernel_rfl) (by kernel_rfl)
theorem en74 : Enters Try.prog 74 := Enters.of Try.func74 (by kernel_rfl) (by kernel_rfl)
theorem en75 : Enters Try.prog 75 := Enters.of Try.func75 (by kernel_rfl) (by kernel_rfl)
theorem en76 : Enters Try.prog 76 := Enters.of Try.func76 (by kernel_rfl) (by kernel_rfl)
theorem en77 : Enters Try.prog 77 := Enters.of Try.func77 (by kernel_rfl) (by kernel_rfl)
theorem en78 : Enters Try.prog 78 := Enters.of Try.func78 (by kernel_rfl) (by kernel_rfl)
theorem en79 : Enters Try.prog 79 := Enters.of Try.func79 (by kernel_rfl) (by kernel_rfl)
theorem en80 : Enters Try.prog 80 := Enters.of Try.func80 (by kernel_rfl) (by kernel_rfl)
theorem mixed : Try.prog.follows .mixedOrders = true := by kernel_rfl
end Go.Proofs.Yteoedigfnfjopaa
