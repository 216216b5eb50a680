import Derived.Test.YtegcmciglakicaaM2
import Derived.Test.YtegcmciglakicaaProg
/-
  Tya: the facts of the program's types, for the reckoning.
-/
namespace Go.Proofs.Ytegcmciglakicaa
open Go Go.RowKit Go.Exe

theorem tI2 : TI Try.prog 2 = some (false, 1) := by kernel_rfl
theorem tE2 : EInfo Try.prog 2 = some (1, 8) := by kernel_rfl
theorem tZ2 : ZV Try.prog 2 = some [.int .i64 0] := by kernel_rfl
theorem tG2 : ZG Try.prog 2 = some (false, [.int .i64 0]) := by kernel_rfl
theorem tU2 : Try.prog.underlying 2 = some (.int .i64) := by kernel_rfl
theorem tI3 : TI Try.prog 3 = some (false, 1) := by kernel_rfl
theorem tE3 : EInfo Try.prog 3 = some (1, 8) := by kernel_rfl
theorem tZ3 : ZV Try.prog 3 = some [.int .i64 0] := by kernel_rfl
theorem tG3 : ZG Try.prog 3 = some (false, [.int .i64 0]) := by kernel_rfl
theorem tU3 : Try.prog.underlying 3 = some (.int .i64) := by kernel_rfl
theorem tI4 : TI Try.prog 4 = some (false, 1) := by kernel_rfl
theorem tE4 : EInfo Try.prog 4 = some (1, 1) := by kernel_rfl
theorem tZ4 : ZV Try.prog 4 = some [.bool false] := by kernel_rfl
theorem tG4 : ZG Try.prog 4 = some (false, [.bool false]) := by kernel_rfl
theorem tU4 : Try.prog.underlying 4 = some .bool := by kernel_rfl
theorem tI5 : TI Try.prog 5 = some (false, 1) := by kernel_rfl
theorem tE5 : EInfo Try.prog 5 = some (1, 1) := by kernel_rfl
theorem tZ5 : ZV Try.prog 5 = some [.int .u8 0] := by kernel_rfl
theorem tG5 : ZG Try.prog 5 = some (false, [.int .u8 0]) := by kernel_rfl
theorem tU5 : Try.prog.underlying 5 = some (.int .u8) := by kernel_rfl
theorem tI7 : TI Try.prog 7 = some (true, 4) := by kernel_rfl
theorem tE7 : EInfo Try.prog 7 = some (4, 24) := by kernel_rfl
theorem tZ7 : ZV Try.prog 7 = some [.int .i64 0, .int .i64 0, .bool false, .int .u8 0] := by kernel_rfl
theorem tG7 : ZG Try.prog 7 = some (true, [.int .i64 0, .int .i64 0, .bool false, .int .u8 0]) := by kernel_rfl
theorem tF7_0 : FO Try.prog 7 0 = some 0 := by kernel_rfl
theorem tF7_1 : FO Try.prog 7 1 = some 1 := by kernel_rfl
theorem tF7_2 : FO Try.prog 7 2 = some 2 := by kernel_rfl
theorem tF7_3 : FO Try.prog 7 3 = some 3 := by kernel_rfl
theorem tP7 : PLs Try.prog 7 = some (.st [(0, 1), (1, 1), (2, 1), (3, 1)]) := by kernel_rfl
theorem tI9 : TI Try.prog 9 = some (false, 1) := by kernel_rfl
theorem tE9 : EInfo Try.prog 9 = some (1, 16) := by kernel_rfl
theorem tZ9 : ZV Try.prog 9 = some [.string ByteArray.empty] := by kernel_rfl
theorem tG9 : ZG Try.prog 9 = some (false, [.string ByteArray.empty]) := by kernel_rfl
theorem tU9 : Try.prog.underlying 9 = some .string := by kernel_rfl
theorem tI12 : TI Try.prog 12 = some (false, 1) := by kernel_rfl
theorem tE12 : EInfo Try.prog 12 = some (1, 8) := by kernel_rfl
theorem tZ12 : ZV Try.prog 12 = some [.int .u64 0] := by kernel_rfl
theorem tG12 : ZG Try.prog 12 = some (false, [.int .u64 0]) := by kernel_rfl
theorem tU12 : Try.prog.underlying 12 = some (.int .u64) := by kernel_rfl
theorem tI13 : TI Try.prog 13 = some (true, 2) := by kernel_rfl
theorem tE13 : EInfo Try.prog 13 = some (2, 24) := by kernel_rfl
theorem tZ13 : ZV Try.prog 13 = some [.string ByteArray.empty, .int .u64 0] := by kernel_rfl
theorem tG13 : ZG Try.prog 13 = some (true, [.string ByteArray.empty, .int .u64 0]) := by kernel_rfl
theorem tF13_0 : FO Try.prog 13 0 = some 0 := by kernel_rfl
theorem tF13_1 : FO Try.prog 13 1 = some 1 := by kernel_rfl
theorem tP13 : PLs Try.prog 13 = some (.st [(0, 1), (1, 1)]) := by kernel_rfl
theorem tI18 : TI Try.prog 18 = some (true, 1) := by kernel_rfl
theorem tE18 : EInfo Try.prog 18 = some (1, 8) := by kernel_rfl
theorem tZ18 : ZV Try.prog 18 = some [.pointer none] := by kernel_rfl
theorem tG18 : ZG Try.prog 18 = some (true, [.pointer none]) := by kernel_rfl
theorem tF18_0 : FO Try.prog 18 0 = some 0 := by kernel_rfl
theorem tP18 : PLs Try.prog 18 = some (.st [(0, 1)]) := by kernel_rfl
theorem tI19 : TI Try.prog 19 = some (true, 1) := by kernel_rfl
theorem tE19 : EInfo Try.prog 19 = some (1, 8) := by kernel_rfl
theorem tZ19 : ZV Try.prog 19 = some [.pointer none] := by kernel_rfl
theorem tG19 : ZG Try.prog 19 = some (true, [.pointer none]) := by kernel_rfl
theorem tF19_0 : FO Try.prog 19 0 = some 0 := by kernel_rfl
theorem tP19 : PLs Try.prog 19 = some (.st [(0, 1)]) := by kernel_rfl
theorem tI20 : TI Try.prog 20 = some (false, 1) := by kernel_rfl
theorem tE20 : EInfo Try.prog 20 = some (1, 16) := by kernel_rfl
theorem tZ20 : ZV Try.prog 20 = some [.nilIface] := by kernel_rfl
theorem tG20 : ZG Try.prog 20 = some (false, [.nilIface]) := by kernel_rfl
theorem tI21 : TI Try.prog 21 = some (false, 1) := by kernel_rfl
theorem tE21 : EInfo Try.prog 21 = some (1, 4) := by kernel_rfl
theorem tZ21 : ZV Try.prog 21 = some [.int .i32 0] := by kernel_rfl
theorem tG21 : ZG Try.prog 21 = some (false, [.int .i32 0]) := by kernel_rfl
theorem tU21 : Try.prog.underlying 21 = some (.int .i32) := by kernel_rfl
theorem tI22 : TI Try.prog 22 = some (false, 1) := by kernel_rfl
theorem tE22 : EInfo Try.prog 22 = some (1, 24) := by kernel_rfl
theorem tZ22 : ZV Try.prog 22 = some [.slice none 0 0] := by kernel_rfl
theorem tG22 : ZG Try.prog 22 = some (false, [.slice none 0 0]) := by kernel_rfl
theorem tL22 : EL Try.prog 22 = some 5 := by kernel_rfl
theorem tI23 : TI Try.prog 23 = some (false, 1) := by kernel_rfl
theorem tE23 : EInfo Try.prog 23 = some (1, 24) := by kernel_rfl
theorem tZ23 : ZV Try.prog 23 = some [.slice none 0 0] := by kernel_rfl
theorem tG23 : ZG Try.prog 23 = some (false, [.slice none 0 0]) := by kernel_rfl
theorem tL23 : EL Try.prog 23 = some 5 := by kernel_rfl
theorem tI25 : TI Try.prog 25 = some (false, 1) := by kernel_rfl
theorem tE25 : EInfo Try.prog 25 = some (1, 24) := by kernel_rfl
theorem tZ25 : ZV Try.prog 25 = some [.slice none 0 0] := by kernel_rfl
theorem tG25 : ZG Try.prog 25 = some (false, [.slice none 0 0]) := by kernel_rfl
theorem tL25 : EL Try.prog 25 = some 27 := by kernel_rfl
theorem tI26 : TI Try.prog 26 = some (true, 3) := by kernel_rfl
theorem tE26 : EInfo Try.prog 26 = some (3, 56) := by kernel_rfl
theorem tZ26 : ZV Try.prog 26 = some [.string ByteArray.empty, .string ByteArray.empty, .slice none 0 0] := by kernel_rfl
theorem tG26 : ZG Try.prog 26 = some (true, [.string ByteArray.empty, .string ByteArray.empty, .slice none 0 0]) := by kernel_rfl
theorem tF26_0 : FO Try.prog 26 0 = some 0 := by kernel_rfl
theorem tF26_1 : FO Try.prog 26 1 = some 1 := by kernel_rfl
theorem tF26_2 : FO Try.prog 26 2 = some 2 := by kernel_rfl
theorem tP26 : PLs Try.prog 26 = some (.st [(0, 1), (1, 1), (2, 1)]) := by kernel_rfl
theorem tI27 : TI Try.prog 27 = some (true, 3) := by kernel_rfl
theorem tE27 : EInfo Try.prog 27 = some (3, 56) := by kernel_rfl
theorem tZ27 : ZV Try.prog 27 = some [.string ByteArray.empty, .string ByteArray.empty, .slice none 0 0] := by kernel_rfl
theorem tG27 : ZG Try.prog 27 = some (true, [.string ByteArray.empty, .string ByteArray.empty, .slice none 0 0]) := by kernel_rfl
theorem tF27_0 : FO Try.prog 27 0 = some 0 := by kernel_rfl
theorem tF27_1 : FO Try.prog 27 1 = some 1 := by kernel_rfl
theorem tF27_2 : FO Try.prog 27 2 = some 2 := by kernel_rfl
theorem tP27 : PLs Try.prog 27 = some (.st [(0, 1), (1, 1), (2, 1)]) := by kernel_rfl
theorem tI34 : TI Try.prog 34 = some (false, 1) := by kernel_rfl
theorem tE34 : EInfo Try.prog 34 = some (1, 24) := by kernel_rfl
theorem tZ34 : ZV Try.prog 34 = some [.slice none 0 0] := by kernel_rfl
theorem tG34 : ZG Try.prog 34 = some (false, [.slice none 0 0]) := by kernel_rfl
theorem tL34 : EL Try.prog 34 = some 38 := by kernel_rfl
theorem tI36 : TI Try.prog 36 = some (false, 1) := by kernel_rfl
theorem tE36 : EInfo Try.prog 36 = some (1, 24) := by kernel_rfl
theorem tZ36 : ZV Try.prog 36 = some [.slice none 0 0] := by kernel_rfl
theorem tG36 : ZG Try.prog 36 = some (false, [.slice none 0 0]) := by kernel_rfl
theorem tL36 : EL Try.prog 36 = some 59 := by kernel_rfl
theorem tI37 : TI Try.prog 37 = some (true, 2) := by kernel_rfl
theorem tE37 : EInfo Try.prog 37 = some (2, 32) := by kernel_rfl
theorem tZ37 : ZV Try.prog 37 = some [.slice none 0 0, .int .i64 0] := by kernel_rfl
theorem tG37 : ZG Try.prog 37 = some (true, [.slice none 0 0, .int .i64 0]) := by kernel_rfl
theorem tF37_0 : FO Try.prog 37 0 = some 0 := by kernel_rfl
theorem tF37_1 : FO Try.prog 37 1 = some 1 := by kernel_rfl
theorem tP37 : PLs Try.prog 37 = some (.st [(0, 1), (1, 1)]) := by kernel_rfl
theorem tI38 : TI Try.prog 38 = some (true, 2) := by kernel_rfl
theorem tE38 : EInfo Try.prog 38 = some (2, 32) := by kernel_rfl
theorem tZ38 : ZV Try.prog 38 = some [.slice none 0 0, .int .i64 0] := by kernel_rfl
theorem tG38 : ZG Try.prog 38 = some (true, [.slice none 0 0, .int .i64 0]) := by kernel_rfl
theorem tF38_0 : FO Try.prog 38 0 = some 0 := by kernel_rfl
theorem tF38_1 : FO Try.prog 38 1 = some 1 := by kernel_rfl
theorem tP38 : PLs Try.prog 38 = some (.st [(0, 1), (1, 1)]) := by kernel_rfl
theorem tI46 : TI Try.prog 46 = some (false, 1) := by kernel_rfl
theorem tE46 : EInfo Try.prog 46 = some (1, 8) := by kernel_rfl
theorem tZ46 : ZV Try.prog 46 = some [.int .i64 0] := by kernel_rfl
theorem tG46 : ZG Try.prog 46 = some (false, [.int .i64 0]) := by kernel_rfl
theorem tU46 : Try.prog.underlying 46 = some (.int .i64) := by kernel_rfl
theorem tI49 : TI Try.prog 49 = some (false, 1) := by kernel_rfl
theorem tE49 : EInfo Try.prog 49 = some (1, 2) := by kernel_rfl
theorem tZ49 : ZV Try.prog 49 = some [.int .u16 0] := by kernel_rfl
theorem tG49 : ZG Try.prog 49 = some (false, [.int .u16 0]) := by kernel_rfl
theorem tU49 : Try.prog.underlying 49 = some (.int .u16) := by kernel_rfl
theorem tI50 : TI Try.prog 50 = some (false, 1) := by kernel_rfl
theorem tE50 : EInfo Try.prog 50 = some (1, 24) := by kernel_rfl
theorem tZ50 : ZV Try.prog 50 = some [.slice none 0 0] := by kernel_rfl
theorem tG50 : ZG Try.prog 50 = some (false, [.slice none 0 0]) := by kernel_rfl
theorem tL50 : EL Try.prog 50 = some 9 := by kernel_rfl
theorem tI51 : TI Try.prog 51 = some (false, 1) := by kernel_rfl
theorem tE51 : EInfo Try.prog 51 = some (1, 8) := by kernel_rfl
theorem tZ51 : ZV Try.prog 51 = some [.pointer none] := by kernel_rfl
theorem tG51 : ZG Try.prog 51 = some (false, [.pointer none]) := by kernel_rfl
theorem tU51 : Try.prog.underlying 51 = some (.pointer 80) := by kernel_rfl
theorem tI58 : TI Try.prog 58 = some (true, 2) := by kernel_rfl
theorem tE58 : EInfo Try.prog 58 = some (2, 32) := by kernel_rfl
theorem tZ58 : ZV Try.prog 58 = some [.string ByteArray.empty, .string ByteArray.empty] := by kernel_rfl
theorem tG58 : ZG Try.prog 58 = some (true, [.string ByteArray.empty, .string ByteArray.empty]) := by kernel_rfl
theorem tF58_0 : FO Try.prog 58 0 = some 0 := by kernel_rfl
theorem tF58_1 : FO Try.prog 58 1 = some 1 := by kernel_rfl
theorem tP58 : PLs Try.prog 58 = some (.st [(0, 1), (1, 1)]) := by kernel_rfl
theorem tI59 : TI Try.prog 59 = some (true, 2) := by kernel_rfl
theorem tE59 : EInfo Try.prog 59 = some (2, 32) := by kernel_rfl
theorem tZ59 : ZV Try.prog 59 = some [.string ByteArray.empty, .string ByteArray.empty] := by kernel_rfl
theorem tG59 : ZG Try.prog 59 = some (true, [.string ByteArray.empty, .string ByteArray.empty]) := by kernel_rfl
theorem tF59_0 : FO Try.prog 59 0 = some 0 := by kernel_rfl
theorem tF59_1 : FO Try.prog 59 1 = some 1 := by kernel_rfl
theorem tP59 : PLs Try.prog 59 = some (.st [(0, 1), (1, 1)]) := by kernel_rfl
theorem tI65 : TI Try.prog 65 = some (false, 1) := by kernel_rfl
theorem tE65 : EInfo Try.prog 65 = some (1, 8) := by kernel_rfl
theorem tZ65 : ZV Try.prog 65 = some [.map none] := by kernel_rfl
theorem tG65 : ZG Try.prog 65 = some (false, [.map none]) := by kernel_rfl
theorem tU65 : Try.prog.underlying 65 = some (.map 9 90) := by kernel_rfl
theorem tM65 : MT Try.prog 65 = some (9, 90) := by kernel_rfl
theorem tI66 : TI Try.prog 66 = some (false, 1) := by kernel_rfl
theorem tE66 : EInfo Try.prog 66 = some (1, 8) := by kernel_rfl
theorem tZ66 : ZV Try.prog 66 = some [.map none] := by kernel_rfl
theorem tG66 : ZG Try.prog 66 = some (false, [.map none]) := by kernel_rfl
theorem tU66 : Try.prog.underlying 66 = some (.map 9 90) := by kernel_rfl
theorem tM66 : MT Try.prog 66 = some (9, 90) := by kernel_rfl
theorem tI69 : TI Try.prog 69 = some (true, 1) := by kernel_rfl
theorem tE69 : EInfo Try.prog 69 = some (1, 24) := by kernel_rfl
theorem tZ69 : ZV Try.prog 69 = some [.slice none 0 0] := by kernel_rfl
theorem tG69 : ZG Try.prog 69 = some (true, [.slice none 0 0]) := by kernel_rfl
theorem tF69_0 : FO Try.prog 69 0 = some 0 := by kernel_rfl
theorem tP69 : PLs Try.prog 69 = some (.st [(0, 1)]) := by kernel_rfl
theorem tI70 : TI Try.prog 70 = some (true, 1) := by kernel_rfl
theorem tE70 : EInfo Try.prog 70 = some (1, 24) := by kernel_rfl
theorem tZ70 : ZV Try.prog 70 = some [.slice none 0 0] := by kernel_rfl
theorem tG70 : ZG Try.prog 70 = some (true, [.slice none 0 0]) := by kernel_rfl
theorem tF70_0 : FO Try.prog 70 0 = some 0 := by kernel_rfl
theorem tP70 : PLs Try.prog 70 = some (.st [(0, 1)]) := by kernel_rfl
theorem tI72 : TI Try.prog 72 = some (false, 1) := by kernel_rfl
theorem tE72 : EInfo Try.prog 72 = some (1, 8) := by kernel_rfl
theorem tZ72 : ZV Try.prog 72 = some [.pointer none] := by kernel_rfl
theorem tG72 : ZG Try.prog 72 = some (false, [.pointer none]) := by kernel_rfl
theorem tU72 : Try.prog.underlying 72 = some (.pointer 70) := by kernel_rfl
theorem tI74 : TI Try.prog 74 = some (true, 2) := by kernel_rfl
theorem tE74 : EInfo Try.prog 74 = some (2, 16) := by kernel_rfl
theorem tZ74 : ZV Try.prog 74 = some [.pointer none, .int .i64 0] := by kernel_rfl
theorem tG74 : ZG Try.prog 74 = some (true, [.pointer none, .int .i64 0]) := by kernel_rfl
theorem tF74_0 : FO Try.prog 74 0 = some 0 := by kernel_rfl
theorem tF74_1 : FO Try.prog 74 1 = some 1 := by kernel_rfl
theorem tP74 : PLs Try.prog 74 = some (.st [(0, 1), (1, 1)]) := by kernel_rfl
theorem tI75 : TI Try.prog 75 = some (true, 2) := by kernel_rfl
theorem tE75 : EInfo Try.prog 75 = some (2, 16) := by kernel_rfl
theorem tZ75 : ZV Try.prog 75 = some [.pointer none, .int .i64 0] := by kernel_rfl
theorem tG75 : ZG Try.prog 75 = some (true, [.pointer none, .int .i64 0]) := by kernel_rfl
theorem tF75_0 : FO Try.prog 75 0 = some 0 := by kernel_rfl
theorem tF75_1 : FO Try.prog 75 1 = some 1 := by kernel_rfl
theorem tP75 : PLs Try.prog 75 = some (.st [(0, 1), (1, 1)]) := by kernel_rfl
theorem tI79 : TI Try.prog 79 = some (true, 3) := by kernel_rfl
theorem tE79 : EInfo Try.prog 79 = some (3, 32) := by kernel_rfl
theorem tZ79 : ZV Try.prog 79 = some [.string ByteArray.empty, .int .i64 0, .int .i64 0] := by kernel_rfl
theorem tG79 : ZG Try.prog 79 = some (true, [.string ByteArray.empty, .int .i64 0, .int .i64 0]) := by kernel_rfl
theorem tF79_0 : FO Try.prog 79 0 = some 0 := by kernel_rfl
theorem tF79_1 : FO Try.prog 79 1 = some 1 := by kernel_rfl
theorem tF79_2 : FO Try.prog 79 2 = some 2 := by kernel_rfl
theorem tP79 : PLs Try.prog 79 = some (.st [(0, 1), (1, 1), (2, 1)]) := by kernel_rfl
theorem tI80 : TI Try.prog 80 = some (true, 3) := by kernel_rfl
theorem tE80 : EInfo Try.prog 80 = some (3, 32) := by kernel_rfl
theorem tZ80 : ZV Try.prog 80 = some [.string ByteArray.empty, .int .i64 0, .int .i64 0] := by kernel_rfl
theorem tG80 : ZG Try.prog 80 = some (true, [.string ByteArray.empty, .int .i64 0, .int .i64 0]) := by kernel_rfl
theorem tF80_0 : FO Try.prog 80 0 = some 0 := by kernel_rfl
theorem tF80_1 : FO Try.prog 80 1 = some 1 := by kernel_rfl
theorem tF80_2 : FO Try.prog 80 2 = some 2 := by kernel_rfl
theorem tP80 : PLs Try.prog 80 = some (.st [(0, 1), (1, 1), (2, 1)]) := by kernel_rfl
theorem tI87 : TI Try.prog 87 = some (false, 1) := by kernel_rfl
theorem tE87 : EInfo Try.prog 87 = some (1, 8) := by kernel_rfl
theorem tZ87 : ZV Try.prog 87 = some [.int .u64 0] := by kernel_rfl
theorem tG87 : ZG Try.prog 87 = some (false, [.int .u64 0]) := by kernel_rfl
theorem tU87 : Try.prog.underlying 87 = some (.int .u64) := by kernel_rfl
theorem tI90 : TI Try.prog 90 = some (false, 1) := by kernel_rfl
theorem tE90 : EInfo Try.prog 90 = some (1, 8) := by kernel_rfl
theorem tZ90 : ZV Try.prog 90 = some [.pointer none] := by kernel_rfl
theorem tG90 : ZG Try.prog 90 = some (false, [.pointer none]) := by kernel_rfl
theorem tU90 : Try.prog.underlying 90 = some (.pointer 38) := by kernel_rfl
theorem tI95 : TI Try.prog 95 = some (false, 1) := by kernel_rfl
theorem tE95 : EInfo Try.prog 95 = some (1, 8) := by kernel_rfl
theorem tZ95 : ZV Try.prog 95 = some [.pointer none] := by kernel_rfl
theorem tG95 : ZG Try.prog 95 = some (false, [.pointer none]) := by kernel_rfl
theorem tU95 : Try.prog.underlying 95 = some (.pointer 75) := by kernel_rfl
theorem tI96 : TI Try.prog 96 = some (false, 1) := by kernel_rfl
theorem tE96 : EInfo Try.prog 96 = some (1, 8) := by kernel_rfl
theorem tZ96 : ZV Try.prog 96 = some [.int .u64 0] := by kernel_rfl
theorem tG96 : ZG Try.prog 96 = some (false, [.int .u64 0]) := by kernel_rfl
theorem tU96 : Try.prog.underlying 96 = some (.int .u64) := by kernel_rfl
theorem tI100 : TI Try.prog 100 = some (false, 1) := by kernel_rfl
theorem tE100 : EInfo Try.prog 100 = some (1, 24) := by kernel_rfl
theorem tZ100 : ZV Try.prog 100 = some [.slice none 0 0] := by kernel_rfl
theorem tG100 : ZG Try.prog 100 = some (false, [.slice none 0 0]) := by kernel_rfl
theorem tL100 : EL Try.prog 100 = some 3 := by kernel_rfl
theorem tI103 : TI Try.prog 103 = some (false, 1) := by kernel_rfl
theorem tE103 : EInfo Try.prog 103 = some (1, 8) := by kernel_rfl
theorem tZ103 : ZV Try.prog 103 = some [.int .i64 0] := by kernel_rfl
theorem tG103 : ZG Try.prog 103 = some (false, [.int .i64 0]) := by kernel_rfl
theorem tU103 : Try.prog.underlying 103 = some (.int .i64) := by kernel_rfl
theorem tI111 : TI Try.prog 111 = some (false, 1) := by kernel_rfl
theorem tE111 : EInfo Try.prog 111 = some (1, 4) := by kernel_rfl
theorem tZ111 : ZV Try.prog 111 = some [.int .u32 0] := by kernel_rfl
theorem tG111 : ZG Try.prog 111 = some (false, [.int .u32 0]) := by kernel_rfl
theorem tU111 : Try.prog.underlying 111 = some (.int .u32) := by kernel_rfl
theorem tI117 : TI Try.prog 117 = some (false, 1) := by kernel_rfl
theorem tE117 : EInfo Try.prog 117 = some (1, 8) := by kernel_rfl
theorem tZ117 : ZV Try.prog 117 = some [.int .u64 0] := by kernel_rfl
theorem tG117 : ZG Try.prog 117 = some (false, [.int .u64 0]) := by kernel_rfl
theorem tU117 : Try.prog.underlying 117 = some (.int .u64) := by kernel_rfl
theorem tI121 : TI Try.prog 121 = some (false, 1) := by kernel_rfl
theorem tE121 : EInfo Try.prog 121 = some (1, 8) := by kernel_rfl
theorem tZ121 : ZV Try.prog 121 = some [.pointer none] := by kernel_rfl
theorem tG121 : ZG Try.prog 121 = some (false, [.pointer none]) := by kernel_rfl
theorem tU121 : Try.prog.underlying 121 = some (.pointer 3) := by kernel_rfl
theorem tI128 : TI Try.prog 128 = some (false, 1) := by kernel_rfl
theorem tE128 : EInfo Try.prog 128 = some (1, 8) := by kernel_rfl
theorem tZ128 : ZV Try.prog 128 = some [.pointer none] := by kernel_rfl
theorem tG128 : ZG Try.prog 128 = some (false, [.pointer none]) := by kernel_rfl
theorem tU128 : Try.prog.underlying 128 = some (.pointer 117) := by kernel_rfl
theorem tI134 : TI Try.prog 134 = some (true, 4) := by kernel_rfl
theorem tE134 : EInfo Try.prog 134 = some (4, 40) := by kernel_rfl
theorem tZ134 : ZV Try.prog 134 = some [.pointer none, .pointer none, .pointer none, .string ByteArray.empty] := by kernel_rfl
theorem tG134 : ZG Try.prog 134 = some (true, [.pointer none, .pointer none, .pointer none, .string ByteArray.empty]) := by kernel_rfl
theorem tF134_0 : FO Try.prog 134 0 = some 0 := by kernel_rfl
theorem tF134_1 : FO Try.prog 134 1 = some 1 := by kernel_rfl
theorem tF134_2 : FO Try.prog 134 2 = some 2 := by kernel_rfl
theorem tF134_3 : FO Try.prog 134 3 = some 3 := by kernel_rfl
theorem tP134 : PLs Try.prog 134 = some (.st [(0, 1), (1, 1), (2, 1), (3, 1)]) := by kernel_rfl
theorem tI142 : TI Try.prog 142 = some (false, 1) := by kernel_rfl
theorem tE142 : EInfo Try.prog 142 = some (1, 8) := by kernel_rfl
theorem tZ142 : ZV Try.prog 142 = some [.pointer none] := by kernel_rfl
theorem tG142 : ZG Try.prog 142 = some (false, [.pointer none]) := by kernel_rfl
theorem tU142 : Try.prog.underlying 142 = some (.pointer 5) := by kernel_rfl
theorem tI145 : TI Try.prog 145 = some (true, 11) := by kernel_rfl
theorem tE145 : EInfo Try.prog 145 = some (11, 48) := by kernel_rfl
theorem tZ145 : ZV Try.prog 145 = some [.int .u64 0, .int .u64 0, .int .u32 0, .int .u8 0, .int .u8 0, .int .u8 0, .int .u8 0, .nilFunc, .pointer none, .int .i32 0, .int .i32 0] := by kernel_rfl
theorem tG145 : ZG Try.prog 145 = some (true, [.int .u64 0, .int .u64 0, .int .u32 0, .int .u8 0, .int .u8 0, .int .u8 0, .int .u8 0, .nilFunc, .pointer none, .int .i32 0, .int .i32 0]) := by kernel_rfl
theorem tF145_0 : FO Try.prog 145 0 = some 0 := by kernel_rfl
theorem tF145_1 : FO Try.prog 145 1 = some 1 := by kernel_rfl
theorem tF145_2 : FO Try.prog 145 2 = some 2 := by kernel_rfl
theorem tF145_3 : FO Try.prog 145 3 = some 3 := by kernel_rfl
theorem tF145_4 : FO Try.prog 145 4 = some 4 := by kernel_rfl
theorem tF145_5 : FO Try.prog 145 5 = some 5 := by kernel_rfl
theorem tF145_6 : FO Try.prog 145 6 = some 6 := by kernel_rfl
theorem tF145_7 : FO Try.prog 145 7 = some 7 := by kernel_rfl
theorem tF145_8 : FO Try.prog 145 8 = some 8 := by kernel_rfl
theorem tF145_9 : FO Try.prog 145 9 = some 9 := by kernel_rfl
theorem tF145_10 : FO Try.prog 145 10 = some 10 := by kernel_rfl
theorem tP145 : PLs Try.prog 145 = some (.st [(0, 1), (1, 1), (2, 1), (3, 1), (4, 1), (5, 1), (6, 1), (7, 1), (8, 1), (9, 1), (10, 1)]) := by kernel_rfl
theorem tI148 : TI Try.prog 148 = some (false, 1) := by kernel_rfl
theorem tE148 : EInfo Try.prog 148 = some (1, 8) := by kernel_rfl
theorem tZ148 : ZV Try.prog 148 = some [.pointer none] := by kernel_rfl
theorem tG148 : ZG Try.prog 148 = some (false, [.pointer none]) := by kernel_rfl
theorem kd9 : Maps.Keyed Try.prog 9 := Maps.string_keyed tU9
attribute [go_sem] tI2 tE2 tZ2 tG2 tU2 tI3 tE3 tZ3 tG3 tU3 tI4 tE4 tZ4 tG4 tU4 tI5 tE5 tZ5 tG5 tU5 tI7 tE7 tZ7 tG7 tF7_0 tF7_1 tF7_2 tF7_3 tP7 tI9 tE9 tZ9 tG9 tU9 tI12 tE12 tZ12 tG12 tU12 tI13 tE13 tZ13 tG13 tF13_0 tF13_1 tP13 tI18 tE18 tZ18 tG18 tF18_0 tP18 tI19 tE19 tZ19 tG19 tF19_0 tP19 tI20 tE20 tZ20 tG20 tI21 tE21 tZ21 tG21 tU21 tI22 tE22 tZ22 tG22 tL22 tI23 tE23 tZ23 tG23 tL23 tI25 tE25 tZ25 tG25 tL25 tI26 tE26 tZ26 tG26 tF26_0 tF26_1 tF26_2 tP26 tI27 tE27 tZ27 tG27 tF27_0 tF27_1 tF27_2 tP27 tI34 tE34 tZ34 tG34 tL34 tI36 tE36 tZ36 tG36 tL36 tI37 tE37 tZ37 tG37 tF37_0 tF37_1 tP37 tI38 tE38 tZ38 tG38 tF38_0 tF38_1 tP38 tI46 tE46 tZ46 tG46 tU46 tI49 tE49 tZ49 tG49 tU49 tI50 tE50 tZ50 tG50 tL50 tI51 tE51 tZ51 tG51 tU51 tI58 tE58 tZ58 tG58 tF58_0 tF58_1 tP58 tI59 tE59 tZ59 tG59 tF59_0 tF59_1 tP59 tI65 tE65 tZ65 tG65 tU65 tM65 tI66 tE66 tZ66 tG66 tU66 tM66 tI69 tE69 tZ69 tG69 tF69_0 tP69 tI70 tE70 tZ70 tG70 tF70_0 tP70 tI72 tE72 tZ72 tG72 tU72 tI74 tE74 tZ74 tG74 tF74_0 tF74_1 tP74 tI75 tE75 tZ75 tG75 tF75_0 tF75_1 tP75 tI79 tE79 tZ79 tG79 tF79_0 tF79_1 tF79_2 tP79 tI80 tE80 tZ80 tG80 tF80_0 tF80_1 tF80_2 tP80 tI87 tE87 tZ87 tG87 tU87 tI90 tE90 tZ90 tG90 tU90 tI95 tE95 tZ95 tG95 tU95 tI96 tE96 tZ96 tG96 tU96 tI100 tE100 tZ100 tG100 tL100 tI103 tE103 tZ103 tG103 tU103 tI111 tE111 tZ111 tG111 tU111 tI117 tE117 tZ117 tG117 tU117 tI121 tE121 tZ121 tG121 tU121 tI128 tE128 tZ128 tG128 tU128 tI134 tE134 tZ134 tG134 tF134_0 tF134_1 tF134_2 tF134_3 tP134 tI142 tE142 tZ142 tG142 tU142 tI145 tE145 tZ145 tG145 tF145_0 tF145_1 tF145_2 tF145_3 tF145_4 tF145_5 tF145_6 tF145_7 tF145_8 tF145_9 tF145_10 tP145 tI148 tE148 tZ148 tG148
end Go.Proofs.Ytegcmciglakicaa
namespace Go.Proofs.Ytegcmciglakicaa
open Go.RowKit Go.Exe
set_option linter.unusedVariables false
set_option linter.unusedSimpArgs false

theorem Try_mo : Try.prog.follows .mixedOrders = true := by kernel_rfl
theorem isNaN_c (n : ByteArray) : PCall Try.prog 62 [ft (.string n)] (ft (.bool false)) := by
  refine PCall.intro (nt := 6) (rs := [.tmp 2]) Try.func62 rfl ⟨by kernel_rfl, by kernel_rfl, by kernel_rfl⟩ (by simp) ?_
  rintro ⟨P, w0, ok0, may, np, pblk⟩ rfl rfl
  repeat' (first
    | (refine W.ret (Post.ret ?_); simp only [go_sem])
    | (refine W.exit ?_; simp only [go_sem])
    | (refine W.skip ?_; simp only [go_sem])
    | refine W.block ?_
    | (refine W.reg rfl ?_; simp only [go_sem])
    | (refine W.regD Try_mo rfl rfl ?_; simp only [go_sem])
    | (refine W.seq fun K hK => ?_)
    | (refine AX.pcall rfl rfl rfl (by solve_by_elim) rfl rfl ?_; simp only [go_sem])
    | (refine AX.pcallF rfl rfl rfl rfl (by solve_by_elim) rfl rfl ?_; simp only [go_sem])
    | refine W.condT rfl ?_
    | refine W.condF rfl ?_
    | refine W.cond rfl (fun h => ?_) (fun h => ?_)
    | (refine hK _ ?_; clear hK K)
    | (clear hK K; refine hK _ ?_; clear hK K)
    | (clear hK K; clear hK K; refine hK _ ?_; clear hK K)
    | (clear hK K; clear hK K; clear hK K; refine hK _ ?_; clear hK K)
    | refine And.intro (by first | rfl | omega | assumption | (simp; omega)) ?_
    | fail)
def cmpB (a b : ByteArray) : Int := if Op.bytesLess a.toList b.toList then -1 else if !(Op.bytesLess a.toList b.toList || a.toList == b.toList) then 1 else 0
theorem compareStrings_c (a b : ByteArray) : PCall Try.prog 36 [ft (.string a), ft (.string b)] (ft (.int .i64 (cmpB a b))) := by
  refine PCall.intro (nt := 13) (rs := [.tmp 4]) Try.func36 rfl ⟨by kernel_rfl, by kernel_rfl, by kernel_rfl⟩ (by simp) ?_
  rintro ⟨P, w0, ok0, may, np, pblk⟩ rfl rfl
  repeat' (first
    | (refine W.ret (Post.ret ?_); simp only [go_sem])
    | (refine W.exit ?_; simp only [go_sem])
    | (refine W.skip ?_; simp only [go_sem])
    | refine W.block ?_
    | (refine W.reg rfl ?_; simp only [go_sem])
    | (refine W.regD Try_mo rfl rfl ?_; simp only [go_sem])
    | (refine W.seq fun K hK => ?_)
    | (refine AX.pcall rfl rfl rfl (by solve_by_elim) rfl rfl ?_; simp only [go_sem])
    | (refine AX.pcallF rfl rfl rfl rfl (by solve_by_elim) rfl rfl ?_; simp only [go_sem])
    | refine W.condT rfl ?_
    | refine W.condF rfl ?_
    | refine W.cond rfl (fun h => ?_) (fun h => ?_)
    | (refine hK _ ?_; clear hK K)
    | (clear hK K; refine hK _ ?_; clear hK K)
    | (clear hK K; clear hK K; refine hK _ ?_; clear hK K)
    | (clear hK K; clear hK K; clear hK K; refine hK _ ?_; clear hK K)
    | refine And.intro (by first | rfl | omega | assumption | (simp; omega)) ?_
    | fail)
  all_goals simp_all [cmpB]
theorem cmpCompare_c (a b : ByteArray) : PCall Try.prog 49 [ft (.string a), ft (.string b)] (ft (.int .i64 (cmpB a b))) := by
  have c1 := isNaN_c
  refine PCall.intro (nt := 20) (rs := [.tmp 4]) Try.func49 rfl ⟨by kernel_rfl, by kernel_rfl, by kernel_rfl⟩ (by simp) ?_
  rintro ⟨P, w0, ok0, may, np, pblk⟩ rfl rfl
  repeat' (first
    | (refine W.ret (Post.ret ?_); simp only [go_sem])
    | (refine W.exit ?_; simp only [go_sem])
    | (refine W.skip ?_; simp only [go_sem])
    | refine W.block ?_
    | (refine W.reg rfl ?_; simp only [go_sem])
    | (refine W.regD Try_mo rfl rfl ?_; simp only [go_sem])
    | (refine W.seq fun K hK => ?_)
    | (refine AX.pcall rfl rfl rfl (by solve_by_elim) rfl rfl ?_; simp only [go_sem])
    | (refine AX.pcallF rfl rfl rfl rfl (by solve_by_elim) rfl rfl ?_; simp only [go_sem])
    | refine W.condT rfl ?_
    | refine W.condF rfl ?_
    | refine W.cond rfl (fun h => ?_) (fun h => ?_)
    | (refine hK _ ?_; clear hK K)
    | (clear hK K; refine hK _ ?_; clear hK K)
    | (clear hK K; clear hK K; refine hK _ ?_; clear hK K)
    | (clear hK K; clear hK K; clear hK K; refine hK _ ?_; clear hK K)
    | refine And.intro (by first | rfl | omega | assumption | (simp; omega)) ?_
    | fail)
  all_goals simp_all [cmpB]
end Go.Proofs.Ytegcmciglakicaa
namespace Go.Proofs.Ytegcmciglakicaa
open Go.RowKit Go.Exe
set_option linter.unusedVariables false
set_option linter.unusedSimpArgs false

inductive Shp where
  | mk (s o : ByteArray) (ks : List Shp)
mutual
def Shp.av : Shp → List AV
  | .mk s o ks => [.flat (.string s), .flat (.string o), .sl 27 (avs ks)]
def avs : List Shp → List (List AV)
  | [] => []
  | x :: r => x.av :: avs r
end
theorem avs_get : ∀ (l : List Shp) (i : Nat), (avs l)[i]? = l[i]?.map Shp.av
  | [], i => by simp [avs]
  | x :: r, 0 => by simp [avs]
  | x :: r, i + 1 => by simp [avs, avs_get r i]
theorem avs_len : ∀ l : List Shp, (avs l).length = l.length
  | [] => rfl
  | x :: r => by simp [avs, avs_len r]
def iA (n : Int) : List AV := [.flat (.int .i64 n)]
def orL : List Int → Int
  | [] => 0
  | x :: r => if x = 0 then orL r else x
def shT (x : Shp) : TV := .g (x.av.map .im)
mutual
def Shp.cmp : Shp → Shp → Int
  | .mk s o ks, .mk s' o' ks' => if orL [cmpB s s', cmpB o o'] ≠ 0 then orL [cmpB s s', cmpB o o'] else cmps ks ks'
def cmps : List Shp → List Shp → Int
  | [], [] => 0
  | [], _ :: _ => -1
  | _ :: _, [] => 1
  | x :: r, y :: q => if x.cmp y ≠ 0 then x.cmp y else cmps r q
end

theorem shcompare_c (cOr : ∀ l : List Int, PCall Try.prog 48 [.c (.im (.sl 3 (l.map iA)))] (ft (.int .i64 (orL l)))) (s o s' o' : ByteArray) (ks ks' : List Shp)
    (c50 : PCall Try.prog 50 [.c (.im (.sl 27 (avs ks))), .c (.im (.sl 27 (avs ks'))), ft (.func (.func 34) #[] #[])] (ft (.int .i64 (cmps ks ks')))) :
    PCall Try.prog 34 [shT (.mk s o ks), shT (.mk s' o' ks')] (ft (.int .i64 (Shp.cmp (.mk s o ks) (.mk s' o' ks')))) := by
  have c1 := cmpCompare_c
  have c2 := cOr [cmpB s s', cmpB o o']
  simp only [List.map, iA] at c2
  simp only [shT, Shp.av, List.map]
  refine PCall.intro (nt := 26) (rs := [.tmp 4]) Try.func34 rfl ⟨by kernel_rfl, by kernel_rfl, by kernel_rfl⟩ (by simp) ?_
  rintro ⟨P, w0, ok0, may, np, pblk⟩ rfl rfl
  repeat' (first
    | (refine W.ret (Post.ret ?_); simp only [go_sem, indepK, apartAllK, apartK, disjK])
    | (refine W.exit ?_; simp only [go_sem])
    | (refine W.skip ?_; simp only [go_sem])
    | refine W.block ?_
    | (refine W.reg rfl ?_; simp only [go_sem, indepK, apartAllK, apartK, disjK])
    | (refine W.regD Try_mo rfl rfl ?_; simp only [go_sem, indepK, apartAllK, apartK, disjK])
    | (refine W.seq fun K hK => ?_)
    | (refine AX.pcall rfl rfl rfl (by solve_by_elim) rfl rfl ?_; simp only [go_sem, indepK, apartAllK, apartK, disjK])
    | (refine AX.pcallF rfl rfl rfl rfl (by solve_by_elim) rfl rfl ?_; simp only [go_sem, indepK, apartAllK, apartK, disjK])
    | refine W.condT rfl ?_
    | refine W.condF rfl ?_
    | refine W.cond rfl (fun h => ?_) (fun h => ?_)
    | (refine hK _ ?_; clear hK K)
    | (clear hK K; refine hK _ ?_; clear hK K)
    | (clear hK K; clear hK K; refine hK _ ?_; clear hK K)
    | (clear hK K; clear hK K; clear hK K; refine hK _ ?_; clear hK K)
    | refine And.intro (by first | rfl | omega | assumption | (simp; omega)) ?_
    | fail)
  all_goals simp_all [Shp.cmp]
end Go.Proofs.Ytegcmciglakicaa
namespace Go.Proofs.Ytegcmciglakicaa
open Go.RowKit Go.Exe
set_option linter.unusedVariables false
set_option linter.unusedSimpArgs false
set_option maxHeartbeats 1000000
set_option maxRecDepth 100000

def cmpsBy (cm : Shp → Shp → Int) : List Shp → List Shp → Int
  | [], [] => 0
  | [], _ :: _ => -1
  | _ :: _, [] => 1
  | x :: r, y :: q => if cm x y ≠ 0 then cm x y else cmpsBy cm r q
theorem shT_mk (s o ks) : shT (.mk s o ks) = .g [.im (.flat (.string s)), .im (.flat (.string o)), .im (.sl 27 (avs ks))] := rfl
theorem compareFunc_c (f : Nat) (cm : Shp → Shp → Int) (xs ys : List Shp) (hf : ∀ x ∈ xs, ∀ y ∈ ys, PCall Try.prog f [shT x, shT y] (ft (.int .i64 (cm x y)))) :
    PCall Try.prog 50 [.c (.im (.sl 27 (avs xs))), .c (.im (.sl 27 (avs ys))), ft (.func (.func f) #[] #[])] (ft (.int .i64 (cmpsBy cm xs ys))) := by
  refine PCall.intro (nt := 39) (rs := [.tmp 6]) Try.func50 rfl ⟨by kernel_rfl, by kernel_rfl, by kernel_rfl⟩ (by simp) ?_
  rintro ⟨P, w0, ok0, may, np, pblk⟩ rfl rfl
  refine W.lenIm 0 rfl fun hlen => ?_
  rw [avs_len, maxLen_is] at hlen
  repeat' (first
    | (refine W.ret (Post.ret ?_); simp only [go_sem, avs_len])
    | (refine W.exit ?_; simp only [go_sem])
    | (refine W.skip ?_; simp only [go_sem])
    | refine W.block ?_
    | (refine W.reg rfl ?_; simp only [go_sem, avs_len])
    | (refine W.regD Try_mo rfl rfl ?_; simp only [go_sem, avs_len])
    | (refine W.seq fun K hK => ?_)
    | (refine AX.pcall rfl rfl rfl (by solve_by_elim) rfl rfl ?_; simp only [go_sem, avs_len])
    | (refine AX.pcallF rfl rfl rfl rfl (by solve_by_elim) rfl rfl ?_; simp only [go_sem, avs_len])
    | refine W.condT rfl ?_
    | refine W.condF rfl ?_
    | refine W.cond rfl (fun h => ?_) (fun h => ?_)
    | (refine hK _ ?_; clear hK K)
    | (clear hK K; refine hK _ ?_; clear hK K)
    | (clear hK K; clear hK K; refine hK _ ?_; clear hK K)
    | (clear hK K; clear hK K; clear hK K; refine hK _ ?_; clear hK K)
    | refine And.intro (by first | rfl | omega | assumption | (simp; omega)) ?_
    | fail)
  refine W.loopF (T := fun i : Nat => { t := [(0, .c (.im (.sl 27 (avs xs)))), (1, .c (.im (.sl 27 (avs ys)))), (2, ft (.func (.func f) #[] #[])), (6, ft (.int .i64 0)), (11, .c (.im (.sl 27 (avs xs)))), (12, ft (.int .i64 xs.length)), (13, ft (.int .i64 (i : Nat)))], h := [], nx := 0, ex := [], nt := 39 })
    (Inv := fun i => i ≤ xs.length ∧ i ≤ ys.length ∧ cmpsBy cm xs ys = cmpsBy cm (xs.drop i) (ys.drop i)) (μ := fun i => xs.length - i) (x0 := 0) (Fits.fit [] [0, 1, 2, 6, 11, 12, 13] 0 rfl rfl ?_) ⟨Nat.zero_le _, Nat.zero_le _, rfl⟩ ?_
  · simp only [go_sem]
    exact Fits.rfl
  rintro i ⟨hi, hi2, hinv⟩ KL hKL
  by_cases hlt : i < xs.length
  · obtain ⟨⟨s, o, ks⟩, hx, hm, hd⟩ := drop_at hlt
    have e1 : decide ((i : Int) < xs.length) = true := by simp; omega
    have hw := w64s i (by omega)
    by_cases hlt2 : i < ys.length
    · obtain ⟨⟨s', o', ks'⟩, hx', hm', hd'⟩ := drop_at hlt2
      have hc := hf _ hm _ hm'
      rw [shT_mk, shT_mk] at hc
      have e2 : decide ((i : Int) ≥ ys.length) = false := by simp; omega
      repeat' (first
        | (refine W.ret (Post.ret ?_); simp only [go_sem, avs_len, avs_get, hx, hx', Shp.av, e1, e2, hw])
        | (refine W.exit ?_; simp only [go_sem])
        | (refine W.skip ?_; simp only [go_sem])
        | refine W.block ?_
        | (refine W.reg rfl ?_; simp only [go_sem, avs_len, avs_get, hx, hx', Shp.av, e1, e2, hw])
        | (refine W.regD Try_mo rfl rfl ?_; simp only [go_sem, avs_len, avs_get, hx, hx', Shp.av, e1, e2, hw])
        | (refine W.seq fun K hK => ?_)
        | (refine AX.pcall rfl rfl rfl (by solve_by_elim) rfl rfl ?_; simp only [go_sem, avs_len, avs_get, hx, hx', Shp.av, e1, e2, hw])
        | (refine AX.pcallF rfl rfl rfl rfl (by solve_by_elim) rfl rfl ?_; simp only [go_sem, avs_len, avs_get, hx, hx', Shp.av, e1, e2, hw])
        | refine W.condT rfl ?_
        | refine W.condF rfl ?_
        | refine W.cond rfl (fun h => ?_) (fun h => ?_)
        | (refine hK _ ?_; clear hK K)
        | (clear hK K; refine hK _ ?_; clear hK K)
        | (clear hK K; clear hK K; refine hK _ ?_; clear hK K)
        | (clear hK K; clear hK K; clear hK K; refine hK _ ?_; clear hK K)
        | refine And.intro (by first | rfl | omega | assumption | (simp; omega)) ?_
        | fail)
      · simp at h
        simp [hinv, hd, hd', cmpsBy, h]
      · refine hKL.to (i + 1) ⟨by omega, by omega, ?_⟩ (by omega) (Fits.fit [] [0, 1, 2, 6, 11, 12, 13] 0 rfl rfl ?_)
        · simp at h
          simp [hinv, hd, hd', cmpsBy, h]
        · simp only [go_sem]
          exact Fits.rfl
    · have e2 : decide ((i : Int) ≥ ys.length) = true := by simp; omega
      repeat' (first
        | (refine W.ret (Post.ret ?_); simp only [go_sem, avs_len, avs_get, hx, Shp.av, e1, e2, hw])
        | (refine W.exit ?_; simp only [go_sem])
        | (refine W.skip ?_; simp only [go_sem])
        | refine W.block ?_
        | (refine W.reg rfl ?_; simp only [go_sem, avs_len, avs_get, hx, Shp.av, e1, e2, hw])
        | (refine W.regD Try_mo rfl rfl ?_; simp only [go_sem, avs_len, avs_get, hx, Shp.av, e1, e2, hw])
        | (refine W.seq fun K hK => ?_)
        | (refine AX.pcall rfl rfl rfl (by solve_by_elim) rfl rfl ?_; simp only [go_sem, avs_len, avs_get, hx, Shp.av, e1, e2, hw])
        | (refine AX.pcallF rfl rfl rfl rfl (by solve_by_elim) rfl rfl ?_; simp only [go_sem, avs_len, avs_get, hx, Shp.av, e1, e2, hw])
        | refine W.condT rfl ?_
        | refine W.condF rfl ?_
        | refine W.cond rfl (fun h => ?_) (fun h => ?_)
        | (refine hK _ ?_; clear hK K)
        | (clear hK K; refine hK _ ?_; clear hK K)
        | (clear hK K; clear hK K; refine hK _ ?_; clear hK K)
        | (clear hK K; clear hK K; clear hK K; refine hK _ ?_; clear hK K)
        | refine And.intro (by first | rfl | omega | assumption | (simp; omega)) ?_
        | fail)
      have : ys.drop i = [] := List.drop_eq_nil_of_le (by omega)
      simp [hinv, hd, this, cmpsBy]
  · have e1 : decide ((i : Int) < xs.length) = false := by simp; omega
    have hd : xs.drop i = [] := List.drop_eq_nil_of_le (by omega)
    clear hKL
    repeat' (first
      | (refine W.ret (Post.ret ?_); simp only [go_sem, avs_len, e1])
      | (refine W.exit ?_; simp only [go_sem])
      | (refine W.skip ?_; simp only [go_sem])
      | refine W.block ?_
      | (refine W.reg rfl ?_; simp only [go_sem, avs_len, e1])
      | (refine W.regD Try_mo rfl rfl ?_; simp only [go_sem, avs_len, e1])
      | (refine W.seq fun K hK => ?_)
      | (refine AX.pcall rfl rfl rfl (by solve_by_elim) rfl rfl ?_; simp only [go_sem, avs_len, e1])
      | (refine AX.pcallF rfl rfl rfl rfl (by solve_by_elim) rfl rfl ?_; simp only [go_sem, avs_len, e1])
      | refine W.condT rfl ?_
      | refine W.condF rfl ?_
      | refine W.cond rfl (fun h => ?_) (fun h => ?_)
      | (refine hK _ ?_; clear hK K)
      | (clear hK K; refine hK _ ?_; clear hK K)
      | (clear hK K; clear hK K; refine hK _ ?_; clear hK K)
      | (clear hK K; clear hK K; clear hK K; refine hK _ ?_; clear hK K)
      | refine And.intro (by first | rfl | omega | assumption | (simp; omega)) ?_
      | fail)
    · obtain ⟨x, r, hd'⟩ : ∃ x r, ys.drop i = x :: r := by
        simp at h
        obtain ⟨x, _, _, h4⟩ := drop_at (show i < ys.length by omega)
        exact ⟨x, _, h4⟩
      simp [hinv, hd, hd', cmpsBy]
    · have : ys.drop i = [] := by simp at h; exact List.drop_eq_nil_of_le (by omega)
      simp [hinv, hd, this, cmpsBy]
theorem cmps_by : ∀ xs ys : List Shp, cmps xs ys = cmpsBy Shp.cmp xs ys
  | [], [] => by simp [cmps, cmpsBy]
  | [], _ :: _ => by simp [cmps, cmpsBy]
  | _ :: _, [] => by simp [cmps, cmpsBy]
  | x :: r, y :: q => by simp [cmps, cmpsBy, cmps_by r q]
theorem shcompare_all (cOr : ∀ l : List Int, PCall Try.prog 48 [.c (.im (.sl 3 (l.map iA)))] (ft (.int .i64 (orL l)))) : ∀ x y : Shp, PCall Try.prog 34 [shT x, shT y] (ft (.int .i64 (x.cmp y)))
  | .mk s o ks, .mk s' o' ks' => by
    refine shcompare_c cOr s o s' o' ks ks' ?_
    rw [cmps_by]
    exact compareFunc_c 34 Shp.cmp ks ks' fun x hx y hy => shcompare_all cOr x y
termination_by x => SizeOf.sizeOf x
decreasing_by
  have := List.sizeOf_lt_of_mem hx
  simp only [Shp.mk.sizeOf_spec]
  omega
end Go.Proofs.Ytegcmciglakicaa
namespace Go.Proofs.Ytegcmciglakicaa
open Go.RowKit Go.Exe
set_option linter.unusedVariables false
set_option linter.unusedSimpArgs false
set_option maxHeartbeats 1000000
set_option maxRecDepth 100000

theorem cmpOr_c (l : List Int) : PCall Try.prog 48 [.c (.im (.sl 3 (l.map iA)))] (ft (.int .i64 (orL l))) := by
  refine PCall.intro (nt := 18) (rs := [.tmp 2]) Try.func48 rfl ⟨by kernel_rfl, by kernel_rfl, by kernel_rfl⟩ (by simp) ?_
  rintro ⟨P, w0, ok0, may, np, pblk⟩ rfl rfl
  refine W.lenIm 0 rfl fun hlen => ?_
  rw [List.length_map, maxLen_is] at hlen
  repeat' (first
    | ((show W _ _ _ _); first | (refine W.seq fun K hK => ?_) | refine W.block ?_ | (refine W.reg rfl ?_; simp only [go_sem, reduceCtorEq, List.length_map]) | (refine W.regD Try_mo rfl rfl ?_; simp only [go_sem, reduceCtorEq, List.length_map]) | (refine W.skip ?_; simp only [go_sem]) | (refine W.exit ?_; simp only [go_sem]) | (refine W.ret (Post.ret ?_); simp only [go_sem, reduceCtorEq, List.length_map]) | refine W.condT rfl ?_ | refine W.condF rfl ?_ | refine W.cond rfl (fun h => ?_) (fun h => ?_))
    | ((show AX _ _ _ _ _); first | (refine AX.pcall rfl rfl (by simp only [go_sem, unim_im]; rfl) (by solve_by_elim) rfl rfl ?_; simp only [go_sem, reduceCtorEq, List.length_map]) | (refine AX.pcallF rfl rfl (by simp only [go_sem, unim_im]; rfl) (by simp only [go_sem, unim_im]; rfl) (by solve_by_elim) rfl rfl ?_; simp only [go_sem, reduceCtorEq, List.length_map]) | (refine AX.lookup rfl (by first | exact tM65 | exact tM66) (by first | exact tG2 | exact tG3 | exact tG4 | exact tG5 | exact tG7 | exact tG9 | exact tG12 | exact tG13 | exact tG18 | exact tG19 | exact tG20 | exact tG21 | exact tG22 | exact tG23 | exact tG25 | exact tG26 | exact tG27 | exact tG34 | exact tG36 | exact tG37 | exact tG38 | exact tG46 | exact tG49 | exact tG50 | exact tG51 | exact tG58 | exact tG59 | exact tG65 | exact tG66 | exact tG69 | exact tG70 | exact tG72 | exact tG74 | exact tG75 | exact tG79 | exact tG80 | exact tG87 | exact tG90 | exact tG95 | exact tG96 | exact tG100 | exact tG103 | exact tG111 | exact tG117 | exact tG121 | exact tG128 | exact tG134 | exact tG142 | exact tG145 | exact tG148) (by first | exact kd9) rfl rfl rfl (by assumption) rfl ?_; simp only [go_sem, reduceCtorEq, List.length_map]) | (refine AX.mapUpdate rfl rfl (by first | exact tM65 | exact tM66) (by first | exact kd9) rfl rfl rfl (by assumption) rfl (by simp only [go_sem, reduceCtorEq, List.length_map]) ?_; simp only [go_sem, reduceCtorEq, List.length_map]) | (refine AX.makeMap rfl (by first | exact tM65 | exact tM66) rfl ?_; simp only [go_sem, reduceCtorEq, List.length_map]) | (refine AX.lenMap rfl (by first | exact tM65 | exact tM66) rfl rfl rfl ?_; simp only [go_sem, reduceCtorEq, List.length_map]) | (refine AX.range rfl (by first | exact tM65 | exact tM66) rfl rfl rfl ?_; simp only [go_sem, reduceCtorEq, List.length_map]) | (refine AX.appendStr rfl (by first | exact tL22 | exact tL23 | exact tL25 | exact tL34 | exact tL36 | exact tL50 | exact tL100) (by simp only [go_sem]) (by simp only [go_sem]) (by simp only [go_sem]) rfl rfl rfl rfl (by simp only [go_sem, reduceCtorEq, List.length_map]; first | omega | (simp; omega)) ?_; simp only [go_sem, reduceCtorEq, List.length_map]) | (refine AX.shr rfl rfl rfl rfl (by first | decide | omega) ?_; simp only [go_sem, reduceCtorEq, List.length_map]) | (refine AX.shl rfl rfl rfl rfl (by first | decide | omega) ?_; simp only [go_sem, reduceCtorEq, List.length_map]) | (refine AX.bits rfl rfl rfl (by assumption) rfl ?_; simp only [go_sem, reduceCtorEq, List.length_map]) | (refine AX.nilSl rfl (by first | exact tL22 | exact tL23 | exact tL25 | exact tL34 | exact tL36 | exact tL50 | exact tL100) (by first | exact .inl rfl | exact .inr rfl) rfl rfl rfl ?_; simp only [go_sem, reduceCtorEq, List.length_map]))
    | ((show indepK _ _ _ _ = true ∧ _); refine And.intro (by kernel_rfl) ?_)
    | ((show _ ∧ _); refine And.intro (by first | omega | assumption | (simp only [go_sem]; omega) | (simp; omega) | (simp; done)) ?_)
    | (refine hK _ ?_; clear hK K)
    | (clear hK K; refine hK _ ?_; clear hK K)
    | (clear hK K; clear hK K; refine hK _ ?_; clear hK K)
    | (clear hK K; clear hK K; clear hK K; refine hK _ ?_; clear hK K)
    | fail)
  refine W.loopF (T := fun i : Nat => { t := [(2, ft (.int .i64 0)), (3, ft (.int .i64 0)), (6, .c (.im (.sl 3 (l.map iA)))), (7, ft (.int .i64 l.length)), (8, ft (.int .i64 (i : Nat)))], h := [], nx := 0, ex := [], nt := 18 })
    (Inv := fun i => i ≤ l.length ∧ orL l = orL (l.drop i)) (μ := fun i => l.length - i) (x0 := 0) (Fits.fit [] [2, 3, 6, 7, 8] 0 rfl rfl ?_) ⟨Nat.zero_le _, rfl⟩ ?_
  · simp only [go_sem]
    exact Fits.rfl
  rintro i ⟨hi, hinv⟩ KL hKL
  by_cases hlt : i < l.length
  · obtain ⟨x, hx, hm, hd⟩ := drop_at hlt
    have e1 : decide ((i : Int) < l.length) = true := by simp; omega
    have hw := w64s i (by omega)
    by_cases h0 : x = 0
    · have e2 : (x != 0) = false := by simp [h0]
      repeat' (first
        | ((show W _ _ _ _); first | (refine W.seq fun K hK => ?_) | refine W.block ?_ | (refine W.reg rfl ?_; simp only [go_sem, reduceCtorEq, e1, e2, hw, List.getElem?_map, hx, iA]) | (refine W.regD Try_mo rfl rfl ?_; simp only [go_sem, reduceCtorEq, e1, e2, hw, List.getElem?_map, hx, iA]) | (refine W.skip ?_; simp only [go_sem]) | (refine W.exit ?_; simp only [go_sem]) | (refine W.ret (Post.ret ?_); simp only [go_sem, reduceCtorEq, e1, e2, hw, List.getElem?_map, hx, iA]) | refine W.condT rfl ?_ | refine W.condF rfl ?_ | refine W.cond rfl (fun h => ?_) (fun h => ?_))
        | ((show AX _ _ _ _ _); first | (refine AX.pcall rfl rfl (by simp only [go_sem, unim_im]; rfl) (by solve_by_elim) rfl rfl ?_; simp only [go_sem, reduceCtorEq, e1, e2, hw, List.getElem?_map, hx, iA]) | (refine AX.pcallF rfl rfl (by simp only [go_sem, unim_im]; rfl) (by simp only [go_sem, unim_im]; rfl) (by solve_by_elim) rfl rfl ?_; simp only [go_sem, reduceCtorEq, e1, e2, hw, List.getElem?_map, hx, iA]) | (refine AX.lookup rfl (by first | exact tM65 | exact tM66) (by first | exact tG2 | exact tG3 | exact tG4 | exact tG5 | exact tG7 | exact tG9 | exact tG12 | exact tG13 | exact tG18 | exact tG19 | exact tG20 | exact tG21 | exact tG22 | exact tG23 | exact tG25 | exact tG26 | exact tG27 | exact tG34 | exact tG36 | exact tG37 | exact tG38 | exact tG46 | exact tG49 | exact tG50 | exact tG51 | exact tG58 | exact tG59 | exact tG65 | exact tG66 | exact tG69 | exact tG70 | exact tG72 | exact tG74 | exact tG75 | exact tG79 | exact tG80 | exact tG87 | exact tG90 | exact tG95 | exact tG96 | exact tG100 | exact tG103 | exact tG111 | exact tG117 | exact tG121 | exact tG128 | exact tG134 | exact tG142 | exact tG145 | exact tG148) (by first | exact kd9) rfl rfl rfl (by assumption) rfl ?_; simp only [go_sem, reduceCtorEq, e1, e2, hw, List.getElem?_map, hx, iA]) | (refine AX.mapUpdate rfl rfl (by first | exact tM65 | exact tM66) (by first | exact kd9) rfl rfl rfl (by assumption) rfl (by simp only [go_sem, reduceCtorEq, e1, e2, hw, List.getElem?_map, hx, iA]) ?_; simp only [go_sem, reduceCtorEq, e1, e2, hw, List.getElem?_map, hx, iA]) | (refine AX.makeMap rfl (by first | exact tM65 | exact tM66) rfl ?_; simp only [go_sem, reduceCtorEq, e1, e2, hw, List.getElem?_map, hx, iA]) | (refine AX.lenMap rfl (by first | exact tM65 | exact tM66) rfl rfl rfl ?_; simp only [go_sem, reduceCtorEq, e1, e2, hw, List.getElem?_map, hx, iA]) | (refine AX.range rfl (by first | exact tM65 | exact tM66) rfl rfl rfl ?_; simp only [go_sem, reduceCtorEq, e1, e2, hw, List.getElem?_map, hx, iA]) | (refine AX.appendStr rfl (by first | exact tL22 | exact tL23 | exact tL25 | exact tL34 | exact tL36 | exact tL50 | exact tL100) (by simp only [go_sem]) (by simp only [go_sem]) (by simp only [go_sem]) rfl rfl rfl rfl (by simp only [go_sem, reduceCtorEq, e1, e2, hw, List.getElem?_map, hx, iA]; first | omega | (simp; omega)) ?_; simp only [go_sem, reduceCtorEq, e1, e2, hw, List.getElem?_map, hx, iA]) | (refine AX.shr rfl rfl rfl rfl (by first | decide | omega) ?_; simp only [go_sem, reduceCtorEq, e1, e2, hw, List.getElem?_map, hx, iA]) | (refine AX.shl rfl rfl rfl rfl (by first | decide | omega) ?_; simp only [go_sem, reduceCtorEq, e1, e2, hw, List.getElem?_map, hx, iA]) | (refine AX.bits rfl rfl rfl (by assumption) rfl ?_; simp only [go_sem, reduceCtorEq, e1, e2, hw, List.getElem?_map, hx, iA]) | (refine AX.nilSl rfl (by first | exact tL22 | exact tL23 | exact tL25 | exact tL34 | exact tL36 | exact tL50 | exact tL100) (by first | exact .inl rfl | exact .inr rfl) rfl rfl rfl ?_; simp only [go_sem, reduceCtorEq, e1, e2, hw, List.getElem?_map, hx, iA]))
        | ((show indepK _ _ _ _ = true ∧ _); refine And.intro (by kernel_rfl) ?_)
        | ((show _ ∧ _); refine And.intro (by first | omega | assumption | (simp only [go_sem]; omega) | (simp; omega) | (simp; done)) ?_)
        | (refine hK _ ?_; clear hK K)
        | (clear hK K; refine hK _ ?_; clear hK K)
        | (clear hK K; clear hK K; refine hK _ ?_; clear hK K)
        | (clear hK K; clear hK K; clear hK K; refine hK _ ?_; clear hK K)
        | fail)
      refine hKL.to (i + 1) ⟨by omega, ?_⟩ (by omega) (Fits.fit [] [2, 3, 6, 7, 8] 0 rfl rfl ?_)
      · rw [hinv, hd]; simp [orL, h0]
      · simp only [go_sem]
        exact Fits.rfl
    · have e2 : (x != 0) = true := by simp [h0]
      repeat' (first
        | ((show W _ _ _ _); first | (refine W.seq fun K hK => ?_) | refine W.block ?_ | (refine W.reg rfl ?_; simp only [go_sem, reduceCtorEq, e1, e2, hw, List.getElem?_map, hx, iA]) | (refine W.regD Try_mo rfl rfl ?_; simp only [go_sem, reduceCtorEq, e1, e2, hw, List.getElem?_map, hx, iA]) | (refine W.skip ?_; simp only [go_sem]) | (refine W.exit ?_; simp only [go_sem]) | (refine W.ret (Post.ret ?_); simp only [go_sem, reduceCtorEq, e1, e2, hw, List.getElem?_map, hx, iA]) | refine W.condT rfl ?_ | refine W.condF rfl ?_ | refine W.cond rfl (fun h => ?_) (fun h => ?_))
        | ((show AX _ _ _ _ _); first | (refine AX.pcall rfl rfl (by simp only [go_sem, unim_im]; rfl) (by solve_by_elim) rfl rfl ?_; simp only [go_sem, reduceCtorEq, e1, e2, hw, List.getElem?_map, hx, iA]) | (refine AX.pcallF rfl rfl (by simp only [go_sem, unim_im]; rfl) (by simp only [go_sem, unim_im]; rfl) (by solve_by_elim) rfl rfl ?_; simp only [go_sem, reduceCtorEq, e1, e2, hw, List.getElem?_map, hx, iA]) | (refine AX.lookup rfl (by first | exact tM65 | exact tM66) (by first | exact tG2 | exact tG3 | exact tG4 | exact tG5 | exact tG7 | exact tG9 | exact tG12 | exact tG13 | exact tG18 | exact tG19 | exact tG20 | exact tG21 | exact tG22 | exact tG23 | exact tG25 | exact tG26 | exact tG27 | exact tG34 | exact tG36 | exact tG37 | exact tG38 | exact tG46 | exact tG49 | exact tG50 | exact tG51 | exact tG58 | exact tG59 | exact tG65 | exact tG66 | exact tG69 | exact tG70 | exact tG72 | exact tG74 | exact tG75 | exact tG79 | exact tG80 | exact tG87 | exact tG90 | exact tG95 | exact tG96 | exact tG100 | exact tG103 | exact tG111 | exact tG117 | exact tG121 | exact tG128 | exact tG134 | exact tG142 | exact tG145 | exact tG148) (by first | exact kd9) rfl rfl rfl (by assumption) rfl ?_; simp only [go_sem, reduceCtorEq, e1, e2, hw, List.getElem?_map, hx, iA]) | (refine AX.mapUpdate rfl rfl (by first | exact tM65 | exact tM66) (by first | exact kd9) rfl rfl rfl (by assumption) rfl (by simp only [go_sem, reduceCtorEq, e1, e2, hw, List.getElem?_map, hx, iA]) ?_; simp only [go_sem, reduceCtorEq, e1, e2, hw, List.getElem?_map, hx, iA]) | (refine AX.makeMap rfl (by first | exact tM65 | exact tM66) rfl ?_; simp only [go_sem, reduceCtorEq, e1, e2, hw, List.getElem?_map, hx, iA]) | (refine AX.lenMap rfl (by first | exact tM65 | exact tM66) rfl rfl rfl ?_; simp only [go_sem, reduceCtorEq, e1, e2, hw, List.getElem?_map, hx, iA]) | (refine AX.range rfl (by first | exact tM65 | exact tM66) rfl rfl rfl ?_; simp only [go_sem, reduceCtorEq, e1, e2, hw, List.getElem?_map, hx, iA]) | (refine AX.appendStr rfl (by first | exact tL22 | exact tL23 | exact tL25 | exact tL34 | exact tL36 | exact tL50 | exact tL100) (by simp only [go_sem]) (by simp only [go_sem]) (by simp only [go_sem]) rfl rfl rfl rfl (by simp only [go_sem, reduceCtorEq, e1, e2, hw, List.getElem?_map, hx, iA]; first | omega | (simp; omega)) ?_; simp only [go_sem, reduceCtorEq, e1, e2, hw, List.getElem?_map, hx, iA]) | (refine AX.shr rfl rfl rfl rfl (by first | decide | omega) ?_; simp only [go_sem, reduceCtorEq, e1, e2, hw, List.getElem?_map, hx, iA]) | (refine AX.shl rfl rfl rfl rfl (by first | decide | omega) ?_; simp only [go_sem, reduceCtorEq, e1, e2, hw, List.getElem?_map, hx, iA]) | (refine AX.bits rfl rfl rfl (by assumption) rfl ?_; simp only [go_sem, reduceCtorEq, e1, e2, hw, List.getElem?_map, hx, iA]) | (refine AX.nilSl rfl (by first | exact tL22 | exact tL23 | exact tL25 | exact tL34 | exact tL36 | exact tL50 | exact tL100) (by first | exact .inl rfl | exact .inr rfl) rfl rfl rfl ?_; simp only [go_sem, reduceCtorEq, e1, e2, hw, List.getElem?_map, hx, iA]))
        | ((show indepK _ _ _ _ = true ∧ _); refine And.intro (by kernel_rfl) ?_)
        | ((show _ ∧ _); refine And.intro (by first | omega | assumption | (simp only [go_sem]; omega) | (simp; omega) | (simp; done)) ?_)
        | (refine hK _ ?_; clear hK K)
        | (clear hK K; refine hK _ ?_; clear hK K)
        | (clear hK K; clear hK K; refine hK _ ?_; clear hK K)
        | (clear hK K; clear hK K; clear hK K; refine hK _ ?_; clear hK K)
        | fail)
      simp [hinv, hd, orL, h0]
  · have e1 : decide ((i : Int) < l.length) = false := by simp; omega
    obtain rfl : i = l.length := by omega
    clear hKL
    repeat' (first
      | ((show W _ _ _ _); first | (refine W.seq fun K hK => ?_) | refine W.block ?_ | (refine W.reg rfl ?_; simp only [go_sem, reduceCtorEq, e1]) | (refine W.regD Try_mo rfl rfl ?_; simp only [go_sem, reduceCtorEq, e1]) | (refine W.skip ?_; simp only [go_sem]) | (refine W.exit ?_; simp only [go_sem]) | (refine W.ret (Post.ret ?_); simp only [go_sem, reduceCtorEq, e1]) | refine W.condT rfl ?_ | refine W.condF rfl ?_ | refine W.cond rfl (fun h => ?_) (fun h => ?_))
      | ((show AX _ _ _ _ _); first | (refine AX.pcall rfl rfl (by simp only [go_sem, unim_im]; rfl) (by solve_by_elim) rfl rfl ?_; simp only [go_sem, reduceCtorEq, e1]) | (refine AX.pcallF rfl rfl (by simp only [go_sem, unim_im]; rfl) (by simp only [go_sem, unim_im]; rfl) (by solve_by_elim) rfl rfl ?_; simp only [go_sem, reduceCtorEq, e1]) | (refine AX.lookup rfl (by first | exact tM65 | exact tM66) (by first | exact tG2 | exact tG3 | exact tG4 | exact tG5 | exact tG7 | exact tG9 | exact tG12 | exact tG13 | exact tG18 | exact tG19 | exact tG20 | exact tG21 | exact tG22 | exact tG23 | exact tG25 | exact tG26 | exact tG27 | exact tG34 | exact tG36 | exact tG37 | exact tG38 | exact tG46 | exact tG49 | exact tG50 | exact tG51 | exact tG58 | exact tG59 | exact tG65 | exact tG66 | exact tG69 | exact tG70 | exact tG72 | exact tG74 | exact tG75 | exact tG79 | exact tG80 | exact tG87 | exact tG90 | exact tG95 | exact tG96 | exact tG100 | exact tG103 | exact tG111 | exact tG117 | exact tG121 | exact tG128 | exact tG134 | exact tG142 | exact tG145 | exact tG148) (by first | exact kd9) rfl rfl rfl (by assumption) rfl ?_; simp only [go_sem, reduceCtorEq, e1]) | (refine AX.mapUpdate rfl rfl (by first | exact tM65 | exact tM66) (by first | exact kd9) rfl rfl rfl (by assumption) rfl (by simp only [go_sem, reduceCtorEq, e1]) ?_; simp only [go_sem, reduceCtorEq, e1]) | (refine AX.makeMap rfl (by first | exact tM65 | exact tM66) rfl ?_; simp only [go_sem, reduceCtorEq, e1]) | (refine AX.lenMap rfl (by first | exact tM65 | exact tM66) rfl rfl rfl ?_; simp only [go_sem, reduceCtorEq, e1]) | (refine AX.range rfl (by first | exact tM65 | exact tM66) rfl rfl rfl ?_; simp only [go_sem, reduceCtorEq, e1]) | (refine AX.appendStr rfl (by first | exact tL22 | exact tL23 | exact tL25 | exact tL34 | exact tL36 | exact tL50 | exact tL100) (by simp only [go_sem]) (by simp only [go_sem]) (by simp only [go_sem]) rfl rfl rfl rfl (by simp only [go_sem, reduceCtorEq, e1]; first | omega | (simp; omega)) ?_; simp only [go_sem, reduceCtorEq, e1]) | (refine AX.shr rfl rfl rfl rfl (by first | decide | omega) ?_; simp only [go_sem, reduceCtorEq, e1]) | (refine AX.shl rfl rfl rfl rfl (by first | decide | omega) ?_; simp only [go_sem, reduceCtorEq, e1]) | (refine AX.bits rfl rfl rfl (by assumption) rfl ?_; simp only [go_sem, reduceCtorEq, e1]) | (refine AX.nilSl rfl (by first | exact tL22 | exact tL23 | exact tL25 | exact tL34 | exact tL36 | exact tL50 | exact tL100) (by first | exact .inl rfl | exact .inr rfl) rfl rfl rfl ?_; simp only [go_sem, reduceCtorEq, e1]))
      | ((show indepK _ _ _ _ = true ∧ _); refine And.intro (by kernel_rfl) ?_)
      | ((show _ ∧ _); refine And.intro (by first | omega | assumption | (simp only [go_sem]; omega) | (simp; omega) | (simp; done)) ?_)
      | (refine hK _ ?_; clear hK K)
      | (clear hK K; refine hK _ ?_; clear hK K)
      | (clear hK K; clear hK K; refine hK _ ?_; clear hK K)
      | (clear hK K; clear hK K; clear hK K; refine hK _ ?_; clear hK K)
      | fail)
    simp [hinv, orL]
end Go.Proofs.Ytegcmciglakicaa
namespace Go.Proofs.Ytegcmciglakicaa
open Go.RowKit Go.Exe
set_option linter.unusedVariables false
set_option linter.unusedSimpArgs false
set_option maxHeartbeats 1000000
set_option maxRecDepth 100000

instance : Inhabited Shp := ⟨.mk .empty .empty []⟩
def ins1 (x : Shp) : List Shp → List Shp
  | [] => [x]
  | y :: r => if x.cmp y < 0 then x :: y :: r else y :: ins1 x r
def srt : List Shp → List Shp
  | [] => []
  | x :: r => ins1 x (srt r)
mutual
def Shp.canon : Shp → Shp
  | .mk s o ks => .mk s o (srt (canons ks))
def canons : List Shp → List Shp
  | [] => []
  | x :: r => x.canon :: canons r
end
theorem avs_map : ∀ l : List Shp, avs l = l.map Shp.av
  | [] => rfl
  | x :: r => by simp [avs, avs_map r]
theorem canons_map : ∀ l : List Shp, canons l = l.map Shp.canon
  | [] => rfl
  | x :: r => by simp [canons, canons_map r]
theorem canonical_c (c35 : SortC Try.prog 35 3) (c34 : ∀ x y : Shp, PCall Try.prog 34 [shT x, shT y] (ft (.int .i64 (x.cmp y))))
    (hord : ∀ l, OrdOn Shp.cmp l) (hperm : ∀ l, (srt l).Perm l) (huni : ∀ l zs' : List Shp, zs'.Perm l → zs'.Pairwise (fun a b => ¬ Shp.cmp b a < 0) → zs' = srt l)
    (s o : ByteArray) (ks : List Shp) (ih : ∀ x ∈ ks, PCall Try.prog 12 [shT x] (shT x.canon)) :
    PCall Try.prog 12 [shT (.mk s o ks)] (shT (Shp.canon (.mk s o ks))) := by
  simp only [shT, Shp.av, List.map, Shp.canon]
  refine PCall.intro (nt := 30) (rs := [.cell 2 27]) Try.func12 rfl ⟨by kernel_rfl, by kernel_rfl, by kernel_rfl⟩ (by simp) ?_
  rintro ⟨P, w0, ok0, may, np, pblk⟩ rfl rfl
  repeat' (first
    | (refine W.ret (Post.ret ?_); simp only [go_sem, avs_len])
    | (refine W.exit ?_; simp only [go_sem])
    | (refine W.skip ?_; simp only [go_sem])
    | refine W.block ?_
    | (refine W.reg rfl ?_; simp only [go_sem, avs_len])
    | (refine W.regD Try_mo rfl rfl ?_; simp only [go_sem, avs_len])
    | (refine W.seq fun K hK => ?_)
    | (refine AX.pcall rfl rfl rfl (by solve_by_elim) rfl rfl ?_; simp only [go_sem, avs_len])
    | (refine AX.pcallF rfl rfl rfl rfl (by solve_by_elim) rfl rfl ?_; simp only [go_sem, avs_len])
    | refine W.condT rfl ?_
    | refine W.condF rfl ?_
    | refine W.cond rfl (fun h => ?_) (fun h => ?_)
    | (refine hK _ ?_; clear hK K)
    | (clear hK K; refine hK _ ?_; clear hK K)
    | (clear hK K; clear hK K; refine hK _ ?_; clear hK K)
    | (clear hK K; clear hK K; clear hK K; refine hK _ ?_; clear hK K)
    | refine And.intro (by first | rfl | omega | assumption | (simp; omega)) ?_
    | fail)
  refine W.lenB 12 rfl tE27 fun hlen hbytes => ?_
  rw [avs_len] at hbytes
  rw [avs_len, maxLen_is] at hlen
  refine W.loopF (T := fun i : Nat => { t := [(2, .c (.ptr 0 0)), (3, .c (.ptr 1 0)), (12, .c (.im (.sl 27 (avs ks)))), (13, ft (.int .i64 ks.length)), (14, ft (.int .i64 (i : Nat)))], h := [(0, .box 27 [fl (.string .empty), fl (.string .empty), fl (.slice none 0 0)]), (1, .box 27 [fl (.string s), fl (.string o), .ref 2]), (2, .row 27 (imR (((ks.take i).map Shp.canon).map Shp.av)))], nx := 3, ex := [], nt := 30 })
    (Inv := fun i => i ≤ ks.length) (μ := fun i => ks.length - i) (x0 := 0) (Fits.fit [(1, 0), (7, 1)] [2, 3, 12, 13, 14] 2 rfl rfl ?_) (Nat.zero_le _) ?_
  · simp only [go_sem]
    refine Fits.adoptB 1 27 _ 2 2 27 rfl rfl rfl rfl tE27 rfl ?_
    refine Fits.fit [(0, 0), (1, 1), (2, 2)] [2, 3, 12, 13, 14] 3 rfl rfl ?_
    simp only [go_sem]
    exact Fits.rfl
  intro i hi KL hKL
  by_cases hlt : i < ks.length
  · obtain ⟨⟨s', o', ks'⟩, hx, hm, hd⟩ := drop_at hlt
    have e1 : decide ((i : Int) < ks.length) = true := by simp; omega
    have hw := w64s i (by omega)
    have hc := ih _ hm
    simp only [shT_mk, Shp.canon] at hc
    repeat' (first
      | (refine W.ret (Post.ret ?_); simp only [go_sem, avs_get, hx, Shp.av, e1, hw])
      | (refine W.exit ?_; simp only [go_sem])
      | (refine W.skip ?_; simp only [go_sem])
      | refine W.block ?_
      | (refine W.reg rfl ?_; simp only [go_sem, avs_get, hx, Shp.av, e1, hw])
      | (refine W.regD Try_mo rfl rfl ?_; simp only [go_sem, avs_get, hx, Shp.av, e1, hw])
      | (refine W.seq fun K hK => ?_)
      | (refine AX.pcall rfl rfl rfl (by solve_by_elim) rfl rfl ?_; simp only [go_sem, avs_get, hx, Shp.av, e1, hw])
      | (refine AX.pcallF rfl rfl rfl rfl (by solve_by_elim) rfl rfl ?_; simp only [go_sem, avs_get, hx, Shp.av, e1, hw])
      | refine W.condT rfl ?_
      | refine W.condF rfl ?_
      | refine W.cond rfl (fun h => ?_) (fun h => ?_)
      | (refine hK _ ?_; clear hK K)
      | (clear hK K; refine hK _ ?_; clear hK K)
      | (clear hK K; clear hK K; refine hK _ ?_; clear hK K)
      | (clear hK K; clear hK K; clear hK K; refine hK _ ?_; clear hK K)
      | refine And.intro (by first | rfl | omega | assumption | (simp; omega)) ?_
      | fail)
    refine hKL.to (i + 1) (by omega) (by omega) (Fits.fit [(0, 0), (1, 1), (13, 2)] [2, 3, 12, 13, 14] 3 rfl rfl ?_)
    simp only [go_sem, take_at hx, List.map_append, imR_app, imR_one, imL, Shp.canon, Shp.av]
    exact Fits.rfl
  · have e1 : decide ((i : Int) < ks.length) = false := by simp; omega
    have hi2 : i = ks.length := by omega
    subst hi2
    clear hKL
    repeat' (first
      | (refine W.ret (Post.ret ?_); simp only [go_sem, e1])
      | (refine W.exit ?_; simp only [go_sem])
      | (refine W.skip ?_; simp only [go_sem])
      | refine W.block ?_
      | (refine W.reg rfl ?_; simp only [go_sem, e1])
      | (refine W.regD Try_mo rfl rfl ?_; simp only [go_sem, e1])
      | (refine W.seq fun K hK => ?_)
      | (refine AX.pcall rfl rfl rfl (by solve_by_elim) rfl rfl ?_; simp only [go_sem, e1])
      | (refine AX.pcallF rfl rfl rfl rfl (by solve_by_elim) rfl rfl ?_; simp only [go_sem, e1])
      | refine W.condT rfl ?_
      | refine W.condF rfl ?_
      | refine W.cond rfl (fun h => ?_) (fun h => ?_)
      | (refine hK _ ?_; clear hK K)
      | (clear hK K; refine hK _ ?_; clear hK K)
      | (clear hK K; clear hK K; refine hK _ ?_; clear hK K)
      | (clear hK K; clear hK K; clear hK K; refine hK _ ?_; clear hK K)
      | refine And.intro (by first | rfl | omega | assumption | (simp; omega)) ?_
      | fail)
    refine AX.sort Shp.av rfl rfl rfl rfl rfl rfl tE27 (by decide) c35 (fun x _ y _ => c34 x y) (hord _) (hperm _) (huni _) rfl ?_
    simp only [go_sem]
    repeat' (first
      | (refine W.ret (Post.ret ?_); simp only [go_sem])
      | (refine W.exit ?_; simp only [go_sem])
      | (refine W.skip ?_; simp only [go_sem])
      | refine W.block ?_
      | (refine W.reg rfl ?_; simp only [go_sem])
      | (refine W.regD Try_mo rfl rfl ?_; simp only [go_sem])
      | (refine W.seq fun K hK => ?_)
      | (refine AX.pcall rfl rfl rfl (by solve_by_elim) rfl rfl ?_; simp only [go_sem])
      | (refine AX.pcallF rfl rfl rfl rfl (by solve_by_elim) rfl rfl ?_; simp only [go_sem])
      | refine W.condT rfl ?_
      | refine W.condF rfl ?_
      | refine W.cond rfl (fun h => ?_) (fun h => ?_)
      | (refine hK _ ?_; clear hK K)
      | (clear hK K; refine hK _ ?_; clear hK K)
      | (clear hK K; clear hK K; refine hK _ ?_; clear hK K)
      | (clear hK K; clear hK K; clear hK K; refine hK _ ?_; clear hK K)
      | refine And.intro (by first | rfl | omega | assumption | (simp; omega)) ?_
      | fail)
    simp [avs_map, canons_map]
end Go.Proofs.Ytegcmciglakicaa
namespace Go.Proofs.Ytegcmciglakicaa
open Go.RowKit Go.Exe
set_option linter.unusedVariables false
set_option linter.unusedSimpArgs false
set_option maxHeartbeats 1000000
set_option maxRecDepth 100000

theorem leaf_c (s : ByteArray) : PCall Try.prog 32 [ft (.string s)] (shT (.mk s ⟨#[103, 101, 116]⟩ [])) := by
  refine PCall.conv (args' := [ft (.string s)]) (r' := .g [fl (.string s), fl (.string ⟨#[103, 101, 116]⟩), fl (.slice none 0 0)]) ?_ (Al.refl (fun _ => TLe.rfl) _) (TLe.g (Al.cons CLe.rfl (Al.cons CLe.rfl (Al.cons CLe.nil Al.nil))))
  refine PCall.intro (nt := 5) (rs := [.cell 2 27]) Try.func32 rfl ⟨by kernel_rfl, by kernel_rfl, by kernel_rfl⟩ (by simp) ?_
  rintro ⟨P, w0, ok0, may, np, pblk⟩ rfl rfl
  repeat' (first
    | (refine W.ret (Post.ret ?_); simp only [go_sem])
    | (refine W.exit ?_; simp only [go_sem])
    | (refine W.skip ?_; simp only [go_sem])
    | refine W.block ?_
    | (refine W.reg rfl ?_; simp only [go_sem])
    | (refine W.regD Try_mo rfl rfl ?_; simp only [go_sem])
    | (refine W.seq fun K hK => ?_)
    | (refine AX.pcall rfl rfl rfl (by solve_by_elim) rfl rfl ?_; simp only [go_sem])
    | (refine AX.pcallF rfl rfl rfl rfl (by solve_by_elim) rfl rfl ?_; simp only [go_sem])
    | refine W.condT rfl ?_
    | refine W.condF rfl ?_
    | refine W.cond rfl (fun h => ?_) (fun h => ?_)
    | (refine hK _ ?_; clear hK K)
    | (clear hK K; refine hK _ ?_; clear hK K)
    | (clear hK K; clear hK K; refine hK _ ?_; clear hK K)
    | (clear hK K; clear hK K; clear hK K; refine hK _ ?_; clear hK K)
    | refine And.intro (by first | rfl | omega | assumption | (simp; omega)) ?_
    | fail)
mutual
def Shp.size : Shp → Nat
  | .mk _ _ ks => 1 + sizes ks
def sizes : List Shp → Nat
  | [] => 0
  | x :: r => x.size + sizes r
end
mutual
def Shp.depth : Shp → Nat
  | .mk _ _ ks => depths ks + 1
def depths : List Shp → Nat
  | [] => 0
  | x :: r => max x.depth (depths r)
end
theorem sizes_app (a b : List Shp) : sizes (a ++ b) = sizes a + sizes b := by
  induction a with
  | nil => simp [sizes]
  | cons x r ih => simp [sizes, ih]; omega
theorem sizes_take (l : List Shp) (i : Nat) : sizes (l.take i) ≤ sizes l := by
  conv => rhs; rw [← List.take_append_drop i l, sizes_app]
  omega
theorem sizes_at {l : List Shp} {i : Nat} {x : Shp} (h : l[i]? = some x) : sizes (l.take (i + 1)) = sizes (l.take i) + x.size := by
  rw [take_at h, sizes_app]; simp [sizes]
theorem sizes_mem {l : List Shp} {x : Shp} (h : x ∈ l) : x.size ≤ sizes l := by
  induction l with
  | nil => cases h
  | cons y r ih =>
    simp only [sizes]
    rcases List.mem_cons.1 h with rfl | h
    · omega
    · have := ih h; omega
theorem Size_c (s o : ByteArray) (ks : List Shp) (hsz : (Shp.mk s o ks).size ≤ 9223372036854775807) (ih : ∀ x ∈ ks, PCall Try.prog 16 [shT x] (ft (.int .i64 x.size))) :
    PCall Try.prog 16 [shT (.mk s o ks)] (ft (.int .i64 (Shp.mk s o ks).size)) := by
  simp only [Shp.size] at hsz
  simp only [shT, Shp.av, List.map, Shp.size]
  refine PCall.intro (nt := 19) (rs := [.tmp 2]) Try.func16 rfl ⟨by kernel_rfl, by kernel_rfl, by kernel_rfl⟩ (by simp) ?_
  rintro ⟨P, w0, ok0, may, np, pblk⟩ rfl rfl
  repeat' (first
    | (refine W.ret (Post.ret ?_); simp only [go_sem, avs_len])
    | (refine W.exit ?_; simp only [go_sem])
    | (refine W.skip ?_; simp only [go_sem])
    | refine W.block ?_
    | (refine W.reg rfl ?_; simp only [go_sem, avs_len])
    | (refine W.regD Try_mo rfl rfl ?_; simp only [go_sem, avs_len])
    | (refine W.seq fun K hK => ?_)
    | (refine AX.pcall rfl rfl rfl (by solve_by_elim) rfl rfl ?_; simp only [go_sem, avs_len])
    | (refine AX.pcallF rfl rfl rfl rfl (by solve_by_elim) rfl rfl ?_; simp only [go_sem, avs_len])
    | refine W.condT rfl ?_
    | refine W.condF rfl ?_
    | refine W.cond rfl (fun h => ?_) (fun h => ?_)
    | (refine hK _ ?_; clear hK K)
    | (clear hK K; refine hK _ ?_; clear hK K)
    | (clear hK K; clear hK K; refine hK _ ?_; clear hK K)
    | (clear hK K; clear hK K; clear hK K; refine hK _ ?_; clear hK K)
    | refine And.intro (by first | rfl | omega | assumption | (simp; omega)) ?_
    | fail)
  refine W.lenB 7 rfl tE27 fun hlen hbytes => ?_
  rw [avs_len, maxLen_is] at hlen
  refine W.loopF (T := fun i : Nat => { t := [(3, ft (.int .i64 ((1 + sizes (ks.take i) : Nat) : Int))), (7, .c (.im (.sl 27 (avs ks)))), (8, ft (.int .i64 ks.length)), (9, ft (.int .i64 (i : Nat)))], h := [], nx := 0, ex := [], nt := 19 })
    (Inv := fun i => i ≤ ks.length) (μ := fun i => ks.length - i) (x0 := 0) (Fits.fit [] [3, 7, 8, 9] 0 rfl rfl ?_) (Nat.zero_le _) ?_
  · simp only [go_sem]
    exact Fits.rfl
  intro i hi KL hKL
  by_cases hlt : i < ks.length
  · obtain ⟨⟨s', o', ks'⟩, hx, hm, hd⟩ := drop_at hlt
    have e1 : decide ((i : Int) < ks.length) = true := by simp; omega
    have hw := w64s i (by omega)
    have hc := ih _ hm
    have h1 := sizes_at hx
    have h2 := sizes_take ks (i + 1)
    have hw2 : IntKind.i64.wrap (((1 + sizes (ks.take i) : Nat) : Int) + ((Shp.mk s' o' ks').size : Nat)) = ((1 + sizes (ks.take (i + 1)) : Nat) : Int) := by
      rw [w64 (by omega) (by omega), h1]; omega
    simp only [shT_mk] at hc
    repeat' (first
      | (refine W.ret (Post.ret ?_); simp only [go_sem, avs_get, hx, Shp.av, e1, hw, hw2])
      | (refine W.exit ?_; simp only [go_sem])
      | (refine W.skip ?_; simp only [go_sem])
      | refine W.block ?_
      | (refine W.reg rfl ?_; simp only [go_sem, avs_get, hx, Shp.av, e1, hw, hw2])
      | (refine W.regD Try_mo rfl rfl ?_; simp only [go_sem, avs_get, hx, Shp.av, e1, hw, hw2])
      | (refine W.seq fun K hK => ?_)
      | (refine AX.pcall rfl rfl rfl (by solve_by_elim) rfl rfl ?_; simp only [go_sem, avs_get, hx, Shp.av, e1, hw, hw2])
      | (refine AX.pcallF rfl rfl rfl rfl (by solve_by_elim) rfl rfl ?_; simp only [go_sem, avs_get, hx, Shp.av, e1, hw, hw2])
      | refine W.condT rfl ?_
      | refine W.condF rfl ?_
      | refine W.cond rfl (fun h => ?_) (fun h => ?_)
      | (refine hK _ ?_; clear hK K)
      | (clear hK K; refine hK _ ?_; clear hK K)
      | (clear hK K; clear hK K; refine hK _ ?_; clear hK K)
      | (clear hK K; clear hK K; clear hK K; refine hK _ ?_; clear hK K)
      | refine And.intro (by first | rfl | omega | assumption | (simp; omega)) ?_
      | fail)
    refine hKL.to (i + 1) (by omega) (by omega) (Fits.fit [] [3, 7, 8, 9] 0 rfl rfl ?_)
    simp only [go_sem]
    exact Fits.rfl
  · have e1 : decide ((i : Int) < ks.length) = false := by simp; omega
    have hi2 : i = ks.length := by omega
    subst hi2
    clear hKL
    repeat' (first
      | (refine W.ret (Post.ret ?_); simp only [go_sem, e1])
      | (refine W.exit ?_; simp only [go_sem])
      | (refine W.skip ?_; simp only [go_sem])
      | refine W.block ?_
      | (refine W.reg rfl ?_; simp only [go_sem, e1])
      | (refine W.regD Try_mo rfl rfl ?_; simp only [go_sem, e1])
      | (refine W.seq fun K hK => ?_)
      | (refine AX.pcall rfl rfl rfl (by solve_by_elim) rfl rfl ?_; simp only [go_sem, e1])
      | (refine AX.pcallF rfl rfl rfl rfl (by solve_by_elim) rfl rfl ?_; simp only [go_sem, e1])
      | refine W.condT rfl ?_
      | refine W.condF rfl ?_
      | refine W.cond rfl (fun h => ?_) (fun h => ?_)
      | (refine hK _ ?_; clear hK K)
      | (clear hK K; refine hK _ ?_; clear hK K)
      | (clear hK K; clear hK K; refine hK _ ?_; clear hK K)
      | (clear hK K; clear hK K; clear hK K; refine hK _ ?_; clear hK K)
      | refine And.intro (by first | rfl | omega | assumption | (simp; omega)) ?_
      | fail)
    simp
end Go.Proofs.Ytegcmciglakicaa
namespace Go.Proofs.Ytegcmciglakicaa
open Go.RowKit Go.Exe
set_option linter.unusedVariables false
set_option linter.unusedSimpArgs false
set_option maxHeartbeats 1000000
set_option maxRecDepth 100000

theorem size_pos (x : Shp) : 1 ≤ x.size := by cases x; simp [Shp.size]
theorem sizes_len (l : List Shp) : l.length ≤ sizes l := by
  induction l with
  | nil => simp
  | cons x r ih => have := size_pos x; simp [sizes]; omega
theorem depths_app (a b : List Shp) : depths (a ++ b) = max (depths a) (depths b) := by
  induction a with
  | nil => simp [depths]
  | cons x r ih => simp [depths, ih, Nat.max_assoc]
theorem depths_at {l : List Shp} {i : Nat} {x : Shp} (h : l[i]? = some x) : depths (l.take (i + 1)) = max (depths (l.take i)) x.depth := by
  rw [take_at h, depths_app]; simp [depths]
mutual
theorem depth_le : ∀ x : Shp, x.depth ≤ x.size
  | .mk s o ks => by have := depths_le ks; simp [Shp.size, Shp.depth]; omega
theorem depths_le : ∀ l : List Shp, depths l ≤ sizes l
  | [] => by simp [depths]
  | x :: r => by have := depth_le x; have := depths_le r; simp [depths, sizes]; omega
end
theorem max_if (a b : Nat) : (if (b : Int) > (a : Int) then (b : Int) else (a : Int)) = ((max a b : Nat) : Int) := by
  split <;> omega

theorem size_c (s o : ByteArray) (ks : List Shp) (hsz : (Shp.mk s o ks).size ≤ 9223372036854775807) (ih : ∀ x ∈ ks, PCall Try.prog 17 [shT x] (ft (.int .i64 x.size))) :
    PCall Try.prog 17 [shT (.mk s o ks)] (ft (.int .i64 (Shp.mk s o ks).size)) := by
  simp only [Shp.size] at hsz
  have hb : ks.length ≤ sizes ks := sizes_len ks
  simp only [shT, Shp.av, List.map, Shp.size]
  refine PCall.intro (nt := 21) (rs := [.tmp 2]) Try.func17 rfl ⟨by kernel_rfl, by kernel_rfl, by kernel_rfl⟩ (by simp) ?_
  rintro ⟨P, w0, ok0, may, np, pblk⟩ rfl rfl
  repeat' (first
    | (refine W.ret (Post.ret ?_); simp only [go_sem, avs_len])
    | (refine W.exit ?_; simp only [go_sem])
    | (refine W.skip ?_; simp only [go_sem])
    | refine W.block ?_
    | (refine W.reg rfl ?_; simp only [go_sem, avs_len])
    | (refine W.regD Try_mo rfl rfl ?_; simp only [go_sem, avs_len])
    | (refine W.seq fun K hK => ?_)
    | (refine AX.pcall rfl rfl rfl (by solve_by_elim) rfl rfl ?_; simp only [go_sem, avs_len])
    | (refine AX.pcallF rfl rfl rfl rfl (by solve_by_elim) rfl rfl ?_; simp only [go_sem, avs_len])
    | refine W.condT rfl ?_
    | refine W.condF rfl ?_
    | refine W.cond rfl (fun h => ?_) (fun h => ?_)
    | (refine hK _ ?_; clear hK K)
    | (clear hK K; refine hK _ ?_; clear hK K)
    | (clear hK K; clear hK K; refine hK _ ?_; clear hK K)
    | (clear hK K; clear hK K; clear hK K; refine hK _ ?_; clear hK K)
    | refine And.intro (by first | rfl | omega | assumption | (simp; omega)) ?_
    | fail)
  refine W.loopF (T := fun i : Nat => { t := [(1, .c (.ptr 0 0)), (3, ft (.int .i64 ((1 + sizes (ks.take i) : Nat) : Int))), (4, ft (.int .i64 (i : Nat)))], h := [(0, .box 27 [fl (.string s), fl (.string o), .im (.sl 27 (avs ks))])], nx := 1, ex := [], nt := 21 })
    (Inv := fun i => i ≤ ks.length) (μ := fun i => ks.length - i) (x0 := 0) (Fits.fit [(0, 0)] [1, 3, 4] 1 rfl rfl ?_) (Nat.zero_le _) ?_
  · simp only [go_sem]
    exact Fits.rfl
  intro i hi KL hKL
  by_cases hlt : i < ks.length
  · obtain ⟨⟨s', o', ks'⟩, hx, hm, hd⟩ := drop_at hlt
    have e1 : decide ((i : Int) < ks.length) = true := by simp; omega
    have hw := w64s i (by omega)
    have hc := ih _ hm
    have h1 := sizes_at hx
    have h2 := sizes_take ks (i + 1)
    have hw2 : IntKind.i64.wrap (((1 + sizes (ks.take i) : Nat) : Int) + ((Shp.mk s' o' ks').size : Nat)) = ((1 + sizes (ks.take (i + 1)) : Nat) : Int) := by
      rw [w64 (by omega) (by omega), h1]; omega
    simp only [shT_mk] at hc
    repeat' (first
      | (refine W.ret (Post.ret ?_); simp only [go_sem, avs_len, avs_get, hx, Shp.av, e1, hw, hw2])
      | (refine W.exit ?_; simp only [go_sem])
      | (refine W.skip ?_; simp only [go_sem])
      | refine W.block ?_
      | (refine W.reg rfl ?_; simp only [go_sem, avs_len, avs_get, hx, Shp.av, e1, hw, hw2])
      | (refine W.regD Try_mo rfl rfl ?_; simp only [go_sem, avs_len, avs_get, hx, Shp.av, e1, hw, hw2])
      | (refine W.seq fun K hK => ?_)
      | (refine AX.pcall rfl rfl rfl (by solve_by_elim) rfl rfl ?_; simp only [go_sem, avs_len, avs_get, hx, Shp.av, e1, hw, hw2])
      | (refine AX.pcallF rfl rfl rfl rfl (by solve_by_elim) rfl rfl ?_; simp only [go_sem, avs_len, avs_get, hx, Shp.av, e1, hw, hw2])
      | refine W.condT rfl ?_
      | refine W.condF rfl ?_
      | refine W.cond rfl (fun h => ?_) (fun h => ?_)
      | (refine hK _ ?_; clear hK K)
      | (clear hK K; refine hK _ ?_; clear hK K)
      | (clear hK K; clear hK K; refine hK _ ?_; clear hK K)
      | (clear hK K; clear hK K; clear hK K; refine hK _ ?_; clear hK K)
      | refine And.intro (by first | rfl | omega | assumption | (simp; omega)) ?_
      | fail)
    refine hKL.to (i + 1) (by omega) (by omega) (Fits.fit [(0, 0)] [1, 3, 4] 1 rfl rfl ?_)
    simp only [go_sem]
    exact Fits.rfl
  · have e1 : decide ((i : Int) < ks.length) = false := by simp; omega
    have hi2 : i = ks.length := by omega
    subst hi2
    clear hKL
    repeat' (first
      | (refine W.ret (Post.ret ?_); simp only [go_sem, avs_len, e1])
      | (refine W.exit ?_; simp only [go_sem])
      | (refine W.skip ?_; simp only [go_sem])
      | refine W.block ?_
      | (refine W.reg rfl ?_; simp only [go_sem, avs_len, e1])
      | (refine W.regD Try_mo rfl rfl ?_; simp only [go_sem, avs_len, e1])
      | (refine W.seq fun K hK => ?_)
      | (refine AX.pcall rfl rfl rfl (by solve_by_elim) rfl rfl ?_; simp only [go_sem, avs_len, e1])
      | (refine AX.pcallF rfl rfl rfl rfl (by solve_by_elim) rfl rfl ?_; simp only [go_sem, avs_len, e1])
      | refine W.condT rfl ?_
      | refine W.condF rfl ?_
      | refine W.cond rfl (fun h => ?_) (fun h => ?_)
      | (refine hK _ ?_; clear hK K)
      | (clear hK K; refine hK _ ?_; clear hK K)
      | (clear hK K; clear hK K; refine hK _ ?_; clear hK K)
      | (clear hK K; clear hK K; clear hK K; refine hK _ ?_; clear hK K)
      | refine And.intro (by first | rfl | omega | assumption | (simp; omega)) ?_
      | fail)
    simp

theorem Depth_c (s o : ByteArray) (ks : List Shp) (hsz : (Shp.mk s o ks).size ≤ 9223372036854775807) (ih : ∀ x ∈ ks, PCall Try.prog 18 [shT x] (ft (.int .i64 x.depth))) :
    PCall Try.prog 18 [shT (.mk s o ks)] (ft (.int .i64 (Shp.mk s o ks).depth)) := by
  have hdp := depth_le (.mk s o ks)
  simp only [Shp.size] at hsz
  simp only [Shp.size, Shp.depth] at hdp
  have hb : ks.length ≤ sizes ks := sizes_len ks
  simp only [shT, Shp.av, List.map, Shp.depth]
  refine PCall.intro (nt := 20) (rs := [.tmp 2]) Try.func18 rfl ⟨by kernel_rfl, by kernel_rfl, by kernel_rfl⟩ (by simp) ?_
  rintro ⟨P, w0, ok0, may, np, pblk⟩ rfl rfl
  repeat' (first
    | (refine W.ret (Post.ret ?_); simp only [go_sem, avs_len])
    | (refine W.exit ?_; simp only [go_sem])
    | (refine W.skip ?_; simp only [go_sem])
    | refine W.block ?_
    | (refine W.reg rfl ?_; simp only [go_sem, avs_len])
    | (refine W.regD Try_mo rfl rfl ?_; simp only [go_sem, avs_len])
    | (refine W.seq fun K hK => ?_)
    | (refine AX.pcall rfl rfl rfl (by solve_by_elim) rfl rfl ?_; simp only [go_sem, avs_len])
    | (refine AX.pcallF rfl rfl rfl rfl (by solve_by_elim) rfl rfl ?_; simp only [go_sem, avs_len])
    | refine W.condT rfl ?_
    | refine W.condF rfl ?_
    | refine W.cond rfl (fun h => ?_) (fun h => ?_)
    | (refine hK _ ?_; clear hK K)
    | (clear hK K; refine hK _ ?_; clear hK K)
    | (clear hK K; clear hK K; refine hK _ ?_; clear hK K)
    | (clear hK K; clear hK K; clear hK K; refine hK _ ?_; clear hK K)
    | refine And.intro (by first | rfl | omega | assumption | (simp; omega)) ?_
    | fail)
  refine W.loopF (T := fun i : Nat => { t := [(3, ft (.int .i64 (depths (ks.take i) : Nat))), (7, .c (.im (.sl 27 (avs ks)))), (8, ft (.int .i64 ks.length)), (9, ft (.int .i64 (i : Nat)))], h := [], nx := 0, ex := [], nt := 20 })
    (Inv := fun i => i ≤ ks.length) (μ := fun i => ks.length - i) (x0 := 0) (Fits.fit [] [3, 7, 8, 9] 0 rfl rfl ?_) (Nat.zero_le _) ?_
  · simp only [go_sem]
    exact Fits.rfl
  intro i hi KL hKL
  by_cases hlt : i < ks.length
  · obtain ⟨⟨s', o', ks'⟩, hx, hm, hd⟩ := drop_at hlt
    have e1 : decide ((i : Int) < ks.length) = true := by simp; omega
    have hw := w64s i (by omega)
    have hc := ih _ hm
    have h1 := depths_at hx
    simp only [shT_mk] at hc
    repeat' (first
      | (refine W.ret (Post.ret ?_); simp only [go_sem, avs_len, avs_get, hx, Shp.av, e1, hw])
      | (refine W.exit ?_; simp only [go_sem])
      | (refine W.skip ?_; simp only [go_sem])
      | refine W.block ?_
      | (refine W.reg rfl ?_; simp only [go_sem, avs_len, avs_get, hx, Shp.av, e1, hw])
      | (refine W.regD Try_mo rfl rfl ?_; simp only [go_sem, avs_len, avs_get, hx, Shp.av, e1, hw])
      | (refine W.seq fun K hK => ?_)
      | (refine AX.pcall rfl rfl rfl (by solve_by_elim) rfl rfl ?_; simp only [go_sem, avs_len, avs_get, hx, Shp.av, e1, hw])
      | (refine AX.pcallF rfl rfl rfl rfl (by solve_by_elim) rfl rfl ?_; simp only [go_sem, avs_len, avs_get, hx, Shp.av, e1, hw])
      | refine W.condT rfl ?_
      | refine W.condF rfl ?_
      | refine W.cond rfl (fun h => ?_) (fun h => ?_)
      | (refine hK _ ?_; clear hK K)
      | (clear hK K; refine hK _ ?_; clear hK K)
      | (clear hK K; clear hK K; refine hK _ ?_; clear hK K)
      | (clear hK K; clear hK K; clear hK K; refine hK _ ?_; clear hK K)
      | refine And.intro (by first | rfl | omega | assumption | (simp; omega)) ?_
      | fail)
    refine hKL.to (i + 1) (by omega) (by omega) (Fits.fit [] [3, 7, 8, 9] 0 rfl rfl ?_)
    simp only [go_sem, h1, max_if]
    exact Fits.rfl
  · have e1 : decide ((i : Int) < ks.length) = false := by simp; omega
    have hi2 : i = ks.length := by omega
    subst hi2
    clear hKL
    have hw : IntKind.i64.wrap ((depths ks : Int) + 1) = ((depths ks + 1 : Nat) : Int) := w64s _ (by omega)
    repeat' (first
      | (refine W.ret (Post.ret ?_); simp only [go_sem, avs_len, e1, List.take_length, hw])
      | (refine W.exit ?_; simp only [go_sem])
      | (refine W.skip ?_; simp only [go_sem])
      | refine W.block ?_
      | (refine W.reg rfl ?_; simp only [go_sem, avs_len, e1, List.take_length, hw])
      | (refine W.regD Try_mo rfl rfl ?_; simp only [go_sem, avs_len, e1, List.take_length, hw])
      | (refine W.seq fun K hK => ?_)
      | (refine AX.pcall rfl rfl rfl (by solve_by_elim) rfl rfl ?_; simp only [go_sem, avs_len, e1, List.take_length, hw])
      | (refine AX.pcallF rfl rfl rfl rfl (by solve_by_elim) rfl rfl ?_; simp only [go_sem, avs_len, e1, List.take_length, hw])
      | refine W.condT rfl ?_
      | refine W.condF rfl ?_
      | refine W.cond rfl (fun h => ?_) (fun h => ?_)
      | (refine hK _ ?_; clear hK K)
      | (clear hK K; refine hK _ ?_; clear hK K)
      | (clear hK K; clear hK K; refine hK _ ?_; clear hK K)
      | (clear hK K; clear hK K; clear hK K; refine hK _ ?_; clear hK K)
      | refine And.intro (by first | rfl | omega | assumption | (simp; omega)) ?_
      | fail)

theorem depth_c (s o : ByteArray) (ks : List Shp) (hsz : (Shp.mk s o ks).size ≤ 9223372036854775807) (ih : ∀ x ∈ ks, PCall Try.prog 19 [shT x] (ft (.int .i64 x.depth))) :
    PCall Try.prog 19 [shT (.mk s o ks)] (ft (.int .i64 (Shp.mk s o ks).depth)) := by
  have hdp := depth_le (.mk s o ks)
  simp only [Shp.size] at hsz
  simp only [Shp.size, Shp.depth] at hdp
  have hb : ks.length ≤ sizes ks := sizes_len ks
  simp only [shT, Shp.av, List.map, Shp.depth]
  refine PCall.intro (nt := 22) (rs := [.tmp 2]) Try.func19 rfl ⟨by kernel_rfl, by kernel_rfl, by kernel_rfl⟩ (by simp) ?_
  rintro ⟨P, w0, ok0, may, np, pblk⟩ rfl rfl
  repeat' (first
    | (refine W.ret (Post.ret ?_); simp only [go_sem, avs_len])
    | (refine W.exit ?_; simp only [go_sem])
    | (refine W.skip ?_; simp only [go_sem])
    | refine W.block ?_
    | (refine W.reg rfl ?_; simp only [go_sem, avs_len])
    | (refine W.regD Try_mo rfl rfl ?_; simp only [go_sem, avs_len])
    | (refine W.seq fun K hK => ?_)
    | (refine AX.pcall rfl rfl rfl (by solve_by_elim) rfl rfl ?_; simp only [go_sem, avs_len])
    | (refine AX.pcallF rfl rfl rfl rfl (by solve_by_elim) rfl rfl ?_; simp only [go_sem, avs_len])
    | refine W.condT rfl ?_
    | refine W.condF rfl ?_
    | refine W.cond rfl (fun h => ?_) (fun h => ?_)
    | (refine hK _ ?_; clear hK K)
    | (clear hK K; refine hK _ ?_; clear hK K)
    | (clear hK K; clear hK K; refine hK _ ?_; clear hK K)
    | (clear hK K; clear hK K; clear hK K; refine hK _ ?_; clear hK K)
    | refine And.intro (by first | rfl | omega | assumption | (simp; omega)) ?_
    | fail)
  refine W.loopF (T := fun i : Nat => { t := [(1, .c (.ptr 0 0)), (3, ft (.int .i64 (depths (ks.take i) : Nat))), (4, ft (.int .i64 (i : Nat)))], h := [(0, .box 27 [fl (.string s), fl (.string o), .im (.sl 27 (avs ks))])], nx := 1, ex := [], nt := 22 })
    (Inv := fun i => i ≤ ks.length) (μ := fun i => ks.length - i) (x0 := 0) (Fits.fit [(0, 0)] [1, 3, 4] 1 rfl rfl ?_) (Nat.zero_le _) ?_
  · simp only [go_sem]
    exact Fits.rfl
  intro i hi KL hKL
  by_cases hlt : i < ks.length
  · obtain ⟨⟨s', o', ks'⟩, hx, hm, hd⟩ := drop_at hlt
    have e1 : decide ((i : Int) < ks.length) = true := by simp; omega
    have hw := w64s i (by omega)
    have hc := ih _ hm
    have h1 := depths_at hx
    simp only [shT_mk] at hc
    repeat' (first
      | (refine W.ret (Post.ret ?_); simp only [go_sem, avs_len, avs_get, hx, Shp.av, e1, hw])
      | (refine W.exit ?_; simp only [go_sem])
      | (refine W.skip ?_; simp only [go_sem])
      | refine W.block ?_
      | (refine W.reg rfl ?_; simp only [go_sem, avs_len, avs_get, hx, Shp.av, e1, hw])
      | (refine W.regD Try_mo rfl rfl ?_; simp only [go_sem, avs_len, avs_get, hx, Shp.av, e1, hw])
      | (refine W.seq fun K hK => ?_)
      | (refine AX.pcall rfl rfl rfl (by solve_by_elim) rfl rfl ?_; simp only [go_sem, avs_len, avs_get, hx, Shp.av, e1, hw])
      | (refine AX.pcallF rfl rfl rfl rfl (by solve_by_elim) rfl rfl ?_; simp only [go_sem, avs_len, avs_get, hx, Shp.av, e1, hw])
      | refine W.condT rfl ?_
      | refine W.condF rfl ?_
      | refine W.cond rfl (fun h => ?_) (fun h => ?_)
      | (refine hK _ ?_; clear hK K)
      | (clear hK K; refine hK _ ?_; clear hK K)
      | (clear hK K; clear hK K; refine hK _ ?_; clear hK K)
      | (clear hK K; clear hK K; clear hK K; refine hK _ ?_; clear hK K)
      | refine And.intro (by first | rfl | omega | assumption | (simp; omega)) ?_
      | fail)
    refine hKL.to (i + 1) (by omega) (by omega) (Fits.fit [(0, 0)] [1, 3, 4] 1 rfl rfl ?_)
    simp only [go_sem, h1, max_if]
    exact Fits.rfl
  · have e1 : decide ((i : Int) < ks.length) = false := by simp; omega
    have hi2 : i = ks.length := by omega
    subst hi2
    clear hKL
    have hw : IntKind.i64.wrap ((depths ks : Int) + 1) = ((depths ks + 1 : Nat) : Int) := w64s _ (by omega)
    repeat' (first
      | (refine W.ret (Post.ret ?_); simp only [go_sem, avs_len, e1, List.take_length, hw])
      | (refine W.exit ?_; simp only [go_sem])
      | (refine W.skip ?_; simp only [go_sem])
      | refine W.block ?_
      | (refine W.reg rfl ?_; simp only [go_sem, avs_len, e1, List.take_length, hw])
      | (refine W.regD Try_mo rfl rfl ?_; simp only [go_sem, avs_len, e1, List.take_length, hw])
      | (refine W.seq fun K hK => ?_)
      | (refine AX.pcall rfl rfl rfl (by solve_by_elim) rfl rfl ?_; simp only [go_sem, avs_len, e1, List.take_length, hw])
      | (refine AX.pcallF rfl rfl rfl rfl (by solve_by_elim) rfl rfl ?_; simp only [go_sem, avs_len, e1, List.take_length, hw])
      | refine W.condT rfl ?_
      | refine W.condF rfl ?_
      | refine W.cond rfl (fun h => ?_) (fun h => ?_)
      | (refine hK _ ?_; clear hK K)
      | (clear hK K; refine hK _ ?_; clear hK K)
      | (clear hK K; clear hK K; refine hK _ ?_; clear hK K)
      | (clear hK K; clear hK K; clear hK K; refine hK _ ?_; clear hK K)
      | refine And.intro (by first | rfl | omega | assumption | (simp; omega)) ?_
      | fail)

end Go.Proofs.Ytegcmciglakicaa
namespace Go.Proofs.Ytegcmciglakicaa
open Go.RowKit Go.Exe
set_option linter.unusedVariables false
set_option linter.unusedSimpArgs false
set_option maxHeartbeats 1000000
set_option maxRecDepth 100000

theorem Compare_c (c12 : ∀ x : Shp, PCall Try.prog 12 [shT x] (shT x.canon)) (c34 : ∀ x y : Shp, PCall Try.prog 34 [shT x, shT y] (ft (.int .i64 (x.cmp y)))) (x y : Shp) :
    PCall Try.prog 10 [shT x, shT y] (ft (.int .i64 (x.canon.cmp y.canon))) := by
  obtain ⟨s, o, ks⟩ := x
  obtain ⟨s', o', ks'⟩ := y
  have c1 := c12 (.mk s o ks)
  have c2 := c12 (.mk s' o' ks')
  have c3 := c34 (Shp.canon (.mk s o ks)) (Shp.canon (.mk s' o' ks'))
  simp only [Shp.canon, shT_mk] at c1 c2 c3 ⊢
  refine PCall.intro (nt := 10) (rs := [.tmp 4]) Try.func10 rfl ⟨by kernel_rfl, by kernel_rfl, by kernel_rfl⟩ (by simp) ?_
  rintro ⟨P, w0, ok0, may, np, pblk⟩ rfl rfl
  repeat' (first
    | (refine W.ret (Post.ret ?_); simp only [go_sem])
    | (refine W.exit ?_; simp only [go_sem])
    | (refine W.skip ?_; simp only [go_sem])
    | refine W.block ?_
    | (refine W.reg rfl ?_; simp only [go_sem])
    | (refine W.regD Try_mo rfl rfl ?_; simp only [go_sem])
    | (refine W.seq fun K hK => ?_)
    | (refine AX.pcall rfl rfl rfl (by solve_by_elim) rfl rfl ?_; simp only [go_sem])
    | (refine AX.pcallF rfl rfl rfl rfl (by solve_by_elim) rfl rfl ?_; simp only [go_sem])
    | refine W.condT rfl ?_
    | refine W.condF rfl ?_
    | refine W.cond rfl (fun h => ?_) (fun h => ?_)
    | (refine hK _ ?_; clear hK K)
    | (clear hK K; refine hK _ ?_; clear hK K)
    | (clear hK K; clear hK K; refine hK _ ?_; clear hK K)
    | (clear hK K; clear hK K; clear hK K; refine hK _ ?_; clear hK K)
    | refine And.intro (by first | rfl | omega | assumption | (simp; omega)) ?_
    | fail)
theorem Equal_c (c10 : ∀ x y : Shp, PCall Try.prog 10 [shT x, shT y] (ft (.int .i64 (x.canon.cmp y.canon)))) (x y : Shp) :
    PCall Try.prog 15 [shT x, shT y] (ft (.bool (x.canon.cmp y.canon == 0))) := by
  obtain ⟨s, o, ks⟩ := x
  obtain ⟨s', o', ks'⟩ := y
  have c1 := c10 (.mk s o ks) (.mk s' o' ks')
  simp only [shT_mk] at c1 ⊢
  refine PCall.intro (nt := 9) (rs := [.tmp 4]) Try.func15 rfl ⟨by kernel_rfl, by kernel_rfl, by kernel_rfl⟩ (by simp) ?_
  rintro ⟨P, w0, ok0, may, np, pblk⟩ rfl rfl
  repeat' (first
    | (refine W.ret (Post.ret ?_); simp only [go_sem])
    | (refine W.exit ?_; simp only [go_sem])
    | (refine W.skip ?_; simp only [go_sem])
    | refine W.block ?_
    | (refine W.reg rfl ?_; simp only [go_sem])
    | (refine W.regD Try_mo rfl rfl ?_; simp only [go_sem])
    | (refine W.seq fun K hK => ?_)
    | (refine AX.pcall rfl rfl rfl (by solve_by_elim) rfl rfl ?_; simp only [go_sem])
    | (refine AX.pcallF rfl rfl rfl rfl (by solve_by_elim) rfl rfl ?_; simp only [go_sem])
    | refine W.condT rfl ?_
    | refine W.condF rfl ?_
    | refine W.cond rfl (fun h => ?_) (fun h => ?_)
    | (refine hK _ ?_; clear hK K)
    | (clear hK K; refine hK _ ?_; clear hK K)
    | (clear hK K; clear hK K; refine hK _ ?_; clear hK K)
    | (clear hK K; clear hK K; clear hK K; refine hK _ ?_; clear hK K)
    | refine And.intro (by first | rfl | omega | assumption | (simp; omega)) ?_
    | fail)
mutual
def Shp.same : Shp → Shp → Bool
  | .mk s o ks, .mk s' o' ks' => s.toList == s'.toList && o.toList == o'.toList && sames ks ks'
def sames : List Shp → List Shp → Bool
  | [], [] => true
  | [], _ :: _ => false
  | _ :: _, [] => false
  | x :: r, y :: q => x.same y && sames r q
end
theorem sames_len : ∀ {a b : List Shp}, a.length ≠ b.length → sames a b = false
  | [], [], h => absurd rfl h
  | [], _ :: _, _ => by simp [sames]
  | _ :: _, [], _ => by simp [sames]
  | x :: r, y :: q, h => by simp [sames, sames_len (a := r) (b := q) (by simpa using h)]
theorem same_c (s o s' o' : ByteArray) (ks ks' : List Shp) (ih : ∀ x ∈ ks, ∀ y ∈ ks', PCall Try.prog 11 [shT x, shT y] (ft (.bool (x.same y)))) :
    PCall Try.prog 11 [shT (.mk s o ks), shT (.mk s' o' ks')] (ft (.bool (Shp.same (.mk s o ks) (.mk s' o' ks')))) := by
  simp only [shT, Shp.av, List.map, Shp.same]
  refine PCall.intro (nt := 46) (rs := [.tmp 4]) Try.func11 rfl ⟨by kernel_rfl, by kernel_rfl, by kernel_rfl⟩ (by simp) ?_
  rintro ⟨P, w0, ok0, may, np, pblk⟩ rfl rfl
  cases h1 : (s.toList == s'.toList)
  · repeat' (first
      | (refine W.ret (Post.ret ?_); simp only [go_sem, avs_len, h1])
      | (refine W.exit ?_; simp only [go_sem])
      | (refine W.skip ?_; simp only [go_sem])
      | refine W.block ?_
      | (refine W.reg rfl ?_; simp only [go_sem, avs_len, h1])
      | (refine W.regD Try_mo rfl rfl ?_; simp only [go_sem, avs_len, h1])
      | (refine W.seq fun K hK => ?_)
      | (refine AX.pcall rfl rfl rfl (by solve_by_elim) rfl rfl ?_; simp only [go_sem, avs_len, h1])
      | (refine AX.pcallF rfl rfl rfl rfl (by solve_by_elim) rfl rfl ?_; simp only [go_sem, avs_len, h1])
      | refine W.condT rfl ?_
      | refine W.condF rfl ?_
      | refine W.cond rfl (fun h => ?_) (fun h => ?_)
      | (refine hK _ ?_; clear hK K)
      | (clear hK K; refine hK _ ?_; clear hK K)
      | (clear hK K; clear hK K; refine hK _ ?_; clear hK K)
      | (clear hK K; clear hK K; clear hK K; refine hK _ ?_; clear hK K)
      | refine And.intro (by first | rfl | omega | assumption | (simp; omega)) ?_
      | fail)
  cases h2 : (o.toList == o'.toList)
  · repeat' (first
      | (refine W.ret (Post.ret ?_); simp only [go_sem, avs_len, h1, h2])
      | (refine W.exit ?_; simp only [go_sem])
      | (refine W.skip ?_; simp only [go_sem])
      | refine W.block ?_
      | (refine W.reg rfl ?_; simp only [go_sem, avs_len, h1, h2])
      | (refine W.regD Try_mo rfl rfl ?_; simp only [go_sem, avs_len, h1, h2])
      | (refine W.seq fun K hK => ?_)
      | (refine AX.pcall rfl rfl rfl (by solve_by_elim) rfl rfl ?_; simp only [go_sem, avs_len, h1, h2])
      | (refine AX.pcallF rfl rfl rfl rfl (by solve_by_elim) rfl rfl ?_; simp only [go_sem, avs_len, h1, h2])
      | refine W.condT rfl ?_
      | refine W.condF rfl ?_
      | refine W.cond rfl (fun h => ?_) (fun h => ?_)
      | (refine hK _ ?_; clear hK K)
      | (clear hK K; refine hK _ ?_; clear hK K)
      | (clear hK K; clear hK K; refine hK _ ?_; clear hK K)
      | (clear hK K; clear hK K; clear hK K; refine hK _ ?_; clear hK K)
      | refine And.intro (by first | rfl | omega | assumption | (simp; omega)) ?_
      | fail)
  by_cases h3 : ks.length = ks'.length
  rotate_left
  · have h4 : ((ks.length : Int) != (ks'.length : Int)) = true := by simp; omega
    repeat' (first
      | (refine W.ret (Post.ret ?_); simp only [go_sem, avs_len, h1, h2, h4])
      | (refine W.exit ?_; simp only [go_sem])
      | (refine W.skip ?_; simp only [go_sem])
      | refine W.block ?_
      | (refine W.reg rfl ?_; simp only [go_sem, avs_len, h1, h2, h4])
      | (refine W.regD Try_mo rfl rfl ?_; simp only [go_sem, avs_len, h1, h2, h4])
      | (refine W.seq fun K hK => ?_)
      | (refine AX.pcall rfl rfl rfl (by solve_by_elim) rfl rfl ?_; simp only [go_sem, avs_len, h1, h2, h4])
      | (refine AX.pcallF rfl rfl rfl rfl (by solve_by_elim) rfl rfl ?_; simp only [go_sem, avs_len, h1, h2, h4])
      | refine W.condT rfl ?_
      | refine W.condF rfl ?_
      | refine W.cond rfl (fun h => ?_) (fun h => ?_)
      | (refine hK _ ?_; clear hK K)
      | (clear hK K; refine hK _ ?_; clear hK K)
      | (clear hK K; clear hK K; refine hK _ ?_; clear hK K)
      | (clear hK K; clear hK K; clear hK K; refine hK _ ?_; clear hK K)
      | refine And.intro (by first | rfl | omega | assumption | (simp; omega)) ?_
      | fail)
    simp [sames_len h3]
  have h4 : ((ks.length : Int) != (ks'.length : Int)) = false := by simp [h3]
  repeat' (first
    | (refine W.ret (Post.ret ?_); simp only [go_sem, avs_len, h1, h2, h4])
    | (refine W.exit ?_; simp only [go_sem])
    | (refine W.skip ?_; simp only [go_sem])
    | refine W.block ?_
    | (refine W.reg rfl ?_; simp only [go_sem, avs_len, h1, h2, h4])
    | (refine W.regD Try_mo rfl rfl ?_; simp only [go_sem, avs_len, h1, h2, h4])
    | (refine W.seq fun K hK => ?_)
    | (refine AX.pcall rfl rfl rfl (by solve_by_elim) rfl rfl ?_; simp only [go_sem, avs_len, h1, h2, h4])
    | (refine AX.pcallF rfl rfl rfl rfl (by solve_by_elim) rfl rfl ?_; simp only [go_sem, avs_len, h1, h2, h4])
    | refine W.condT rfl ?_
    | refine W.condF rfl ?_
    | refine W.cond rfl (fun h => ?_) (fun h => ?_)
    | (refine hK _ ?_; clear hK K)
    | (clear hK K; refine hK _ ?_; clear hK K)
    | (clear hK K; clear hK K; refine hK _ ?_; clear hK K)
    | (clear hK K; clear hK K; clear hK K; refine hK _ ?_; clear hK K)
    | refine And.intro (by first | rfl | omega | assumption | (simp; omega)) ?_
    | fail)
  refine W.lenB 20 rfl tE27 fun hlen hbytes => ?_
  rw [avs_len, maxLen_is] at hlen
  refine W.loopF (T := fun i : Nat => { t := [(2, .c (.ptr 0 0)), (3, .c (.ptr 1 0)), (4, ft (.bool false)), (5, ft (.int .i64 (i : Nat)))], h := [(0, .box 27 [fl (.string s), fl (.string o), .im (.sl 27 (avs ks))]), (1, .box 27 [fl (.string s'), fl (.string o'), .im (.sl 27 (avs ks'))])], nx := 2, ex := [], nt := 46 })
    (Inv := fun i => i ≤ ks.length ∧ sames ks ks' = sames (ks.drop i) (ks'.drop i)) (μ := fun i => ks.length - i) (x0 := 0) (Fits.fit [(0, 0), (1, 1)] [2, 3, 4, 5] 2 rfl rfl ?_) ⟨Nat.zero_le _, rfl⟩ ?_
  · simp only [go_sem]
    exact Fits.rfl
  rintro i ⟨hi, hinv⟩ KL hKL
  by_cases hlt : i < ks.length
  · obtain ⟨⟨s1, o1, ks1⟩, hx, hm, hd⟩ := drop_at hlt
    obtain ⟨⟨s2, o2, ks2⟩, hx', hm', hd'⟩ := drop_at (show i < ks'.length by omega)
    have e1 : decide ((i : Int) < ks.length) = true := by simp; omega
    have hw := w64s i (by omega)
    have hc := ih _ hm _ hm'
    simp only [shT_mk] at hc
    repeat' (first
      | (refine W.ret (Post.ret ?_); simp only [go_sem, avs_len, avs_get, hx, hx', Shp.av, e1, hw])
      | (refine W.exit ?_; simp only [go_sem])
      | (refine W.skip ?_; simp only [go_sem])
      | refine W.block ?_
      | (refine W.reg rfl ?_; simp only [go_sem, avs_len, avs_get, hx, hx', Shp.av, e1, hw])
      | (refine W.regD Try_mo rfl rfl ?_; simp only [go_sem, avs_len, avs_get, hx, hx', Shp.av, e1, hw])
      | (refine W.seq fun K hK => ?_)
      | (refine AX.pcall rfl rfl rfl (by solve_by_elim) rfl rfl ?_; simp only [go_sem, avs_len, avs_get, hx, hx', Shp.av, e1, hw])
      | (refine AX.pcallF rfl rfl rfl rfl (by solve_by_elim) rfl rfl ?_; simp only [go_sem, avs_len, avs_get, hx, hx', Shp.av, e1, hw])
      | refine W.condT rfl ?_
      | refine W.condF rfl ?_
      | refine W.cond rfl (fun h => ?_) (fun h => ?_)
      | (refine hK _ ?_; clear hK K)
      | (clear hK K; refine hK _ ?_; clear hK K)
      | (clear hK K; clear hK K; refine hK _ ?_; clear hK K)
      | (clear hK K; clear hK K; clear hK K; refine hK _ ?_; clear hK K)
      | refine And.intro (by first | rfl | omega | assumption | (simp; omega)) ?_
      | fail)
    · simp at h
      simp [hinv, hd, hd', sames, h]
    · refine hKL.to (i + 1) ⟨by omega, ?_⟩ (by omega) (Fits.fit [(0, 0), (1, 1)] [2, 3, 4, 5] 2 rfl rfl ?_)
      · simp at h
        simp [hinv, hd, hd', sames, h]
      · simp only [go_sem]
        exact Fits.rfl
  · have e1 : decide ((i : Int) < ks.length) = false := by simp; omega
    have hd : ks.drop i = [] := List.drop_eq_nil_of_le (by omega)
    have hd' : ks'.drop i = [] := List.drop_eq_nil_of_le (by omega)
    clear hKL
    repeat' (first
      | (refine W.ret (Post.ret ?_); simp only [go_sem, avs_len, e1])
      | (refine W.exit ?_; simp only [go_sem])
      | (refine W.skip ?_; simp only [go_sem])
      | refine W.block ?_
      | (refine W.reg rfl ?_; simp only [go_sem, avs_len, e1])
      | (refine W.regD Try_mo rfl rfl ?_; simp only [go_sem, avs_len, e1])
      | (refine W.seq fun K hK => ?_)
      | (refine AX.pcall rfl rfl rfl (by solve_by_elim) rfl rfl ?_; simp only [go_sem, avs_len, e1])
      | (refine AX.pcallF rfl rfl rfl rfl (by solve_by_elim) rfl rfl ?_; simp only [go_sem, avs_len, e1])
      | refine W.condT rfl ?_
      | refine W.condF rfl ?_
      | refine W.cond rfl (fun h => ?_) (fun h => ?_)
      | (refine hK _ ?_; clear hK K)
      | (clear hK K; refine hK _ ?_; clear hK K)
      | (clear hK K; clear hK K; refine hK _ ?_; clear hK K)
      | (clear hK K; clear hK K; clear hK K; refine hK _ ?_; clear hK K)
      | refine And.intro (by first | rfl | omega | assumption | (simp; omega)) ?_
      | fail)
    simp [hinv, hd, hd', sames]
end Go.Proofs.Ytegcmciglakicaa
namespace Go.Proofs.Ytegcmciglakicaa
open Go.RowKit Go.Exe
set_option linter.unusedVariables false
set_option linter.unusedSimpArgs false
set_option maxHeartbeats 1000000
set_option maxRecDepth 100000

def sgn (n : Int) : Int := if n < 0 then -1 else if n > 0 then 1 else 0
theorem sign_c (n : Int) : PCall Try.prog 37 [ft (.int .i64 n)] (ft (.int .i64 (sgn n))) := by
  refine PCall.intro (nt := 6) (rs := [.tmp 2]) Try.func37 rfl ⟨by kernel_rfl, by kernel_rfl, by kernel_rfl⟩ (by simp) ?_
  rintro ⟨P, w0, ok0, may, np, pblk⟩ rfl rfl
  repeat' (first
    | (refine W.ret (Post.ret ?_); simp only [go_sem])
    | (refine W.exit ?_; simp only [go_sem])
    | (refine W.skip ?_; simp only [go_sem])
    | refine W.block ?_
    | (refine W.reg rfl ?_; simp only [go_sem])
    | (refine W.regD Try_mo rfl rfl ?_; simp only [go_sem])
    | (refine W.seq fun K hK => ?_)
    | (refine AX.pcall rfl rfl rfl (by solve_by_elim) rfl rfl ?_; simp only [go_sem])
    | (refine AX.pcallF rfl rfl rfl rfl (by solve_by_elim) rfl rfl ?_; simp only [go_sem])
    | refine W.condT rfl ?_
    | refine W.condF rfl ?_
    | refine W.cond rfl (fun h => ?_) (fun h => ?_)
    | (refine hK _ ?_; clear hK K)
    | (clear hK K; refine hK _ ?_; clear hK K)
    | (clear hK K; clear hK K; refine hK _ ?_; clear hK K)
    | (clear hK K; clear hK K; clear hK K; refine hK _ ?_; clear hK K)
    | refine And.intro (by first | rfl | omega | assumption | (simp; omega)) ?_
    | fail)
  congr 5
  simp only [sgn]
  split <;> split <;> (try split) <;> omega
theorem mcompare_c (c37 : ∀ n : Int, PCall Try.prog 37 [ft (.int .i64 n)] (ft (.int .i64 (sgn n)))) (c36 : ∀ a b : ByteArray, PCall Try.prog 36 [ft (.string a), ft (.string b)] (ft (.int .i64 (cmpB a b))))
    (s o s' o' : ByteArray) (ks ks' : List Shp) (ih : ∀ x ∈ ks, ∀ y ∈ ks', PCall Try.prog 14 [shT x, shT y] (ft (.int .i64 (x.cmp y)))) :
    PCall Try.prog 14 [shT (.mk s o ks), shT (.mk s' o' ks')] (ft (.int .i64 (Shp.cmp (.mk s o ks) (.mk s' o' ks')))) := by
  simp only [shT, Shp.av, List.map, Shp.cmp, cmps_by]
  have hor : ∀ K : Int, (if orL [cmpB s s', cmpB o o'] ≠ 0 then orL [cmpB s s', cmpB o o'] else K) = if cmpB s s' ≠ 0 then cmpB s s' else if cmpB o o' ≠ 0 then cmpB o o' else K := by
    intro K
    by_cases h1 : cmpB s s' = 0 <;> by_cases h2 : cmpB o o' = 0 <;> simp [orL, h1, h2]
  rw [hor]
  refine PCall.intro (nt := 61) (rs := [.tmp 4]) Try.func14 rfl ⟨by kernel_rfl, by kernel_rfl, by kernel_rfl⟩ (by simp) ?_
  rintro ⟨P, w0, ok0, may, np, pblk⟩ rfl rfl
  by_cases h1 : cmpB s s' = 0
  rotate_left
  · have h1' : (cmpB s s' != 0) = true := by simp [h1]
    repeat' (first
      | (refine W.ret (Post.ret ?_); simp only [go_sem, avs_len, h1'])
      | (refine W.exit ?_; simp only [go_sem])
      | (refine W.skip ?_; simp only [go_sem])
      | refine W.block ?_
      | (refine W.reg rfl ?_; simp only [go_sem, avs_len, h1'])
      | (refine W.regD Try_mo rfl rfl ?_; simp only [go_sem, avs_len, h1'])
      | (refine W.seq fun K hK => ?_)
      | (refine AX.pcall rfl rfl rfl (by solve_by_elim) rfl rfl ?_; simp only [go_sem, avs_len, h1'])
      | (refine AX.pcallF rfl rfl rfl rfl (by solve_by_elim) rfl rfl ?_; simp only [go_sem, avs_len, h1'])
      | refine W.condT rfl ?_
      | refine W.condF rfl ?_
      | refine W.cond rfl (fun h => ?_) (fun h => ?_)
      | (refine hK _ ?_; clear hK K)
      | (clear hK K; refine hK _ ?_; clear hK K)
      | (clear hK K; clear hK K; refine hK _ ?_; clear hK K)
      | (clear hK K; clear hK K; clear hK K; refine hK _ ?_; clear hK K)
      | refine And.intro (by first | rfl | omega | assumption | (simp; omega)) ?_
      | fail)
    simp [h1]
  by_cases h2 : cmpB o o' = 0
  rotate_left
  · have h1' : (cmpB s s' != 0) = false := by simp [h1]
    have h2' : (cmpB o o' != 0) = true := by simp [h2]
    repeat' (first
      | (refine W.ret (Post.ret ?_); simp only [go_sem, avs_len, h1', h2'])
      | (refine W.exit ?_; simp only [go_sem])
      | (refine W.skip ?_; simp only [go_sem])
      | refine W.block ?_
      | (refine W.reg rfl ?_; simp only [go_sem, avs_len, h1', h2'])
      | (refine W.regD Try_mo rfl rfl ?_; simp only [go_sem, avs_len, h1', h2'])
      | (refine W.seq fun K hK => ?_)
      | (refine AX.pcall rfl rfl rfl (by solve_by_elim) rfl rfl ?_; simp only [go_sem, avs_len, h1', h2'])
      | (refine AX.pcallF rfl rfl rfl rfl (by solve_by_elim) rfl rfl ?_; simp only [go_sem, avs_len, h1', h2'])
      | refine W.condT rfl ?_
      | refine W.condF rfl ?_
      | refine W.cond rfl (fun h => ?_) (fun h => ?_)
      | (refine hK _ ?_; clear hK K)
      | (clear hK K; refine hK _ ?_; clear hK K)
      | (clear hK K; clear hK K; refine hK _ ?_; clear hK K)
      | (clear hK K; clear hK K; clear hK K; refine hK _ ?_; clear hK K)
      | refine And.intro (by first | rfl | omega | assumption | (simp; omega)) ?_
      | fail)
    simp [h1, h2]
  have h1' : (cmpB s s' != 0) = false := by simp [h1]
  have h2' : (cmpB o o' != 0) = false := by simp [h2]
  simp only [h1, h2, ne_eq, not_true_eq_false, if_false]
  repeat' (first
    | (refine W.ret (Post.ret ?_); simp only [go_sem, avs_len, h1', h2'])
    | (refine W.exit ?_; simp only [go_sem])
    | (refine W.skip ?_; simp only [go_sem])
    | refine W.block ?_
    | (refine W.reg rfl ?_; simp only [go_sem, avs_len, h1', h2'])
    | (refine W.regD Try_mo rfl rfl ?_; simp only [go_sem, avs_len, h1', h2'])
    | (refine W.seq fun K hK => ?_)
    | (refine AX.pcall rfl rfl rfl (by solve_by_elim) rfl rfl ?_; simp only [go_sem, avs_len, h1', h2'])
    | (refine AX.pcallF rfl rfl rfl rfl (by solve_by_elim) rfl rfl ?_; simp only [go_sem, avs_len, h1', h2'])
    | refine W.condT rfl ?_
    | refine W.condF rfl ?_
    | refine W.cond rfl (fun h => ?_) (fun h => ?_)
    | (refine hK _ ?_; clear hK K)
    | (clear hK K; refine hK _ ?_; clear hK K)
    | (clear hK K; clear hK K; refine hK _ ?_; clear hK K)
    | (clear hK K; clear hK K; clear hK K; refine hK _ ?_; clear hK K)
    | refine And.intro (by first | rfl | omega | assumption | (simp; omega)) ?_
    | fail)
  refine W.lenX 0 2 rfl rfl tE27 fun hlen hbytes => ?_
  refine W.lenX 1 2 rfl rfl tE27 fun hlen' hbytes' => ?_
  rw [avs_len, maxLen_is] at hlen hlen'
  refine W.loopF (T := fun i : Nat => { t := [(2, .c (.ptr 0 0)), (3, .c (.ptr 1 0)), (4, ft (.int .i64 0)), (7, ft (.int .i64 (i : Nat)))], h := [(0, .box 27 [fl (.string s), fl (.string o), .im (.sl 27 (avs ks))]), (1, .box 27 [fl (.string s'), fl (.string o'), .im (.sl 27 (avs ks'))])], nx := 2, ex := [], nt := 61 })
    (Inv := fun i => i ≤ ks.length ∧ i ≤ ks'.length ∧ cmpsBy Shp.cmp ks ks' = cmpsBy Shp.cmp (ks.drop i) (ks'.drop i)) (μ := fun i => ks.length - i) (x0 := 0) (Fits.fit [(0, 0), (1, 1)] [2, 3, 4, 7] 2 rfl rfl ?_) ⟨Nat.zero_le _, Nat.zero_le _, rfl⟩ ?_
  · simp only [go_sem]
    exact Fits.rfl
  rintro i ⟨hi, hi', hinv⟩ KL hKL
  have hw := w64s i
  by_cases hlt : i < ks.length
  rotate_left
  · have e1 : decide ((i : Int) < ks.length) = false := by simp; omega
    have hsub : IntKind.i64.wrap ((ks.length : Int) - ks'.length) = (ks.length : Int) - ks'.length := w64 (by omega) (by omega)
    have hd : ks.drop i = [] := List.drop_eq_nil_of_le (by omega)
    clear hKL
    repeat' (first
      | (refine W.ret (Post.ret ?_); simp only [go_sem, avs_len, e1, hsub])
      | (refine W.exit ?_; simp only [go_sem])
      | (refine W.skip ?_; simp only [go_sem])
      | refine W.block ?_
      | (refine W.reg rfl ?_; simp only [go_sem, avs_len, e1, hsub])
      | (refine W.regD Try_mo rfl rfl ?_; simp only [go_sem, avs_len, e1, hsub])
      | (refine W.seq fun K hK => ?_)
      | (refine AX.pcall rfl rfl rfl (by solve_by_elim) rfl rfl ?_; simp only [go_sem, avs_len, e1, hsub])
      | (refine AX.pcallF rfl rfl rfl rfl (by solve_by_elim) rfl rfl ?_; simp only [go_sem, avs_len, e1, hsub])
      | refine W.condT rfl ?_
      | refine W.condF rfl ?_
      | refine W.cond rfl (fun h => ?_) (fun h => ?_)
      | (refine hK _ ?_; clear hK K)
      | (clear hK K; refine hK _ ?_; clear hK K)
      | (clear hK K; clear hK K; refine hK _ ?_; clear hK K)
      | (clear hK K; clear hK K; clear hK K; refine hK _ ?_; clear hK K)
      | refine And.intro (by first | rfl | omega | assumption | (simp; omega)) ?_
      | fail)
    rw [hinv, hd]
    by_cases h5 : ks'.length = i
    · rw [List.drop_eq_nil_of_le (by omega)]
      simp [cmpsBy, sgn, show ks.length = ks'.length by omega]
    · obtain ⟨x, _, _, h6⟩ := drop_at (show i < ks'.length by omega)
      rw [h6]
      simp [cmpsBy, sgn, show (ks.length : Int) - ks'.length < 0 by omega]
  obtain ⟨⟨s1, o1, ks1⟩, hx, hm, hd⟩ := drop_at hlt
  have e1 : decide ((i : Int) < ks.length) = true := by simp; omega
  have hw := hw (by omega)
  by_cases hlt' : i < ks'.length
  rotate_left
  · have e2 : decide ((i : Int) < ks'.length) = false := by simp; omega
    have hsub : IntKind.i64.wrap ((ks.length : Int) - ks'.length) = (ks.length : Int) - ks'.length := w64 (by omega) (by omega)
    clear hKL
    repeat' (first
      | (refine W.ret (Post.ret ?_); simp only [go_sem, avs_len, e1, e2, hsub])
      | (refine W.exit ?_; simp only [go_sem])
      | (refine W.skip ?_; simp only [go_sem])
      | refine W.block ?_
      | (refine W.reg rfl ?_; simp only [go_sem, avs_len, e1, e2, hsub])
      | (refine W.regD Try_mo rfl rfl ?_; simp only [go_sem, avs_len, e1, e2, hsub])
      | (refine W.seq fun K hK => ?_)
      | (refine AX.pcall rfl rfl rfl (by solve_by_elim) rfl rfl ?_; simp only [go_sem, avs_len, e1, e2, hsub])
      | (refine AX.pcallF rfl rfl rfl rfl (by solve_by_elim) rfl rfl ?_; simp only [go_sem, avs_len, e1, e2, hsub])
      | refine W.condT rfl ?_
      | refine W.condF rfl ?_
      | refine W.cond rfl (fun h => ?_) (fun h => ?_)
      | (refine hK _ ?_; clear hK K)
      | (clear hK K; refine hK _ ?_; clear hK K)
      | (clear hK K; clear hK K; refine hK _ ?_; clear hK K)
      | (clear hK K; clear hK K; clear hK K; refine hK _ ?_; clear hK K)
      | refine And.intro (by first | rfl | omega | assumption | (simp; omega)) ?_
      | fail)
    rw [hinv, hd, List.drop_eq_nil_of_le (show ks'.length ≤ i by omega)]
    simp [cmpsBy, sgn, show ¬ (ks.length : Int) - ks'.length < 0 by omega, show 0 < (ks.length : Int) - ks'.length by omega]
    omega
  obtain ⟨⟨s2, o2, ks2⟩, hx', hm', hd'⟩ := drop_at hlt'
  have e2 : decide ((i : Int) < ks'.length) = true := by simp; omega
  have hc := ih _ hm _ hm'
  simp only [shT_mk] at hc
  repeat' (first
    | (refine W.ret (Post.ret ?_); simp only [go_sem, avs_len, avs_get, hx, hx', Shp.av, e1, e2, hw])
    | (refine W.exit ?_; simp only [go_sem])
    | (refine W.skip ?_; simp only [go_sem])
    | refine W.block ?_
    | (refine W.reg rfl ?_; simp only [go_sem, avs_len, avs_get, hx, hx', Shp.av, e1, e2, hw])
    | (refine W.regD Try_mo rfl rfl ?_; simp only [go_sem, avs_len, avs_get, hx, hx', Shp.av, e1, e2, hw])
    | (refine W.seq fun K hK => ?_)
    | (refine AX.pcall rfl rfl rfl (by solve_by_elim) rfl rfl ?_; simp only [go_sem, avs_len, avs_get, hx, hx', Shp.av, e1, e2, hw])
    | (refine AX.pcallF rfl rfl rfl rfl (by solve_by_elim) rfl rfl ?_; simp only [go_sem, avs_len, avs_get, hx, hx', Shp.av, e1, e2, hw])
    | refine W.condT rfl ?_
    | refine W.condF rfl ?_
    | refine W.cond rfl (fun h => ?_) (fun h => ?_)
    | (refine hK _ ?_; clear hK K)
    | (clear hK K; refine hK _ ?_; clear hK K)
    | (clear hK K; clear hK K; refine hK _ ?_; clear hK K)
    | (clear hK K; clear hK K; clear hK K; refine hK _ ?_; clear hK K)
    | refine And.intro (by first | rfl | omega | assumption | (simp; omega)) ?_
    | fail)
  · simp at h
    simp [hinv, hd, hd', cmpsBy, h]
  · refine hKL.to (i + 1) ⟨by omega, by omega, ?_⟩ (by omega) (Fits.fit [(0, 0), (1, 1)] [2, 3, 4, 7] 2 rfl rfl ?_)
    · simp at h
      simp [hinv, hd, hd', cmpsBy, h]
    · simp only [go_sem]
      exact Fits.rfl
end Go.Proofs.Ytegcmciglakicaa
namespace Go.Proofs.Ytegcmciglakicaa
open Go.RowKit Go.Exe
set_option linter.unusedVariables false
set_option linter.unusedSimpArgs false
set_option maxHeartbeats 1000000
set_option maxRecDepth 100000

def posR (c : Shp) (l : List Shp) : Nat → Nat
  | 0 => 0
  | n + 1 => match l[n]? with
    | some x => if x.cmp c > 0 then posR c l n else n + 1
    | none => n + 1
def insM (c : Shp) (l : List Shp) : List Shp := l.take (posR c l l.length) ++ [c] ++ l.drop (posR c l l.length)
theorem posR_le (c : Shp) (l : List Shp) : ∀ n, posR c l n ≤ n
  | 0 => Nat.le_refl _
  | n + 1 => by
    unfold posR
    split
    · split
      · exact Nat.le_succ_of_le (posR_le c l n)
      · exact Nat.le_refl _
    · exact Nat.le_refl _
theorem insM_len (c : Shp) (l : List Shp) : (insM c l).length = l.length + 1 := by
  have := posR_le c l l.length
  simp [insM]; omega
mutual
def Shp.mcanon : Shp → Shp
  | .mk s o ks => .mk s o (mcanons [] ks)
def mcanons (acc : List Shp) : List Shp → List Shp
  | [] => acc
  | x :: r => mcanons (insM x.mcanon acc) r
end
theorem mcanons_app : ∀ (a b acc : List Shp), mcanons acc (a ++ b) = mcanons (mcanons acc a) b
  | [], b, acc => by simp [mcanons]
  | x :: r, b, acc => by simp [mcanons, mcanons_app r b]
theorem mcanons_at {l : List Shp} {i : Nat} {x : Shp} (h : l[i]? = some x) (acc : List Shp) : mcanons acc (l.take (i + 1)) = insM x.mcanon (mcanons acc (l.take i)) := by
  rw [take_at h, mcanons_app]; simp [mcanons]
theorem mcanons_len : ∀ (l acc : List Shp), (mcanons acc l).length = acc.length + l.length
  | [], acc => by simp [mcanons]
  | x :: r, acc => by simp [mcanons, mcanons_len r, insM_len]; omega
theorem mcanonical_c (c14 : ∀ x y : Shp, PCall Try.prog 14 [shT x, shT y] (ft (.int .i64 (x.cmp y))))
    (s o : ByteArray) (ks : List Shp) (ih : ∀ x ∈ ks, PCall Try.prog 13 [shT x] (shT x.mcanon)) :
    PCall Try.prog 13 [shT (.mk s o ks)] (shT (Shp.mcanon (.mk s o ks))) := by
  simp only [shT, Shp.av, List.map, Shp.mcanon]
  refine PCall.intro (nt := 59) (rs := [.cell 2 27]) Try.func13 rfl ⟨by kernel_rfl, by kernel_rfl, by kernel_rfl⟩ (by simp) ?_
  rintro ⟨P, w0, ok0, may, np, pblk⟩ rfl rfl
  repeat' (first
    | (refine W.ret (Post.ret ?_); simp only [go_sem])
    | (refine W.exit ?_; simp only [go_sem])
    | (refine W.skip ?_; simp only [go_sem])
    | refine W.block ?_
    | (refine W.reg rfl ?_; simp only [go_sem])
    | (refine W.regD Try_mo rfl rfl ?_; simp only [go_sem])
    | (refine W.seq fun K hK => ?_)
    | (refine AX.pcall rfl rfl rfl (by solve_by_elim) rfl rfl ?_; simp only [go_sem])
    | (refine AX.pcallF rfl rfl rfl rfl (by solve_by_elim) rfl rfl ?_; simp only [go_sem])
    | refine W.condT rfl ?_
    | refine W.condF rfl ?_
    | refine W.cond rfl (fun h => ?_) (fun h => ?_)
    | (refine hK _ ?_; clear hK K)
    | (clear hK K; refine hK _ ?_; clear hK K)
    | (clear hK K; clear hK K; refine hK _ ?_; clear hK K)
    | (clear hK K; clear hK K; clear hK K; refine hK _ ?_; clear hK K)
    | refine And.intro (by first | rfl | omega | assumption | (simp; omega)) ?_
    | fail)
  refine W.lenX 0 2 rfl rfl tE27 fun hlen hbytes => ?_
  rw [avs_len] at hbytes
  rw [avs_len, maxLen_is] at hlen
  refine W.loopF (T := fun i : Nat => { t := [(1, .c (.ptr 0 0)), (2, .c (.ptr 1 0)), (3, .c (.ptr 2 0)), (4, ft (.int .i64 (i : Nat)))], h := [(0, .box 27 [fl (.string s), fl (.string o), .im (.sl 27 (avs ks))]), (1, .box 27 [fl (.string .empty), fl (.string .empty), fl (.slice none 0 0)]), (2, .box 27 [fl (.string s), fl (.string o), .ref 3]), (3, .row 27 (imR ((mcanons [] (ks.take i)).map Shp.av)))], nx := 4, ex := [], nt := 59 })
    (Inv := fun i => i ≤ ks.length) (μ := fun i => ks.length - i) (x0 := 0) (Fits.fit [(0, 0), (1, 1), (7, 2)] [1, 2, 3, 4] 3 rfl rfl ?_) (Nat.zero_le _) ?_
  · simp only [go_sem]
    refine Fits.adoptB 2 27 _ 2 3 27 rfl rfl rfl rfl tE27 rfl ?_
    simp only [go_sem]
    refine Fits.fit [(0, 0), (1, 1), (2, 2), (3, 3)] [1, 2, 3, 4] 4 rfl rfl ?_
    simp only [go_sem]
    exact Fits.rfl
  intro i hi KL hKL
  by_cases hlt : i < ks.length
  rotate_left
  · have e1 : decide ((i : Int) < ks.length) = false := by simp; omega
    have hi2 : i = ks.length := by omega
    subst hi2
    clear hKL
    repeat' (first
      | (refine W.ret (Post.ret ?_); simp only [go_sem, avs_len, e1])
      | (refine W.exit ?_; simp only [go_sem])
      | (refine W.skip ?_; simp only [go_sem])
      | refine W.block ?_
      | (refine W.reg rfl ?_; simp only [go_sem, avs_len, e1])
      | (refine W.regD Try_mo rfl rfl ?_; simp only [go_sem, avs_len, e1])
      | (refine W.seq fun K hK => ?_)
      | (refine AX.pcall rfl rfl rfl (by solve_by_elim) rfl rfl ?_; simp only [go_sem, avs_len, e1])
      | (refine AX.pcallF rfl rfl rfl rfl (by solve_by_elim) rfl rfl ?_; simp only [go_sem, avs_len, e1])
      | refine W.condT rfl ?_
      | refine W.condF rfl ?_
      | refine W.cond rfl (fun h => ?_) (fun h => ?_)
      | (refine hK _ ?_; clear hK K)
      | (clear hK K; refine hK _ ?_; clear hK K)
      | (clear hK K; clear hK K; refine hK _ ?_; clear hK K)
      | (clear hK K; clear hK K; clear hK K; refine hK _ ?_; clear hK K)
      | refine And.intro (by first | rfl | omega | assumption | (simp; omega)) ?_
      | fail)
    simp [avs_map]
  obtain ⟨⟨s', o', ks'⟩, hx, hm, hd⟩ := drop_at hlt
  have e1 : decide ((i : Int) < ks.length) = true := by simp; omega
  have hw := w64s i (by omega)
  have hc := ih _ hm
  have hcm := c14
  have hat := mcanons_at hx []
  have hl := mcanons_len (ks.take i) []
  rw [List.length_take, Nat.min_eq_left hi, List.length_nil, Nat.zero_add] at hl
  simp only [shT_mk, Shp.mcanon] at hc hat
  generalize hacc : mcanons [] (ks.take i) = acc at hat hl ⊢
  generalize hcc : mcanons [] ks' = cs at hc hat
  repeat' (first
    | (refine W.ret (Post.ret ?_); simp only [go_sem, avs_len, avs_get, hx, Shp.av, e1, hw])
    | (refine W.exit ?_; simp only [go_sem])
    | (refine W.skip ?_; simp only [go_sem])
    | refine W.block ?_
    | (refine W.reg rfl ?_; simp only [go_sem, avs_len, avs_get, hx, Shp.av, e1, hw])
    | (refine W.regD Try_mo rfl rfl ?_; simp only [go_sem, avs_len, avs_get, hx, Shp.av, e1, hw])
    | (refine W.seq fun K hK => ?_)
    | (refine AX.pcall rfl rfl rfl (by solve_by_elim) rfl rfl ?_; simp only [go_sem, avs_len, avs_get, hx, Shp.av, e1, hw])
    | (refine AX.pcallF rfl rfl rfl rfl (by solve_by_elim) rfl rfl ?_; simp only [go_sem, avs_len, avs_get, hx, Shp.av, e1, hw])
    | refine W.condT rfl ?_
    | refine W.condF rfl ?_
    | refine W.cond rfl (fun h => ?_) (fun h => ?_)
    | (refine hK _ ?_; clear hK K)
    | (clear hK K; refine hK _ ?_; clear hK K)
    | (clear hK K; clear hK K; refine hK _ ?_; clear hK K)
    | (clear hK K; clear hK K; clear hK K; refine hK _ ?_; clear hK K)
    | refine And.intro (by first | rfl | omega | assumption | (simp; omega)) ?_
    | fail)
  have hK2 : ∀ k : Nat, k ≤ acc.length → posR (.mk s' o' cs) acc acc.length = k → ∀ s1 : St, Fits ⟨Try.prog, w0, ok0, may, 0, pblk⟩ s1 { t := [(1, .c (.ptr 0 0)), (2, .c (.ptr 1 0)), (3, .c (.ptr 2 0)), (4, ft (.int .i64 (i : Nat))), (5, .c (.ptr 4 0)), (6, ft (.int .i64 (k : Nat)))], h := [(0, .box 27 [fl (.string s), fl (.string o), .im (.sl 27 (avs ks))]), (1, .box 27 [fl (.string .empty), fl (.string .empty), fl (.slice none 0 0)]), (2, .box 27 [fl (.string s), fl (.string o), .ref 3]), (3, .row 27 (imR (acc.map Shp.av))), (4, .box 27 [fl (.string s'), fl (.string o'), .im (.sl 27 (avs cs))])], nx := 5, ex := [], nt := 59 } → K s1 := by
    intro k hk hpos s1 hf
    refine hK _ (W.fits hf ?_); clear hK K
    have f1 : decide (k ≤ acc.length) = true := by simp; omega
    have f2 : decide (k + (acc.length - k) ≤ acc.length) = true := by simp; omega
    have f3 : List.take (acc.length - k) (List.drop k (List.map Shp.av acc)) = List.drop k (List.map Shp.av acc) := List.take_of_length_le (by simp)
    repeat' (first
      | (refine W.ret (Post.ret ?_); simp only [go_sem, avs_len, f1, f2, f3, hw, Nat.sub_zero])
      | (refine W.exit ?_; simp only [go_sem])
      | (refine W.skip ?_; simp only [go_sem])
      | refine W.block ?_
      | (refine W.reg rfl ?_; simp only [go_sem, avs_len, f1, f2, f3, hw, Nat.sub_zero])
      | (refine W.regD Try_mo rfl rfl ?_; simp only [go_sem, avs_len, f1, f2, f3, hw, Nat.sub_zero])
      | (refine W.seq fun K hK => ?_)
      | (refine AX.pcall rfl rfl rfl (by solve_by_elim) rfl rfl ?_; simp only [go_sem, avs_len, f1, f2, f3, hw, Nat.sub_zero])
      | (refine AX.pcallF rfl rfl rfl rfl (by solve_by_elim) rfl rfl ?_; simp only [go_sem, avs_len, f1, f2, f3, hw, Nat.sub_zero])
      | refine W.condT rfl ?_
      | refine W.condF rfl ?_
      | refine W.cond rfl (fun h => ?_) (fun h => ?_)
      | (refine hK _ ?_; clear hK K)
      | (clear hK K; refine hK _ ?_; clear hK K)
      | (clear hK K; clear hK K; refine hK _ ?_; clear hK K)
      | (clear hK K; clear hK K; clear hK K; refine hK _ ?_; clear hK K)
      | refine And.intro (by first | rfl | omega | assumption | (simp; omega)) ?_
      | fail)
    refine hKL.to (i + 1) (by omega) (by omega) (Fits.fit [(0, 0), (1, 1), (2, 2), (18, 3)] [1, 2, 3, 4] 4 rfl rfl ?_)
    simp only [go_sem, hat, insM, hpos, List.map_append, List.map_take, List.map_drop, imR_app, imR_one, imL, Shp.av]
    exact Fits.rfl
  refine W.loopF (T := fun k : Nat => { t := [(1, .c (.ptr 0 0)), (2, .c (.ptr 1 0)), (3, .c (.ptr 2 0)), (4, ft (.int .i64 (i : Nat))), (5, .c (.ptr 4 0)), (6, ft (.int .i64 (k : Nat)))], h := [(0, .box 27 [fl (.string s), fl (.string o), .im (.sl 27 (avs ks))]), (1, .box 27 [fl (.string .empty), fl (.string .empty), fl (.slice none 0 0)]), (2, .box 27 [fl (.string s), fl (.string o), .ref 3]), (3, .row 27 (imR (acc.map Shp.av))), (4, .box 27 [fl (.string s'), fl (.string o'), .im (.sl 27 (avs cs))])], nx := 5, ex := [], nt := 59 })
    (Inv := fun k => k ≤ acc.length ∧ posR (.mk s' o' cs) acc acc.length = posR (.mk s' o' cs) acc k) (μ := fun k => k) (x0 := acc.length) (Fits.fit [(0, 0), (1, 1), (2, 2), (3, 3), (15, 4)] [1, 2, 3, 4, 5, 6] 5 rfl rfl ?_) ⟨Nat.le_refl _, rfl⟩ ?_
  · simp only [go_sem]
    exact Fits.rfl
  rintro k ⟨hk, hinv⟩ KL2 hKL2
  rcases k with _ | n
  · have e3 : decide (((0 : Nat) : Int) > 0) = false := by simp
    clear hK
    repeat' (first
      | (refine W.ret (Post.ret ?_); simp only [go_sem, avs_len, e3])
      | (refine W.exit ?_; simp only [go_sem])
      | (refine W.skip ?_; simp only [go_sem])
      | refine W.block ?_
      | (refine W.reg rfl ?_; simp only [go_sem, avs_len, e3])
      | (refine W.regD Try_mo rfl rfl ?_; simp only [go_sem, avs_len, e3])
      | (refine W.seq fun K hK => ?_)
      | (refine AX.pcall rfl rfl rfl (by solve_by_elim) rfl rfl ?_; simp only [go_sem, avs_len, e3])
      | (refine AX.pcallF rfl rfl rfl rfl (by solve_by_elim) rfl rfl ?_; simp only [go_sem, avs_len, e3])
      | refine W.condT rfl ?_
      | refine W.condF rfl ?_
      | refine W.cond rfl (fun h => ?_) (fun h => ?_)
      | (refine hK _ ?_; clear hK K)
      | (clear hK K; refine hK _ ?_; clear hK K)
      | (clear hK K; clear hK K; refine hK _ ?_; clear hK K)
      | (clear hK K; clear hK K; clear hK K; refine hK _ ?_; clear hK K)
      | refine And.intro (by first | rfl | omega | assumption | (simp; omega)) ?_
      | fail)
    refine hK2 0 (Nat.zero_le _) (by rw [hinv]; rfl) _ (Fits.fit [(0, 0), (1, 1), (2, 2), (3, 3), (4, 4)] [1, 2, 3, 4, 5, 6] 5 rfl rfl ?_)
    simp only [go_sem]
    exact Fits.rfl
  obtain ⟨⟨s2, o2, ks2⟩, hx2, hm2, hd2⟩ := drop_at (show n < acc.length by omega)
  have e3 : decide (((n + 1 : Nat) : Int) > 0) = true := by simp
  have e4 : IntKind.i64.wrap (((n + 1 : Nat) : Int) - 1) = (n : Int) := by rw [w64 (by omega) (by omega)]; omega
  have e5 : decide (n < acc.length) = true := by simp; omega
  have hc2 := c14 (.mk s2 o2 ks2) (.mk s' o' cs)
  simp only [shT_mk] at hc2
  clear hK
  repeat' (first
    | (refine W.ret (Post.ret ?_); simp only [go_sem, avs_len, e3, e4, e5, hx2, Shp.av, imL, List.getElem?_map])
    | (refine W.exit ?_; simp only [go_sem])
    | (refine W.skip ?_; simp only [go_sem])
    | refine W.block ?_
    | (refine W.reg rfl ?_; simp only [go_sem, avs_len, e3, e4, e5, hx2, Shp.av, imL, List.getElem?_map])
    | (refine W.regD Try_mo rfl rfl ?_; simp only [go_sem, avs_len, e3, e4, e5, hx2, Shp.av, imL, List.getElem?_map])
    | (refine W.seq fun K hK => ?_)
    | (refine AX.pcall rfl rfl rfl (by solve_by_elim) rfl rfl ?_; simp only [go_sem, avs_len, e3, e4, e5, hx2, Shp.av, imL, List.getElem?_map])
    | (refine AX.pcallF rfl rfl rfl rfl (by solve_by_elim) rfl rfl ?_; simp only [go_sem, avs_len, e3, e4, e5, hx2, Shp.av, imL, List.getElem?_map])
    | refine W.condT rfl ?_
    | refine W.condF rfl ?_
    | refine W.cond rfl (fun h => ?_) (fun h => ?_)
    | (refine hK _ ?_; clear hK K)
    | (clear hK K; refine hK _ ?_; clear hK K)
    | (clear hK K; clear hK K; refine hK _ ?_; clear hK K)
    | (clear hK K; clear hK K; clear hK K; refine hK _ ?_; clear hK K)
    | refine And.intro (by first | rfl | omega | assumption | (simp; omega)) ?_
    | fail)
  · refine hKL2.to n ⟨by omega, ?_⟩ (by simp) (Fits.fit [(0, 0), (1, 1), (2, 2), (3, 3), (4, 4)] [1, 2, 3, 4, 5, 6] 5 rfl rfl ?_)
    · simp at h
      rw [hinv]
      simp [posR, hx2, h]
    · simp only [go_sem]
      exact Fits.rfl
  · refine hK2 (n + 1) (by omega) ?_ _ (Fits.fit [(0, 0), (1, 1), (2, 2), (3, 3), (4, 4)] [1, 2, 3, 4, 5, 6] 5 rfl rfl ?_)
    · simp at h
      rw [hinv]
      simp [posR, hx2]
      omega
    · simp only [go_sem]
      exact Fits.rfl
end Go.Proofs.Ytegcmciglakicaa
namespace Go.Proofs.Ytegcmciglakicaa
open Go.RowKit Go.Exe
set_option linter.unusedVariables false
set_option linter.unusedSimpArgs false
set_option maxHeartbeats 1000000
set_option maxRecDepth 100000

def bA (b : Nat) : List AV := [.flat (.int .u8 (b : Nat))]
def svc (b : Nat) : ByteArray := if b % 3 = 0 then ⟨#[97]⟩ else if b % 3 = 1 then ⟨#[98]⟩ else ⟨#[97, 98]⟩
def opn (b : Nat) : ByteArray := if b / 12 % 2 = 0 then ⟨#[103, 101, 116]⟩ else ⟨#[112, 117, 116]⟩
mutual
def growF : Nat → List Nat → Shp × List Nat
  | 0, p => (.mk .empty .empty [], p)
  | _ + 1, [] => (.mk .empty .empty [], [])
  | f + 1, b :: r => (.mk (svc b) (opn b) (kidsF f (b / 3 % 4) r).1, (kidsF f (b / 3 % 4) r).2)
termination_by f _ => (f, 0)
def kidsF : Nat → Nat → List Nat → List Shp × List Nat
  | _, 0, l => ([], l)
  | _, _ + 1, [] => ([], [])
  | f, n + 1, b :: r => ((growF f (b :: r)).1 :: (kidsF f n (growF f (b :: r)).2).1, (kidsF f n (growF f (b :: r)).2).2)
termination_by f n _ => (f, n + 1)
end
def planT (p : List Nat) : TV := .c (.im (.sl 5 (p.map bA)))
mutual
theorem growF_suf : ∀ (f : Nat) (p : List Nat), (growF f p).2 <:+ p
  | 0, p => by simp [growF]
  | f + 1, [] => by simp [growF]
  | f + 1, b :: r => by
    simp only [growF]
    exact List.IsSuffix.trans (kidsF_suf f _ r) (List.suffix_cons b r)
termination_by f _ => (f, 0)
theorem kidsF_suf : ∀ (f n : Nat) (p : List Nat), (kidsF f n p).2 <:+ p
  | _, 0, l => by simp [kidsF]
  | _, _ + 1, [] => by simp [kidsF]
  | f, n + 1, b :: r => by
    simp only [kidsF]
    exact List.IsSuffix.trans (kidsF_suf f n _) (growF_suf f (b :: r))
termination_by f n _ => (f, n + 1)
end
theorem grow_c (f : Nat) (b : Nat) (r : List Nat) (hb : b < 256) (hr : ∀ x ∈ r, x < 256)
    (ih : ∀ p : List Nat, p.length ≤ r.length → (∀ x ∈ p, x < 256) → PCall Try.prog 33 [planT p] (.t [(true, (growF f p).1.av.map .im), (false, [.im (.sl 5 ((growF f p).2.map bA))])])) :
    PCall Try.prog 33 [planT (b :: r)] (.t [(true, (growF (f + 1) (b :: r)).1.av.map .im), (false, [.im (.sl 5 ((growF (f + 1) (b :: r)).2.map bA))])]) := by
  simp only [planT, List.map, bA]
  have e0 : ((((r.length + 1 : Nat) : Int)) == 0) = false := by simp; omega
  have q1 : Int.tmod (b : Int) 3 = ((b % 3 : Nat) : Int) := by rw [Int.tmod_eq_emod_of_nonneg (by omega)]; omega
  have q2 : IntKind.u8.wrap (Int.tdiv (b : Int) 12) = ((b / 12 : Nat) : Int) := by
    rw [Int.tdiv_eq_ediv_of_nonneg (by omega), IntKind.wrap_u8]; omega
  have q3 : Int.tmod ((b / 12 : Nat) : Int) 2 = ((b / 12 % 2 : Nat) : Int) := by rw [Int.tmod_eq_emod_of_nonneg (by omega)]; omega
  have q4 : IntKind.u8.wrap (Int.tdiv (b : Int) 3) = ((b / 3 : Nat) : Int) := by
    rw [Int.tdiv_eq_ediv_of_nonneg (by omega), IntKind.wrap_u8]; omega
  have q5 : Int.tmod ((b / 3 : Nat) : Int) 4 = ((b / 3 % 4 : Nat) : Int) := by rw [Int.tmod_eq_emod_of_nonneg (by omega)]; omega
  have q6 : IntKind.i64.wrap ((b / 3 % 4 : Nat) : Int) = ((b / 3 % 4 : Nat) : Int) := w64 (by omega) (by omega)
  have d1 : decide (b % 3 < 3) = true := by simp; omega
  have d2 : decide (b / 12 % 2 < 2) = true := by simp; omega
  have s1 : ([[.im (.flat (.string ⟨#[97]⟩))], [.im (.flat (.string ⟨#[98]⟩))], [.im (.flat (.string ⟨#[97, 98]⟩))]] : List (List Cell))[b % 3]? = some [.im (.flat (.string (svc b)))] := by
    unfold svc
    rcases (by omega : b % 3 = 0 ∨ b % 3 = 1 ∨ b % 3 = 2) with h | h | h <;> simp [h]
  have s2 : ([[.im (.flat (.string ⟨#[103, 101, 116]⟩))], [.im (.flat (.string ⟨#[112, 117, 116]⟩))]] : List (List Cell))[b / 12 % 2]? = some [.im (.flat (.string (opn b)))] := by
    unfold opn
    rcases (by omega : b / 12 % 2 = 0 ∨ b / 12 % 2 = 1) with h | h <;> simp [h]
  refine PCall.intro (nt := 61) (rs := [.cell 2 27, .tmp 3]) Try.func33 rfl ⟨by kernel_rfl, by kernel_rfl, by kernel_rfl⟩ (by simp) ?_
  rintro ⟨P, w0, ok0, may, np, pblk⟩ rfl rfl
  have t1 : List.take r.length (List.map bA r) = List.map bA r := List.take_of_length_le (by simp)
  have t2 : Int.toNat 1 = 1 := rfl
  refine W.lenIm 0 rfl fun hlen => ?_
  rw [maxLen_is] at hlen
  simp only [List.length_cons, List.length_map] at hlen
  repeat' (first
    | (refine W.ret (Post.ret ?_); simp only [go_sem, e0, q1, q2, q3, q4, q5, q6, d1, d2, s1, s2, t1, t2])
    | (refine W.exit ?_; simp only [go_sem])
    | (refine W.skip ?_; simp only [go_sem])
    | refine W.block ?_
    | (refine W.reg rfl ?_; simp only [go_sem, e0, q1, q2, q3, q4, q5, q6, d1, d2, s1, s2, t1, t2])
    | (refine W.regD Try_mo rfl rfl ?_; simp only [go_sem, e0, q1, q2, q3, q4, q5, q6, d1, d2, s1, s2, t1, t2])
    | (refine W.seq fun K hK => ?_)
    | (refine AX.pcall rfl rfl rfl (by solve_by_elim) rfl rfl ?_; simp only [go_sem, e0, q1, q2, q3, q4, q5, q6, d1, d2, s1, s2, t1, t2])
    | (refine AX.pcallF rfl rfl rfl rfl (by solve_by_elim) rfl rfl ?_; simp only [go_sem, e0, q1, q2, q3, q4, q5, q6, d1, d2, s1, s2, t1, t2])
    | refine W.condT rfl ?_
    | refine W.condF rfl ?_
    | refine W.cond rfl (fun h => ?_) (fun h => ?_)
    | (refine hK _ ?_; clear hK K)
    | (clear hK K; refine hK _ ?_; clear hK K)
    | (clear hK K; clear hK K; refine hK _ ?_; clear hK K)
    | (clear hK K; clear hK K; clear hK K; refine hK _ ?_; clear hK K)
    | refine And.intro (by first | rfl | omega | assumption | (simp; omega)) ?_
    | fail)
  generalize hn : b / 3 % 4 = n
  have hn4 : n < 4 := by omega
  refine W.loopF (T := fun x : Nat × List Shp × List Nat => { t := [(2, .c (.ptr 0 0)), (3, fl (.slice none 0 0) |> .c), (4, .c (.ptr 1 0)), (5, ft (.int .i64 (n : Nat))), (6, .c (.im (.sl 5 (x.2.2.map bA)))), (7, ft (.int .i64 (x.1 : Nat)))], h := [(0, .box 27 [fl (.string .empty), fl (.string .empty), fl (.slice none 0 0)]), (1, .box 27 [fl (.string (svc b)), fl (.string (opn b)), .ref 2]), (2, .row 27 (imR (x.2.1.map Shp.av)))], nx := 3, ex := [], nt := 61 })
    (Inv := fun x => x.1 ≤ n ∧ x.2.1.length = x.1 ∧ x.2.2 <:+ r ∧ kidsF f n r = (x.2.1 ++ (kidsF f (n - x.1) x.2.2).1, (kidsF f (n - x.1) x.2.2).2)) (μ := fun x => n - x.1) (x0 := (0, [], r)) (Fits.fit [(0, 0), (21, 1)] [2, 3, 4, 5, 6, 7] 2 rfl rfl ?_) ⟨Nat.zero_le _, rfl, List.suffix_refl _, by simp⟩ ?_
  · simp only [go_sem]
    refine Fits.adoptB 1 27 _ 2 2 27 rfl rfl rfl rfl tE27 rfl ?_
    simp only [go_sem]
    refine Fits.fit [(0, 0), (1, 1), (2, 2)] [2, 3, 4, 5, 6, 7] 3 rfl rfl ?_
    simp only [go_sem, hn, List.map_nil]
    exact Fits.rfl
  rintro ⟨i, acc, left⟩ ⟨hi, hal, hsuf, hinv⟩ KL hKL
  simp only at hi hal hsuf hinv ⊢
  have hll := hsuf.length_le
  by_cases hlt : i < n
  rotate_left
  · have e1 : decide ((i : Int) < n) = false := by simp; omega
    clear hKL
    repeat' (first
      | (refine W.ret (Post.ret ?_); simp only [go_sem, e1])
      | (refine W.exit ?_; simp only [go_sem])
      | (refine W.skip ?_; simp only [go_sem])
      | refine W.block ?_
      | (refine W.reg rfl ?_; simp only [go_sem, e1])
      | (refine W.regD Try_mo rfl rfl ?_; simp only [go_sem, e1])
      | (refine W.seq fun K hK => ?_)
      | (refine AX.pcall rfl rfl rfl (by solve_by_elim) rfl rfl ?_; simp only [go_sem, e1])
      | (refine AX.pcallF rfl rfl rfl rfl (by solve_by_elim) rfl rfl ?_; simp only [go_sem, e1])
      | refine W.condT rfl ?_
      | refine W.condF rfl ?_
      | refine W.cond rfl (fun h => ?_) (fun h => ?_)
      | (refine hK _ ?_; clear hK K)
      | (clear hK K; refine hK _ ?_; clear hK K)
      | (clear hK K; clear hK K; refine hK _ ?_; clear hK K)
      | (clear hK K; clear hK K; clear hK K; refine hK _ ?_; clear hK K)
      | refine And.intro (by first | rfl | omega | assumption | (simp; omega)) ?_
      | fail)
    have h0 : n - i = 0 := by omega
    rw [h0] at hinv
    simp only [kidsF, List.append_nil] at hinv
    simp [growF, hn, hinv, Shp.av, avs_map]
  have e1 : decide ((i : Int) < n) = true := by simp; omega
  have hw := w64s i (by omega)
  match left, hsuf, hinv, hll with
  | [], hsuf, hinv, hll =>
    have e2 : decide (((0 : Nat) : Int) > 0) = false := by simp
    clear hKL
    repeat' (first
      | (refine W.ret (Post.ret ?_); simp only [go_sem, e1, e2])
      | (refine W.exit ?_; simp only [go_sem])
      | (refine W.skip ?_; simp only [go_sem])
      | refine W.block ?_
      | (refine W.reg rfl ?_; simp only [go_sem, e1, e2])
      | (refine W.regD Try_mo rfl rfl ?_; simp only [go_sem, e1, e2])
      | (refine W.seq fun K hK => ?_)
      | (refine AX.pcall rfl rfl rfl (by solve_by_elim) rfl rfl ?_; simp only [go_sem, e1, e2])
      | (refine AX.pcallF rfl rfl rfl rfl (by solve_by_elim) rfl rfl ?_; simp only [go_sem, e1, e2])
      | refine W.condT rfl ?_
      | refine W.condF rfl ?_
      | refine W.cond rfl (fun h => ?_) (fun h => ?_)
      | (refine hK _ ?_; clear hK K)
      | (clear hK K; refine hK _ ?_; clear hK K)
      | (clear hK K; clear hK K; refine hK _ ?_; clear hK K)
      | (clear hK K; clear hK K; clear hK K; refine hK _ ?_; clear hK K)
      | refine And.intro (by first | rfl | omega | assumption | (simp; omega)) ?_
      | fail)
    obtain ⟨m, hm⟩ : ∃ m, n - i = m + 1 := ⟨n - i - 1, by omega⟩
    rw [hm] at hinv
    simp only [kidsF, List.append_nil] at hinv
    simp [growF, hn, hinv, Shp.av, avs_map]
  | c :: l, hsuf, hinv, hll =>
    have e2 : decide (((l.length + 1 : Nat) : Int) > 0) = true := by simp
    have hc := ih (c :: l) hll (fun x hx => hr x (hsuf.subset hx))
    generalize hg : growF f (c :: l) = g at hc
    obtain ⟨⟨sv, ov, kv⟩, l'⟩ := g
    simp only [planT, List.map, Shp.av] at hc
    have hs2 := growF_suf f (c :: l)
    rw [hg] at hs2
    obtain ⟨m, hm⟩ : ∃ m, n - i = m + 1 := ⟨n - i - 1, by omega⟩
    have hm2 : n - (i + 1) = m := by omega
    rw [hm] at hinv
    simp only [kidsF, hg] at hinv
    repeat' (first
      | (refine W.ret (Post.ret ?_); simp only [go_sem, e1, e2, hw, List.map])
      | (refine W.exit ?_; simp only [go_sem])
      | (refine W.skip ?_; simp only [go_sem])
      | refine W.block ?_
      | (refine W.reg rfl ?_; simp only [go_sem, e1, e2, hw, List.map])
      | (refine W.regD Try_mo rfl rfl ?_; simp only [go_sem, e1, e2, hw, List.map])
      | (refine W.seq fun K hK => ?_)
      | (refine AX.pcall rfl rfl rfl (by solve_by_elim) rfl rfl ?_; simp only [go_sem, e1, e2, hw, List.map])
      | (refine AX.pcallF rfl rfl rfl rfl (by solve_by_elim) rfl rfl ?_; simp only [go_sem, e1, e2, hw, List.map])
      | refine W.condT rfl ?_
      | refine W.condF rfl ?_
      | refine W.cond rfl (fun h => ?_) (fun h => ?_)
      | (refine hK _ ?_; clear hK K)
      | (clear hK K; refine hK _ ?_; clear hK K)
      | (clear hK K; clear hK K; refine hK _ ?_; clear hK K)
      | (clear hK K; clear hK K; clear hK K; refine hK _ ?_; clear hK K)
      | refine And.intro (by first | rfl | omega | assumption | (simp; omega)) ?_
      | fail)
    refine hKL.to (i + 1, acc ++ [.mk sv ov kv], l') ⟨by simp only; omega, by simp [hal], hs2.trans hsuf, by simp only [hm2, hinv]; simp⟩ (by simp only; omega) (Fits.fit [(0, 0), (1, 1), (23, 2)] [2, 3, 4, 5, 6, 7] 3 rfl rfl ?_)
    simp only [go_sem, List.map_append, List.map_cons, List.map_nil, imR_app, imR_one, imL, Shp.av]
    exact Fits.rfl
end Go.Proofs.Ytegcmciglakicaa
namespace Go.Proofs.Ytegcmciglakicaa
open Go.RowKit Go.Exe
set_option linter.unusedVariables false
set_option linter.unusedSimpArgs false
set_option maxHeartbeats 1000000
set_option maxRecDepth 100000

def growT (f : Nat) (p : List Nat) : TV := .t [(true, (growF f p).1.av.map .im), (false, [.im (.sl 5 ((growF f p).2.map bA))])]
theorem grow_nil (f : Nat) : PCall Try.prog 33 [planT []] (growT f []) := by
  have hg : growF f [] = (.mk .empty .empty [], []) := by cases f <;> simp [growF]
  simp only [growT, hg, planT, Shp.av, List.map, avs]
  refine PCall.conv (args' := [.c (.im (.sl 5 []))]) (r' := .t [(true, [fl (.string .empty), fl (.string .empty), fl (.slice none 0 0)]), (false, [.im (.sl 5 [])])]) ?_ (Al.refl (fun _ => TLe.rfl) _) (TLe.t (Al.cons ⟨rfl, Al.cons CLe.rfl (Al.cons CLe.rfl (Al.cons CLe.nil Al.nil))⟩ (Al.cons ⟨rfl, Al.cons CLe.rfl Al.nil⟩ Al.nil)))
  have e0 : (((0 : Nat) : Int) == 0) = true := rfl
  refine PCall.intro (nt := 61) (rs := [.cell 2 27, .tmp 3]) Try.func33 rfl ⟨by kernel_rfl, by kernel_rfl, by kernel_rfl⟩ (by simp) ?_
  rintro ⟨P, w0, ok0, may, np, pblk⟩ rfl rfl
  repeat' (first
    | (refine W.ret (Post.ret ?_); simp only [go_sem, e0])
    | (refine W.exit ?_; simp only [go_sem])
    | (refine W.skip ?_; simp only [go_sem])
    | refine W.block ?_
    | (refine W.reg rfl ?_; simp only [go_sem, e0])
    | (refine W.regD Try_mo rfl rfl ?_; simp only [go_sem, e0])
    | (refine W.seq fun K hK => ?_)
    | (refine AX.pcall rfl rfl rfl (by solve_by_elim) rfl rfl ?_; simp only [go_sem, e0])
    | (refine AX.pcallF rfl rfl rfl rfl (by solve_by_elim) rfl rfl ?_; simp only [go_sem, e0])
    | refine W.condT rfl ?_
    | refine W.condF rfl ?_
    | refine W.cond rfl (fun h => ?_) (fun h => ?_)
    | (refine hK _ ?_; clear hK K)
    | (clear hK K; refine hK _ ?_; clear hK K)
    | (clear hK K; clear hK K; refine hK _ ?_; clear hK K)
    | (clear hK K; clear hK K; clear hK K; refine hK _ ?_; clear hK K)
    | refine And.intro (by first | rfl | omega | assumption | (simp; omega)) ?_
    | fail)
theorem grow_all : ∀ (f : Nat) (p : List Nat), p.length ≤ f → (∀ x ∈ p, x < 256) → PCall Try.prog 33 [planT p] (growT f p)
  | f, [], _, _ => grow_nil f
  | 0, _ :: _, h, _ => by simp at h
  | f + 1, b :: r, h, hx => grow_c f b r (hx b (by simp)) (fun x h => hx x (by simp [h])) fun p hp hpx => grow_all f p (by simp at h; omega) hpx
def madeP (p : List Nat) : Shp := (growF 24 (p.take 24)).1
theorem made_c (p : List Nat) (hp : ∀ x ∈ p, x < 256) : PCall Try.prog 9 [planT p] (shT (madeP p)) := by
  have hc := grow_all 24 (p.take 24) (by simp; omega) (fun x h => hp x (List.mem_of_mem_take h))
  simp only [growT, planT, madeP, shT] at hc ⊢
  generalize growF 24 (p.take 24) = g at hc ⊢
  obtain ⟨⟨sv, ov, kv⟩, l'⟩ := g
  simp only [Shp.av, List.map] at hc ⊢
  refine PCall.intro (nt := 15) (rs := [.cell 2 27]) Try.func9 rfl ⟨by kernel_rfl, by kernel_rfl, by kernel_rfl⟩ (by simp) ?_
  rintro ⟨P, w0, ok0, may, np, pblk⟩ rfl rfl
  have tk : List.take (if (24 : Int) < (p.length : Int) then (24 : Int) else (p.length : Int)).toNat (List.map bA p) = List.map bA (p.take 24) := by
    rw [List.map_take]
    split
    · rfl
    · rw [Int.toNat_natCast, List.take_of_length_le (by simp), List.take_of_length_le (by simp; omega)]
  repeat' (first
    | (refine W.ret (Post.ret ?_); simp only [go_sem, tk])
    | (refine W.exit ?_; simp only [go_sem])
    | (refine W.skip ?_; simp only [go_sem])
    | refine W.block ?_
    | (refine W.reg rfl ?_; simp only [go_sem, tk])
    | (refine W.regD Try_mo rfl rfl ?_; simp only [go_sem, tk])
    | (refine W.seq fun K hK => ?_)
    | (refine AX.pcall rfl rfl rfl (by solve_by_elim) rfl rfl ?_; simp only [go_sem, tk])
    | (refine AX.pcallF rfl rfl rfl rfl (by solve_by_elim) rfl rfl ?_; simp only [go_sem, tk])
    | refine W.condT rfl ?_
    | refine W.condF rfl ?_
    | refine W.cond rfl (fun h => ?_) (fun h => ?_)
    | (refine hK _ ?_; clear hK K)
    | (clear hK K; refine hK _ ?_; clear hK K)
    | (clear hK K; clear hK K; refine hK _ ?_; clear hK K)
    | (clear hK K; clear hK K; clear hK K; refine hK _ ?_; clear hK K)
    | refine And.intro (by first | rfl | omega | assumption | (simp; omega)) ?_
    | fail)
end Go.Proofs.Ytegcmciglakicaa
