/-
  Tya: the facts of the program's types, for the reckoning.
-/
import Derived.Test.YtegcmciglakicaaXv
import Derived.Test.YtegcmciglakicaaProg
namespace Go.Proofs.Ytegcmciglakicaa
open Go Go.RowKit Go.Exe

theorem tI2 : TI Try.prog 2 = some (false, 1) := by kernel_rfl
theorem tE2 : EInfo Try.prog 2 = some (1, 8) := by kernel_rfl
theorem tZ2 : ZV Try.prog 2 = some [.int .i64 0] := by kernel_rfl
theorem tG2 : ZG Try.prog 2 = some (false, [.int .i64 0]) := by kernel_rfl
theorem tU2 : Try.prog.underlying 2 = some (.int .i64) := by kernel_rfl
theorem tI3 : TI Try.prog 3 = some (false, 1) := by kernel_rfl
theorem tE3 : EInfo Try.prog 3 = some (1, 8) := by kernel_rfl
theorem tZ3 : ZV Try.prog 3 = some [.int .i64 0] := by kernel_rfl
theorem tG3 : ZG Try.prog 3 = some (false, [.int .i64 0]) := by kernel_rfl
theorem tU3 : Try.prog.underlying 3 = some (.int .i64) := by kernel_rfl
theorem tI4 : TI Try.prog 4 = some (false, 1) := by kernel_rfl
theorem tE4 : EInfo Try.prog 4 = some (1, 1) := by kernel_rfl
theorem tZ4 : ZV Try.prog 4 = some [.bool false] := by kernel_rfl
theorem tG4 : ZG Try.prog 4 = some (false, [.bool false]) := by kernel_rfl
theorem tU4 : Try.prog.underlying 4 = some .bool := by kernel_rfl
theorem tI5 : TI Try.prog 5 = some (false, 1) := by kernel_rfl
theorem tE5 : EInfo Try.prog 5 = some (1, 1) := by kernel_rfl
theorem tZ5 : ZV Try.prog 5 = some [.int .u8 0] := by kernel_rfl
theorem tG5 : ZG Try.prog 5 = some (false, [.int .u8 0]) := by kernel_rfl
theorem tU5 : Try.prog.underlying 5 = some (.int .u8) := by kernel_rfl
theorem tI7 : TI Try.prog 7 = some (true, 4) := by kernel_rfl
theorem tE7 : EInfo Try.prog 7 = some (4, 24) := by kernel_rfl
theorem tZ7 : ZV Try.prog 7 = some [.int .i64 0, .int .i64 0, .bool false, .int .u8 0] := by kernel_rfl
theorem tG7 : ZG Try.prog 7 = some (true, [.int .i64 0, .int .i64 0, .bool false, .int .u8 0]) := by kernel_rfl
theorem tF7_0 : FO Try.prog 7 0 = some 0 := by kernel_rfl
theorem tF7_1 : FO Try.prog 7 1 = some 1 := by kernel_rfl
theorem tF7_2 : FO Try.prog 7 2 = some 2 := by kernel_rfl
theorem tF7_3 : FO Try.prog 7 3 = some 3 := by kernel_rfl
theorem tP7 : PLs Try.prog 7 = some (.st [(0, 1), (1, 1), (2, 1), (3, 1)]) := by kernel_rfl
theorem tI9 : TI Try.prog 9 = some (false, 1) := by kernel_rfl
theorem tE9 : EInfo Try.prog 9 = some (1, 16) := by kernel_rfl
theorem tZ9 : ZV Try.prog 9 = some [.string ByteArray.empty] := by kernel_rfl
theorem tG9 : ZG Try.prog 9 = some (false, [.string ByteArray.empty]) := by kernel_rfl
theorem tU9 : Try.prog.underlying 9 = some .string := by kernel_rfl
theorem tI12 : TI Try.prog 12 = some (false, 1) := by kernel_rfl
theorem tE12 : EInfo Try.prog 12 = some (1, 8) := by kernel_rfl
theorem tZ12 : ZV Try.prog 12 = some [.int .u64 0] := by kernel_rfl
theorem tG12 : ZG Try.prog 12 = some (false, [.int .u64 0]) := by kernel_rfl
theorem tU12 : Try.prog.underlying 12 = some (.int .u64) := by kernel_rfl
theorem tI13 : TI Try.prog 13 = some (true, 2) := by kernel_rfl
theorem tE13 : EInfo Try.prog 13 = some (2, 24) := by kernel_rfl
theorem tZ13 : ZV Try.prog 13 = some [.string ByteArray.empty, .int .u64 0] := by kernel_rfl
theorem tG13 : ZG Try.prog 13 = some (true, [.string ByteArray.empty, .int .u64 0]) := by kernel_rfl
theorem tF13_0 : FO Try.prog 13 0 = some 0 := by kernel_rfl
theorem tF13_1 : FO Try.prog 13 1 = some 1 := by kernel_rfl
theorem tP13 : PLs Try.prog 13 = some (.st [(0, 1), (1, 1)]) := by kernel_rfl
theorem tI18 : TI Try.prog 18 = some (true, 1) := by kernel_rfl
theorem tE18 : EInfo Try.prog 18 = some (1, 8) := by kernel_rfl
theorem tZ18 : ZV Try.prog 18 = some [.pointer none] := by kernel_rfl
theorem tG18 : ZG Try.prog 18 = some (true, [.pointer none]) := by kernel_rfl
theorem tF18_0 : FO Try.prog 18 0 = some 0 := by kernel_rfl
theorem tP18 : PLs Try.prog 18 = some (.st [(0, 1)]) := by kernel_rfl
theorem tI19 : TI Try.prog 19 = some (true, 1) := by kernel_rfl
theorem tE19 : EInfo Try.prog 19 = some (1, 8) := by kernel_rfl
theorem tZ19 : ZV Try.prog 19 = some [.pointer none] := by kernel_rfl
theorem tG19 : ZG Try.prog 19 = some (true, [.pointer none]) := by kernel_rfl
theorem tF19_0 : FO Try.prog 19 0 = some 0 := by kernel_rfl
theorem tP19 : PLs Try.prog 19 = some (.st [(0, 1)]) := by kernel_rfl
theorem tI20 : TI Try.prog 20 = some (false, 1) := by kernel_rfl
theorem tE20 : EInfo Try.prog 20 = some (1, 16) := by kernel_rfl
theorem tZ20 : ZV Try.prog 20 = some [.nilIface] := by kernel_rfl
theorem tG20 : ZG Try.prog 20 = some (false, [.nilIface]) := by kernel_rfl
theorem tI21 : TI Try.prog 21 = some (false, 1) := by kernel_rfl
theorem tE21 : EInfo Try.prog 21 = some (1, 4) := by kernel_rfl
theorem tZ21 : ZV Try.prog 21 = some [.int .i32 0] := by kernel_rfl
theorem tG21 : ZG Try.prog 21 = some (false, [.int .i32 0]) := by kernel_rfl
theorem tU21 : Try.prog.underlying 21 = some (.int .i32) := by kernel_rfl
theorem tI22 : TI Try.prog 22 = some (false, 1) := by kernel_rfl
theorem tE22 : EInfo Try.prog 22 = some (1, 24) := by kernel_rfl
theorem tZ22 : ZV Try.prog 22 = some [.slice none 0 0] := by kernel_rfl
theorem tG22 : ZG Try.prog 22 = some (false, [.slice none 0 0]) := by kernel_rfl
theorem tL22 : EL Try.prog 22 = some 5 := by kernel_rfl
theorem tI23 : TI Try.prog 23 = some (false, 1) := by kernel_rfl
theorem tE23 : EInfo Try.prog 23 = some (1, 24) := by kernel_rfl
theorem tZ23 : ZV Try.prog 23 = some [.slice none 0 0] := by kernel_rfl
theorem tG23 : ZG Try.prog 23 = some (false, [.slice none 0 0]) := by kernel_rfl
theorem tL23 : EL Try.prog 23 = some 5 := by kernel_rfl
theorem tI25 : TI Try.prog 25 = some (false, 1) := by kernel_rfl
theorem tE25 : EInfo Try.prog 25 = some (1, 24) := by kernel_rfl
theorem tZ25 : ZV Try.prog 25 = some [.slice none 0 0] := by kernel_rfl
theorem tG25 : ZG Try.prog 25 = some (false, [.slice none 0 0]) := by kernel_rfl
theorem tL25 : EL Try.prog 25 = some 27 := by kernel_rfl
theorem tI26 : TI Try.prog 26 = some (true, 3) := by kernel_rfl
theorem tE26 : EInfo Try.prog 26 = some (3, 56) := by kernel_rfl
theorem tZ26 : ZV Try.prog 26 = some [.string ByteArray.empty, .string ByteArray.empty, .slice none 0 0] := by kernel_rfl
theorem tG26 : ZG Try.prog 26 = some (true, [.string ByteArray.empty, .string ByteArray.empty, .slice none 0 0]) := by kernel_rfl
theorem tF26_0 : FO Try.prog 26 0 = some 0 := by kernel_rfl
theorem tF26_1 : FO Try.prog 26 1 = some 1 := by kernel_rfl
theorem tF26_2 : FO Try.prog 26 2 = some 2 := by kernel_rfl
theorem tP26 : PLs Try.prog 26 = some (.st [(0, 1), (1, 1), (2, 1)]) := by kernel_rfl
theorem tI27 : TI Try.prog 27 = some (true, 3) := by kernel_rfl
theorem tE27 : EInfo Try.prog 27 = some (3, 56) := by kernel_rfl
theorem tZ27 : ZV Try.prog 27 = some [.string ByteArray.empty, .string ByteArray.empty, .slice none 0 0] := by kernel_rfl
theorem tG27 : ZG Try.prog 27 = some (true, [.string ByteArray.empty, .string ByteArray.empty, .slice none 0 0]) := by kernel_rfl
theorem tF27_0 : FO Try.prog 27 0 = some 0 := by kernel_rfl
theorem tF27_1 : FO Try.prog 27 1 = some 1 := by kernel_rfl
theorem tF27_2 : FO Try.prog 27 2 = some 2 := by kernel_rfl
theorem tP27 : PLs Try.prog 27 = some (.st [(0, 1), (1, 1), (2, 1)]) := by kernel_rfl
theorem tI34 : TI Try.prog 34 = some (false, 1) := by kernel_rfl
theorem tE34 : EInfo Try.prog 34 = some (1, 24) := by kernel_rfl
theorem tZ34 : ZV Try.prog 34 = some [.slice none 0 0] := by kernel_rfl
theorem tG34 : ZG Try.prog 34 = some (false, [.slice none 0 0]) := by kernel_rfl
theorem tL34 : EL Try.prog 34 = some 38 := by kernel_rfl
theorem tI36 : TI Try.prog 36 = some (false, 1) := by kernel_rfl
theorem tE36 : EInfo Try.prog 36 = some (1, 24) := by kernel_rfl
theorem tZ36 : ZV Try.prog 36 = some [.slice none 0 0] := by kernel_rfl
theorem tG36 : ZG Try.prog 36 = some (false, [.slice none 0 0]) := by kernel_rfl
theorem tL36 : EL Try.prog 36 = some 59 := by kernel_rfl
theorem tI37 : TI Try.prog 37 = some (true, 2) := by kernel_rfl
theorem tE37 : EInfo Try.prog 37 = some (2, 32) := by kernel_rfl
theorem tZ37 : ZV Try.prog 37 = some [.slice none 0 0, .int .i64 0] := by kernel_rfl
theorem tG37 : ZG Try.prog 37 = some (true, [.slice none 0 0, .int .i64 0]) := by kernel_rfl
theorem tF37_0 : FO Try.prog 37 0 = some 0 := by kernel_rfl
theorem tF37_1 : FO Try.prog 37 1 = some 1 := by kernel_rfl
theorem tP37 : PLs Try.prog 37 = some (.st [(0, 1), (1, 1)]) := by kernel_rfl
theorem tI38 : TI Try.prog 38 = some (true, 2) := by kernel_rfl
theorem tE38 : EInfo Try.prog 38 = some (2, 32) := by kernel_rfl
theorem tZ38 : ZV Try.prog 38 = some [.slice none 0 0, .int .i64 0] := by kernel_rfl
theorem tG38 : ZG Try.prog 38 = some (true, [.slice none 0 0, .int .i64 0]) := by kernel_rfl
theorem tF38_0 : FO Try.prog 38 0 = some 0 := by kernel_rfl
theorem tF38_1 : FO Try.prog 38 1 = some 1 := by kernel_rfl
theorem tP38 : PLs Try.prog 38 = some (.st [(0, 1), (1, 1)]) := by kernel_rfl
theorem tI46 : TI Try.prog 46 = some (false, 1) := by kernel_rfl
theorem tE46 : EInfo Try.prog 46 = some (1, 8) := by kernel_rfl
theorem tZ46 : ZV Try.prog 46 = some [.int .i64 0] := by kernel_rfl
theorem tG46 : ZG Try.prog 46 = some (false, [.int .i64 0]) := by kernel_rfl
theorem tU46 : Try.prog.underlying 46 = some (.int .i64) := by kernel_rfl
theorem tI49 : TI Try.prog 49 = some (false, 1) := by kernel_rfl
theorem tE49 : EInfo Try.prog 49 = some (1, 2) := by kernel_rfl
theorem tZ49 : ZV Try.prog 49 = some [.int .u16 0] := by kernel_rfl
theorem tG49 : ZG Try.prog 49 = some (false, [.int .u16 0]) := by kernel_rfl
theorem tU49 : Try.prog.underlying 49 = some (.int .u16) := by kernel_rfl
theorem tI50 : TI Try.prog 50 = some (false, 1) := by kernel_rfl
theorem tE50 : EInfo Try.prog 50 = some (1, 24) := by kernel_rfl
theorem tZ50 : ZV Try.prog 50 = some [.slice none 0 0] := by kernel_rfl
theorem tG50 : ZG Try.prog 50 = some (false, [.slice none 0 0]) := by kernel_rfl
theorem tL50 : EL Try.prog 50 = some 9 := by kernel_rfl
theorem tI51 : TI Try.prog 51 = some (false, 1) := by kernel_rfl
theorem tE51 : EInfo Try.prog 51 = some (1, 8) := by kernel_rfl
theorem tZ51 : ZV Try.prog 51 = some [.pointer none] := by kernel_rfl
theorem tG51 : ZG Try.prog 51 = some (false, [.pointer none]) := by kernel_rfl
theorem tU51 : Try.prog.underlying 51 = some (.pointer 80) := by kernel_rfl
theorem tI58 : TI Try.prog 58 = some (true, 2) := by kernel_rfl
theorem tE58 : EInfo Try.prog 58 = some (2, 32) := by kernel_rfl
theorem tZ58 : ZV Try.prog 58 = some [.string ByteArray.empty, .string ByteArray.empty] := by kernel_rfl
theorem tG58 : ZG Try.prog 58 = some (true, [.string ByteArray.empty, .string ByteArray.empty]) := by kernel_rfl
theorem tF58_0 : FO Try.prog 58 0 = some 0 := by kernel_rfl
theorem tF58_1 : FO Try.prog 58 1 = some 1 := by kernel_rfl
theorem tP58 : PLs Try.prog 58 = some (.st [(0, 1), (1, 1)]) := by kernel_rfl
theorem tI59 : TI Try.prog 59 = some (true, 2) := by kernel_rfl
theorem tE59 : EInfo Try.prog 59 = some (2, 32) := by kernel_rfl
theorem tZ59 : ZV Try.prog 59 = some [.string ByteArray.empty, .string ByteArray.empty] := by kernel_rfl
theorem tG59 : ZG Try.prog 59 = some (true, [.string ByteArray.empty, .string ByteArray.empty]) := by kernel_rfl
theorem tF59_0 : FO Try.prog 59 0 = some 0 := by kernel_rfl
theorem tF59_1 : FO Try.prog 59 1 = some 1 := by kernel_rfl
theorem tP59 : PLs Try.prog 59 = some (.st [(0, 1), (1, 1)]) := by kernel_rfl
theorem tI65 : TI Try.prog 65 = some (false, 1) := by kernel_rfl
theorem tE65 : EInfo Try.prog 65 = some (1, 8) := by kernel_rfl
theorem tZ65 : ZV Try.prog 65 = some [.map none] := by kernel_rfl
theorem tG65 : ZG Try.prog 65 = some (false, [.map none]) := by kernel_rfl
theorem tU65 : Try.prog.underlying 65 = some (.map 9 90) := by kernel_rfl
theorem tM65 : MT Try.prog 65 = some (9, 90) := by kernel_rfl
theorem tI66 : TI Try.prog 66 = some (false, 1) := by kernel_rfl
theorem tE66 : EInfo Try.prog 66 = some (1, 8) := by kernel_rfl
theorem tZ66 : ZV Try.prog 66 = some [.map none] := by kernel_rfl
theorem tG66 : ZG Try.prog 66 = some (false, [.map none]) := by kernel_rfl
theorem tU66 : Try.prog.underlying 66 = some (.map 9 90) := by kernel_rfl
theorem tM66 : MT Try.prog 66 = some (9, 90) := by kernel_rfl
theorem tI69 : TI Try.prog 69 = some (true, 1) := by kernel_rfl
theorem tE69 : EInfo Try.prog 69 = some (1, 24) := by kernel_rfl
theorem tZ69 : ZV Try.prog 69 = some [.slice none 0 0] := by kernel_rfl
theorem tG69 : ZG Try.prog 69 = some (true, [.slice none 0 0]) := by kernel_rfl
theorem tF69_0 : FO Try.prog 69 0 = some 0 := by kernel_rfl
theorem tP69 : PLs Try.prog 69 = some (.st [(0, 1)]) := by kernel_rfl
theorem tI70 : TI Try.prog 70 = some (true, 1) := by kernel_rfl
theorem tE70 : EInfo Try.prog 70 = some (1, 24) := by kernel_rfl
theorem tZ70 : ZV Try.prog 70 = some [.slice none 0 0] := by kernel_rfl
theorem tG70 : ZG Try.prog 70 = some (true, [.slice none 0 0]) := by kernel_rfl
theorem tF70_0 : FO Try.prog 70 0 = some 0 := by kernel_rfl
theorem tP70 : PLs Try.prog 70 = some (.st [(0, 1)]) := by kernel_rfl
theorem tI72 : TI Try.prog 72 = some (false, 1) := by kernel_rfl
theorem tE72 : EInfo Try.prog 72 = some (1, 8) := by kernel_rfl
theorem tZ72 : ZV Try.prog 72 = some [.pointer none] := by kernel_rfl
theorem tG72 : ZG Try.prog 72 = some (false, [.pointer none]) := by kernel_rfl
theorem tU72 : Try.prog.underlying 72 = some (.pointer 70) := by kernel_rfl
theorem tI74 : TI Try.prog 74 = some (true, 2) := by kernel_rfl
theorem tE74 : EInfo Try.prog 74 = some (2, 16) := by kernel_rfl
theorem tZ74 : ZV Try.prog 74 = some [.pointer none, .int .i64 0] := by kernel_rfl
theorem tG74 : ZG Try.prog 74 = some (true, [.pointer none, .int .i64 0]) := by kernel_rfl
theorem tF74_0 : FO Try.prog 74 0 = some 0 := by kernel_rfl
theorem tF74_1 : FO Try.prog 74 1 = some 1 := by kernel_rfl
theorem tP74 : PLs Try.prog 74 = some (.st [(0, 1), (1, 1)]) := by kernel_rfl
theorem tI75 : TI Try.prog 75 = some (true, 2) := by kernel_rfl
theorem tE75 : EInfo Try.prog 75 = some (2, 16) := by kernel_rfl
theorem tZ75 : ZV Try.prog 75 = some [.pointer none, .int .i64 0] := by kernel_rfl
theorem tG75 : ZG Try.prog 75 = some (true, [.pointer none, .int .i64 0]) := by kernel_rfl
theorem tF75_0 : FO Try.prog 75 0 = some 0 := by kernel_rfl
theorem tF75_1 : FO Try.prog 75 1 = some 1 := by kernel_rfl
theorem tP75 : PLs Try.prog 75 = some (.st [(0, 1), (1, 1)]) := by kernel_rfl
theorem tI79 : TI Try.prog 79 = some (true, 3) := by kernel_rfl
theorem tE79 : EInfo Try.prog 79 = some (3, 32) := by kernel_rfl
theorem tZ79 : ZV Try.prog 79 = some [.string ByteArray.empty, .int .i64 0, .int .i64 0] := by kernel_rfl
theorem tG79 : ZG Try.prog 79 = some (true, [.string ByteArray.empty, .int .i64 0, .int .i64 0]) := by kernel_rfl
theorem tF79_0 : FO Try.prog 79 0 = some 0 := by kernel_rfl
theorem tF79_1 : FO Try.prog 79 1 = some 1 := by kernel_rfl
theorem tF79_2 : FO Try.prog 79 2 = some 2 := by kernel_rfl
theorem tP79 : PLs Try.prog 79 = some (.st [(0, 1), (1, 1), (2, 1)]) := by kernel_rfl
theorem tI80 : TI Try.prog 80 = some (true, 3) := by kernel_rfl
theorem tE80 : EInfo Try.prog 80 = some (3, 32) := by kernel_rfl
theorem tZ80 : ZV Try.prog 80 = some [.string ByteArray.empty, .int .i64 0, .int .i64 0] := by kernel_rfl
theorem tG80 : ZG Try.prog 80 = some (true, [.string ByteArray.empty, .int .i64 0, .int .i64 0]) := by kernel_rfl
theorem tF80_0 : FO Try.prog 80 0 = some 0 := by kernel_rfl
theorem tF80_1 : FO Try.prog 80 1 = some 1 := by kernel_rfl
theorem tF80_2 : FO Try.prog 80 2 = some 2 := by kernel_rfl
theorem tP80 : PLs Try.prog 80 = some (.st [(0, 1), (1, 1), (2, 1)]) := by kernel_rfl
theorem tI87 : TI Try.prog 87 = some (false, 1) := by kernel_rfl
theorem tE87 : EInfo Try.prog 87 = some (1, 8) := by kernel_rfl
theorem tZ87 : ZV Try.prog 87 = some [.int .u64 0] := by kernel_rfl
theorem tG87 : ZG Try.prog 87 = some (false, [.int .u64 0]) := by kernel_rfl
theorem tU87 : Try.prog.underlying 87 = some (.int .u64) := by kernel_rfl
theorem tI90 : TI Try.prog 90 = some (false, 1) := by kernel_rfl
theorem tE90 : EInfo Try.prog 90 = some (1, 8) := by kernel_rfl
theorem tZ90 : ZV Try.prog 90 = some [.pointer none] := by kernel_rfl
theorem tG90 : ZG Try.prog 90 = some (false, [.pointer none]) := by kernel_rfl
theorem tU90 : Try.prog.underlying 90 = some (.pointer 38) := by kernel_rfl
theorem tI95 : TI Try.prog 95 = some (false, 1) := by kernel_rfl
theorem tE95 : EInfo Try.prog 95 = some (1, 8) := by kernel_rfl
theorem tZ95 : ZV Try.prog 95 = some [.pointer none] := by kernel_rfl
theorem tG95 : ZG Try.prog 95 = some (false, [.pointer none]) := by kernel_rfl
theorem tU95 : Try.prog.underlying 95 = some (.pointer 75) := by kernel_rfl
theorem tI96 : TI Try.prog 96 = some (false, 1) := by kernel_rfl
theorem tE96 : EInfo Try.prog 96 = some (1, 8) := by kernel_rfl
theorem tZ96 : ZV Try.prog 96 = some [.int .u64 0] := by kernel_rfl
theorem tG96 : ZG Try.prog 96 = some (false, [.int .u64 0]) := by kernel_rfl
theorem tU96 : Try.prog.underlying 96 = some (.int .u64) := by kernel_rfl
theorem tI100 : TI Try.prog 100 = some (false, 1) := by kernel_rfl
theorem tE100 : EInfo Try.prog 100 = some (1, 24) := by kernel_rfl
theorem tZ100 : ZV Try.prog 100 = some [.slice none 0 0] := by kernel_rfl
theorem tG100 : ZG Try.prog 100 = some (false, [.slice none 0 0]) := by kernel_rfl
theorem tL100 : EL Try.prog 100 = some 3 := by kernel_rfl
theorem tI103 : TI Try.prog 103 = some (false, 1) := by kernel_rfl
theorem tE103 : EInfo Try.prog 103 = some (1, 8) := by kernel_rfl
theorem tZ103 : ZV Try.prog 103 = some [.int .i64 0] := by kernel_rfl
theorem tG103 : ZG Try.prog 103 = some (false, [.int .i64 0]) := by kernel_rfl
theorem tU103 : Try.prog.underlying 103 = some (.int .i64) := by kernel_rfl
theorem tI111 : TI Try.prog 111 = some (false, 1) := by kernel_rfl
theorem tE111 : EInfo Try.prog 111 = some (1, 4) := by kernel_rfl
theorem tZ111 : ZV Try.prog 111 = some [.int .u32 0] := by kernel_rfl
theorem tG111 : ZG Try.prog 111 = some (false, [.int .u32 0]) := by kernel_rfl
theorem tU111 : Try.prog.underlying 111 = some (.int .u32) := by kernel_rfl
theorem tI117 : TI Try.prog 117 = some (false, 1) := by kernel_rfl
theorem tE117 : EInfo Try.prog 117 = some (1, 8) := by kernel_rfl
theorem tZ117 : ZV Try.prog 117 = some [.int .u64 0] := by kernel_rfl
theorem tG117 : ZG Try.prog 117 = some (false, [.int .u64 0]) := by kernel_rfl
theorem tU117 : Try.prog.underlying 117 = some (.int .u64) := by kernel_rfl
theorem tI121 : TI Try.prog 121 = some (false, 1) := by kernel_rfl
theorem tE121 : EInfo Try.prog 121 = some (1, 8) := by kernel_rfl
theorem tZ121 : ZV Try.prog 121 = some [.pointer none] := by kernel_rfl
theorem tG121 : ZG Try.prog 121 = some (false, [.pointer none]) := by kernel_rfl
theorem tU121 : Try.prog.underlying 121 = some (.pointer 3) := by kernel_rfl
theorem tI128 : TI Try.prog 128 = some (false, 1) := by kernel_rfl
theorem tE128 : EInfo Try.prog 128 = some (1, 8) := by kernel_rfl
theorem tZ128 : ZV Try.prog 128 = some [.pointer none] := by kernel_rfl
theorem tG128 : ZG Try.prog 128 = some (false, [.pointer none]) := by kernel_rfl
theorem tU128 : Try.prog.underlying 128 = some (.pointer 117) := by kernel_rfl
theorem tI134 : TI Try.prog 134 = some (true, 4) := by kernel_rfl
theorem tE134 : EInfo Try.prog 134 = some (4, 40) := by kernel_rfl
theorem tZ134 : ZV Try.prog 134 = some [.pointer none, .pointer none, .pointer none, .string ByteArray.empty] := by kernel_rfl
theorem tG134 : ZG Try.prog 134 = some (true, [.pointer none, .pointer none, .pointer none, .string ByteArray.empty]) := by kernel_rfl
theorem tF134_0 : FO Try.prog 134 0 = some 0 := by kernel_rfl
theorem tF134_1 : FO Try.prog 134 1 = some 1 := by kernel_rfl
theorem tF134_2 : FO Try.prog 134 2 = some 2 := by kernel_rfl
theorem tF134_3 : FO Try.prog 134 3 = some 3 := by kernel_rfl
theorem tP134 : PLs Try.prog 134 = some (.st [(0, 1), (1, 1), (2, 1), (3, 1)]) := by kernel_rfl
theorem tI142 : TI Try.prog 142 = some (false, 1) := by kernel_rfl
theorem tE142 : EInfo Try.prog 142 = some (1, 8) := by kernel_rfl
theorem tZ142 : ZV Try.prog 142 = some [.pointer none] := by kernel_rfl
theorem tG142 : ZG Try.prog 142 = some (false, [.pointer none]) := by kernel_rfl
theorem tU142 : Try.prog.underlying 142 = some (.pointer 5) := by kernel_rfl
theorem tI145 : TI Try.prog 145 = some (true, 11) := by kernel_rfl
theorem tE145 : EInfo Try.prog 145 = some (11, 48) := by kernel_rfl
theorem tZ145 : ZV Try.prog 145 = some [.int .u64 0, .int .u64 0, .int .u32 0, .int .u8 0, .int .u8 0, .int .u8 0, .int .u8 0, .nilFunc, .pointer none, .int .i32 0, .int .i32 0] := by kernel_rfl
theorem tG145 : ZG Try.prog 145 = some (true, [.int .u64 0, .int .u64 0, .int .u32 0, .int .u8 0, .int .u8 0, .int .u8 0, .int .u8 0, .nilFunc, .pointer none, .int .i32 0, .int .i32 0]) := by kernel_rfl
theorem tF145_0 : FO Try.prog 145 0 = some 0 := by kernel_rfl
theorem tF145_1 : FO Try.prog 145 1 = some 1 := by kernel_rfl
theorem tF145_2 : FO Try.prog 145 2 = some 2 := by kernel_rfl
theorem tF145_3 : FO Try.prog 145 3 = some 3 := by kernel_rfl
theorem tF145_4 : FO Try.prog 145 4 = some 4 := by kernel_rfl
theorem tF145_5 : FO Try.prog 145 5 = some 5 := by kernel_rfl
theorem tF145_6 : FO Try.prog 145 6 = some 6 := by kernel_rfl
theorem tF145_7 : FO Try.prog 145 7 = some 7 := by kernel_rfl
theorem tF145_8 : FO Try.prog 145 8 = some 8 := by kernel_rfl
theorem tF145_9 : FO Try.prog 145 9 = some 9 := by kernel_rfl
theorem tF145_10 : FO Try.prog 145 10 = some 10 := by kernel_rfl
theorem tP145 : PLs Try.prog 145 = some (.st [(0, 1), (1, 1), (2, 1), (3, 1), (4, 1), (5, 1), (6, 1), (7, 1), (8, 1), (9, 1), (10, 1)]) := by kernel_rfl
theorem tI148 : TI Try.prog 148 = some (false, 1) := by kernel_rfl
theorem tE148 : EInfo Try.prog 148 = some (1, 8) := by kernel_rfl
theorem tZ148 : ZV Try.prog 148 = some [.pointer none] := by kernel_rfl
theorem tG148 : ZG Try.prog 148 = some (false, [.pointer none]) := by kernel_rfl
theorem kd9 : Maps.Keyed Try.prog 9 := Maps.string_keyed tU9
attribute [go_sem] tI2 tE2 tZ2 tG2 tU2 tI3 tE3 tZ3 tG3 tU3 tI4 tE4 tZ4 tG4 tU4 tI5 tE5 tZ5 tG5 tU5 tI7 tE7 tZ7 tG7 tF7_0 tF7_1 tF7_2 tF7_3 tP7 tI9 tE9 tZ9 tG9 tU9 tI12 tE12 tZ12 tG12 tU12 tI13 tE13 tZ13 tG13 tF13_0 tF13_1 tP13 tI18 tE18 tZ18 tG18 tF18_0 tP18 tI19 tE19 tZ19 tG19 tF19_0 tP19 tI20 tE20 tZ20 tG20 tI21 tE21 tZ21 tG21 tU21 tI22 tE22 tZ22 tG22 tL22 tI23 tE23 tZ23 tG23 tL23 tI25 tE25 tZ25 tG25 tL25 tI26 tE26 tZ26 tG26 tF26_0 tF26_1 tF26_2 tP26 tI27 tE27 tZ27 tG27 tF27_0 tF27_1 tF27_2 tP27 tI34 tE34 tZ34 tG34 tL34 tI36 tE36 tZ36 tG36 tL36 tI37 tE37 tZ37 tG37 tF37_0 tF37_1 tP37 tI38 tE38 tZ38 tG38 tF38_0 tF38_1 tP38 tI46 tE46 tZ46 tG46 tU46 tI49 tE49 tZ49 tG49 tU49 tI50 tE50 tZ50 tG50 tL50 tI51 tE51 tZ51 tG51 tU51 tI58 tE58 tZ58 tG58 tF58_0 tF58_1 tP58 tI59 tE59 tZ59 tG59 tF59_0 tF59_1 tP59 tI65 tE65 tZ65 tG65 tU65 tM65 tI66 tE66 tZ66 tG66 tU66 tM66 tI69 tE69 tZ69 tG69 tF69_0 tP69 tI70 tE70 tZ70 tG70 tF70_0 tP70 tI72 tE72 tZ72 tG72 tU72 tI74 tE74 tZ74 tG74 tF74_0 tF74_1 tP74 tI75 tE75 tZ75 tG75 tF75_0 tF75_1 tP75 tI79 tE79 tZ79 tG79 tF79_0 tF79_1 tF79_2 tP79 tI80 tE80 tZ80 tG80 tF80_0 tF80_1 tF80_2 tP80 tI87 tE87 tZ87 tG87 tU87 tI90 tE90 tZ90 tG90 tU90 tI95 tE95 tZ95 tG95 tU95 tI96 tE96 tZ96 tG96 tU96 tI100 tE100 tZ100 tG100 tL100 tI103 tE103 tZ103 tG103 tU103 tI111 tE111 tZ111 tG111 tU111 tI117 tE117 tZ117 tG117 tU117 tI121 tE121 tZ121 tG121 tU121 tI128 tE128 tZ128 tG128 tU128 tI134 tE134 tZ134 tG134 tF134_0 tF134_1 tF134_2 tF134_3 tP134 tI142 tE142 tZ142 tG142 tU142 tI145 tE145 tZ145 tG145 tF145_0 tF145_1 tF145_2 tF145_3 tF145_4 tF145_5 tF145_6 tF145_7 tF145_8 tF145_9 tF145_10 tP145 tI148 tE148 tZ148 tG148
end Go.Proofs.Ytegcmciglakicaa
