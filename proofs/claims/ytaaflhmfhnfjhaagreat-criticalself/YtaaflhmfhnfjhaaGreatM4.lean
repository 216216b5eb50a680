import Derived.Test.YtaaflhmfhnfjhaaGreatM3
import Derived.DeepKeys4
import Derived.Test.YtaaflhmfhnfjhaaGreatProg
set_option linter.unusedVariables false
set_option linter.unusedSimpArgs false
set_option maxHeartbeats 8000000
set_option maxRecDepth 100000
/-
  CTya: the facts of the program's types, for the reckoning.
-/
namespace Go.Proofs.YtaaflhmfhnfjhaaGreat
open Go Go.RowKit Go.Exe

theorem tI2 : TI Tryz.prog 2 = some (false, 1) := by kernel_rfl
theorem tE2 : EInfo Tryz.prog 2 = some (1, 8) := by kernel_rfl
theorem tZ2 : ZV Tryz.prog 2 = some [.int .i64 0] := by kernel_rfl
theorem tG2 : ZG Tryz.prog 2 = some (false, [.int .i64 0]) := by kernel_rfl
theorem tU2 : Tryz.prog.underlying 2 = some (.int .i64) := by kernel_rfl
theorem tI3 : TI Tryz.prog 3 = some (false, 1) := by kernel_rfl
theorem tE3 : EInfo Tryz.prog 3 = some (1, 8) := by kernel_rfl
theorem tZ3 : ZV Tryz.prog 3 = some [.int .i64 0] := by kernel_rfl
theorem tG3 : ZG Tryz.prog 3 = some (false, [.int .i64 0]) := by kernel_rfl
theorem tU3 : Tryz.prog.underlying 3 = some (.int .i64) := by kernel_rfl
theorem tI4 : TI Tryz.prog 4 = some (false, 1) := by kernel_rfl
theorem tE4 : EInfo Tryz.prog 4 = some (1, 1) := by kernel_rfl
theorem tZ4 : ZV Tryz.prog 4 = some [.bool false] := by kernel_rfl
theorem tG4 : ZG Tryz.prog 4 = some (false, [.bool false]) := by kernel_rfl
theorem tU4 : Tryz.prog.underlying 4 = some .bool := by kernel_rfl
theorem tI5 : TI Tryz.prog 5 = some (false, 1) := by kernel_rfl
theorem tE5 : EInfo Tryz.prog 5 = some (1, 1) := by kernel_rfl
theorem tZ5 : ZV Tryz.prog 5 = some [.int .u8 0] := by kernel_rfl
theorem tG5 : ZG Tryz.prog 5 = some (false, [.int .u8 0]) := by kernel_rfl
theorem tU5 : Tryz.prog.underlying 5 = some (.int .u8) := by kernel_rfl
theorem tI7 : TI Tryz.prog 7 = some (true, 4) := by kernel_rfl
theorem tE7 : EInfo Tryz.prog 7 = some (4, 24) := by kernel_rfl
theorem tZ7 : ZV Tryz.prog 7 = some [.int .i64 0, .int .i64 0, .bool false, .int .u8 0] := by kernel_rfl
theorem tG7 : ZG Tryz.prog 7 = some (true, [.int .i64 0, .int .i64 0, .bool false, .int .u8 0]) := by kernel_rfl
theorem tF7_0 : FO Tryz.prog 7 0 = some 0 := by kernel_rfl
theorem tF7_1 : FO Tryz.prog 7 1 = some 1 := by kernel_rfl
theorem tF7_2 : FO Tryz.prog 7 2 = some 2 := by kernel_rfl
theorem tF7_3 : FO Tryz.prog 7 3 = some 3 := by kernel_rfl
theorem tP7 : PLs Tryz.prog 7 = some (.st [(0, 1), (1, 1), (2, 1), (3, 1)]) := by kernel_rfl
theorem tI9 : TI Tryz.prog 9 = some (false, 1) := by kernel_rfl
theorem tE9 : EInfo Tryz.prog 9 = some (1, 16) := by kernel_rfl
theorem tZ9 : ZV Tryz.prog 9 = some [.string ByteArray.empty] := by kernel_rfl
theorem tG9 : ZG Tryz.prog 9 = some (false, [.string ByteArray.empty]) := by kernel_rfl
theorem tU9 : Tryz.prog.underlying 9 = some .string := by kernel_rfl
theorem tI12 : TI Tryz.prog 12 = some (false, 1) := by kernel_rfl
theorem tE12 : EInfo Tryz.prog 12 = some (1, 8) := by kernel_rfl
theorem tZ12 : ZV Tryz.prog 12 = some [.int .u64 0] := by kernel_rfl
theorem tG12 : ZG Tryz.prog 12 = some (false, [.int .u64 0]) := by kernel_rfl
theorem tU12 : Tryz.prog.underlying 12 = some (.int .u64) := by kernel_rfl
theorem tI13 : TI Tryz.prog 13 = some (true, 2) := by kernel_rfl
theorem tE13 : EInfo Tryz.prog 13 = some (2, 24) := by kernel_rfl
theorem tZ13 : ZV Tryz.prog 13 = some [.string ByteArray.empty, .int .u64 0] := by kernel_rfl
theorem tG13 : ZG Tryz.prog 13 = some (true, [.string ByteArray.empty, .int .u64 0]) := by kernel_rfl
theorem tF13_0 : FO Tryz.prog 13 0 = some 0 := by kernel_rfl
theorem tF13_1 : FO Tryz.prog 13 1 = some 1 := by kernel_rfl
theorem tP13 : PLs Tryz.prog 13 = some (.st [(0, 1), (1, 1)]) := by kernel_rfl
theorem tI18 : TI Tryz.prog 18 = some (true, 1) := by kernel_rfl
theorem tE18 : EInfo Tryz.prog 18 = some (1, 8) := by kernel_rfl
theorem tZ18 : ZV Tryz.prog 18 = some [.pointer none] := by kernel_rfl
theorem tG18 : ZG Tryz.prog 18 = some (true, [.pointer none]) := by kernel_rfl
theorem tF18_0 : FO Tryz.prog 18 0 = some 0 := by kernel_rfl
theorem tP18 : PLs Tryz.prog 18 = some (.st [(0, 1)]) := by kernel_rfl
theorem tI19 : TI Tryz.prog 19 = some (true, 1) := by kernel_rfl
theorem tE19 : EInfo Tryz.prog 19 = some (1, 8) := by kernel_rfl
theorem tZ19 : ZV Tryz.prog 19 = some [.pointer none] := by kernel_rfl
theorem tG19 : ZG Tryz.prog 19 = some (true, [.pointer none]) := by kernel_rfl
theorem tF19_0 : FO Tryz.prog 19 0 = some 0 := by kernel_rfl
theorem tP19 : PLs Tryz.prog 19 = some (.st [(0, 1)]) := by kernel_rfl
theorem tI20 : TI Tryz.prog 20 = some (false, 1) := by kernel_rfl
theorem tE20 : EInfo Tryz.prog 20 = some (1, 16) := by kernel_rfl
theorem tZ20 : ZV Tryz.prog 20 = some [.nilIface] := by kernel_rfl
theorem tG20 : ZG Tryz.prog 20 = some (false, [.nilIface]) := by kernel_rfl
theorem tI21 : TI Tryz.prog 21 = some (false, 1) := by kernel_rfl
theorem tE21 : EInfo Tryz.prog 21 = some (1, 4) := by kernel_rfl
theorem tZ21 : ZV Tryz.prog 21 = some [.int .i32 0] := by kernel_rfl
theorem tG21 : ZG Tryz.prog 21 = some (false, [.int .i32 0]) := by kernel_rfl
theorem tU21 : Tryz.prog.underlying 21 = some (.int .i32) := by kernel_rfl
theorem tI22 : TI Tryz.prog 22 = some (false, 1) := by kernel_rfl
theorem tE22 : EInfo Tryz.prog 22 = some (1, 24) := by kernel_rfl
theorem tZ22 : ZV Tryz.prog 22 = some [.slice none 0 0] := by kernel_rfl
theorem tG22 : ZG Tryz.prog 22 = some (false, [.slice none 0 0]) := by kernel_rfl
theorem tL22 : EL Tryz.prog 22 = some 88 := by kernel_rfl
theorem tI23 : TI Tryz.prog 23 = some (false, 1) := by kernel_rfl
theorem tE23 : EInfo Tryz.prog 23 = some (1, 1) := by kernel_rfl
theorem tZ23 : ZV Tryz.prog 23 = some [.int .i8 0] := by kernel_rfl
theorem tG23 : ZG Tryz.prog 23 = some (false, [.int .i8 0]) := by kernel_rfl
theorem tU23 : Tryz.prog.underlying 23 = some (.int .i8) := by kernel_rfl
theorem tI24 : TI Tryz.prog 24 = some (true, 4) := by kernel_rfl
theorem tE24 : EInfo Tryz.prog 24 = some (4, 4) := by kernel_rfl
theorem tZ24 : ZV Tryz.prog 24 = some [.int .i8 0, .int .i8 0, .int .i8 0, .int .i8 0] := by kernel_rfl
theorem tG24 : ZG Tryz.prog 24 = some (true, [.int .i8 0, .int .i8 0, .int .i8 0, .int .i8 0]) := by kernel_rfl
theorem tP24 : PLs Tryz.prog 24 = some (.ar 1) := by kernel_rfl
theorem tI25 : TI Tryz.prog 25 = some (false, 1) := by kernel_rfl
theorem tE25 : EInfo Tryz.prog 25 = some (1, 24) := by kernel_rfl
theorem tZ25 : ZV Tryz.prog 25 = some [.slice none 0 0] := by kernel_rfl
theorem tG25 : ZG Tryz.prog 25 = some (false, [.slice none 0 0]) := by kernel_rfl
theorem tL25 : EL Tryz.prog 25 = some 233 := by kernel_rfl
theorem tI26 : TI Tryz.prog 26 = some (true, 7) := by kernel_rfl
theorem tE26 : EInfo Tryz.prog 26 = some (7, 64) := by kernel_rfl
theorem tZ26 : ZV Tryz.prog 26 = some [.slice none 0 0, .int .i8 0, .int .i8 0, .int .i8 0, .int .i8 0, .slice none 0 0, .int .u8 0] := by kernel_rfl
theorem tG26 : ZG Tryz.prog 26 = some (true, [.slice none 0 0, .int .i8 0, .int .i8 0, .int .i8 0, .int .i8 0, .slice none 0 0, .int .u8 0]) := by kernel_rfl
theorem tF26_0 : FO Tryz.prog 26 0 = some 0 := by kernel_rfl
theorem tF26_1 : FO Tryz.prog 26 1 = some 1 := by kernel_rfl
theorem tF26_2 : FO Tryz.prog 26 2 = some 5 := by kernel_rfl
theorem tF26_3 : FO Tryz.prog 26 3 = some 6 := by kernel_rfl
theorem tP26 : PLs Tryz.prog 26 = some (.st [(0, 1), (1, 4), (5, 1), (6, 1)]) := by kernel_rfl
theorem tI27 : TI Tryz.prog 27 = some (true, 7) := by kernel_rfl
theorem tE27 : EInfo Tryz.prog 27 = some (7, 64) := by kernel_rfl
theorem tZ27 : ZV Tryz.prog 27 = some [.slice none 0 0, .int .i8 0, .int .i8 0, .int .i8 0, .int .i8 0, .slice none 0 0, .int .u8 0] := by kernel_rfl
theorem tG27 : ZG Tryz.prog 27 = some (true, [.slice none 0 0, .int .i8 0, .int .i8 0, .int .i8 0, .int .i8 0, .slice none 0 0, .int .u8 0]) := by kernel_rfl
theorem tF27_0 : FO Tryz.prog 27 0 = some 0 := by kernel_rfl
theorem tF27_1 : FO Tryz.prog 27 1 = some 1 := by kernel_rfl
theorem tF27_2 : FO Tryz.prog 27 2 = some 5 := by kernel_rfl
theorem tF27_3 : FO Tryz.prog 27 3 = some 6 := by kernel_rfl
theorem tP27 : PLs Tryz.prog 27 = some (.st [(0, 1), (1, 4), (5, 1), (6, 1)]) := by kernel_rfl
theorem tI29 : TI Tryz.prog 29 = some (false, 1) := by kernel_rfl
theorem tE29 : EInfo Tryz.prog 29 = some (1, 24) := by kernel_rfl
theorem tZ29 : ZV Tryz.prog 29 = some [.slice none 0 0] := by kernel_rfl
theorem tG29 : ZG Tryz.prog 29 = some (false, [.slice none 0 0]) := by kernel_rfl
theorem tL29 : EL Tryz.prog 29 = some 36 := by kernel_rfl
theorem tI30 : TI Tryz.prog 30 = some (false, 1) := by kernel_rfl
theorem tE30 : EInfo Tryz.prog 30 = some (1, 24) := by kernel_rfl
theorem tZ30 : ZV Tryz.prog 30 = some [.slice none 0 0] := by kernel_rfl
theorem tG30 : ZG Tryz.prog 30 = some (false, [.slice none 0 0]) := by kernel_rfl
theorem tL30 : EL Tryz.prog 30 = some 80 := by kernel_rfl
theorem tI33 : TI Tryz.prog 33 = some (false, 1) := by kernel_rfl
theorem tE33 : EInfo Tryz.prog 33 = some (1, 24) := by kernel_rfl
theorem tZ33 : ZV Tryz.prog 33 = some [.slice none 0 0] := by kernel_rfl
theorem tG33 : ZG Tryz.prog 33 = some (false, [.slice none 0 0]) := by kernel_rfl
theorem tL33 : EL Tryz.prog 33 = some 177 := by kernel_rfl
theorem tI34 : TI Tryz.prog 34 = some (false, 1) := by kernel_rfl
theorem tE34 : EInfo Tryz.prog 34 = some (1, 24) := by kernel_rfl
theorem tZ34 : ZV Tryz.prog 34 = some [.slice none 0 0] := by kernel_rfl
theorem tG34 : ZG Tryz.prog 34 = some (false, [.slice none 0 0]) := by kernel_rfl
theorem tL34 : EL Tryz.prog 34 = some 50 := by kernel_rfl
theorem tI35 : TI Tryz.prog 35 = some (true, 14) := by kernel_rfl
theorem tE35 : EInfo Tryz.prog 35 = some (14, 168) := by kernel_rfl
theorem tZ35 : ZV Tryz.prog 35 = some [.int .i64 0, .int .i64 0, .int .i64 0, .int .i64 0, .int .i64 0, .int .i64 0, .string ByteArray.empty, .string ByteArray.empty, .string ByteArray.empty, .int .i64 0, .int .i64 0, .bool false, .slice none 0 0, .slice none 0 0] := by kernel_rfl
theorem tG35 : ZG Tryz.prog 35 = some (true, [.int .i64 0, .int .i64 0, .int .i64 0, .int .i64 0, .int .i64 0, .int .i64 0, .string ByteArray.empty, .string ByteArray.empty, .string ByteArray.empty, .int .i64 0, .int .i64 0, .bool false, .slice none 0 0, .slice none 0 0]) := by kernel_rfl
theorem tF35_0 : FO Tryz.prog 35 0 = some 0 := by kernel_rfl
theorem tF35_1 : FO Tryz.prog 35 1 = some 1 := by kernel_rfl
theorem tF35_2 : FO Tryz.prog 35 2 = some 2 := by kernel_rfl
theorem tF35_3 : FO Tryz.prog 35 3 = some 3 := by kernel_rfl
theorem tF35_4 : FO Tryz.prog 35 4 = some 4 := by kernel_rfl
theorem tF35_5 : FO Tryz.prog 35 5 = some 5 := by kernel_rfl
theorem tF35_6 : FO Tryz.prog 35 6 = some 6 := by kernel_rfl
theorem tF35_7 : FO Tryz.prog 35 7 = some 7 := by kernel_rfl
theorem tF35_8 : FO Tryz.prog 35 8 = some 8 := by kernel_rfl
theorem tF35_9 : FO Tryz.prog 35 9 = some 9 := by kernel_rfl
theorem tF35_10 : FO Tryz.prog 35 10 = some 10 := by kernel_rfl
theorem tF35_11 : FO Tryz.prog 35 11 = some 11 := by kernel_rfl
theorem tF35_12 : FO Tryz.prog 35 12 = some 12 := by kernel_rfl
theorem tF35_13 : FO Tryz.prog 35 13 = some 13 := by kernel_rfl
theorem tP35 : PLs Tryz.prog 35 = some (.st [(0, 1), (1, 1), (2, 1), (3, 1), (4, 1), (5, 1), (6, 1), (7, 1), (8, 1), (9, 1), (10, 1), (11, 1), (12, 1), (13, 1)]) := by kernel_rfl
theorem tI36 : TI Tryz.prog 36 = some (true, 14) := by kernel_rfl
theorem tE36 : EInfo Tryz.prog 36 = some (14, 168) := by kernel_rfl
theorem tZ36 : ZV Tryz.prog 36 = some [.int .i64 0, .int .i64 0, .int .i64 0, .int .i64 0, .int .i64 0, .int .i64 0, .string ByteArray.empty, .string ByteArray.empty, .string ByteArray.empty, .int .i64 0, .int .i64 0, .bool false, .slice none 0 0, .slice none 0 0] := by kernel_rfl
theorem tG36 : ZG Tryz.prog 36 = some (true, [.int .i64 0, .int .i64 0, .int .i64 0, .int .i64 0, .int .i64 0, .int .i64 0, .string ByteArray.empty, .string ByteArray.empty, .string ByteArray.empty, .int .i64 0, .int .i64 0, .bool false, .slice none 0 0, .slice none 0 0]) := by kernel_rfl
theorem tF36_0 : FO Tryz.prog 36 0 = some 0 := by kernel_rfl
theorem tF36_1 : FO Tryz.prog 36 1 = some 1 := by kernel_rfl
theorem tF36_2 : FO Tryz.prog 36 2 = some 2 := by kernel_rfl
theorem tF36_3 : FO Tryz.prog 36 3 = some 3 := by kernel_rfl
theorem tF36_4 : FO Tryz.prog 36 4 = some 4 := by kernel_rfl
theorem tF36_5 : FO Tryz.prog 36 5 = some 5 := by kernel_rfl
theorem tF36_6 : FO Tryz.prog 36 6 = some 6 := by kernel_rfl
theorem tF36_7 : FO Tryz.prog 36 7 = some 7 := by kernel_rfl
theorem tF36_8 : FO Tryz.prog 36 8 = some 8 := by kernel_rfl
theorem tF36_9 : FO Tryz.prog 36 9 = some 9 := by kernel_rfl
theorem tF36_10 : FO Tryz.prog 36 10 = some 10 := by kernel_rfl
theorem tF36_11 : FO Tryz.prog 36 11 = some 11 := by kernel_rfl
theorem tF36_12 : FO Tryz.prog 36 12 = some 12 := by kernel_rfl
theorem tF36_13 : FO Tryz.prog 36 13 = some 13 := by kernel_rfl
theorem tP36 : PLs Tryz.prog 36 = some (.st [(0, 1), (1, 1), (2, 1), (3, 1), (4, 1), (5, 1), (6, 1), (7, 1), (8, 1), (9, 1), (10, 1), (11, 1), (12, 1), (13, 1)]) := by kernel_rfl
theorem tI37 : TI Tryz.prog 37 = some (false, 1) := by kernel_rfl
theorem tE37 : EInfo Tryz.prog 37 = some (1, 24) := by kernel_rfl
theorem tZ37 : ZV Tryz.prog 37 = some [.slice none 0 0] := by kernel_rfl
theorem tG37 : ZG Tryz.prog 37 = some (false, [.slice none 0 0]) := by kernel_rfl
theorem tL37 : EL Tryz.prog 37 = some 66 := by kernel_rfl
theorem tI38 : TI Tryz.prog 38 = some (false, 1) := by kernel_rfl
theorem tE38 : EInfo Tryz.prog 38 = some (1, 8) := by kernel_rfl
theorem tZ38 : ZV Tryz.prog 38 = some [.int .i64 0] := by kernel_rfl
theorem tG38 : ZG Tryz.prog 38 = some (false, [.int .i64 0]) := by kernel_rfl
theorem tU38 : Tryz.prog.underlying 38 = some (.int .i64) := by kernel_rfl
theorem tI43 : TI Tryz.prog 43 = some (true, 6) := by kernel_rfl
theorem tE43 : EInfo Tryz.prog 43 = some (6, 6) := by kernel_rfl
theorem tZ43 : ZV Tryz.prog 43 = some [.int .u8 0, .int .u8 0, .int .u8 0, .int .u8 0, .int .u8 0, .int .u8 0] := by kernel_rfl
theorem tG43 : ZG Tryz.prog 43 = some (true, [.int .u8 0, .int .u8 0, .int .u8 0, .int .u8 0, .int .u8 0, .int .u8 0]) := by kernel_rfl
theorem tP43 : PLs Tryz.prog 43 = some (.ar 1) := by kernel_rfl
theorem tI49 : TI Tryz.prog 49 = some (true, 2) := by kernel_rfl
theorem tE49 : EInfo Tryz.prog 49 = some (2, 16) := by kernel_rfl
theorem tZ49 : ZV Tryz.prog 49 = some [.int .i64 0, .int .i64 0] := by kernel_rfl
theorem tG49 : ZG Tryz.prog 49 = some (true, [.int .i64 0, .int .i64 0]) := by kernel_rfl
theorem tF49_0 : FO Tryz.prog 49 0 = some 0 := by kernel_rfl
theorem tF49_1 : FO Tryz.prog 49 1 = some 1 := by kernel_rfl
theorem tP49 : PLs Tryz.prog 49 = some (.st [(0, 1), (1, 1)]) := by kernel_rfl
theorem tI50 : TI Tryz.prog 50 = some (true, 2) := by kernel_rfl
theorem tE50 : EInfo Tryz.prog 50 = some (2, 16) := by kernel_rfl
theorem tZ50 : ZV Tryz.prog 50 = some [.int .i64 0, .int .i64 0] := by kernel_rfl
theorem tG50 : ZG Tryz.prog 50 = some (true, [.int .i64 0, .int .i64 0]) := by kernel_rfl
theorem tF50_0 : FO Tryz.prog 50 0 = some 0 := by kernel_rfl
theorem tF50_1 : FO Tryz.prog 50 1 = some 1 := by kernel_rfl
theorem tP50 : PLs Tryz.prog 50 = some (.st [(0, 1), (1, 1)]) := by kernel_rfl
theorem tI51 : TI Tryz.prog 51 = some (true, 3) := by kernel_rfl
theorem tE51 : EInfo Tryz.prog 51 = some (3, 24) := by kernel_rfl
theorem tZ51 : ZV Tryz.prog 51 = some [.int .i64 0, .int .i64 0, .bool false] := by kernel_rfl
theorem tG51 : ZG Tryz.prog 51 = some (true, [.int .i64 0, .int .i64 0, .bool false]) := by kernel_rfl
theorem tF51_0 : FO Tryz.prog 51 0 = some 0 := by kernel_rfl
theorem tF51_1 : FO Tryz.prog 51 1 = some 2 := by kernel_rfl
theorem tP51 : PLs Tryz.prog 51 = some (.st [(0, 2), (2, 1)]) := by kernel_rfl
theorem tI52 : TI Tryz.prog 52 = some (true, 3) := by kernel_rfl
theorem tE52 : EInfo Tryz.prog 52 = some (3, 24) := by kernel_rfl
theorem tZ52 : ZV Tryz.prog 52 = some [.int .i64 0, .int .i64 0, .bool false] := by kernel_rfl
theorem tG52 : ZG Tryz.prog 52 = some (true, [.int .i64 0, .int .i64 0, .bool false]) := by kernel_rfl
theorem tF52_0 : FO Tryz.prog 52 0 = some 0 := by kernel_rfl
theorem tF52_1 : FO Tryz.prog 52 1 = some 2 := by kernel_rfl
theorem tP52 : PLs Tryz.prog 52 = some (.st [(0, 2), (2, 1)]) := by kernel_rfl
theorem tI56 : TI Tryz.prog 56 = some (false, 1) := by kernel_rfl
theorem tE56 : EInfo Tryz.prog 56 = some (1, 24) := by kernel_rfl
theorem tZ56 : ZV Tryz.prog 56 = some [.slice none 0 0] := by kernel_rfl
theorem tG56 : ZG Tryz.prog 56 = some (false, [.slice none 0 0]) := by kernel_rfl
theorem tL56 : EL Tryz.prog 56 = some 193 := by kernel_rfl
theorem tI57 : TI Tryz.prog 57 = some (true, 4) := by kernel_rfl
theorem tE57 : EInfo Tryz.prog 57 = some (4, 80) := by kernel_rfl
theorem tZ57 : ZV Tryz.prog 57 = some [.slice none 0 0, .slice none 0 0, .slice none 0 0, .int .i64 0] := by kernel_rfl
theorem tG57 : ZG Tryz.prog 57 = some (true, [.slice none 0 0, .slice none 0 0, .slice none 0 0, .int .i64 0]) := by kernel_rfl
theorem tF57_0 : FO Tryz.prog 57 0 = some 0 := by kernel_rfl
theorem tF57_1 : FO Tryz.prog 57 1 = some 1 := by kernel_rfl
theorem tF57_2 : FO Tryz.prog 57 2 = some 2 := by kernel_rfl
theorem tF57_3 : FO Tryz.prog 57 3 = some 3 := by kernel_rfl
theorem tP57 : PLs Tryz.prog 57 = some (.st [(0, 1), (1, 1), (2, 1), (3, 1)]) := by kernel_rfl
theorem tI58 : TI Tryz.prog 58 = some (true, 4) := by kernel_rfl
theorem tE58 : EInfo Tryz.prog 58 = some (4, 80) := by kernel_rfl
theorem tZ58 : ZV Tryz.prog 58 = some [.slice none 0 0, .slice none 0 0, .slice none 0 0, .int .i64 0] := by kernel_rfl
theorem tG58 : ZG Tryz.prog 58 = some (true, [.slice none 0 0, .slice none 0 0, .slice none 0 0, .int .i64 0]) := by kernel_rfl
theorem tF58_0 : FO Tryz.prog 58 0 = some 0 := by kernel_rfl
theorem tF58_1 : FO Tryz.prog 58 1 = some 1 := by kernel_rfl
theorem tF58_2 : FO Tryz.prog 58 2 = some 2 := by kernel_rfl
theorem tF58_3 : FO Tryz.prog 58 3 = some 3 := by kernel_rfl
theorem tP58 : PLs Tryz.prog 58 = some (.st [(0, 1), (1, 1), (2, 1), (3, 1)]) := by kernel_rfl
theorem tI61 : TI Tryz.prog 61 = some (false, 1) := by kernel_rfl
theorem tE61 : EInfo Tryz.prog 61 = some (1, 24) := by kernel_rfl
theorem tZ61 : ZV Tryz.prog 61 = some [.slice none 0 0] := by kernel_rfl
theorem tG61 : ZG Tryz.prog 61 = some (false, [.slice none 0 0]) := by kernel_rfl
theorem tL61 : EL Tryz.prog 61 = some 3 := by kernel_rfl
theorem tI65 : TI Tryz.prog 65 = some (true, 8) := by kernel_rfl
theorem tE65 : EInfo Tryz.prog 65 = some (8, 64) := by kernel_rfl
theorem tZ65 : ZV Tryz.prog 65 = some [.int .i64 0, .int .i64 0, .int .i64 0, .int .i64 0, .bool false, .int .i64 0, .int .i64 0, .bool false] := by kernel_rfl
theorem tG65 : ZG Tryz.prog 65 = some (true, [.int .i64 0, .int .i64 0, .int .i64 0, .int .i64 0, .bool false, .int .i64 0, .int .i64 0, .bool false]) := by kernel_rfl
theorem tF65_0 : FO Tryz.prog 65 0 = some 0 := by kernel_rfl
theorem tF65_1 : FO Tryz.prog 65 1 = some 2 := by kernel_rfl
theorem tF65_2 : FO Tryz.prog 65 2 = some 5 := by kernel_rfl
theorem tP65 : PLs Tryz.prog 65 = some (.st [(0, 2), (2, 3), (5, 3)]) := by kernel_rfl
theorem tI66 : TI Tryz.prog 66 = some (true, 8) := by kernel_rfl
theorem tE66 : EInfo Tryz.prog 66 = some (8, 64) := by kernel_rfl
theorem tZ66 : ZV Tryz.prog 66 = some [.int .i64 0, .int .i64 0, .int .i64 0, .int .i64 0, .bool false, .int .i64 0, .int .i64 0, .bool false] := by kernel_rfl
theorem tG66 : ZG Tryz.prog 66 = some (true, [.int .i64 0, .int .i64 0, .int .i64 0, .int .i64 0, .bool false, .int .i64 0, .int .i64 0, .bool false]) := by kernel_rfl
theorem tF66_0 : FO Tryz.prog 66 0 = some 0 := by kernel_rfl
theorem tF66_1 : FO Tryz.prog 66 1 = some 2 := by kernel_rfl
theorem tF66_2 : FO Tryz.prog 66 2 = some 5 := by kernel_rfl
theorem tP66 : PLs Tryz.prog 66 = some (.st [(0, 2), (2, 3), (5, 3)]) := by kernel_rfl
theorem tI70 : TI Tryz.prog 70 = some (false, 1) := by kernel_rfl
theorem tE70 : EInfo Tryz.prog 70 = some (1, 24) := by kernel_rfl
theorem tZ70 : ZV Tryz.prog 70 = some [.slice none 0 0] := by kernel_rfl
theorem tG70 : ZG Tryz.prog 70 = some (false, [.slice none 0 0]) := by kernel_rfl
theorem tL70 : EL Tryz.prog 70 = some 75 := by kernel_rfl
theorem tI74 : TI Tryz.prog 74 = some (true, 2) := by kernel_rfl
theorem tE74 : EInfo Tryz.prog 74 = some (2, 16) := by kernel_rfl
theorem tZ74 : ZV Tryz.prog 74 = some [.int .i64 0, .int .i64 0] := by kernel_rfl
theorem tG74 : ZG Tryz.prog 74 = some (true, [.int .i64 0, .int .i64 0]) := by kernel_rfl
theorem tF74_0 : FO Tryz.prog 74 0 = some 0 := by kernel_rfl
theorem tF74_1 : FO Tryz.prog 74 1 = some 1 := by kernel_rfl
theorem tP74 : PLs Tryz.prog 74 = some (.st [(0, 1), (1, 1)]) := by kernel_rfl
theorem tI75 : TI Tryz.prog 75 = some (true, 2) := by kernel_rfl
theorem tE75 : EInfo Tryz.prog 75 = some (2, 16) := by kernel_rfl
theorem tZ75 : ZV Tryz.prog 75 = some [.int .i64 0, .int .i64 0] := by kernel_rfl
theorem tG75 : ZG Tryz.prog 75 = some (true, [.int .i64 0, .int .i64 0]) := by kernel_rfl
theorem tF75_0 : FO Tryz.prog 75 0 = some 0 := by kernel_rfl
theorem tF75_1 : FO Tryz.prog 75 1 = some 1 := by kernel_rfl
theorem tP75 : PLs Tryz.prog 75 = some (.st [(0, 1), (1, 1)]) := by kernel_rfl
theorem tI77 : TI Tryz.prog 77 = some (true, 2) := by kernel_rfl
theorem tE77 : EInfo Tryz.prog 77 = some (2, 2) := by kernel_rfl
theorem tZ77 : ZV Tryz.prog 77 = some [.int .u8 0, .int .u8 0] := by kernel_rfl
theorem tG77 : ZG Tryz.prog 77 = some (true, [.int .u8 0, .int .u8 0]) := by kernel_rfl
theorem tP77 : PLs Tryz.prog 77 = some (.ar 1) := by kernel_rfl
theorem tI78 : TI Tryz.prog 78 = some (false, 1) := by kernel_rfl
theorem tE78 : EInfo Tryz.prog 78 = some (1, 2) := by kernel_rfl
theorem tZ78 : ZV Tryz.prog 78 = some [.int .i16 0] := by kernel_rfl
theorem tG78 : ZG Tryz.prog 78 = some (false, [.int .i16 0]) := by kernel_rfl
theorem tU78 : Tryz.prog.underlying 78 = some (.int .i16) := by kernel_rfl
theorem tI79 : TI Tryz.prog 79 = some (true, 2) := by kernel_rfl
theorem tE79 : EInfo Tryz.prog 79 = some (2, 16) := by kernel_rfl
theorem tZ79 : ZV Tryz.prog 79 = some [.int .i64 0, .int .i64 0] := by kernel_rfl
theorem tG79 : ZG Tryz.prog 79 = some (true, [.int .i64 0, .int .i64 0]) := by kernel_rfl
theorem tF79_0 : FO Tryz.prog 79 0 = some 0 := by kernel_rfl
theorem tF79_1 : FO Tryz.prog 79 1 = some 1 := by kernel_rfl
theorem tP79 : PLs Tryz.prog 79 = some (.st [(0, 1), (1, 1)]) := by kernel_rfl
theorem tI80 : TI Tryz.prog 80 = some (true, 2) := by kernel_rfl
theorem tE80 : EInfo Tryz.prog 80 = some (2, 16) := by kernel_rfl
theorem tZ80 : ZV Tryz.prog 80 = some [.int .i64 0, .int .i64 0] := by kernel_rfl
theorem tG80 : ZG Tryz.prog 80 = some (true, [.int .i64 0, .int .i64 0]) := by kernel_rfl
theorem tF80_0 : FO Tryz.prog 80 0 = some 0 := by kernel_rfl
theorem tF80_1 : FO Tryz.prog 80 1 = some 1 := by kernel_rfl
theorem tP80 : PLs Tryz.prog 80 = some (.st [(0, 1), (1, 1)]) := by kernel_rfl
theorem tI86 : TI Tryz.prog 86 = some (false, 1) := by kernel_rfl
theorem tE86 : EInfo Tryz.prog 86 = some (1, 24) := by kernel_rfl
theorem tZ86 : ZV Tryz.prog 86 = some [.slice none 0 0] := by kernel_rfl
theorem tG86 : ZG Tryz.prog 86 = some (false, [.slice none 0 0]) := by kernel_rfl
theorem tL86 : EL Tryz.prog 86 = some 151 := by kernel_rfl
theorem tI87 : TI Tryz.prog 87 = some (true, 3) := by kernel_rfl
theorem tE87 : EInfo Tryz.prog 87 = some (3, 32) := by kernel_rfl
theorem tZ87 : ZV Tryz.prog 87 = some [.int .u8 0, .int .u8 0, .slice none 0 0] := by kernel_rfl
theorem tG87 : ZG Tryz.prog 87 = some (true, [.int .u8 0, .int .u8 0, .slice none 0 0]) := by kernel_rfl
theorem tF87_0 : FO Tryz.prog 87 0 = some 0 := by kernel_rfl
theorem tF87_1 : FO Tryz.prog 87 1 = some 1 := by kernel_rfl
theorem tF87_2 : FO Tryz.prog 87 2 = some 2 := by kernel_rfl
theorem tP87 : PLs Tryz.prog 87 = some (.st [(0, 1), (1, 1), (2, 1)]) := by kernel_rfl
theorem tI88 : TI Tryz.prog 88 = some (true, 3) := by kernel_rfl
theorem tE88 : EInfo Tryz.prog 88 = some (3, 32) := by kernel_rfl
theorem tZ88 : ZV Tryz.prog 88 = some [.int .u8 0, .int .u8 0, .slice none 0 0] := by kernel_rfl
theorem tG88 : ZG Tryz.prog 88 = some (true, [.int .u8 0, .int .u8 0, .slice none 0 0]) := by kernel_rfl
theorem tF88_0 : FO Tryz.prog 88 0 = some 0 := by kernel_rfl
theorem tF88_1 : FO Tryz.prog 88 1 = some 1 := by kernel_rfl
theorem tF88_2 : FO Tryz.prog 88 2 = some 2 := by kernel_rfl
theorem tP88 : PLs Tryz.prog 88 = some (.st [(0, 1), (1, 1), (2, 1)]) := by kernel_rfl
theorem tI91 : TI Tryz.prog 91 = some (false, 1) := by kernel_rfl
theorem tE91 : EInfo Tryz.prog 91 = some (1, 8) := by kernel_rfl
theorem tZ91 : ZV Tryz.prog 91 = some [.map none] := by kernel_rfl
theorem tG91 : ZG Tryz.prog 91 = some (false, [.map none]) := by kernel_rfl
theorem tU91 : Tryz.prog.underlying 91 = some (.map 3 3) := by kernel_rfl
theorem tM91 : MT Tryz.prog 91 = some (3, 3) := by kernel_rfl
theorem tI93 : TI Tryz.prog 93 = some (false, 1) := by kernel_rfl
theorem tE93 : EInfo Tryz.prog 93 = some (1, 8) := by kernel_rfl
theorem tZ93 : ZV Tryz.prog 93 = some [.map none] := by kernel_rfl
theorem tG93 : ZG Tryz.prog 93 = some (false, [.map none]) := by kernel_rfl
theorem tU93 : Tryz.prog.underlying 93 = some (.map 52 3) := by kernel_rfl
theorem tM93 : MT Tryz.prog 93 = some (52, 3) := by kernel_rfl
theorem tI101 : TI Tryz.prog 101 = some (false, 1) := by kernel_rfl
theorem tE101 : EInfo Tryz.prog 101 = some (1, 24) := by kernel_rfl
theorem tZ101 : ZV Tryz.prog 101 = some [.slice none 0 0] := by kernel_rfl
theorem tG101 : ZG Tryz.prog 101 = some (false, [.slice none 0 0]) := by kernel_rfl
theorem tL101 : EL Tryz.prog 101 = some 135 := by kernel_rfl
theorem tI102 : TI Tryz.prog 102 = some (true, 6) := by kernel_rfl
theorem tE102 : EInfo Tryz.prog 102 = some (6, 128) := by kernel_rfl
theorem tZ102 : ZV Tryz.prog 102 = some [.int .i64 0, .slice none 0 0, .slice none 0 0, .slice none 0 0, .slice none 0 0, .slice none 0 0] := by kernel_rfl
theorem tG102 : ZG Tryz.prog 102 = some (true, [.int .i64 0, .slice none 0 0, .slice none 0 0, .slice none 0 0, .slice none 0 0, .slice none 0 0]) := by kernel_rfl
theorem tF102_0 : FO Tryz.prog 102 0 = some 0 := by kernel_rfl
theorem tF102_1 : FO Tryz.prog 102 1 = some 1 := by kernel_rfl
theorem tF102_2 : FO Tryz.prog 102 2 = some 2 := by kernel_rfl
theorem tF102_3 : FO Tryz.prog 102 3 = some 3 := by kernel_rfl
theorem tF102_4 : FO Tryz.prog 102 4 = some 4 := by kernel_rfl
theorem tF102_5 : FO Tryz.prog 102 5 = some 5 := by kernel_rfl
theorem tP102 : PLs Tryz.prog 102 = some (.st [(0, 1), (1, 1), (2, 1), (3, 1), (4, 1), (5, 1)]) := by kernel_rfl
theorem tI103 : TI Tryz.prog 103 = some (true, 6) := by kernel_rfl
theorem tE103 : EInfo Tryz.prog 103 = some (6, 128) := by kernel_rfl
theorem tZ103 : ZV Tryz.prog 103 = some [.int .i64 0, .slice none 0 0, .slice none 0 0, .slice none 0 0, .slice none 0 0, .slice none 0 0] := by kernel_rfl
theorem tG103 : ZG Tryz.prog 103 = some (true, [.int .i64 0, .slice none 0 0, .slice none 0 0, .slice none 0 0, .slice none 0 0, .slice none 0 0]) := by kernel_rfl
theorem tF103_0 : FO Tryz.prog 103 0 = some 0 := by kernel_rfl
theorem tF103_1 : FO Tryz.prog 103 1 = some 1 := by kernel_rfl
theorem tF103_2 : FO Tryz.prog 103 2 = some 2 := by kernel_rfl
theorem tF103_3 : FO Tryz.prog 103 3 = some 3 := by kernel_rfl
theorem tF103_4 : FO Tryz.prog 103 4 = some 4 := by kernel_rfl
theorem tF103_5 : FO Tryz.prog 103 5 = some 5 := by kernel_rfl
theorem tP103 : PLs Tryz.prog 103 = some (.st [(0, 1), (1, 1), (2, 1), (3, 1), (4, 1), (5, 1)]) := by kernel_rfl
theorem tI105 : TI Tryz.prog 105 = some (false, 1) := by kernel_rfl
theorem tE105 : EInfo Tryz.prog 105 = some (1, 8) := by kernel_rfl
theorem tZ105 : ZV Tryz.prog 105 = some [.pointer none] := by kernel_rfl
theorem tG105 : ZG Tryz.prog 105 = some (false, [.pointer none]) := by kernel_rfl
theorem tU105 : Tryz.prog.underlying 105 = some (.pointer 109) := by kernel_rfl
theorem tI106 : TI Tryz.prog 106 = some (false, 1) := by kernel_rfl
theorem tE106 : EInfo Tryz.prog 106 = some (1, 8) := by kernel_rfl
theorem tZ106 : ZV Tryz.prog 106 = some [.map none] := by kernel_rfl
theorem tG106 : ZG Tryz.prog 106 = some (false, [.map none]) := by kernel_rfl
theorem tU106 : Tryz.prog.underlying 106 = some (.map 3 29) := by kernel_rfl
theorem tM106 : MT Tryz.prog 106 = some (3, 29) := by kernel_rfl
theorem tI108 : TI Tryz.prog 108 = some (true, 4) := by kernel_rfl
theorem tE108 : EInfo Tryz.prog 108 = some (4, 48) := by kernel_rfl
theorem tZ108 : ZV Tryz.prog 108 = some [.map none, .nilFunc, .int .i64 0, .slice none 0 0] := by kernel_rfl
theorem tG108 : ZG Tryz.prog 108 = some (true, [.map none, .nilFunc, .int .i64 0, .slice none 0 0]) := by kernel_rfl
theorem tF108_0 : FO Tryz.prog 108 0 = some 0 := by kernel_rfl
theorem tF108_1 : FO Tryz.prog 108 1 = some 1 := by kernel_rfl
theorem tF108_2 : FO Tryz.prog 108 2 = some 2 := by kernel_rfl
theorem tF108_3 : FO Tryz.prog 108 3 = some 3 := by kernel_rfl
theorem tP108 : PLs Tryz.prog 108 = some (.st [(0, 1), (1, 1), (2, 1), (3, 1)]) := by kernel_rfl
theorem tI109 : TI Tryz.prog 109 = some (true, 4) := by kernel_rfl
theorem tE109 : EInfo Tryz.prog 109 = some (4, 48) := by kernel_rfl
theorem tZ109 : ZV Tryz.prog 109 = some [.map none, .nilFunc, .int .i64 0, .slice none 0 0] := by kernel_rfl
theorem tG109 : ZG Tryz.prog 109 = some (true, [.map none, .nilFunc, .int .i64 0, .slice none 0 0]) := by kernel_rfl
theorem tF109_0 : FO Tryz.prog 109 0 = some 0 := by kernel_rfl
theorem tF109_1 : FO Tryz.prog 109 1 = some 1 := by kernel_rfl
theorem tF109_2 : FO Tryz.prog 109 2 = some 2 := by kernel_rfl
theorem tF109_3 : FO Tryz.prog 109 3 = some 3 := by kernel_rfl
theorem tP109 : PLs Tryz.prog 109 = some (.st [(0, 1), (1, 1), (2, 1), (3, 1)]) := by kernel_rfl
theorem tI114 : TI Tryz.prog 114 = some (false, 1) := by kernel_rfl
theorem tE114 : EInfo Tryz.prog 114 = some (1, 8) := by kernel_rfl
theorem tZ114 : ZV Tryz.prog 114 = some [.pointer none] := by kernel_rfl
theorem tG114 : ZG Tryz.prog 114 = some (false, [.pointer none]) := by kernel_rfl
theorem tU114 : Tryz.prog.underlying 114 = some (.pointer 58) := by kernel_rfl
theorem tI117 : TI Tryz.prog 117 = some (false, 1) := by kernel_rfl
theorem tE117 : EInfo Tryz.prog 117 = some (1, 8) := by kernel_rfl
theorem tZ117 : ZV Tryz.prog 117 = some [.int .u64 0] := by kernel_rfl
theorem tG117 : ZG Tryz.prog 117 = some (false, [.int .u64 0]) := by kernel_rfl
theorem tU117 : Tryz.prog.underlying 117 = some (.int .u64) := by kernel_rfl
theorem tI120 : TI Tryz.prog 120 = some (false, 1) := by kernel_rfl
theorem tE120 : EInfo Tryz.prog 120 = some (1, 8) := by kernel_rfl
theorem tZ120 : ZV Tryz.prog 120 = some [.nilFunc] := by kernel_rfl
theorem tG120 : ZG Tryz.prog 120 = some (false, [.nilFunc]) := by kernel_rfl
theorem tI129 : TI Tryz.prog 129 = some (true, 3) := by kernel_rfl
theorem tE129 : EInfo Tryz.prog 129 = some (3, 40) := by kernel_rfl
theorem tZ129 : ZV Tryz.prog 129 = some [.pointer none, .slice none 0 0, .int .i64 0] := by kernel_rfl
theorem tG129 : ZG Tryz.prog 129 = some (true, [.pointer none, .slice none 0 0, .int .i64 0]) := by kernel_rfl
theorem tF129_0 : FO Tryz.prog 129 0 = some 0 := by kernel_rfl
theorem tF129_1 : FO Tryz.prog 129 1 = some 1 := by kernel_rfl
theorem tF129_2 : FO Tryz.prog 129 2 = some 2 := by kernel_rfl
theorem tP129 : PLs Tryz.prog 129 = some (.st [(0, 1), (1, 1), (2, 1)]) := by kernel_rfl
theorem tI130 : TI Tryz.prog 130 = some (true, 3) := by kernel_rfl
theorem tE130 : EInfo Tryz.prog 130 = some (3, 40) := by kernel_rfl
theorem tZ130 : ZV Tryz.prog 130 = some [.pointer none, .slice none 0 0, .int .i64 0] := by kernel_rfl
theorem tG130 : ZG Tryz.prog 130 = some (true, [.pointer none, .slice none 0 0, .int .i64 0]) := by kernel_rfl
theorem tF130_0 : FO Tryz.prog 130 0 = some 0 := by kernel_rfl
theorem tF130_1 : FO Tryz.prog 130 1 = some 1 := by kernel_rfl
theorem tF130_2 : FO Tryz.prog 130 2 = some 2 := by kernel_rfl
theorem tP130 : PLs Tryz.prog 130 = some (.st [(0, 1), (1, 1), (2, 1)]) := by kernel_rfl
theorem tI134 : TI Tryz.prog 134 = some (true, 4) := by kernel_rfl
theorem tE134 : EInfo Tryz.prog 134 = some (4, 48) := by kernel_rfl
theorem tZ134 : ZV Tryz.prog 134 = some [.int .i64 0, .int .i64 0, .int .i64 0, .slice none 0 0] := by kernel_rfl
theorem tG134 : ZG Tryz.prog 134 = some (true, [.int .i64 0, .int .i64 0, .int .i64 0, .slice none 0 0]) := by kernel_rfl
theorem tF134_0 : FO Tryz.prog 134 0 = some 0 := by kernel_rfl
theorem tF134_1 : FO Tryz.prog 134 1 = some 1 := by kernel_rfl
theorem tF134_2 : FO Tryz.prog 134 2 = some 2 := by kernel_rfl
theorem tF134_3 : FO Tryz.prog 134 3 = some 3 := by kernel_rfl
theorem tP134 : PLs Tryz.prog 134 = some (.st [(0, 1), (1, 1), (2, 1), (3, 1)]) := by kernel_rfl
theorem tI135 : TI Tryz.prog 135 = some (true, 4) := by kernel_rfl
theorem tE135 : EInfo Tryz.prog 135 = some (4, 48) := by kernel_rfl
theorem tZ135 : ZV Tryz.prog 135 = some [.int .i64 0, .int .i64 0, .int .i64 0, .slice none 0 0] := by kernel_rfl
theorem tG135 : ZG Tryz.prog 135 = some (true, [.int .i64 0, .int .i64 0, .int .i64 0, .slice none 0 0]) := by kernel_rfl
theorem tF135_0 : FO Tryz.prog 135 0 = some 0 := by kernel_rfl
theorem tF135_1 : FO Tryz.prog 135 1 = some 1 := by kernel_rfl
theorem tF135_2 : FO Tryz.prog 135 2 = some 2 := by kernel_rfl
theorem tF135_3 : FO Tryz.prog 135 3 = some 3 := by kernel_rfl
theorem tP135 : PLs Tryz.prog 135 = some (.st [(0, 1), (1, 1), (2, 1), (3, 1)]) := by kernel_rfl
theorem tI136 : TI Tryz.prog 136 = some (false, 1) := by kernel_rfl
theorem tE136 : EInfo Tryz.prog 136 = some (1, 8) := by kernel_rfl
theorem tZ136 : ZV Tryz.prog 136 = some [.map none] := by kernel_rfl
theorem tG136 : ZG Tryz.prog 136 = some (false, [.map none]) := by kernel_rfl
theorem tU136 : Tryz.prog.underlying 136 = some (.map 3 4) := by kernel_rfl
theorem tM136 : MT Tryz.prog 136 = some (3, 4) := by kernel_rfl
theorem tI141 : TI Tryz.prog 141 = some (false, 1) := by kernel_rfl
theorem tE141 : EInfo Tryz.prog 141 = some (1, 8) := by kernel_rfl
theorem tZ141 : ZV Tryz.prog 141 = some [.nilFunc] := by kernel_rfl
theorem tG141 : ZG Tryz.prog 141 = some (false, [.nilFunc]) := by kernel_rfl
theorem tI150 : TI Tryz.prog 150 = some (true, 11) := by kernel_rfl
theorem tE150 : EInfo Tryz.prog 150 = some (11, 11) := by kernel_rfl
theorem tZ150 : ZV Tryz.prog 150 = some [.int .u8 0, .int .u8 0, .int .u8 0, .int .u8 0, .int .u8 0, .int .u8 0, .int .u8 0, .int .u8 0, .int .u8 0, .int .u8 0, .bool false] := by kernel_rfl
theorem tG150 : ZG Tryz.prog 150 = some (true, [.int .u8 0, .int .u8 0, .int .u8 0, .int .u8 0, .int .u8 0, .int .u8 0, .int .u8 0, .int .u8 0, .int .u8 0, .int .u8 0, .bool false]) := by kernel_rfl
theorem tF150_0 : FO Tryz.prog 150 0 = some 0 := by kernel_rfl
theorem tF150_1 : FO Tryz.prog 150 1 = some 1 := by kernel_rfl
theorem tF150_2 : FO Tryz.prog 150 2 = some 2 := by kernel_rfl
theorem tF150_3 : FO Tryz.prog 150 3 = some 3 := by kernel_rfl
theorem tF150_4 : FO Tryz.prog 150 4 = some 4 := by kernel_rfl
theorem tF150_5 : FO Tryz.prog 150 5 = some 5 := by kernel_rfl
theorem tF150_6 : FO Tryz.prog 150 6 = some 6 := by kernel_rfl
theorem tF150_7 : FO Tryz.prog 150 7 = some 7 := by kernel_rfl
theorem tF150_8 : FO Tryz.prog 150 8 = some 8 := by kernel_rfl
theorem tF150_9 : FO Tryz.prog 150 9 = some 9 := by kernel_rfl
theorem tF150_10 : FO Tryz.prog 150 10 = some 10 := by kernel_rfl
theorem tP150 : PLs Tryz.prog 150 = some (.st [(0, 1), (1, 1), (2, 1), (3, 1), (4, 1), (5, 1), (6, 1), (7, 1), (8, 1), (9, 1), (10, 1)]) := by kernel_rfl
theorem tI151 : TI Tryz.prog 151 = some (true, 11) := by kernel_rfl
theorem tE151 : EInfo Tryz.prog 151 = some (11, 11) := by kernel_rfl
theorem tZ151 : ZV Tryz.prog 151 = some [.int .u8 0, .int .u8 0, .int .u8 0, .int .u8 0, .int .u8 0, .int .u8 0, .int .u8 0, .int .u8 0, .int .u8 0, .int .u8 0, .bool false] := by kernel_rfl
theorem tG151 : ZG Tryz.prog 151 = some (true, [.int .u8 0, .int .u8 0, .int .u8 0, .int .u8 0, .int .u8 0, .int .u8 0, .int .u8 0, .int .u8 0, .int .u8 0, .int .u8 0, .bool false]) := by kernel_rfl
theorem tF151_0 : FO Tryz.prog 151 0 = some 0 := by kernel_rfl
theorem tF151_1 : FO Tryz.prog 151 1 = some 1 := by kernel_rfl
theorem tF151_2 : FO Tryz.prog 151 2 = some 2 := by kernel_rfl
theorem tF151_3 : FO Tryz.prog 151 3 = some 3 := by kernel_rfl
theorem tF151_4 : FO Tryz.prog 151 4 = some 4 := by kernel_rfl
theorem tF151_5 : FO Tryz.prog 151 5 = some 5 := by kernel_rfl
theorem tF151_6 : FO Tryz.prog 151 6 = some 6 := by kernel_rfl
theorem tF151_7 : FO Tryz.prog 151 7 = some 7 := by kernel_rfl
theorem tF151_8 : FO Tryz.prog 151 8 = some 8 := by kernel_rfl
theorem tF151_9 : FO Tryz.prog 151 9 = some 9 := by kernel_rfl
theorem tF151_10 : FO Tryz.prog 151 10 = some 10 := by kernel_rfl
theorem tP151 : PLs Tryz.prog 151 = some (.st [(0, 1), (1, 1), (2, 1), (3, 1), (4, 1), (5, 1), (6, 1), (7, 1), (8, 1), (9, 1), (10, 1)]) := by kernel_rfl
theorem tI153 : TI Tryz.prog 153 = some (false, 1) := by kernel_rfl
theorem tE153 : EInfo Tryz.prog 153 = some (1, 24) := by kernel_rfl
theorem tZ153 : ZV Tryz.prog 153 = some [.slice none 0 0] := by kernel_rfl
theorem tG153 : ZG Tryz.prog 153 = some (false, [.slice none 0 0]) := by kernel_rfl
theorem tL153 : EL Tryz.prog 153 = some 9 := by kernel_rfl
theorem tI155 : TI Tryz.prog 155 = some (false, 1) := by kernel_rfl
theorem tE155 : EInfo Tryz.prog 155 = some (1, 8) := by kernel_rfl
theorem tZ155 : ZV Tryz.prog 155 = some [.pointer none] := by kernel_rfl
theorem tG155 : ZG Tryz.prog 155 = some (false, [.pointer none]) := by kernel_rfl
theorem tU155 : Tryz.prog.underlying 155 = some (.pointer 130) := by kernel_rfl
theorem tI157 : TI Tryz.prog 157 = some (false, 1) := by kernel_rfl
theorem tE157 : EInfo Tryz.prog 157 = some (1, 24) := by kernel_rfl
theorem tZ157 : ZV Tryz.prog 157 = some [.slice none 0 0] := by kernel_rfl
theorem tG157 : ZG Tryz.prog 157 = some (false, [.slice none 0 0]) := by kernel_rfl
theorem tL157 : EL Tryz.prog 157 = some 61 := by kernel_rfl
theorem tI164 : TI Tryz.prog 164 = some (false, 1) := by kernel_rfl
theorem tE164 : EInfo Tryz.prog 164 = some (1, 8) := by kernel_rfl
theorem tZ164 : ZV Tryz.prog 164 = some [.int .i64 0] := by kernel_rfl
theorem tG164 : ZG Tryz.prog 164 = some (false, [.int .i64 0]) := by kernel_rfl
theorem tU164 : Tryz.prog.underlying 164 = some (.int .i64) := by kernel_rfl
theorem tI171 : TI Tryz.prog 171 = some (false, 1) := by kernel_rfl
theorem tE171 : EInfo Tryz.prog 171 = some (1, 4) := by kernel_rfl
theorem tZ171 : ZV Tryz.prog 171 = some [.int .u32 0] := by kernel_rfl
theorem tG171 : ZG Tryz.prog 171 = some (false, [.int .u32 0]) := by kernel_rfl
theorem tU171 : Tryz.prog.underlying 171 = some (.int .u32) := by kernel_rfl
theorem tI173 : TI Tryz.prog 173 = some (false, 1) := by kernel_rfl
theorem tE173 : EInfo Tryz.prog 173 = some (1, 8) := by kernel_rfl
theorem tZ173 : ZV Tryz.prog 173 = some [.int .u64 0] := by kernel_rfl
theorem tG173 : ZG Tryz.prog 173 = some (false, [.int .u64 0]) := by kernel_rfl
theorem tU173 : Tryz.prog.underlying 173 = some (.int .u64) := by kernel_rfl
theorem tI174 : TI Tryz.prog 174 = some (true, 3) := by kernel_rfl
theorem tE174 : EInfo Tryz.prog 174 = some (3, 32) := by kernel_rfl
theorem tZ174 : ZV Tryz.prog 174 = some [.int .i64 0, .string ByteArray.empty, .int .i64 0] := by kernel_rfl
theorem tG174 : ZG Tryz.prog 174 = some (true, [.int .i64 0, .string ByteArray.empty, .int .i64 0]) := by kernel_rfl
theorem tF174_0 : FO Tryz.prog 174 0 = some 0 := by kernel_rfl
theorem tF174_1 : FO Tryz.prog 174 1 = some 1 := by kernel_rfl
theorem tF174_2 : FO Tryz.prog 174 2 = some 2 := by kernel_rfl
theorem tP174 : PLs Tryz.prog 174 = some (.st [(0, 1), (1, 1), (2, 1)]) := by kernel_rfl
theorem tI175 : TI Tryz.prog 175 = some (true, 3) := by kernel_rfl
theorem tE175 : EInfo Tryz.prog 175 = some (3, 32) := by kernel_rfl
theorem tZ175 : ZV Tryz.prog 175 = some [.int .i64 0, .string ByteArray.empty, .int .i64 0] := by kernel_rfl
theorem tG175 : ZG Tryz.prog 175 = some (true, [.int .i64 0, .string ByteArray.empty, .int .i64 0]) := by kernel_rfl
theorem tF175_0 : FO Tryz.prog 175 0 = some 0 := by kernel_rfl
theorem tF175_1 : FO Tryz.prog 175 1 = some 1 := by kernel_rfl
theorem tF175_2 : FO Tryz.prog 175 2 = some 2 := by kernel_rfl
theorem tP175 : PLs Tryz.prog 175 = some (.st [(0, 1), (1, 1), (2, 1)]) := by kernel_rfl
theorem tI176 : TI Tryz.prog 176 = some (true, 4) := by kernel_rfl
theorem tE176 : EInfo Tryz.prog 176 = some (4, 48) := by kernel_rfl
theorem tZ176 : ZV Tryz.prog 176 = some [.string ByteArray.empty, .int .i64 0, .string ByteArray.empty, .int .i64 0] := by kernel_rfl
theorem tG176 : ZG Tryz.prog 176 = some (true, [.string ByteArray.empty, .int .i64 0, .string ByteArray.empty, .int .i64 0]) := by kernel_rfl
theorem tF176_0 : FO Tryz.prog 176 0 = some 0 := by kernel_rfl
theorem tF176_1 : FO Tryz.prog 176 1 = some 1 := by kernel_rfl
theorem tP176 : PLs Tryz.prog 176 = some (.st [(0, 1), (1, 3)]) := by kernel_rfl
theorem tI177 : TI Tryz.prog 177 = some (true, 4) := by kernel_rfl
theorem tE177 : EInfo Tryz.prog 177 = some (4, 48) := by kernel_rfl
theorem tZ177 : ZV Tryz.prog 177 = some [.string ByteArray.empty, .int .i64 0, .string ByteArray.empty, .int .i64 0] := by kernel_rfl
theorem tG177 : ZG Tryz.prog 177 = some (true, [.string ByteArray.empty, .int .i64 0, .string ByteArray.empty, .int .i64 0]) := by kernel_rfl
theorem tF177_0 : FO Tryz.prog 177 0 = some 0 := by kernel_rfl
theorem tF177_1 : FO Tryz.prog 177 1 = some 1 := by kernel_rfl
theorem tP177 : PLs Tryz.prog 177 = some (.st [(0, 1), (1, 3)]) := by kernel_rfl
theorem tI186 : TI Tryz.prog 186 = some (false, 1) := by kernel_rfl
theorem tE186 : EInfo Tryz.prog 186 = some (1, 8) := by kernel_rfl
theorem tZ186 : ZV Tryz.prog 186 = some [.int .u64 0] := by kernel_rfl
theorem tG186 : ZG Tryz.prog 186 = some (false, [.int .u64 0]) := by kernel_rfl
theorem tU186 : Tryz.prog.underlying 186 = some (.int .u64) := by kernel_rfl
theorem tI190 : TI Tryz.prog 190 = some (false, 1) := by kernel_rfl
theorem tE190 : EInfo Tryz.prog 190 = some (1, 8) := by kernel_rfl
theorem tZ190 : ZV Tryz.prog 190 = some [.pointer none] := by kernel_rfl
theorem tG190 : ZG Tryz.prog 190 = some (false, [.pointer none]) := by kernel_rfl
theorem tU190 : Tryz.prog.underlying 190 = some (.pointer 3) := by kernel_rfl
theorem tI192 : TI Tryz.prog 192 = some (true, 6) := by kernel_rfl
theorem tE192 : EInfo Tryz.prog 192 = some (6, 48) := by kernel_rfl
theorem tZ192 : ZV Tryz.prog 192 = some [.int .i64 0, .int .i64 0, .bool false, .int .i64 0, .int .i64 0, .bool false] := by kernel_rfl
theorem tG192 : ZG Tryz.prog 192 = some (true, [.int .i64 0, .int .i64 0, .bool false, .int .i64 0, .int .i64 0, .bool false]) := by kernel_rfl
theorem tF192_0 : FO Tryz.prog 192 0 = some 0 := by kernel_rfl
theorem tF192_1 : FO Tryz.prog 192 1 = some 3 := by kernel_rfl
theorem tP192 : PLs Tryz.prog 192 = some (.st [(0, 3), (3, 3)]) := by kernel_rfl
theorem tI193 : TI Tryz.prog 193 = some (true, 6) := by kernel_rfl
theorem tE193 : EInfo Tryz.prog 193 = some (6, 48) := by kernel_rfl
theorem tZ193 : ZV Tryz.prog 193 = some [.int .i64 0, .int .i64 0, .bool false, .int .i64 0, .int .i64 0, .bool false] := by kernel_rfl
theorem tG193 : ZG Tryz.prog 193 = some (true, [.int .i64 0, .int .i64 0, .bool false, .int .i64 0, .int .i64 0, .bool false]) := by kernel_rfl
theorem tF193_0 : FO Tryz.prog 193 0 = some 0 := by kernel_rfl
theorem tF193_1 : FO Tryz.prog 193 1 = some 3 := by kernel_rfl
theorem tP193 : PLs Tryz.prog 193 = some (.st [(0, 3), (3, 3)]) := by kernel_rfl
theorem tI199 : TI Tryz.prog 199 = some (false, 1) := by kernel_rfl
theorem tE199 : EInfo Tryz.prog 199 = some (1, 8) := by kernel_rfl
theorem tZ199 : ZV Tryz.prog 199 = some [.pointer none] := by kernel_rfl
theorem tG199 : ZG Tryz.prog 199 = some (false, [.pointer none]) := by kernel_rfl
theorem tU199 : Tryz.prog.underlying 199 = some (.pointer 186) := by kernel_rfl
theorem tI202 : TI Tryz.prog 202 = some (true, 6) := by kernel_rfl
theorem tE202 : EInfo Tryz.prog 202 = some (6, 48) := by kernel_rfl
theorem tZ202 : ZV Tryz.prog 202 = some [.int .i64 0, .int .i64 0, .int .i64 0, .int .i64 0, .int .i64 0, .int .i64 0] := by kernel_rfl
theorem tG202 : ZG Tryz.prog 202 = some (true, [.int .i64 0, .int .i64 0, .int .i64 0, .int .i64 0, .int .i64 0, .int .i64 0]) := by kernel_rfl
theorem tP202 : PLs Tryz.prog 202 = some (.ar 1) := by kernel_rfl
theorem tI218 : TI Tryz.prog 218 = some (true, 4) := by kernel_rfl
theorem tE218 : EInfo Tryz.prog 218 = some (4, 40) := by kernel_rfl
theorem tZ218 : ZV Tryz.prog 218 = some [.pointer none, .pointer none, .pointer none, .string ByteArray.empty] := by kernel_rfl
theorem tG218 : ZG Tryz.prog 218 = some (true, [.pointer none, .pointer none, .pointer none, .string ByteArray.empty]) := by kernel_rfl
theorem tF218_0 : FO Tryz.prog 218 0 = some 0 := by kernel_rfl
theorem tF218_1 : FO Tryz.prog 218 1 = some 1 := by kernel_rfl
theorem tF218_2 : FO Tryz.prog 218 2 = some 2 := by kernel_rfl
theorem tF218_3 : FO Tryz.prog 218 3 = some 3 := by kernel_rfl
theorem tP218 : PLs Tryz.prog 218 = some (.st [(0, 1), (1, 1), (2, 1), (3, 1)]) := by kernel_rfl
theorem tI227 : TI Tryz.prog 227 = some (false, 1) := by kernel_rfl
theorem tE227 : EInfo Tryz.prog 227 = some (1, 8) := by kernel_rfl
theorem tZ227 : ZV Tryz.prog 227 = some [.pointer none] := by kernel_rfl
theorem tG227 : ZG Tryz.prog 227 = some (false, [.pointer none]) := by kernel_rfl
theorem tU227 : Tryz.prog.underlying 227 = some (.pointer 5) := by kernel_rfl
theorem tI230 : TI Tryz.prog 230 = some (true, 11) := by kernel_rfl
theorem tE230 : EInfo Tryz.prog 230 = some (11, 48) := by kernel_rfl
theorem tZ230 : ZV Tryz.prog 230 = some [.int .u64 0, .int .u64 0, .int .u32 0, .int .u8 0, .int .u8 0, .int .u8 0, .int .u8 0, .nilFunc, .pointer none, .int .i32 0, .int .i32 0] := by kernel_rfl
theorem tG230 : ZG Tryz.prog 230 = some (true, [.int .u64 0, .int .u64 0, .int .u32 0, .int .u8 0, .int .u8 0, .int .u8 0, .int .u8 0, .nilFunc, .pointer none, .int .i32 0, .int .i32 0]) := by kernel_rfl
theorem tF230_0 : FO Tryz.prog 230 0 = some 0 := by kernel_rfl
theorem tF230_1 : FO Tryz.prog 230 1 = some 1 := by kernel_rfl
theorem tF230_2 : FO Tryz.prog 230 2 = some 2 := by kernel_rfl
theorem tF230_3 : FO Tryz.prog 230 3 = some 3 := by kernel_rfl
theorem tF230_4 : FO Tryz.prog 230 4 = some 4 := by kernel_rfl
theorem tF230_5 : FO Tryz.prog 230 5 = some 5 := by kernel_rfl
theorem tF230_6 : FO Tryz.prog 230 6 = some 6 := by kernel_rfl
theorem tF230_7 : FO Tryz.prog 230 7 = some 7 := by kernel_rfl
theorem tF230_8 : FO Tryz.prog 230 8 = some 8 := by kernel_rfl
theorem tF230_9 : FO Tryz.prog 230 9 = some 9 := by kernel_rfl
theorem tF230_10 : FO Tryz.prog 230 10 = some 10 := by kernel_rfl
theorem tP230 : PLs Tryz.prog 230 = some (.st [(0, 1), (1, 1), (2, 1), (3, 1), (4, 1), (5, 1), (6, 1), (7, 1), (8, 1), (9, 1), (10, 1)]) := by kernel_rfl
theorem tI232 : TI Tryz.prog 232 = some (true, 5) := by kernel_rfl
theorem tE232 : EInfo Tryz.prog 232 = some (5, 5) := by kernel_rfl
theorem tZ232 : ZV Tryz.prog 232 = some [.int .u8 0, .int .u8 0, .int .u8 0, .int .u8 0, .int .u8 0] := by kernel_rfl
theorem tG232 : ZG Tryz.prog 232 = some (true, [.int .u8 0, .int .u8 0, .int .u8 0, .int .u8 0, .int .u8 0]) := by kernel_rfl
theorem tF232_0 : FO Tryz.prog 232 0 = some 0 := by kernel_rfl
theorem tF232_1 : FO Tryz.prog 232 1 = some 1 := by kernel_rfl
theorem tF232_2 : FO Tryz.prog 232 2 = some 2 := by kernel_rfl
theorem tF232_3 : FO Tryz.prog 232 3 = some 3 := by kernel_rfl
theorem tF232_4 : FO Tryz.prog 232 4 = some 4 := by kernel_rfl
theorem tP232 : PLs Tryz.prog 232 = some (.st [(0, 1), (1, 1), (2, 1), (3, 1), (4, 1)]) := by kernel_rfl
theorem tI233 : TI Tryz.prog 233 = some (true, 5) := by kernel_rfl
theorem tE233 : EInfo Tryz.prog 233 = some (5, 5) := by kernel_rfl
theorem tZ233 : ZV Tryz.prog 233 = some [.int .u8 0, .int .u8 0, .int .u8 0, .int .u8 0, .int .u8 0] := by kernel_rfl
theorem tG233 : ZG Tryz.prog 233 = some (true, [.int .u8 0, .int .u8 0, .int .u8 0, .int .u8 0, .int .u8 0]) := by kernel_rfl
theorem tF233_0 : FO Tryz.prog 233 0 = some 0 := by kernel_rfl
theorem tF233_1 : FO Tryz.prog 233 1 = some 1 := by kernel_rfl
theorem tF233_2 : FO Tryz.prog 233 2 = some 2 := by kernel_rfl
theorem tF233_3 : FO Tryz.prog 233 3 = some 3 := by kernel_rfl
theorem tF233_4 : FO Tryz.prog 233 4 = some 4 := by kernel_rfl
theorem tP233 : PLs Tryz.prog 233 = some (.st [(0, 1), (1, 1), (2, 1), (3, 1), (4, 1)]) := by kernel_rfl
theorem tI234 : TI Tryz.prog 234 = some (false, 1) := by kernel_rfl
theorem tE234 : EInfo Tryz.prog 234 = some (1, 8) := by kernel_rfl
theorem tZ234 : ZV Tryz.prog 234 = some [.pointer none] := by kernel_rfl
theorem tG234 : ZG Tryz.prog 234 = some (false, [.pointer none]) := by kernel_rfl
theorem kd3 : Maps.Keyed Tryz.prog 3 := Maps.int_keyed tU3
theorem kd52 : Maps.Keyed Tryz.prog 52 := Maps.Keyed.of_law (deep_law_laid (m := 20) (by kernel_rfl) (by decide) (of_decide_eq_true (by kernel_rfl)) (by kernel_rfl) (by kernel_rfl))
attribute [go_sem] tI2 tE2 tZ2 tG2 tU2 tI3 tE3 tZ3 tG3 tU3 tI4 tE4 tZ4 tG4 tU4 tI5 tE5 tZ5 tG5 tU5 tI7 tE7 tZ7 tG7 tF7_0 tF7_1 tF7_2 tF7_3 tP7 tI9 tE9 tZ9 tG9 tU9 tI12 tE12 tZ12 tG12 tU12 tI13 tE13 tZ13 tG13 tF13_0 tF13_1 tP13 tI18 tE18 tZ18 tG18 tF18_0 tP18 tI19 tE19 tZ19 tG19 tF19_0 tP19 tI20 tE20 tZ20 tG20 tI21 tE21 tZ21 tG21 tU21 tI22 tE22 tZ22 tG22 tL22 tI23 tE23 tZ23 tG23 tU23 tI24 tE24 tZ24 tG24 tP24 tI25 tE25 tZ25 tG25 tL25 tI26 tE26 tZ26 tG26 tF26_0 tF26_1 tF26_2 tF26_3 tP26 tI27 tE27 tZ27 tG27 tF27_0 tF27_1 tF27_2 tF27_3 tP27 tI29 tE29 tZ29 tG29 tL29 tI30 tE30 tZ30 tG30 tL30 tI33 tE33 tZ33 tG33 tL33 tI34 tE34 tZ34 tG34 tL34 tI35 tE35 tZ35 tG35 tF35_0 tF35_1 tF35_2 tF35_3 tF35_4 tF35_5 tF35_6 tF35_7 tF35_8 tF35_9 tF35_10 tF35_11 tF35_12 tF35_13 tP35 tI36 tE36 tZ36 tG36 tF36_0 tF36_1 tF36_2 tF36_3 tF36_4 tF36_5 tF36_6 tF36_7 tF36_8 tF36_9 tF36_10 tF36_11 tF36_12 tF36_13 tP36 tI37 tE37 tZ37 tG37 tL37 tI38 tE38 tZ38 tG38 tU38 tI43 tE43 tZ43 tG43 tP43 tI49 tE49 tZ49 tG49 tF49_0 tF49_1 tP49 tI50 tE50 tZ50 tG50 tF50_0 tF50_1 tP50 tI51 tE51 tZ51 tG51 tF51_0 tF51_1 tP51 tI52 tE52 tZ52 tG52 tF52_0 tF52_1 tP52 tI56 tE56 tZ56 tG56 tL56 tI57 tE57 tZ57 tG57 tF57_0 tF57_1 tF57_2 tF57_3 tP57 tI58 tE58 tZ58 tG58 tF58_0 tF58_1 tF58_2 tF58_3 tP58 tI61 tE61 tZ61 tG61 tL61 tI65 tE65 tZ65 tG65 tF65_0 tF65_1 tF65_2 tP65 tI66 tE66 tZ66 tG66 tF66_0 tF66_1 tF66_2 tP66 tI70 tE70 tZ70 tG70 tL70 tI74 tE74 tZ74 tG74 tF74_0 tF74_1 tP74 tI75 tE75 tZ75 tG75 tF75_0 tF75_1 tP75 tI77 tE77 tZ77 tG77 tP77 tI78 tE78 tZ78 tG78 tU78 tI79 tE79 tZ79 tG79 tF79_0 tF79_1 tP79 tI80 tE80 tZ80 tG80 tF80_0 tF80_1 tP80 tI86 tE86 tZ86 tG86 tL86 tI87 tE87 tZ87 tG87 tF87_0 tF87_1 tF87_2 tP87 tI88 tE88 tZ88 tG88 tF88_0 tF88_1 tF88_2 tP88 tI91 tE91 tZ91 tG91 tU91 tM91 tI93 tE93 tZ93 tG93 tU93 tM93 tI101 tE101 tZ101 tG101 tL101 tI102 tE102 tZ102 tG102 tF102_0 tF102_1 tF102_2 tF102_3 tF102_4 tF102_5 tP102 tI103 tE103 tZ103 tG103 tF103_0 tF103_1 tF103_2 tF103_3 tF103_4 tF103_5 tP103 tI105 tE105 tZ105 tG105 tU105 tI106 tE106 tZ106 tG106 tU106 tM106 tI108 tE108 tZ108 tG108 tF108_0 tF108_1 tF108_2 tF108_3 tP108 tI109 tE109 tZ109 tG109 tF109_0 tF109_1 tF109_2 tF109_3 tP109 tI114 tE114 tZ114 tG114 tU114 tI117 tE117 tZ117 tG117 tU117 tI120 tE120 tZ120 tG120 tI129 tE129 tZ129 tG129 tF129_0 tF129_1 tF129_2 tP129 tI130 tE130 tZ130 tG130 tF130_0 tF130_1 tF130_2 tP130 tI134 tE134 tZ134 tG134 tF134_0 tF134_1 tF134_2 tF134_3 tP134 tI135 tE135 tZ135 tG135 tF135_0 tF135_1 tF135_2 tF135_3 tP135 tI136 tE136 tZ136 tG136 tU136 tM136 tI141 tE141 tZ141 tG141 tI150 tE150 tZ150 tG150 tF150_0 tF150_1 tF150_2 tF150_3 tF150_4 tF150_5 tF150_6 tF150_7 tF150_8 tF150_9 tF150_10 tP150 tI151 tE151 tZ151 tG151 tF151_0 tF151_1 tF151_2 tF151_3 tF151_4 tF151_5 tF151_6 tF151_7 tF151_8 tF151_9 tF151_10 tP151 tI153 tE153 tZ153 tG153 tL153 tI155 tE155 tZ155 tG155 tU155 tI157 tE157 tZ157 tG157 tL157 tI164 tE164 tZ164 tG164 tU164 tI171 tE171 tZ171 tG171 tU171 tI173 tE173 tZ173 tG173 tU173 tI174 tE174 tZ174 tG174 tF174_0 tF174_1 tF174_2 tP174 tI175 tE175 tZ175 tG175 tF175_0 tF175_1 tF175_2 tP175 tI176 tE176 tZ176 tG176 tF176_0 tF176_1 tP176 tI177 tE177 tZ177 tG177 tF177_0 tF177_1 tP177 tI186 tE186 tZ186 tG186 tU186 tI190 tE190 tZ190 tG190 tU190 tI192 tE192 tZ192 tG192 tF192_0 tF192_1 tP192 tI193 tE193 tZ193 tG193 tF193_0 tF193_1 tP193 tI199 tE199 tZ199 tG199 tU199 tI202 tE202 tZ202 tG202 tP202 tI218 tE218 tZ218 tG218 tF218_0 tF218_1 tF218_2 tF218_3 tP218 tI227 tE227 tZ227 tG227 tU227 tI230 tE230 tZ230 tG230 tF230_0 tF230_1 tF230_2 tF230_3 tF230_4 tF230_5 tF230_6 tF230_7 tF230_8 tF230_9 tF230_10 tP230 tI232 tE232 tZ232 tG232 tF232_0 tF232_1 tF232_2 tF232_3 tF232_4 tP232 tI233 tE233 tZ233 tG233 tF233_0 tF233_1 tF233_2 tF233_3 tF233_4 tP233 tI234 tE234 tZ234 tG234
def tbL : List (Nat × Nat) := [(22, 88), (25, 233), (29, 36), (30, 80), (33, 177), (34, 50), (37, 66), (56, 193), (61, 3), (70, 75), (86, 151), (101, 135), (153, 9), (157, 61)]
theorem aTL {t e : Nat} (h : lk tbL t = some e) : EL Tryz.prog t = some e := lk_all (Q := fun t e => EL Tryz.prog t = some e) (by
  intro _ h
  simp only [tbL, List.mem_cons, List.not_mem_nil, or_false] at h
  rcases h with rfl | rfl | rfl | rfl | rfl | rfl | rfl | rfl | rfl | rfl | rfl | rfl | rfl | rfl
  · exact tL22
  · exact tL25
  · exact tL29
  · exact tL30
  · exact tL33
  · exact tL34
  · exact tL37
  · exact tL56
  · exact tL61
  · exact tL70
  · exact tL86
  · exact tL101
  · exact tL153
  · exact tL157) h
def tbM : List (Nat × Nat × Nat) := [(91, 3, 3), (93, 52, 3), (106, 3, 29), (136, 3, 4)]
theorem aTM {t : Nat} {e : Nat × Nat} (h : lk tbM t = some e) : MT Tryz.prog t = some e := lk_all (Q := fun t e => MT Tryz.prog t = some e) (by
  intro _ h
  simp only [tbM, List.mem_cons, List.not_mem_nil, or_false] at h
  rcases h with rfl | rfl | rfl | rfl
  · exact tM91
  · exact tM93
  · exact tM106
  · exact tM136) h
def tbG : List (Nat × Bool × List Value) := [(3, (false, [.int .i64 0])), (4, (false, [.bool false])), (29, (false, [.slice none 0 0]))]
theorem aTG {t : Nat} {e : Bool × List Value} (h : lk tbG t = some e) : ZG Tryz.prog t = some e := lk_all (Q := fun t e => ZG Tryz.prog t = some e) (by
  intro _ h
  simp only [tbG, List.mem_cons, List.not_mem_nil, or_false] at h
  rcases h with rfl | rfl | rfl
  · exact tG3
  · exact tG4
  · exact tG29) h
theorem aKD {t : Nat} (h : (Nat.beq t 3 || Nat.beq t 52) = true) : Go.Maps.Keyed Tryz.prog t := by
  simp only [Bool.or_eq_true] at h
  rcases h with h | h
  · cases beq_t h; exact kd3
  · cases beq_t h; exact kd52
theorem aMo : Tryz.prog.follows .mixedOrders = true := by kernel_rfl
end Go.Proofs.YtaaflhmfhnfjhaaGreat
namespace Go.Proofs.YtaaflhmfhnfjhaaGreat
open Go.RowKit Go.Exe
theorem isNaN_c (n : ByteArray) : PCall Tryz.prog 138 [ft (.string n)] (ft (.bool false)) := by
  refine PCall.intro (nt := 6) (rs := [.tmp 2]) Tryz.func138 rfl ⟨by kernel_rfl, by kernel_rfl, by kernel_rfl⟩ (by simp) ?_
  rintro ⟨P, w0, ok0, may, np, pblk⟩ rfl rfl
  repeat' (first | refine W.seq fun K hK => ?_ | refine W.block ?_ | ((first | refine wR ?_ | refine wD ?_ | refine W.skip ?_ | refine W.exit ?_ | refine W.ret (Post.ret ?_) | refine aP0 ?_ | refine aF0 ?_); simp only [go_sem]) | refine wT ?_ | refine wF ?_ | refine wC (fun h => ?_) (fun h => ?_) | refine iK ?_ | refine aI2 ?_ | (refine hK _ ?_; clear hK K) | clear hK K)
def cmpB (a b : ByteArray) : Int := if Op.bytesLess a.toList b.toList then -1 else if !(Op.bytesLess a.toList b.toList || a.toList == b.toList) then 1 else 0
theorem cmpCompare_c (a b : ByteArray) : PCall Tryz.prog 130 [ft (.string a), ft (.string b)] (ft (.int .i64 (cmpB a b))) := by
  have c1 := isNaN_c
  refine PCall.intro (nt := 20) (rs := [.tmp 4]) Tryz.func130 rfl ⟨by kernel_rfl, by kernel_rfl, by kernel_rfl⟩ (by simp) ?_
  rintro ⟨P, w0, ok0, may, np, pblk⟩ rfl rfl
  repeat' (first | refine W.seq fun K hK => ?_ | refine W.block ?_ | ((first | refine wR ?_ | refine wD ?_ | refine W.skip ?_ | refine W.exit ?_ | refine W.ret (Post.ret ?_) | refine aP0 ?_ | refine aF0 ?_); simp only [go_sem]) | refine wT ?_ | refine wF ?_ | refine wC (fun h => ?_) (fun h => ?_) | refine iK ?_ | refine aI2 ?_ | (refine hK _ ?_; clear hK K) | clear hK K)
  all_goals simp_all [cmpB]
def iA (n : Int) : List AV := [.flat (.int .i64 n)]
def orL : List Int → Int
  | [] => 0
  | x :: r => if x = 0 then orL r else x
theorem cmpOr_c (l : List Int) : PCall Tryz.prog 128 [.c (.im (.sl 3 (l.map iA)))] (ft (.int .i64 (orL l))) := by
  refine PCall.intro (nt := 18) (rs := [.tmp 2]) Tryz.func128 rfl ⟨by kernel_rfl, by kernel_rfl, by kernel_rfl⟩ (by simp) ?_
  rintro ⟨P, w0, ok0, may, np, pblk⟩ rfl rfl
  refine W.lenIm 0 rfl fun hlen => ?_
  rw [List.length_map, maxLen_is] at hlen
  repeat' (first | refine W.seq fun K hK => ?_ | refine W.block ?_ | ((first | refine wR ?_ | refine wD ?_ | refine W.skip ?_ | refine W.exit ?_ | refine W.ret (Post.ret ?_) | refine aP ?_ | refine aF ?_ | refine aL ?_ | refine aU (hnn := by simp only [go_sem, reduceCtorEq, List.length_map]) ?_ | refine aM ?_ | refine aN ?_ | refine aR ?_ | refine aS (hb := by simp only [go_sem, reduceCtorEq, List.length_map]; first | omega | (simp; omega)) ?_ | refine aH ?_ | refine aI ?_ | refine aB ?_ | refine aZ ?_); simp only [go_sem, reduceCtorEq, List.length_map]) | refine wT ?_ | refine wF ?_ | refine wC (fun h => ?_) (fun h => ?_) | refine iK ?_ | refine aI2 ?_ | (refine hK _ ?_; clear hK K) | clear hK K)
  refine W.loopF (T := fun i : Nat => { t := [(2, ft (.int .i64 0)), (3, ft (.int .i64 0)), (6, .c (.im (.sl 3 (l.map iA)))), (7, ft (.int .i64 l.length)), (8, ft (.int .i64 (i : Nat)))], h := [], nx := 0, ex := [], nt := 18 })
    (Inv := fun i => i ≤ l.length ∧ orL l = orL (l.drop i)) (μ := fun i => l.length - i) (x0 := 0) (Fits.fit [] [2, 3, 6, 7, 8] 0 rfl rfl ?_) ⟨Nat.zero_le _, rfl⟩ ?_
  · simp only [go_sem]
    exact Fits.rfl
  rintro i ⟨hi, hinv⟩ KL hKL
  by_cases hlt : i < l.length
  · obtain ⟨x, hx, hm, hd⟩ := drop_at hlt
    have e1 : decide ((i : Int) < l.length) = true := by simp; omega
    have hw := w64s i (by omega)
    by_cases h0 : x = 0
    · have e2 : (x != 0) = false := by simp [h0]
      repeat' (first | refine W.seq fun K hK => ?_ | refine W.block ?_ | ((first | refine wR ?_ | refine wD ?_ | refine W.skip ?_ | refine W.exit ?_ | refine W.ret (Post.ret ?_) | refine aP ?_ | refine aF ?_ | refine aL ?_ | refine aU (hnn := by simp only [go_sem, reduceCtorEq, e1, e2, hw, List.getElem?_map, hx, iA]) ?_ | refine aM ?_ | refine aN ?_ | refine aR ?_ | refine aS (hb := by simp only [go_sem, reduceCtorEq, e1, e2, hw, List.getElem?_map, hx, iA]; first | omega | (simp; omega)) ?_ | refine aH ?_ | refine aI ?_ | refine aB ?_ | refine aZ ?_); simp only [go_sem, reduceCtorEq, e1, e2, hw, List.getElem?_map, hx, iA]) | refine wT ?_ | refine wF ?_ | refine wC (fun h => ?_) (fun h => ?_) | refine iK ?_ | refine aI2 ?_ | (refine hK _ ?_; clear hK K) | clear hK K)
      refine hKL.to (i + 1) ⟨by omega, ?_⟩ (by omega) (Fits.fit [] [2, 3, 6, 7, 8] 0 rfl rfl ?_)
      · rw [hinv, hd]; simp [orL, h0]
      · simp only [go_sem]
        exact Fits.rfl
    · have e2 : (x != 0) = true := by simp [h0]
      repeat' (first | refine W.seq fun K hK => ?_ | refine W.block ?_ | ((first | refine wR ?_ | refine wD ?_ | refine W.skip ?_ | refine W.exit ?_ | refine W.ret (Post.ret ?_) | refine aP ?_ | refine aF ?_ | refine aL ?_ | refine aU (hnn := by simp only [go_sem, reduceCtorEq, e1, e2, hw, List.getElem?_map, hx, iA]) ?_ | refine aM ?_ | refine aN ?_ | refine aR ?_ | refine aS (hb := by simp only [go_sem, reduceCtorEq, e1, e2, hw, List.getElem?_map, hx, iA]; first | omega | (simp; omega)) ?_ | refine aH ?_ | refine aI ?_ | refine aB ?_ | refine aZ ?_); simp only [go_sem, reduceCtorEq, e1, e2, hw, List.getElem?_map, hx, iA]) | refine wT ?_ | refine wF ?_ | refine wC (fun h => ?_) (fun h => ?_) | refine iK ?_ | refine aI2 ?_ | (refine hK _ ?_; clear hK K) | clear hK K)
      simp [hinv, hd, orL, h0]
  · have e1 : decide ((i : Int) < l.length) = false := by simp; omega
    obtain rfl : i = l.length := by omega
    clear hKL
    repeat' (first | refine W.seq fun K hK => ?_ | refine W.block ?_ | ((first | refine wR ?_ | refine wD ?_ | refine W.skip ?_ | refine W.exit ?_ | refine W.ret (Post.ret ?_) | refine aP ?_ | refine aF ?_ | refine aL ?_ | refine aU (hnn := by simp only [go_sem, reduceCtorEq, e1]) ?_ | refine aM ?_ | refine aN ?_ | refine aR ?_ | refine aS (hb := by simp only [go_sem, reduceCtorEq, e1]; first | omega | (simp; omega)) ?_ | refine aH ?_ | refine aI ?_ | refine aB ?_ | refine aZ ?_); simp only [go_sem, reduceCtorEq, e1]) | refine wT ?_ | refine wF ?_ | refine wC (fun h => ?_) (fun h => ?_) | refine iK ?_ | refine aI2 ?_ | (refine hK _ ?_; clear hK K) | clear hK K)
    simp [hinv, orL]
def cmpsG {α : Type} (cm : α → α → Int) : List α → List α → Int
  | [], [] => 0
  | [], _ :: _ => -1
  | _ :: _, [] => 1
  | x :: r, y :: q => if cm x y ≠ 0 then cm x y else cmpsG cm r q
theorem imR_nil : imR [] = [] := rfl
structure Lw {α : Type} (cm : α → α → Int) : Prop where
  anti : ∀ a b, cm b a = - cm a b
  tr : ∀ a b c, cm a b ≤ 0 → cm b c ≤ 0 → cm a c ≤ 0
  eq : ∀ a b, cm a b = 0 → a = b
theorem Lw.refl {α : Type} {cm : α → α → Int} (h : Lw cm) (a : α) : cm a a = 0 := by have := h.anti a a; omega
theorem Lw.lt1 {α : Type} {cm : α → α → Int} (h : Lw cm) {a b c : α} (h1 : cm a b < 0) (h2 : cm b c ≤ 0) : cm a c < 0 := by
  have h3 := h.tr a b c (by omega) h2
  by_cases h4 : cm a c = 0
  · have := h.eq a c h4
    subst this
    have := h.anti a b
    omega
  · omega
theorem cmpsG_anti {α : Type} {cm : α → α → Int} : ∀ (x y : List α), (∀ a ∈ x, ∀ b ∈ y, cm b a = - cm a b) → cmpsG cm y x = - cmpsG cm x y
  | [], [], _ => rfl
  | [], _ :: _, _ => rfl
  | _ :: _, [], _ => rfl
  | a :: x, b :: y, h => by
    have h1 := h a (by simp) b (by simp)
    have h2 := cmpsG_anti x y fun a ha b hb => h a (by simp [ha]) b (by simp [hb])
    simp only [cmpsG]
    split <;> split <;> omega
theorem cmpsG_eq {α : Type} {cm : α → α → Int} : ∀ (x y : List α), (∀ a ∈ x, ∀ b ∈ y, cm a b = 0 → a = b) → cmpsG cm x y = 0 → x = y
  | [], [], _, _ => rfl
  | [], _ :: _, _, h => by simp [cmpsG] at h
  | _ :: _, [], _, h => by simp [cmpsG] at h
  | a :: x, b :: y, h, h0 => by
    simp only [cmpsG] at h0
    split at h0
    · omega
    · rename_i h1
      have e := h a (by simp) b (by simp) (by omega)
      have := cmpsG_eq x y (fun a ha b hb => h a (by simp [ha]) b (by simp [hb])) h0
      rw [e, this]
theorem cmpsG_tr {α : Type} {cm : α → α → Int} : ∀ (x y z : List α), (∀ a ∈ x, ∀ b, cm b a = - cm a b) → (∀ a ∈ x, ∀ b c, cm a b ≤ 0 → cm b c ≤ 0 → cm a c ≤ 0) → (∀ a ∈ x, ∀ b, cm a b = 0 → a = b) → (∀ a b, cm a b = 0 → a = b) → cmpsG cm x y ≤ 0 → cmpsG cm y z ≤ 0 → cmpsG cm x z ≤ 0
  | [], _, [], _, _, _, _, _, _ => by simp [cmpsG]
  | [], _, _ :: _, _, _, _, _, _, _ => by simp [cmpsG]
  | _ :: _, [], _, _, _, _, _, h, _ => by simp [cmpsG] at h
  | _ :: _, _ :: _, [], _, _, _, _, _, h => by simp [cmpsG] at h
  | a :: x, b :: y, c :: z, ha, ht, he, he2, h1, h2 => by
    have ih := cmpsG_tr x y z (fun a h => ha a (by simp [h])) (fun a h => ht a (by simp [h])) (fun a h => he a (by simp [h])) he2
    have t1 := ht a (by simp) b c
    have n1 := ha a (by simp) b
    have n2 := ha a (by simp) c
    simp only [cmpsG] at h1 h2 ⊢
    split at h1
    · split at h2
      · have t2 := t1 h1 h2
        split
        · exact t2
        · rename_i h3 h4 h5
          have := he a (by simp) c (by omega)
          subst this
          omega
      · rename_i h3 h4
        have := he2 b c (by omega)
        subst this
        rw [if_pos h3]; exact h1
    · rename_i h3
      have := he a (by simp) b (by omega)
      subst this
      split at h2
      · rename_i h4
        rw [if_pos h4]; exact h2
      · rename_i h4
        rw [if_neg h4]; exact ih h1 h2
theorem Lw.list {α : Type} {cm : α → α → Int} (h : Lw cm) : Lw (cmpsG cm) :=
  ⟨fun x y => cmpsG_anti x y fun a _ b _ => h.anti a b, fun x y z => cmpsG_tr x y z (fun a _ b => h.anti a b) (fun a _ b c => h.tr a b c) (fun a _ b => h.eq a b) h.eq, fun x y => cmpsG_eq x y fun a _ b _ => h.eq a b⟩
def cmpU (a b : UInt8) : Int := if a < b then -1 else if b < a then 1 else 0
theorem lwU : Lw cmpU := by
  refine ⟨fun a b => ?_, fun a b c h1 h2 => ?_, fun a b h => ?_⟩
  · simp only [cmpU, UInt8.lt_iff_toNat_lt]; split <;> split <;> omega
  · simp only [cmpU, UInt8.lt_iff_toNat_lt] at *; split at h1 <;> split at h2 <;> (try split at h1) <;> (try split at h2) <;> split <;> (try split) <;> omega
  · simp only [cmpU, UInt8.lt_iff_toNat_lt] at h
    apply UInt8.toNat_inj.1
    split at h
    · omega
    · split at h <;> omega
theorem cmpL_eq : ∀ (x y : List UInt8), (if Op.bytesLess x y then (-1 : Int) else if !(Op.bytesLess x y || x == y) then 1 else 0) = cmpsG cmpU x y
  | [], [] => by simp [Op.bytesLess, cmpsG]
  | [], _ :: _ => by simp [Op.bytesLess, cmpsG]
  | _ :: _, [] => by simp [Op.bytesLess, cmpsG]
  | a :: x, b :: y => by
    have ih := cmpL_eq x y
    simp only [cmpsG, ← ih, Op.bytesLess, cmpU]
    by_cases h1 : a < b
    · simp [h1]
    · by_cases h2 : b < a
      · have h3 : a ≠ b := fun e => by subst e; exact h1 h2
        simp [h1, h2, h3]
      · have h3 : a = b := by
          simp only [UInt8.lt_iff_toNat_lt] at h1 h2
          exact UInt8.toNat_inj.1 (by omega)
        subst h3
        simp [h1]
theorem lwB : Lw cmpB := by
  have key : ∀ a b, cmpB a b = cmpsG cmpU a.toList b.toList := fun a b => cmpL_eq _ _
  refine ⟨fun a b => ?_, fun a b c => ?_, fun a b h => ?_⟩
  · rw [key, key]; exact lwU.list.anti _ _
  · rw [key, key, key]; exact lwU.list.tr _ _ _
  · rw [key] at h
    have := lwU.list.eq _ _ h
    rw [ByteArray.toList_eq, ByteArray.toList_eq] at this
    exact ByteArray.ext (Array.toList_inj.1 this)
theorem Lw.ord {α : Type} {cm : α → α → Int} (h : Lw cm) (l : List α) : OrdOn cm l :=
  ⟨fun x _ h1 => by have := h.refl x; omega, fun x _ y _ z _ h1 h2 => h.lt1 h1 (by omega), fun x _ y _ z _ h1 h2 h3 => by
    have a1 := h.anti x y
    have a2 := h.anti y z
    have a3 := h.anti x z
    have := h.tr z y x (by omega) (by omega)
    omega⟩
theorem Lw.uni {α : Type} {cm : α → α → Int} (h : Lw cm) : ∀ {l m : List α}, l.Perm m → l.Pairwise (fun a b => ¬ cm b a < 0) → m.Pairwise (fun a b => ¬ cm b a < 0) → l = m
  | [], m, hp, _, _ => by rw [List.nil_perm.1 hp]
  | x :: r, [], hp, _, _ => by have := hp.length_eq; simp at this
  | x :: r, y :: q, hp, h1, h2 => by
    rw [List.pairwise_cons] at h1 h2
    have e : x = y := by
      have hx : x ∈ y :: q := hp.subset (by simp)
      have hy : y ∈ x :: r := hp.symm.subset (by simp)
      rcases List.mem_cons.1 hx with e | hx
      · exact e
      · rcases List.mem_cons.1 hy with e | hy
        · exact e.symm
        · have a1 := h1.1 y hy
          have a2 := h2.1 x hx
          have a3 := h.anti x y
          exact h.eq x y (by omega)
    subst e
    rw [Lw.uni h (List.perm_cons x |>.1 hp) h1.2 h2.2]
theorem seen_perm {n : Nat} {seen : List Nat} (hn : seen.Nodup) (hb : ∀ j ∈ seen, j < n) (ha : ∀ j, j < n → j ∈ seen) : seen.Perm (List.range n) :=
  (List.perm_ext_iff_of_nodup hn List.nodup_range).2 fun j => by rw [List.mem_range]; exact ⟨hb j, ha j⟩
theorem seen_le : ∀ {n : Nat} {seen : List Nat}, seen.Nodup → (∀ j ∈ seen, j < n) → seen.length ≤ n
  | 0, seen, _, hb => by
    cases seen with
    | nil => simp
    | cons x l => exact absurd (hb x (by simp)) (by omega)
  | n + 1, seen, hn, hb => by
    have := seen_le (n := n) (hn.erase n) fun j hj => by
      have := (hn.mem_erase_iff).1 hj
      have := hb j this.2
      omega
    rw [List.length_erase] at this
    split at this <;> omega
end Go.Proofs.YtaaflhmfhnfjhaaGreat
