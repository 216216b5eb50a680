import Derived.Test.YtegcmciglakicaaGreatM3
import Derived.Test.YtegcmciglakicaaGreatProg
/-
  ZTya: the facts of the program's types, for the reckoning.
-/
namespace Go.Proofs.YtegcmciglakicaaGreat
open Go Go.RowKit Go.Exe

theorem tI2 : TI Tryz.prog 2 = some (false, 1) := by kernel_rfl
theorem tE2 : EInfo Tryz.prog 2 = some (1, 8) := by kernel_rfl
theorem tZ2 : ZV Tryz.prog 2 = some [.int .i64 0] := by kernel_rfl
theorem tG2 : ZG Tryz.prog 2 = some (false, [.int .i64 0]) := by kernel_rfl
theorem tU2 : Tryz.prog.underlying 2 = some (.int .i64) := by kernel_rfl
theorem tI3 : TI Tryz.prog 3 = some (false, 1) := by kernel_rfl
theorem tE3 : EInfo Tryz.prog 3 = some (1, 8) := by kernel_rfl
theorem tZ3 : ZV Tryz.prog 3 = some [.int .i64 0] := by kernel_rfl
theorem tG3 : ZG Tryz.prog 3 = some (false, [.int .i64 0]) := by kernel_rfl
theorem tU3 : Tryz.prog.underlying 3 = some (.int .i64) := by kernel_rfl
theorem tI4 : TI Tryz.prog 4 = some (false, 1) := by kernel_rfl
theorem tE4 : EInfo Tryz.prog 4 = some (1, 1) := by kernel_rfl
theorem tZ4 : ZV Tryz.prog 4 = some [.bool false] := by kernel_rfl
theorem tG4 : ZG Tryz.prog 4 = some (false, [.bool false]) := by kernel_rfl
theorem tU4 : Tryz.prog.underlying 4 = some .bool := by kernel_rfl
theorem tI5 : TI Tryz.prog 5 = some (false, 1) := by kernel_rfl
theorem tE5 : EInfo Tryz.prog 5 = some (1, 1) := by kernel_rfl
theorem tZ5 : ZV Tryz.prog 5 = some [.int .u8 0] := by kernel_rfl
theorem tG5 : ZG Tryz.prog 5 = some (false, [.int .u8 0]) := by kernel_rfl
theorem tU5 : Tryz.prog.underlying 5 = some (.int .u8) := by kernel_rfl
theorem tI7 : TI Tryz.prog 7 = some (true, 4) := by kernel_rfl
theorem tE7 : EInfo Tryz.prog 7 = some (4, 24) := by kernel_rfl
theorem tZ7 : ZV Tryz.prog 7 = some [.int .i64 0, .int .i64 0, .bool false, .int .u8 0] := by kernel_rfl
theorem tG7 : ZG Tryz.prog 7 = some (true, [.int .i64 0, .int .i64 0, .bool false, .int .u8 0]) := by kernel_rfl
theorem tF7_0 : FO Tryz.prog 7 0 = some 0 := by kernel_rfl
theorem tF7_1 : FO Tryz.prog 7 1 = some 1 := by kernel_rfl
theorem tF7_2 : FO Tryz.prog 7 2 = some 2 := by kernel_rfl
theorem tF7_3 : FO Tryz.prog 7 3 = some 3 := by kernel_rfl
theorem tP7 : PLs Tryz.prog 7 = some (.st [(0, 1), (1, 1), (2, 1), (3, 1)]) := by kernel_rfl
theorem tI9 : TI Tryz.prog 9 = some (false, 1) := by kernel_rfl
theorem tE9 : EInfo Tryz.prog 9 = some (1, 16) := by kernel_rfl
theorem tZ9 : ZV Tryz.prog 9 = some [.string ByteArray.empty] := by kernel_rfl
theorem tG9 : ZG Tryz.prog 9 = some (false, [.string ByteArray.empty]) := by kernel_rfl
theorem tU9 : Tryz.prog.underlying 9 = some .string := by kernel_rfl
theorem tI12 : TI Tryz.prog 12 = some (false, 1) := by kernel_rfl
theorem tE12 : EInfo Tryz.prog 12 = some (1, 8) := by kernel_rfl
theorem tZ12 : ZV Tryz.prog 12 = some [.int .u64 0] := by kernel_rfl
theorem tG12 : ZG Tryz.prog 12 = some (false, [.int .u64 0]) := by kernel_rfl
theorem tU12 : Tryz.prog.underlying 12 = some (.int .u64) := by kernel_rfl
theorem tI13 : TI Tryz.prog 13 = some (true, 2) := by kernel_rfl
theorem tE13 : EInfo Tryz.prog 13 = some (2, 24) := by kernel_rfl
theorem tZ13 : ZV Tryz.prog 13 = some [.string ByteArray.empty, .int .u64 0] := by kernel_rfl
theorem tG13 : ZG Tryz.prog 13 = some (true, [.string ByteArray.empty, .int .u64 0]) := by kernel_rfl
theorem tF13_0 : FO Tryz.prog 13 0 = some 0 := by kernel_rfl
theorem tF13_1 : FO Tryz.prog 13 1 = some 1 := by kernel_rfl
theorem tP13 : PLs Tryz.prog 13 = some (.st [(0, 1), (1, 1)]) := by kernel_rfl
theorem tI18 : TI Tryz.prog 18 = some (true, 1) := by kernel_rfl
theorem tE18 : EInfo Tryz.prog 18 = some (1, 8) := by kernel_rfl
theorem tZ18 : ZV Tryz.prog 18 = some [.pointer none] := by kernel_rfl
theorem tG18 : ZG Tryz.prog 18 = some (true, [.pointer none]) := by kernel_rfl
theorem tF18_0 : FO Tryz.prog 18 0 = some 0 := by kernel_rfl
theorem tP18 : PLs Tryz.prog 18 = some (.st [(0, 1)]) := by kernel_rfl
theorem tI19 : TI Tryz.prog 19 = some (true, 1) := by kernel_rfl
theorem tE19 : EInfo Tryz.prog 19 = some (1, 8) := by kernel_rfl
theorem tZ19 : ZV Tryz.prog 19 = some [.pointer none] := by kernel_rfl
theorem tG19 : ZG Tryz.prog 19 = some (true, [.pointer none]) := by kernel_rfl
theorem tF19_0 : FO Tryz.prog 19 0 = some 0 := by kernel_rfl
theorem tP19 : PLs Tryz.prog 19 = some (.st [(0, 1)]) := by kernel_rfl
theorem tI20 : TI Tryz.prog 20 = some (false, 1) := by kernel_rfl
theorem tE20 : EInfo Tryz.prog 20 = some (1, 16) := by kernel_rfl
theorem tZ20 : ZV Tryz.prog 20 = some [.nilIface] := by kernel_rfl
theorem tG20 : ZG Tryz.prog 20 = some (false, [.nilIface]) := by kernel_rfl
theorem tI21 : TI Tryz.prog 21 = some (false, 1) := by kernel_rfl
theorem tE21 : EInfo Tryz.prog 21 = some (1, 4) := by kernel_rfl
theorem tZ21 : ZV Tryz.prog 21 = some [.int .i32 0] := by kernel_rfl
theorem tG21 : ZG Tryz.prog 21 = some (false, [.int .i32 0]) := by kernel_rfl
theorem tU21 : Tryz.prog.underlying 21 = some (.int .i32) := by kernel_rfl
theorem tI22 : TI Tryz.prog 22 = some (false, 1) := by kernel_rfl
theorem tE22 : EInfo Tryz.prog 22 = some (1, 24) := by kernel_rfl
theorem tZ22 : ZV Tryz.prog 22 = some [.slice none 0 0] := by kernel_rfl
theorem tG22 : ZG Tryz.prog 22 = some (false, [.slice none 0 0]) := by kernel_rfl
theorem tL22 : EL Tryz.prog 22 = some 91 := by kernel_rfl
theorem tI23 : TI Tryz.prog 23 = some (false, 1) := by kernel_rfl
theorem tE23 : EInfo Tryz.prog 23 = some (1, 1) := by kernel_rfl
theorem tZ23 : ZV Tryz.prog 23 = some [.int .i8 0] := by kernel_rfl
theorem tG23 : ZG Tryz.prog 23 = some (false, [.int .i8 0]) := by kernel_rfl
theorem tU23 : Tryz.prog.underlying 23 = some (.int .i8) := by kernel_rfl
theorem tI24 : TI Tryz.prog 24 = some (true, 4) := by kernel_rfl
theorem tE24 : EInfo Tryz.prog 24 = some (4, 4) := by kernel_rfl
theorem tZ24 : ZV Tryz.prog 24 = some [.int .i8 0, .int .i8 0, .int .i8 0, .int .i8 0] := by kernel_rfl
theorem tG24 : ZG Tryz.prog 24 = some (true, [.int .i8 0, .int .i8 0, .int .i8 0, .int .i8 0]) := by kernel_rfl
theorem tP24 : PLs Tryz.prog 24 = some (.ar 1) := by kernel_rfl
theorem tI25 : TI Tryz.prog 25 = some (false, 1) := by kernel_rfl
theorem tE25 : EInfo Tryz.prog 25 = some (1, 24) := by kernel_rfl
theorem tZ25 : ZV Tryz.prog 25 = some [.slice none 0 0] := by kernel_rfl
theorem tG25 : ZG Tryz.prog 25 = some (false, [.slice none 0 0]) := by kernel_rfl
theorem tL25 : EL Tryz.prog 25 = some 261 := by kernel_rfl
theorem tI26 : TI Tryz.prog 26 = some (true, 7) := by kernel_rfl
theorem tE26 : EInfo Tryz.prog 26 = some (7, 64) := by kernel_rfl
theorem tZ26 : ZV Tryz.prog 26 = some [.slice none 0 0, .int .i8 0, .int .i8 0, .int .i8 0, .int .i8 0, .slice none 0 0, .int .u8 0] := by kernel_rfl
theorem tG26 : ZG Tryz.prog 26 = some (true, [.slice none 0 0, .int .i8 0, .int .i8 0, .int .i8 0, .int .i8 0, .slice none 0 0, .int .u8 0]) := by kernel_rfl
theorem tF26_0 : FO Tryz.prog 26 0 = some 0 := by kernel_rfl
theorem tF26_1 : FO Tryz.prog 26 1 = some 1 := by kernel_rfl
theorem tF26_2 : FO Tryz.prog 26 2 = some 5 := by kernel_rfl
theorem tF26_3 : FO Tryz.prog 26 3 = some 6 := by kernel_rfl
theorem tP26 : PLs Tryz.prog 26 = some (.st [(0, 1), (1, 4), (5, 1), (6, 1)]) := by kernel_rfl
theorem tI27 : TI Tryz.prog 27 = some (true, 7) := by kernel_rfl
theorem tE27 : EInfo Tryz.prog 27 = some (7, 64) := by kernel_rfl
theorem tZ27 : ZV Tryz.prog 27 = some [.slice none 0 0, .int .i8 0, .int .i8 0, .int .i8 0, .int .i8 0, .slice none 0 0, .int .u8 0] := by kernel_rfl
theorem tG27 : ZG Tryz.prog 27 = some (true, [.slice none 0 0, .int .i8 0, .int .i8 0, .int .i8 0, .int .i8 0, .slice none 0 0, .int .u8 0]) := by kernel_rfl
theorem tF27_0 : FO Tryz.prog 27 0 = some 0 := by kernel_rfl
theorem tF27_1 : FO Tryz.prog 27 1 = some 1 := by kernel_rfl
theorem tF27_2 : FO Tryz.prog 27 2 = some 5 := by kernel_rfl
theorem tF27_3 : FO Tryz.prog 27 3 = some 6 := by kernel_rfl
theorem tP27 : PLs Tryz.prog 27 = some (.st [(0, 1), (1, 4), (5, 1), (6, 1)]) := by kernel_rfl
theorem tI30 : TI Tryz.prog 30 = some (false, 1) := by kernel_rfl
theorem tE30 : EInfo Tryz.prog 30 = some (1, 24) := by kernel_rfl
theorem tZ30 : ZV Tryz.prog 30 = some [.slice none 0 0] := by kernel_rfl
theorem tG30 : ZG Tryz.prog 30 = some (false, [.slice none 0 0]) := by kernel_rfl
theorem tL30 : EL Tryz.prog 30 = some 35 := by kernel_rfl
theorem tI32 : TI Tryz.prog 32 = some (false, 1) := by kernel_rfl
theorem tE32 : EInfo Tryz.prog 32 = some (1, 24) := by kernel_rfl
theorem tZ32 : ZV Tryz.prog 32 = some [.slice none 0 0] := by kernel_rfl
theorem tG32 : ZG Tryz.prog 32 = some (false, [.slice none 0 0]) := by kernel_rfl
theorem tL32 : EL Tryz.prog 32 = some 150 := by kernel_rfl
theorem tI33 : TI Tryz.prog 33 = some (false, 1) := by kernel_rfl
theorem tE33 : EInfo Tryz.prog 33 = some (1, 24) := by kernel_rfl
theorem tZ33 : ZV Tryz.prog 33 = some [.slice none 0 0] := by kernel_rfl
theorem tG33 : ZG Tryz.prog 33 = some (false, [.slice none 0 0]) := by kernel_rfl
theorem tL33 : EL Tryz.prog 33 = some 56 := by kernel_rfl
theorem tI34 : TI Tryz.prog 34 = some (true, 14) := by kernel_rfl
theorem tE34 : EInfo Tryz.prog 34 = some (14, 168) := by kernel_rfl
theorem tZ34 : ZV Tryz.prog 34 = some [.int .i64 0, .int .i64 0, .int .i64 0, .int .i64 0, .int .i64 0, .int .i64 0, .string ByteArray.empty, .string ByteArray.empty, .string ByteArray.empty, .int .i64 0, .int .i64 0, .bool false, .slice none 0 0, .slice none 0 0] := by kernel_rfl
theorem tG34 : ZG Tryz.prog 34 = some (true, [.int .i64 0, .int .i64 0, .int .i64 0, .int .i64 0, .int .i64 0, .int .i64 0, .string ByteArray.empty, .string ByteArray.empty, .string ByteArray.empty, .int .i64 0, .int .i64 0, .bool false, .slice none 0 0, .slice none 0 0]) := by kernel_rfl
theorem tF34_0 : FO Tryz.prog 34 0 = some 0 := by kernel_rfl
theorem tF34_1 : FO Tryz.prog 34 1 = some 1 := by kernel_rfl
theorem tF34_2 : FO Tryz.prog 34 2 = some 2 := by kernel_rfl
theorem tF34_3 : FO Tryz.prog 34 3 = some 3 := by kernel_rfl
theorem tF34_4 : FO Tryz.prog 34 4 = some 4 := by kernel_rfl
theorem tF34_5 : FO Tryz.prog 34 5 = some 5 := by kernel_rfl
theorem tF34_6 : FO Tryz.prog 34 6 = some 6 := by kernel_rfl
theorem tF34_7 : FO Tryz.prog 34 7 = some 7 := by kernel_rfl
theorem tF34_8 : FO Tryz.prog 34 8 = some 8 := by kernel_rfl
theorem tF34_9 : FO Tryz.prog 34 9 = some 9 := by kernel_rfl
theorem tF34_10 : FO Tryz.prog 34 10 = some 10 := by kernel_rfl
theorem tF34_11 : FO Tryz.prog 34 11 = some 11 := by kernel_rfl
theorem tF34_12 : FO Tryz.prog 34 12 = some 12 := by kernel_rfl
theorem tF34_13 : FO Tryz.prog 34 13 = some 13 := by kernel_rfl
theorem tP34 : PLs Tryz.prog 34 = some (.st [(0, 1), (1, 1), (2, 1), (3, 1), (4, 1), (5, 1), (6, 1), (7, 1), (8, 1), (9, 1), (10, 1), (11, 1), (12, 1), (13, 1)]) := by kernel_rfl
theorem tI35 : TI Tryz.prog 35 = some (true, 14) := by kernel_rfl
theorem tE35 : EInfo Tryz.prog 35 = some (14, 168) := by kernel_rfl
theorem tZ35 : ZV Tryz.prog 35 = some [.int .i64 0, .int .i64 0, .int .i64 0, .int .i64 0, .int .i64 0, .int .i64 0, .string ByteArray.empty, .string ByteArray.empty, .string ByteArray.empty, .int .i64 0, .int .i64 0, .bool false, .slice none 0 0, .slice none 0 0] := by kernel_rfl
theorem tG35 : ZG Tryz.prog 35 = some (true, [.int .i64 0, .int .i64 0, .int .i64 0, .int .i64 0, .int .i64 0, .int .i64 0, .string ByteArray.empty, .string ByteArray.empty, .string ByteArray.empty, .int .i64 0, .int .i64 0, .bool false, .slice none 0 0, .slice none 0 0]) := by kernel_rfl
theorem tF35_0 : FO Tryz.prog 35 0 = some 0 := by kernel_rfl
theorem tF35_1 : FO Tryz.prog 35 1 = some 1 := by kernel_rfl
theorem tF35_2 : FO Tryz.prog 35 2 = some 2 := by kernel_rfl
theorem tF35_3 : FO Tryz.prog 35 3 = some 3 := by kernel_rfl
theorem tF35_4 : FO Tryz.prog 35 4 = some 4 := by kernel_rfl
theorem tF35_5 : FO Tryz.prog 35 5 = some 5 := by kernel_rfl
theorem tF35_6 : FO Tryz.prog 35 6 = some 6 := by kernel_rfl
theorem tF35_7 : FO Tryz.prog 35 7 = some 7 := by kernel_rfl
theorem tF35_8 : FO Tryz.prog 35 8 = some 8 := by kernel_rfl
theorem tF35_9 : FO Tryz.prog 35 9 = some 9 := by kernel_rfl
theorem tF35_10 : FO Tryz.prog 35 10 = some 10 := by kernel_rfl
theorem tF35_11 : FO Tryz.prog 35 11 = some 11 := by kernel_rfl
theorem tF35_12 : FO Tryz.prog 35 12 = some 12 := by kernel_rfl
theorem tF35_13 : FO Tryz.prog 35 13 = some 13 := by kernel_rfl
theorem tP35 : PLs Tryz.prog 35 = some (.st [(0, 1), (1, 1), (2, 1), (3, 1), (4, 1), (5, 1), (6, 1), (7, 1), (8, 1), (9, 1), (10, 1), (11, 1), (12, 1), (13, 1)]) := by kernel_rfl
theorem tI36 : TI Tryz.prog 36 = some (false, 1) := by kernel_rfl
theorem tE36 : EInfo Tryz.prog 36 = some (1, 24) := by kernel_rfl
theorem tZ36 : ZV Tryz.prog 36 = some [.slice none 0 0] := by kernel_rfl
theorem tG36 : ZG Tryz.prog 36 = some (false, [.slice none 0 0]) := by kernel_rfl
theorem tL36 : EL Tryz.prog 36 = some 3 := by kernel_rfl
theorem tI39 : TI Tryz.prog 39 = some (false, 1) := by kernel_rfl
theorem tE39 : EInfo Tryz.prog 39 = some (1, 24) := by kernel_rfl
theorem tZ39 : ZV Tryz.prog 39 = some [.slice none 0 0] := by kernel_rfl
theorem tG39 : ZG Tryz.prog 39 = some (false, [.slice none 0 0]) := by kernel_rfl
theorem tL39 : EL Tryz.prog 39 = some 41 := by kernel_rfl
theorem tI40 : TI Tryz.prog 40 = some (true, 3) := by kernel_rfl
theorem tE40 : EInfo Tryz.prog 40 = some (3, 56) := by kernel_rfl
theorem tZ40 : ZV Tryz.prog 40 = some [.string ByteArray.empty, .string ByteArray.empty, .slice none 0 0] := by kernel_rfl
theorem tG40 : ZG Tryz.prog 40 = some (true, [.string ByteArray.empty, .string ByteArray.empty, .slice none 0 0]) := by kernel_rfl
theorem tF40_0 : FO Tryz.prog 40 0 = some 0 := by kernel_rfl
theorem tF40_1 : FO Tryz.prog 40 1 = some 1 := by kernel_rfl
theorem tF40_2 : FO Tryz.prog 40 2 = some 2 := by kernel_rfl
theorem tP40 : PLs Tryz.prog 40 = some (.st [(0, 1), (1, 1), (2, 1)]) := by kernel_rfl
theorem tI41 : TI Tryz.prog 41 = some (true, 3) := by kernel_rfl
theorem tE41 : EInfo Tryz.prog 41 = some (3, 56) := by kernel_rfl
theorem tZ41 : ZV Tryz.prog 41 = some [.string ByteArray.empty, .string ByteArray.empty, .slice none 0 0] := by kernel_rfl
theorem tG41 : ZG Tryz.prog 41 = some (true, [.string ByteArray.empty, .string ByteArray.empty, .slice none 0 0]) := by kernel_rfl
theorem tF41_0 : FO Tryz.prog 41 0 = some 0 := by kernel_rfl
theorem tF41_1 : FO Tryz.prog 41 1 = some 1 := by kernel_rfl
theorem tF41_2 : FO Tryz.prog 41 2 = some 2 := by kernel_rfl
theorem tP41 : PLs Tryz.prog 41 = some (.st [(0, 1), (1, 1), (2, 1)]) := by kernel_rfl
theorem tI44 : TI Tryz.prog 44 = some (false, 1) := by kernel_rfl
theorem tE44 : EInfo Tryz.prog 44 = some (1, 24) := by kernel_rfl
theorem tZ44 : ZV Tryz.prog 44 = some [.slice none 0 0] := by kernel_rfl
theorem tG44 : ZG Tryz.prog 44 = some (false, [.slice none 0 0]) := by kernel_rfl
theorem tL44 : EL Tryz.prog 44 = some 46 := by kernel_rfl
theorem tI45 : TI Tryz.prog 45 = some (true, 2) := by kernel_rfl
theorem tE45 : EInfo Tryz.prog 45 = some (2, 2) := by kernel_rfl
theorem tZ45 : ZV Tryz.prog 45 = some [.int .u8 0, .int .u8 0] := by kernel_rfl
theorem tG45 : ZG Tryz.prog 45 = some (true, [.int .u8 0, .int .u8 0]) := by kernel_rfl
theorem tF45_0 : FO Tryz.prog 45 0 = some 0 := by kernel_rfl
theorem tF45_1 : FO Tryz.prog 45 1 = some 1 := by kernel_rfl
theorem tP45 : PLs Tryz.prog 45 = some (.st [(0, 1), (1, 1)]) := by kernel_rfl
theorem tI46 : TI Tryz.prog 46 = some (true, 2) := by kernel_rfl
theorem tE46 : EInfo Tryz.prog 46 = some (2, 2) := by kernel_rfl
theorem tZ46 : ZV Tryz.prog 46 = some [.int .u8 0, .int .u8 0] := by kernel_rfl
theorem tG46 : ZG Tryz.prog 46 = some (true, [.int .u8 0, .int .u8 0]) := by kernel_rfl
theorem tF46_0 : FO Tryz.prog 46 0 = some 0 := by kernel_rfl
theorem tF46_1 : FO Tryz.prog 46 1 = some 1 := by kernel_rfl
theorem tP46 : PLs Tryz.prog 46 = some (.st [(0, 1), (1, 1)]) := by kernel_rfl
theorem tI47 : TI Tryz.prog 47 = some (false, 1) := by kernel_rfl
theorem tE47 : EInfo Tryz.prog 47 = some (1, 24) := by kernel_rfl
theorem tZ47 : ZV Tryz.prog 47 = some [.slice none 0 0] := by kernel_rfl
theorem tG47 : ZG Tryz.prog 47 = some (false, [.slice none 0 0]) := by kernel_rfl
theorem tL47 : EL Tryz.prog 47 = some 9 := by kernel_rfl
theorem tI48 : TI Tryz.prog 48 = some (false, 1) := by kernel_rfl
theorem tE48 : EInfo Tryz.prog 48 = some (1, 24) := by kernel_rfl
theorem tZ48 : ZV Tryz.prog 48 = some [.slice none 0 0] := by kernel_rfl
theorem tG48 : ZG Tryz.prog 48 = some (false, [.slice none 0 0]) := by kernel_rfl
theorem tL48 : EL Tryz.prog 48 = some 59 := by kernel_rfl
theorem tI49 : TI Tryz.prog 49 = some (true, 6) := by kernel_rfl
theorem tE49 : EInfo Tryz.prog 49 = some (6, 128) := by kernel_rfl
theorem tZ49 : ZV Tryz.prog 49 = some [.int .i64 0, .slice none 0 0, .slice none 0 0, .slice none 0 0, .slice none 0 0, .slice none 0 0] := by kernel_rfl
theorem tG49 : ZG Tryz.prog 49 = some (true, [.int .i64 0, .slice none 0 0, .slice none 0 0, .slice none 0 0, .slice none 0 0, .slice none 0 0]) := by kernel_rfl
theorem tF49_0 : FO Tryz.prog 49 0 = some 0 := by kernel_rfl
theorem tF49_1 : FO Tryz.prog 49 1 = some 1 := by kernel_rfl
theorem tF49_2 : FO Tryz.prog 49 2 = some 2 := by kernel_rfl
theorem tF49_3 : FO Tryz.prog 49 3 = some 3 := by kernel_rfl
theorem tF49_4 : FO Tryz.prog 49 4 = some 4 := by kernel_rfl
theorem tF49_5 : FO Tryz.prog 49 5 = some 5 := by kernel_rfl
theorem tP49 : PLs Tryz.prog 49 = some (.st [(0, 1), (1, 1), (2, 1), (3, 1), (4, 1), (5, 1)]) := by kernel_rfl
theorem tI50 : TI Tryz.prog 50 = some (true, 6) := by kernel_rfl
theorem tE50 : EInfo Tryz.prog 50 = some (6, 128) := by kernel_rfl
theorem tZ50 : ZV Tryz.prog 50 = some [.int .i64 0, .slice none 0 0, .slice none 0 0, .slice none 0 0, .slice none 0 0, .slice none 0 0] := by kernel_rfl
theorem tG50 : ZG Tryz.prog 50 = some (true, [.int .i64 0, .slice none 0 0, .slice none 0 0, .slice none 0 0, .slice none 0 0, .slice none 0 0]) := by kernel_rfl
theorem tF50_0 : FO Tryz.prog 50 0 = some 0 := by kernel_rfl
theorem tF50_1 : FO Tryz.prog 50 1 = some 1 := by kernel_rfl
theorem tF50_2 : FO Tryz.prog 50 2 = some 2 := by kernel_rfl
theorem tF50_3 : FO Tryz.prog 50 3 = some 3 := by kernel_rfl
theorem tF50_4 : FO Tryz.prog 50 4 = some 4 := by kernel_rfl
theorem tF50_5 : FO Tryz.prog 50 5 = some 5 := by kernel_rfl
theorem tP50 : PLs Tryz.prog 50 = some (.st [(0, 1), (1, 1), (2, 1), (3, 1), (4, 1), (5, 1)]) := by kernel_rfl
theorem tI52 : TI Tryz.prog 52 = some (false, 1) := by kernel_rfl
theorem tE52 : EInfo Tryz.prog 52 = some (1, 8) := by kernel_rfl
theorem tZ52 : ZV Tryz.prog 52 = some [.int .i64 0] := by kernel_rfl
theorem tG52 : ZG Tryz.prog 52 = some (false, [.int .i64 0]) := by kernel_rfl
theorem tU52 : Tryz.prog.underlying 52 = some (.int .i64) := by kernel_rfl
theorem tI55 : TI Tryz.prog 55 = some (true, 2) := by kernel_rfl
theorem tE55 : EInfo Tryz.prog 55 = some (2, 16) := by kernel_rfl
theorem tZ55 : ZV Tryz.prog 55 = some [.int .i64 0, .int .i64 0] := by kernel_rfl
theorem tG55 : ZG Tryz.prog 55 = some (true, [.int .i64 0, .int .i64 0]) := by kernel_rfl
theorem tF55_0 : FO Tryz.prog 55 0 = some 0 := by kernel_rfl
theorem tF55_1 : FO Tryz.prog 55 1 = some 1 := by kernel_rfl
theorem tP55 : PLs Tryz.prog 55 = some (.st [(0, 1), (1, 1)]) := by kernel_rfl
theorem tI56 : TI Tryz.prog 56 = some (true, 2) := by kernel_rfl
theorem tE56 : EInfo Tryz.prog 56 = some (2, 16) := by kernel_rfl
theorem tZ56 : ZV Tryz.prog 56 = some [.int .i64 0, .int .i64 0] := by kernel_rfl
theorem tG56 : ZG Tryz.prog 56 = some (true, [.int .i64 0, .int .i64 0]) := by kernel_rfl
theorem tF56_0 : FO Tryz.prog 56 0 = some 0 := by kernel_rfl
theorem tF56_1 : FO Tryz.prog 56 1 = some 1 := by kernel_rfl
theorem tP56 : PLs Tryz.prog 56 = some (.st [(0, 1), (1, 1)]) := by kernel_rfl
theorem tI58 : TI Tryz.prog 58 = some (true, 4) := by kernel_rfl
theorem tE58 : EInfo Tryz.prog 58 = some (4, 48) := by kernel_rfl
theorem tZ58 : ZV Tryz.prog 58 = some [.int .i64 0, .int .i64 0, .int .i64 0, .slice none 0 0] := by kernel_rfl
theorem tG58 : ZG Tryz.prog 58 = some (true, [.int .i64 0, .int .i64 0, .int .i64 0, .slice none 0 0]) := by kernel_rfl
theorem tF58_0 : FO Tryz.prog 58 0 = some 0 := by kernel_rfl
theorem tF58_1 : FO Tryz.prog 58 1 = some 1 := by kernel_rfl
theorem tF58_2 : FO Tryz.prog 58 2 = some 2 := by kernel_rfl
theorem tF58_3 : FO Tryz.prog 58 3 = some 3 := by kernel_rfl
theorem tP58 : PLs Tryz.prog 58 = some (.st [(0, 1), (1, 1), (2, 1), (3, 1)]) := by kernel_rfl
theorem tI59 : TI Tryz.prog 59 = some (true, 4) := by kernel_rfl
theorem tE59 : EInfo Tryz.prog 59 = some (4, 48) := by kernel_rfl
theorem tZ59 : ZV Tryz.prog 59 = some [.int .i64 0, .int .i64 0, .int .i64 0, .slice none 0 0] := by kernel_rfl
theorem tG59 : ZG Tryz.prog 59 = some (true, [.int .i64 0, .int .i64 0, .int .i64 0, .slice none 0 0]) := by kernel_rfl
theorem tF59_0 : FO Tryz.prog 59 0 = some 0 := by kernel_rfl
theorem tF59_1 : FO Tryz.prog 59 1 = some 1 := by kernel_rfl
theorem tF59_2 : FO Tryz.prog 59 2 = some 2 := by kernel_rfl
theorem tF59_3 : FO Tryz.prog 59 3 = some 3 := by kernel_rfl
theorem tP59 : PLs Tryz.prog 59 = some (.st [(0, 1), (1, 1), (2, 1), (3, 1)]) := by kernel_rfl
theorem tI69 : TI Tryz.prog 69 = some (true, 4) := by kernel_rfl
theorem tE69 : EInfo Tryz.prog 69 = some (4, 4) := by kernel_rfl
theorem tZ69 : ZV Tryz.prog 69 = some [.int .u8 0, .int .u8 0, .int .u8 0, .int .u8 0] := by kernel_rfl
theorem tG69 : ZG Tryz.prog 69 = some (true, [.int .u8 0, .int .u8 0, .int .u8 0, .int .u8 0]) := by kernel_rfl
theorem tP69 : PLs Tryz.prog 69 = some (.ar 1) := by kernel_rfl
theorem tI70 : TI Tryz.prog 70 = some (false, 1) := by kernel_rfl
theorem tE70 : EInfo Tryz.prog 70 = some (1, 24) := by kernel_rfl
theorem tZ70 : ZV Tryz.prog 70 = some [.slice none 0 0] := by kernel_rfl
theorem tG70 : ZG Tryz.prog 70 = some (false, [.slice none 0 0]) := by kernel_rfl
theorem tL70 : EL Tryz.prog 70 = some 74 := by kernel_rfl
theorem tI72 : TI Tryz.prog 72 = some (false, 1) := by kernel_rfl
theorem tE72 : EInfo Tryz.prog 72 = some (1, 24) := by kernel_rfl
theorem tZ72 : ZV Tryz.prog 72 = some [.slice none 0 0] := by kernel_rfl
theorem tG72 : ZG Tryz.prog 72 = some (false, [.slice none 0 0]) := by kernel_rfl
theorem tL72 : EL Tryz.prog 72 = some 76 := by kernel_rfl
theorem tI73 : TI Tryz.prog 73 = some (true, 3) := by kernel_rfl
theorem tE73 : EInfo Tryz.prog 73 = some (3, 40) := by kernel_rfl
theorem tZ73 : ZV Tryz.prog 73 = some [.int .i64 0, .int .i64 0, .slice none 0 0] := by kernel_rfl
theorem tG73 : ZG Tryz.prog 73 = some (true, [.int .i64 0, .int .i64 0, .slice none 0 0]) := by kernel_rfl
theorem tF73_0 : FO Tryz.prog 73 0 = some 0 := by kernel_rfl
theorem tF73_1 : FO Tryz.prog 73 1 = some 1 := by kernel_rfl
theorem tF73_2 : FO Tryz.prog 73 2 = some 2 := by kernel_rfl
theorem tP73 : PLs Tryz.prog 73 = some (.st [(0, 1), (1, 1), (2, 1)]) := by kernel_rfl
theorem tI74 : TI Tryz.prog 74 = some (true, 3) := by kernel_rfl
theorem tE74 : EInfo Tryz.prog 74 = some (3, 40) := by kernel_rfl
theorem tZ74 : ZV Tryz.prog 74 = some [.int .i64 0, .int .i64 0, .slice none 0 0] := by kernel_rfl
theorem tG74 : ZG Tryz.prog 74 = some (true, [.int .i64 0, .int .i64 0, .slice none 0 0]) := by kernel_rfl
theorem tF74_0 : FO Tryz.prog 74 0 = some 0 := by kernel_rfl
theorem tF74_1 : FO Tryz.prog 74 1 = some 1 := by kernel_rfl
theorem tF74_2 : FO Tryz.prog 74 2 = some 2 := by kernel_rfl
theorem tP74 : PLs Tryz.prog 74 = some (.st [(0, 1), (1, 1), (2, 1)]) := by kernel_rfl
theorem tI75 : TI Tryz.prog 75 = some (true, 5) := by kernel_rfl
theorem tE75 : EInfo Tryz.prog 75 = some (5, 72) := by kernel_rfl
theorem tZ75 : ZV Tryz.prog 75 = some [.string ByteArray.empty, .string ByteArray.empty, .slice none 0 0, .int .i64 0, .int .i64 0] := by kernel_rfl
theorem tG75 : ZG Tryz.prog 75 = some (true, [.string ByteArray.empty, .string ByteArray.empty, .slice none 0 0, .int .i64 0, .int .i64 0]) := by kernel_rfl
theorem tF75_0 : FO Tryz.prog 75 0 = some 0 := by kernel_rfl
theorem tF75_1 : FO Tryz.prog 75 1 = some 3 := by kernel_rfl
theorem tF75_2 : FO Tryz.prog 75 2 = some 4 := by kernel_rfl
theorem tP75 : PLs Tryz.prog 75 = some (.st [(0, 3), (3, 1), (4, 1)]) := by kernel_rfl
theorem tI76 : TI Tryz.prog 76 = some (true, 5) := by kernel_rfl
theorem tE76 : EInfo Tryz.prog 76 = some (5, 72) := by kernel_rfl
theorem tZ76 : ZV Tryz.prog 76 = some [.string ByteArray.empty, .string ByteArray.empty, .slice none 0 0, .int .i64 0, .int .i64 0] := by kernel_rfl
theorem tG76 : ZG Tryz.prog 76 = some (true, [.string ByteArray.empty, .string ByteArray.empty, .slice none 0 0, .int .i64 0, .int .i64 0]) := by kernel_rfl
theorem tF76_0 : FO Tryz.prog 76 0 = some 0 := by kernel_rfl
theorem tF76_1 : FO Tryz.prog 76 1 = some 3 := by kernel_rfl
theorem tF76_2 : FO Tryz.prog 76 2 = some 4 := by kernel_rfl
theorem tP76 : PLs Tryz.prog 76 = some (.st [(0, 3), (3, 1), (4, 1)]) := by kernel_rfl
theorem tI82 : TI Tryz.prog 82 = some (false, 1) := by kernel_rfl
theorem tE82 : EInfo Tryz.prog 82 = some (1, 24) := by kernel_rfl
theorem tZ82 : ZV Tryz.prog 82 = some [.slice none 0 0] := by kernel_rfl
theorem tG82 : ZG Tryz.prog 82 = some (false, [.slice none 0 0]) := by kernel_rfl
theorem tL82 : EL Tryz.prog 82 = some 86 := by kernel_rfl
theorem tI84 : TI Tryz.prog 84 = some (false, 1) := by kernel_rfl
theorem tE84 : EInfo Tryz.prog 84 = some (1, 24) := by kernel_rfl
theorem tZ84 : ZV Tryz.prog 84 = some [.slice none 0 0] := by kernel_rfl
theorem tG84 : ZG Tryz.prog 84 = some (false, [.slice none 0 0]) := by kernel_rfl
theorem tL84 : EL Tryz.prog 84 = some 88 := by kernel_rfl
theorem tI85 : TI Tryz.prog 85 = some (true, 2) := by kernel_rfl
theorem tE85 : EInfo Tryz.prog 85 = some (2, 32) := by kernel_rfl
theorem tZ85 : ZV Tryz.prog 85 = some [.slice none 0 0, .int .i64 0] := by kernel_rfl
theorem tG85 : ZG Tryz.prog 85 = some (true, [.slice none 0 0, .int .i64 0]) := by kernel_rfl
theorem tF85_0 : FO Tryz.prog 85 0 = some 0 := by kernel_rfl
theorem tF85_1 : FO Tryz.prog 85 1 = some 1 := by kernel_rfl
theorem tP85 : PLs Tryz.prog 85 = some (.st [(0, 1), (1, 1)]) := by kernel_rfl
theorem tI86 : TI Tryz.prog 86 = some (true, 2) := by kernel_rfl
theorem tE86 : EInfo Tryz.prog 86 = some (2, 32) := by kernel_rfl
theorem tZ86 : ZV Tryz.prog 86 = some [.slice none 0 0, .int .i64 0] := by kernel_rfl
theorem tG86 : ZG Tryz.prog 86 = some (true, [.slice none 0 0, .int .i64 0]) := by kernel_rfl
theorem tF86_0 : FO Tryz.prog 86 0 = some 0 := by kernel_rfl
theorem tF86_1 : FO Tryz.prog 86 1 = some 1 := by kernel_rfl
theorem tP86 : PLs Tryz.prog 86 = some (.st [(0, 1), (1, 1)]) := by kernel_rfl
theorem tI87 : TI Tryz.prog 87 = some (true, 2) := by kernel_rfl
theorem tE87 : EInfo Tryz.prog 87 = some (2, 32) := by kernel_rfl
theorem tZ87 : ZV Tryz.prog 87 = some [.string ByteArray.empty, .string ByteArray.empty] := by kernel_rfl
theorem tG87 : ZG Tryz.prog 87 = some (true, [.string ByteArray.empty, .string ByteArray.empty]) := by kernel_rfl
theorem tF87_0 : FO Tryz.prog 87 0 = some 0 := by kernel_rfl
theorem tF87_1 : FO Tryz.prog 87 1 = some 1 := by kernel_rfl
theorem tP87 : PLs Tryz.prog 87 = some (.st [(0, 1), (1, 1)]) := by kernel_rfl
theorem tI88 : TI Tryz.prog 88 = some (true, 2) := by kernel_rfl
theorem tE88 : EInfo Tryz.prog 88 = some (2, 32) := by kernel_rfl
theorem tZ88 : ZV Tryz.prog 88 = some [.string ByteArray.empty, .string ByteArray.empty] := by kernel_rfl
theorem tG88 : ZG Tryz.prog 88 = some (true, [.string ByteArray.empty, .string ByteArray.empty]) := by kernel_rfl
theorem tF88_0 : FO Tryz.prog 88 0 = some 0 := by kernel_rfl
theorem tF88_1 : FO Tryz.prog 88 1 = some 1 := by kernel_rfl
theorem tP88 : PLs Tryz.prog 88 = some (.st [(0, 1), (1, 1)]) := by kernel_rfl
theorem tI89 : TI Tryz.prog 89 = some (false, 1) := by kernel_rfl
theorem tE89 : EInfo Tryz.prog 89 = some (1, 24) := by kernel_rfl
theorem tZ89 : ZV Tryz.prog 89 = some [.slice none 0 0] := by kernel_rfl
theorem tG89 : ZG Tryz.prog 89 = some (false, [.slice none 0 0]) := by kernel_rfl
theorem tL89 : EL Tryz.prog 89 = some 193 := by kernel_rfl
theorem tI90 : TI Tryz.prog 90 = some (true, 3) := by kernel_rfl
theorem tE90 : EInfo Tryz.prog 90 = some (3, 32) := by kernel_rfl
theorem tZ90 : ZV Tryz.prog 90 = some [.int .u8 0, .int .u8 0, .slice none 0 0] := by kernel_rfl
theorem tG90 : ZG Tryz.prog 90 = some (true, [.int .u8 0, .int .u8 0, .slice none 0 0]) := by kernel_rfl
theorem tF90_0 : FO Tryz.prog 90 0 = some 0 := by kernel_rfl
theorem tF90_1 : FO Tryz.prog 90 1 = some 1 := by kernel_rfl
theorem tF90_2 : FO Tryz.prog 90 2 = some 2 := by kernel_rfl
theorem tP90 : PLs Tryz.prog 90 = some (.st [(0, 1), (1, 1), (2, 1)]) := by kernel_rfl
theorem tI91 : TI Tryz.prog 91 = some (true, 3) := by kernel_rfl
theorem tE91 : EInfo Tryz.prog 91 = some (3, 32) := by kernel_rfl
theorem tZ91 : ZV Tryz.prog 91 = some [.int .u8 0, .int .u8 0, .slice none 0 0] := by kernel_rfl
theorem tG91 : ZG Tryz.prog 91 = some (true, [.int .u8 0, .int .u8 0, .slice none 0 0]) := by kernel_rfl
theorem tF91_0 : FO Tryz.prog 91 0 = some 0 := by kernel_rfl
theorem tF91_1 : FO Tryz.prog 91 1 = some 1 := by kernel_rfl
theorem tF91_2 : FO Tryz.prog 91 2 = some 2 := by kernel_rfl
theorem tP91 : PLs Tryz.prog 91 = some (.st [(0, 1), (1, 1), (2, 1)]) := by kernel_rfl
theorem tI92 : TI Tryz.prog 92 = some (false, 1) := by kernel_rfl
theorem tE92 : EInfo Tryz.prog 92 = some (1, 8) := by kernel_rfl
theorem tZ92 : ZV Tryz.prog 92 = some [.map none] := by kernel_rfl
theorem tG92 : ZG Tryz.prog 92 = some (false, [.map none]) := by kernel_rfl
theorem tU92 : Tryz.prog.underlying 92 = some (.map 3 4) := by kernel_rfl
theorem tM92 : MT Tryz.prog 92 = some (3, 4) := by kernel_rfl
theorem tI95 : TI Tryz.prog 95 = some (false, 1) := by kernel_rfl
theorem tE95 : EInfo Tryz.prog 95 = some (1, 8) := by kernel_rfl
theorem tZ95 : ZV Tryz.prog 95 = some [.nilFunc] := by kernel_rfl
theorem tG95 : ZG Tryz.prog 95 = some (false, [.nilFunc]) := by kernel_rfl
theorem tI97 : TI Tryz.prog 97 = some (false, 1) := by kernel_rfl
theorem tE97 : EInfo Tryz.prog 97 = some (1, 8) := by kernel_rfl
theorem tZ97 : ZV Tryz.prog 97 = some [.map none] := by kernel_rfl
theorem tG97 : ZG Tryz.prog 97 = some (false, [.map none]) := by kernel_rfl
theorem tU97 : Tryz.prog.underlying 97 = some (.map 3 35) := by kernel_rfl
theorem tM97 : MT Tryz.prog 97 = some (3, 35) := by kernel_rfl
theorem tI98 : TI Tryz.prog 98 = some (true, 7) := by kernel_rfl
theorem tE98 : EInfo Tryz.prog 98 = some (7, 136) := by kernel_rfl
theorem tZ98 : ZV Tryz.prog 98 = some [.int .i64 0, .slice none 0 0, .slice none 0 0, .slice none 0 0, .slice none 0 0, .slice none 0 0, .map none] := by kernel_rfl
theorem tG98 : ZG Tryz.prog 98 = some (true, [.int .i64 0, .slice none 0 0, .slice none 0 0, .slice none 0 0, .slice none 0 0, .slice none 0 0, .map none]) := by kernel_rfl
theorem tF98_0 : FO Tryz.prog 98 0 = some 0 := by kernel_rfl
theorem tF98_1 : FO Tryz.prog 98 1 = some 6 := by kernel_rfl
theorem tP98 : PLs Tryz.prog 98 = some (.st [(0, 6), (6, 1)]) := by kernel_rfl
theorem tI99 : TI Tryz.prog 99 = some (true, 7) := by kernel_rfl
theorem tE99 : EInfo Tryz.prog 99 = some (7, 136) := by kernel_rfl
theorem tZ99 : ZV Tryz.prog 99 = some [.int .i64 0, .slice none 0 0, .slice none 0 0, .slice none 0 0, .slice none 0 0, .slice none 0 0, .map none] := by kernel_rfl
theorem tG99 : ZG Tryz.prog 99 = some (true, [.int .i64 0, .slice none 0 0, .slice none 0 0, .slice none 0 0, .slice none 0 0, .slice none 0 0, .map none]) := by kernel_rfl
theorem tF99_0 : FO Tryz.prog 99 0 = some 0 := by kernel_rfl
theorem tF99_1 : FO Tryz.prog 99 1 = some 6 := by kernel_rfl
theorem tP99 : PLs Tryz.prog 99 = some (.st [(0, 6), (6, 1)]) := by kernel_rfl
theorem tI104 : TI Tryz.prog 104 = some (false, 1) := by kernel_rfl
theorem tE104 : EInfo Tryz.prog 104 = some (1, 8) := by kernel_rfl
theorem tZ104 : ZV Tryz.prog 104 = some [.map none] := by kernel_rfl
theorem tG104 : ZG Tryz.prog 104 = some (false, [.map none]) := by kernel_rfl
theorem tU104 : Tryz.prog.underlying 104 = some (.map 3 3) := by kernel_rfl
theorem tM104 : MT Tryz.prog 104 = some (3, 3) := by kernel_rfl
theorem tI115 : TI Tryz.prog 115 = some (false, 1) := by kernel_rfl
theorem tE115 : EInfo Tryz.prog 115 = some (1, 8) := by kernel_rfl
theorem tZ115 : ZV Tryz.prog 115 = some [.map none] := by kernel_rfl
theorem tG115 : ZG Tryz.prog 115 = some (false, [.map none]) := by kernel_rfl
theorem tU115 : Tryz.prog.underlying 115 = some (.map 9 117) := by kernel_rfl
theorem tM115 : MT Tryz.prog 115 = some (9, 117) := by kernel_rfl
theorem tI117 : TI Tryz.prog 117 = some (false, 1) := by kernel_rfl
theorem tE117 : EInfo Tryz.prog 117 = some (1, 8) := by kernel_rfl
theorem tZ117 : ZV Tryz.prog 117 = some [.pointer none] := by kernel_rfl
theorem tG117 : ZG Tryz.prog 117 = some (false, [.pointer none]) := by kernel_rfl
theorem tU117 : Tryz.prog.underlying 117 = some (.pointer 76) := by kernel_rfl
theorem tI124 : TI Tryz.prog 124 = some (false, 1) := by kernel_rfl
theorem tE124 : EInfo Tryz.prog 124 = some (1, 8) := by kernel_rfl
theorem tZ124 : ZV Tryz.prog 124 = some [.map none] := by kernel_rfl
theorem tG124 : ZG Tryz.prog 124 = some (false, [.map none]) := by kernel_rfl
theorem tU124 : Tryz.prog.underlying 124 = some (.map 9 164) := by kernel_rfl
theorem tM124 : MT Tryz.prog 124 = some (9, 164) := by kernel_rfl
theorem tI125 : TI Tryz.prog 125 = some (false, 1) := by kernel_rfl
theorem tE125 : EInfo Tryz.prog 125 = some (1, 8) := by kernel_rfl
theorem tZ125 : ZV Tryz.prog 125 = some [.map none] := by kernel_rfl
theorem tG125 : ZG Tryz.prog 125 = some (false, [.map none]) := by kernel_rfl
theorem tU125 : Tryz.prog.underlying 125 = some (.map 9 164) := by kernel_rfl
theorem tM125 : MT Tryz.prog 125 = some (9, 164) := by kernel_rfl
theorem tI130 : TI Tryz.prog 130 = some (false, 1) := by kernel_rfl
theorem tE130 : EInfo Tryz.prog 130 = some (1, 24) := by kernel_rfl
theorem tZ130 : ZV Tryz.prog 130 = some [.slice none 0 0] := by kernel_rfl
theorem tG130 : ZG Tryz.prog 130 = some (false, [.slice none 0 0]) := by kernel_rfl
theorem tL130 : EL Tryz.prog 130 = some 36 := by kernel_rfl
theorem tI134 : TI Tryz.prog 134 = some (false, 1) := by kernel_rfl
theorem tE134 : EInfo Tryz.prog 134 = some (1, 8) := by kernel_rfl
theorem tZ134 : ZV Tryz.prog 134 = some [.int .u64 0] := by kernel_rfl
theorem tG134 : ZG Tryz.prog 134 = some (false, [.int .u64 0]) := by kernel_rfl
theorem tU134 : Tryz.prog.underlying 134 = some (.int .u64) := by kernel_rfl
theorem tI140 : TI Tryz.prog 140 = some (true, 6) := by kernel_rfl
theorem tE140 : EInfo Tryz.prog 140 = some (6, 48) := by kernel_rfl
theorem tZ140 : ZV Tryz.prog 140 = some [.int .i64 0, .int .i64 0, .int .i64 0, .int .i64 0, .int .i64 0, .int .i64 0] := by kernel_rfl
theorem tG140 : ZG Tryz.prog 140 = some (true, [.int .i64 0, .int .i64 0, .int .i64 0, .int .i64 0, .int .i64 0, .int .i64 0]) := by kernel_rfl
theorem tP140 : PLs Tryz.prog 140 = some (.ar 1) := by kernel_rfl
theorem tI147 : TI Tryz.prog 147 = some (true, 3) := by kernel_rfl
theorem tE147 : EInfo Tryz.prog 147 = some (3, 32) := by kernel_rfl
theorem tZ147 : ZV Tryz.prog 147 = some [.int .i64 0, .string ByteArray.empty, .int .i64 0] := by kernel_rfl
theorem tG147 : ZG Tryz.prog 147 = some (true, [.int .i64 0, .string ByteArray.empty, .int .i64 0]) := by kernel_rfl
theorem tF147_0 : FO Tryz.prog 147 0 = some 0 := by kernel_rfl
theorem tF147_1 : FO Tryz.prog 147 1 = some 1 := by kernel_rfl
theorem tF147_2 : FO Tryz.prog 147 2 = some 2 := by kernel_rfl
theorem tP147 : PLs Tryz.prog 147 = some (.st [(0, 1), (1, 1), (2, 1)]) := by kernel_rfl
theorem tI148 : TI Tryz.prog 148 = some (true, 3) := by kernel_rfl
theorem tE148 : EInfo Tryz.prog 148 = some (3, 32) := by kernel_rfl
theorem tZ148 : ZV Tryz.prog 148 = some [.int .i64 0, .string ByteArray.empty, .int .i64 0] := by kernel_rfl
theorem tG148 : ZG Tryz.prog 148 = some (true, [.int .i64 0, .string ByteArray.empty, .int .i64 0]) := by kernel_rfl
theorem tF148_0 : FO Tryz.prog 148 0 = some 0 := by kernel_rfl
theorem tF148_1 : FO Tryz.prog 148 1 = some 1 := by kernel_rfl
theorem tF148_2 : FO Tryz.prog 148 2 = some 2 := by kernel_rfl
theorem tP148 : PLs Tryz.prog 148 = some (.st [(0, 1), (1, 1), (2, 1)]) := by kernel_rfl
theorem tI149 : TI Tryz.prog 149 = some (true, 4) := by kernel_rfl
theorem tE149 : EInfo Tryz.prog 149 = some (4, 48) := by kernel_rfl
theorem tZ149 : ZV Tryz.prog 149 = some [.string ByteArray.empty, .int .i64 0, .string ByteArray.empty, .int .i64 0] := by kernel_rfl
theorem tG149 : ZG Tryz.prog 149 = some (true, [.string ByteArray.empty, .int .i64 0, .string ByteArray.empty, .int .i64 0]) := by kernel_rfl
theorem tF149_0 : FO Tryz.prog 149 0 = some 0 := by kernel_rfl
theorem tF149_1 : FO Tryz.prog 149 1 = some 1 := by kernel_rfl
theorem tP149 : PLs Tryz.prog 149 = some (.st [(0, 1), (1, 3)]) := by kernel_rfl
theorem tI150 : TI Tryz.prog 150 = some (true, 4) := by kernel_rfl
theorem tE150 : EInfo Tryz.prog 150 = some (4, 48) := by kernel_rfl
theorem tZ150 : ZV Tryz.prog 150 = some [.string ByteArray.empty, .int .i64 0, .string ByteArray.empty, .int .i64 0] := by kernel_rfl
theorem tG150 : ZG Tryz.prog 150 = some (true, [.string ByteArray.empty, .int .i64 0, .string ByteArray.empty, .int .i64 0]) := by kernel_rfl
theorem tF150_0 : FO Tryz.prog 150 0 = some 0 := by kernel_rfl
theorem tF150_1 : FO Tryz.prog 150 1 = some 1 := by kernel_rfl
theorem tP150 : PLs Tryz.prog 150 = some (.st [(0, 1), (1, 3)]) := by kernel_rfl
theorem tI155 : TI Tryz.prog 155 = some (false, 1) := by kernel_rfl
theorem tE155 : EInfo Tryz.prog 155 = some (1, 24) := by kernel_rfl
theorem tZ155 : ZV Tryz.prog 155 = some [.slice none 0 0] := by kernel_rfl
theorem tG155 : ZG Tryz.prog 155 = some (false, [.slice none 0 0]) := by kernel_rfl
theorem tL155 : EL Tryz.prog 155 = some 5 := by kernel_rfl
theorem tI156 : TI Tryz.prog 156 = some (true, 1) := by kernel_rfl
theorem tE156 : EInfo Tryz.prog 156 = some (1, 24) := by kernel_rfl
theorem tZ156 : ZV Tryz.prog 156 = some [.slice none 0 0] := by kernel_rfl
theorem tG156 : ZG Tryz.prog 156 = some (true, [.slice none 0 0]) := by kernel_rfl
theorem tF156_0 : FO Tryz.prog 156 0 = some 0 := by kernel_rfl
theorem tP156 : PLs Tryz.prog 156 = some (.st [(0, 1)]) := by kernel_rfl
theorem tI157 : TI Tryz.prog 157 = some (true, 1) := by kernel_rfl
theorem tE157 : EInfo Tryz.prog 157 = some (1, 24) := by kernel_rfl
theorem tZ157 : ZV Tryz.prog 157 = some [.slice none 0 0] := by kernel_rfl
theorem tG157 : ZG Tryz.prog 157 = some (true, [.slice none 0 0]) := by kernel_rfl
theorem tF157_0 : FO Tryz.prog 157 0 = some 0 := by kernel_rfl
theorem tP157 : PLs Tryz.prog 157 = some (.st [(0, 1)]) := by kernel_rfl
theorem tI159 : TI Tryz.prog 159 = some (false, 1) := by kernel_rfl
theorem tE159 : EInfo Tryz.prog 159 = some (1, 8) := by kernel_rfl
theorem tZ159 : ZV Tryz.prog 159 = some [.pointer none] := by kernel_rfl
theorem tG159 : ZG Tryz.prog 159 = some (false, [.pointer none]) := by kernel_rfl
theorem tU159 : Tryz.prog.underlying 159 = some (.pointer 157) := by kernel_rfl
theorem tI164 : TI Tryz.prog 164 = some (false, 1) := by kernel_rfl
theorem tE164 : EInfo Tryz.prog 164 = some (1, 8) := by kernel_rfl
theorem tZ164 : ZV Tryz.prog 164 = some [.pointer none] := by kernel_rfl
theorem tG164 : ZG Tryz.prog 164 = some (false, [.pointer none]) := by kernel_rfl
theorem tU164 : Tryz.prog.underlying 164 = some (.pointer 86) := by kernel_rfl
theorem tI172 : TI Tryz.prog 172 = some (false, 1) := by kernel_rfl
theorem tE172 : EInfo Tryz.prog 172 = some (1, 8) := by kernel_rfl
theorem tZ172 : ZV Tryz.prog 172 = some [.int .i64 0] := by kernel_rfl
theorem tG172 : ZG Tryz.prog 172 = some (false, [.int .i64 0]) := by kernel_rfl
theorem tU172 : Tryz.prog.underlying 172 = some (.int .i64) := by kernel_rfl
theorem tI179 : TI Tryz.prog 179 = some (false, 1) := by kernel_rfl
theorem tE179 : EInfo Tryz.prog 179 = some (1, 4) := by kernel_rfl
theorem tZ179 : ZV Tryz.prog 179 = some [.int .u32 0] := by kernel_rfl
theorem tG179 : ZG Tryz.prog 179 = some (false, [.int .u32 0]) := by kernel_rfl
theorem tU179 : Tryz.prog.underlying 179 = some (.int .u32) := by kernel_rfl
theorem tI181 : TI Tryz.prog 181 = some (false, 1) := by kernel_rfl
theorem tE181 : EInfo Tryz.prog 181 = some (1, 8) := by kernel_rfl
theorem tZ181 : ZV Tryz.prog 181 = some [.int .u64 0] := by kernel_rfl
theorem tG181 : ZG Tryz.prog 181 = some (false, [.int .u64 0]) := by kernel_rfl
theorem tU181 : Tryz.prog.underlying 181 = some (.int .u64) := by kernel_rfl
theorem tI186 : TI Tryz.prog 186 = some (false, 1) := by kernel_rfl
theorem tE186 : EInfo Tryz.prog 186 = some (1, 8) := by kernel_rfl
theorem tZ186 : ZV Tryz.prog 186 = some [.nilFunc] := by kernel_rfl
theorem tG186 : ZG Tryz.prog 186 = some (false, [.nilFunc]) := by kernel_rfl
theorem tI192 : TI Tryz.prog 192 = some (true, 11) := by kernel_rfl
theorem tE192 : EInfo Tryz.prog 192 = some (11, 11) := by kernel_rfl
theorem tZ192 : ZV Tryz.prog 192 = some [.int .u8 0, .int .u8 0, .int .u8 0, .int .u8 0, .int .u8 0, .int .u8 0, .int .u8 0, .int .u8 0, .int .u8 0, .int .u8 0, .bool false] := by kernel_rfl
theorem tG192 : ZG Tryz.prog 192 = some (true, [.int .u8 0, .int .u8 0, .int .u8 0, .int .u8 0, .int .u8 0, .int .u8 0, .int .u8 0, .int .u8 0, .int .u8 0, .int .u8 0, .bool false]) := by kernel_rfl
theorem tF192_0 : FO Tryz.prog 192 0 = some 0 := by kernel_rfl
theorem tF192_1 : FO Tryz.prog 192 1 = some 1 := by kernel_rfl
theorem tF192_2 : FO Tryz.prog 192 2 = some 2 := by kernel_rfl
theorem tF192_3 : FO Tryz.prog 192 3 = some 3 := by kernel_rfl
theorem tF192_4 : FO Tryz.prog 192 4 = some 4 := by kernel_rfl
theorem tF192_5 : FO Tryz.prog 192 5 = some 5 := by kernel_rfl
theorem tF192_6 : FO Tryz.prog 192 6 = some 6 := by kernel_rfl
theorem tF192_7 : FO Tryz.prog 192 7 = some 7 := by kernel_rfl
theorem tF192_8 : FO Tryz.prog 192 8 = some 8 := by kernel_rfl
theorem tF192_9 : FO Tryz.prog 192 9 = some 9 := by kernel_rfl
theorem tF192_10 : FO Tryz.prog 192 10 = some 10 := by kernel_rfl
theorem tP192 : PLs Tryz.prog 192 = some (.st [(0, 1), (1, 1), (2, 1), (3, 1), (4, 1), (5, 1), (6, 1), (7, 1), (8, 1), (9, 1), (10, 1)]) := by kernel_rfl
theorem tI193 : TI Tryz.prog 193 = some (true, 11) := by kernel_rfl
theorem tE193 : EInfo Tryz.prog 193 = some (11, 11) := by kernel_rfl
theorem tZ193 : ZV Tryz.prog 193 = some [.int .u8 0, .int .u8 0, .int .u8 0, .int .u8 0, .int .u8 0, .int .u8 0, .int .u8 0, .int .u8 0, .int .u8 0, .int .u8 0, .bool false] := by kernel_rfl
theorem tG193 : ZG Tryz.prog 193 = some (true, [.int .u8 0, .int .u8 0, .int .u8 0, .int .u8 0, .int .u8 0, .int .u8 0, .int .u8 0, .int .u8 0, .int .u8 0, .int .u8 0, .bool false]) := by kernel_rfl
theorem tF193_0 : FO Tryz.prog 193 0 = some 0 := by kernel_rfl
theorem tF193_1 : FO Tryz.prog 193 1 = some 1 := by kernel_rfl
theorem tF193_2 : FO Tryz.prog 193 2 = some 2 := by kernel_rfl
theorem tF193_3 : FO Tryz.prog 193 3 = some 3 := by kernel_rfl
theorem tF193_4 : FO Tryz.prog 193 4 = some 4 := by kernel_rfl
theorem tF193_5 : FO Tryz.prog 193 5 = some 5 := by kernel_rfl
theorem tF193_6 : FO Tryz.prog 193 6 = some 6 := by kernel_rfl
theorem tF193_7 : FO Tryz.prog 193 7 = some 7 := by kernel_rfl
theorem tF193_8 : FO Tryz.prog 193 8 = some 8 := by kernel_rfl
theorem tF193_9 : FO Tryz.prog 193 9 = some 9 := by kernel_rfl
theorem tF193_10 : FO Tryz.prog 193 10 = some 10 := by kernel_rfl
theorem tP193 : PLs Tryz.prog 193 = some (.st [(0, 1), (1, 1), (2, 1), (3, 1), (4, 1), (5, 1), (6, 1), (7, 1), (8, 1), (9, 1), (10, 1)]) := by kernel_rfl
theorem tI210 : TI Tryz.prog 210 = some (false, 1) := by kernel_rfl
theorem tE210 : EInfo Tryz.prog 210 = some (1, 8) := by kernel_rfl
theorem tZ210 : ZV Tryz.prog 210 = some [.int .u64 0] := by kernel_rfl
theorem tG210 : ZG Tryz.prog 210 = some (false, [.int .u64 0]) := by kernel_rfl
theorem tU210 : Tryz.prog.underlying 210 = some (.int .u64) := by kernel_rfl
theorem tI214 : TI Tryz.prog 214 = some (false, 1) := by kernel_rfl
theorem tE214 : EInfo Tryz.prog 214 = some (1, 8) := by kernel_rfl
theorem tZ214 : ZV Tryz.prog 214 = some [.pointer none] := by kernel_rfl
theorem tG214 : ZG Tryz.prog 214 = some (false, [.pointer none]) := by kernel_rfl
theorem tU214 : Tryz.prog.underlying 214 = some (.pointer 3) := by kernel_rfl
theorem tI228 : TI Tryz.prog 228 = some (false, 1) := by kernel_rfl
theorem tE228 : EInfo Tryz.prog 228 = some (1, 8) := by kernel_rfl
theorem tZ228 : ZV Tryz.prog 228 = some [.pointer none] := by kernel_rfl
theorem tG228 : ZG Tryz.prog 228 = some (false, [.pointer none]) := by kernel_rfl
theorem tU228 : Tryz.prog.underlying 228 = some (.pointer 210) := by kernel_rfl
theorem tI246 : TI Tryz.prog 246 = some (true, 4) := by kernel_rfl
theorem tE246 : EInfo Tryz.prog 246 = some (4, 40) := by kernel_rfl
theorem tZ246 : ZV Tryz.prog 246 = some [.pointer none, .pointer none, .pointer none, .string ByteArray.empty] := by kernel_rfl
theorem tG246 : ZG Tryz.prog 246 = some (true, [.pointer none, .pointer none, .pointer none, .string ByteArray.empty]) := by kernel_rfl
theorem tF246_0 : FO Tryz.prog 246 0 = some 0 := by kernel_rfl
theorem tF246_1 : FO Tryz.prog 246 1 = some 1 := by kernel_rfl
theorem tF246_2 : FO Tryz.prog 246 2 = some 2 := by kernel_rfl
theorem tF246_3 : FO Tryz.prog 246 3 = some 3 := by kernel_rfl
theorem tP246 : PLs Tryz.prog 246 = some (.st [(0, 1), (1, 1), (2, 1), (3, 1)]) := by kernel_rfl
theorem tI255 : TI Tryz.prog 255 = some (false, 1) := by kernel_rfl
theorem tE255 : EInfo Tryz.prog 255 = some (1, 8) := by kernel_rfl
theorem tZ255 : ZV Tryz.prog 255 = some [.pointer none] := by kernel_rfl
theorem tG255 : ZG Tryz.prog 255 = some (false, [.pointer none]) := by kernel_rfl
theorem tU255 : Tryz.prog.underlying 255 = some (.pointer 5) := by kernel_rfl
theorem tI258 : TI Tryz.prog 258 = some (true, 11) := by kernel_rfl
theorem tE258 : EInfo Tryz.prog 258 = some (11, 48) := by kernel_rfl
theorem tZ258 : ZV Tryz.prog 258 = some [.int .u64 0, .int .u64 0, .int .u32 0, .int .u8 0, .int .u8 0, .int .u8 0, .int .u8 0, .nilFunc, .pointer none, .int .i32 0, .int .i32 0] := by kernel_rfl
theorem tG258 : ZG Tryz.prog 258 = some (true, [.int .u64 0, .int .u64 0, .int .u32 0, .int .u8 0, .int .u8 0, .int .u8 0, .int .u8 0, .nilFunc, .pointer none, .int .i32 0, .int .i32 0]) := by kernel_rfl
theorem tF258_0 : FO Tryz.prog 258 0 = some 0 := by kernel_rfl
theorem tF258_1 : FO Tryz.prog 258 1 = some 1 := by kernel_rfl
theorem tF258_2 : FO Tryz.prog 258 2 = some 2 := by kernel_rfl
theorem tF258_3 : FO Tryz.prog 258 3 = some 3 := by kernel_rfl
theorem tF258_4 : FO Tryz.prog 258 4 = some 4 := by kernel_rfl
theorem tF258_5 : FO Tryz.prog 258 5 = some 5 := by kernel_rfl
theorem tF258_6 : FO Tryz.prog 258 6 = some 6 := by kernel_rfl
theorem tF258_7 : FO Tryz.prog 258 7 = some 7 := by kernel_rfl
theorem tF258_8 : FO Tryz.prog 258 8 = some 8 := by kernel_rfl
theorem tF258_9 : FO Tryz.prog 258 9 = some 9 := by kernel_rfl
theorem tF258_10 : FO Tryz.prog 258 10 = some 10 := by kernel_rfl
theorem tP258 : PLs Tryz.prog 258 = some (.st [(0, 1), (1, 1), (2, 1), (3, 1), (4, 1), (5, 1), (6, 1), (7, 1), (8, 1), (9, 1), (10, 1)]) := by kernel_rfl
theorem tI260 : TI Tryz.prog 260 = some (true, 5) := by kernel_rfl
theorem tE260 : EInfo Tryz.prog 260 = some (5, 5) := by kernel_rfl
theorem tZ260 : ZV Tryz.prog 260 = some [.int .u8 0, .int .u8 0, .int .u8 0, .int .u8 0, .int .u8 0] := by kernel_rfl
theorem tG260 : ZG Tryz.prog 260 = some (true, [.int .u8 0, .int .u8 0, .int .u8 0, .int .u8 0, .int .u8 0]) := by kernel_rfl
theorem tF260_0 : FO Tryz.prog 260 0 = some 0 := by kernel_rfl
theorem tF260_1 : FO Tryz.prog 260 1 = some 1 := by kernel_rfl
theorem tF260_2 : FO Tryz.prog 260 2 = some 2 := by kernel_rfl
theorem tF260_3 : FO Tryz.prog 260 3 = some 3 := by kernel_rfl
theorem tF260_4 : FO Tryz.prog 260 4 = some 4 := by kernel_rfl
theorem tP260 : PLs Tryz.prog 260 = some (.st [(0, 1), (1, 1), (2, 1), (3, 1), (4, 1)]) := by kernel_rfl
theorem tI261 : TI Tryz.prog 261 = some (true, 5) := by kernel_rfl
theorem tE261 : EInfo Tryz.prog 261 = some (5, 5) := by kernel_rfl
theorem tZ261 : ZV Tryz.prog 261 = some [.int .u8 0, .int .u8 0, .int .u8 0, .int .u8 0, .int .u8 0] := by kernel_rfl
theorem tG261 : ZG Tryz.prog 261 = some (true, [.int .u8 0, .int .u8 0, .int .u8 0, .int .u8 0, .int .u8 0]) := by kernel_rfl
theorem tF261_0 : FO Tryz.prog 261 0 = some 0 := by kernel_rfl
theorem tF261_1 : FO Tryz.prog 261 1 = some 1 := by kernel_rfl
theorem tF261_2 : FO Tryz.prog 261 2 = some 2 := by kernel_rfl
theorem tF261_3 : FO Tryz.prog 261 3 = some 3 := by kernel_rfl
theorem tF261_4 : FO Tryz.prog 261 4 = some 4 := by kernel_rfl
theorem tP261 : PLs Tryz.prog 261 = some (.st [(0, 1), (1, 1), (2, 1), (3, 1), (4, 1)]) := by kernel_rfl
theorem tI263 : TI Tryz.prog 263 = some (false, 1) := by kernel_rfl
theorem tE263 : EInfo Tryz.prog 263 = some (1, 8) := by kernel_rfl
theorem tZ263 : ZV Tryz.prog 263 = some [.pointer none] := by kernel_rfl
theorem tG263 : ZG Tryz.prog 263 = some (false, [.pointer none]) := by kernel_rfl
theorem kd3 : Maps.Keyed Tryz.prog 3 := Maps.int_keyed tU3
theorem kd9 : Maps.Keyed Tryz.prog 9 := Maps.string_keyed tU9
attribute [go_sem] tI2 tE2 tZ2 tG2 tU2 tI3 tE3 tZ3 tG3 tU3 tI4 tE4 tZ4 tG4 tU4 tI5 tE5 tZ5 tG5 tU5 tI7 tE7 tZ7 tG7 tF7_0 tF7_1 tF7_2 tF7_3 tP7 tI9 tE9 tZ9 tG9 tU9 tI12 tE12 tZ12 tG12 tU12 tI13 tE13 tZ13 tG13 tF13_0 tF13_1 tP13 tI18 tE18 tZ18 tG18 tF18_0 tP18 tI19 tE19 tZ19 tG19 tF19_0 tP19 tI20 tE20 tZ20 tG20 tI21 tE21 tZ21 tG21 tU21 tI22 tE22 tZ22 tG22 tL22 tI23 tE23 tZ23 tG23 tU23 tI24 tE24 tZ24 tG24 tP24 tI25 tE25 tZ25 tG25 tL25 tI26 tE26 tZ26 tG26 tF26_0 tF26_1 tF26_2 tF26_3 tP26 tI27 tE27 tZ27 tG27 tF27_0 tF27_1 tF27_2 tF27_3 tP27 tI30 tE30 tZ30 tG30 tL30 tI32 tE32 tZ32 tG32 tL32 tI33 tE33 tZ33 tG33 tL33 tI34 tE34 tZ34 tG34 tF34_0 tF34_1 tF34_2 tF34_3 tF34_4 tF34_5 tF34_6 tF34_7 tF34_8 tF34_9 tF34_10 tF34_11 tF34_12 tF34_13 tP34 tI35 tE35 tZ35 tG35 tF35_0 tF35_1 tF35_2 tF35_3 tF35_4 tF35_5 tF35_6 tF35_7 tF35_8 tF35_9 tF35_10 tF35_11 tF35_12 tF35_13 tP35 tI36 tE36 tZ36 tG36 tL36 tI39 tE39 tZ39 tG39 tL39 tI40 tE40 tZ40 tG40 tF40_0 tF40_1 tF40_2 tP40 tI41 tE41 tZ41 tG41 tF41_0 tF41_1 tF41_2 tP41 tI44 tE44 tZ44 tG44 tL44 tI45 tE45 tZ45 tG45 tF45_0 tF45_1 tP45 tI46 tE46 tZ46 tG46 tF46_0 tF46_1 tP46 tI47 tE47 tZ47 tG47 tL47 tI48 tE48 tZ48 tG48 tL48 tI49 tE49 tZ49 tG49 tF49_0 tF49_1 tF49_2 tF49_3 tF49_4 tF49_5 tP49 tI50 tE50 tZ50 tG50 tF50_0 tF50_1 tF50_2 tF50_3 tF50_4 tF50_5 tP50 tI52 tE52 tZ52 tG52 tU52 tI55 tE55 tZ55 tG55 tF55_0 tF55_1 tP55 tI56 tE56 tZ56 tG56 tF56_0 tF56_1 tP56 tI58 tE58 tZ58 tG58 tF58_0 tF58_1 tF58_2 tF58_3 tP58 tI59 tE59 tZ59 tG59 tF59_0 tF59_1 tF59_2 tF59_3 tP59 tI69 tE69 tZ69 tG69 tP69 tI70 tE70 tZ70 tG70 tL70 tI72 tE72 tZ72 tG72 tL72 tI73 tE73 tZ73 tG73 tF73_0 tF73_1 tF73_2 tP73 tI74 tE74 tZ74 tG74 tF74_0 tF74_1 tF74_2 tP74 tI75 tE75 tZ75 tG75 tF75_0 tF75_1 tF75_2 tP75 tI76 tE76 tZ76 tG76 tF76_0 tF76_1 tF76_2 tP76 tI82 tE82 tZ82 tG82 tL82 tI84 tE84 tZ84 tG84 tL84 tI85 tE85 tZ85 tG85 tF85_0 tF85_1 tP85 tI86 tE86 tZ86 tG86 tF86_0 tF86_1 tP86 tI87 tE87 tZ87 tG87 tF87_0 tF87_1 tP87 tI88 tE88 tZ88 tG88 tF88_0 tF88_1 tP88 tI89 tE89 tZ89 tG89 tL89 tI90 tE90 tZ90 tG90 tF90_0 tF90_1 tF90_2 tP90 tI91 tE91 tZ91 tG91 tF91_0 tF91_1 tF91_2 tP91 tI92 tE92 tZ92 tG92 tU92 tM92 tI95 tE95 tZ95 tG95 tI97 tE97 tZ97 tG97 tU97 tM97 tI98 tE98 tZ98 tG98 tF98_0 tF98_1 tP98 tI99 tE99 tZ99 tG99 tF99_0 tF99_1 tP99 tI104 tE104 tZ104 tG104 tU104 tM104 tI115 tE115 tZ115 tG115 tU115 tM115 tI117 tE117 tZ117 tG117 tU117 tI124 tE124 tZ124 tG124 tU124 tM124 tI125 tE125 tZ125 tG125 tU125 tM125 tI130 tE130 tZ130 tG130 tL130 tI134 tE134 tZ134 tG134 tU134 tI140 tE140 tZ140 tG140 tP140 tI147 tE147 tZ147 tG147 tF147_0 tF147_1 tF147_2 tP147 tI148 tE148 tZ148 tG148 tF148_0 tF148_1 tF148_2 tP148 tI149 tE149 tZ149 tG149 tF149_0 tF149_1 tP149 tI150 tE150 tZ150 tG150 tF150_0 tF150_1 tP150 tI155 tE155 tZ155 tG155 tL155 tI156 tE156 tZ156 tG156 tF156_0 tP156 tI157 tE157 tZ157 tG157 tF157_0 tP157 tI159 tE159 tZ159 tG159 tU159 tI164 tE164 tZ164 tG164 tU164 tI172 tE172 tZ172 tG172 tU172 tI179 tE179 tZ179 tG179 tU179 tI181 tE181 tZ181 tG181 tU181 tI186 tE186 tZ186 tG186 tI192 tE192 tZ192 tG192 tF192_0 tF192_1 tF192_2 tF192_3 tF192_4 tF192_5 tF192_6 tF192_7 tF192_8 tF192_9 tF192_10 tP192 tI193 tE193 tZ193 tG193 tF193_0 tF193_1 tF193_2 tF193_3 tF193_4 tF193_5 tF193_6 tF193_7 tF193_8 tF193_9 tF193_10 tP193 tI210 tE210 tZ210 tG210 tU210 tI214 tE214 tZ214 tG214 tU214 tI228 tE228 tZ228 tG228 tU228 tI246 tE246 tZ246 tG246 tF246_0 tF246_1 tF246_2 tF246_3 tP246 tI255 tE255 tZ255 tG255 tU255 tI258 tE258 tZ258 tG258 tF258_0 tF258_1 tF258_2 tF258_3 tF258_4 tF258_5 tF258_6 tF258_7 tF258_8 tF258_9 tF258_10 tP258 tI260 tE260 tZ260 tG260 tF260_0 tF260_1 tF260_2 tF260_3 tF260_4 tP260 tI261 tE261 tZ261 tG261 tF261_0 tF261_1 tF261_2 tF261_3 tF261_4 tP261 tI263 tE263 tZ263 tG263
def tbL : List (Nat × Nat) := [(22, 91), (25, 261), (30, 35), (32, 150), (33, 56), (36, 3), (39, 41), (44, 46), (47, 9), (48, 59), (70, 74), (72, 76), (82, 86), (84, 88), (89, 193), (130, 36), (155, 5)]
theorem aTL {t e : Nat} (h : lk tbL t = some e) : EL Tryz.prog t = some e := lk_all (Q := fun t e => EL Tryz.prog t = some e) (by
  intro _ h
  simp only [tbL, List.mem_cons, List.not_mem_nil, or_false] at h
  rcases h with rfl | rfl | rfl | rfl | rfl | rfl | rfl | rfl | rfl | rfl | rfl | rfl | rfl | rfl | rfl | rfl | rfl
  · exact tL22
  · exact tL25
  · exact tL30
  · exact tL32
  · exact tL33
  · exact tL36
  · exact tL39
  · exact tL44
  · exact tL47
  · exact tL48
  · exact tL70
  · exact tL72
  · exact tL82
  · exact tL84
  · exact tL89
  · exact tL130
  · exact tL155) h
def tbM : List (Nat × Nat × Nat) := [(92, 3, 4), (97, 3, 35), (104, 3, 3), (115, 9, 117), (124, 9, 164), (125, 9, 164)]
theorem aTM {t : Nat} {e : Nat × Nat} (h : lk tbM t = some e) : MT Tryz.prog t = some e := lk_all (Q := fun t e => MT Tryz.prog t = some e) (by
  intro _ h
  simp only [tbM, List.mem_cons, List.not_mem_nil, or_false] at h
  rcases h with rfl | rfl | rfl | rfl | rfl | rfl
  · exact tM92
  · exact tM97
  · exact tM104
  · exact tM115
  · exact tM124
  · exact tM125) h
def tbG : List (Nat × Bool × List Value) := [(3, (false, [.int .i64 0])), (4, (false, [.bool false])), (35, (true, [.int .i64 0, .int .i64 0, .int .i64 0, .int .i64 0, .int .i64 0, .int .i64 0, .string ByteArray.empty, .string ByteArray.empty, .string ByteArray.empty, .int .i64 0, .int .i64 0, .bool false, .slice none 0 0, .slice none 0 0])), (117, (false, [.pointer none])), (164, (false, [.pointer none]))]
theorem aTG {t : Nat} {e : Bool × List Value} (h : lk tbG t = some e) : ZG Tryz.prog t = some e := lk_all (Q := fun t e => ZG Tryz.prog t = some e) (by
  intro _ h
  simp only [tbG, List.mem_cons, List.not_mem_nil, or_false] at h
  rcases h with rfl | rfl | rfl | rfl | rfl
  · exact tG3
  · exact tG4
  · exact tG35
  · exact tG117
  · exact tG164) h
theorem aKD {t : Nat} (h : (Nat.beq t 3 || Nat.beq t 9) = true) : Go.Maps.Keyed Tryz.prog t := by
  simp only [Bool.or_eq_true] at h
  rcases h with h | h
  · cases beq_t h; exact kd3
  · cases beq_t h; exact kd9
theorem aMo : Tryz.prog.follows .mixedOrders = true := by kernel_rfl
end Go.Proofs.YtegcmciglakicaaGreat
namespace Go.Proofs.YtegcmciglakicaaGreat
open Go.RowKit Go.Exe
set_option linter.unusedVariables false
set_option maxRecDepth 100000
set_option linter.unusedSimpArgs false

theorem Tryz_mo : Tryz.prog.follows .mixedOrders = true := by kernel_rfl
theorem isNaN_c (n : ByteArray) : PCall Tryz.prog 105 [ft (.string n)] (ft (.bool false)) := by
  refine PCall.intro (nt := 6) (rs := [.tmp 2]) Tryz.func105 rfl ⟨by kernel_rfl, by kernel_rfl, by kernel_rfl⟩ (by simp) ?_
  rintro ⟨P, w0, ok0, may, np, pblk⟩ rfl rfl
  repeat' (first | ((show W _ _ _ _); first | refine W.seq fun K hK => ?_ | refine W.block ?_ | ((first | refine wR ?_ | refine wD ?_ | refine W.skip ?_ | refine W.exit ?_ | refine W.ret (Post.ret ?_)); simp only [go_sem]) | refine wT ?_ | refine wF ?_ | refine wC (fun h => ?_) (fun h => ?_)) | ((show AX _ _ _ _ _); (first | refine aP0 ?_ | refine aF0 ?_); simp only [go_sem]) | refine iK ?_ | refine aI2 ?_ | (refine hK _ ?_; clear hK K) | clear hK K)
def cmpB (a b : ByteArray) : Int := if Op.bytesLess a.toList b.toList then -1 else if !(Op.bytesLess a.toList b.toList || a.toList == b.toList) then 1 else 0
theorem compareStrings_c (a b : ByteArray) : PCall Tryz.prog 54 [ft (.string a), ft (.string b)] (ft (.int .i64 (cmpB a b))) := by
  refine PCall.intro (nt := 13) (rs := [.tmp 4]) Tryz.func54 rfl ⟨by kernel_rfl, by kernel_rfl, by kernel_rfl⟩ (by simp) ?_
  rintro ⟨P, w0, ok0, may, np, pblk⟩ rfl rfl
  repeat' (first | ((show W _ _ _ _); first | refine W.seq fun K hK => ?_ | refine W.block ?_ | ((first | refine wR ?_ | refine wD ?_ | refine W.skip ?_ | refine W.exit ?_ | refine W.ret (Post.ret ?_)); simp only [go_sem]) | refine wT ?_ | refine wF ?_ | refine wC (fun h => ?_) (fun h => ?_)) | ((show AX _ _ _ _ _); (first | refine aP0 ?_ | refine aF0 ?_); simp only [go_sem]) | refine iK ?_ | refine aI2 ?_ | (refine hK _ ?_; clear hK K) | clear hK K)
  all_goals simp_all [cmpB]
theorem cmpCompare_c (a b : ByteArray) : PCall Tryz.prog 65 [ft (.string a), ft (.string b)] (ft (.int .i64 (cmpB a b))) := by
  have c1 := isNaN_c
  refine PCall.intro (nt := 20) (rs := [.tmp 4]) Tryz.func65 rfl ⟨by kernel_rfl, by kernel_rfl, by kernel_rfl⟩ (by simp) ?_
  rintro ⟨P, w0, ok0, may, np, pblk⟩ rfl rfl
  repeat' (first | ((show W _ _ _ _); first | refine W.seq fun K hK => ?_ | refine W.block ?_ | ((first | refine wR ?_ | refine wD ?_ | refine W.skip ?_ | refine W.exit ?_ | refine W.ret (Post.ret ?_)); simp only [go_sem]) | refine wT ?_ | refine wF ?_ | refine wC (fun h => ?_) (fun h => ?_)) | ((show AX _ _ _ _ _); (first | refine aP0 ?_ | refine aF0 ?_); simp only [go_sem]) | refine iK ?_ | refine aI2 ?_ | (refine hK _ ?_; clear hK K) | clear hK K)
  all_goals simp_all [cmpB]
end Go.Proofs.YtegcmciglakicaaGreat
namespace Go.Proofs.YtegcmciglakicaaGreat
open Go.RowKit Go.Exe
set_option linter.unusedVariables false
set_option maxRecDepth 100000
set_option linter.unusedSimpArgs false

inductive Shp where
  | mk (s o : ByteArray) (ks : List Shp)
mutual
def Shp.av : Shp → List AV
  | .mk s o ks => [.flat (.string s), .flat (.string o), .sl 41 (avs ks)]
def avs : List Shp → List (List AV)
  | [] => []
  | x :: r => x.av :: avs r
end
theorem avs_get : ∀ (l : List Shp) (i : Nat), (avs l)[i]? = l[i]?.map Shp.av
  | [], i => by simp [avs]
  | x :: r, 0 => by simp [avs]
  | x :: r, i + 1 => by simp [avs, avs_get r i]
theorem avs_len : ∀ l : List Shp, (avs l).length = l.length
  | [] => rfl
  | x :: r => by simp [avs, avs_len r]
def iA (n : Int) : List AV := [.flat (.int .i64 n)]
def orL : List Int → Int
  | [] => 0
  | x :: r => if x = 0 then orL r else x
def shT (x : Shp) : TV := .g (x.av.map .im)
mutual
def Shp.cmp : Shp → Shp → Int
  | .mk s o ks, .mk s' o' ks' => if orL [cmpB s s', cmpB o o'] ≠ 0 then orL [cmpB s s', cmpB o o'] else cmps ks ks'
def cmps : List Shp → List Shp → Int
  | [], [] => 0
  | [], _ :: _ => -1
  | _ :: _, [] => 1
  | x :: r, y :: q => if x.cmp y ≠ 0 then x.cmp y else cmps r q
end

theorem shcompare_c (cOr : ∀ l : List Int, PCall Tryz.prog 52 [.c (.im (.sl 3 (l.map iA)))] (ft (.int .i64 (orL l)))) (s o s' o' : ByteArray) (ks ks' : List Shp)
    (c50 : PCall Tryz.prog 66 [.c (.im (.sl 41 (avs ks))), .c (.im (.sl 41 (avs ks'))), ft (.func (.func 37) #[] #[])] (ft (.int .i64 (cmps ks ks')))) :
    PCall Tryz.prog 37 [shT (.mk s o ks), shT (.mk s' o' ks')] (ft (.int .i64 (Shp.cmp (.mk s o ks) (.mk s' o' ks')))) := by
  have c1 := cmpCompare_c
  have c2 := cOr [cmpB s s', cmpB o o']
  simp only [List.map, iA] at c2
  simp only [shT, Shp.av, List.map]
  refine PCall.intro (nt := 26) (rs := [.tmp 4]) Tryz.func37 rfl ⟨by kernel_rfl, by kernel_rfl, by kernel_rfl⟩ (by simp) ?_
  rintro ⟨P, w0, ok0, may, np, pblk⟩ rfl rfl
  repeat' (first | ((show W _ _ _ _); first | refine W.seq fun K hK => ?_ | refine W.block ?_ | ((first | refine wR ?_ | refine wD ?_ | refine W.skip ?_ | refine W.exit ?_ | refine W.ret (Post.ret ?_)); simp only [go_sem, indepK, apartAllK, apartK, disjK]) | refine wT ?_ | refine wF ?_ | refine wC (fun h => ?_) (fun h => ?_)) | ((show AX _ _ _ _ _); (first | refine aP0 ?_ | refine aF0 ?_); simp only [go_sem, indepK, apartAllK, apartK, disjK]) | refine iK ?_ | refine aI2 ?_ | (refine hK _ ?_; clear hK K) | clear hK K)
  all_goals simp_all [Shp.cmp]
end Go.Proofs.YtegcmciglakicaaGreat
namespace Go.Proofs.YtegcmciglakicaaGreat
open Go.RowKit Go.Exe
set_option linter.unusedVariables false
set_option linter.unusedSimpArgs false
set_option maxHeartbeats 1000000
set_option maxRecDepth 100000

def cmpsBy (cm : Shp → Shp → Int) : List Shp → List Shp → Int
  | [], [] => 0
  | [], _ :: _ => -1
  | _ :: _, [] => 1
  | x :: r, y :: q => if cm x y ≠ 0 then cm x y else cmpsBy cm r q
theorem shT_mk (s o ks) : shT (.mk s o ks) = .g [.im (.flat (.string s)), .im (.flat (.string o)), .im (.sl 41 (avs ks))] := rfl
theorem compareFunc_c (f : Nat) (cm : Shp → Shp → Int) (xs ys : List Shp) (hf : ∀ x ∈ xs, ∀ y ∈ ys, PCall Tryz.prog f [shT x, shT y] (ft (.int .i64 (cm x y)))) :
    PCall Tryz.prog 66 [.c (.im (.sl 41 (avs xs))), .c (.im (.sl 41 (avs ys))), ft (.func (.func f) #[] #[])] (ft (.int .i64 (cmpsBy cm xs ys))) := by
  refine PCall.intro (nt := 39) (rs := [.tmp 6]) Tryz.func66 rfl ⟨by kernel_rfl, by kernel_rfl, by kernel_rfl⟩ (by simp) ?_
  rintro ⟨P, w0, ok0, may, np, pblk⟩ rfl rfl
  refine W.lenIm 0 rfl fun hlen => ?_
  rw [avs_len, maxLen_is] at hlen
  repeat' (first | ((show W _ _ _ _); first | refine W.seq fun K hK => ?_ | refine W.block ?_ | ((first | refine wR ?_ | refine wD ?_ | refine W.skip ?_ | refine W.exit ?_ | refine W.ret (Post.ret ?_)); simp only [go_sem, avs_len]) | refine wT ?_ | refine wF ?_ | refine wC (fun h => ?_) (fun h => ?_)) | ((show AX _ _ _ _ _); (first | refine aP0 ?_ | refine aF0 ?_); simp only [go_sem, avs_len]) | refine iK ?_ | refine aI2 ?_ | (refine hK _ ?_; clear hK K) | clear hK K)
  refine W.loopF (T := fun i : Nat => { t := [(0, .c (.im (.sl 41 (avs xs)))), (1, .c (.im (.sl 41 (avs ys)))), (2, ft (.func (.func f) #[] #[])), (6, ft (.int .i64 0)), (11, .c (.im (.sl 41 (avs xs)))), (12, ft (.int .i64 xs.length)), (13, ft (.int .i64 (i : Nat)))], h := [], nx := 0, ex := [], nt := 39 })
    (Inv := fun i => i ≤ xs.length ∧ i ≤ ys.length ∧ cmpsBy cm xs ys = cmpsBy cm (xs.drop i) (ys.drop i)) (μ := fun i => xs.length - i) (x0 := 0) (Fits.fit [] [0, 1, 2, 6, 11, 12, 13] 0 rfl rfl ?_) ⟨Nat.zero_le _, Nat.zero_le _, rfl⟩ ?_
  · simp only [go_sem]
    exact Fits.rfl
  rintro i ⟨hi, hi2, hinv⟩ KL hKL
  by_cases hlt : i < xs.length
  · obtain ⟨⟨s, o, ks⟩, hx, hm, hd⟩ := drop_at hlt
    have e1 : decide ((i : Int) < xs.length) = true := by simp; omega
    have hw := w64s i (by omega)
    by_cases hlt2 : i < ys.length
    · obtain ⟨⟨s', o', ks'⟩, hx', hm', hd'⟩ := drop_at hlt2
      have hc := hf _ hm _ hm'
      rw [shT_mk, shT_mk] at hc
      have e2 : decide ((i : Int) ≥ ys.length) = false := by simp; omega
      repeat' (first | ((show W _ _ _ _); first | refine W.seq fun K hK => ?_ | refine W.block ?_ | ((first | refine wR ?_ | refine wD ?_ | refine W.skip ?_ | refine W.exit ?_ | refine W.ret (Post.ret ?_)); simp only [go_sem, avs_len, avs_get, hx, hx', Shp.av, e1, e2, hw]) | refine wT ?_ | refine wF ?_ | refine wC (fun h => ?_) (fun h => ?_)) | ((show AX _ _ _ _ _); (first | refine aP0 ?_ | refine aF0 ?_); simp only [go_sem, avs_len, avs_get, hx, hx', Shp.av, e1, e2, hw]) | refine iK ?_ | refine aI2 ?_ | (refine hK _ ?_; clear hK K) | clear hK K)
      · simp at h
        simp [hinv, hd, hd', cmpsBy, h]
      · refine hKL.to (i + 1) ⟨by omega, by omega, ?_⟩ (by omega) (Fits.fit [] [0, 1, 2, 6, 11, 12, 13] 0 rfl rfl ?_)
        · simp at h
          simp [hinv, hd, hd', cmpsBy, h]
        · simp only [go_sem]
          exact Fits.rfl
    · have e2 : decide ((i : Int) ≥ ys.length) = true := by simp; omega
      repeat' (first | ((show W _ _ _ _); first | refine W.seq fun K hK => ?_ | refine W.block ?_ | ((first | refine wR ?_ | refine wD ?_ | refine W.skip ?_ | refine W.exit ?_ | refine W.ret (Post.ret ?_)); simp only [go_sem, avs_len, avs_get, hx, Shp.av, e1, e2, hw]) | refine wT ?_ | refine wF ?_ | refine wC (fun h => ?_) (fun h => ?_)) | ((show AX _ _ _ _ _); (first | refine aP0 ?_ | refine aF0 ?_); simp only [go_sem, avs_len, avs_get, hx, Shp.av, e1, e2, hw]) | refine iK ?_ | refine aI2 ?_ | (refine hK _ ?_; clear hK K) | clear hK K)
      have : ys.drop i = [] := List.drop_eq_nil_of_le (by omega)
      simp [hinv, hd, this, cmpsBy]
  · have e1 : decide ((i : Int) < xs.length) = false := by simp; omega
    have hd : xs.drop i = [] := List.drop_eq_nil_of_le (by omega)
    clear hKL
    repeat' (first | ((show W _ _ _ _); first | refine W.seq fun K hK => ?_ | refine W.block ?_ | ((first | refine wR ?_ | refine wD ?_ | refine W.skip ?_ | refine W.exit ?_ | refine W.ret (Post.ret ?_)); simp only [go_sem, avs_len, e1]) | refine wT ?_ | refine wF ?_ | refine wC (fun h => ?_) (fun h => ?_)) | ((show AX _ _ _ _ _); (first | refine aP0 ?_ | refine aF0 ?_); simp only [go_sem, avs_len, e1]) | refine iK ?_ | refine aI2 ?_ | (refine hK _ ?_; clear hK K) | clear hK K)
    · obtain ⟨x, r, hd'⟩ : ∃ x r, ys.drop i = x :: r := by
        simp at h
        obtain ⟨x, _, _, h4⟩ := drop_at (show i < ys.length by omega)
        exact ⟨x, _, h4⟩
      simp [hinv, hd, hd', cmpsBy]
    · have : ys.drop i = [] := by simp at h; exact List.drop_eq_nil_of_le (by omega)
      simp [hinv, hd, this, cmpsBy]
theorem cmps_by : ∀ xs ys : List Shp, cmps xs ys = cmpsBy Shp.cmp xs ys
  | [], [] => by simp [cmps, cmpsBy]
  | [], _ :: _ => by simp [cmps, cmpsBy]
  | _ :: _, [] => by simp [cmps, cmpsBy]
  | x :: r, y :: q => by simp [cmps, cmpsBy, cmps_by r q]
theorem shcompare_all (cOr : ∀ l : List Int, PCall Tryz.prog 52 [.c (.im (.sl 3 (l.map iA)))] (ft (.int .i64 (orL l)))) : ∀ x y : Shp, PCall Tryz.prog 37 [shT x, shT y] (ft (.int .i64 (x.cmp y)))
  | .mk s o ks, .mk s' o' ks' => by
    refine shcompare_c cOr s o s' o' ks ks' ?_
    rw [cmps_by]
    exact compareFunc_c 37 Shp.cmp ks ks' fun x hx y hy => shcompare_all cOr x y
termination_by x => SizeOf.sizeOf x
decreasing_by
  have := List.sizeOf_lt_of_mem hx
  simp only [Shp.mk.sizeOf_spec]
  omega
end Go.Proofs.YtegcmciglakicaaGreat
namespace Go.Proofs.YtegcmciglakicaaGreat
open Go.RowKit Go.Exe
set_option linter.unusedVariables false
set_option linter.unusedSimpArgs false
set_option maxHeartbeats 1000000
set_option maxRecDepth 100000

theorem cmpOr_c (l : List Int) : PCall Tryz.prog 52 [.c (.im (.sl 3 (l.map iA)))] (ft (.int .i64 (orL l))) := by
  refine PCall.intro (nt := 18) (rs := [.tmp 2]) Tryz.func52 rfl ⟨by kernel_rfl, by kernel_rfl, by kernel_rfl⟩ (by simp) ?_
  rintro ⟨P, w0, ok0, may, np, pblk⟩ rfl rfl
  refine W.lenIm 0 rfl fun hlen => ?_
  rw [List.length_map, maxLen_is] at hlen
  repeat' (first | ((show W _ _ _ _); first | refine W.seq fun K hK => ?_ | refine W.block ?_ | ((first | refine wR ?_ | refine wD ?_ | refine W.skip ?_ | refine W.exit ?_ | refine W.ret (Post.ret ?_)); simp only [go_sem, reduceCtorEq, List.length_map]) | refine wT ?_ | refine wF ?_ | refine wC (fun h => ?_) (fun h => ?_)) | ((show AX _ _ _ _ _); (first | refine aP ?_ | refine aF ?_ | refine aL ?_ | refine aU (hnn := by simp only [go_sem, reduceCtorEq, List.length_map]) ?_ | refine aM ?_ | refine aN ?_ | refine aR ?_ | refine aS (hb := by simp only [go_sem, reduceCtorEq, List.length_map]; first | omega | (simp; omega)) ?_ | refine aH ?_ | refine aI ?_ | refine aB ?_ | refine aZ ?_); simp only [go_sem, reduceCtorEq, List.length_map]) | refine iK ?_ | refine aI2 ?_ | (refine hK _ ?_; clear hK K) | clear hK K)
  refine W.loopF (T := fun i : Nat => { t := [(2, ft (.int .i64 0)), (3, ft (.int .i64 0)), (6, .c (.im (.sl 3 (l.map iA)))), (7, ft (.int .i64 l.length)), (8, ft (.int .i64 (i : Nat)))], h := [], nx := 0, ex := [], nt := 18 })
    (Inv := fun i => i ≤ l.length ∧ orL l = orL (l.drop i)) (μ := fun i => l.length - i) (x0 := 0) (Fits.fit [] [2, 3, 6, 7, 8] 0 rfl rfl ?_) ⟨Nat.zero_le _, rfl⟩ ?_
  · simp only [go_sem]
    exact Fits.rfl
  rintro i ⟨hi, hinv⟩ KL hKL
  by_cases hlt : i < l.length
  · obtain ⟨x, hx, hm, hd⟩ := drop_at hlt
    have e1 : decide ((i : Int) < l.length) = true := by simp; omega
    have hw := w64s i (by omega)
    by_cases h0 : x = 0
    · have e2 : (x != 0) = false := by simp [h0]
      repeat' (first | ((show W _ _ _ _); first | refine W.seq fun K hK => ?_ | refine W.block ?_ | ((first | refine wR ?_ | refine wD ?_ | refine W.skip ?_ | refine W.exit ?_ | refine W.ret (Post.ret ?_)); simp only [go_sem, reduceCtorEq, e1, e2, hw, List.getElem?_map, hx, iA]) | refine wT ?_ | refine wF ?_ | refine wC (fun h => ?_) (fun h => ?_)) | ((show AX _ _ _ _ _); (first | refine aP ?_ | refine aF ?_ | refine aL ?_ | refine aU (hnn := by simp only [go_sem, reduceCtorEq, e1, e2, hw, List.getElem?_map, hx, iA]) ?_ | refine aM ?_ | refine aN ?_ | refine aR ?_ | refine aS (hb := by simp only [go_sem, reduceCtorEq, e1, e2, hw, List.getElem?_map, hx, iA]; first | omega | (simp; omega)) ?_ | refine aH ?_ | refine aI ?_ | refine aB ?_ | refine aZ ?_); simp only [go_sem, reduceCtorEq, e1, e2, hw, List.getElem?_map, hx, iA]) | refine iK ?_ | refine aI2 ?_ | (refine hK _ ?_; clear hK K) | clear hK K)
      refine hKL.to (i + 1) ⟨by omega, ?_⟩ (by omega) (Fits.fit [] [2, 3, 6, 7, 8] 0 rfl rfl ?_)
      · rw [hinv, hd]; simp [orL, h0]
      · simp only [go_sem]
        exact Fits.rfl
    · have e2 : (x != 0) = true := by simp [h0]
      repeat' (first | ((show W _ _ _ _); first | refine W.seq fun K hK => ?_ | refine W.block ?_ | ((first | refine wR ?_ | refine wD ?_ | refine W.skip ?_ | refine W.exit ?_ | refine W.ret (Post.ret ?_)); simp only [go_sem, reduceCtorEq, e1, e2, hw, List.getElem?_map, hx, iA]) | refine wT ?_ | refine wF ?_ | refine wC (fun h => ?_) (fun h => ?_)) | ((show AX _ _ _ _ _); (first | refine aP ?_ | refine aF ?_ | refine aL ?_ | refine aU (hnn := by simp only [go_sem, reduceCtorEq, e1, e2, hw, List.getElem?_map, hx, iA]) ?_ | refine aM ?_ | refine aN ?_ | refine aR ?_ | refine aS (hb := by simp only [go_sem, reduceCtorEq, e1, e2, hw, List.getElem?_map, hx, iA]; first | omega | (simp; omega)) ?_ | refine aH ?_ | refine aI ?_ | refine aB ?_ | refine aZ ?_); simp only [go_sem, reduceCtorEq, e1, e2, hw, List.getElem?_map, hx, iA]) | refine iK ?_ | refine aI2 ?_ | (refine hK _ ?_; clear hK K) | clear hK K)
      simp [hinv, hd, orL, h0]
  · have e1 : decide ((i : Int) < l.length) = false := by simp; omega
    obtain rfl : i = l.length := by omega
    clear hKL
    repeat' (first | ((show W _ _ _ _); first | refine W.seq fun K hK => ?_ | refine W.block ?_ | ((first | refine wR ?_ | refine wD ?_ | refine W.skip ?_ | refine W.exit ?_ | refine W.ret (Post.ret ?_)); simp only [go_sem, reduceCtorEq, e1]) | refine wT ?_ | refine wF ?_ | refine wC (fun h => ?_) (fun h => ?_)) | ((show AX _ _ _ _ _); (first | refine aP ?_ | refine aF ?_ | refine aL ?_ | refine aU (hnn := by simp only [go_sem, reduceCtorEq, e1]) ?_ | refine aM ?_ | refine aN ?_ | refine aR ?_ | refine aS (hb := by simp only [go_sem, reduceCtorEq, e1]; first | omega | (simp; omega)) ?_ | refine aH ?_ | refine aI ?_ | refine aB ?_ | refine aZ ?_); simp only [go_sem, reduceCtorEq, e1]) | refine iK ?_ | refine aI2 ?_ | (refine hK _ ?_; clear hK K) | clear hK K)
    simp [hinv, orL]
end Go.Proofs.YtegcmciglakicaaGreat
namespace Go.Proofs.YtegcmciglakicaaGreat
open Go.RowKit Go.Exe
set_option linter.unusedVariables false
set_option linter.unusedSimpArgs false
set_option maxHeartbeats 1000000
set_option maxRecDepth 100000

instance : Inhabited Shp := ⟨.mk .empty .empty []⟩
def ins1 (x : Shp) : List Shp → List Shp
  | [] => [x]
  | y :: r => if x.cmp y < 0 then x :: y :: r else y :: ins1 x r
def srt : List Shp → List Shp
  | [] => []
  | x :: r => ins1 x (srt r)
mutual
def Shp.canon : Shp → Shp
  | .mk s o ks => .mk s o (srt (canons ks))
def canons : List Shp → List Shp
  | [] => []
  | x :: r => x.canon :: canons r
end
theorem avs_map : ∀ l : List Shp, avs l = l.map Shp.av
  | [] => rfl
  | x :: r => by simp [avs, avs_map r]
theorem canons_map : ∀ l : List Shp, canons l = l.map Shp.canon
  | [] => rfl
  | x :: r => by simp [canons, canons_map r]
theorem canonical_c (c35 : SortC Tryz.prog 36 3) (c34 : ∀ x y : Shp, PCall Tryz.prog 37 [shT x, shT y] (ft (.int .i64 (x.cmp y))))
    (hord : ∀ l, OrdOn Shp.cmp l) (hperm : ∀ l, (srt l).Perm l) (huni : ∀ l zs' : List Shp, zs'.Perm l → zs'.Pairwise (fun a b => ¬ Shp.cmp b a < 0) → zs' = srt l)
    (s o : ByteArray) (ks : List Shp) (ih : ∀ x ∈ ks, PCall Tryz.prog 26 [shT x] (shT x.canon)) :
    PCall Tryz.prog 26 [shT (.mk s o ks)] (shT (Shp.canon (.mk s o ks))) := by
  simp only [shT, Shp.av, List.map, Shp.canon]
  refine PCall.intro (nt := 30) (rs := [.cell 2 41]) Tryz.func26 rfl ⟨by kernel_rfl, by kernel_rfl, by kernel_rfl⟩ (by simp) ?_
  rintro ⟨P, w0, ok0, may, np, pblk⟩ rfl rfl
  repeat' (first | ((show W _ _ _ _); first | refine W.seq fun K hK => ?_ | refine W.block ?_ | ((first | refine wR ?_ | refine wD ?_ | refine W.skip ?_ | refine W.exit ?_ | refine W.ret (Post.ret ?_)); simp only [go_sem, avs_len]) | refine wT ?_ | refine wF ?_ | refine wC (fun h => ?_) (fun h => ?_)) | ((show AX _ _ _ _ _); (first | refine aP0 ?_ | refine aF0 ?_); simp only [go_sem, avs_len]) | refine iK ?_ | refine aI2 ?_ | (refine hK _ ?_; clear hK K) | clear hK K)
  refine W.lenB 12 rfl tE41 fun hlen hbytes => ?_
  rw [avs_len] at hbytes
  rw [avs_len, maxLen_is] at hlen
  refine W.loopF (T := fun i : Nat => { t := [(2, .c (.ptr 0 0)), (3, .c (.ptr 1 0)), (12, .c (.im (.sl 41 (avs ks)))), (13, ft (.int .i64 ks.length)), (14, ft (.int .i64 (i : Nat)))], h := [(0, .box 41 [fl (.string .empty), fl (.string .empty), fl (.slice none 0 0)]), (1, .box 41 [fl (.string s), fl (.string o), .ref 2]), (2, .row 41 (imR (((ks.take i).map Shp.canon).map Shp.av)))], nx := 3, ex := [], nt := 30 })
    (Inv := fun i => i ≤ ks.length) (μ := fun i => ks.length - i) (x0 := 0) (Fits.fit [(1, 0), (7, 1)] [2, 3, 12, 13, 14] 2 rfl rfl ?_) (Nat.zero_le _) ?_
  · simp only [go_sem]
    refine Fits.adoptB 1 41 _ 2 2 41 rfl rfl rfl rfl tE41 rfl ?_
    refine Fits.fit [(0, 0), (1, 1), (2, 2)] [2, 3, 12, 13, 14] 3 rfl rfl ?_
    simp only [go_sem]
    exact Fits.rfl
  intro i hi KL hKL
  by_cases hlt : i < ks.length
  · obtain ⟨⟨s', o', ks'⟩, hx, hm, hd⟩ := drop_at hlt
    have e1 : decide ((i : Int) < ks.length) = true := by simp; omega
    have hw := w64s i (by omega)
    have hc := ih _ hm
    simp only [shT_mk, Shp.canon] at hc
    repeat' (first | ((show W _ _ _ _); first | refine W.seq fun K hK => ?_ | refine W.block ?_ | ((first | refine wR ?_ | refine wD ?_ | refine W.skip ?_ | refine W.exit ?_ | refine W.ret (Post.ret ?_)); simp only [go_sem, avs_get, hx, Shp.av, e1, hw]) | refine wT ?_ | refine wF ?_ | refine wC (fun h => ?_) (fun h => ?_)) | ((show AX _ _ _ _ _); (first | refine aP0 ?_ | refine aF0 ?_); simp only [go_sem, avs_get, hx, Shp.av, e1, hw]) | refine iK ?_ | refine aI2 ?_ | (refine hK _ ?_; clear hK K) | clear hK K)
    refine hKL.to (i + 1) (by omega) (by omega) (Fits.fit [(0, 0), (1, 1), (13, 2)] [2, 3, 12, 13, 14] 3 rfl rfl ?_)
    simp only [go_sem, take_at hx, List.map_append, imR_app, imR_one, imL, Shp.canon, Shp.av]
    exact Fits.rfl
  · have e1 : decide ((i : Int) < ks.length) = false := by simp; omega
    have hi2 : i = ks.length := by omega
    subst hi2
    clear hKL
    repeat' (first | ((show W _ _ _ _); first | refine W.seq fun K hK => ?_ | refine W.block ?_ | ((first | refine wR ?_ | refine wD ?_ | refine W.skip ?_ | refine W.exit ?_ | refine W.ret (Post.ret ?_)); simp only [go_sem, e1]) | refine wT ?_ | refine wF ?_ | refine wC (fun h => ?_) (fun h => ?_)) | ((show AX _ _ _ _ _); (first | refine aP0 ?_ | refine aF0 ?_); simp only [go_sem, e1]) | refine iK ?_ | refine aI2 ?_ | (refine hK _ ?_; clear hK K) | clear hK K)
    refine AX.sort Shp.av rfl rfl rfl rfl rfl rfl tE41 (by decide) c35 (fun x _ y _ => c34 x y) (hord _) (hperm _) (huni _) rfl ?_
    simp only [go_sem]
    repeat' (first | ((show W _ _ _ _); first | refine W.seq fun K hK => ?_ | refine W.block ?_ | ((first | refine wR ?_ | refine wD ?_ | refine W.skip ?_ | refine W.exit ?_ | refine W.ret (Post.ret ?_)); simp only [go_sem]) | refine wT ?_ | refine wF ?_ | refine wC (fun h => ?_) (fun h => ?_)) | ((show AX _ _ _ _ _); (first | refine aP0 ?_ | refine aF0 ?_); simp only [go_sem]) | refine iK ?_ | refine aI2 ?_ | (refine hK _ ?_; clear hK K) | clear hK K)
    simp [avs_map, canons_map]
end Go.Proofs.YtegcmciglakicaaGreat
namespace Go.Proofs.YtegcmciglakicaaGreat
open Go.RowKit Go.Exe
set_option linter.unusedVariables false
set_option linter.unusedSimpArgs false
set_option maxHeartbeats 1000000
set_option maxRecDepth 100000

theorem leaf_c (s : ByteArray) : PCall Tryz.prog 25 [ft (.string s)] (shT (.mk s ⟨#[103, 101, 116]⟩ [])) := by
  refine PCall.conv (args' := [ft (.string s)]) (r' := .g [fl (.string s), fl (.string ⟨#[103, 101, 116]⟩), fl (.slice none 0 0)]) ?_ (Al.refl (fun _ => TLe.rfl) _) (TLe.g (Al.cons CLe.rfl (Al.cons CLe.rfl (Al.cons CLe.nil Al.nil))))
  refine PCall.intro (nt := 5) (rs := [.cell 2 41]) Tryz.func25 rfl ⟨by kernel_rfl, by kernel_rfl, by kernel_rfl⟩ (by simp) ?_
  rintro ⟨P, w0, ok0, may, np, pblk⟩ rfl rfl
  repeat' (first | ((show W _ _ _ _); first | refine W.seq fun K hK => ?_ | refine W.block ?_ | ((first | refine wR ?_ | refine wD ?_ | refine W.skip ?_ | refine W.exit ?_ | refine W.ret (Post.ret ?_)); simp only [go_sem]) | refine wT ?_ | refine wF ?_ | refine wC (fun h => ?_) (fun h => ?_)) | ((show AX _ _ _ _ _); (first | refine aP0 ?_ | refine aF0 ?_); simp only [go_sem]) | refine iK ?_ | refine aI2 ?_ | (refine hK _ ?_; clear hK K) | clear hK K)
mutual
def Shp.size : Shp → Nat
  | .mk _ _ ks => 1 + sizes ks
def sizes : List Shp → Nat
  | [] => 0
  | x :: r => x.size + sizes r
end
mutual
def Shp.depth : Shp → Nat
  | .mk _ _ ks => depths ks + 1
def depths : List Shp → Nat
  | [] => 0
  | x :: r => max x.depth (depths r)
end
theorem sizes_app (a b : List Shp) : sizes (a ++ b) = sizes a + sizes b := by
  induction a with
  | nil => simp [sizes]
  | cons x r ih => simp [sizes, ih]; omega
theorem sizes_take (l : List Shp) (i : Nat) : sizes (l.take i) ≤ sizes l := by
  conv => rhs; rw [← List.take_append_drop i l, sizes_app]
  omega
theorem sizes_at {l : List Shp} {i : Nat} {x : Shp} (h : l[i]? = some x) : sizes (l.take (i + 1)) = sizes (l.take i) + x.size := by
  rw [take_at h, sizes_app]; simp [sizes]
theorem sizes_mem {l : List Shp} {x : Shp} (h : x ∈ l) : x.size ≤ sizes l := by
  induction l with
  | nil => cases h
  | cons y r ih =>
    simp only [sizes]
    rcases List.mem_cons.1 h with rfl | h
    · omega
    · have := ih h; omega
theorem Size_c (s o : ByteArray) (ks : List Shp) (hsz : (Shp.mk s o ks).size ≤ 9223372036854775807) (ih : ∀ x ∈ ks, PCall Tryz.prog 28 [shT x] (ft (.int .i64 x.size))) :
    PCall Tryz.prog 28 [shT (.mk s o ks)] (ft (.int .i64 (Shp.mk s o ks).size)) := by
  simp only [Shp.size] at hsz
  simp only [shT, Shp.av, List.map, Shp.size]
  refine PCall.intro (nt := 19) (rs := [.tmp 2]) Tryz.func28 rfl ⟨by kernel_rfl, by kernel_rfl, by kernel_rfl⟩ (by simp) ?_
  rintro ⟨P, w0, ok0, may, np, pblk⟩ rfl rfl
  repeat' (first | ((show W _ _ _ _); first | refine W.seq fun K hK => ?_ | refine W.block ?_ | ((first | refine wR ?_ | refine wD ?_ | refine W.skip ?_ | refine W.exit ?_ | refine W.ret (Post.ret ?_)); simp only [go_sem, avs_len]) | refine wT ?_ | refine wF ?_ | refine wC (fun h => ?_) (fun h => ?_)) | ((show AX _ _ _ _ _); (first | refine aP0 ?_ | refine aF0 ?_); simp only [go_sem, avs_len]) | refine iK ?_ | refine aI2 ?_ | (refine hK _ ?_; clear hK K) | clear hK K)
  refine W.lenB 7 rfl tE41 fun hlen hbytes => ?_
  rw [avs_len, maxLen_is] at hlen
  refine W.loopF (T := fun i : Nat => { t := [(3, ft (.int .i64 ((1 + sizes (ks.take i) : Nat) : Int))), (7, .c (.im (.sl 41 (avs ks)))), (8, ft (.int .i64 ks.length)), (9, ft (.int .i64 (i : Nat)))], h := [], nx := 0, ex := [], nt := 19 })
    (Inv := fun i => i ≤ ks.length) (μ := fun i => ks.length - i) (x0 := 0) (Fits.fit [] [3, 7, 8, 9] 0 rfl rfl ?_) (Nat.zero_le _) ?_
  · simp only [go_sem]
    exact Fits.rfl
  intro i hi KL hKL
  by_cases hlt : i < ks.length
  · obtain ⟨⟨s', o', ks'⟩, hx, hm, hd⟩ := drop_at hlt
    have e1 : decide ((i : Int) < ks.length) = true := by simp; omega
    have hw := w64s i (by omega)
    have hc := ih _ hm
    have h1 := sizes_at hx
    have h2 := sizes_take ks (i + 1)
    have hw2 : IntKind.i64.wrap (((1 + sizes (ks.take i) : Nat) : Int) + ((Shp.mk s' o' ks').size : Nat)) = ((1 + sizes (ks.take (i + 1)) : Nat) : Int) := by
      rw [w64 (by omega) (by omega), h1]; omega
    simp only [shT_mk] at hc
    repeat' (first | ((show W _ _ _ _); first | refine W.seq fun K hK => ?_ | refine W.block ?_ | ((first | refine wR ?_ | refine wD ?_ | refine W.skip ?_ | refine W.exit ?_ | refine W.ret (Post.ret ?_)); simp only [go_sem, avs_get, hx, Shp.av, e1, hw, hw2]) | refine wT ?_ | refine wF ?_ | refine wC (fun h => ?_) (fun h => ?_)) | ((show AX _ _ _ _ _); (first | refine aP0 ?_ | refine aF0 ?_); simp only [go_sem, avs_get, hx, Shp.av, e1, hw, hw2]) | refine iK ?_ | refine aI2 ?_ | (refine hK _ ?_; clear hK K) | clear hK K)
    refine hKL.to (i + 1) (by omega) (by omega) (Fits.fit [] [3, 7, 8, 9] 0 rfl rfl ?_)
    simp only [go_sem]
    exact Fits.rfl
  · have e1 : decide ((i : Int) < ks.length) = false := by simp; omega
    have hi2 : i = ks.length := by omega
    subst hi2
    clear hKL
    repeat' (first | ((show W _ _ _ _); first | refine W.seq fun K hK => ?_ | refine W.block ?_ | ((first | refine wR ?_ | refine wD ?_ | refine W.skip ?_ | refine W.exit ?_ | refine W.ret (Post.ret ?_)); simp only [go_sem, e1]) | refine wT ?_ | refine wF ?_ | refine wC (fun h => ?_) (fun h => ?_)) | ((show AX _ _ _ _ _); (first | refine aP0 ?_ | refine aF0 ?_); simp only [go_sem, e1]) | refine iK ?_ | refine aI2 ?_ | (refine hK _ ?_; clear hK K) | clear hK K)
    simp
end Go.Proofs.YtegcmciglakicaaGreat
namespace Go.Proofs.YtegcmciglakicaaGreat
open Go.RowKit Go.Exe
set_option linter.unusedVariables false
set_option linter.unusedSimpArgs false
set_option maxHeartbeats 1000000
set_option maxRecDepth 100000

theorem size_pos (x : Shp) : 1 ≤ x.size := by cases x; simp [Shp.size]
theorem sizes_len (l : List Shp) : l.length ≤ sizes l := by
  induction l with
  | nil => simp
  | cons x r ih => have := size_pos x; simp [sizes]; omega
theorem depths_app (a b : List Shp) : depths (a ++ b) = max (depths a) (depths b) := by
  induction a with
  | nil => simp [depths]
  | cons x r ih => simp [depths, ih, Nat.max_assoc]
theorem depths_at {l : List Shp} {i : Nat} {x : Shp} (h : l[i]? = some x) : depths (l.take (i + 1)) = max (depths (l.take i)) x.depth := by
  rw [take_at h, depths_app]; simp [depths]
mutual
theorem depth_le : ∀ x : Shp, x.depth ≤ x.size
  | .mk s o ks => by have := depths_le ks; simp [Shp.size, Shp.depth]; omega
theorem depths_le : ∀ l : List Shp, depths l ≤ sizes l
  | [] => by simp [depths]
  | x :: r => by have := depth_le x; have := depths_le r; simp [depths, sizes]; omega
end
theorem max_if (a b : Nat) : (if (b : Int) > (a : Int) then (b : Int) else (a : Int)) = ((max a b : Nat) : Int) := by
  split <;> omega

theorem size_c (s o : ByteArray) (ks : List Shp) (hsz : (Shp.mk s o ks).size ≤ 9223372036854775807) (ih : ∀ x ∈ ks, PCall Tryz.prog 19 [shT x] (ft (.int .i64 x.size))) :
    PCall Tryz.prog 19 [shT (.mk s o ks)] (ft (.int .i64 (Shp.mk s o ks).size)) := by
  simp only [Shp.size] at hsz
  have hb : ks.length ≤ sizes ks := sizes_len ks
  simp only [shT, Shp.av, List.map, Shp.size]
  refine PCall.intro (nt := 21) (rs := [.tmp 2]) Tryz.func19 rfl ⟨by kernel_rfl, by kernel_rfl, by kernel_rfl⟩ (by simp) ?_
  rintro ⟨P, w0, ok0, may, np, pblk⟩ rfl rfl
  repeat' (first | ((show W _ _ _ _); first | refine W.seq fun K hK => ?_ | refine W.block ?_ | ((first | refine wR ?_ | refine wD ?_ | refine W.skip ?_ | refine W.exit ?_ | refine W.ret (Post.ret ?_)); simp only [go_sem, avs_len]) | refine wT ?_ | refine wF ?_ | refine wC (fun h => ?_) (fun h => ?_)) | ((show AX _ _ _ _ _); (first | refine aP0 ?_ | refine aF0 ?_); simp only [go_sem, avs_len]) | refine iK ?_ | refine aI2 ?_ | (refine hK _ ?_; clear hK K) | clear hK K)
  refine W.loopF (T := fun i : Nat => { t := [(1, .c (.ptr 0 0)), (3, ft (.int .i64 ((1 + sizes (ks.take i) : Nat) : Int))), (4, ft (.int .i64 (i : Nat)))], h := [(0, .box 41 [fl (.string s), fl (.string o), .im (.sl 41 (avs ks))])], nx := 1, ex := [], nt := 21 })
    (Inv := fun i => i ≤ ks.length) (μ := fun i => ks.length - i) (x0 := 0) (Fits.fit [(0, 0)] [1, 3, 4] 1 rfl rfl ?_) (Nat.zero_le _) ?_
  · simp only [go_sem]
    exact Fits.rfl
  intro i hi KL hKL
  by_cases hlt : i < ks.length
  · obtain ⟨⟨s', o', ks'⟩, hx, hm, hd⟩ := drop_at hlt
    have e1 : decide ((i : Int) < ks.length) = true := by simp; omega
    have hw := w64s i (by omega)
    have hc := ih _ hm
    have h1 := sizes_at hx
    have h2 := sizes_take ks (i + 1)
    have hw2 : IntKind.i64.wrap (((1 + sizes (ks.take i) : Nat) : Int) + ((Shp.mk s' o' ks').size : Nat)) = ((1 + sizes (ks.take (i + 1)) : Nat) : Int) := by
      rw [w64 (by omega) (by omega), h1]; omega
    simp only [shT_mk] at hc
    repeat' (first | ((show W _ _ _ _); first | refine W.seq fun K hK => ?_ | refine W.block ?_ | ((first | refine wR ?_ | refine wD ?_ | refine W.skip ?_ | refine W.exit ?_ | refine W.ret (Post.ret ?_)); simp only [go_sem, avs_len, avs_get, hx, Shp.av, e1, hw, hw2]) | refine wT ?_ | refine wF ?_ | refine wC (fun h => ?_) (fun h => ?_)) | ((show AX _ _ _ _ _); (first | refine aP0 ?_ | refine aF0 ?_); simp only [go_sem, avs_len, avs_get, hx, Shp.av, e1, hw, hw2]) | refine iK ?_ | refine aI2 ?_ | (refine hK _ ?_; clear hK K) | clear hK K)
    refine hKL.to (i + 1) (by omega) (by omega) (Fits.fit [(0, 0)] [1, 3, 4] 1 rfl rfl ?_)
    simp only [go_sem]
    exact Fits.rfl
  · have e1 : decide ((i : Int) < ks.length) = false := by simp; omega
    have hi2 : i = ks.length := by omega
    subst hi2
    clear hKL
    repeat' (first | ((show W _ _ _ _); first | refine W.seq fun K hK => ?_ | refine W.block ?_ | ((first | refine wR ?_ | refine wD ?_ | refine W.skip ?_ | refine W.exit ?_ | refine W.ret (Post.ret ?_)); simp only [go_sem, avs_len, e1]) | refine wT ?_ | refine wF ?_ | refine wC (fun h => ?_) (fun h => ?_)) | ((show AX _ _ _ _ _); (first | refine aP0 ?_ | refine aF0 ?_); simp only [go_sem, avs_len, e1]) | refine iK ?_ | refine aI2 ?_ | (refine hK _ ?_; clear hK K) | clear hK K)
    simp

theorem Depth_c (s o : ByteArray) (ks : List Shp) (hsz : (Shp.mk s o ks).size ≤ 9223372036854775807) (ih : ∀ x ∈ ks, PCall Tryz.prog 29 [shT x] (ft (.int .i64 x.depth))) :
    PCall Tryz.prog 29 [shT (.mk s o ks)] (ft (.int .i64 (Shp.mk s o ks).depth)) := by
  have hdp := depth_le (.mk s o ks)
  simp only [Shp.size] at hsz
  simp only [Shp.size, Shp.depth] at hdp
  have hb : ks.length ≤ sizes ks := sizes_len ks
  simp only [shT, Shp.av, List.map, Shp.depth]
  refine PCall.intro (nt := 20) (rs := [.tmp 2]) Tryz.func29 rfl ⟨by kernel_rfl, by kernel_rfl, by kernel_rfl⟩ (by simp) ?_
  rintro ⟨P, w0, ok0, may, np, pblk⟩ rfl rfl
  repeat' (first | ((show W _ _ _ _); first | refine W.seq fun K hK => ?_ | refine W.block ?_ | ((first | refine wR ?_ | refine wD ?_ | refine W.skip ?_ | refine W.exit ?_ | refine W.ret (Post.ret ?_)); simp only [go_sem, avs_len]) | refine wT ?_ | refine wF ?_ | refine wC (fun h => ?_) (fun h => ?_)) | ((show AX _ _ _ _ _); (first | refine aP0 ?_ | refine aF0 ?_); simp only [go_sem, avs_len]) | refine iK ?_ | refine aI2 ?_ | (refine hK _ ?_; clear hK K) | clear hK K)
  refine W.loopF (T := fun i : Nat => { t := [(3, ft (.int .i64 (depths (ks.take i) : Nat))), (7, .c (.im (.sl 41 (avs ks)))), (8, ft (.int .i64 ks.length)), (9, ft (.int .i64 (i : Nat)))], h := [], nx := 0, ex := [], nt := 20 })
    (Inv := fun i => i ≤ ks.length) (μ := fun i => ks.length - i) (x0 := 0) (Fits.fit [] [3, 7, 8, 9] 0 rfl rfl ?_) (Nat.zero_le _) ?_
  · simp only [go_sem]
    exact Fits.rfl
  intro i hi KL hKL
  by_cases hlt : i < ks.length
  · obtain ⟨⟨s', o', ks'⟩, hx, hm, hd⟩ := drop_at hlt
    have e1 : decide ((i : Int) < ks.length) = true := by simp; omega
    have hw := w64s i (by omega)
    have hc := ih _ hm
    have h1 := depths_at hx
    simp only [shT_mk] at hc
    repeat' (first | ((show W _ _ _ _); first | refine W.seq fun K hK => ?_ | refine W.block ?_ | ((first | refine wR ?_ | refine wD ?_ | refine W.skip ?_ | refine W.exit ?_ | refine W.ret (Post.ret ?_)); simp only [go_sem, avs_len, avs_get, hx, Shp.av, e1, hw]) | refine wT ?_ | refine wF ?_ | refine wC (fun h => ?_) (fun h => ?_)) | ((show AX _ _ _ _ _); (first | refine aP0 ?_ | refine aF0 ?_); simp only [go_sem, avs_len, avs_get, hx, Shp.av, e1, hw]) | refine iK ?_ | refine aI2 ?_ | (refine hK _ ?_; clear hK K) | clear hK K)
    refine hKL.to (i + 1) (by omega) (by omega) (Fits.fit [] [3, 7, 8, 9] 0 rfl rfl ?_)
    simp only [go_sem, h1, max_if]
    exact Fits.rfl
  · have e1 : decide ((i : Int) < ks.length) = false := by simp; omega
    have hi2 : i = ks.length := by omega
    subst hi2
    clear hKL
    have hw : IntKind.i64.wrap ((depths ks : Int) + 1) = ((depths ks + 1 : Nat) : Int) := w64s _ (by omega)
    repeat' (first | ((show W _ _ _ _); first | refine W.seq fun K hK => ?_ | refine W.block ?_ | ((first | refine wR ?_ | refine wD ?_ | refine W.skip ?_ | refine W.exit ?_ | refine W.ret (Post.ret ?_)); simp only [go_sem, avs_len, e1, List.take_length, hw]) | refine wT ?_ | refine wF ?_ | refine wC (fun h => ?_) (fun h => ?_)) | ((show AX _ _ _ _ _); (first | refine aP0 ?_ | refine aF0 ?_); simp only [go_sem, avs_len, e1, List.take_length, hw]) | refine iK ?_ | refine aI2 ?_ | (refine hK _ ?_; clear hK K) | clear hK K)

end Go.Proofs.YtegcmciglakicaaGreat
namespace Go.Proofs.YtegcmciglakicaaGreat
open Go.RowKit Go.Exe
set_option linter.unusedVariables false
set_option linter.unusedSimpArgs false
set_option maxHeartbeats 1000000
set_option maxRecDepth 100000

theorem Compare_c (c12 : ∀ x : Shp, PCall Tryz.prog 26 [shT x] (shT x.canon)) (c34 : ∀ x y : Shp, PCall Tryz.prog 37 [shT x, shT y] (ft (.int .i64 (x.cmp y)))) (x y : Shp) :
    PCall Tryz.prog 58 [shT x, shT y] (ft (.int .i64 (x.canon.cmp y.canon))) := by
  obtain ⟨s, o, ks⟩ := x
  obtain ⟨s', o', ks'⟩ := y
  have c1 := c12 (.mk s o ks)
  have c2 := c12 (.mk s' o' ks')
  have c3 := c34 (Shp.canon (.mk s o ks)) (Shp.canon (.mk s' o' ks'))
  simp only [Shp.canon, shT_mk] at c1 c2 c3 ⊢
  refine PCall.intro (nt := 10) (rs := [.tmp 4]) Tryz.func58 rfl ⟨by kernel_rfl, by kernel_rfl, by kernel_rfl⟩ (by simp) ?_
  rintro ⟨P, w0, ok0, may, np, pblk⟩ rfl rfl
  repeat' (first | ((show W _ _ _ _); first | refine W.seq fun K hK => ?_ | refine W.block ?_ | ((first | refine wR ?_ | refine wD ?_ | refine W.skip ?_ | refine W.exit ?_ | refine W.ret (Post.ret ?_)); simp only [go_sem]) | refine wT ?_ | refine wF ?_ | refine wC (fun h => ?_) (fun h => ?_)) | ((show AX _ _ _ _ _); (first | refine aP0 ?_ | refine aF0 ?_); simp only [go_sem]) | refine iK ?_ | refine aI2 ?_ | (refine hK _ ?_; clear hK K) | clear hK K)
theorem Equal_c (c10 : ∀ x y : Shp, PCall Tryz.prog 58 [shT x, shT y] (ft (.int .i64 (x.canon.cmp y.canon)))) (x y : Shp) :
    PCall Tryz.prog 30 [shT x, shT y] (ft (.bool (x.canon.cmp y.canon == 0))) := by
  obtain ⟨s, o, ks⟩ := x
  obtain ⟨s', o', ks'⟩ := y
  have c1 := c10 (.mk s o ks) (.mk s' o' ks')
  simp only [shT_mk] at c1 ⊢
  refine PCall.intro (nt := 9) (rs := [.tmp 4]) Tryz.func30 rfl ⟨by kernel_rfl, by kernel_rfl, by kernel_rfl⟩ (by simp) ?_
  rintro ⟨P, w0, ok0, may, np, pblk⟩ rfl rfl
  repeat' (first | ((show W _ _ _ _); first | refine W.seq fun K hK => ?_ | refine W.block ?_ | ((first | refine wR ?_ | refine wD ?_ | refine W.skip ?_ | refine W.exit ?_ | refine W.ret (Post.ret ?_)); simp only [go_sem]) | refine wT ?_ | refine wF ?_ | refine wC (fun h => ?_) (fun h => ?_)) | ((show AX _ _ _ _ _); (first | refine aP0 ?_ | refine aF0 ?_); simp only [go_sem]) | refine iK ?_ | refine aI2 ?_ | (refine hK _ ?_; clear hK K) | clear hK K)
mutual
def Shp.same : Shp → Shp → Bool
  | .mk s o ks, .mk s' o' ks' => s.toList == s'.toList && o.toList == o'.toList && sames ks ks'
def sames : List Shp → List Shp → Bool
  | [], [] => true
  | [], _ :: _ => false
  | _ :: _, [] => false
  | x :: r, y :: q => x.same y && sames r q
end
theorem sames_len : ∀ {a b : List Shp}, a.length ≠ b.length → sames a b = false
  | [], [], h => absurd rfl h
  | [], _ :: _, _ => by simp [sames]
  | _ :: _, [], _ => by simp [sames]
  | x :: r, y :: q, h => by simp [sames, sames_len (a := r) (b := q) (by simpa using h)]
theorem same_c (s o s' o' : ByteArray) (ks ks' : List Shp) (ih : ∀ x ∈ ks, ∀ y ∈ ks', PCall Tryz.prog 11 [shT x, shT y] (ft (.bool (x.same y)))) :
    PCall Tryz.prog 11 [shT (.mk s o ks), shT (.mk s' o' ks')] (ft (.bool (Shp.same (.mk s o ks) (.mk s' o' ks')))) := by
  simp only [shT, Shp.av, List.map, Shp.same]
  refine PCall.intro (nt := 46) (rs := [.tmp 4]) Tryz.func11 rfl ⟨by kernel_rfl, by kernel_rfl, by kernel_rfl⟩ (by simp) ?_
  rintro ⟨P, w0, ok0, may, np, pblk⟩ rfl rfl
  cases h1 : (s.toList == s'.toList)
  · repeat' (first | ((show W _ _ _ _); first | refine W.seq fun K hK => ?_ | refine W.block ?_ | ((first | refine wR ?_ | refine wD ?_ | refine W.skip ?_ | refine W.exit ?_ | refine W.ret (Post.ret ?_)); simp only [go_sem, avs_len, h1]) | refine wT ?_ | refine wF ?_ | refine wC (fun h => ?_) (fun h => ?_)) | ((show AX _ _ _ _ _); (first | refine aP0 ?_ | refine aF0 ?_); simp only [go_sem, avs_len, h1]) | refine iK ?_ | refine aI2 ?_ | (refine hK _ ?_; clear hK K) | clear hK K)
  cases h2 : (o.toList == o'.toList)
  · repeat' (first | ((show W _ _ _ _); first | refine W.seq fun K hK => ?_ | refine W.block ?_ | ((first | refine wR ?_ | refine wD ?_ | refine W.skip ?_ | refine W.exit ?_ | refine W.ret (Post.ret ?_)); simp only [go_sem, avs_len, h1, h2]) | refine wT ?_ | refine wF ?_ | refine wC (fun h => ?_) (fun h => ?_)) | ((show AX _ _ _ _ _); (first | refine aP0 ?_ | refine aF0 ?_); simp only [go_sem, avs_len, h1, h2]) | refine iK ?_ | refine aI2 ?_ | (refine hK _ ?_; clear hK K) | clear hK K)
  by_cases h3 : ks.length = ks'.length
  rotate_left
  · have h4 : ((ks.length : Int) != (ks'.length : Int)) = true := by simp; omega
    repeat' (first | ((show W _ _ _ _); first | refine W.seq fun K hK => ?_ | refine W.block ?_ | ((first | refine wR ?_ | refine wD ?_ | refine W.skip ?_ | refine W.exit ?_ | refine W.ret (Post.ret ?_)); simp only [go_sem, avs_len, h1, h2, h4]) | refine wT ?_ | refine wF ?_ | refine wC (fun h => ?_) (fun h => ?_)) | ((show AX _ _ _ _ _); (first | refine aP0 ?_ | refine aF0 ?_); simp only [go_sem, avs_len, h1, h2, h4]) | refine iK ?_ | refine aI2 ?_ | (refine hK _ ?_; clear hK K) | clear hK K)
    simp [sames_len h3]
  have h4 : ((ks.length : Int) != (ks'.length : Int)) = false := by simp [h3]
  repeat' (first | ((show W _ _ _ _); first | refine W.seq fun K hK => ?_ | refine W.block ?_ | ((first | refine wR ?_ | refine wD ?_ | refine W.skip ?_ | refine W.exit ?_ | refine W.ret (Post.ret ?_)); simp only [go_sem, avs_len, h1, h2, h4]) | refine wT ?_ | refine wF ?_ | refine wC (fun h => ?_) (fun h => ?_)) | ((show AX _ _ _ _ _); (first | refine aP0 ?_ | refine aF0 ?_); simp only [go_sem, avs_len, h1, h2, h4]) | refine iK ?_ | refine aI2 ?_ | (refine hK _ ?_; clear hK K) | clear hK K)
  refine W.lenB 20 rfl tE41 fun hlen hbytes => ?_
  rw [avs_len, maxLen_is] at hlen
  refine W.loopF (T := fun i : Nat => { t := [(2, .c (.ptr 0 0)), (3, .c (.ptr 1 0)), (4, ft (.bool false)), (5, ft (.int .i64 (i : Nat)))], h := [(0, .box 41 [fl (.string s), fl (.string o), .im (.sl 41 (avs ks))]), (1, .box 41 [fl (.string s'), fl (.string o'), .im (.sl 41 (avs ks'))])], nx := 2, ex := [], nt := 46 })
    (Inv := fun i => i ≤ ks.length ∧ sames ks ks' = sames (ks.drop i) (ks'.drop i)) (μ := fun i => ks.length - i) (x0 := 0) (Fits.fit [(0, 0), (1, 1)] [2, 3, 4, 5] 2 rfl rfl ?_) ⟨Nat.zero_le _, rfl⟩ ?_
  · simp only [go_sem]
    exact Fits.rfl
  rintro i ⟨hi, hinv⟩ KL hKL
  by_cases hlt : i < ks.length
  · obtain ⟨⟨s1, o1, ks1⟩, hx, hm, hd⟩ := drop_at hlt
    obtain ⟨⟨s2, o2, ks2⟩, hx', hm', hd'⟩ := drop_at (show i < ks'.length by omega)
    have e1 : decide ((i : Int) < ks.length) = true := by simp; omega
    have hw := w64s i (by omega)
    have hc := ih _ hm _ hm'
    simp only [shT_mk] at hc
    repeat' (first | ((show W _ _ _ _); first | refine W.seq fun K hK => ?_ | refine W.block ?_ | ((first | refine wR ?_ | refine wD ?_ | refine W.skip ?_ | refine W.exit ?_ | refine W.ret (Post.ret ?_)); simp only [go_sem, avs_len, avs_get, hx, hx', Shp.av, e1, hw]) | refine wT ?_ | refine wF ?_ | refine wC (fun h => ?_) (fun h => ?_)) | ((show AX _ _ _ _ _); (first | refine aP0 ?_ | refine aF0 ?_); simp only [go_sem, avs_len, avs_get, hx, hx', Shp.av, e1, hw]) | refine iK ?_ | refine aI2 ?_ | (refine hK _ ?_; clear hK K) | clear hK K)
    · simp at h
      simp [hinv, hd, hd', sames, h]
    · refine hKL.to (i + 1) ⟨by omega, ?_⟩ (by omega) (Fits.fit [(0, 0), (1, 1)] [2, 3, 4, 5] 2 rfl rfl ?_)
      · simp at h
        simp [hinv, hd, hd', sames, h]
      · simp only [go_sem]
        exact Fits.rfl
  · have e1 : decide ((i : Int) < ks.length) = false := by simp; omega
    have hd : ks.drop i = [] := List.drop_eq_nil_of_le (by omega)
    have hd' : ks'.drop i = [] := List.drop_eq_nil_of_le (by omega)
    clear hKL
    repeat' (first | ((show W _ _ _ _); first | refine W.seq fun K hK => ?_ | refine W.block ?_ | ((first | refine wR ?_ | refine wD ?_ | refine W.skip ?_ | refine W.exit ?_ | refine W.ret (Post.ret ?_)); simp only [go_sem, avs_len, e1]) | refine wT ?_ | refine wF ?_ | refine wC (fun h => ?_) (fun h => ?_)) | ((show AX _ _ _ _ _); (first | refine aP0 ?_ | refine aF0 ?_); simp only [go_sem, avs_len, e1]) | refine iK ?_ | refine aI2 ?_ | (refine hK _ ?_; clear hK K) | clear hK K)
    simp [hinv, hd, hd', sames]
end Go.Proofs.YtegcmciglakicaaGreat
namespace Go.Proofs.YtegcmciglakicaaGreat
open Go.RowKit Go.Exe
set_option linter.unusedVariables false
set_option linter.unusedSimpArgs false
set_option maxHeartbeats 1000000
set_option maxRecDepth 100000

def sgn (n : Int) : Int := if n < 0 then -1 else if n > 0 then 1 else 0
theorem sign_c (n : Int) : PCall Tryz.prog 55 [ft (.int .i64 n)] (ft (.int .i64 (sgn n))) := by
  refine PCall.intro (nt := 6) (rs := [.tmp 2]) Tryz.func55 rfl ⟨by kernel_rfl, by kernel_rfl, by kernel_rfl⟩ (by simp) ?_
  rintro ⟨P, w0, ok0, may, np, pblk⟩ rfl rfl
  repeat' (first | ((show W _ _ _ _); first | refine W.seq fun K hK => ?_ | refine W.block ?_ | ((first | refine wR ?_ | refine wD ?_ | refine W.skip ?_ | refine W.exit ?_ | refine W.ret (Post.ret ?_)); simp only [go_sem]) | refine wT ?_ | refine wF ?_ | refine wC (fun h => ?_) (fun h => ?_)) | ((show AX _ _ _ _ _); (first | refine aP0 ?_ | refine aF0 ?_); simp only [go_sem]) | refine iK ?_ | refine aI2 ?_ | (refine hK _ ?_; clear hK K) | clear hK K)
  congr 5
  simp only [sgn]
  split <;> split <;> (try split) <;> omega
theorem mcompare_c (c37 : ∀ n : Int, PCall Tryz.prog 55 [ft (.int .i64 n)] (ft (.int .i64 (sgn n)))) (c36 : ∀ a b : ByteArray, PCall Tryz.prog 54 [ft (.string a), ft (.string b)] (ft (.int .i64 (cmpB a b))))
    (s o s' o' : ByteArray) (ks ks' : List Shp) (ih : ∀ x ∈ ks, ∀ y ∈ ks', PCall Tryz.prog 24 [shT x, shT y] (ft (.int .i64 (x.cmp y)))) :
    PCall Tryz.prog 24 [shT (.mk s o ks), shT (.mk s' o' ks')] (ft (.int .i64 (Shp.cmp (.mk s o ks) (.mk s' o' ks')))) := by
  simp only [shT, Shp.av, List.map, Shp.cmp, cmps_by]
  have hor : ∀ K : Int, (if orL [cmpB s s', cmpB o o'] ≠ 0 then orL [cmpB s s', cmpB o o'] else K) = if cmpB s s' ≠ 0 then cmpB s s' else if cmpB o o' ≠ 0 then cmpB o o' else K := by
    intro K
    by_cases h1 : cmpB s s' = 0 <;> by_cases h2 : cmpB o o' = 0 <;> simp [orL, h1, h2]
  rw [hor]
  refine PCall.intro (nt := 61) (rs := [.tmp 4]) Tryz.func24 rfl ⟨by kernel_rfl, by kernel_rfl, by kernel_rfl⟩ (by simp) ?_
  rintro ⟨P, w0, ok0, may, np, pblk⟩ rfl rfl
  by_cases h1 : cmpB s s' = 0
  rotate_left
  · have h1' : (cmpB s s' != 0) = true := by simp [h1]
    repeat' (first | ((show W _ _ _ _); first | refine W.seq fun K hK => ?_ | refine W.block ?_ | ((first | refine wR ?_ | refine wD ?_ | refine W.skip ?_ | refine W.exit ?_ | refine W.ret (Post.ret ?_)); simp only [go_sem, avs_len, h1']) | refine wT ?_ | refine wF ?_ | refine wC (fun h => ?_) (fun h => ?_)) | ((show AX _ _ _ _ _); (first | refine aP0 ?_ | refine aF0 ?_); simp only [go_sem, avs_len, h1']) | refine iK ?_ | refine aI2 ?_ | (refine hK _ ?_; clear hK K) | clear hK K)
    simp [h1]
  by_cases h2 : cmpB o o' = 0
  rotate_left
  · have h1' : (cmpB s s' != 0) = false := by simp [h1]
    have h2' : (cmpB o o' != 0) = true := by simp [h2]
    repeat' (first | ((show W _ _ _ _); first | refine W.seq fun K hK => ?_ | refine W.block ?_ | ((first | refine wR ?_ | refine wD ?_ | refine W.skip ?_ | refine W.exit ?_ | refine W.ret (Post.ret ?_)); simp only [go_sem, avs_len, h1', h2']) | refine wT ?_ | refine wF ?_ | refine wC (fun h => ?_) (fun h => ?_)) | ((show AX _ _ _ _ _); (first | refine aP0 ?_ | refine aF0 ?_); simp only [go_sem, avs_len, h1', h2']) | refine iK ?_ | refine aI2 ?_ | (refine hK _ ?_; clear hK K) | clear hK K)
    simp [h1, h2]
  have h1' : (cmpB s s' != 0) = false := by simp [h1]
  have h2' : (cmpB o o' != 0) = false := by simp [h2]
  simp only [h1, h2, ne_eq, not_true_eq_false, if_false]
  repeat' (first | ((show W _ _ _ _); first | refine W.seq fun K hK => ?_ | refine W.block ?_ | ((first | refine wR ?_ | refine wD ?_ | refine W.skip ?_ | refine W.exit ?_ | refine W.ret (Post.ret ?_)); simp only [go_sem, avs_len, h1', h2']) | refine wT ?_ | refine wF ?_ | refine wC (fun h => ?_) (fun h => ?_)) | ((show AX _ _ _ _ _); (first | refine aP0 ?_ | refine aF0 ?_); simp only [go_sem, avs_len, h1', h2']) | refine iK ?_ | refine aI2 ?_ | (refine hK _ ?_; clear hK K) | clear hK K)
  refine W.lenX 0 2 rfl rfl tE41 fun hlen hbytes => ?_
  refine W.lenX 1 2 rfl rfl tE41 fun hlen' hbytes' => ?_
  rw [avs_len, maxLen_is] at hlen hlen'
  refine W.loopF (T := fun i : Nat => { t := [(2, .c (.ptr 0 0)), (3, .c (.ptr 1 0)), (4, ft (.int .i64 0)), (7, ft (.int .i64 (i : Nat)))], h := [(0, .box 41 [fl (.string s), fl (.string o), .im (.sl 41 (avs ks))]), (1, .box 41 [fl (.string s'), fl (.string o'), .im (.sl 41 (avs ks'))])], nx := 2, ex := [], nt := 61 })
    (Inv := fun i => i ≤ ks.length ∧ i ≤ ks'.length ∧ cmpsBy Shp.cmp ks ks' = cmpsBy Shp.cmp (ks.drop i) (ks'.drop i)) (μ := fun i => ks.length - i) (x0 := 0) (Fits.fit [(0, 0), (1, 1)] [2, 3, 4, 7] 2 rfl rfl ?_) ⟨Nat.zero_le _, Nat.zero_le _, rfl⟩ ?_
  · simp only [go_sem]
    exact Fits.rfl
  rintro i ⟨hi, hi', hinv⟩ KL hKL
  have hw := w64s i
  by_cases hlt : i < ks.length
  rotate_left
  · have e1 : decide ((i : Int) < ks.length) = false := by simp; omega
    have hsub : IntKind.i64.wrap ((ks.length : Int) - ks'.length) = (ks.length : Int) - ks'.length := w64 (by omega) (by omega)
    have hd : ks.drop i = [] := List.drop_eq_nil_of_le (by omega)
    clear hKL
    repeat' (first | ((show W _ _ _ _); first | refine W.seq fun K hK => ?_ | refine W.block ?_ | ((first | refine wR ?_ | refine wD ?_ | refine W.skip ?_ | refine W.exit ?_ | refine W.ret (Post.ret ?_)); simp only [go_sem, avs_len, e1, hsub]) | refine wT ?_ | refine wF ?_ | refine wC (fun h => ?_) (fun h => ?_)) | ((show AX _ _ _ _ _); (first | refine aP0 ?_ | refine aF0 ?_); simp only [go_sem, avs_len, e1, hsub]) | refine iK ?_ | refine aI2 ?_ | (refine hK _ ?_; clear hK K) | clear hK K)
    rw [hinv, hd]
    by_cases h5 : ks'.length = i
    · rw [List.drop_eq_nil_of_le (by omega)]
      simp [cmpsBy, sgn, show ks.length = ks'.length by omega]
    · obtain ⟨x, _, _, h6⟩ := drop_at (show i < ks'.length by omega)
      rw [h6]
      simp [cmpsBy, sgn, show (ks.length : Int) - ks'.length < 0 by omega]
  obtain ⟨⟨s1, o1, ks1⟩, hx, hm, hd⟩ := drop_at hlt
  have e1 : decide ((i : Int) < ks.length) = true := by simp; omega
  have hw := hw (by omega)
  by_cases hlt' : i < ks'.length
  rotate_left
  · have e2 : decide ((i : Int) < ks'.length) = false := by simp; omega
    have hsub : IntKind.i64.wrap ((ks.length : Int) - ks'.length) = (ks.length : Int) - ks'.length := w64 (by omega) (by omega)
    clear hKL
    repeat' (first | ((show W _ _ _ _); first | refine W.seq fun K hK => ?_ | refine W.block ?_ | ((first | refine wR ?_ | refine wD ?_ | refine W.skip ?_ | refine W.exit ?_ | refine W.ret (Post.ret ?_)); simp only [go_sem, avs_len, e1, e2, hsub]) | refine wT ?_ | refine wF ?_ | refine wC (fun h => ?_) (fun h => ?_)) | ((show AX _ _ _ _ _); (first | refine aP0 ?_ | refine aF0 ?_); simp only [go_sem, avs_len, e1, e2, hsub]) | refine iK ?_ | refine aI2 ?_ | (refine hK _ ?_; clear hK K) | clear hK K)
    rw [hinv, hd, List.drop_eq_nil_of_le (show ks'.length ≤ i by omega)]
    simp [cmpsBy, sgn, show ¬ (ks.length : Int) - ks'.length < 0 by omega, show 0 < (ks.length : Int) - ks'.length by omega]
    omega
  obtain ⟨⟨s2, o2, ks2⟩, hx', hm', hd'⟩ := drop_at hlt'
  have e2 : decide ((i : Int) < ks'.length) = true := by simp; omega
  have hc := ih _ hm _ hm'
  simp only [shT_mk] at hc
  repeat' (first | ((show W _ _ _ _); first | refine W.seq fun K hK => ?_ | refine W.block ?_ | ((first | refine wR ?_ | refine wD ?_ | refine W.skip ?_ | refine W.exit ?_ | refine W.ret (Post.ret ?_)); simp only [go_sem, avs_len, avs_get, hx, hx', Shp.av, e1, e2, hw]) | refine wT ?_ | refine wF ?_ | refine wC (fun h => ?_) (fun h => ?_)) | ((show AX _ _ _ _ _); (first | refine aP0 ?_ | refine aF0 ?_); simp only [go_sem, avs_len, avs_get, hx, hx', Shp.av, e1, e2, hw]) | refine iK ?_ | refine aI2 ?_ | (refine hK _ ?_; clear hK K) | clear hK K)
  · simp at h
    simp [hinv, hd, hd', cmpsBy, h]
  · refine hKL.to (i + 1) ⟨by omega, by omega, ?_⟩ (by omega) (Fits.fit [(0, 0), (1, 1)] [2, 3, 4, 7] 2 rfl rfl ?_)
    · simp at h
      simp [hinv, hd, hd', cmpsBy, h]
    · simp only [go_sem]
      exact Fits.rfl
end Go.Proofs.YtegcmciglakicaaGreat
namespace Go.Proofs.YtegcmciglakicaaGreat
open Go.RowKit Go.Exe
set_option linter.unusedVariables false
set_option linter.unusedSimpArgs false
set_option maxHeartbeats 1000000
set_option maxRecDepth 100000

def posR (c : Shp) (l : List Shp) : Nat → Nat
  | 0 => 0
  | n + 1 => match l[n]? with
    | some x => if x.cmp c > 0 then posR c l n else n + 1
    | none => n + 1
def insM (c : Shp) (l : List Shp) : List Shp := l.take (posR c l l.length) ++ [c] ++ l.drop (posR c l l.length)
theorem posR_le (c : Shp) (l : List Shp) : ∀ n, posR c l n ≤ n
  | 0 => Nat.le_refl _
  | n + 1 => by
    unfold posR
    split
    · split
      · exact Nat.le_succ_of_le (posR_le c l n)
      · exact Nat.le_refl _
    · exact Nat.le_refl _
theorem insM_len (c : Shp) (l : List Shp) : (insM c l).length = l.length + 1 := by
  have := posR_le c l l.length
  simp [insM]; omega
mutual
def Shp.mcanon : Shp → Shp
  | .mk s o ks => .mk s o (mcanons [] ks)
def mcanons (acc : List Shp) : List Shp → List Shp
  | [] => acc
  | x :: r => mcanons (insM x.mcanon acc) r
end
theorem mcanons_app : ∀ (a b acc : List Shp), mcanons acc (a ++ b) = mcanons (mcanons acc a) b
  | [], b, acc => by simp [mcanons]
  | x :: r, b, acc => by simp [mcanons, mcanons_app r b]
theorem mcanons_at {l : List Shp} {i : Nat} {x : Shp} (h : l[i]? = some x) (acc : List Shp) : mcanons acc (l.take (i + 1)) = insM x.mcanon (mcanons acc (l.take i)) := by
  rw [take_at h, mcanons_app]; simp [mcanons]
theorem mcanons_len : ∀ (l acc : List Shp), (mcanons acc l).length = acc.length + l.length
  | [], acc => by simp [mcanons]
  | x :: r, acc => by simp [mcanons, mcanons_len r, insM_len]; omega
theorem mcanonical_c (c14 : ∀ x y : Shp, PCall Tryz.prog 24 [shT x, shT y] (ft (.int .i64 (x.cmp y))))
    (s o : ByteArray) (ks : List Shp) (ih : ∀ x ∈ ks, PCall Tryz.prog 40 [shT x] (shT x.mcanon)) :
    PCall Tryz.prog 40 [shT (.mk s o ks)] (shT (Shp.mcanon (.mk s o ks))) := by
  simp only [shT, Shp.av, List.map, Shp.mcanon]
  refine PCall.intro (nt := 59) (rs := [.cell 2 41]) Tryz.func40 rfl ⟨by kernel_rfl, by kernel_rfl, by kernel_rfl⟩ (by simp) ?_
  rintro ⟨P, w0, ok0, may, np, pblk⟩ rfl rfl
  repeat' (first | ((show W _ _ _ _); first | refine W.seq fun K hK => ?_ | refine W.block ?_ | ((first | refine wR ?_ | refine wD ?_ | refine W.skip ?_ | refine W.exit ?_ | refine W.ret (Post.ret ?_)); simp only [go_sem]) | refine wT ?_ | refine wF ?_ | refine wC (fun h => ?_) (fun h => ?_)) | ((show AX _ _ _ _ _); (first | refine aP0 ?_ | refine aF0 ?_); simp only [go_sem]) | refine iK ?_ | refine aI2 ?_ | (refine hK _ ?_; clear hK K) | clear hK K)
  refine W.lenX 0 2 rfl rfl tE41 fun hlen hbytes => ?_
  rw [avs_len] at hbytes
  rw [avs_len, maxLen_is] at hlen
  refine W.loopF (T := fun i : Nat => { t := [(1, .c (.ptr 0 0)), (2, .c (.ptr 1 0)), (3, .c (.ptr 2 0)), (4, ft (.int .i64 (i : Nat)))], h := [(0, .box 41 [fl (.string s), fl (.string o), .im (.sl 41 (avs ks))]), (1, .box 41 [fl (.string .empty), fl (.string .empty), fl (.slice none 0 0)]), (2, .box 41 [fl (.string s), fl (.string o), .ref 3]), (3, .row 41 (imR ((mcanons [] (ks.take i)).map Shp.av)))], nx := 4, ex := [], nt := 59 })
    (Inv := fun i => i ≤ ks.length) (μ := fun i => ks.length - i) (x0 := 0) (Fits.fit [(0, 0), (1, 1), (7, 2)] [1, 2, 3, 4] 3 rfl rfl ?_) (Nat.zero_le _) ?_
  · simp only [go_sem]
    refine Fits.adoptB 2 41 _ 2 3 41 rfl rfl rfl rfl tE41 rfl ?_
    simp only [go_sem]
    refine Fits.fit [(0, 0), (1, 1), (2, 2), (3, 3)] [1, 2, 3, 4] 4 rfl rfl ?_
    simp only [go_sem]
    exact Fits.rfl
  intro i hi KL hKL
  by_cases hlt : i < ks.length
  rotate_left
  · have e1 : decide ((i : Int) < ks.length) = false := by simp; omega
    have hi2 : i = ks.length := by omega
    subst hi2
    clear hKL
    repeat' (first | ((show W _ _ _ _); first | refine W.seq fun K hK => ?_ | refine W.block ?_ | ((first | refine wR ?_ | refine wD ?_ | refine W.skip ?_ | refine W.exit ?_ | refine W.ret (Post.ret ?_)); simp only [go_sem, avs_len, e1]) | refine wT ?_ | refine wF ?_ | refine wC (fun h => ?_) (fun h => ?_)) | ((show AX _ _ _ _ _); (first | refine aP0 ?_ | refine aF0 ?_); simp only [go_sem, avs_len, e1]) | refine iK ?_ | refine aI2 ?_ | (refine hK _ ?_; clear hK K) | clear hK K)
    simp [avs_map]
  obtain ⟨⟨s', o', ks'⟩, hx, hm, hd⟩ := drop_at hlt
  have e1 : decide ((i : Int) < ks.length) = true := by simp; omega
  have hw := w64s i (by omega)
  have hc := ih _ hm
  have hcm := c14
  have hat := mcanons_at hx []
  have hl := mcanons_len (ks.take i) []
  rw [List.length_take, Nat.min_eq_left hi, List.length_nil, Nat.zero_add] at hl
  simp only [shT_mk, Shp.mcanon] at hc hat
  generalize hacc : mcanons [] (ks.take i) = acc at hat hl ⊢
  generalize hcc : mcanons [] ks' = cs at hc hat
  repeat' (first | ((show W _ _ _ _); first | refine W.seq fun K hK => ?_ | refine W.block ?_ | ((first | refine wR ?_ | refine wD ?_ | refine W.skip ?_ | refine W.exit ?_ | refine W.ret (Post.ret ?_)); simp only [go_sem, avs_len, avs_get, hx, Shp.av, e1, hw]) | refine wT ?_ | refine wF ?_ | refine wC (fun h => ?_) (fun h => ?_)) | ((show AX _ _ _ _ _); (first | refine aP0 ?_ | refine aF0 ?_); simp only [go_sem, avs_len, avs_get, hx, Shp.av, e1, hw]) | refine iK ?_ | refine aI2 ?_ | (refine hK _ ?_; clear hK K) | clear hK K)
  have hK2 : ∀ k : Nat, k ≤ acc.length → posR (.mk s' o' cs) acc acc.length = k → ∀ s1 : St, Fits ⟨Tryz.prog, w0, ok0, may, 0, pblk⟩ s1 { t := [(1, .c (.ptr 0 0)), (2, .c (.ptr 1 0)), (3, .c (.ptr 2 0)), (4, ft (.int .i64 (i : Nat))), (5, .c (.ptr 4 0)), (6, ft (.int .i64 (k : Nat)))], h := [(0, .box 41 [fl (.string s), fl (.string o), .im (.sl 41 (avs ks))]), (1, .box 41 [fl (.string .empty), fl (.string .empty), fl (.slice none 0 0)]), (2, .box 41 [fl (.string s), fl (.string o), .ref 3]), (3, .row 41 (imR (acc.map Shp.av))), (4, .box 41 [fl (.string s'), fl (.string o'), .im (.sl 41 (avs cs))])], nx := 5, ex := [], nt := 59 } → K s1 := by
    intro k hk hpos s1 hf
    refine hK _ (W.fits hf ?_); clear hK K
    have f1 : decide (k ≤ acc.length) = true := by simp; omega
    have f2 : decide (k + (acc.length - k) ≤ acc.length) = true := by simp; omega
    have f3 : List.take (acc.length - k) (List.drop k (List.map Shp.av acc)) = List.drop k (List.map Shp.av acc) := List.take_of_length_le (by simp)
    repeat' (first | ((show W _ _ _ _); first | refine W.seq fun K hK => ?_ | refine W.block ?_ | ((first | refine wR ?_ | refine wD ?_ | refine W.skip ?_ | refine W.exit ?_ | refine W.ret (Post.ret ?_)); simp only [go_sem, avs_len, f1, f2, f3, hw, Nat.sub_zero]) | refine wT ?_ | refine wF ?_ | refine wC (fun h => ?_) (fun h => ?_)) | ((show AX _ _ _ _ _); (first | refine aP0 ?_ | refine aF0 ?_); simp only [go_sem, avs_len, f1, f2, f3, hw, Nat.sub_zero]) | refine iK ?_ | refine aI2 ?_ | (refine hK _ ?_; clear hK K) | clear hK K)
    refine hKL.to (i + 1) (by omega) (by omega) (Fits.fit [(0, 0), (1, 1), (2, 2), (18, 3)] [1, 2, 3, 4] 4 rfl rfl ?_)
    simp only [go_sem, hat, insM, hpos, List.map_append, List.map_take, List.map_drop, imR_app, imR_one, imL, Shp.av]
    exact Fits.rfl
  refine W.loopF (T := fun k : Nat => { t := [(1, .c (.ptr 0 0)), (2, .c (.ptr 1 0)), (3, .c (.ptr 2 0)), (4, ft (.int .i64 (i : Nat))), (5, .c (.ptr 4 0)), (6, ft (.int .i64 (k : Nat)))], h := [(0, .box 41 [fl (.string s), fl (.string o), .im (.sl 41 (avs ks))]), (1, .box 41 [fl (.string .empty), fl (.string .empty), fl (.slice none 0 0)]), (2, .box 41 [fl (.string s), fl (.string o), .ref 3]), (3, .row 41 (imR (acc.map Shp.av))), (4, .box 41 [fl (.string s'), fl (.string o'), .im (.sl 41 (avs cs))])], nx := 5, ex := [], nt := 59 })
    (Inv := fun k => k ≤ acc.length ∧ posR (.mk s' o' cs) acc acc.length = posR (.mk s' o' cs) acc k) (μ := fun k => k) (x0 := acc.length) (Fits.fit [(0, 0), (1, 1), (2, 2), (3, 3), (15, 4)] [1, 2, 3, 4, 5, 6] 5 rfl rfl ?_) ⟨Nat.le_refl _, rfl⟩ ?_
  · simp only [go_sem]
    exact Fits.rfl
  rintro k ⟨hk, hinv⟩ KL2 hKL2
  rcases k with _ | n
  · have e3 : decide (((0 : Nat) : Int) > 0) = false := by simp
    clear hK
    repeat' (first | ((show W _ _ _ _); first | refine W.seq fun K hK => ?_ | refine W.block ?_ | ((first | refine wR ?_ | refine wD ?_ | refine W.skip ?_ | refine W.exit ?_ | refine W.ret (Post.ret ?_)); simp only [go_sem, avs_len, e3]) | refine wT ?_ | refine wF ?_ | refine wC (fun h => ?_) (fun h => ?_)) | ((show AX _ _ _ _ _); (first | refine aP0 ?_ | refine aF0 ?_); simp only [go_sem, avs_len, e3]) | refine iK ?_ | refine aI2 ?_ | (refine hK _ ?_; clear hK K) | clear hK K)
    refine hK2 0 (Nat.zero_le _) (by rw [hinv]; rfl) _ (Fits.fit [(0, 0), (1, 1), (2, 2), (3, 3), (4, 4)] [1, 2, 3, 4, 5, 6] 5 rfl rfl ?_)
    simp only [go_sem]
    exact Fits.rfl
  obtain ⟨⟨s2, o2, ks2⟩, hx2, hm2, hd2⟩ := drop_at (show n < acc.length by omega)
  have e3 : decide (((n + 1 : Nat) : Int) > 0) = true := by simp
  have e4 : IntKind.i64.wrap (((n + 1 : Nat) : Int) - 1) = (n : Int) := by rw [w64 (by omega) (by omega)]; omega
  have e5 : decide (n < acc.length) = true := by simp; omega
  have hc2 := c14 (.mk s2 o2 ks2) (.mk s' o' cs)
  simp only [shT_mk] at hc2
  clear hK
  repeat' (first | ((show W _ _ _ _); first | refine W.seq fun K hK => ?_ | refine W.block ?_ | ((first | refine wR ?_ | refine wD ?_ | refine W.skip ?_ | refine W.exit ?_ | refine W.ret (Post.ret ?_)); simp only [go_sem, avs_len, e3, e4, e5, hx2, Shp.av, imL, List.getElem?_map]) | refine wT ?_ | refine wF ?_ | refine wC (fun h => ?_) (fun h => ?_)) | ((show AX _ _ _ _ _); (first | refine aP0 ?_ | refine aF0 ?_); simp only [go_sem, avs_len, e3, e4, e5, hx2, Shp.av, imL, List.getElem?_map]) | refine iK ?_ | refine aI2 ?_ | (refine hK _ ?_; clear hK K) | clear hK K)
  · refine hKL2.to n ⟨by omega, ?_⟩ (by simp) (Fits.fit [(0, 0), (1, 1), (2, 2), (3, 3), (4, 4)] [1, 2, 3, 4, 5, 6] 5 rfl rfl ?_)
    · simp at h
      rw [hinv]
      simp [posR, hx2, h]
    · simp only [go_sem]
      exact Fits.rfl
  · refine hK2 (n + 1) (by omega) ?_ _ (Fits.fit [(0, 0), (1, 1), (2, 2), (3, 3), (4, 4)] [1, 2, 3, 4, 5, 6] 5 rfl rfl ?_)
    · simp at h
      rw [hinv]
      simp [posR, hx2]
      omega
    · simp only [go_sem]
      exact Fits.rfl
end Go.Proofs.YtegcmciglakicaaGreat
