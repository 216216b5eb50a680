import Derived.Test.YtigenjeealkdlaaGreatM3
import Derived.DeepKeys4
import Derived.Test.YtigenjeealkdlaaGreatProg
set_option linter.unusedVariables false
set_option linter.unusedSimpArgs false
set_option maxHeartbeats 8000000
set_option maxRecDepth 100000
/-
  ATya: the facts of the program's types, for the reckoning.
-/
namespace Go.Proofs.YtigenjeealkdlaaGreat
open Go Go.RowKit Go.Exe

theorem tI2 : TI Tryz.prog 2 = some (false, 1) := by kernel_rfl
theorem tE2 : EInfo Tryz.prog 2 = some (1, 8) := by kernel_rfl
theorem tZ2 : ZV Tryz.prog 2 = some [.int .i64 0] := by kernel_rfl
theorem tG2 : ZG Tryz.prog 2 = some (false, [.int .i64 0]) := by kernel_rfl
theorem tU2 : Tryz.prog.underlying 2 = some (.int .i64) := by kernel_rfl
theorem tI3 : TI Tryz.prog 3 = some (false, 1) := by kernel_rfl
theorem tE3 : EInfo Tryz.prog 3 = some (1, 8) := by kernel_rfl
theorem tZ3 : ZV Tryz.prog 3 = some [.int .i64 0] := by kernel_rfl
theorem tG3 : ZG Tryz.prog 3 = some (false, [.int .i64 0]) := by kernel_rfl
theorem tU3 : Tryz.prog.underlying 3 = some (.int .i64) := by kernel_rfl
theorem tI4 : TI Tryz.prog 4 = some (false, 1) := by kernel_rfl
theorem tE4 : EInfo Tryz.prog 4 = some (1, 1) := by kernel_rfl
theorem tZ4 : ZV Tryz.prog 4 = some [.bool false] := by kernel_rfl
theorem tG4 : ZG Tryz.prog 4 = some (false, [.bool false]) := by kernel_rfl
theorem tU4 : Tryz.prog.underlying 4 = some .bool := by kernel_rfl
theorem tI5 : TI Tryz.prog 5 = some (false, 1) := by kernel_rfl
theorem tE5 : EInfo Tryz.prog 5 = some (1, 1) := by kernel_rfl
theorem tZ5 : ZV Tryz.prog 5 = some [.int .u8 0] := by kernel_rfl
theorem tG5 : ZG Tryz.prog 5 = some (false, [.int .u8 0]) := by kernel_rfl
theorem tU5 : Tryz.prog.underlying 5 = some (.int .u8) := by kernel_rfl
theorem tI7 : TI Tryz.prog 7 = some (true, 4) := by kernel_rfl
theorem tE7 : EInfo Tryz.prog 7 = some (4, 24) := by kernel_rfl
theorem tZ7 : ZV Tryz.prog 7 = some [.int .i64 0, .int .i64 0, .bool false, .int .u8 0] := by kernel_rfl
theorem tG7 : ZG Tryz.prog 7 = some (true, [.int .i64 0, .int .i64 0, .bool false, .int .u8 0]) := by kernel_rfl
theorem tF7_0 : FO Tryz.prog 7 0 = some 0 := by kernel_rfl
theorem tF7_1 : FO Tryz.prog 7 1 = some 1 := by kernel_rfl
theorem tF7_2 : FO Tryz.prog 7 2 = some 2 := by kernel_rfl
theorem tF7_3 : FO Tryz.prog 7 3 = some 3 := by kernel_rfl
theorem tP7 : PLs Tryz.prog 7 = some (.st [(0, 1), (1, 1), (2, 1), (3, 1)]) := by kernel_rfl
theorem tI9 : TI Tryz.prog 9 = some (false, 1) := by kernel_rfl
theorem tE9 : EInfo Tryz.prog 9 = some (1, 16) := by kernel_rfl
theorem tZ9 : ZV Tryz.prog 9 = some [.string ByteArray.empty] := by kernel_rfl
theorem tG9 : ZG Tryz.prog 9 = some (false, [.string ByteArray.empty]) := by kernel_rfl
theorem tU9 : Tryz.prog.underlying 9 = some .string := by kernel_rfl
theorem tI12 : TI Tryz.prog 12 = some (false, 1) := by kernel_rfl
theorem tE12 : EInfo Tryz.prog 12 = some (1, 8) := by kernel_rfl
theorem tZ12 : ZV Tryz.prog 12 = some [.int .u64 0] := by kernel_rfl
theorem tG12 : ZG Tryz.prog 12 = some (false, [.int .u64 0]) := by kernel_rfl
theorem tU12 : Tryz.prog.underlying 12 = some (.int .u64) := by kernel_rfl
theorem tI13 : TI Tryz.prog 13 = some (true, 2) := by kernel_rfl
theorem tE13 : EInfo Tryz.prog 13 = some (2, 24) := by kernel_rfl
theorem tZ13 : ZV Tryz.prog 13 = some [.string ByteArray.empty, .int .u64 0] := by kernel_rfl
theorem tG13 : ZG Tryz.prog 13 = some (true, [.string ByteArray.empty, .int .u64 0]) := by kernel_rfl
theorem tF13_0 : FO Tryz.prog 13 0 = some 0 := by kernel_rfl
theorem tF13_1 : FO Tryz.prog 13 1 = some 1 := by kernel_rfl
theorem tP13 : PLs Tryz.prog 13 = some (.st [(0, 1), (1, 1)]) := by kernel_rfl
theorem tI18 : TI Tryz.prog 18 = some (true, 1) := by kernel_rfl
theorem tE18 : EInfo Tryz.prog 18 = some (1, 8) := by kernel_rfl
theorem tZ18 : ZV Tryz.prog 18 = some [.pointer none] := by kernel_rfl
theorem tG18 : ZG Tryz.prog 18 = some (true, [.pointer none]) := by kernel_rfl
theorem tF18_0 : FO Tryz.prog 18 0 = some 0 := by kernel_rfl
theorem tP18 : PLs Tryz.prog 18 = some (.st [(0, 1)]) := by kernel_rfl
theorem tI19 : TI Tryz.prog 19 = some (true, 1) := by kernel_rfl
theorem tE19 : EInfo Tryz.prog 19 = some (1, 8) := by kernel_rfl
theorem tZ19 : ZV Tryz.prog 19 = some [.pointer none] := by kernel_rfl
theorem tG19 : ZG Tryz.prog 19 = some (true, [.pointer none]) := by kernel_rfl
theorem tF19_0 : FO Tryz.prog 19 0 = some 0 := by kernel_rfl
theorem tP19 : PLs Tryz.prog 19 = some (.st [(0, 1)]) := by kernel_rfl
theorem tI20 : TI Tryz.prog 20 = some (false, 1) := by kernel_rfl
theorem tE20 : EInfo Tryz.prog 20 = some (1, 16) := by kernel_rfl
theorem tZ20 : ZV Tryz.prog 20 = some [.nilIface] := by kernel_rfl
theorem tG20 : ZG Tryz.prog 20 = some (false, [.nilIface]) := by kernel_rfl
theorem tI21 : TI Tryz.prog 21 = some (false, 1) := by kernel_rfl
theorem tE21 : EInfo Tryz.prog 21 = some (1, 4) := by kernel_rfl
theorem tZ21 : ZV Tryz.prog 21 = some [.int .i32 0] := by kernel_rfl
theorem tG21 : ZG Tryz.prog 21 = some (false, [.int .i32 0]) := by kernel_rfl
theorem tU21 : Tryz.prog.underlying 21 = some (.int .i32) := by kernel_rfl
theorem tI22 : TI Tryz.prog 22 = some (false, 1) := by kernel_rfl
theorem tE22 : EInfo Tryz.prog 22 = some (1, 24) := by kernel_rfl
theorem tZ22 : ZV Tryz.prog 22 = some [.slice none 0 0] := by kernel_rfl
theorem tG22 : ZG Tryz.prog 22 = some (false, [.slice none 0 0]) := by kernel_rfl
theorem tL22 : EL Tryz.prog 22 = some 93 := by kernel_rfl
theorem tI23 : TI Tryz.prog 23 = some (false, 1) := by kernel_rfl
theorem tE23 : EInfo Tryz.prog 23 = some (1, 24) := by kernel_rfl
theorem tZ23 : ZV Tryz.prog 23 = some [.slice none 0 0] := by kernel_rfl
theorem tG23 : ZG Tryz.prog 23 = some (false, [.slice none 0 0]) := by kernel_rfl
theorem tL23 : EL Tryz.prog 23 = some 93 := by kernel_rfl
theorem tI25 : TI Tryz.prog 25 = some (false, 1) := by kernel_rfl
theorem tE25 : EInfo Tryz.prog 25 = some (1, 24) := by kernel_rfl
theorem tZ25 : ZV Tryz.prog 25 = some [.slice none 0 0] := by kernel_rfl
theorem tG25 : ZG Tryz.prog 25 = some (false, [.slice none 0 0]) := by kernel_rfl
theorem tL25 : EL Tryz.prog 25 = some 35 := by kernel_rfl
theorem tI26 : TI Tryz.prog 26 = some (false, 1) := by kernel_rfl
theorem tE26 : EInfo Tryz.prog 26 = some (1, 24) := by kernel_rfl
theorem tZ26 : ZV Tryz.prog 26 = some [.slice none 0 0] := by kernel_rfl
theorem tG26 : ZG Tryz.prog 26 = some (false, [.slice none 0 0]) := by kernel_rfl
theorem tL26 : EL Tryz.prog 26 = some 3 := by kernel_rfl
theorem tI27 : TI Tryz.prog 27 = some (true, 6) := by kernel_rfl
theorem tE27 : EInfo Tryz.prog 27 = some (6, 128) := by kernel_rfl
theorem tZ27 : ZV Tryz.prog 27 = some [.int .i64 0, .slice none 0 0, .slice none 0 0, .slice none 0 0, .slice none 0 0, .slice none 0 0] := by kernel_rfl
theorem tG27 : ZG Tryz.prog 27 = some (true, [.int .i64 0, .slice none 0 0, .slice none 0 0, .slice none 0 0, .slice none 0 0, .slice none 0 0]) := by kernel_rfl
theorem tF27_0 : FO Tryz.prog 27 0 = some 0 := by kernel_rfl
theorem tF27_1 : FO Tryz.prog 27 1 = some 1 := by kernel_rfl
theorem tF27_2 : FO Tryz.prog 27 2 = some 2 := by kernel_rfl
theorem tF27_3 : FO Tryz.prog 27 3 = some 3 := by kernel_rfl
theorem tF27_4 : FO Tryz.prog 27 4 = some 4 := by kernel_rfl
theorem tF27_5 : FO Tryz.prog 27 5 = some 5 := by kernel_rfl
theorem tP27 : PLs Tryz.prog 27 = some (.st [(0, 1), (1, 1), (2, 1), (3, 1), (4, 1), (5, 1)]) := by kernel_rfl
theorem tI28 : TI Tryz.prog 28 = some (true, 6) := by kernel_rfl
theorem tE28 : EInfo Tryz.prog 28 = some (6, 128) := by kernel_rfl
theorem tZ28 : ZV Tryz.prog 28 = some [.int .i64 0, .slice none 0 0, .slice none 0 0, .slice none 0 0, .slice none 0 0, .slice none 0 0] := by kernel_rfl
theorem tG28 : ZG Tryz.prog 28 = some (true, [.int .i64 0, .slice none 0 0, .slice none 0 0, .slice none 0 0, .slice none 0 0, .slice none 0 0]) := by kernel_rfl
theorem tF28_0 : FO Tryz.prog 28 0 = some 0 := by kernel_rfl
theorem tF28_1 : FO Tryz.prog 28 1 = some 1 := by kernel_rfl
theorem tF28_2 : FO Tryz.prog 28 2 = some 2 := by kernel_rfl
theorem tF28_3 : FO Tryz.prog 28 3 = some 3 := by kernel_rfl
theorem tF28_4 : FO Tryz.prog 28 4 = some 4 := by kernel_rfl
theorem tF28_5 : FO Tryz.prog 28 5 = some 5 := by kernel_rfl
theorem tP28 : PLs Tryz.prog 28 = some (.st [(0, 1), (1, 1), (2, 1), (3, 1), (4, 1), (5, 1)]) := by kernel_rfl
theorem tI30 : TI Tryz.prog 30 = some (false, 1) := by kernel_rfl
theorem tE30 : EInfo Tryz.prog 30 = some (1, 24) := by kernel_rfl
theorem tZ30 : ZV Tryz.prog 30 = some [.slice none 0 0] := by kernel_rfl
theorem tG30 : ZG Tryz.prog 30 = some (false, [.slice none 0 0]) := by kernel_rfl
theorem tL30 : EL Tryz.prog 30 = some 88 := by kernel_rfl
theorem tI34 : TI Tryz.prog 34 = some (true, 4) := by kernel_rfl
theorem tE34 : EInfo Tryz.prog 34 = some (4, 48) := by kernel_rfl
theorem tZ34 : ZV Tryz.prog 34 = some [.int .i64 0, .int .i64 0, .int .i64 0, .slice none 0 0] := by kernel_rfl
theorem tG34 : ZG Tryz.prog 34 = some (true, [.int .i64 0, .int .i64 0, .int .i64 0, .slice none 0 0]) := by kernel_rfl
theorem tF34_0 : FO Tryz.prog 34 0 = some 0 := by kernel_rfl
theorem tF34_1 : FO Tryz.prog 34 1 = some 1 := by kernel_rfl
theorem tF34_2 : FO Tryz.prog 34 2 = some 2 := by kernel_rfl
theorem tF34_3 : FO Tryz.prog 34 3 = some 3 := by kernel_rfl
theorem tP34 : PLs Tryz.prog 34 = some (.st [(0, 1), (1, 1), (2, 1), (3, 1)]) := by kernel_rfl
theorem tI35 : TI Tryz.prog 35 = some (true, 4) := by kernel_rfl
theorem tE35 : EInfo Tryz.prog 35 = some (4, 48) := by kernel_rfl
theorem tZ35 : ZV Tryz.prog 35 = some [.int .i64 0, .int .i64 0, .int .i64 0, .slice none 0 0] := by kernel_rfl
theorem tG35 : ZG Tryz.prog 35 = some (true, [.int .i64 0, .int .i64 0, .int .i64 0, .slice none 0 0]) := by kernel_rfl
theorem tF35_0 : FO Tryz.prog 35 0 = some 0 := by kernel_rfl
theorem tF35_1 : FO Tryz.prog 35 1 = some 1 := by kernel_rfl
theorem tF35_2 : FO Tryz.prog 35 2 = some 2 := by kernel_rfl
theorem tF35_3 : FO Tryz.prog 35 3 = some 3 := by kernel_rfl
theorem tP35 : PLs Tryz.prog 35 = some (.st [(0, 1), (1, 1), (2, 1), (3, 1)]) := by kernel_rfl
theorem tI52 : TI Tryz.prog 52 = some (false, 1) := by kernel_rfl
theorem tE52 : EInfo Tryz.prog 52 = some (1, 24) := by kernel_rfl
theorem tZ52 : ZV Tryz.prog 52 = some [.slice none 0 0] := by kernel_rfl
theorem tG52 : ZG Tryz.prog 52 = some (false, [.slice none 0 0]) := by kernel_rfl
theorem tL52 : EL Tryz.prog 52 = some 109 := by kernel_rfl
theorem tI53 : TI Tryz.prog 53 = some (false, 1) := by kernel_rfl
theorem tE53 : EInfo Tryz.prog 53 = some (1, 1) := by kernel_rfl
theorem tZ53 : ZV Tryz.prog 53 = some [.int .i8 0] := by kernel_rfl
theorem tG53 : ZG Tryz.prog 53 = some (false, [.int .i8 0]) := by kernel_rfl
theorem tU53 : Tryz.prog.underlying 53 = some (.int .i8) := by kernel_rfl
theorem tI54 : TI Tryz.prog 54 = some (true, 4) := by kernel_rfl
theorem tE54 : EInfo Tryz.prog 54 = some (4, 4) := by kernel_rfl
theorem tZ54 : ZV Tryz.prog 54 = some [.int .i8 0, .int .i8 0, .int .i8 0, .int .i8 0] := by kernel_rfl
theorem tG54 : ZG Tryz.prog 54 = some (true, [.int .i8 0, .int .i8 0, .int .i8 0, .int .i8 0]) := by kernel_rfl
theorem tP54 : PLs Tryz.prog 54 = some (.ar 1) := by kernel_rfl
theorem tI55 : TI Tryz.prog 55 = some (false, 1) := by kernel_rfl
theorem tE55 : EInfo Tryz.prog 55 = some (1, 24) := by kernel_rfl
theorem tZ55 : ZV Tryz.prog 55 = some [.slice none 0 0] := by kernel_rfl
theorem tG55 : ZG Tryz.prog 55 = some (false, [.slice none 0 0]) := by kernel_rfl
theorem tL55 : EL Tryz.prog 55 = some 150 := by kernel_rfl
theorem tI56 : TI Tryz.prog 56 = some (true, 7) := by kernel_rfl
theorem tE56 : EInfo Tryz.prog 56 = some (7, 64) := by kernel_rfl
theorem tZ56 : ZV Tryz.prog 56 = some [.slice none 0 0, .int .i8 0, .int .i8 0, .int .i8 0, .int .i8 0, .slice none 0 0, .int .u8 0] := by kernel_rfl
theorem tG56 : ZG Tryz.prog 56 = some (true, [.slice none 0 0, .int .i8 0, .int .i8 0, .int .i8 0, .int .i8 0, .slice none 0 0, .int .u8 0]) := by kernel_rfl
theorem tF56_0 : FO Tryz.prog 56 0 = some 0 := by kernel_rfl
theorem tF56_1 : FO Tryz.prog 56 1 = some 1 := by kernel_rfl
theorem tF56_2 : FO Tryz.prog 56 2 = some 5 := by kernel_rfl
theorem tF56_3 : FO Tryz.prog 56 3 = some 6 := by kernel_rfl
theorem tP56 : PLs Tryz.prog 56 = some (.st [(0, 1), (1, 4), (5, 1), (6, 1)]) := by kernel_rfl
theorem tI57 : TI Tryz.prog 57 = some (true, 7) := by kernel_rfl
theorem tE57 : EInfo Tryz.prog 57 = some (7, 64) := by kernel_rfl
theorem tZ57 : ZV Tryz.prog 57 = some [.slice none 0 0, .int .i8 0, .int .i8 0, .int .i8 0, .int .i8 0, .slice none 0 0, .int .u8 0] := by kernel_rfl
theorem tG57 : ZG Tryz.prog 57 = some (true, [.slice none 0 0, .int .i8 0, .int .i8 0, .int .i8 0, .int .i8 0, .slice none 0 0, .int .u8 0]) := by kernel_rfl
theorem tF57_0 : FO Tryz.prog 57 0 = some 0 := by kernel_rfl
theorem tF57_1 : FO Tryz.prog 57 1 = some 1 := by kernel_rfl
theorem tF57_2 : FO Tryz.prog 57 2 = some 5 := by kernel_rfl
theorem tF57_3 : FO Tryz.prog 57 3 = some 6 := by kernel_rfl
theorem tP57 : PLs Tryz.prog 57 = some (.st [(0, 1), (1, 4), (5, 1), (6, 1)]) := by kernel_rfl
theorem tI58 : TI Tryz.prog 58 = some (false, 1) := by kernel_rfl
theorem tE58 : EInfo Tryz.prog 58 = some (1, 24) := by kernel_rfl
theorem tZ58 : ZV Tryz.prog 58 = some [.slice none 0 0] := by kernel_rfl
theorem tG58 : ZG Tryz.prog 58 = some (false, [.slice none 0 0]) := by kernel_rfl
theorem tL58 : EL Tryz.prog 58 = some 5 := by kernel_rfl
theorem tI60 : TI Tryz.prog 60 = some (false, 1) := by kernel_rfl
theorem tE60 : EInfo Tryz.prog 60 = some (1, 24) := by kernel_rfl
theorem tZ60 : ZV Tryz.prog 60 = some [.slice none 0 0] := by kernel_rfl
theorem tG60 : ZG Tryz.prog 60 = some (false, [.slice none 0 0]) := by kernel_rfl
theorem tL60 : EL Tryz.prog 60 = some 70 := by kernel_rfl
theorem tI63 : TI Tryz.prog 63 = some (false, 1) := by kernel_rfl
theorem tE63 : EInfo Tryz.prog 63 = some (1, 8) := by kernel_rfl
theorem tZ63 : ZV Tryz.prog 63 = some [.pointer none] := by kernel_rfl
theorem tG63 : ZG Tryz.prog 63 = some (false, [.pointer none]) := by kernel_rfl
theorem tU63 : Tryz.prog.underlying 63 = some (.pointer 115) := by kernel_rfl
theorem tI65 : TI Tryz.prog 65 = some (false, 1) := by kernel_rfl
theorem tE65 : EInfo Tryz.prog 65 = some (1, 8) := by kernel_rfl
theorem tZ65 : ZV Tryz.prog 65 = some [.int .i64 0] := by kernel_rfl
theorem tG65 : ZG Tryz.prog 65 = some (false, [.int .i64 0]) := by kernel_rfl
theorem tU65 : Tryz.prog.underlying 65 = some (.int .i64) := by kernel_rfl
theorem tI68 : TI Tryz.prog 68 = some (false, 1) := by kernel_rfl
theorem tE68 : EInfo Tryz.prog 68 = some (1, 24) := by kernel_rfl
theorem tZ68 : ZV Tryz.prog 68 = some [.slice none 0 0] := by kernel_rfl
theorem tG68 : ZG Tryz.prog 68 = some (false, [.slice none 0 0]) := by kernel_rfl
theorem tL68 : EL Tryz.prog 68 = some 112 := by kernel_rfl
theorem tI69 : TI Tryz.prog 69 = some (true, 4) := by kernel_rfl
theorem tE69 : EInfo Tryz.prog 69 = some (4, 64) := by kernel_rfl
theorem tZ69 : ZV Tryz.prog 69 = some [.int .i64 0, .int .i64 0, .slice none 0 0, .slice none 0 0] := by kernel_rfl
theorem tG69 : ZG Tryz.prog 69 = some (true, [.int .i64 0, .int .i64 0, .slice none 0 0, .slice none 0 0]) := by kernel_rfl
theorem tF69_0 : FO Tryz.prog 69 0 = some 0 := by kernel_rfl
theorem tF69_1 : FO Tryz.prog 69 1 = some 1 := by kernel_rfl
theorem tF69_2 : FO Tryz.prog 69 2 = some 2 := by kernel_rfl
theorem tF69_3 : FO Tryz.prog 69 3 = some 3 := by kernel_rfl
theorem tP69 : PLs Tryz.prog 69 = some (.st [(0, 1), (1, 1), (2, 1), (3, 1)]) := by kernel_rfl
theorem tI70 : TI Tryz.prog 70 = some (true, 4) := by kernel_rfl
theorem tE70 : EInfo Tryz.prog 70 = some (4, 64) := by kernel_rfl
theorem tZ70 : ZV Tryz.prog 70 = some [.int .i64 0, .int .i64 0, .slice none 0 0, .slice none 0 0] := by kernel_rfl
theorem tG70 : ZG Tryz.prog 70 = some (true, [.int .i64 0, .int .i64 0, .slice none 0 0, .slice none 0 0]) := by kernel_rfl
theorem tF70_0 : FO Tryz.prog 70 0 = some 0 := by kernel_rfl
theorem tF70_1 : FO Tryz.prog 70 1 = some 1 := by kernel_rfl
theorem tF70_2 : FO Tryz.prog 70 2 = some 2 := by kernel_rfl
theorem tF70_3 : FO Tryz.prog 70 3 = some 3 := by kernel_rfl
theorem tP70 : PLs Tryz.prog 70 = some (.st [(0, 1), (1, 1), (2, 1), (3, 1)]) := by kernel_rfl
theorem tI71 : TI Tryz.prog 71 = some (false, 1) := by kernel_rfl
theorem tE71 : EInfo Tryz.prog 71 = some (1, 24) := by kernel_rfl
theorem tZ71 : ZV Tryz.prog 71 = some [.slice none 0 0] := by kernel_rfl
theorem tG71 : ZG Tryz.prog 71 = some (false, [.slice none 0 0]) := by kernel_rfl
theorem tL71 : EL Tryz.prog 71 = some 74 := by kernel_rfl
theorem tI73 : TI Tryz.prog 73 = some (true, 3) := by kernel_rfl
theorem tE73 : EInfo Tryz.prog 73 = some (3, 40) := by kernel_rfl
theorem tZ73 : ZV Tryz.prog 73 = some [.int .i64 0, .int .i64 0, .slice none 0 0] := by kernel_rfl
theorem tG73 : ZG Tryz.prog 73 = some (true, [.int .i64 0, .int .i64 0, .slice none 0 0]) := by kernel_rfl
theorem tF73_0 : FO Tryz.prog 73 0 = some 0 := by kernel_rfl
theorem tF73_1 : FO Tryz.prog 73 1 = some 1 := by kernel_rfl
theorem tF73_2 : FO Tryz.prog 73 2 = some 2 := by kernel_rfl
theorem tP73 : PLs Tryz.prog 73 = some (.st [(0, 1), (1, 1), (2, 1)]) := by kernel_rfl
theorem tI74 : TI Tryz.prog 74 = some (true, 3) := by kernel_rfl
theorem tE74 : EInfo Tryz.prog 74 = some (3, 40) := by kernel_rfl
theorem tZ74 : ZV Tryz.prog 74 = some [.int .i64 0, .int .i64 0, .slice none 0 0] := by kernel_rfl
theorem tG74 : ZG Tryz.prog 74 = some (true, [.int .i64 0, .int .i64 0, .slice none 0 0]) := by kernel_rfl
theorem tF74_0 : FO Tryz.prog 74 0 = some 0 := by kernel_rfl
theorem tF74_1 : FO Tryz.prog 74 1 = some 1 := by kernel_rfl
theorem tF74_2 : FO Tryz.prog 74 2 = some 2 := by kernel_rfl
theorem tP74 : PLs Tryz.prog 74 = some (.st [(0, 1), (1, 1), (2, 1)]) := by kernel_rfl
theorem tI85 : TI Tryz.prog 85 = some (false, 1) := by kernel_rfl
theorem tE85 : EInfo Tryz.prog 85 = some (1, 24) := by kernel_rfl
theorem tZ85 : ZV Tryz.prog 85 = some [.slice none 0 0] := by kernel_rfl
theorem tG85 : ZG Tryz.prog 85 = some (false, [.slice none 0 0]) := by kernel_rfl
theorem tL85 : EL Tryz.prog 85 = some 134 := by kernel_rfl
theorem tI86 : TI Tryz.prog 86 = some (false, 1) := by kernel_rfl
theorem tE86 : EInfo Tryz.prog 86 = some (1, 24) := by kernel_rfl
theorem tZ86 : ZV Tryz.prog 86 = some [.slice none 0 0] := by kernel_rfl
theorem tG86 : ZG Tryz.prog 86 = some (false, [.slice none 0 0]) := by kernel_rfl
theorem tL86 : EL Tryz.prog 86 = some 137 := by kernel_rfl
theorem tI87 : TI Tryz.prog 87 = some (true, 14) := by kernel_rfl
theorem tE87 : EInfo Tryz.prog 87 = some (14, 168) := by kernel_rfl
theorem tZ87 : ZV Tryz.prog 87 = some [.int .i64 0, .int .i64 0, .int .i64 0, .int .i64 0, .int .i64 0, .int .i64 0, .string ByteArray.empty, .string ByteArray.empty, .string ByteArray.empty, .int .i64 0, .int .i64 0, .bool false, .slice none 0 0, .slice none 0 0] := by kernel_rfl
theorem tG87 : ZG Tryz.prog 87 = some (true, [.int .i64 0, .int .i64 0, .int .i64 0, .int .i64 0, .int .i64 0, .int .i64 0, .string ByteArray.empty, .string ByteArray.empty, .string ByteArray.empty, .int .i64 0, .int .i64 0, .bool false, .slice none 0 0, .slice none 0 0]) := by kernel_rfl
theorem tF87_0 : FO Tryz.prog 87 0 = some 0 := by kernel_rfl
theorem tF87_1 : FO Tryz.prog 87 1 = some 1 := by kernel_rfl
theorem tF87_2 : FO Tryz.prog 87 2 = some 2 := by kernel_rfl
theorem tF87_3 : FO Tryz.prog 87 3 = some 3 := by kernel_rfl
theorem tF87_4 : FO Tryz.prog 87 4 = some 4 := by kernel_rfl
theorem tF87_5 : FO Tryz.prog 87 5 = some 5 := by kernel_rfl
theorem tF87_6 : FO Tryz.prog 87 6 = some 6 := by kernel_rfl
theorem tF87_7 : FO Tryz.prog 87 7 = some 7 := by kernel_rfl
theorem tF87_8 : FO Tryz.prog 87 8 = some 8 := by kernel_rfl
theorem tF87_9 : FO Tryz.prog 87 9 = some 9 := by kernel_rfl
theorem tF87_10 : FO Tryz.prog 87 10 = some 10 := by kernel_rfl
theorem tF87_11 : FO Tryz.prog 87 11 = some 11 := by kernel_rfl
theorem tF87_12 : FO Tryz.prog 87 12 = some 12 := by kernel_rfl
theorem tF87_13 : FO Tryz.prog 87 13 = some 13 := by kernel_rfl
theorem tP87 : PLs Tryz.prog 87 = some (.st [(0, 1), (1, 1), (2, 1), (3, 1), (4, 1), (5, 1), (6, 1), (7, 1), (8, 1), (9, 1), (10, 1), (11, 1), (12, 1), (13, 1)]) := by kernel_rfl
theorem tI88 : TI Tryz.prog 88 = some (true, 14) := by kernel_rfl
theorem tE88 : EInfo Tryz.prog 88 = some (14, 168) := by kernel_rfl
theorem tZ88 : ZV Tryz.prog 88 = some [.int .i64 0, .int .i64 0, .int .i64 0, .int .i64 0, .int .i64 0, .int .i64 0, .string ByteArray.empty, .string ByteArray.empty, .string ByteArray.empty, .int .i64 0, .int .i64 0, .bool false, .slice none 0 0, .slice none 0 0] := by kernel_rfl
theorem tG88 : ZG Tryz.prog 88 = some (true, [.int .i64 0, .int .i64 0, .int .i64 0, .int .i64 0, .int .i64 0, .int .i64 0, .string ByteArray.empty, .string ByteArray.empty, .string ByteArray.empty, .int .i64 0, .int .i64 0, .bool false, .slice none 0 0, .slice none 0 0]) := by kernel_rfl
theorem tF88_0 : FO Tryz.prog 88 0 = some 0 := by kernel_rfl
theorem tF88_1 : FO Tryz.prog 88 1 = some 1 := by kernel_rfl
theorem tF88_2 : FO Tryz.prog 88 2 = some 2 := by kernel_rfl
theorem tF88_3 : FO Tryz.prog 88 3 = some 3 := by kernel_rfl
theorem tF88_4 : FO Tryz.prog 88 4 = some 4 := by kernel_rfl
theorem tF88_5 : FO Tryz.prog 88 5 = some 5 := by kernel_rfl
theorem tF88_6 : FO Tryz.prog 88 6 = some 6 := by kernel_rfl
theorem tF88_7 : FO Tryz.prog 88 7 = some 7 := by kernel_rfl
theorem tF88_8 : FO Tryz.prog 88 8 = some 8 := by kernel_rfl
theorem tF88_9 : FO Tryz.prog 88 9 = some 9 := by kernel_rfl
theorem tF88_10 : FO Tryz.prog 88 10 = some 10 := by kernel_rfl
theorem tF88_11 : FO Tryz.prog 88 11 = some 11 := by kernel_rfl
theorem tF88_12 : FO Tryz.prog 88 12 = some 12 := by kernel_rfl
theorem tF88_13 : FO Tryz.prog 88 13 = some 13 := by kernel_rfl
theorem tP88 : PLs Tryz.prog 88 = some (.st [(0, 1), (1, 1), (2, 1), (3, 1), (4, 1), (5, 1), (6, 1), (7, 1), (8, 1), (9, 1), (10, 1), (11, 1), (12, 1), (13, 1)]) := by kernel_rfl
theorem tI93 : TI Tryz.prog 93 = some (true, 4) := by kernel_rfl
theorem tE93 : EInfo Tryz.prog 93 = some (4, 4) := by kernel_rfl
theorem tZ93 : ZV Tryz.prog 93 = some [.int .u8 0, .int .u8 0, .int .u8 0, .int .u8 0] := by kernel_rfl
theorem tG93 : ZG Tryz.prog 93 = some (true, [.int .u8 0, .int .u8 0, .int .u8 0, .int .u8 0]) := by kernel_rfl
theorem tP93 : PLs Tryz.prog 93 = some (.ar 1) := by kernel_rfl
theorem tI94 : TI Tryz.prog 94 = some (false, 1) := by kernel_rfl
theorem tE94 : EInfo Tryz.prog 94 = some (1, 8) := by kernel_rfl
theorem tZ94 : ZV Tryz.prog 94 = some [.map none] := by kernel_rfl
theorem tG94 : ZG Tryz.prog 94 = some (false, [.map none]) := by kernel_rfl
theorem tU94 : Tryz.prog.underlying 94 = some (.map 3 3) := by kernel_rfl
theorem tM94 : MT Tryz.prog 94 = some (3, 3) := by kernel_rfl
theorem tI96 : TI Tryz.prog 96 = some (false, 1) := by kernel_rfl
theorem tE96 : EInfo Tryz.prog 96 = some (1, 8) := by kernel_rfl
theorem tZ96 : ZV Tryz.prog 96 = some [.map none] := by kernel_rfl
theorem tG96 : ZG Tryz.prog 96 = some (false, [.map none]) := by kernel_rfl
theorem tU96 : Tryz.prog.underlying 96 = some (.map 3 4) := by kernel_rfl
theorem tM96 : MT Tryz.prog 96 = some (3, 4) := by kernel_rfl
theorem tI100 : TI Tryz.prog 100 = some (false, 1) := by kernel_rfl
theorem tE100 : EInfo Tryz.prog 100 = some (1, 8) := by kernel_rfl
theorem tZ100 : ZV Tryz.prog 100 = some [.nilFunc] := by kernel_rfl
theorem tG100 : ZG Tryz.prog 100 = some (false, [.nilFunc]) := by kernel_rfl
theorem tI107 : TI Tryz.prog 107 = some (false, 1) := by kernel_rfl
theorem tE107 : EInfo Tryz.prog 107 = some (1, 24) := by kernel_rfl
theorem tZ107 : ZV Tryz.prog 107 = some [.slice none 0 0] := by kernel_rfl
theorem tG107 : ZG Tryz.prog 107 = some (false, [.slice none 0 0]) := by kernel_rfl
theorem tL107 : EL Tryz.prog 107 = some 125 := by kernel_rfl
theorem tI108 : TI Tryz.prog 108 = some (true, 3) := by kernel_rfl
theorem tE108 : EInfo Tryz.prog 108 = some (3, 32) := by kernel_rfl
theorem tZ108 : ZV Tryz.prog 108 = some [.int .u8 0, .int .u8 0, .slice none 0 0] := by kernel_rfl
theorem tG108 : ZG Tryz.prog 108 = some (true, [.int .u8 0, .int .u8 0, .slice none 0 0]) := by kernel_rfl
theorem tF108_0 : FO Tryz.prog 108 0 = some 0 := by kernel_rfl
theorem tF108_1 : FO Tryz.prog 108 1 = some 1 := by kernel_rfl
theorem tF108_2 : FO Tryz.prog 108 2 = some 2 := by kernel_rfl
theorem tP108 : PLs Tryz.prog 108 = some (.st [(0, 1), (1, 1), (2, 1)]) := by kernel_rfl
theorem tI109 : TI Tryz.prog 109 = some (true, 3) := by kernel_rfl
theorem tE109 : EInfo Tryz.prog 109 = some (3, 32) := by kernel_rfl
theorem tZ109 : ZV Tryz.prog 109 = some [.int .u8 0, .int .u8 0, .slice none 0 0] := by kernel_rfl
theorem tG109 : ZG Tryz.prog 109 = some (true, [.int .u8 0, .int .u8 0, .slice none 0 0]) := by kernel_rfl
theorem tF109_0 : FO Tryz.prog 109 0 = some 0 := by kernel_rfl
theorem tF109_1 : FO Tryz.prog 109 1 = some 1 := by kernel_rfl
theorem tF109_2 : FO Tryz.prog 109 2 = some 2 := by kernel_rfl
theorem tP109 : PLs Tryz.prog 109 = some (.st [(0, 1), (1, 1), (2, 1)]) := by kernel_rfl
theorem tI111 : TI Tryz.prog 111 = some (true, 5) := by kernel_rfl
theorem tE111 : EInfo Tryz.prog 111 = some (5, 40) := by kernel_rfl
theorem tZ111 : ZV Tryz.prog 111 = some [.int .i64 0, .int .i64 0, .int .i64 0, .int .i64 0, .int .i64 0] := by kernel_rfl
theorem tG111 : ZG Tryz.prog 111 = some (true, [.int .i64 0, .int .i64 0, .int .i64 0, .int .i64 0, .int .i64 0]) := by kernel_rfl
theorem tF111_0 : FO Tryz.prog 111 0 = some 0 := by kernel_rfl
theorem tF111_1 : FO Tryz.prog 111 1 = some 1 := by kernel_rfl
theorem tF111_2 : FO Tryz.prog 111 2 = some 2 := by kernel_rfl
theorem tF111_3 : FO Tryz.prog 111 3 = some 3 := by kernel_rfl
theorem tF111_4 : FO Tryz.prog 111 4 = some 4 := by kernel_rfl
theorem tP111 : PLs Tryz.prog 111 = some (.st [(0, 1), (1, 1), (2, 1), (3, 1), (4, 1)]) := by kernel_rfl
theorem tI112 : TI Tryz.prog 112 = some (true, 5) := by kernel_rfl
theorem tE112 : EInfo Tryz.prog 112 = some (5, 40) := by kernel_rfl
theorem tZ112 : ZV Tryz.prog 112 = some [.int .i64 0, .int .i64 0, .int .i64 0, .int .i64 0, .int .i64 0] := by kernel_rfl
theorem tG112 : ZG Tryz.prog 112 = some (true, [.int .i64 0, .int .i64 0, .int .i64 0, .int .i64 0, .int .i64 0]) := by kernel_rfl
theorem tF112_0 : FO Tryz.prog 112 0 = some 0 := by kernel_rfl
theorem tF112_1 : FO Tryz.prog 112 1 = some 1 := by kernel_rfl
theorem tF112_2 : FO Tryz.prog 112 2 = some 2 := by kernel_rfl
theorem tF112_3 : FO Tryz.prog 112 3 = some 3 := by kernel_rfl
theorem tF112_4 : FO Tryz.prog 112 4 = some 4 := by kernel_rfl
theorem tP112 : PLs Tryz.prog 112 = some (.st [(0, 1), (1, 1), (2, 1), (3, 1), (4, 1)]) := by kernel_rfl
theorem tI113 : TI Tryz.prog 113 = some (false, 1) := by kernel_rfl
theorem tE113 : EInfo Tryz.prog 113 = some (1, 8) := by kernel_rfl
theorem tZ113 : ZV Tryz.prog 113 = some [.map none] := by kernel_rfl
theorem tG113 : ZG Tryz.prog 113 = some (false, [.map none]) := by kernel_rfl
theorem tU113 : Tryz.prog.underlying 113 = some (.map 3 30) := by kernel_rfl
theorem tM113 : MT Tryz.prog 113 = some (3, 30) := by kernel_rfl
theorem tI114 : TI Tryz.prog 114 = some (true, 1) := by kernel_rfl
theorem tE114 : EInfo Tryz.prog 114 = some (1, 8) := by kernel_rfl
theorem tZ114 : ZV Tryz.prog 114 = some [.map none] := by kernel_rfl
theorem tG114 : ZG Tryz.prog 114 = some (true, [.map none]) := by kernel_rfl
theorem tF114_0 : FO Tryz.prog 114 0 = some 0 := by kernel_rfl
theorem tP114 : PLs Tryz.prog 114 = some (.st [(0, 1)]) := by kernel_rfl
theorem tI115 : TI Tryz.prog 115 = some (true, 1) := by kernel_rfl
theorem tE115 : EInfo Tryz.prog 115 = some (1, 8) := by kernel_rfl
theorem tZ115 : ZV Tryz.prog 115 = some [.map none] := by kernel_rfl
theorem tG115 : ZG Tryz.prog 115 = some (true, [.map none]) := by kernel_rfl
theorem tF115_0 : FO Tryz.prog 115 0 = some 0 := by kernel_rfl
theorem tP115 : PLs Tryz.prog 115 = some (.st [(0, 1)]) := by kernel_rfl
theorem tI124 : TI Tryz.prog 124 = some (true, 11) := by kernel_rfl
theorem tE124 : EInfo Tryz.prog 124 = some (11, 11) := by kernel_rfl
theorem tZ124 : ZV Tryz.prog 124 = some [.int .u8 0, .int .u8 0, .int .u8 0, .int .u8 0, .int .u8 0, .int .u8 0, .int .u8 0, .int .u8 0, .int .u8 0, .int .u8 0, .bool false] := by kernel_rfl
theorem tG124 : ZG Tryz.prog 124 = some (true, [.int .u8 0, .int .u8 0, .int .u8 0, .int .u8 0, .int .u8 0, .int .u8 0, .int .u8 0, .int .u8 0, .int .u8 0, .int .u8 0, .bool false]) := by kernel_rfl
theorem tF124_0 : FO Tryz.prog 124 0 = some 0 := by kernel_rfl
theorem tF124_1 : FO Tryz.prog 124 1 = some 1 := by kernel_rfl
theorem tF124_2 : FO Tryz.prog 124 2 = some 2 := by kernel_rfl
theorem tF124_3 : FO Tryz.prog 124 3 = some 3 := by kernel_rfl
theorem tF124_4 : FO Tryz.prog 124 4 = some 4 := by kernel_rfl
theorem tF124_5 : FO Tryz.prog 124 5 = some 5 := by kernel_rfl
theorem tF124_6 : FO Tryz.prog 124 6 = some 6 := by kernel_rfl
theorem tF124_7 : FO Tryz.prog 124 7 = some 7 := by kernel_rfl
theorem tF124_8 : FO Tryz.prog 124 8 = some 8 := by kernel_rfl
theorem tF124_9 : FO Tryz.prog 124 9 = some 9 := by kernel_rfl
theorem tF124_10 : FO Tryz.prog 124 10 = some 10 := by kernel_rfl
theorem tP124 : PLs Tryz.prog 124 = some (.st [(0, 1), (1, 1), (2, 1), (3, 1), (4, 1), (5, 1), (6, 1), (7, 1), (8, 1), (9, 1), (10, 1)]) := by kernel_rfl
theorem tI125 : TI Tryz.prog 125 = some (true, 11) := by kernel_rfl
theorem tE125 : EInfo Tryz.prog 125 = some (11, 11) := by kernel_rfl
theorem tZ125 : ZV Tryz.prog 125 = some [.int .u8 0, .int .u8 0, .int .u8 0, .int .u8 0, .int .u8 0, .int .u8 0, .int .u8 0, .int .u8 0, .int .u8 0, .int .u8 0, .bool false] := by kernel_rfl
theorem tG125 : ZG Tryz.prog 125 = some (true, [.int .u8 0, .int .u8 0, .int .u8 0, .int .u8 0, .int .u8 0, .int .u8 0, .int .u8 0, .int .u8 0, .int .u8 0, .int .u8 0, .bool false]) := by kernel_rfl
theorem tF125_0 : FO Tryz.prog 125 0 = some 0 := by kernel_rfl
theorem tF125_1 : FO Tryz.prog 125 1 = some 1 := by kernel_rfl
theorem tF125_2 : FO Tryz.prog 125 2 = some 2 := by kernel_rfl
theorem tF125_3 : FO Tryz.prog 125 3 = some 3 := by kernel_rfl
theorem tF125_4 : FO Tryz.prog 125 4 = some 4 := by kernel_rfl
theorem tF125_5 : FO Tryz.prog 125 5 = some 5 := by kernel_rfl
theorem tF125_6 : FO Tryz.prog 125 6 = some 6 := by kernel_rfl
theorem tF125_7 : FO Tryz.prog 125 7 = some 7 := by kernel_rfl
theorem tF125_8 : FO Tryz.prog 125 8 = some 8 := by kernel_rfl
theorem tF125_9 : FO Tryz.prog 125 9 = some 9 := by kernel_rfl
theorem tF125_10 : FO Tryz.prog 125 10 = some 10 := by kernel_rfl
theorem tP125 : PLs Tryz.prog 125 = some (.st [(0, 1), (1, 1), (2, 1), (3, 1), (4, 1), (5, 1), (6, 1), (7, 1), (8, 1), (9, 1), (10, 1)]) := by kernel_rfl
theorem tI131 : TI Tryz.prog 131 = some (true, 3) := by kernel_rfl
theorem tE131 : EInfo Tryz.prog 131 = some (3, 32) := by kernel_rfl
theorem tZ131 : ZV Tryz.prog 131 = some [.int .i64 0, .string ByteArray.empty, .int .i64 0] := by kernel_rfl
theorem tG131 : ZG Tryz.prog 131 = some (true, [.int .i64 0, .string ByteArray.empty, .int .i64 0]) := by kernel_rfl
theorem tF131_0 : FO Tryz.prog 131 0 = some 0 := by kernel_rfl
theorem tF131_1 : FO Tryz.prog 131 1 = some 1 := by kernel_rfl
theorem tF131_2 : FO Tryz.prog 131 2 = some 2 := by kernel_rfl
theorem tP131 : PLs Tryz.prog 131 = some (.st [(0, 1), (1, 1), (2, 1)]) := by kernel_rfl
theorem tI132 : TI Tryz.prog 132 = some (true, 3) := by kernel_rfl
theorem tE132 : EInfo Tryz.prog 132 = some (3, 32) := by kernel_rfl
theorem tZ132 : ZV Tryz.prog 132 = some [.int .i64 0, .string ByteArray.empty, .int .i64 0] := by kernel_rfl
theorem tG132 : ZG Tryz.prog 132 = some (true, [.int .i64 0, .string ByteArray.empty, .int .i64 0]) := by kernel_rfl
theorem tF132_0 : FO Tryz.prog 132 0 = some 0 := by kernel_rfl
theorem tF132_1 : FO Tryz.prog 132 1 = some 1 := by kernel_rfl
theorem tF132_2 : FO Tryz.prog 132 2 = some 2 := by kernel_rfl
theorem tP132 : PLs Tryz.prog 132 = some (.st [(0, 1), (1, 1), (2, 1)]) := by kernel_rfl
theorem tI133 : TI Tryz.prog 133 = some (true, 4) := by kernel_rfl
theorem tE133 : EInfo Tryz.prog 133 = some (4, 48) := by kernel_rfl
theorem tZ133 : ZV Tryz.prog 133 = some [.string ByteArray.empty, .int .i64 0, .string ByteArray.empty, .int .i64 0] := by kernel_rfl
theorem tG133 : ZG Tryz.prog 133 = some (true, [.string ByteArray.empty, .int .i64 0, .string ByteArray.empty, .int .i64 0]) := by kernel_rfl
theorem tF133_0 : FO Tryz.prog 133 0 = some 0 := by kernel_rfl
theorem tF133_1 : FO Tryz.prog 133 1 = some 1 := by kernel_rfl
theorem tP133 : PLs Tryz.prog 133 = some (.st [(0, 1), (1, 3)]) := by kernel_rfl
theorem tI134 : TI Tryz.prog 134 = some (true, 4) := by kernel_rfl
theorem tE134 : EInfo Tryz.prog 134 = some (4, 48) := by kernel_rfl
theorem tZ134 : ZV Tryz.prog 134 = some [.string ByteArray.empty, .int .i64 0, .string ByteArray.empty, .int .i64 0] := by kernel_rfl
theorem tG134 : ZG Tryz.prog 134 = some (true, [.string ByteArray.empty, .int .i64 0, .string ByteArray.empty, .int .i64 0]) := by kernel_rfl
theorem tF134_0 : FO Tryz.prog 134 0 = some 0 := by kernel_rfl
theorem tF134_1 : FO Tryz.prog 134 1 = some 1 := by kernel_rfl
theorem tP134 : PLs Tryz.prog 134 = some (.st [(0, 1), (1, 3)]) := by kernel_rfl
theorem tI136 : TI Tryz.prog 136 = some (true, 2) := by kernel_rfl
theorem tE136 : EInfo Tryz.prog 136 = some (2, 16) := by kernel_rfl
theorem tZ136 : ZV Tryz.prog 136 = some [.int .i64 0, .int .i64 0] := by kernel_rfl
theorem tG136 : ZG Tryz.prog 136 = some (true, [.int .i64 0, .int .i64 0]) := by kernel_rfl
theorem tF136_0 : FO Tryz.prog 136 0 = some 0 := by kernel_rfl
theorem tF136_1 : FO Tryz.prog 136 1 = some 1 := by kernel_rfl
theorem tP136 : PLs Tryz.prog 136 = some (.st [(0, 1), (1, 1)]) := by kernel_rfl
theorem tI137 : TI Tryz.prog 137 = some (true, 2) := by kernel_rfl
theorem tE137 : EInfo Tryz.prog 137 = some (2, 16) := by kernel_rfl
theorem tZ137 : ZV Tryz.prog 137 = some [.int .i64 0, .int .i64 0] := by kernel_rfl
theorem tG137 : ZG Tryz.prog 137 = some (true, [.int .i64 0, .int .i64 0]) := by kernel_rfl
theorem tF137_0 : FO Tryz.prog 137 0 = some 0 := by kernel_rfl
theorem tF137_1 : FO Tryz.prog 137 1 = some 1 := by kernel_rfl
theorem tP137 : PLs Tryz.prog 137 = some (.st [(0, 1), (1, 1)]) := by kernel_rfl
theorem tI140 : TI Tryz.prog 140 = some (false, 1) := by kernel_rfl
theorem tE140 : EInfo Tryz.prog 140 = some (1, 24) := by kernel_rfl
theorem tZ140 : ZV Tryz.prog 140 = some [.slice none 0 0] := by kernel_rfl
theorem tG140 : ZG Tryz.prog 140 = some (false, [.slice none 0 0]) := by kernel_rfl
theorem tL140 : EL Tryz.prog 140 = some 26 := by kernel_rfl
theorem tI149 : TI Tryz.prog 149 = some (true, 5) := by kernel_rfl
theorem tE149 : EInfo Tryz.prog 149 = some (5, 5) := by kernel_rfl
theorem tZ149 : ZV Tryz.prog 149 = some [.int .u8 0, .int .u8 0, .int .u8 0, .int .u8 0, .int .u8 0] := by kernel_rfl
theorem tG149 : ZG Tryz.prog 149 = some (true, [.int .u8 0, .int .u8 0, .int .u8 0, .int .u8 0, .int .u8 0]) := by kernel_rfl
theorem tF149_0 : FO Tryz.prog 149 0 = some 0 := by kernel_rfl
theorem tF149_1 : FO Tryz.prog 149 1 = some 1 := by kernel_rfl
theorem tF149_2 : FO Tryz.prog 149 2 = some 2 := by kernel_rfl
theorem tF149_3 : FO Tryz.prog 149 3 = some 3 := by kernel_rfl
theorem tF149_4 : FO Tryz.prog 149 4 = some 4 := by kernel_rfl
theorem tP149 : PLs Tryz.prog 149 = some (.st [(0, 1), (1, 1), (2, 1), (3, 1), (4, 1)]) := by kernel_rfl
theorem tI150 : TI Tryz.prog 150 = some (true, 5) := by kernel_rfl
theorem tE150 : EInfo Tryz.prog 150 = some (5, 5) := by kernel_rfl
theorem tZ150 : ZV Tryz.prog 150 = some [.int .u8 0, .int .u8 0, .int .u8 0, .int .u8 0, .int .u8 0] := by kernel_rfl
theorem tG150 : ZG Tryz.prog 150 = some (true, [.int .u8 0, .int .u8 0, .int .u8 0, .int .u8 0, .int .u8 0]) := by kernel_rfl
theorem tF150_0 : FO Tryz.prog 150 0 = some 0 := by kernel_rfl
theorem tF150_1 : FO Tryz.prog 150 1 = some 1 := by kernel_rfl
theorem tF150_2 : FO Tryz.prog 150 2 = some 2 := by kernel_rfl
theorem tF150_3 : FO Tryz.prog 150 3 = some 3 := by kernel_rfl
theorem tF150_4 : FO Tryz.prog 150 4 = some 4 := by kernel_rfl
theorem tP150 : PLs Tryz.prog 150 = some (.st [(0, 1), (1, 1), (2, 1), (3, 1), (4, 1)]) := by kernel_rfl
theorem tI160 : TI Tryz.prog 160 = some (false, 1) := by kernel_rfl
theorem tE160 : EInfo Tryz.prog 160 = some (1, 8) := by kernel_rfl
theorem tZ160 : ZV Tryz.prog 160 = some [.int .u64 0] := by kernel_rfl
theorem tG160 : ZG Tryz.prog 160 = some (false, [.int .u64 0]) := by kernel_rfl
theorem tU160 : Tryz.prog.underlying 160 = some (.int .u64) := by kernel_rfl
theorem tI161 : TI Tryz.prog 161 = some (false, 1) := by kernel_rfl
theorem tE161 : EInfo Tryz.prog 161 = some (1, 8) := by kernel_rfl
theorem tZ161 : ZV Tryz.prog 161 = some [.int .u64 0] := by kernel_rfl
theorem tG161 : ZG Tryz.prog 161 = some (false, [.int .u64 0]) := by kernel_rfl
theorem tU161 : Tryz.prog.underlying 161 = some (.int .u64) := by kernel_rfl
theorem tI168 : TI Tryz.prog 168 = some (false, 1) := by kernel_rfl
theorem tE168 : EInfo Tryz.prog 168 = some (1, 24) := by kernel_rfl
theorem tZ168 : ZV Tryz.prog 168 = some [.slice none 0 0] := by kernel_rfl
theorem tG168 : ZG Tryz.prog 168 = some (false, [.slice none 0 0]) := by kernel_rfl
theorem tL168 : EL Tryz.prog 168 = some 65 := by kernel_rfl
theorem tI175 : TI Tryz.prog 175 = some (false, 1) := by kernel_rfl
theorem tE175 : EInfo Tryz.prog 175 = some (1, 8) := by kernel_rfl
theorem tZ175 : ZV Tryz.prog 175 = some [.nilFunc] := by kernel_rfl
theorem tG175 : ZG Tryz.prog 175 = some (false, [.nilFunc]) := by kernel_rfl
theorem tI177 : TI Tryz.prog 177 = some (false, 1) := by kernel_rfl
theorem tE177 : EInfo Tryz.prog 177 = some (1, 24) := by kernel_rfl
theorem tZ177 : ZV Tryz.prog 177 = some [.slice none 0 0] := by kernel_rfl
theorem tG177 : ZG Tryz.prog 177 = some (false, [.slice none 0 0]) := by kernel_rfl
theorem tL177 : EL Tryz.prog 177 = some 30 := by kernel_rfl
theorem tI178 : TI Tryz.prog 178 = some (true, 6) := by kernel_rfl
theorem tE178 : EInfo Tryz.prog 178 = some (6, 48) := by kernel_rfl
theorem tZ178 : ZV Tryz.prog 178 = some [.int .i64 0, .int .i64 0, .int .i64 0, .int .i64 0, .int .i64 0, .int .i64 0] := by kernel_rfl
theorem tG178 : ZG Tryz.prog 178 = some (true, [.int .i64 0, .int .i64 0, .int .i64 0, .int .i64 0, .int .i64 0, .int .i64 0]) := by kernel_rfl
theorem tP178 : PLs Tryz.prog 178 = some (.ar 1) := by kernel_rfl
theorem tI187 : TI Tryz.prog 187 = some (false, 1) := by kernel_rfl
theorem tE187 : EInfo Tryz.prog 187 = some (1, 8) := by kernel_rfl
theorem tZ187 : ZV Tryz.prog 187 = some [.int .i64 0] := by kernel_rfl
theorem tG187 : ZG Tryz.prog 187 = some (false, [.int .i64 0]) := by kernel_rfl
theorem tU187 : Tryz.prog.underlying 187 = some (.int .i64) := by kernel_rfl
theorem tI194 : TI Tryz.prog 194 = some (false, 1) := by kernel_rfl
theorem tE194 : EInfo Tryz.prog 194 = some (1, 4) := by kernel_rfl
theorem tZ194 : ZV Tryz.prog 194 = some [.int .u32 0] := by kernel_rfl
theorem tG194 : ZG Tryz.prog 194 = some (false, [.int .u32 0]) := by kernel_rfl
theorem tU194 : Tryz.prog.underlying 194 = some (.int .u32) := by kernel_rfl
theorem tI206 : TI Tryz.prog 206 = some (false, 1) := by kernel_rfl
theorem tE206 : EInfo Tryz.prog 206 = some (1, 8) := by kernel_rfl
theorem tZ206 : ZV Tryz.prog 206 = some [.int .u64 0] := by kernel_rfl
theorem tG206 : ZG Tryz.prog 206 = some (false, [.int .u64 0]) := by kernel_rfl
theorem tU206 : Tryz.prog.underlying 206 = some (.int .u64) := by kernel_rfl
theorem tI210 : TI Tryz.prog 210 = some (false, 1) := by kernel_rfl
theorem tE210 : EInfo Tryz.prog 210 = some (1, 8) := by kernel_rfl
theorem tZ210 : ZV Tryz.prog 210 = some [.pointer none] := by kernel_rfl
theorem tG210 : ZG Tryz.prog 210 = some (false, [.pointer none]) := by kernel_rfl
theorem tU210 : Tryz.prog.underlying 210 = some (.pointer 3) := by kernel_rfl
theorem tI215 : TI Tryz.prog 215 = some (false, 1) := by kernel_rfl
theorem tE215 : EInfo Tryz.prog 215 = some (1, 24) := by kernel_rfl
theorem tZ215 : ZV Tryz.prog 215 = some [.slice none 0 0] := by kernel_rfl
theorem tG215 : ZG Tryz.prog 215 = some (false, [.slice none 0 0]) := by kernel_rfl
theorem tL215 : EL Tryz.prog 215 = some 9 := by kernel_rfl
theorem tI217 : TI Tryz.prog 217 = some (false, 1) := by kernel_rfl
theorem tE217 : EInfo Tryz.prog 217 = some (1, 8) := by kernel_rfl
theorem tZ217 : ZV Tryz.prog 217 = some [.pointer none] := by kernel_rfl
theorem tG217 : ZG Tryz.prog 217 = some (false, [.pointer none]) := by kernel_rfl
theorem tU217 : Tryz.prog.underlying 217 = some (.pointer 206) := by kernel_rfl
theorem tI229 : TI Tryz.prog 229 = some (true, 4) := by kernel_rfl
theorem tE229 : EInfo Tryz.prog 229 = some (4, 40) := by kernel_rfl
theorem tZ229 : ZV Tryz.prog 229 = some [.pointer none, .pointer none, .pointer none, .string ByteArray.empty] := by kernel_rfl
theorem tG229 : ZG Tryz.prog 229 = some (true, [.pointer none, .pointer none, .pointer none, .string ByteArray.empty]) := by kernel_rfl
theorem tF229_0 : FO Tryz.prog 229 0 = some 0 := by kernel_rfl
theorem tF229_1 : FO Tryz.prog 229 1 = some 1 := by kernel_rfl
theorem tF229_2 : FO Tryz.prog 229 2 = some 2 := by kernel_rfl
theorem tF229_3 : FO Tryz.prog 229 3 = some 3 := by kernel_rfl
theorem tP229 : PLs Tryz.prog 229 = some (.st [(0, 1), (1, 1), (2, 1), (3, 1)]) := by kernel_rfl
theorem tI238 : TI Tryz.prog 238 = some (false, 1) := by kernel_rfl
theorem tE238 : EInfo Tryz.prog 238 = some (1, 8) := by kernel_rfl
theorem tZ238 : ZV Tryz.prog 238 = some [.pointer none] := by kernel_rfl
theorem tG238 : ZG Tryz.prog 238 = some (false, [.pointer none]) := by kernel_rfl
theorem tU238 : Tryz.prog.underlying 238 = some (.pointer 5) := by kernel_rfl
theorem tI241 : TI Tryz.prog 241 = some (true, 11) := by kernel_rfl
theorem tE241 : EInfo Tryz.prog 241 = some (11, 48) := by kernel_rfl
theorem tZ241 : ZV Tryz.prog 241 = some [.int .u64 0, .int .u64 0, .int .u32 0, .int .u8 0, .int .u8 0, .int .u8 0, .int .u8 0, .nilFunc, .pointer none, .int .i32 0, .int .i32 0] := by kernel_rfl
theorem tG241 : ZG Tryz.prog 241 = some (true, [.int .u64 0, .int .u64 0, .int .u32 0, .int .u8 0, .int .u8 0, .int .u8 0, .int .u8 0, .nilFunc, .pointer none, .int .i32 0, .int .i32 0]) := by kernel_rfl
theorem tF241_0 : FO Tryz.prog 241 0 = some 0 := by kernel_rfl
theorem tF241_1 : FO Tryz.prog 241 1 = some 1 := by kernel_rfl
theorem tF241_2 : FO Tryz.prog 241 2 = some 2 := by kernel_rfl
theorem tF241_3 : FO Tryz.prog 241 3 = some 3 := by kernel_rfl
theorem tF241_4 : FO Tryz.prog 241 4 = some 4 := by kernel_rfl
theorem tF241_5 : FO Tryz.prog 241 5 = some 5 := by kernel_rfl
theorem tF241_6 : FO Tryz.prog 241 6 = some 6 := by kernel_rfl
theorem tF241_7 : FO Tryz.prog 241 7 = some 7 := by kernel_rfl
theorem tF241_8 : FO Tryz.prog 241 8 = some 8 := by kernel_rfl
theorem tF241_9 : FO Tryz.prog 241 9 = some 9 := by kernel_rfl
theorem tF241_10 : FO Tryz.prog 241 10 = some 10 := by kernel_rfl
theorem tP241 : PLs Tryz.prog 241 = some (.st [(0, 1), (1, 1), (2, 1), (3, 1), (4, 1), (5, 1), (6, 1), (7, 1), (8, 1), (9, 1), (10, 1)]) := by kernel_rfl
theorem tI243 : TI Tryz.prog 243 = some (false, 1) := by kernel_rfl
theorem tE243 : EInfo Tryz.prog 243 = some (1, 8) := by kernel_rfl
theorem tZ243 : ZV Tryz.prog 243 = some [.pointer none] := by kernel_rfl
theorem tG243 : ZG Tryz.prog 243 = some (false, [.pointer none]) := by kernel_rfl
theorem kd3 : Maps.Keyed Tryz.prog 3 := Maps.int_keyed tU3
attribute [go_sem] tI2 tE2 tZ2 tG2 tU2 tI3 tE3 tZ3 tG3 tU3 tI4 tE4 tZ4 tG4 tU4 tI5 tE5 tZ5 tG5 tU5 tI7 tE7 tZ7 tG7 tF7_0 tF7_1 tF7_2 tF7_3 tP7 tI9 tE9 tZ9 tG9 tU9 tI12 tE12 tZ12 tG12 tU12 tI13 tE13 tZ13 tG13 tF13_0 tF13_1 tP13 tI18 tE18 tZ18 tG18 tF18_0 tP18 tI19 tE19 tZ19 tG19 tF19_0 tP19 tI20 tE20 tZ20 tG20 tI21 tE21 tZ21 tG21 tU21 tI22 tE22 tZ22 tG22 tL22 tI23 tE23 tZ23 tG23 tL23 tI25 tE25 tZ25 tG25 tL25 tI26 tE26 tZ26 tG26 tL26 tI27 tE27 tZ27 tG27 tF27_0 tF27_1 tF27_2 tF27_3 tF27_4 tF27_5 tP27 tI28 tE28 tZ28 tG28 tF28_0 tF28_1 tF28_2 tF28_3 tF28_4 tF28_5 tP28 tI30 tE30 tZ30 tG30 tL30 tI34 tE34 tZ34 tG34 tF34_0 tF34_1 tF34_2 tF34_3 tP34 tI35 tE35 tZ35 tG35 tF35_0 tF35_1 tF35_2 tF35_3 tP35 tI52 tE52 tZ52 tG52 tL52 tI53 tE53 tZ53 tG53 tU53 tI54 tE54 tZ54 tG54 tP54 tI55 tE55 tZ55 tG55 tL55 tI56 tE56 tZ56 tG56 tF56_0 tF56_1 tF56_2 tF56_3 tP56 tI57 tE57 tZ57 tG57 tF57_0 tF57_1 tF57_2 tF57_3 tP57 tI58 tE58 tZ58 tG58 tL58 tI60 tE60 tZ60 tG60 tL60 tI63 tE63 tZ63 tG63 tU63 tI65 tE65 tZ65 tG65 tU65 tI68 tE68 tZ68 tG68 tL68 tI69 tE69 tZ69 tG69 tF69_0 tF69_1 tF69_2 tF69_3 tP69 tI70 tE70 tZ70 tG70 tF70_0 tF70_1 tF70_2 tF70_3 tP70 tI71 tE71 tZ71 tG71 tL71 tI73 tE73 tZ73 tG73 tF73_0 tF73_1 tF73_2 tP73 tI74 tE74 tZ74 tG74 tF74_0 tF74_1 tF74_2 tP74 tI85 tE85 tZ85 tG85 tL85 tI86 tE86 tZ86 tG86 tL86 tI87 tE87 tZ87 tG87 tF87_0 tF87_1 tF87_2 tF87_3 tF87_4 tF87_5 tF87_6 tF87_7 tF87_8 tF87_9 tF87_10 tF87_11 tF87_12 tF87_13 tP87 tI88 tE88 tZ88 tG88 tF88_0 tF88_1 tF88_2 tF88_3 tF88_4 tF88_5 tF88_6 tF88_7 tF88_8 tF88_9 tF88_10 tF88_11 tF88_12 tF88_13 tP88 tI93 tE93 tZ93 tG93 tP93 tI94 tE94 tZ94 tG94 tU94 tM94 tI96 tE96 tZ96 tG96 tU96 tM96 tI100 tE100 tZ100 tG100 tI107 tE107 tZ107 tG107 tL107 tI108 tE108 tZ108 tG108 tF108_0 tF108_1 tF108_2 tP108 tI109 tE109 tZ109 tG109 tF109_0 tF109_1 tF109_2 tP109 tI111 tE111 tZ111 tG111 tF111_0 tF111_1 tF111_2 tF111_3 tF111_4 tP111 tI112 tE112 tZ112 tG112 tF112_0 tF112_1 tF112_2 tF112_3 tF112_4 tP112 tI113 tE113 tZ113 tG113 tU113 tM113 tI114 tE114 tZ114 tG114 tF114_0 tP114 tI115 tE115 tZ115 tG115 tF115_0 tP115 tI124 tE124 tZ124 tG124 tF124_0 tF124_1 tF124_2 tF124_3 tF124_4 tF124_5 tF124_6 tF124_7 tF124_8 tF124_9 tF124_10 tP124 tI125 tE125 tZ125 tG125 tF125_0 tF125_1 tF125_2 tF125_3 tF125_4 tF125_5 tF125_6 tF125_7 tF125_8 tF125_9 tF125_10 tP125 tI131 tE131 tZ131 tG131 tF131_0 tF131_1 tF131_2 tP131 tI132 tE132 tZ132 tG132 tF132_0 tF132_1 tF132_2 tP132 tI133 tE133 tZ133 tG133 tF133_0 tF133_1 tP133 tI134 tE134 tZ134 tG134 tF134_0 tF134_1 tP134 tI136 tE136 tZ136 tG136 tF136_0 tF136_1 tP136 tI137 tE137 tZ137 tG137 tF137_0 tF137_1 tP137 tI140 tE140 tZ140 tG140 tL140 tI149 tE149 tZ149 tG149 tF149_0 tF149_1 tF149_2 tF149_3 tF149_4 tP149 tI150 tE150 tZ150 tG150 tF150_0 tF150_1 tF150_2 tF150_3 tF150_4 tP150 tI160 tE160 tZ160 tG160 tU160 tI161 tE161 tZ161 tG161 tU161 tI168 tE168 tZ168 tG168 tL168 tI175 tE175 tZ175 tG175 tI177 tE177 tZ177 tG177 tL177 tI178 tE178 tZ178 tG178 tP178 tI187 tE187 tZ187 tG187 tU187 tI194 tE194 tZ194 tG194 tU194 tI206 tE206 tZ206 tG206 tU206 tI210 tE210 tZ210 tG210 tU210 tI215 tE215 tZ215 tG215 tL215 tI217 tE217 tZ217 tG217 tU217 tI229 tE229 tZ229 tG229 tF229_0 tF229_1 tF229_2 tF229_3 tP229 tI238 tE238 tZ238 tG238 tU238 tI241 tE241 tZ241 tG241 tF241_0 tF241_1 tF241_2 tF241_3 tF241_4 tF241_5 tF241_6 tF241_7 tF241_8 tF241_9 tF241_10 tP241 tI243 tE243 tZ243 tG243
def tbL : List (Nat × Nat) := [(22, 93), (23, 93), (25, 35), (26, 3), (30, 88), (52, 109), (55, 150), (58, 5), (60, 70), (68, 112), (71, 74), (85, 134), (86, 137), (107, 125), (140, 26), (168, 65), (177, 30), (215, 9)]
theorem aTL {t e : Nat} (h : lk tbL t = some e) : EL Tryz.prog t = some e := lk_all (Q := fun t e => EL Tryz.prog t = some e) (by
  intro _ h
  simp only [tbL, List.mem_cons, List.not_mem_nil, or_false] at h
  rcases h with rfl | rfl | rfl | rfl | rfl | rfl | rfl | rfl | rfl | rfl | rfl | rfl | rfl | rfl | rfl | rfl | rfl | rfl
  · exact tL22
  · exact tL23
  · exact tL25
  · exact tL26
  · exact tL30
  · exact tL52
  · exact tL55
  · exact tL58
  · exact tL60
  · exact tL68
  · exact tL71
  · exact tL85
  · exact tL86
  · exact tL107
  · exact tL140
  · exact tL168
  · exact tL177
  · exact tL215) h
def tbM : List (Nat × Nat × Nat) := [(94, 3, 3), (96, 3, 4), (113, 3, 30)]
theorem aTM {t : Nat} {e : Nat × Nat} (h : lk tbM t = some e) : MT Tryz.prog t = some e := lk_all (Q := fun t e => MT Tryz.prog t = some e) (by
  intro _ h
  simp only [tbM, List.mem_cons, List.not_mem_nil, or_false] at h
  rcases h with rfl | rfl | rfl
  · exact tM94
  · exact tM96
  · exact tM113) h
def tbG : List (Nat × Bool × List Value) := [(3, (false, [.int .i64 0])), (4, (false, [.bool false])), (30, (false, [.slice none 0 0]))]
theorem aTG {t : Nat} {e : Bool × List Value} (h : lk tbG t = some e) : ZG Tryz.prog t = some e := lk_all (Q := fun t e => ZG Tryz.prog t = some e) (by
  intro _ h
  simp only [tbG, List.mem_cons, List.not_mem_nil, or_false] at h
  rcases h with rfl | rfl | rfl
  · exact tG3
  · exact tG4
  · exact tG30) h
theorem aKD {t : Nat} (h : (Nat.beq t 3) = true) : Go.Maps.Keyed Tryz.prog t := by
  rcases h with h
  · cases beq_t h; exact kd3
theorem aMo : Tryz.prog.follows .mixedOrders = true := by kernel_rfl
end Go.Proofs.YtigenjeealkdlaaGreat
namespace Go.Proofs.YtigenjeealkdlaaGreat
open Go.RowKit Go.Exe
theorem isNaN_c (n : ByteArray) : PCall Tryz.prog 146 [ft (.string n)] (ft (.bool false)) := by
  refine PCall.intro (nt := 6) (rs := [.tmp 2]) Tryz.func146 rfl ⟨by kernel_rfl, by kernel_rfl, by kernel_rfl⟩ (by simp) ?_
  rintro ⟨P, w0, ok0, may, np, pblk⟩ rfl rfl
  repeat' (first | refine W.seq fun K hK => ?_ | refine W.block ?_ | ((first | refine wR ?_ | refine wD ?_ | refine W.skip ?_ | refine W.exit ?_ | refine W.ret (Post.ret ?_) | refine aP0 ?_ | refine aF0 ?_); simp only [go_sem]) | refine wT ?_ | refine wF ?_ | refine wC (fun h => ?_) (fun h => ?_) | refine iK ?_ | refine aI2 ?_ | (refine hK _ ?_; clear hK K) | clear hK K)
def cmpB (a b : ByteArray) : Int := if Op.bytesLess a.toList b.toList then -1 else if !(Op.bytesLess a.toList b.toList || a.toList == b.toList) then 1 else 0
theorem cmpCompare_c (a b : ByteArray) : PCall Tryz.prog 125 [ft (.string a), ft (.string b)] (ft (.int .i64 (cmpB a b))) := by
  have c1 := isNaN_c
  refine PCall.intro (nt := 20) (rs := [.tmp 4]) Tryz.func125 rfl ⟨by kernel_rfl, by kernel_rfl, by kernel_rfl⟩ (by simp) ?_
  rintro ⟨P, w0, ok0, may, np, pblk⟩ rfl rfl
  repeat' (first | refine W.seq fun K hK => ?_ | refine W.block ?_ | ((first | refine wR ?_ | refine wD ?_ | refine W.skip ?_ | refine W.exit ?_ | refine W.ret (Post.ret ?_) | refine aP0 ?_ | refine aF0 ?_); simp only [go_sem]) | refine wT ?_ | refine wF ?_ | refine wC (fun h => ?_) (fun h => ?_) | refine iK ?_ | refine aI2 ?_ | (refine hK _ ?_; clear hK K) | clear hK K)
  all_goals simp_all [cmpB]
def iA (n : Int) : List AV := [.flat (.int .i64 n)]
def orL : List Int → Int
  | [] => 0
  | x :: r => if x = 0 then orL r else x
theorem cmpOr_c (l : List Int) : PCall Tryz.prog 123 [.c (.im (.sl 3 (l.map iA)))] (ft (.int .i64 (orL l))) := by
  refine PCall.intro (nt := 18) (rs := [.tmp 2]) Tryz.func123 rfl ⟨by kernel_rfl, by kernel_rfl, by kernel_rfl⟩ (by simp) ?_
  rintro ⟨P, w0, ok0, may, np, pblk⟩ rfl rfl
  refine W.lenIm 0 rfl fun hlen => ?_
  rw [List.length_map, maxLen_is] at hlen
  repeat' (first | refine W.seq fun K hK => ?_ | refine W.block ?_ | ((first | refine wR ?_ | refine wD ?_ | refine W.skip ?_ | refine W.exit ?_ | refine W.ret (Post.ret ?_) | refine aP ?_ | refine aF ?_ | refine aL ?_ | refine aU (hnn := by simp only [go_sem, reduceCtorEq, List.length_map]) ?_ | refine aM ?_ | refine aN ?_ | refine aR ?_ | refine aS (hb := by simp only [go_sem, reduceCtorEq, List.length_map]; first | omega | (simp; omega)) ?_ | refine aH ?_ | refine aI ?_ | refine aB ?_ | refine aZ ?_); simp only [go_sem, reduceCtorEq, List.length_map]) | refine wT ?_ | refine wF ?_ | refine wC (fun h => ?_) (fun h => ?_) | refine iK ?_ | refine aI2 ?_ | (refine hK _ ?_; clear hK K) | clear hK K)
  refine W.loopF (T := fun i : Nat => { t := [(2, ft (.int .i64 0)), (3, ft (.int .i64 0)), (6, .c (.im (.sl 3 (l.map iA)))), (7, ft (.int .i64 l.length)), (8, ft (.int .i64 (i : Nat)))], h := [], nx := 0, ex := [], nt := 18 })
    (Inv := fun i => i ≤ l.length ∧ orL l = orL (l.drop i)) (μ := fun i => l.length - i) (x0 := 0) (Fits.fit [] [2, 3, 6, 7, 8] 0 rfl rfl ?_) ⟨Nat.zero_le _, rfl⟩ ?_
  · simp only [go_sem]
    exact Fits.rfl
  rintro i ⟨hi, hinv⟩ KL hKL
  by_cases hlt : i < l.length
  · obtain ⟨x, hx, hm, hd⟩ := drop_at hlt
    have e1 : decide ((i : Int) < l.length) = true := by simp; omega
    have hw := w64s i (by omega)
    by_cases h0 : x = 0
    · have e2 : (x != 0) = false := by simp [h0]
      repeat' (first | refine W.seq fun K hK => ?_ | refine W.block ?_ | ((first | refine wR ?_ | refine wD ?_ | refine W.skip ?_ | refine W.exit ?_ | refine W.ret (Post.ret ?_) | refine aP ?_ | refine aF ?_ | refine aL ?_ | refine aU (hnn := by simp only [go_sem, reduceCtorEq, e1, e2, hw, List.getElem?_map, hx, iA]) ?_ | refine aM ?_ | refine aN ?_ | refine aR ?_ | refine aS (hb := by simp only [go_sem, reduceCtorEq, e1, e2, hw, List.getElem?_map, hx, iA]; first | omega | (simp; omega)) ?_ | refine aH ?_ | refine aI ?_ | refine aB ?_ | refine aZ ?_); simp only [go_sem, reduceCtorEq, e1, e2, hw, List.getElem?_map, hx, iA]) | refine wT ?_ | refine wF ?_ | refine wC (fun h => ?_) (fun h => ?_) | refine iK ?_ | refine aI2 ?_ | (refine hK _ ?_; clear hK K) | clear hK K)
      refine hKL.to (i + 1) ⟨by omega, ?_⟩ (by omega) (Fits.fit [] [2, 3, 6, 7, 8] 0 rfl rfl ?_)
      · rw [hinv, hd]; simp [orL, h0]
      · simp only [go_sem]
        exact Fits.rfl
    · have e2 : (x != 0) = true := by simp [h0]
      repeat' (first | refine W.seq fun K hK => ?_ | refine W.block ?_ | ((first | refine wR ?_ | refine wD ?_ | refine W.skip ?_ | refine W.exit ?_ | refine W.ret (Post.ret ?_) | refine aP ?_ | refine aF ?_ | refine aL ?_ | refine aU (hnn := by simp only [go_sem, reduceCtorEq, e1, e2, hw, List.getElem?_map, hx, iA]) ?_ | refine aM ?_ | refine aN ?_ | refine aR ?_ | refine aS (hb := by simp only [go_sem, reduceCtorEq, e1, e2, hw, List.getElem?_map, hx, iA]; first | omega | (simp; omega)) ?_ | refine aH ?_ | refine aI ?_ | refine aB ?_ | refine aZ ?_); simp only [go_sem, reduceCtorEq, e1, e2, hw, List.getElem?_map, hx, iA]) | refine wT ?_ | refine wF ?_ | refine wC (fun h => ?_) (fun h => ?_) | refine iK ?_ | refine aI2 ?_ | (refine hK _ ?_; clear hK K) | clear hK K)
      simp [hinv, hd, orL, h0]
  · have e1 : decide ((i : Int) < l.length) = false := by simp; omega
    obtain rfl : i = l.length := by omega
    clear hKL
    repeat' (first | refine W.seq fun K hK => ?_ | refine W.block ?_ | ((first | refine wR ?_ | refine wD ?_ | refine W.skip ?_ | refine W.exit ?_ | refine W.ret (Post.ret ?_) | refine aP ?_ | refine aF ?_ | refine aL ?_ | refine aU (hnn := by simp only [go_sem, reduceCtorEq, e1]) ?_ | refine aM ?_ | refine aN ?_ | refine aR ?_ | refine aS (hb := by simp only [go_sem, reduceCtorEq, e1]; first | omega | (simp; omega)) ?_ | refine aH ?_ | refine aI ?_ | refine aB ?_ | refine aZ ?_); simp only [go_sem, reduceCtorEq, e1]) | refine wT ?_ | refine wF ?_ | refine wC (fun h => ?_) (fun h => ?_) | refine iK ?_ | refine aI2 ?_ | (refine hK _ ?_; clear hK K) | clear hK K)
    simp [hinv, orL]
def cmpsG {α : Type} (cm : α → α → Int) : List α → List α → Int
  | [], [] => 0
  | [], _ :: _ => -1
  | _ :: _, [] => 1
  | x :: r, y :: q => if cm x y ≠ 0 then cm x y else cmpsG cm r q
theorem imR_nil : imR [] = [] := rfl
structure Lw {α : Type} (cm : α → α → Int) : Prop where
  anti : ∀ a b, cm b a = - cm a b
  tr : ∀ a b c, cm a b ≤ 0 → cm b c ≤ 0 → cm a c ≤ 0
  eq : ∀ a b, cm a b = 0 → a = b
theorem Lw.refl {α : Type} {cm : α → α → Int} (h : Lw cm) (a : α) : cm a a = 0 := by have := h.anti a a; omega
theorem Lw.lt1 {α : Type} {cm : α → α → Int} (h : Lw cm) {a b c : α} (h1 : cm a b < 0) (h2 : cm b c ≤ 0) : cm a c < 0 := by
  have h3 := h.tr a b c (by omega) h2
  by_cases h4 : cm a c = 0
  · have := h.eq a c h4
    subst this
    have := h.anti a b
    omega
  · omega
theorem cmpsG_anti {α : Type} {cm : α → α → Int} : ∀ (x y : List α), (∀ a ∈ x, ∀ b ∈ y, cm b a = - cm a b) → cmpsG cm y x = - cmpsG cm x y
  | [], [], _ => rfl
  | [], _ :: _, _ => rfl
  | _ :: _, [], _ => rfl
  | a :: x, b :: y, h => by
    have h1 := h a (by simp) b (by simp)
    have h2 := cmpsG_anti x y fun a ha b hb => h a (by simp [ha]) b (by simp [hb])
    simp only [cmpsG]
    split <;> split <;> omega
theorem cmpsG_eq {α : Type} {cm : α → α → Int} : ∀ (x y : List α), (∀ a ∈ x, ∀ b ∈ y, cm a b = 0 → a = b) → cmpsG cm x y = 0 → x = y
  | [], [], _, _ => rfl
  | [], _ :: _, _, h => by simp [cmpsG] at h
  | _ :: _, [], _, h => by simp [cmpsG] at h
  | a :: x, b :: y, h, h0 => by
    simp only [cmpsG] at h0
    split at h0
    · omega
    · rename_i h1
      have e := h a (by simp) b (by simp) (by omega)
      have := cmpsG_eq x y (fun a ha b hb => h a (by simp [ha]) b (by simp [hb])) h0
      rw [e, this]
theorem cmpsG_tr {α : Type} {cm : α → α → Int} : ∀ (x y z : List α), (∀ a ∈ x, ∀ b, cm b a = - cm a b) → (∀ a ∈ x, ∀ b c, cm a b ≤ 0 → cm b c ≤ 0 → cm a c ≤ 0) → (∀ a ∈ x, ∀ b, cm a b = 0 → a = b) → (∀ a b, cm a b = 0 → a = b) → cmpsG cm x y ≤ 0 → cmpsG cm y z ≤ 0 → cmpsG cm x z ≤ 0
  | [], _, [], _, _, _, _, _, _ => by simp [cmpsG]
  | [], _, _ :: _, _, _, _, _, _, _ => by simp [cmpsG]
  | _ :: _, [], _, _, _, _, _, h, _ => by simp [cmpsG] at h
  | _ :: _, _ :: _, [], _, _, _, _, _, h => by simp [cmpsG] at h
  | a :: x, b :: y, c :: z, ha, ht, he, he2, h1, h2 => by
    have ih := cmpsG_tr x y z (fun a h => ha a (by simp [h])) (fun a h => ht a (by simp [h])) (fun a h => he a (by simp [h])) he2
    have t1 := ht a (by simp) b c
    have n1 := ha a (by simp) b
    have n2 := ha a (by simp) c
    simp only [cmpsG] at h1 h2 ⊢
    split at h1
    · split at h2
      · have t2 := t1 h1 h2
        split
        · exact t2
        · rename_i h3 h4 h5
          have := he a (by simp) c (by omega)
          subst this
          omega
      · rename_i h3 h4
        have := he2 b c (by omega)
        subst this
        rw [if_pos h3]; exact h1
    · rename_i h3
      have := he a (by simp) b (by omega)
      subst this
      split at h2
      · rename_i h4
        rw [if_pos h4]; exact h2
      · rename_i h4
        rw [if_neg h4]; exact ih h1 h2
theorem Lw.list {α : Type} {cm : α → α → Int} (h : Lw cm) : Lw (cmpsG cm) :=
  ⟨fun x y => cmpsG_anti x y fun a _ b _ => h.anti a b, fun x y z => cmpsG_tr x y z (fun a _ b => h.anti a b) (fun a _ b c => h.tr a b c) (fun a _ b => h.eq a b) h.eq, fun x y => cmpsG_eq x y fun a _ b _ => h.eq a b⟩
def cmpU (a b : UInt8) : Int := if a < b then -1 else if b < a then 1 else 0
theorem lwU : Lw cmpU := by
  refine ⟨fun a b => ?_, fun a b c h1 h2 => ?_, fun a b h => ?_⟩
  · simp only [cmpU, UInt8.lt_iff_toNat_lt]; split <;> split <;> omega
  · simp only [cmpU, UInt8.lt_iff_toNat_lt] at *; split at h1 <;> split at h2 <;> (try split at h1) <;> (try split at h2) <;> split <;> (try split) <;> omega
  · simp only [cmpU, UInt8.lt_iff_toNat_lt] at h
    apply UInt8.toNat_inj.1
    split at h
    · omega
    · split at h <;> omega
theorem cmpL_eq : ∀ (x y : List UInt8), (if Op.bytesLess x y then (-1 : Int) else if !(Op.bytesLess x y || x == y) then 1 else 0) = cmpsG cmpU x y
  | [], [] => by simp [Op.bytesLess, cmpsG]
  | [], _ :: _ => by simp [Op.bytesLess, cmpsG]
  | _ :: _, [] => by simp [Op.bytesLess, cmpsG]
  | a :: x, b :: y => by
    have ih := cmpL_eq x y
    simp only [cmpsG, ← ih, Op.bytesLess, cmpU]
    by_cases h1 : a < b
    · simp [h1]
    · by_cases h2 : b < a
      · have h3 : a ≠ b := fun e => by subst e; exact h1 h2
        simp [h1, h2, h3]
      · have h3 : a = b := by
          simp only [UInt8.lt_iff_toNat_lt] at h1 h2
          exact UInt8.toNat_inj.1 (by omega)
        subst h3
        simp [h1]
theorem lwB : Lw cmpB := by
  have key : ∀ a b, cmpB a b = cmpsG cmpU a.toList b.toList := fun a b => cmpL_eq _ _
  refine ⟨fun a b => ?_, fun a b c => ?_, fun a b h => ?_⟩
  · rw [key, key]; exact lwU.list.anti _ _
  · rw [key, key, key]; exact lwU.list.tr _ _ _
  · rw [key] at h
    have := lwU.list.eq _ _ h
    rw [ByteArray.toList_eq, ByteArray.toList_eq] at this
    exact ByteArray.ext (Array.toList_inj.1 this)
theorem Lw.ord {α : Type} {cm : α → α → Int} (h : Lw cm) (l : List α) : OrdOn cm l :=
  ⟨fun x _ h1 => by have := h.refl x; omega, fun x _ y _ z _ h1 h2 => h.lt1 h1 (by omega), fun x _ y _ z _ h1 h2 h3 => by
    have a1 := h.anti x y
    have a2 := h.anti y z
    have a3 := h.anti x z
    have := h.tr z y x (by omega) (by omega)
    omega⟩
theorem Lw.uni {α : Type} {cm : α → α → Int} (h : Lw cm) : ∀ {l m : List α}, l.Perm m → l.Pairwise (fun a b => ¬ cm b a < 0) → m.Pairwise (fun a b => ¬ cm b a < 0) → l = m
  | [], m, hp, _, _ => by rw [List.nil_perm.1 hp]
  | x :: r, [], hp, _, _ => by have := hp.length_eq; simp at this
  | x :: r, y :: q, hp, h1, h2 => by
    rw [List.pairwise_cons] at h1 h2
    have e : x = y := by
      have hx : x ∈ y :: q := hp.subset (by simp)
      have hy : y ∈ x :: r := hp.symm.subset (by simp)
      rcases List.mem_cons.1 hx with e | hx
      · exact e
      · rcases List.mem_cons.1 hy with e | hy
        · exact e.symm
        · have a1 := h1.1 y hy
          have a2 := h2.1 x hx
          have a3 := h.anti x y
          exact h.eq x y (by omega)
    subst e
    rw [Lw.uni h (List.perm_cons x |>.1 hp) h1.2 h2.2]
theorem seen_perm {n : Nat} {seen : List Nat} (hn : seen.Nodup) (hb : ∀ j ∈ seen, j < n) (ha : ∀ j, j < n → j ∈ seen) : seen.Perm (List.range n) :=
  (List.perm_ext_iff_of_nodup hn List.nodup_range).2 fun j => by rw [List.mem_range]; exact ⟨hb j, ha j⟩
theorem seen_le : ∀ {n : Nat} {seen : List Nat}, seen.Nodup → (∀ j ∈ seen, j < n) → seen.length ≤ n
  | 0, seen, _, hb => by
    cases seen with
    | nil => simp
    | cons x l => exact absurd (hb x (by simp)) (by omega)
  | n + 1, seen, hn, hb => by
    have := seen_le (n := n) (hn.erase n) fun j hj => by
      have := (hn.mem_erase_iff).1 hj
      have := hb j this.2
      omega
    rw [List.length_erase] at this
    split at this <;> omega
end Go.Proofs.YtigenjeealkdlaaGreat
