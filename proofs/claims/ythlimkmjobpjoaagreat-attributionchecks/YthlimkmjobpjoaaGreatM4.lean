import Derived.Test.YthlimkmjobpjoaaGreatM3
import Derived.DeepKeys4
import Derived.Test.YthlimkmjobpjoaaGreatProg
set_option linter.unusedVariables false
set_option linter.unusedSimpArgs false
set_option maxHeartbeats 8000000
set_option maxRecDepth 100000
/-
  BTya: the facts of the program's types, for the reckoning.
-/
namespace Go.Proofs.YthlimkmjobpjoaaGreat
open Go Go.RowKit Go.Exe

theorem tI3 : TI Tryz.prog 3 = some (false, 1) := by kernel_rfl
theorem tE3 : EInfo Tryz.prog 3 = some (1, 8) := by kernel_rfl
theorem tZ3 : ZV Tryz.prog 3 = some [.int .i64 0] := by kernel_rfl
theorem tG3 : ZG Tryz.prog 3 = some (false, [.int .i64 0]) := by kernel_rfl
theorem tU3 : Tryz.prog.underlying 3 = some (.int .i64) := by kernel_rfl
theorem tI4 : TI Tryz.prog 4 = some (false, 1) := by kernel_rfl
theorem tE4 : EInfo Tryz.prog 4 = some (1, 1) := by kernel_rfl
theorem tZ4 : ZV Tryz.prog 4 = some [.bool false] := by kernel_rfl
theorem tG4 : ZG Tryz.prog 4 = some (false, [.bool false]) := by kernel_rfl
theorem tU4 : Tryz.prog.underlying 4 = some .bool := by kernel_rfl
theorem tI9 : TI Tryz.prog 9 = some (false, 1) := by kernel_rfl
theorem tE9 : EInfo Tryz.prog 9 = some (1, 16) := by kernel_rfl
theorem tZ9 : ZV Tryz.prog 9 = some [.string ByteArray.empty] := by kernel_rfl
theorem tG9 : ZG Tryz.prog 9 = some (false, [.string ByteArray.empty]) := by kernel_rfl
theorem tU9 : Tryz.prog.underlying 9 = some .string := by kernel_rfl
theorem tI22 : TI Tryz.prog 22 = some (false, 1) := by kernel_rfl
theorem tE22 : EInfo Tryz.prog 22 = some (1, 24) := by kernel_rfl
theorem tZ22 : ZV Tryz.prog 22 = some [.slice none 0 0] := by kernel_rfl
theorem tG22 : ZG Tryz.prog 22 = some (false, [.slice none 0 0]) := by kernel_rfl
theorem tL22 : EL Tryz.prog 22 = some 88 := by kernel_rfl
theorem tI25 : TI Tryz.prog 25 = some (false, 1) := by kernel_rfl
theorem tE25 : EInfo Tryz.prog 25 = some (1, 24) := by kernel_rfl
theorem tZ25 : ZV Tryz.prog 25 = some [.slice none 0 0] := by kernel_rfl
theorem tG25 : ZG Tryz.prog 25 = some (false, [.slice none 0 0]) := by kernel_rfl
theorem tL25 : EL Tryz.prog 25 = some 279 := by kernel_rfl
theorem tI30 : TI Tryz.prog 30 = some (false, 1) := by kernel_rfl
theorem tE30 : EInfo Tryz.prog 30 = some (1, 24) := by kernel_rfl
theorem tZ30 : ZV Tryz.prog 30 = some [.slice none 0 0] := by kernel_rfl
theorem tG30 : ZG Tryz.prog 30 = some (false, [.slice none 0 0]) := by kernel_rfl
theorem tL30 : EL Tryz.prog 30 = some 42 := by kernel_rfl
theorem tI31 : TI Tryz.prog 31 = some (false, 1) := by kernel_rfl
theorem tE31 : EInfo Tryz.prog 31 = some (1, 24) := by kernel_rfl
theorem tZ31 : ZV Tryz.prog 31 = some [.slice none 0 0] := by kernel_rfl
theorem tG31 : ZG Tryz.prog 31 = some (false, [.slice none 0 0]) := by kernel_rfl
theorem tL31 : EL Tryz.prog 31 = some 85 := by kernel_rfl
theorem tI34 : TI Tryz.prog 34 = some (false, 1) := by kernel_rfl
theorem tE34 : EInfo Tryz.prog 34 = some (1, 24) := by kernel_rfl
theorem tZ34 : ZV Tryz.prog 34 = some [.slice none 0 0] := by kernel_rfl
theorem tG34 : ZG Tryz.prog 34 = some (false, [.slice none 0 0]) := by kernel_rfl
theorem tL34 : EL Tryz.prog 34 = some 65 := by kernel_rfl
theorem tI35 : TI Tryz.prog 35 = some (false, 1) := by kernel_rfl
theorem tE35 : EInfo Tryz.prog 35 = some (1, 24) := by kernel_rfl
theorem tZ35 : ZV Tryz.prog 35 = some [.slice none 0 0] := by kernel_rfl
theorem tG35 : ZG Tryz.prog 35 = some (false, [.slice none 0 0]) := by kernel_rfl
theorem tL35 : EL Tryz.prog 35 = some 65 := by kernel_rfl
theorem tI36 : TI Tryz.prog 36 = some (false, 1) := by kernel_rfl
theorem tE36 : EInfo Tryz.prog 36 = some (1, 8) := by kernel_rfl
theorem tZ36 : ZV Tryz.prog 36 = some [.int .i64 0] := by kernel_rfl
theorem tG36 : ZG Tryz.prog 36 = some (false, [.int .i64 0]) := by kernel_rfl
theorem tU36 : Tryz.prog.underlying 36 = some (.int .i64) := by kernel_rfl
theorem tI39 : TI Tryz.prog 39 = some (false, 1) := by kernel_rfl
theorem tE39 : EInfo Tryz.prog 39 = some (1, 24) := by kernel_rfl
theorem tZ39 : ZV Tryz.prog 39 = some [.slice none 0 0] := by kernel_rfl
theorem tG39 : ZG Tryz.prog 39 = some (false, [.slice none 0 0]) := by kernel_rfl
theorem tL39 : EL Tryz.prog 39 = some 231 := by kernel_rfl
theorem tI40 : TI Tryz.prog 40 = some (false, 1) := by kernel_rfl
theorem tE40 : EInfo Tryz.prog 40 = some (1, 24) := by kernel_rfl
theorem tZ40 : ZV Tryz.prog 40 = some [.slice none 0 0] := by kernel_rfl
theorem tG40 : ZG Tryz.prog 40 = some (false, [.slice none 0 0]) := by kernel_rfl
theorem tL40 : EL Tryz.prog 40 = some 114 := by kernel_rfl
theorem tI42 : TI Tryz.prog 42 = some (true, 14) := by kernel_rfl
theorem tE42 : EInfo Tryz.prog 42 = some (14, 168) := by kernel_rfl
theorem tZ42 : ZV Tryz.prog 42 = some [.int .i64 0, .int .i64 0, .int .i64 0, .int .i64 0, .int .i64 0, .int .i64 0, .string ByteArray.empty, .string ByteArray.empty, .string ByteArray.empty, .int .i64 0, .int .i64 0, .bool false, .slice none 0 0, .slice none 0 0] := by kernel_rfl
theorem tG42 : ZG Tryz.prog 42 = some (true, [.int .i64 0, .int .i64 0, .int .i64 0, .int .i64 0, .int .i64 0, .int .i64 0, .string ByteArray.empty, .string ByteArray.empty, .string ByteArray.empty, .int .i64 0, .int .i64 0, .bool false, .slice none 0 0, .slice none 0 0]) := by kernel_rfl
theorem tF42_0 : FO Tryz.prog 42 0 = some 0 := by kernel_rfl
theorem tF42_1 : FO Tryz.prog 42 1 = some 1 := by kernel_rfl
theorem tF42_2 : FO Tryz.prog 42 2 = some 2 := by kernel_rfl
theorem tF42_3 : FO Tryz.prog 42 3 = some 3 := by kernel_rfl
theorem tF42_4 : FO Tryz.prog 42 4 = some 4 := by kernel_rfl
theorem tF42_5 : FO Tryz.prog 42 5 = some 5 := by kernel_rfl
theorem tF42_6 : FO Tryz.prog 42 6 = some 6 := by kernel_rfl
theorem tF42_7 : FO Tryz.prog 42 7 = some 7 := by kernel_rfl
theorem tF42_8 : FO Tryz.prog 42 8 = some 8 := by kernel_rfl
theorem tF42_9 : FO Tryz.prog 42 9 = some 9 := by kernel_rfl
theorem tF42_10 : FO Tryz.prog 42 10 = some 10 := by kernel_rfl
theorem tF42_11 : FO Tryz.prog 42 11 = some 11 := by kernel_rfl
theorem tF42_12 : FO Tryz.prog 42 12 = some 12 := by kernel_rfl
theorem tF42_13 : FO Tryz.prog 42 13 = some 13 := by kernel_rfl
theorem tP42 : PLs Tryz.prog 42 = some (.st [(0, 1), (1, 1), (2, 1), (3, 1), (4, 1), (5, 1), (6, 1), (7, 1), (8, 1), (9, 1), (10, 1), (11, 1), (12, 1), (13, 1)]) := by kernel_rfl
theorem tI46 : TI Tryz.prog 46 = some (false, 1) := by kernel_rfl
theorem tE46 : EInfo Tryz.prog 46 = some (1, 24) := by kernel_rfl
theorem tZ46 : ZV Tryz.prog 46 = some [.slice none 0 0] := by kernel_rfl
theorem tG46 : ZG Tryz.prog 46 = some (false, [.slice none 0 0]) := by kernel_rfl
theorem tL46 : EL Tryz.prog 46 = some 96 := by kernel_rfl
theorem tI51 : TI Tryz.prog 51 = some (false, 1) := by kernel_rfl
theorem tE51 : EInfo Tryz.prog 51 = some (1, 24) := by kernel_rfl
theorem tZ51 : ZV Tryz.prog 51 = some [.slice none 0 0] := by kernel_rfl
theorem tG51 : ZG Tryz.prog 51 = some (false, [.slice none 0 0]) := by kernel_rfl
theorem tL51 : EL Tryz.prog 51 = some 3 := by kernel_rfl
theorem tI56 : TI Tryz.prog 56 = some (false, 1) := by kernel_rfl
theorem tE56 : EInfo Tryz.prog 56 = some (1, 24) := by kernel_rfl
theorem tZ56 : ZV Tryz.prog 56 = some [.slice none 0 0] := by kernel_rfl
theorem tG56 : ZG Tryz.prog 56 = some (false, [.slice none 0 0]) := by kernel_rfl
theorem tL56 : EL Tryz.prog 56 = some 58 := by kernel_rfl
theorem tI63 : TI Tryz.prog 63 = some (true, 3) := by kernel_rfl
theorem tE63 : EInfo Tryz.prog 63 = some (3, 48) := by kernel_rfl
theorem tZ63 : ZV Tryz.prog 63 = some [.string ByteArray.empty, .string ByteArray.empty, .string ByteArray.empty] := by kernel_rfl
theorem tG63 : ZG Tryz.prog 63 = some (true, [.string ByteArray.empty, .string ByteArray.empty, .string ByteArray.empty]) := by kernel_rfl
theorem tF63_0 : FO Tryz.prog 63 0 = some 0 := by kernel_rfl
theorem tF63_1 : FO Tryz.prog 63 1 = some 1 := by kernel_rfl
theorem tF63_2 : FO Tryz.prog 63 2 = some 2 := by kernel_rfl
theorem tP63 : PLs Tryz.prog 63 = some (.st [(0, 1), (1, 1), (2, 1)]) := by kernel_rfl
theorem tI65 : TI Tryz.prog 65 = some (true, 7) := by kernel_rfl
theorem tE65 : EInfo Tryz.prog 65 = some (7, 80) := by kernel_rfl
theorem tZ65 : ZV Tryz.prog 65 = some [.string ByteArray.empty, .string ByteArray.empty, .string ByteArray.empty, .int .i64 0, .int .i64 0, .int .i64 0, .int .i64 0] := by kernel_rfl
theorem tG65 : ZG Tryz.prog 65 = some (true, [.string ByteArray.empty, .string ByteArray.empty, .string ByteArray.empty, .int .i64 0, .int .i64 0, .int .i64 0, .int .i64 0]) := by kernel_rfl
theorem tF65_0 : FO Tryz.prog 65 0 = some 0 := by kernel_rfl
theorem tF65_1 : FO Tryz.prog 65 1 = some 3 := by kernel_rfl
theorem tF65_2 : FO Tryz.prog 65 2 = some 4 := by kernel_rfl
theorem tF65_3 : FO Tryz.prog 65 3 = some 5 := by kernel_rfl
theorem tF65_4 : FO Tryz.prog 65 4 = some 6 := by kernel_rfl
theorem tP65 : PLs Tryz.prog 65 = some (.st [(0, 3), (3, 1), (4, 1), (5, 1), (6, 1)]) := by kernel_rfl
theorem tI67 : TI Tryz.prog 67 = some (false, 1) := by kernel_rfl
theorem tE67 : EInfo Tryz.prog 67 = some (1, 24) := by kernel_rfl
theorem tZ67 : ZV Tryz.prog 67 = some [.slice none 0 0] := by kernel_rfl
theorem tG67 : ZG Tryz.prog 67 = some (false, [.slice none 0 0]) := by kernel_rfl
theorem tL67 : EL Tryz.prog 67 = some 134 := by kernel_rfl
theorem tI76 : TI Tryz.prog 76 = some (false, 1) := by kernel_rfl
theorem tE76 : EInfo Tryz.prog 76 = some (1, 24) := by kernel_rfl
theorem tZ76 : ZV Tryz.prog 76 = some [.slice none 0 0] := by kernel_rfl
theorem tG76 : ZG Tryz.prog 76 = some (false, [.slice none 0 0]) := by kernel_rfl
theorem tL76 : EL Tryz.prog 76 = some 79 := by kernel_rfl
theorem tI85 : TI Tryz.prog 85 = some (true, 2) := by kernel_rfl
theorem tE85 : EInfo Tryz.prog 85 = some (2, 16) := by kernel_rfl
theorem tZ85 : ZV Tryz.prog 85 = some [.int .i64 0, .int .i64 0] := by kernel_rfl
theorem tG85 : ZG Tryz.prog 85 = some (true, [.int .i64 0, .int .i64 0]) := by kernel_rfl
theorem tF85_0 : FO Tryz.prog 85 0 = some 0 := by kernel_rfl
theorem tF85_1 : FO Tryz.prog 85 1 = some 1 := by kernel_rfl
theorem tP85 : PLs Tryz.prog 85 = some (.st [(0, 1), (1, 1)]) := by kernel_rfl
theorem tI86 : TI Tryz.prog 86 = some (false, 1) := by kernel_rfl
theorem tE86 : EInfo Tryz.prog 86 = some (1, 24) := by kernel_rfl
theorem tZ86 : ZV Tryz.prog 86 = some [.slice none 0 0] := by kernel_rfl
theorem tG86 : ZG Tryz.prog 86 = some (false, [.slice none 0 0]) := by kernel_rfl
theorem tL86 : EL Tryz.prog 86 = some 206 := by kernel_rfl
theorem tI89 : TI Tryz.prog 89 = some (false, 1) := by kernel_rfl
theorem tE89 : EInfo Tryz.prog 89 = some (1, 24) := by kernel_rfl
theorem tZ89 : ZV Tryz.prog 89 = some [.slice none 0 0] := by kernel_rfl
theorem tG89 : ZG Tryz.prog 89 = some (false, [.slice none 0 0]) := by kernel_rfl
theorem tL89 : EL Tryz.prog 89 = some 93 := by kernel_rfl
theorem tI94 : TI Tryz.prog 94 = some (false, 1) := by kernel_rfl
theorem tE94 : EInfo Tryz.prog 94 = some (1, 8) := by kernel_rfl
theorem tZ94 : ZV Tryz.prog 94 = some [.map none] := by kernel_rfl
theorem tG94 : ZG Tryz.prog 94 = some (false, [.map none]) := by kernel_rfl
theorem tU94 : Tryz.prog.underlying 94 = some (.map 3 3) := by kernel_rfl
theorem tM94 : MT Tryz.prog 94 = some (3, 3) := by kernel_rfl
theorem tI96 : TI Tryz.prog 96 = some (true, 2) := by kernel_rfl
theorem tE96 : EInfo Tryz.prog 96 = some (2, 16) := by kernel_rfl
theorem tZ96 : ZV Tryz.prog 96 = some [.int .i64 0, .int .i64 0] := by kernel_rfl
theorem tG96 : ZG Tryz.prog 96 = some (true, [.int .i64 0, .int .i64 0]) := by kernel_rfl
theorem tF96_0 : FO Tryz.prog 96 0 = some 0 := by kernel_rfl
theorem tF96_1 : FO Tryz.prog 96 1 = some 1 := by kernel_rfl
theorem tP96 : PLs Tryz.prog 96 = some (.st [(0, 1), (1, 1)]) := by kernel_rfl
theorem tI97 : TI Tryz.prog 97 = some (false, 1) := by kernel_rfl
theorem tE97 : EInfo Tryz.prog 97 = some (1, 24) := by kernel_rfl
theorem tZ97 : ZV Tryz.prog 97 = some [.slice none 0 0] := by kernel_rfl
theorem tG97 : ZG Tryz.prog 97 = some (false, [.slice none 0 0]) := by kernel_rfl
theorem tL97 : EL Tryz.prog 97 = some 146 := by kernel_rfl
theorem tI99 : TI Tryz.prog 99 = some (true, 6) := by kernel_rfl
theorem tE99 : EInfo Tryz.prog 99 = some (6, 128) := by kernel_rfl
theorem tZ99 : ZV Tryz.prog 99 = some [.int .i64 0, .slice none 0 0, .slice none 0 0, .slice none 0 0, .slice none 0 0, .slice none 0 0] := by kernel_rfl
theorem tG99 : ZG Tryz.prog 99 = some (true, [.int .i64 0, .slice none 0 0, .slice none 0 0, .slice none 0 0, .slice none 0 0, .slice none 0 0]) := by kernel_rfl
theorem tF99_0 : FO Tryz.prog 99 0 = some 0 := by kernel_rfl
theorem tF99_1 : FO Tryz.prog 99 1 = some 1 := by kernel_rfl
theorem tF99_2 : FO Tryz.prog 99 2 = some 2 := by kernel_rfl
theorem tF99_3 : FO Tryz.prog 99 3 = some 3 := by kernel_rfl
theorem tF99_4 : FO Tryz.prog 99 4 = some 4 := by kernel_rfl
theorem tF99_5 : FO Tryz.prog 99 5 = some 5 := by kernel_rfl
theorem tP99 : PLs Tryz.prog 99 = some (.st [(0, 1), (1, 1), (2, 1), (3, 1), (4, 1), (5, 1)]) := by kernel_rfl
theorem tI102 : TI Tryz.prog 102 = some (false, 1) := by kernel_rfl
theorem tE102 : EInfo Tryz.prog 102 = some (1, 8) := by kernel_rfl
theorem tZ102 : ZV Tryz.prog 102 = some [.map none] := by kernel_rfl
theorem tG102 : ZG Tryz.prog 102 = some (false, [.map none]) := by kernel_rfl
theorem tU102 : Tryz.prog.underlying 102 = some (.map 63 65) := by kernel_rfl
theorem tM102 : MT Tryz.prog 102 = some (63, 65) := by kernel_rfl
theorem tI103 : TI Tryz.prog 103 = some (false, 1) := by kernel_rfl
theorem tE103 : EInfo Tryz.prog 103 = some (1, 8) := by kernel_rfl
theorem tZ103 : ZV Tryz.prog 103 = some [.map none] := by kernel_rfl
theorem tG103 : ZG Tryz.prog 103 = some (false, [.map none]) := by kernel_rfl
theorem tU103 : Tryz.prog.underlying 103 = some (.map 63 65) := by kernel_rfl
theorem tM103 : MT Tryz.prog 103 = some (63, 65) := by kernel_rfl
theorem tI109 : TI Tryz.prog 109 = some (false, 1) := by kernel_rfl
theorem tE109 : EInfo Tryz.prog 109 = some (1, 24) := by kernel_rfl
theorem tZ109 : ZV Tryz.prog 109 = some [.slice none 0 0] := by kernel_rfl
theorem tG109 : ZG Tryz.prog 109 = some (false, [.slice none 0 0]) := by kernel_rfl
theorem tL109 : EL Tryz.prog 109 = some 118 := by kernel_rfl
theorem tI114 : TI Tryz.prog 114 = some (true, 2) := by kernel_rfl
theorem tE114 : EInfo Tryz.prog 114 = some (2, 16) := by kernel_rfl
theorem tZ114 : ZV Tryz.prog 114 = some [.int .i64 0, .int .i64 0] := by kernel_rfl
theorem tG114 : ZG Tryz.prog 114 = some (true, [.int .i64 0, .int .i64 0]) := by kernel_rfl
theorem tF114_0 : FO Tryz.prog 114 0 = some 0 := by kernel_rfl
theorem tF114_1 : FO Tryz.prog 114 1 = some 1 := by kernel_rfl
theorem tP114 : PLs Tryz.prog 114 = some (.st [(0, 1), (1, 1)]) := by kernel_rfl
theorem tI116 : TI Tryz.prog 116 = some (true, 3) := by kernel_rfl
theorem tE116 : EInfo Tryz.prog 116 = some (3, 24) := by kernel_rfl
theorem tZ116 : ZV Tryz.prog 116 = some [.int .i64 0, .int .i64 0, .bool false] := by kernel_rfl
theorem tG116 : ZG Tryz.prog 116 = some (true, [.int .i64 0, .int .i64 0, .bool false]) := by kernel_rfl
theorem tF116_0 : FO Tryz.prog 116 0 = some 0 := by kernel_rfl
theorem tF116_1 : FO Tryz.prog 116 1 = some 2 := by kernel_rfl
theorem tP116 : PLs Tryz.prog 116 = some (.st [(0, 2), (2, 1)]) := by kernel_rfl
theorem tI118 : TI Tryz.prog 118 = some (true, 8) := by kernel_rfl
theorem tE118 : EInfo Tryz.prog 118 = some (8, 64) := by kernel_rfl
theorem tZ118 : ZV Tryz.prog 118 = some [.int .i64 0, .int .i64 0, .int .i64 0, .int .i64 0, .bool false, .int .i64 0, .int .i64 0, .bool false] := by kernel_rfl
theorem tG118 : ZG Tryz.prog 118 = some (true, [.int .i64 0, .int .i64 0, .int .i64 0, .int .i64 0, .bool false, .int .i64 0, .int .i64 0, .bool false]) := by kernel_rfl
theorem tF118_0 : FO Tryz.prog 118 0 = some 0 := by kernel_rfl
theorem tF118_1 : FO Tryz.prog 118 1 = some 2 := by kernel_rfl
theorem tF118_2 : FO Tryz.prog 118 2 = some 5 := by kernel_rfl
theorem tP118 : PLs Tryz.prog 118 = some (.st [(0, 2), (2, 3), (5, 3)]) := by kernel_rfl
theorem tI127 : TI Tryz.prog 127 = some (false, 1) := by kernel_rfl
theorem tE127 : EInfo Tryz.prog 127 = some (1, 8) := by kernel_rfl
theorem tZ127 : ZV Tryz.prog 127 = some [.map none] := by kernel_rfl
theorem tG127 : ZG Tryz.prog 127 = some (false, [.map none]) := by kernel_rfl
theorem tU127 : Tryz.prog.underlying 127 = some (.map 3 4) := by kernel_rfl
theorem tM127 : MT Tryz.prog 127 = some (3, 4) := by kernel_rfl
theorem tI132 : TI Tryz.prog 132 = some (false, 1) := by kernel_rfl
theorem tE132 : EInfo Tryz.prog 132 = some (1, 24) := by kernel_rfl
theorem tZ132 : ZV Tryz.prog 132 = some [.slice none 0 0] := by kernel_rfl
theorem tG132 : ZG Tryz.prog 132 = some (false, [.slice none 0 0]) := by kernel_rfl
theorem tL132 : EL Tryz.prog 132 = some 9 := by kernel_rfl
theorem tI146 : TI Tryz.prog 146 = some (true, 4) := by kernel_rfl
theorem tE146 : EInfo Tryz.prog 146 = some (4, 48) := by kernel_rfl
theorem tZ146 : ZV Tryz.prog 146 = some [.int .i64 0, .int .i64 0, .int .i64 0, .slice none 0 0] := by kernel_rfl
theorem tG146 : ZG Tryz.prog 146 = some (true, [.int .i64 0, .int .i64 0, .int .i64 0, .slice none 0 0]) := by kernel_rfl
theorem tF146_0 : FO Tryz.prog 146 0 = some 0 := by kernel_rfl
theorem tF146_1 : FO Tryz.prog 146 1 = some 1 := by kernel_rfl
theorem tF146_2 : FO Tryz.prog 146 2 = some 2 := by kernel_rfl
theorem tF146_3 : FO Tryz.prog 146 3 = some 3 := by kernel_rfl
theorem tP146 : PLs Tryz.prog 146 = some (.st [(0, 1), (1, 1), (2, 1), (3, 1)]) := by kernel_rfl
theorem tI155 : TI Tryz.prog 155 = some (false, 1) := by kernel_rfl
theorem tE155 : EInfo Tryz.prog 155 = some (1, 8) := by kernel_rfl
theorem tZ155 : ZV Tryz.prog 155 = some [.map none] := by kernel_rfl
theorem tG155 : ZG Tryz.prog 155 = some (false, [.map none]) := by kernel_rfl
theorem tU155 : Tryz.prog.underlying 155 = some (.map 116 3) := by kernel_rfl
theorem tM155 : MT Tryz.prog 155 = some (116, 3) := by kernel_rfl
theorem tI165 : TI Tryz.prog 165 = some (false, 1) := by kernel_rfl
theorem tE165 : EInfo Tryz.prog 165 = some (1, 8) := by kernel_rfl
theorem tZ165 : ZV Tryz.prog 165 = some [.int .u64 0] := by kernel_rfl
theorem tG165 : ZG Tryz.prog 165 = some (false, [.int .u64 0]) := by kernel_rfl
theorem tU165 : Tryz.prog.underlying 165 = some (.int .u64) := by kernel_rfl
theorem tI176 : TI Tryz.prog 176 = some (false, 1) := by kernel_rfl
theorem tE176 : EInfo Tryz.prog 176 = some (1, 24) := by kernel_rfl
theorem tZ176 : ZV Tryz.prog 176 = some [.slice none 0 0] := by kernel_rfl
theorem tG176 : ZG Tryz.prog 176 = some (false, [.slice none 0 0]) := by kernel_rfl
theorem tL176 : EL Tryz.prog 176 = some 51 := by kernel_rfl
theorem tI185 : TI Tryz.prog 185 = some (false, 1) := by kernel_rfl
theorem tE185 : EInfo Tryz.prog 185 = some (1, 8) := by kernel_rfl
theorem tZ185 : ZV Tryz.prog 185 = some [.map none] := by kernel_rfl
theorem tG185 : ZG Tryz.prog 185 = some (false, [.map none]) := by kernel_rfl
theorem tU185 : Tryz.prog.underlying 185 = some (.map 3 30) := by kernel_rfl
theorem tM185 : MT Tryz.prog 185 = some (3, 30) := by kernel_rfl
theorem tI188 : TI Tryz.prog 188 = some (true, 4) := by kernel_rfl
theorem tE188 : EInfo Tryz.prog 188 = some (4, 48) := by kernel_rfl
theorem tZ188 : ZV Tryz.prog 188 = some [.map none, .nilFunc, .int .i64 0, .slice none 0 0] := by kernel_rfl
theorem tG188 : ZG Tryz.prog 188 = some (true, [.map none, .nilFunc, .int .i64 0, .slice none 0 0]) := by kernel_rfl
theorem tF188_0 : FO Tryz.prog 188 0 = some 0 := by kernel_rfl
theorem tF188_1 : FO Tryz.prog 188 1 = some 1 := by kernel_rfl
theorem tF188_2 : FO Tryz.prog 188 2 = some 2 := by kernel_rfl
theorem tF188_3 : FO Tryz.prog 188 3 = some 3 := by kernel_rfl
theorem tP188 : PLs Tryz.prog 188 = some (.st [(0, 1), (1, 1), (2, 1), (3, 1)]) := by kernel_rfl
theorem tI229 : TI Tryz.prog 229 = some (true, 3) := by kernel_rfl
theorem tE229 : EInfo Tryz.prog 229 = some (3, 32) := by kernel_rfl
theorem tZ229 : ZV Tryz.prog 229 = some [.int .i64 0, .string ByteArray.empty, .int .i64 0] := by kernel_rfl
theorem tG229 : ZG Tryz.prog 229 = some (true, [.int .i64 0, .string ByteArray.empty, .int .i64 0]) := by kernel_rfl
theorem tF229_0 : FO Tryz.prog 229 0 = some 0 := by kernel_rfl
theorem tF229_1 : FO Tryz.prog 229 1 = some 1 := by kernel_rfl
theorem tF229_2 : FO Tryz.prog 229 2 = some 2 := by kernel_rfl
theorem tP229 : PLs Tryz.prog 229 = some (.st [(0, 1), (1, 1), (2, 1)]) := by kernel_rfl
theorem tI231 : TI Tryz.prog 231 = some (true, 4) := by kernel_rfl
theorem tE231 : EInfo Tryz.prog 231 = some (4, 48) := by kernel_rfl
theorem tZ231 : ZV Tryz.prog 231 = some [.string ByteArray.empty, .int .i64 0, .string ByteArray.empty, .int .i64 0] := by kernel_rfl
theorem tG231 : ZG Tryz.prog 231 = some (true, [.string ByteArray.empty, .int .i64 0, .string ByteArray.empty, .int .i64 0]) := by kernel_rfl
theorem tF231_0 : FO Tryz.prog 231 0 = some 0 := by kernel_rfl
theorem tF231_1 : FO Tryz.prog 231 1 = some 1 := by kernel_rfl
theorem tP231 : PLs Tryz.prog 231 = some (.st [(0, 1), (1, 3)]) := by kernel_rfl
theorem tI242 : TI Tryz.prog 242 = some (true, 6) := by kernel_rfl
theorem tE242 : EInfo Tryz.prog 242 = some (6, 48) := by kernel_rfl
theorem tZ242 : ZV Tryz.prog 242 = some [.int .i64 0, .int .i64 0, .int .i64 0, .int .i64 0, .int .i64 0, .int .i64 0] := by kernel_rfl
theorem tG242 : ZG Tryz.prog 242 = some (true, [.int .i64 0, .int .i64 0, .int .i64 0, .int .i64 0, .int .i64 0, .int .i64 0]) := by kernel_rfl
theorem tP242 : PLs Tryz.prog 242 = some (.ar 1) := by kernel_rfl
theorem kd3 : Maps.Keyed Tryz.prog 3 := Maps.int_keyed tU3
theorem kd63 : Maps.Keyed Tryz.prog 63 := Maps.Keyed.of_law (deep_law_laid (m := 20) (by kernel_rfl) (by decide) (of_decide_eq_true (by kernel_rfl)) (by kernel_rfl) (by kernel_rfl))
theorem kd116 : Maps.Keyed Tryz.prog 116 := Maps.Keyed.of_law (deep_law_laid (m := 20) (by kernel_rfl) (by decide) (of_decide_eq_true (by kernel_rfl)) (by kernel_rfl) (by kernel_rfl))
attribute [go_sem] tI3 tE3 tZ3 tG3 tU3 tI4 tE4 tZ4 tG4 tU4 tI9 tE9 tZ9 tG9 tU9 tI22 tE22 tZ22 tG22 tL22 tI25 tE25 tZ25 tG25 tL25 tI30 tE30 tZ30 tG30 tL30 tI31 tE31 tZ31 tG31 tL31 tI34 tE34 tZ34 tG34 tL34 tI35 tE35 tZ35 tG35 tL35 tI36 tE36 tZ36 tG36 tU36 tI39 tE39 tZ39 tG39 tL39 tI40 tE40 tZ40 tG40 tL40 tI42 tE42 tZ42 tG42 tF42_0 tF42_1 tF42_2 tF42_3 tF42_4 tF42_5 tF42_6 tF42_7 tF42_8 tF42_9 tF42_10 tF42_11 tF42_12 tF42_13 tP42 tI46 tE46 tZ46 tG46 tL46 tI51 tE51 tZ51 tG51 tL51 tI56 tE56 tZ56 tG56 tL56 tI63 tE63 tZ63 tG63 tF63_0 tF63_1 tF63_2 tP63 tI65 tE65 tZ65 tG65 tF65_0 tF65_1 tF65_2 tF65_3 tF65_4 tP65 tI67 tE67 tZ67 tG67 tL67 tI76 tE76 tZ76 tG76 tL76 tI85 tE85 tZ85 tG85 tF85_0 tF85_1 tP85 tI86 tE86 tZ86 tG86 tL86 tI89 tE89 tZ89 tG89 tL89 tI94 tE94 tZ94 tG94 tU94 tM94 tI96 tE96 tZ96 tG96 tF96_0 tF96_1 tP96 tI97 tE97 tZ97 tG97 tL97 tI99 tE99 tZ99 tG99 tF99_0 tF99_1 tF99_2 tF99_3 tF99_4 tF99_5 tP99 tI102 tE102 tZ102 tG102 tU102 tM102 tI103 tE103 tZ103 tG103 tU103 tM103 tI109 tE109 tZ109 tG109 tL109 tI114 tE114 tZ114 tG114 tF114_0 tF114_1 tP114 tI116 tE116 tZ116 tG116 tF116_0 tF116_1 tP116 tI118 tE118 tZ118 tG118 tF118_0 tF118_1 tF118_2 tP118 tI127 tE127 tZ127 tG127 tU127 tM127 tI132 tE132 tZ132 tG132 tL132 tI146 tE146 tZ146 tG146 tF146_0 tF146_1 tF146_2 tF146_3 tP146 tI155 tE155 tZ155 tG155 tU155 tM155 tI165 tE165 tZ165 tG165 tU165 tI176 tE176 tZ176 tG176 tL176 tI185 tE185 tZ185 tG185 tU185 tM185 tI188 tE188 tZ188 tG188 tF188_0 tF188_1 tF188_2 tF188_3 tP188 tI229 tE229 tZ229 tG229 tF229_0 tF229_1 tF229_2 tP229 tI231 tE231 tZ231 tG231 tF231_0 tF231_1 tP231 tI242 tE242 tZ242 tG242 tP242
def tbL : List (Nat × Nat) := [(22, 88), (25, 279), (30, 42), (31, 85), (34, 65), (35, 65), (39, 231), (40, 114), (46, 96), (51, 3), (56, 58), (67, 134), (76, 79), (86, 206), (89, 93), (97, 146), (109, 118), (132, 9), (176, 51)]
theorem aTL {t e : Nat} (h : lk tbL t = some e) : EL Tryz.prog t = some e := lk_all (Q := fun t e => EL Tryz.prog t = some e) (by
  intro _ h
  simp only [tbL, List.mem_cons, List.not_mem_nil, or_false] at h
  rcases h with rfl | rfl | rfl | rfl | rfl | rfl | rfl | rfl | rfl | rfl | rfl | rfl | rfl | rfl | rfl | rfl | rfl | rfl | rfl
  · exact tL22
  · exact tL25
  · exact tL30
  · exact tL31
  · exact tL34
  · exact tL35
  · exact tL39
  · exact tL40
  · exact tL46
  · exact tL51
  · exact tL56
  · exact tL67
  · exact tL76
  · exact tL86
  · exact tL89
  · exact tL97
  · exact tL109
  · exact tL132
  · exact tL176) h
def tbM : List (Nat × Nat × Nat) := [(94, 3, 3), (102, 63, 65), (103, 63, 65), (127, 3, 4), (155, 116, 3), (185, 3, 30)]
theorem aTM {t : Nat} {e : Nat × Nat} (h : lk tbM t = some e) : MT Tryz.prog t = some e := lk_all (Q := fun t e => MT Tryz.prog t = some e) (by
  intro _ h
  simp only [tbM, List.mem_cons, List.not_mem_nil, or_false] at h
  rcases h with rfl | rfl | rfl | rfl | rfl | rfl
  · exact tM94
  · exact tM102
  · exact tM103
  · exact tM127
  · exact tM155
  · exact tM185) h
def tbG : List (Nat × Bool × List Value) := [(3, (false, [.int .i64 0])), (4, (false, [.bool false])), (30, (false, [.slice none 0 0])), (65, (true, [.string ByteArray.empty, .string ByteArray.empty, .string ByteArray.empty, .int .i64 0, .int .i64 0, .int .i64 0, .int .i64 0]))]
theorem aTG {t : Nat} {e : Bool × List Value} (h : lk tbG t = some e) : ZG Tryz.prog t = some e := lk_all (Q := fun t e => ZG Tryz.prog t = some e) (by
  intro _ h
  simp only [tbG, List.mem_cons, List.not_mem_nil, or_false] at h
  rcases h with rfl | rfl | rfl | rfl
  · exact tG3
  · exact tG4
  · exact tG30
  · exact tG65) h
theorem aKD {t : Nat} (h : (Nat.beq t 3 || Nat.beq t 63 || Nat.beq t 116) = true) : Go.Maps.Keyed Tryz.prog t := by
  simp only [Bool.or_eq_true] at h
  rcases h with (h | h) | h
  · cases beq_t h; exact kd3
  · cases beq_t h; exact kd63
  · cases beq_t h; exact kd116
theorem aMo : Tryz.prog.follows .mixedOrders = true := by kernel_rfl

end Go.Proofs.YthlimkmjobpjoaaGreat
namespace Go.Proofs.YthlimkmjobpjoaaGreat
open Go.RowKit Go.Exe
theorem isNaN_c (n : ByteArray) : PCall Tryz.prog 99 [ft (.string n)] (ft (.bool false)) := by
  refine PCall.intro (nt := 6) (rs := [.tmp 2]) Tryz.func99 rfl ⟨by kernel_rfl, by kernel_rfl, by kernel_rfl⟩ (by simp) ?_
  rintro ⟨P, w0, ok0, may, np, pblk⟩ rfl rfl
  repeat' (first | refine W.seq fun K hK => ?_ | refine W.block ?_ | ((first | refine wR ?_ | refine wD ?_ | refine W.skip ?_ | refine W.exit ?_ | refine W.ret (Post.ret ?_) | refine aP0 ?_ | refine aF0 ?_); simp only [go_sem]) | refine wT ?_ | refine wF ?_ | refine wC (fun h => ?_) (fun h => ?_) | refine iK ?_ | refine aI2 ?_ | (refine hK _ ?_; clear hK K) | clear hK K)
def cmpB (a b : ByteArray) : Int := if Op.bytesLess a.toList b.toList then -1 else if !(Op.bytesLess a.toList b.toList || a.toList == b.toList) then 1 else 0
theorem cmpCompare_c (a b : ByteArray) : PCall Tryz.prog 62 [ft (.string a), ft (.string b)] (ft (.int .i64 (cmpB a b))) := by
  have c1 := isNaN_c
  refine PCall.intro (nt := 20) (rs := [.tmp 4]) Tryz.func62 rfl ⟨by kernel_rfl, by kernel_rfl, by kernel_rfl⟩ (by simp) ?_
  rintro ⟨P, w0, ok0, may, np, pblk⟩ rfl rfl
  repeat' (first | refine W.seq fun K hK => ?_ | refine W.block ?_ | ((first | refine wR ?_ | refine wD ?_ | refine W.skip ?_ | refine W.exit ?_ | refine W.ret (Post.ret ?_) | refine aP0 ?_ | refine aF0 ?_); simp only [go_sem]) | refine wT ?_ | refine wF ?_ | refine wC (fun h => ?_) (fun h => ?_) | refine iK ?_ | refine aI2 ?_ | (refine hK _ ?_; clear hK K) | clear hK K)
  all_goals simp_all [cmpB]
def iA (n : Int) : List AV := [.flat (.int .i64 n)]
def orL : List Int → Int
  | [] => 0
  | x :: r => if x = 0 then orL r else x
theorem cmpOr_c (l : List Int) : PCall Tryz.prog 61 [.c (.im (.sl 3 (l.map iA)))] (ft (.int .i64 (orL l))) := by
  refine PCall.intro (nt := 18) (rs := [.tmp 2]) Tryz.func61 rfl ⟨by kernel_rfl, by kernel_rfl, by kernel_rfl⟩ (by simp) ?_
  rintro ⟨P, w0, ok0, may, np, pblk⟩ rfl rfl
  refine W.lenIm 0 rfl fun hlen => ?_
  rw [List.length_map, maxLen_is] at hlen
  repeat' (first | refine W.seq fun K hK => ?_ | refine W.block ?_ | ((first | refine wR ?_ | refine wD ?_ | refine W.skip ?_ | refine W.exit ?_ | refine W.ret (Post.ret ?_) | refine aP ?_ | refine aF ?_ | refine aL ?_ | refine aU (hnn := by simp only [go_sem, reduceCtorEq, List.length_map]) ?_ | refine aM ?_ | refine aN ?_ | refine aR ?_ | refine aS (hb := by simp only [go_sem, reduceCtorEq, List.length_map]; first | omega | (simp; omega)) ?_ | refine aH ?_ | refine aI ?_ | refine aB ?_ | refine aZ ?_); simp only [go_sem, reduceCtorEq, List.length_map]) | refine wT ?_ | refine wF ?_ | refine wC (fun h => ?_) (fun h => ?_) | refine iK ?_ | refine aI2 ?_ | (refine hK _ ?_; clear hK K) | clear hK K)
  refine W.loopF (T := fun i : Nat => { t := [(2, ft (.int .i64 0)), (3, ft (.int .i64 0)), (6, .c (.im (.sl 3 (l.map iA)))), (7, ft (.int .i64 l.length)), (8, ft (.int .i64 (i : Nat)))], h := [], nx := 0, ex := [], nt := 18 })
    (Inv := fun i => i ≤ l.length ∧ orL l = orL (l.drop i)) (μ := fun i => l.length - i) (x0 := 0) (Fits.fit [] [2, 3, 6, 7, 8] 0 rfl rfl ?_) ⟨Nat.zero_le _, rfl⟩ ?_
  · simp only [go_sem]
    exact Fits.rfl
  rintro i ⟨hi, hinv⟩ KL hKL
  by_cases hlt : i < l.length
  · obtain ⟨x, hx, hm, hd⟩ := drop_at hlt
    have e1 : decide ((i : Int) < l.length) = true := by simp; omega
    have hw := w64s i (by omega)
    by_cases h0 : x = 0
    · have e2 : (x != 0) = false := by simp [h0]
      repeat' (first | refine W.seq fun K hK => ?_ | refine W.block ?_ | ((first | refine wR ?_ | refine wD ?_ | refine W.skip ?_ | refine W.exit ?_ | refine W.ret (Post.ret ?_) | refine aP ?_ | refine aF ?_ | refine aL ?_ | refine aU (hnn := by simp only [go_sem, reduceCtorEq, e1, e2, hw, List.getElem?_map, hx, iA]) ?_ | refine aM ?_ | refine aN ?_ | refine aR ?_ | refine aS (hb := by simp only [go_sem, reduceCtorEq, e1, e2, hw, List.getElem?_map, hx, iA]; first | omega | (simp; omega)) ?_ | refine aH ?_ | refine aI ?_ | refine aB ?_ | refine aZ ?_); simp only [go_sem, reduceCtorEq, e1, e2, hw, List.getElem?_map, hx, iA]) | refine wT ?_ | refine wF ?_ | refine wC (fun h => ?_) (fun h => ?_) | refine iK ?_ | refine aI2 ?_ | (refine hK _ ?_; clear hK K) | clear hK K)
      refine hKL.to (i + 1) ⟨by omega, ?_⟩ (by omega) (Fits.fit [] [2, 3, 6, 7, 8] 0 rfl rfl ?_)
      · rw [hinv, hd]; simp [orL, h0]
      · simp only [go_sem]
        exact Fits.rfl
    · have e2 : (x != 0) = true := by simp [h0]
      repeat' (first | refine W.seq fun K hK => ?_ | refine W.block ?_ | ((first | refine wR ?_ | refine wD ?_ | refine W.skip ?_ | refine W.exit ?_ | refine W.ret (Post.ret ?_) | refine aP ?_ | refine aF ?_ | refine aL ?_ | refine aU (hnn := by simp only [go_sem, reduceCtorEq, e1, e2, hw, List.getElem?_map, hx, iA]) ?_ | refine aM ?_ | refine aN ?_ | refine aR ?_ | refine aS (hb := by simp only [go_sem, reduceCtorEq, e1, e2, hw, List.getElem?_map, hx, iA]; first | omega | (simp; omega)) ?_ | refine aH ?_ | refine aI ?_ | refine aB ?_ | refine aZ ?_); simp only [go_sem, reduceCtorEq, e1, e2, hw, List.getElem?_map, hx, iA]) | refine wT ?_ | refine wF ?_ | refine wC (fun h => ?_) (fun h => ?_) | refine iK ?_ | refine aI2 ?_ | (refine hK _ ?_; clear hK K) | clear hK K)
      simp [hinv, hd, orL, h0]
  · have e1 : decide ((i : Int) < l.length) = false := by simp; omega
    obtain rfl : i = l.length := by omega
    clear hKL
    repeat' (first | refine W.seq fun K hK => ?_ | refine W.block ?_ | ((first | refine wR ?_ | refine wD ?_ | refine W.skip ?_ | refine W.exit ?_ | refine W.ret (Post.ret ?_) | refine aP ?_ | refine aF ?_ | refine aL ?_ | refine aU (hnn := by simp only [go_sem, reduceCtorEq, e1]) ?_ | refine aM ?_ | refine aN ?_ | refine aR ?_ | refine aS (hb := by simp only [go_sem, reduceCtorEq, e1]; first | omega | (simp; omega)) ?_ | refine aH ?_ | refine aI ?_ | refine aB ?_ | refine aZ ?_); simp only [go_sem, reduceCtorEq, e1]) | refine wT ?_ | refine wF ?_ | refine wC (fun h => ?_) (fun h => ?_) | refine iK ?_ | refine aI2 ?_ | (refine hK _ ?_; clear hK K) | clear hK K)
    simp [hinv, orL]
def cmpsG {α : Type} (cm : α → α → Int) : List α → List α → Int
  | [], [] => 0
  | [], _ :: _ => -1
  | _ :: _, [] => 1
  | x :: r, y :: q => if cm x y ≠ 0 then cm x y else cmpsG cm r q
theorem imR_nil : imR [] = [] := rfl
structure Lw {α : Type} (cm : α → α → Int) : Prop where
  anti : ∀ a b, cm b a = - cm a b
  tr : ∀ a b c, cm a b ≤ 0 → cm b c ≤ 0 → cm a c ≤ 0
  eq : ∀ a b, cm a b = 0 → a = b
theorem Lw.refl {α : Type} {cm : α → α → Int} (h : Lw cm) (a : α) : cm a a = 0 := by have := h.anti a a; omega
theorem Lw.lt1 {α : Type} {cm : α → α → Int} (h : Lw cm) {a b c : α} (h1 : cm a b < 0) (h2 : cm b c ≤ 0) : cm a c < 0 := by
  have h3 := h.tr a b c (by omega) h2
  by_cases h4 : cm a c = 0
  · have := h.eq a c h4
    subst this
    have := h.anti a b
    omega
  · omega
theorem cmpsG_anti {α : Type} {cm : α → α → Int} : ∀ (x y : List α), (∀ a ∈ x, ∀ b ∈ y, cm b a = - cm a b) → cmpsG cm y x = - cmpsG cm x y
  | [], [], _ => rfl
  | [], _ :: _, _ => rfl
  | _ :: _, [], _ => rfl
  | a :: x, b :: y, h => by
    have h1 := h a (by simp) b (by simp)
    have h2 := cmpsG_anti x y fun a ha b hb => h a (by simp [ha]) b (by simp [hb])
    simp only [cmpsG]
    split <;> split <;> omega
theorem cmpsG_eq {α : Type} {cm : α → α → Int} : ∀ (x y : List α), (∀ a ∈ x, ∀ b ∈ y, cm a b = 0 → a = b) → cmpsG cm x y = 0 → x = y
  | [], [], _, _ => rfl
  | [], _ :: _, _, h => by simp [cmpsG] at h
  | _ :: _, [], _, h => by simp [cmpsG] at h
  | a :: x, b :: y, h, h0 => by
    simp only [cmpsG] at h0
    split at h0
    · omega
    · rename_i h1
      have e := h a (by simp) b (by simp) (by omega)
      have := cmpsG_eq x y (fun a ha b hb => h a (by simp [ha]) b (by simp [hb])) h0
      rw [e, this]
theorem cmpsG_tr {α : Type} {cm : α → α → Int} : ∀ (x y z : List α), (∀ a ∈ x, ∀ b, cm b a = - cm a b) → (∀ a ∈ x, ∀ b c, cm a b ≤ 0 → cm b c ≤ 0 → cm a c ≤ 0) → (∀ a ∈ x, ∀ b, cm a b = 0 → a = b) → (∀ a b, cm a b = 0 → a = b) → cmpsG cm x y ≤ 0 → cmpsG cm y z ≤ 0 → cmpsG cm x z ≤ 0
  | [], _, [], _, _, _, _, _, _ => by simp [cmpsG]
  | [], _, _ :: _, _, _, _, _, _, _ => by simp [cmpsG]
  | _ :: _, [], _, _, _, _, _, h, _ => by simp [cmpsG] at h
  | _ :: _, _ :: _, [], _, _, _, _, _, h => by simp [cmpsG] at h
  | a :: x, b :: y, c :: z, ha, ht, he, he2, h1, h2 => by
    have ih := cmpsG_tr x y z (fun a h => ha a (by simp [h])) (fun a h => ht a (by simp [h])) (fun a h => he a (by simp [h])) he2
    have t1 := ht a (by simp) b c
    have n1 := ha a (by simp) b
    have n2 := ha a (by simp) c
    simp only [cmpsG] at h1 h2 ⊢
    split at h1
    · split at h2
      · have t2 := t1 h1 h2
        split
        · exact t2
        · rename_i h3 h4 h5
          have := he a (by simp) c (by omega)
          subst this
          omega
      · rename_i h3 h4
        have := he2 b c (by omega)
        subst this
        rw [if_pos h3]; exact h1
    · rename_i h3
      have := he a (by simp) b (by omega)
      subst this
      split at h2
      · rename_i h4
        rw [if_pos h4]; exact h2
      · rename_i h4
        rw [if_neg h4]; exact ih h1 h2
theorem Lw.list {α : Type} {cm : α → α → Int} (h : Lw cm) : Lw (cmpsG cm) :=
  ⟨fun x y => cmpsG_anti x y fun a _ b _ => h.anti a b, fun x y z => cmpsG_tr x y z (fun a _ b => h.anti a b) (fun a _ b c => h.tr a b c) (fun a _ b => h.eq a b) h.eq, fun x y => cmpsG_eq x y fun a _ b _ => h.eq a b⟩
def cmpU (a b : UInt8) : Int := if a < b then -1 else if b < a then 1 else 0
theorem lwU : Lw cmpU := by
  refine ⟨fun a b => ?_, fun a b c h1 h2 => ?_, fun a b h => ?_⟩
  · simp only [cmpU, UInt8.lt_iff_toNat_lt]; split <;> split <;> omega
  · simp only [cmpU, UInt8.lt_iff_toNat_lt] at *; split at h1 <;> split at h2 <;> (try split at h1) <;> (try split at h2) <;> split <;> (try split) <;> omega
  · simp only [cmpU, UInt8.lt_iff_toNat_lt] at h
    apply UInt8.toNat_inj.1
    split at h
    · omega
    · split at h <;> omega
theorem cmpL_eq : ∀ (x y : List UInt8), (if Op.bytesLess x y then (-1 : Int) else if !(Op.bytesLess x y || x == y) then 1 else 0) = cmpsG cmpU x y
  | [], [] => by simp [Op.bytesLess, cmpsG]
  | [], _ :: _ => by simp [Op.bytesLess, cmpsG]
  | _ :: _, [] => by simp [Op.bytesLess, cmpsG]
  | a :: x, b :: y => by
    have ih := cmpL_eq x y
    simp only [cmpsG, ← ih, Op.bytesLess, cmpU]
    by_cases h1 : a < b
    · simp [h1]
    · by_cases h2 : b < a
      · have h3 : a ≠ b := fun e => by subst e; exact h1 h2
        simp [h1, h2, h3]
      · have h3 : a = b := by
          simp only [UInt8.lt_iff_toNat_lt] at h1 h2
          exact UInt8.toNat_inj.1 (by omega)
        subst h3
        simp [h1]
theorem lwB : Lw cmpB := by
  have key : ∀ a b, cmpB a b = cmpsG cmpU a.toList b.toList := fun a b => cmpL_eq _ _
  refine ⟨fun a b => ?_, fun a b c => ?_, fun a b h => ?_⟩
  · rw [key, key]; exact lwU.list.anti _ _
  · rw [key, key, key]; exact lwU.list.tr _ _ _
  · rw [key] at h
    have := lwU.list.eq _ _ h
    rw [ByteArray.toList_eq, ByteArray.toList_eq] at this
    exact ByteArray.ext (Array.toList_inj.1 this)
theorem Lw.ord {α : Type} {cm : α → α → Int} (h : Lw cm) (l : List α) : OrdOn cm l :=
  ⟨fun x _ h1 => by have := h.refl x; omega, fun x _ y _ z _ h1 h2 => h.lt1 h1 (by omega), fun x _ y _ z _ h1 h2 h3 => by
    have a1 := h.anti x y
    have a2 := h.anti y z
    have a3 := h.anti x z
    have := h.tr z y x (by omega) (by omega)
    omega⟩
theorem Lw.uni {α : Type} {cm : α → α → Int} (h : Lw cm) : ∀ {l m : List α}, l.Perm m → l.Pairwise (fun a b => ¬ cm b a < 0) → m.Pairwise (fun a b => ¬ cm b a < 0) → l = m
  | [], m, hp, _, _ => by rw [List.nil_perm.1 hp]
  | x :: r, [], hp, _, _ => by have := hp.length_eq; simp at this
  | x :: r, y :: q, hp, h1, h2 => by
    rw [List.pairwise_cons] at h1 h2
    have e : x = y := by
      have hx : x ∈ y :: q := hp.subset (by simp)
      have hy : y ∈ x :: r := hp.symm.subset (by simp)
      rcases List.mem_cons.1 hx with e | hx
      · exact e
      · rcases List.mem_cons.1 hy with e | hy
        · exact e.symm
        · have a1 := h1.1 y hy
          have a2 := h2.1 x hx
          have a3 := h.anti x y
          exact h.eq x y (by omega)
    subst e
    rw [Lw.uni h (List.perm_cons x |>.1 hp) h1.2 h2.2]
theorem seen_perm {n : Nat} {seen : List Nat} (hn : seen.Nodup) (hb : ∀ j ∈ seen, j < n) (ha : ∀ j, j < n → j ∈ seen) : seen.Perm (List.range n) :=
  (List.perm_ext_iff_of_nodup hn List.nodup_range).2 fun j => by rw [List.mem_range]; exact ⟨hb j, ha j⟩
theorem seen_le : ∀ {n : Nat} {seen : List Nat}, seen.Nodup → (∀ j ∈ seen, j < n) → seen.length ≤ n
  | 0, seen, _, hb => by
    cases seen with
    | nil => simp
    | cons x l => exact absurd (hb x (by simp)) (by omega)
  | n + 1, seen, hn, hb => by
    have := seen_le (n := n) (hn.erase n) fun j hj => by
      have := (hn.mem_erase_iff).1 hj
      have := hb j this.2
      omega
    rw [List.length_erase] at this
    split at this <;> omega
end Go.Proofs.YthlimkmjobpjoaaGreat
namespace Go.Proofs.YthlimkmjobpjoaaGreat
open Go.RowKit Go.Exe
attribute [local irreducible] W AX Run RunD AStep AOp AOpX AStB AStH AStG Fits PCall GCall PostG Post Stop
/-! ### a span, as a tree -/
structure Att where
  key : ByteArray
  kind : Int
  text : ByteArray
  num : Int
  deriving DecidableEq
abbrev Rf := Int × Int
structure Spn where
  tr : Int
  id : Int
  pa : Int
  rev : Int
  clk : Int
  kd : Int
  sv : ByteArray
  ve : ByteArray
  op : ByteArray
  st : Int
  en : Int
  er : Bool
  ats : List Att
  lks : List Rf
  deriving DecidableEq
def attA (a : Att) : List AV := [.flat (.string a.key), .flat (.int .i64 a.kind), .flat (.string a.text), .flat (.int .i64 a.num)]
def refA (r : Rf) : List AV := [.flat (.int .i64 r.1), .flat (.int .i64 r.2)]
def spA (s : Spn) : List AV := [.flat (.int .i64 s.tr), .flat (.int .i64 s.id), .flat (.int .i64 s.pa), .flat (.int .i64 s.rev), .flat (.int .i64 s.clk), .flat (.int .i64 s.kd), .flat (.string s.sv), .flat (.string s.ve), .flat (.string s.op), .flat (.int .i64 s.st), .flat (.int .i64 s.en), .flat (.bool s.er), .sl 231 (s.ats.map attA), .sl 114 (s.lks.map refA)]
abbrev spT (s : Spn) : TV := .g ((spA s).map .im)
abbrev spsT (l : List Spn) : TV := .c (.im (.sl 42 (l.map spA)))
abbrev intsT (l : List Int) : TV := .c (.im (.sl 3 (l.map iA)))

def cmpI (a b : Int) : Int := if a < b then -1 else if a > b then 1 else 0
theorem isNaNI_c (n : Int) : PCall Tryz.prog 102 [ft (.int .i64 n)] (ft (.bool false)) := by
  refine PCall.intro (nt := 6) (rs := [.tmp 2]) Tryz.func102 rfl ⟨by kernel_rfl, by kernel_rfl, by kernel_rfl⟩ (by simp) ?_
  rintro ⟨P, w0, ok0, may, np, pblk⟩ rfl rfl
  repeat' (first | refine W.seq fun K hK => ?_ | refine W.block ?_ | ((first | refine wR ?_ | refine wD ?_ | refine W.skip ?_ | refine W.exit ?_ | refine W.ret (Post.ret ?_) | refine aP ?_ | refine aF ?_); simp only [go_sem, reduceCtorEq]) | refine wT ?_ | refine wF ?_ | refine wC (fun h => ?_) (fun h => ?_) | refine iK ?_ | refine aI2 ?_ | (refine hK _ ?_; clear hK K) | clear hK K)
  all_goals simp_all
theorem cmpCompareI_c (a b : Int) : PCall Tryz.prog 73 [ft (.int .i64 a), ft (.int .i64 b)] (ft (.int .i64 (cmpI a b))) := by
  have c1 := isNaNI_c
  refine PCall.intro (nt := 20) (rs := [.tmp 4]) Tryz.func73 rfl ⟨by kernel_rfl, by kernel_rfl, by kernel_rfl⟩ (by simp) ?_
  rintro ⟨P, w0, ok0, may, np, pblk⟩ rfl rfl
  repeat' (first | refine W.seq fun K hK => ?_ | refine W.block ?_ | ((first | refine wR ?_ | refine wD ?_ | refine W.skip ?_ | refine W.exit ?_ | refine W.ret (Post.ret ?_) | refine aP ?_ | refine aF ?_); simp only [go_sem, reduceCtorEq]) | refine wT ?_ | refine wF ?_ | refine wC (fun h => ?_) (fun h => ?_) | refine iK ?_ | refine aI2 ?_ | (refine hK _ ?_; clear hK K) | clear hK K)
  all_goals simp at *
  all_goals (unfold cmpI; repeat' split)
  all_goals first | rfl | omega | simp_all
def numI (b : Bool) : Int := if b then 1 else 0
theorem num_c (b : Bool) : PCall Tryz.prog 169 [ft (.bool b)] (ft (.int .i64 (numI b))) := by
  refine PCall.intro (nt := 4) (rs := [.tmp 2]) Tryz.func169 rfl ⟨by kernel_rfl, by kernel_rfl, by kernel_rfl⟩ (by simp) ?_
  rintro ⟨P, w0, ok0, may, np, pblk⟩ rfl rfl
  repeat' (first | refine W.seq fun K hK => ?_ | refine W.block ?_ | ((first | refine wR ?_ | refine wD ?_ | refine W.skip ?_ | refine W.exit ?_ | refine W.ret (Post.ret ?_) | refine aP ?_ | refine aF ?_); simp only [go_sem, reduceCtorEq]) | refine wT ?_ | refine wF ?_ | refine wC (fun h => ?_) (fun h => ?_) | refine iK ?_ | refine aI2 ?_ | (refine hK _ ?_; clear hK K) | clear hK K)
  all_goals simp_all [numI]
theorem compareInts_c (xs ys : List Int) : PCall Tryz.prog 168 [intsT xs, intsT ys] (ft (.int .i64 (cmpsG cmpI xs ys))) := by
  have c1 := cmpCompareI_c
  refine PCall.intro (nt := 36) (rs := [.tmp 4]) Tryz.func168 rfl ⟨by kernel_rfl, by kernel_rfl, by kernel_rfl⟩ (by simp) ?_
  rintro ⟨P, w0, ok0, may, np, pblk⟩ rfl rfl
  refine W.lenIm 0 rfl fun hlen => ?_
  rw [List.length_map, maxLen_is] at hlen
  repeat' (first | refine W.seq fun K hK => ?_ | refine W.block ?_ | ((first | refine wR ?_ | refine wD ?_ | refine W.skip ?_ | refine W.exit ?_ | refine W.ret (Post.ret ?_) | refine aP ?_ | refine aF ?_); simp only [go_sem, reduceCtorEq]) | refine wT ?_ | refine wF ?_ | refine wC (fun h => ?_) (fun h => ?_) | refine iK ?_ | refine aI2 ?_ | (refine hK _ ?_; clear hK K) | clear hK K)
  refine W.loopF (T := fun i : Nat => { t := [(0, intsT xs), (1, intsT ys), (4, ft (.int .i64 0)), (9, intsT xs), (10, ft (.int .i64 xs.length)), (11, ft (.int .i64 (i : Nat)))], h := [], nx := 0, ex := [], nt := 36 })
    (Inv := fun i => i ≤ xs.length ∧ i ≤ ys.length ∧ cmpsG cmpI xs ys = cmpsG cmpI (xs.drop i) (ys.drop i)) (μ := fun i => xs.length - i) (x0 := 0) (Fits.fit [] [0, 1, 4, 9, 10, 11] 0 rfl rfl ?_) ⟨Nat.zero_le _, Nat.zero_le _, rfl⟩ ?_
  · simp only [go_sem]
    exact Fits.rfl
  rintro i ⟨hi, hi2, hinv⟩ KL hKL
  by_cases hlt : i < xs.length
  · obtain ⟨x, hx, hm, hd⟩ := drop_at hlt
    have e1 : decide ((i : Int) < xs.length) = true := by simp; omega
    have hw := w64s i (by omega)
    by_cases hlt2 : i < ys.length
    · obtain ⟨x', hx', hm', hd'⟩ := drop_at hlt2
      have e2 : decide ((i : Int) ≥ ys.length) = false := by simp; omega
      repeat' (first | refine W.seq fun K hK => ?_ | refine W.block ?_ | ((first | refine wR ?_ | refine wD ?_ | refine W.skip ?_ | refine W.exit ?_ | refine W.ret (Post.ret ?_) | refine aP ?_ | refine aF ?_); simp only [go_sem, reduceCtorEq, List.getElem?_map, hx, hx', iA, e1, e2, hw]) | refine wT ?_ | refine wF ?_ | refine wC (fun h => ?_) (fun h => ?_) | refine iK ?_ | refine aI2 ?_ | (refine hK _ ?_; clear hK K) | clear hK K)
      · simp at h
        simp [hinv, hd, hd', cmpsG, h]
      · refine hKL.to (i + 1) ⟨by omega, by omega, ?_⟩ (by omega) (Fits.fit [] [0, 1, 4, 9, 10, 11] 0 rfl rfl ?_)
        · simp at h
          simp [hinv, hd, hd', cmpsG, h]
        · simp only [go_sem]
          exact Fits.rfl
    · have e2 : decide ((i : Int) ≥ ys.length) = true := by simp; omega
      repeat' (first | refine W.seq fun K hK => ?_ | refine W.block ?_ | ((first | refine wR ?_ | refine wD ?_ | refine W.skip ?_ | refine W.exit ?_ | refine W.ret (Post.ret ?_) | refine aP ?_ | refine aF ?_); simp only [go_sem, reduceCtorEq, List.getElem?_map, hx, iA, e1, e2, hw]) | refine wT ?_ | refine wF ?_ | refine wC (fun h => ?_) (fun h => ?_) | refine iK ?_ | refine aI2 ?_ | (refine hK _ ?_; clear hK K) | clear hK K)
      have : ys.drop i = [] := List.drop_eq_nil_of_le (by omega)
      simp [hinv, hd, this, cmpsG]
  · have e1 : decide ((i : Int) < xs.length) = false := by simp; omega
    have hd : xs.drop i = [] := List.drop_eq_nil_of_le (by omega)
    clear hKL
    repeat' (first | refine W.seq fun K hK => ?_ | refine W.block ?_ | ((first | refine wR ?_ | refine wD ?_ | refine W.skip ?_ | refine W.exit ?_ | refine W.ret (Post.ret ?_) | refine aP ?_ | refine aF ?_); simp only [go_sem, reduceCtorEq, e1]) | refine wT ?_ | refine wF ?_ | refine wC (fun h => ?_) (fun h => ?_) | refine iK ?_ | refine aI2 ?_ | (refine hK _ ?_; clear hK K) | clear hK K)
    · obtain ⟨x, r, hd'⟩ : ∃ x r, ys.drop i = x :: r := by
        simp at h
        obtain ⟨x, _, _, h4⟩ := drop_at (show i < ys.length by omega)
        exact ⟨x, _, h4⟩
      simp [hinv, hd, hd', cmpsG]
    · have : ys.drop i = [] := by simp at h; exact List.drop_eq_nil_of_le (by omega)
      simp [hinv, hd, this, cmpsG]
theorem compareFuncAt_c (f : Nat) (cm : Att → Att → Int) (xs ys : List Att) (hf : ∀ x ∈ xs, ∀ y ∈ ys, PCall Tryz.prog f [.g ((attA x).map .im), .g ((attA y).map .im)] (ft (.int .i64 (cm x y)))) :
    PCall Tryz.prog 177 [.c (.im (.sl 231 (xs.map attA))), .c (.im (.sl 231 (ys.map attA))), ft (.func (.func f) #[] #[])] (ft (.int .i64 (cmpsG cm xs ys))) := by
  refine PCall.intro (nt := 39) (rs := [.tmp 6]) Tryz.func177 rfl ⟨by kernel_rfl, by kernel_rfl, by kernel_rfl⟩ (by simp) ?_
  rintro ⟨P, w0, ok0, may, np, pblk⟩ rfl rfl
  refine W.lenIm 0 rfl fun hlen => ?_
  rw [List.length_map, maxLen_is] at hlen
  repeat' (first | refine W.seq fun K hK => ?_ | refine W.block ?_ | ((first | refine wR ?_ | refine wD ?_ | refine W.skip ?_ | refine W.exit ?_ | refine W.ret (Post.ret ?_) | refine aP ?_ | refine aF ?_); simp only [go_sem, reduceCtorEq]) | refine wT ?_ | refine wF ?_ | refine wC (fun h => ?_) (fun h => ?_) | refine iK ?_ | refine aI2 ?_ | (refine hK _ ?_; clear hK K) | clear hK K)
  refine W.loopF (T := fun i : Nat => { t := [(0, .c (.im (.sl 231 (xs.map attA)))), (1, .c (.im (.sl 231 (ys.map attA)))), (2, ft (.func (.func f) #[] #[])), (6, ft (.int .i64 0)), (11, .c (.im (.sl 231 (xs.map attA)))), (12, ft (.int .i64 xs.length)), (13, ft (.int .i64 (i : Nat)))], h := [], nx := 0, ex := [], nt := 39 })
    (Inv := fun i => i ≤ xs.length ∧ i ≤ ys.length ∧ cmpsG cm xs ys = cmpsG cm (xs.drop i) (ys.drop i)) (μ := fun i => xs.length - i) (x0 := 0) (Fits.fit [] [0, 1, 2, 6, 11, 12, 13] 0 rfl rfl ?_) ⟨Nat.zero_le _, Nat.zero_le _, rfl⟩ ?_
  · simp only [go_sem]
    exact Fits.rfl
  rintro i ⟨hi, hi2, hinv⟩ KL hKL
  by_cases hlt : i < xs.length
  · obtain ⟨x, hx, hm, hd⟩ := drop_at hlt
    have e1 : decide ((i : Int) < xs.length) = true := by simp; omega
    have hw := w64s i (by omega)
    by_cases hlt2 : i < ys.length
    · obtain ⟨x', hx', hm', hd'⟩ := drop_at hlt2
      have hc := hf _ hm _ hm'
      simp only [attA, List.map] at hc
      have e2 : decide ((i : Int) ≥ ys.length) = false := by simp; omega
      repeat' (first | refine W.seq fun K hK => ?_ | refine W.block ?_ | ((first | refine wR ?_ | refine wD ?_ | refine W.skip ?_ | refine W.exit ?_ | refine W.ret (Post.ret ?_) | refine aP ?_ | refine aF ?_); simp only [go_sem, reduceCtorEq, List.getElem?_map, hx, hx', attA, e1, e2, hw]) | refine wT ?_ | refine wF ?_ | refine wC (fun h => ?_) (fun h => ?_) | refine iK ?_ | refine aI2 ?_ | (refine hK _ ?_; clear hK K) | clear hK K)
      · simp at h
        simp [hinv, hd, hd', cmpsG, h]
      · refine hKL.to (i + 1) ⟨by omega, by omega, ?_⟩ (by omega) (Fits.fit [] [0, 1, 2, 6, 11, 12, 13] 0 rfl rfl ?_)
        · simp at h
          simp [hinv, hd, hd', cmpsG, h]
        · simp only [go_sem]
          exact Fits.rfl
    · have e2 : decide ((i : Int) ≥ ys.length) = true := by simp; omega
      repeat' (first | refine W.seq fun K hK => ?_ | refine W.block ?_ | ((first | refine wR ?_ | refine wD ?_ | refine W.skip ?_ | refine W.exit ?_ | refine W.ret (Post.ret ?_) | refine aP ?_ | refine aF ?_); simp only [go_sem, reduceCtorEq, List.getElem?_map, hx, attA, e1, e2, hw]) | refine wT ?_ | refine wF ?_ | refine wC (fun h => ?_) (fun h => ?_) | refine iK ?_ | refine aI2 ?_ | (refine hK _ ?_; clear hK K) | clear hK K)
      have : ys.drop i = [] := List.drop_eq_nil_of_le (by omega)
      simp [hinv, hd, this, cmpsG]
  · have e1 : decide ((i : Int) < xs.length) = false := by simp; omega
    have hd : xs.drop i = [] := List.drop_eq_nil_of_le (by omega)
    clear hKL
    repeat' (first | refine W.seq fun K hK => ?_ | refine W.block ?_ | ((first | refine wR ?_ | refine wD ?_ | refine W.skip ?_ | refine W.exit ?_ | refine W.ret (Post.ret ?_) | refine aP ?_ | refine aF ?_); simp only [go_sem, reduceCtorEq, e1]) | refine wT ?_ | refine wF ?_ | refine wC (fun h => ?_) (fun h => ?_) | refine iK ?_ | refine aI2 ?_ | (refine hK _ ?_; clear hK K) | clear hK K)
    · obtain ⟨x, r, hd'⟩ : ∃ x r, ys.drop i = x :: r := by
        simp at h
        obtain ⟨x, _, _, h4⟩ := drop_at (show i < ys.length by omega)
        exact ⟨x, _, h4⟩
      simp [hinv, hd, hd', cmpsG]
    · have : ys.drop i = [] := by simp at h; exact List.drop_eq_nil_of_le (by omega)
      simp [hinv, hd, this, cmpsG]
theorem compareFuncRf_c (f : Nat) (cm : Rf → Rf → Int) (xs ys : List Rf) (hf : ∀ x ∈ xs, ∀ y ∈ ys, PCall Tryz.prog f [.g ((refA x).map .im), .g ((refA y).map .im)] (ft (.int .i64 (cm x y)))) :
    PCall Tryz.prog 171 [.c (.im (.sl 114 (xs.map refA))), .c (.im (.sl 114 (ys.map refA))), ft (.func (.func f) #[] #[])] (ft (.int .i64 (cmpsG cm xs ys))) := by
  refine PCall.intro (nt := 39) (rs := [.tmp 6]) Tryz.func171 rfl ⟨by kernel_rfl, by kernel_rfl, by kernel_rfl⟩ (by simp) ?_
  rintro ⟨P, w0, ok0, may, np, pblk⟩ rfl rfl
  refine W.lenIm 0 rfl fun hlen => ?_
  rw [List.length_map, maxLen_is] at hlen
  repeat' (first | refine W.seq fun K hK => ?_ | refine W.block ?_ | ((first | refine wR ?_ | refine wD ?_ | refine W.skip ?_ | refine W.exit ?_ | refine W.ret (Post.ret ?_) | refine aP ?_ | refine aF ?_); simp only [go_sem, reduceCtorEq]) | refine wT ?_ | refine wF ?_ | refine wC (fun h => ?_) (fun h => ?_) | refine iK ?_ | refine aI2 ?_ | (refine hK _ ?_; clear hK K) | clear hK K)
  refine W.loopF (T := fun i : Nat => { t := [(0, .c (.im (.sl 114 (xs.map refA)))), (1, .c (.im (.sl 114 (ys.map refA)))), (2, ft (.func (.func f) #[] #[])), (6, ft (.int .i64 0)), (11, .c (.im (.sl 114 (xs.map refA)))), (12, ft (.int .i64 xs.length)), (13, ft (.int .i64 (i : Nat)))], h := [], nx := 0, ex := [], nt := 39 })
    (Inv := fun i => i ≤ xs.length ∧ i ≤ ys.length ∧ cmpsG cm xs ys = cmpsG cm (xs.drop i) (ys.drop i)) (μ := fun i => xs.length - i) (x0 := 0) (Fits.fit [] [0, 1, 2, 6, 11, 12, 13] 0 rfl rfl ?_) ⟨Nat.zero_le _, Nat.zero_le _, rfl⟩ ?_
  · simp only [go_sem]
    exact Fits.rfl
  rintro i ⟨hi, hi2, hinv⟩ KL hKL
  by_cases hlt : i < xs.length
  · obtain ⟨x, hx, hm, hd⟩ := drop_at hlt
    have e1 : decide ((i : Int) < xs.length) = true := by simp; omega
    have hw := w64s i (by omega)
    by_cases hlt2 : i < ys.length
    · obtain ⟨x', hx', hm', hd'⟩ := drop_at hlt2
      have hc := hf _ hm _ hm'
      simp only [refA, List.map] at hc
      have e2 : decide ((i : Int) ≥ ys.length) = false := by simp; omega
      repeat' (first | refine W.seq fun K hK => ?_ | refine W.block ?_ | ((first | refine wR ?_ | refine wD ?_ | refine W.skip ?_ | refine W.exit ?_ | refine W.ret (Post.ret ?_) | refine aP ?_ | refine aF ?_); simp only [go_sem, reduceCtorEq, List.getElem?_map, hx, hx', refA, e1, e2, hw]) | refine wT ?_ | refine wF ?_ | refine wC (fun h => ?_) (fun h => ?_) | refine iK ?_ | refine aI2 ?_ | (refine hK _ ?_; clear hK K) | clear hK K)
      · simp at h
        simp [hinv, hd, hd', cmpsG, h]
      · refine hKL.to (i + 1) ⟨by omega, by omega, ?_⟩ (by omega) (Fits.fit [] [0, 1, 2, 6, 11, 12, 13] 0 rfl rfl ?_)
        · simp at h
          simp [hinv, hd, hd', cmpsG, h]
        · simp only [go_sem]
          exact Fits.rfl
    · have e2 : decide ((i : Int) ≥ ys.length) = true := by simp; omega
      repeat' (first | refine W.seq fun K hK => ?_ | refine W.block ?_ | ((first | refine wR ?_ | refine wD ?_ | refine W.skip ?_ | refine W.exit ?_ | refine W.ret (Post.ret ?_) | refine aP ?_ | refine aF ?_); simp only [go_sem, reduceCtorEq, List.getElem?_map, hx, refA, e1, e2, hw]) | refine wT ?_ | refine wF ?_ | refine wC (fun h => ?_) (fun h => ?_) | refine iK ?_ | refine aI2 ?_ | (refine hK _ ?_; clear hK K) | clear hK K)
      have : ys.drop i = [] := List.drop_eq_nil_of_le (by omega)
      simp [hinv, hd, this, cmpsG]
  · have e1 : decide ((i : Int) < xs.length) = false := by simp; omega
    have hd : xs.drop i = [] := List.drop_eq_nil_of_le (by omega)
    clear hKL
    repeat' (first | refine W.seq fun K hK => ?_ | refine W.block ?_ | ((first | refine wR ?_ | refine wD ?_ | refine W.skip ?_ | refine W.exit ?_ | refine W.ret (Post.ret ?_) | refine aP ?_ | refine aF ?_); simp only [go_sem, reduceCtorEq, e1]) | refine wT ?_ | refine wF ?_ | refine wC (fun h => ?_) (fun h => ?_) | refine iK ?_ | refine aI2 ?_ | (refine hK _ ?_; clear hK K) | clear hK K)
    · obtain ⟨x, r, hd'⟩ : ∃ x r, ys.drop i = x :: r := by
        simp at h
        obtain ⟨x, _, _, h4⟩ := drop_at (show i < ys.length by omega)
        exact ⟨x, _, h4⟩
      simp [hinv, hd, hd', cmpsG]
    · have : ys.drop i = [] := by simp at h; exact List.drop_eq_nil_of_le (by omega)
      simp [hinv, hd, this, cmpsG]
def cmpV (a b : Att) : Int := orL [cmpI a.kind b.kind, cmpB a.text b.text, cmpI a.num b.num]
theorem compareValues_c (a b : Att) : PCall Tryz.prog 179 [.g (([.flat (.int .i64 a.kind), .flat (.string a.text), .flat (.int .i64 a.num)] : List AV).map .im), .g (([.flat (.int .i64 b.kind), .flat (.string b.text), .flat (.int .i64 b.num)] : List AV).map .im)] (ft (.int .i64 (cmpV a b))) := by
  have c1 := cmpCompare_c
  have c3 := cmpCompareI_c
  have c2 := cmpOr_c [cmpI a.kind b.kind, cmpB a.text b.text, cmpI a.num b.num]
  simp only [List.map, iA] at c2
  simp only [List.map]
  refine PCall.intro (nt := 22) (rs := [.tmp 4]) Tryz.func179 rfl ⟨by kernel_rfl, by kernel_rfl, by kernel_rfl⟩ (by simp) ?_
  rintro ⟨P, w0, ok0, may, np, pblk⟩ rfl rfl
  repeat' (first | refine W.seq fun K hK => ?_ | refine W.block ?_ | ((first | refine wR ?_ | refine wD ?_ | refine W.skip ?_ | refine W.exit ?_ | refine W.ret (Post.ret ?_) | refine aP ?_ | refine aF ?_); simp only [go_sem, reduceCtorEq]) | refine wT ?_ | refine wF ?_ | refine wC (fun h => ?_) (fun h => ?_) | refine iK ?_ | refine aI2 ?_ | (refine hK _ ?_; clear hK K) | clear hK K)
  all_goals simp_all [cmpV]
def cmpAt (a b : Att) : Int := orL [cmpB a.key b.key, cmpV a b]
theorem compareAttr_c (a b : Att) : PCall Tryz.prog 178 [.g ((attA a).map .im), .g ((attA b).map .im)] (ft (.int .i64 (cmpAt a b))) := by
  have c1 := cmpCompare_c
  have c3 := compareValues_c a b
  simp only [List.map] at c3
  have c2 := cmpOr_c [cmpB a.key b.key, cmpV a b]
  simp only [List.map, iA] at c2
  simp only [attA, List.map]
  refine PCall.intro (nt := 17) (rs := [.tmp 4]) Tryz.func178 rfl ⟨by kernel_rfl, by kernel_rfl, by kernel_rfl⟩ (by simp) ?_
  rintro ⟨P, w0, ok0, may, np, pblk⟩ rfl rfl
  repeat' (first | refine W.seq fun K hK => ?_ | refine W.block ?_ | ((first | refine wR ?_ | refine wD ?_ | refine W.skip ?_ | refine W.exit ?_ | refine W.ret (Post.ret ?_) | refine aP ?_ | refine aF ?_); simp only [go_sem, reduceCtorEq]) | refine wT ?_ | refine wF ?_ | refine wC (fun h => ?_) (fun h => ?_) | refine iK ?_ | refine aI2 ?_ | (refine hK _ ?_; clear hK K) | clear hK K)
  all_goals simp_all [cmpAt]
def cmpRf (a b : Rf) : Int := orL [cmpI a.1 b.1, cmpI a.2 b.2]
theorem compareRefs_c (a b : Rf) : PCall Tryz.prog 172 [.g ((refA a).map .im), .g ((refA b).map .im)] (ft (.int .i64 (cmpRf a b))) := by
  have c3 := cmpCompareI_c
  have c2 := cmpOr_c [cmpI a.1 b.1, cmpI a.2 b.2]
  simp only [List.map, iA] at c2
  simp only [refA, List.map]
  refine PCall.intro (nt := 17) (rs := [.tmp 4]) Tryz.func172 rfl ⟨by kernel_rfl, by kernel_rfl, by kernel_rfl⟩ (by simp) ?_
  rintro ⟨P, w0, ok0, may, np, pblk⟩ rfl rfl
  repeat' (first | refine W.seq fun K hK => ?_ | refine W.block ?_ | ((first | refine wR ?_ | refine wD ?_ | refine W.skip ?_ | refine W.exit ?_ | refine W.ret (Post.ret ?_) | refine aP ?_ | refine aF ?_); simp only [go_sem, reduceCtorEq]) | refine wT ?_ | refine wF ?_ | refine wC (fun h => ?_) (fun h => ?_) | refine iK ?_ | refine aI2 ?_ | (refine hK _ ?_; clear hK K) | clear hK K)
  all_goals simp_all [cmpRf]
theorem compareAttrs_c (xs ys : List Att) : PCall Tryz.prog 170 [.c (.im (.sl 231 (xs.map attA))), .c (.im (.sl 231 (ys.map attA)))] (ft (.int .i64 (cmpsG cmpAt xs ys))) := by
  have c1 := compareFuncAt_c 178 cmpAt xs ys fun x _ y _ => compareAttr_c x y
  refine PCall.intro (nt := 8) (rs := [.tmp 4]) Tryz.func170 rfl ⟨by kernel_rfl, by kernel_rfl, by kernel_rfl⟩ (by simp) ?_
  rintro ⟨P, w0, ok0, may, np, pblk⟩ rfl rfl
  repeat' (first | refine W.seq fun K hK => ?_ | refine W.block ?_ | ((first | refine wR ?_ | refine wD ?_ | refine W.skip ?_ | refine W.exit ?_ | refine W.ret (Post.ret ?_) | refine aP ?_ | refine aF ?_); simp only [go_sem, reduceCtorEq]) | refine wT ?_ | refine wF ?_ | refine wC (fun h => ?_) (fun h => ?_) | refine iK ?_ | refine aI2 ?_ | (refine hK _ ?_; clear hK K) | clear hK K)
theorem refOf_c (s : Spn) : PCall Tryz.prog 114 [spT s] (.g ((refA (s.tr, s.id)).map .im)) := by
  simp only [spT, spA, refA, List.map]
  refine PCall.intro (nt := 8) (rs := [.cell 2 114]) Tryz.func114 rfl ⟨by kernel_rfl, by kernel_rfl, by kernel_rfl⟩ (by simp) ?_
  rintro ⟨P, w0, ok0, may, np, pblk⟩ rfl rfl
  repeat' (first | refine W.seq fun K hK => ?_ | refine W.block ?_ | ((first | refine wR ?_ | refine wD ?_ | refine W.skip ?_ | refine W.exit ?_ | refine W.ret (Post.ret ?_) | refine aP ?_ | refine aF ?_); simp only [go_sem, reduceCtorEq]) | refine wT ?_ | refine wF ?_ | refine wC (fun h => ?_) (fun h => ?_) | refine iK ?_ | refine aI2 ?_ | (refine hK _ ?_; clear hK K) | clear hK K)
end Go.Proofs.YthlimkmjobpjoaaGreat
namespace Go.Proofs.YthlimkmjobpjoaaGreat
open Go.RowKit Go.Exe
attribute [local irreducible] W AX Run RunD AStep AOp AOpX AStB AStH AStG Fits PCall GCall PostG Post Stop
theorem tA140 : Tryz.prog.underlying 242 = some (.array 6 3) := by kernel_rfl
theorem tN140 : EL Tryz.prog 242 = none := by kernel_rfl
def Spn.ints (s : Spn) : List Int := [s.tr, s.id, s.rev, s.pa, s.clk, s.kd]
def Spn.cmp (a b : Spn) : Int := orL [cmpsG cmpI a.ints b.ints, cmpB a.sv b.sv, cmpB a.ve b.ve, cmpB a.op b.op, cmpI a.st b.st, cmpI a.en b.en, numI a.er - numI b.er, cmpsG cmpAt a.ats b.ats, cmpsG cmpRf a.lks b.lks]
theorem wrap_num (a b : Bool) : IntKind.i64.wrap (numI a - numI b) = numI a - numI b := by
  cases a <;> cases b <;> rfl
theorem compare_c (a b : Spn) : PCall Tryz.prog 160 [spT a, spT b] (ft (.int .i64 (a.cmp b))) := by
  have c1 := cmpCompare_c
  have c2 := cmpCompareI_c
  have c3 := num_c
  have c4 := compareInts_c a.ints b.ints
  have c5 := compareAttrs_c a.ats b.ats
  have c6 := compareFuncRf_c 172 cmpRf a.lks b.lks fun x _ y _ => compareRefs_c x y
  have c7 := cmpOr_c [cmpsG cmpI a.ints b.ints, cmpB a.sv b.sv, cmpB a.ve b.ve, cmpB a.op b.op, cmpI a.st b.st, cmpI a.en b.en, numI a.er - numI b.er, cmpsG cmpAt a.ats b.ats, cmpsG cmpRf a.lks b.lks]
  have hA := tA140
  have hE := tE3
  simp only [Spn.ints, intsT, List.map, iA] at c4 c7
  simp only [spT, spA, List.map, Spn.cmp, Spn.ints]
  refine PCall.intro (nt := 80) (rs := [.tmp 4]) Tryz.func160 rfl ⟨by kernel_rfl, by kernel_rfl, by kernel_rfl⟩ (by simp) ?_
  rintro ⟨P, w0, ok0, may, np, pblk⟩ rfl rfl
  repeat' (first | refine W.seq fun K hK => ?_ | refine W.block ?_ | ((first | refine wR ?_ | refine wD ?_ | refine W.skip ?_ | refine W.exit ?_ | refine W.ret (Post.ret ?_) | refine aP ?_ | refine aF ?_ | refine aA ?_); simp only [go_sem, reduceCtorEq, wrap_num, tN140]) | refine wT ?_ | refine wF ?_ | refine wC (fun h => ?_) (fun h => ?_) | refine iK ?_ | refine aI2 ?_ | (refine hK _ ?_; clear hK K) | clear hK K)
theorem equal_c (a b : Spn) : PCall Tryz.prog 161 [spT a, spT b] (ft (.bool (a.cmp b == 0))) := by
  have c1 := compare_c a b
  simp only [spT, spA, List.map] at c1
  simp only [spT, spA, List.map]
  refine PCall.intro (nt := 9) (rs := [.tmp 4]) Tryz.func161 rfl ⟨by kernel_rfl, by kernel_rfl, by kernel_rfl⟩ (by simp) ?_
  rintro ⟨P, w0, ok0, may, np, pblk⟩ rfl rfl
  repeat' (first | refine W.seq fun K hK => ?_ | refine W.block ?_ | ((first | refine wR ?_ | refine wD ?_ | refine W.skip ?_ | refine W.exit ?_ | refine W.ret (Post.ret ?_) | refine aP ?_ | refine aF ?_ | refine aA ?_); simp only [go_sem, reduceCtorEq]) | refine wT ?_ | refine wF ?_ | refine wC (fun h => ?_) (fun h => ?_) | refine iK ?_ | refine aI2 ?_ | (refine hK _ ?_; clear hK K) | clear hK K)
end Go.Proofs.YthlimkmjobpjoaaGreat
namespace Go.Proofs.YthlimkmjobpjoaaGreat
open Go.RowKit Go.Exe
attribute [local irreducible] W AX Run RunD AStep AOp AOpX AStB AStH AStG Fits PCall GCall PostG Post Stop
theorem spT_fz (s : Spn) : fzT (spT s) = true := by simp [fzT, spT, spA, fzC]
theorem values1_it (ss : List Spn) : ItC Tryz.prog 165 [.c (.im (.pt [.sl 42 (ss.map spA)]))] spT (fun ys => ys = ss) ss.length := by
  intro l J hJ hY
  refine GCall.introG (nt := 16) (rs := []) Tryz.func165 rfl ⟨by kernel_rfl, by kernel_rfl, by kernel_rfl⟩ (by simp) ?_
  rintro ⟨P, w0, ok0, may, np, pblk⟩ rfl rfl
  simp only [go_sem]
  repeat' (first | refine W.seq fun K hK => ?_ | refine W.block ?_ | ((first | refine wR ?_ | refine wD ?_ | refine W.skip ?_ | refine W.exit ?_ | refine W.ret (Post.ret ?_) | refine aP ?_ | refine aF ?_ | refine aY (k0 := 0) ?_ | refine aK ?_); simp only [go_sem, reduceCtorEq]) | refine wT ?_ | refine wF ?_ | refine wC (fun h => ?_) (fun h => ?_) | refine iK ?_ | refine aI2 ?_ | (refine hK _ ?_; clear hK K) | clear hK K)
  refine W.lenIm 5 rfl fun hlen => ?_
  rw [List.length_map, maxLen_is] at hlen
  refine W.loopF (T := fun i : Nat => { t := [(0, ft (.func (.yield l) #[] #[])), (5, spsT ss), (6, ft (.int .i64 ss.length)), (7, ft (.int .i64 (i : Nat)))], h := [(0, .raw (J (ss.take i)))], nx := 1, ex := [], nt := 16 })
    (Inv := fun i => i ≤ ss.length) (μ := fun i => ss.length - i) (x0 := 0) (Fits.fit [(0, 0)] [0, 5, 6, 7] 1 rfl rfl ?_) (Nat.zero_le _) ?_
  · simp only [go_sem, List.take_zero]
    exact Fits.rfl
  rintro i hi KL hKL
  by_cases hlt : i < ss.length
  · obtain ⟨x, hx, hm, hd⟩ := drop_at hlt
    have e1 : decide ((i : Int) < ss.length) = true := by simp; omega
    have hw := w64s i (by omega)
    have hy := hY (ss.take i) x (by rw [List.length_take]; omega)
    have ht : ss.take i ++ [x] = ss.take (i + 1) := by rw [List.take_add_one, hx]; rfl
    rw [ht] at hy
    simp only [spT, spA, List.map] at hy
    repeat' (first | refine W.seq fun K hK => ?_ | refine W.block ?_ | ((first | refine wR ?_ | refine wD ?_ | refine W.skip ?_ | refine W.exit ?_ | refine W.ret (Post.ret ?_) | refine aP ?_ | refine aF ?_ | refine aY (k0 := 0) ?_ | refine aK ?_); simp only [go_sem, reduceCtorEq, List.getElem?_map, hx, spA, e1, hw]) | refine wT ?_ | refine wF ?_ | refine wC (fun h => ?_) (fun h => ?_) | refine iK ?_ | refine aI2 ?_ | (refine hK _ ?_; clear hK K) | clear hK K)
    refine hKL.to (i + 1) (by omega) (by omega) (Fits.fit [(0, 0)] [0, 5, 6, 7] 1 rfl rfl ?_)
    simp only [go_sem]
    exact Fits.rfl
  · have e1 : decide ((i : Int) < ss.length) = false := by simp; omega
    have hi : i = ss.length := by omega
    clear hKL
    repeat' (first | refine W.seq fun K hK => ?_ | refine W.block ?_ | ((first | refine wR ?_ | refine wD ?_ | refine W.skip ?_ | refine W.exit ?_ | refine W.ret (Post.ret ?_) | refine aP ?_ | refine aF ?_ | refine aY (k0 := 0) ?_ | refine aK ?_); simp only [go_sem, reduceCtorEq, e1]) | refine wT ?_ | refine wF ?_ | refine wC (fun h => ?_) (fun h => ?_) | refine iK ?_ | refine aI2 ?_ | (refine hK _ ?_; clear hK K) | clear hK K)
    refine PostG.normal (Fits.weak 0 (o1 := .raw fun ok B w => ∃ ys, ys = ss ∧ J ys ok B w) rfl rfl (fun ok w L h => ?_) (Fits.fit [(0, 0)] [] 1 rfl rfl Fits.rfl)) rfl rfl ?_
    · obtain ⟨h1, h2, _⟩ := h
      rw [hi, List.take_length] at h2
      exact ⟨h1, ⟨ss, rfl, h2⟩, fun ok ok' B w w' ⟨ys, e, hj⟩ k1 k2 => ⟨ys, e, hJ _ ok ok' B w w' hj k1 k2⟩⟩
    · simp only [St.r, go_sem]
/-! ### AppendSeq and Collect of spans -/
abbrev asT (l : List Spn) : St := { t := [(2, .c (.ptr 0 0))], h := [(0, .box 30 [.ref 1]), (1, .row 42 (imR (l.map spA)))], nx := 2, ex := [], nt := 13 }
abbrev asM (l : List Spn) (x : Spn) : St := { t := [(2, .c (.ptr 0 0)), (5, .c (.ptr 2 0))], h := [(0, .box 30 [.ref 1]), (1, .row 42 (imR (l.map spA))), (2, .box 42 ((spA x).map .im))], nx := 3, ex := [], nt := 13 }
theorem appendSeq_c (gf : Nat) (cs : List AV) (ss : List Spn) (hit : ItC Tryz.prog gf (cs.map fun c => .c (.im c)) spT (fun ys => ys = ss) ss.length) (hlen : ss.length * 168 ≤ 140737488355328) :
    GCallE Tryz.prog 175 0 (St.g [ft (.slice none 0 0), .c (.im (.fn gf cs))] [] 0) (fun ys => ys = ss) fun ys => St.r (.c (.ref 0)) [(0, .row 42 (imR (ys.map spA)))] 1 := by
  refine seq_range (i0 := 0) (i1 := 1) (i2 := 2) (i3 := 3) (i4 := 4) (b0 := 0) (b1 := 1) (gi := 6) (p := 7) (d := 2) (nt := 13) (rs := [.tmp 4]) (tv := spT) (N := ss.length) (gf := gf) (cs := cs) (T := asT) (TMx := asM) (TA := { asT [] with t := [(2, .c (.ptr 0 0)), (6, .c (.im (.fn gf cs)))] }) Tryz.func175 rfl ⟨by kernel_rfl, by kernel_rfl, by kernel_rfl⟩ (by simp) (by decide) (by decide) ?_ ⟨rfl, rfl, rfl, rfl, rfl, rfl⟩ (fun pre => ⟨rfl, rfl, rfl, .inl (Nat.zero_lt_succ _), ?_⟩) (fun pre x => ⟨rfl, .inl (Nat.zero_lt_succ _), ?_⟩) hit spT_fz ?_ ?_ ?_
  · rintro ⟨P, w0, ok0, may, np, pblk⟩ rfl rfl
    simp only [go_sem]
    refine ⟨_, rfl, Fits.rfl, ?_⟩
    simp only [go_sem]
    refine Fits.adoptB 0 30 _ 0 9 42 rfl rfl rfl rfl tE42 rfl ?_
    refine Fits.fit [(0, 0), (9, 1)] [2, 6] 2 rfl rfl ?_
    simp only [go_sem, List.map_nil, imR_nil]
    exact Fits.rfl
  · intro p hp
    simp only [asT, List.mem_cons, List.not_mem_nil, or_false] at hp
    rcases hp with rfl | rfl <;> exact ⟨rfl, rfl⟩
  · intro p hp
    simp only [asM, List.mem_cons, List.not_mem_nil, or_false] at hp
    rcases hp with rfl | rfl | rfl <;> exact ⟨rfl, rfl⟩
  · rintro ⟨P, w0, ok0, may, np, pblk⟩ rfl rfl pre x hpre
    simp only [spT, spA, List.map]
    simp only [go_sem]
    refine Fits.fit [(0, 0), (1, 1), (2, 2)] [2, 5] 3 rfl rfl ?_
    simp only [go_sem]
    exact Fits.rfl
  · rintro ⟨P, w0, ok0, may, np, pblk⟩ rfl rfl pre x hpre
    simp only [asM, spA, List.map]
    simp only [go_sem]
    repeat' (first | refine W.seq fun K hK => ?_ | refine W.block ?_ | ((first | refine wR ?_ | refine wD ?_ | refine W.skip ?_ | refine W.exit ?_ | refine W.ret (Post.ret ?_) | refine aP ?_ | refine aF ?_ | refine aY (k0 := 0) ?_ | refine aK ?_); simp only [go_sem, reduceCtorEq]) | refine wT ?_ | refine wF ?_ | refine wC (fun h => ?_) (fun h => ?_) | refine iK ?_ | refine aI2 ?_ | (refine hK _ ?_; clear hK K) | clear hK K)
    refine Fits.fit [(0, 0), (6, 1)] [2] 2 rfl rfl ?_
    simp only [go_sem]
    have e : imR (List.map spA (pre ++ [x])) = imR (List.map spA pre) ++ [(spA x).map .im] := by simp [imR, imL]
    simp only [asT, e, spA, List.map]
    exact Fits.rfl
  · rintro ⟨P, w0, ok0, may, np, pblk⟩ rfl rfl ys rfl
    simp only [go_sem]
    refine ⟨_, _, Fits.fit [(1, 0)] [4] 1 rfl rfl Fits.rfl, rfl, rfl, ?_⟩
    simp only [St.r, go_sem]
theorem collect_c (gf : Nat) (cs : List AV) (ss : List Spn) (hit : ItC Tryz.prog gf (cs.map fun c => .c (.im c)) spT (fun ys => ys = ss) ss.length) (hlen : ss.length * 168 ≤ 140737488355328) :
    GCall Tryz.prog 163 0 (St.g [.c (.im (.fn gf cs))] [] 0) (St.r (.c (.ref 0)) [(0, .row 42 (imR (ss.map spA)))] 1) := by
  have hc := (appendSeq_c gf cs ss hit hlen).det
  refine GCall.introG (nt := 5) (rs := [.tmp 2]) Tryz.func163 rfl ⟨by kernel_rfl, by kernel_rfl, by kernel_rfl⟩ (by simp) ?_
  rintro ⟨P, w0, ok0, may, np, pblk⟩ rfl rfl
  simp only [go_sem]
  repeat' (first | refine W.seq fun K hK => ?_ | refine W.block ?_ | ((first | refine wR ?_ | refine wD ?_ | refine W.skip ?_ | refine W.exit ?_ | refine W.ret (Post.ret ?_) | refine aP ?_ | refine aF ?_ | refine aY (k0 := 0) ?_ | refine aK ?_); simp only [go_sem, reduceCtorEq]) | refine wT ?_ | refine wF ?_ | refine wC (fun h => ?_) (fun h => ?_) | refine iK ?_ | refine aI2 ?_ | (refine hK _ ?_; clear hK K) | clear hK K)
  refine AX.gcall [] rfl rfl (hc) (by simp only [go_sem, reduceCtorEq]) (by simp only [go_sem, reduceCtorEq]) rfl rfl (by simp only [go_sem, Obj.owns]) rfl (by simp only [go_sem, Obj.owns]) rfl rfl ?_
  simp only [go_sem, reduceCtorEq]
  repeat' (first | refine W.seq fun K hK => ?_ | refine W.block ?_ | ((first | refine wR ?_ | refine wD ?_ | refine W.skip ?_ | refine W.exit ?_ | refine W.ret (Post.ret ?_) | refine aP ?_ | refine aF ?_ | refine aY (k0 := 0) ?_ | refine aK ?_); simp only [go_sem, reduceCtorEq]) | refine wT ?_ | refine wF ?_ | refine wC (fun h => ?_) (fun h => ?_) | refine iK ?_ | refine aI2 ?_ | (refine hK _ ?_; clear hK K) | clear hK K)
  refine W.ret (PostG.ret (Fits.fit [(2, 0)] [2] 1 rfl rfl Fits.rfl) rfl rfl ?_)
  simp only [St.r, go_sem]
theorem values_c (ss : List Spn) : PCall Tryz.prog 147 [spsT ss] (.c (.im (.fn 165 [.pt [.sl 42 (ss.map spA)]]))) := by
  refine PCall.intro (nt := 4) (rs := [.tmp 2]) Tryz.func147 rfl ⟨by kernel_rfl, by kernel_rfl, by kernel_rfl⟩ (by simp) ?_
  rintro ⟨P, w0, ok0, may, np, pblk⟩ rfl rfl
  repeat' (first | refine W.seq fun K hK => ?_ | refine W.block ?_ | ((first | refine wR ?_ | refine wD ?_ | refine W.skip ?_ | refine W.exit ?_ | refine W.ret (Post.ret ?_) | refine aP ?_ | refine aF ?_ | refine aY (k0 := 0) ?_ | refine aK ?_); simp only [go_sem, reduceCtorEq]) | refine wT ?_ | refine wF ?_ | refine wC (fun h => ?_) (fun h => ?_) | refine iK ?_ | refine aI2 ?_ | (refine hK _ ?_; clear hK K) | clear hK K)
end Go.Proofs.YthlimkmjobpjoaaGreat
namespace Go.Proofs.YthlimkmjobpjoaaGreat
open Go.RowKit Go.Exe

/-! ### orders put together -/
structure Pw {α : Type} (cm : α → α → Int) : Prop where
  anti : ∀ a b, cm b a = - cm a b
  tr : ∀ a b c, cm a b ≤ 0 → cm b c ≤ 0 → cm a c ≤ 0
theorem Lw.pw {α β : Type} {cm : β → β → Int} (h : Lw cm) (f : α → β) : Pw fun a b => cm (f a) (f b) := ⟨fun a b => h.anti _ _, fun a b c => h.tr _ _ _⟩
theorem orL_zero : ∀ {l : List Int}, orL l = 0 → ∀ x ∈ l, x = 0
  | [], _, x, hx => by simp at hx
  | n :: r, h, x, hx => by
    simp only [orL] at h
    split at h
    · rcases List.mem_cons.1 hx with rfl | hx
      · assumption
      · exact orL_zero h x hx
    · exact absurd h (by assumption)
theorem Pw.orL {α : Type} : ∀ (fs : List (α → α → Int)), (∀ f ∈ fs, Pw f) → Pw fun a b => orL (fs.map fun f => f a b)
  | [], _ => ⟨fun a b => by simp [YthlimkmjobpjoaaGreat.orL], fun a b c _ _ => by simp [YthlimkmjobpjoaaGreat.orL]⟩
  | f :: r, h => by
    have hf := h f (by simp)
    have hr := Pw.orL r fun g hg => h g (by simp [hg])
    refine ⟨fun a b => ?_, fun a b c h1 h2 => ?_⟩
    · have k1 := hf.anti a b
      have k2 := hr.anti a b
      simp only [List.map_cons, YthlimkmjobpjoaaGreat.orL]
      by_cases e : f a b = 0
      · have : f b a = 0 := by omega
        simp [e, this]; exact k2
      · have : f b a ≠ 0 := by omega
        simp [e, this]; exact k1
    · simp only [List.map_cons, YthlimkmjobpjoaaGreat.orL] at h1 h2 ⊢
      have t1 := hf.tr a b c
      have t2 := hf.tr c a b
      have t3 := hf.tr b c a
      have t4 := hf.tr c b a
      have t5 := hf.tr b a c
      have t6 := hf.tr a c b
      have n1 := hf.anti a b
      have n2 := hf.anti b c
      have n3 := hf.anti a c
      have s1 := hr.tr a b c
      by_cases e1 : f a b = 0 <;> by_cases e2 : f b c = 0 <;> simp [e1, e2] at h1 h2
      · have : f a c = 0 := by omega
        simp [this]; exact s1 h1 h2
      · have : f a c ≠ 0 := by omega
        simp [this]; omega
      · have : f a c ≠ 0 := by omega
        simp [this]; omega
      · have : f a c ≠ 0 := by omega
        simp [this]; omega
theorem lwI : Lw cmpI := by
  refine ⟨fun a b => ?_, fun a b c => ?_, fun a b => ?_⟩ <;> simp only [cmpI] <;> (repeat' split) <;> omega
theorem lwAt : Lw cmpAt := by
  have hv : Pw cmpV := Pw.orL (α := Att) [fun a b => cmpI a.kind b.kind, fun a b => cmpB a.text b.text, fun a b => cmpI a.num b.num] (by
    intro f hf
    simp only [List.mem_cons, List.not_mem_nil, or_false] at hf
    rcases hf with rfl | rfl | rfl
    · exact lwI.pw Att.kind
    · exact lwB.pw Att.text
    · exact lwI.pw Att.num)
  have h : Pw cmpAt := Pw.orL (α := Att) [fun a b => cmpB a.key b.key, cmpV] (by
    intro f hf
    simp only [List.mem_cons, List.not_mem_nil, or_false] at hf
    rcases hf with rfl | rfl
    · exact lwB.pw Att.key
    · exact hv)
  refine ⟨h.anti, h.tr, fun a b hz => ?_⟩
  have h1 := orL_zero hz
  have e1 := lwB.eq _ _ (h1 (cmpB a.key b.key) (by simp))
  have h2 := orL_zero (h1 (cmpV a b) (by simp))
  have e2 := lwI.eq _ _ (h2 (cmpI a.kind b.kind) (by simp))
  have e3 := lwB.eq _ _ (h2 (cmpB a.text b.text) (by simp))
  have e4 := lwI.eq _ _ (h2 (cmpI a.num b.num) (by simp))
  cases a; cases b; simp_all
theorem lwRf : Lw cmpRf := by
  have h : Pw cmpRf := Pw.orL (α := Rf) [fun a b => cmpI a.1 b.1, fun a b => cmpI a.2 b.2] (by
    intro f hf
    simp only [List.mem_cons, List.not_mem_nil, or_false] at hf
    rcases hf with rfl | rfl
    · exact lwI.pw Prod.fst
    · exact lwI.pw Prod.snd)
  refine ⟨h.anti, h.tr, fun a b hz => ?_⟩
  have h1 := orL_zero hz
  exact Prod.ext (lwI.eq _ _ (h1 (cmpI a.1 b.1) (by simp))) (lwI.eq _ _ (h1 (cmpI a.2 b.2) (by simp)))
theorem lwSp : Lw Spn.cmp := by
  have h : Pw Spn.cmp := Pw.orL (α := Spn) [fun a b => cmpsG cmpI a.ints b.ints, fun a b => cmpB a.sv b.sv, fun a b => cmpB a.ve b.ve, fun a b => cmpB a.op b.op, fun a b => cmpI a.st b.st, fun a b => cmpI a.en b.en, fun a b => numI a.er - numI b.er, fun a b => cmpsG cmpAt a.ats b.ats, fun a b => cmpsG cmpRf a.lks b.lks] (by
    intro f hf
    simp only [List.mem_cons, List.not_mem_nil, or_false] at hf
    rcases hf with rfl | rfl | rfl | rfl | rfl | rfl | rfl | rfl | rfl
    · exact lwI.list.pw Spn.ints
    · exact lwB.pw Spn.sv
    · exact lwB.pw Spn.ve
    · exact lwB.pw Spn.op
    · exact lwI.pw Spn.st
    · exact lwI.pw Spn.en
    · exact ⟨fun a b => by omega, fun a b c => by omega⟩
    · exact lwAt.list.pw Spn.ats
    · exact lwRf.list.pw Spn.lks)
  refine ⟨h.anti, h.tr, fun a b hz => ?_⟩
  have h1 := orL_zero hz
  have e1 := lwI.list.eq _ _ (h1 (cmpsG cmpI a.ints b.ints) (by simp))
  have e2 := lwB.eq _ _ (h1 (cmpB a.sv b.sv) (by simp))
  have e3 := lwB.eq _ _ (h1 (cmpB a.ve b.ve) (by simp))
  have e4 := lwB.eq _ _ (h1 (cmpB a.op b.op) (by simp))
  have e5 := lwI.eq _ _ (h1 (cmpI a.st b.st) (by simp))
  have e6 := lwI.eq _ _ (h1 (cmpI a.en b.en) (by simp))
  have e7 : numI a.er - numI b.er = 0 := h1 _ (by simp)
  have e8 := lwAt.list.eq _ _ (h1 (cmpsG cmpAt a.ats b.ats) (by simp))
  have e9 := lwRf.list.eq _ _ (h1 (cmpsG cmpRf a.lks b.lks) (by simp))
  have e7 : a.er = b.er := by cases h1 : a.er <;> cases h2 : b.er <;> first | rfl | (rw [h1, h2] at e7; exact absurd e7 (by decide))
  simp only [Spn.ints, List.cons.injEq] at e1
  obtain ⟨f1, f2, f3, f4, f5, f6, _⟩ := e1
  cases a; cases b; simp_all
/-! ### a list in order, and each once -/
def srtG {α : Type} (cm : α → α → Int) (l : List α) : List α := l.mergeSort fun a b => decide (cm a b ≤ 0)
theorem srtG_perm {α : Type} (cm : α → α → Int) (l : List α) : (srtG cm l).Perm l := List.mergeSort_perm l _
theorem Lw.sorted {α : Type} {cm : α → α → Int} (h : Lw cm) (l : List α) : (srtG cm l).Pairwise fun a b => ¬ cm b a < 0 := by
  have := List.pairwise_mergeSort (le := fun a b => decide (cm a b ≤ 0)) (by simpa using fun a b c => h.tr a b c) (fun a b => by have := h.anti a b; simp; omega) l
  exact this.imp fun {a b} hab => by have := h.anti a b; simp at hab; omega
theorem Lw.srt_uni {α : Type} {cm : α → α → Int} (h : Lw cm) {l zs : List α} (hp : zs.Perm l) (hs : zs.Pairwise fun a b => ¬ cm b a < 0) : zs = srtG cm l :=
  h.uni (hp.trans (srtG_perm cm l).symm) hs (h.sorted l)
end Go.Proofs.YthlimkmjobpjoaaGreat
namespace Go.Proofs.YthlimkmjobpjoaaGreat
open Go.RowKit Go.Exe
attribute [local irreducible] W AX Run RunD AStep AOp AOpX AStB AStH AStG Fits PCall GCall PostG Post Stop
instance : Inhabited Spn := ⟨⟨0, 0, 0, 0, 0, 0, .empty, .empty, .empty, 0, 0, false, [], []⟩⟩
theorem sortedFunc_c (c141 : SortC Tryz.prog 164 14) (ss : List Spn) (hlen : ss.length * 168 ≤ 140737488355328) :
    GCall Tryz.prog 146 0 (St.g [.c (.im (.fn 165 [.pt [.sl 42 (ss.map spA)]])), .c (.clo 160 [])] [] 0) (St.r (.c (.ref 0)) [(0, .row 42 (imR ((srtG Spn.cmp ss).map spA)))] 1) := by
  have hc := collect_c 165 [.pt [.sl 42 (ss.map spA)]] ss (values1_it ss) hlen
  refine GCall.introG (nt := 12) (rs := [.tmp 4]) Tryz.func146 rfl ⟨by kernel_rfl, by kernel_rfl, by kernel_rfl⟩ (by simp) ?_
  rintro ⟨P, w0, ok0, may, np, pblk⟩ rfl rfl
  simp only [go_sem]
  repeat' (first | refine W.seq fun K hK => ?_ | refine W.block ?_ | ((first | refine wR ?_ | refine wD ?_ | refine W.skip ?_ | refine W.exit ?_ | refine W.ret (Post.ret ?_) | refine aP ?_ | refine aF ?_); simp only [go_sem, reduceCtorEq]) | refine wT ?_ | refine wF ?_ | refine wC (fun h => ?_) (fun h => ?_) | refine iK ?_ | refine aI2 ?_ | (refine hK _ ?_; clear hK K) | clear hK K)
  refine AX.gcall [] rfl rfl (hc) (by simp only [go_sem, reduceCtorEq]) (by simp only [go_sem, reduceCtorEq]) rfl rfl (by simp only [go_sem, Obj.owns]) rfl (by simp only [go_sem, Obj.owns]) rfl rfl ?_
  simp only [go_sem, reduceCtorEq]
  repeat' (first | refine W.seq fun K hK => ?_ | refine W.block ?_ | ((first | refine wR ?_ | refine wD ?_ | refine W.skip ?_ | refine W.exit ?_ | refine W.ret (Post.ret ?_) | refine aP ?_ | refine aF ?_); simp only [go_sem, reduceCtorEq]) | refine wT ?_ | refine wF ?_ | refine wC (fun h => ?_) (fun h => ?_) | refine iK ?_ | refine aI2 ?_ | (refine hK _ ?_; clear hK K) | clear hK K)
  refine AX.sort (zs := srtG Spn.cmp ss) (cm := Spn.cmp) spA rfl rfl rfl rfl rfl rfl tE42 (by decide) c141 (fun x _ y _ => compare_c x y) (lwSp.ord _) (srtG_perm _ _) (fun zs' h1 h2 => lwSp.srt_uni h1 h2) rfl ?_
  simp only [go_sem]
  repeat' (first | refine W.seq fun K hK => ?_ | refine W.block ?_ | ((first | refine wR ?_ | refine wD ?_ | refine W.skip ?_ | refine W.exit ?_ | refine W.ret (Post.ret ?_) | refine aP ?_ | refine aF ?_); simp only [go_sem, reduceCtorEq]) | refine wT ?_ | refine wF ?_ | refine wC (fun h => ?_) (fun h => ?_) | refine iK ?_ | refine aI2 ?_ | (refine hK _ ?_; clear hK K) | clear hK K)
  refine W.ret (PostG.ret (Fits.fit [(2, 0)] [4] 1 rfl rfl Fits.rfl) rfl rfl ?_)
  simp only [St.r, go_sem]
end Go.Proofs.YthlimkmjobpjoaaGreat
namespace Go.Proofs.YthlimkmjobpjoaaGreat
open Go.RowKit Go.Exe

/-! ### each once -/
def compT (p : Spn) : List Spn → List Spn
  | [] => []
  | x :: r => if x.cmp p == 0 then compT x r else x :: compT x r
def compG : List Spn → List Spn
  | [] => []
  | x :: r => x :: compT x r
theorem compT_step : ∀ (r : List Spn) (p : Spn) (j : Nat) (x q : Spn), r[j]? = some x → (p :: r)[j]? = some q → compT p (r.take (j + 1)) = compT p (r.take j) ++ if x.cmp q == 0 then [] else [x]
  | [], p, j, x, q, h, _ => by simp at h
  | y :: r, p, 0, x, q, h, h2 => by
    simp at h h2
    subst h; subst h2
    simp [compT]
  | y :: r, p, j + 1, x, q, h, h2 => by
    have ih := compT_step r y j x q (by simpa using h) (by simpa using h2)
    simp only [List.take_succ_cons, compT]
    rw [ih]
    split <;> simp
theorem compG_step {l : List Spn} {j : Nat} {x q : Spn} (h : l[j + 1]? = some x) (h2 : l[j]? = some q) : compG (l.take (j + 2)) = compG (l.take (j + 1)) ++ if x.cmp q == 0 then [] else [x] := by
  cases l with
  | nil => simp at h
  | cons y r =>
    simp only [List.take_succ_cons, compG]
    rw [compT_step r y j x q (by simpa using h) h2]
    simp
theorem imR_at {l : List Spn} {i : Nat} {x : Spn} (h : l[i]? = some x) : (imR (l.map spA))[i]? = some ((spA x).map .im) := by simp [imR, imL, h]
theorem imR_set {l : List Spn} {i : Nat} {x : Spn} : (imR (l.map spA)).set i ((spA x).map .im) = imR ((l.set i x).map spA) := by simp [imR, imL, List.map_set]
attribute [local irreducible] W AX Run RunD AStep AOp AOpX AStB AStH AStG Fits PCall GCall PostG Post Stop
theorem compactFunc_c (l : List Spn) : GCall Tryz.prog 159 0 (St.g [.c (.ref 0), .c (.clo 161 [])] [(0, .row 42 (imR (l.map spA)))] 1) (St.r (spsT (compG l)) [] 0) := by
  refine GCall.introG (nt := 66) (rs := [.tmp 4]) Tryz.func159 rfl ⟨by kernel_rfl, by kernel_rfl, by kernel_rfl⟩ (by simp) ?_
  rintro ⟨P, w0, ok0, may, np, pblk⟩ rfl rfl
  simp only [go_sem]
  refine W.lenR 0 rfl tE42 fun hlen _ => ?_
  rw [imR_len, List.length_map, maxLen_is] at hlen
  by_cases h2 : l.length < 2
  · have e1 : decide ((l.length : Int) < 2) = true := by simp; omega
    repeat' (first | refine W.seq fun K hK => ?_ | refine W.block ?_ | ((first | refine wR ?_ | refine wD ?_ | refine W.skip ?_ | refine W.exit ?_ | refine W.ret (Post.ret ?_) | refine aP ?_ | refine aF ?_); simp only [go_sem, reduceCtorEq, imR_len, List.length_map, e1]) | refine wT ?_ | refine wF ?_ | refine wC (fun h => ?_) (fun h => ?_) | refine iK ?_ | refine aI2 ?_ | (refine hK _ ?_; clear hK K) | clear hK K)
    refine W.ret (PostG.ret (Fits.freeze 0 rfl (unim_im _) (Fits.seeT 4 0 rfl (.inl rfl) rfl (Fits.fit [] [4] 0 rfl rfl Fits.rfl))) rfl rfl ?_)
    have : compG l = l := by
      match l, h2 with
      | [], _ => rfl
      | [x], _ => rfl
      | x :: y :: r, h => simp at h; omega
    simp only [St.r, go_sem, this]
  have e1 : decide ((l.length : Int) < 2) = false := by simp; omega
  repeat' (first | refine W.seq fun K hK => ?_ | refine W.block ?_ | ((first | refine wR ?_ | refine wD ?_ | refine W.skip ?_ | refine W.exit ?_ | refine W.ret (Post.ret ?_) | refine aP ?_ | refine aF ?_); simp only [go_sem, reduceCtorEq, imR_len, List.length_map, e1]) | refine wT ?_ | refine wF ?_ | refine wC (fun h => ?_) (fun h => ?_) | refine iK ?_ | refine aI2 ?_ | (refine hK _ ?_; clear hK K) | clear hK K)
  refine W.loopF (T := fun i : Nat => { t := [(0, .c (.ref 0)), (1, .c (.clo 161 [])), (5, ft (.int .i64 ((i + 1 : Nat) : Int)))], h := [(0, .row 42 (imR (l.map spA)))], nx := 1, ex := [], nt := 66 })
    (Inv := fun i => i + 1 ≤ l.length ∧ compG (l.take (i + 1)) = l.take (i + 1)) (μ := fun i => l.length - i) (x0 := 0) (Fits.fit [(0, 0)] [0, 1, 5] 1 rfl rfl ?_) ⟨by omega, ?_⟩ ?_
  · simp only [go_sem]
    exact Fits.rfl
  · cases l with
    | nil => rfl
    | cons x r => rfl
  rintro i ⟨hi, hinv⟩ KL hKL
  by_cases hlt : i + 1 < l.length
  · obtain ⟨x, hx, hm, hd⟩ := drop_at hlt
    obtain ⟨q, hq, hmq, hdq⟩ := drop_at (show i < l.length by omega)
    have e2 : decide (((i + 1 : Nat) : Int) < l.length) = true := by simp; omega
    have e3 : decide (i + 1 < l.length) = true := by simp; omega
    have e4 : decide (i < l.length) = true := by simp; omega
    have e5 : IntKind.i64.wrap (((i + 1 : Nat) : Int) - 1) = (i : Nat) := by rw [w64 (by omega) (by omega)]; omega
    have e6 := w64s (i + 1) (by omega)
    have hc := equal_c x q
    simp only [spT, spA, List.map] at hc
    have hx1 := imR_at hx
    have hq1 := imR_at hq
    simp only [spA, List.map] at hx1 hq1
    cases hxq : (x.cmp q == 0) with
    | false =>
      rw [hxq] at hc
      repeat' (first | refine W.seq fun K hK => ?_ | refine W.block ?_ | ((first | refine wR ?_ | refine wD ?_ | refine W.skip ?_ | refine W.exit ?_ | refine W.ret (Post.ret ?_) | refine aP ?_ | refine aF ?_); simp only [go_sem, reduceCtorEq, imR_len, List.length_map, e2, e3, e4, e5, e6, hx1, hq1]) | refine wT ?_ | refine wF ?_ | refine wC (fun h => ?_) (fun h => ?_) | refine iK ?_ | refine aI2 ?_ | (refine hK _ ?_; clear hK K) | clear hK K)
      refine hKL.to (i + 1) ⟨by omega, ?_⟩ (by omega) (Fits.fit [(0, 0)] [0, 1, 5] 1 rfl rfl ?_)
      · rw [compG_step hx hq, hxq, hinv]
        simp [List.take_add_one, hx]
      · simp only [go_sem]
        exact Fits.rfl
    | true =>
      rw [hxq] at hc
      clear hKL
      repeat' (first | refine W.seq fun K hK => ?_ | refine W.block ?_ | ((first | refine wR ?_ | refine wD ?_ | refine W.skip ?_ | refine W.exit ?_ | refine W.ret (Post.ret ?_) | refine aP ?_ | refine aF ?_); simp only [go_sem, reduceCtorEq, imR_len, List.length_map, e2, e3, e4, e5, hx1, hq1]) | refine wT ?_ | refine wF ?_ | refine wC (fun h => ?_) (fun h => ?_) | refine iK ?_ | refine aI2 ?_ | (refine hK _ ?_; clear hK K) | clear hK K)
      refine W.loopF (T := fun y : List Spn × Nat × Nat => { t := [(0, .c (.ref 0)), (1, .c (.clo 161 [])), (5, ft (.int .i64 (y.2.1 : Nat))), (6, .c (.vw 0 14 (i + 1) (l.length - (i + 1)))), (7, ft (.int .i64 ((y.2.2 + 1 : Nat) : Int)))], h := [(0, .row 42 (imR (y.1.map spA)))], nx := 1, ex := [], nt := 66 })
        (Inv := fun y => y.1.length = l.length ∧ y.2.1 ≤ i + 1 + y.2.2 ∧ y.1.take y.2.1 = compG (l.take (i + 1 + (y.2.2 + 1))) ∧ y.1.drop (i + 1 + y.2.2) = l.drop (i + 1 + y.2.2) ∧ i + 1 + (y.2.2 + 1) ≤ l.length) (μ := fun y => l.length - y.2.2) (x0 := (l, i + 1, 0)) (Fits.fit [(0, 0)] [0, 1, 5, 6, 7] 1 rfl rfl ?_) ⟨rfl, by simp, ?_, rfl, by simp; omega⟩ ?_
      · simp only [go_sem]
        exact Fits.rfl
      · show l.take (i + 1) = compG (l.take (i + 2))
        rw [compG_step hx hq, hxq, hinv]
        simp
      rintro ⟨r, k, m⟩ ⟨hrl, hk, hrt, hrd, hml⟩ KI hKI
      simp only at hrl hk hrt hrd hml
      by_cases hlt2 : m + 1 < l.length - (i + 1)
      · obtain ⟨x', hx', _, _⟩ := drop_at (show i + 1 + (m + 1) < l.length by omega)
        obtain ⟨q', hq', _, _⟩ := drop_at (show i + 1 + m < l.length by omega)
        obtain ⟨z, hz, _, _⟩ := drop_at (show k < r.length by omega)
        have hrd2 : ∀ j, r[i + 1 + m + j]? = l[i + 1 + m + j]? := fun j => by
          have := congrArg (·[j]?) hrd
          simpa [List.getElem?_drop] using this
        have hx2 : r[i + 1 + (m + 1)]? = some x' := by rw [← hx']; exact hrd2 1
        have hq2 : r[i + 1 + m]? = some q' := by rw [← hq']; exact hrd2 0
        have f1 : decide (((m + 1 : Nat) : Int) < ((l.length - (i + 1) : Nat) : Int)) = true := by simp; omega
        have f2 : decide (m + 1 < l.length - (i + 1)) = true := by simp; omega
        have f3 : decide (m < l.length - (i + 1)) = true := by simp; omega
        have f4 : decide (k < l.length) = true := by simp; omega
        have f5 : IntKind.i64.wrap (((m + 1 : Nat) : Int) - 1) = (m : Nat) := by rw [w64 (by omega) (by omega)]; omega
        have f6 := w64s k (by omega)
        have f7 := w64s (m + 1) (by omega)
        have hc2 := equal_c x' q'
        simp only [spT, spA, List.map] at hc2
        have hx3 := imR_at hx2
        have hq3 := imR_at hq2
        have hz3 := imR_at hz
        simp only [spA, List.map] at hx3 hq3 hz3
        cases hxq2 : (x'.cmp q' == 0) with
        | true =>
          rw [hxq2] at hc2
          repeat' (first | refine W.seq fun K hK => ?_ | refine W.block ?_ | ((first | refine wR ?_ | refine wD ?_ | refine W.skip ?_ | refine W.exit ?_ | refine W.ret (Post.ret ?_) | refine aP ?_ | refine aF ?_); simp only [go_sem, reduceCtorEq, imR_len, List.length_map, hrl, f1, f2, f3, f4, f5, f6, f7, hx3, hq3, hz3]) | refine wT ?_ | refine wF ?_ | refine wC (fun h => ?_) (fun h => ?_) | refine iK ?_ | refine aI2 ?_ | (refine hK _ ?_; clear hK K) | clear hK K)
          refine hKI.to (r, k, m + 1) ⟨hrl, by simp only; omega, ?_, ?_, by simp only; omega⟩ (by simp only; omega) (Fits.fit [(0, 0)] [0, 1, 5, 6, 7] 1 rfl rfl ?_)
          · rw [show i + 1 + (m + 1 + 1) = (i + 1 + m) + 2 by omega, compG_step (j := i + 1 + m) hx' hq', hxq2]
            simp only [if_true, List.append_nil]
            exact hrt
          · have := congrArg (List.drop 1) hrd
            simpa [List.drop_drop, Nat.add_assoc] using this
          · simp only [go_sem]
            exact Fits.rfl
        | false =>
          rw [hxq2] at hc2
          repeat' (first | refine W.seq fun K hK => ?_ | refine W.block ?_ | ((first | refine wR ?_ | refine wD ?_ | refine W.skip ?_ | refine W.exit ?_ | refine W.ret (Post.ret ?_) | refine aP ?_ | refine aF ?_); simp only [go_sem, reduceCtorEq, imR_len, List.length_map, hrl, f1, f2, f3, f4, f5, f6, f7, hx3, hq3, hz3]) | refine wT ?_ | refine wF ?_ | refine wC (fun h => ?_) (fun h => ?_) | refine iK ?_ | refine aI2 ?_ | (refine hK _ ?_; clear hK K) | clear hK K)
          refine hKI.to (r.set k x', k + 1, m + 1) ⟨by simpa using hrl, by simp only; omega, ?_, ?_, by simp only; omega⟩ (by simp only; omega) (Fits.fit [(0, 0)] [0, 1, 5, 6, 7] 1 rfl rfl ?_)
          · rw [show i + 1 + (m + 1 + 1) = (i + 1 + m) + 2 by omega, compG_step (j := i + 1 + m) hx' hq', hxq2]
            simp only [Bool.false_eq_true, if_false]
            rw [show i + 1 + m + 1 = i + 1 + (m + 1) by omega, ← hrt, List.take_add_one, List.getElem?_set_self (by omega), List.take_set_of_le (Nat.le_refl k)]
            rfl
          · show (r.set k x').drop (i + 1 + (m + 1)) = _
            rw [List.drop_set_of_lt (by omega)]
            have := congrArg (List.drop 1) hrd
            simpa [List.drop_drop, Nat.add_assoc] using this
          · have e := imR_set (l := r) (i := k) (x := x')
            simp only [spA, List.map] at e
            simp only [go_sem, e]
            exact Fits.rfl
      · have f1 : decide (((m + 1 : Nat) : Int) < ((l.length - (i + 1) : Nat) : Int)) = false := by simp; omega
        clear hKI
        repeat' (first | refine W.seq fun K hK => ?_ | refine W.block ?_ | ((first | refine wR ?_ | refine wD ?_ | refine W.skip ?_ | refine W.exit ?_ | refine W.ret (Post.ret ?_) | refine aP ?_ | refine aF ?_); simp only [go_sem, reduceCtorEq, imR_len, List.length_map, hrl, f1]) | refine wT ?_ | refine wF ?_ | refine wC (fun h => ?_) (fun h => ?_) | refine iK ?_ | refine aI2 ?_ | (refine hK _ ?_; clear hK K) | clear hK K)
        refine AX.clearV rfl tL30 tE42 tZ42 rfl rfl rfl (by rw [imR_len, List.length_map]; omega) rfl ?_
        simp only [go_sem]
        have hcl := clr_len (lo := k) (n := l.length - k) [Value.int IntKind.i64 0, Value.int IntKind.i64 0, Value.int IntKind.i64 0, Value.int IntKind.i64 0, Value.int IntKind.i64 0, Value.int IntKind.i64 0, Value.string ByteArray.empty, Value.string ByteArray.empty, Value.string ByteArray.empty, Value.int IntKind.i64 0, Value.int IntKind.i64 0, Value.bool false, Value.slice none 0 0, Value.slice none 0 0] (show k + (l.length - k) ≤ (imR (r.map spA)).length by rw [imR_len, List.length_map]; omega)
        rw [imR_len, List.length_map, hrl] at hcl
        repeat' (first | refine W.seq fun K hK => ?_ | refine W.block ?_ | ((first | refine wR ?_ | refine wD ?_ | refine W.skip ?_ | refine W.exit ?_ | refine W.ret (Post.ret ?_) | refine aP ?_ | refine aF ?_); simp only [go_sem, reduceCtorEq, hcl]) | refine wT ?_ | refine wF ?_ | refine wC (fun h => ?_) (fun h => ?_) | refine iK ?_ | refine aI2 ?_ | (refine hK _ ?_; clear hK K) | clear hK K)
        refine W.ret (PostG.ret (Fits.froV 4 0 rfl rfl (clr_unim _ _ _ _) tE42 (by rw [hcl]; omega) (Fits.fit [] [4] 0 rfl rfl Fits.rfl)) rfl rfl ?_)
        have e : ∀ Z V : List (List AV), List.take (k - 0) (List.take k (r.map spA) ++ Z ++ V) = (compG l).map spA := fun Z V => by
          rw [Nat.sub_zero, List.append_assoc, List.take_append_of_le_length (by simp; omega), List.take_take, Nat.min_self, ← List.map_take, hrt, show i + 1 + (m + 1) = l.length by omega, List.take_length]
        simp only [St.r, go_sem, e]
  · have e2 : decide (((i + 1 : Nat) : Int) < l.length) = false := by simp; omega
    clear hKL
    repeat' (first | refine W.seq fun K hK => ?_ | refine W.block ?_ | ((first | refine wR ?_ | refine wD ?_ | refine W.skip ?_ | refine W.exit ?_ | refine W.ret (Post.ret ?_) | refine aP ?_ | refine aF ?_); simp only [go_sem, reduceCtorEq, imR_len, List.length_map, e2]) | refine wT ?_ | refine wF ?_ | refine wC (fun h => ?_) (fun h => ?_) | refine iK ?_ | refine aI2 ?_ | (refine hK _ ?_; clear hK K) | clear hK K)
    refine W.ret (PostG.ret (Fits.freeze 0 rfl (unim_im _) (Fits.seeT 4 0 rfl (.inl rfl) rfl (Fits.fit [] [4] 0 rfl rfl Fits.rfl))) rfl rfl ?_)
    have : compG l = l := by
      have := hinv
      rwa [show i + 1 = l.length by omega, List.take_length] at this
    simp only [St.r, go_sem, this]
end Go.Proofs.YthlimkmjobpjoaaGreat
namespace Go.Proofs.YthlimkmjobpjoaaGreat
open Go.RowKit Go.Exe
attribute [local irreducible] W AX Run RunD AStep AOp AOpX AStB AStH AStG Fits PCall GCall PostG Post Stop
def setS (l : List Spn) : List Spn := compG (srtG Spn.cmp l)
theorem set_c (c141 : SortC Tryz.prog 164 14) (l : List Spn) : PCall Tryz.prog 140 [spsT l] (spsT (setS l)) := by
  have hv := values_c l
  refine PCall.intro (nt := 7) (rs := [.tmp 2]) Tryz.func140 rfl ⟨by kernel_rfl, by kernel_rfl, by kernel_rfl⟩ (by simp) ?_
  rintro ⟨P, w0, ok0, may, np, pblk⟩ rfl rfl
  refine W.lenB 0 rfl tE42 fun _ hb => ?_
  rw [List.length_map] at hb
  repeat' (first | refine W.seq fun K hK => ?_ | refine W.block ?_ | ((first | refine wR ?_ | refine wD ?_ | refine W.skip ?_ | refine W.exit ?_ | refine W.ret (Post.ret ?_) | refine aP ?_ | refine aF ?_); simp only [go_sem, reduceCtorEq]) | refine wT ?_ | refine wF ?_ | refine wC (fun h => ?_) (fun h => ?_) | refine iK ?_ | refine aI2 ?_ | (refine hK _ ?_; clear hK K) | clear hK K)
  refine AX.gcall [] rfl rfl (sortedFunc_c c141 l hb) (by simp only [go_sem, reduceCtorEq]) (by simp only [go_sem, reduceCtorEq]) rfl rfl (by simp only [go_sem, Obj.owns]) rfl (by simp only [go_sem, Obj.owns]) rfl rfl ?_
  simp only [go_sem, reduceCtorEq]
  repeat' (first | refine W.seq fun K hK => ?_ | refine W.block ?_ | ((first | refine wR ?_ | refine wD ?_ | refine W.skip ?_ | refine W.exit ?_ | refine W.ret (Post.ret ?_) | refine aP ?_ | refine aF ?_); simp only [go_sem, reduceCtorEq]) | refine wT ?_ | refine wF ?_ | refine wC (fun h => ?_) (fun h => ?_) | refine iK ?_ | refine aI2 ?_ | (refine hK _ ?_; clear hK K) | clear hK K)
  refine AX.gcall [3] rfl rfl (compactFunc_c (srtG Spn.cmp l)) (by simp only [go_sem, reduceCtorEq]) (by simp only [go_sem, reduceCtorEq]) rfl rfl (by simp only [go_sem, Obj.owns]) rfl (by simp only [go_sem, Obj.owns]) rfl rfl ?_
  simp only [go_sem, reduceCtorEq]
  repeat' (first | refine W.seq fun K hK => ?_ | refine W.block ?_ | ((first | refine wR ?_ | refine wD ?_ | refine W.skip ?_ | refine W.exit ?_ | refine W.ret (Post.ret ?_) | refine aP ?_ | refine aF ?_); simp only [go_sem, reduceCtorEq, setS]) | refine wT ?_ | refine wF ?_ | refine wC (fun h => ?_) (fun h => ?_) | refine iK ?_ | refine aI2 ?_ | (refine hK _ ?_; clear hK K) | clear hK K)
end Go.Proofs.YthlimkmjobpjoaaGreat
namespace Go.Proofs.YthlimkmjobpjoaaGreat
open Go.RowKit Go.Exe

theorem fields56 : (Tryz.prog.fieldsOf 114).toList = [{ name := "Trace", type := 3, offset := 0, embedded := false, tag := "", pkgPath := "", byteOffset := 0 }, { name := "Id", type := 3, offset := 1, embedded := false, tag := "", pkgPath := "", byteOffset := 8 }] := by kernel_rfl
theorem st56 : Tryz.prog.underlying 114 = some (.struct (Tryz.prog.fieldsOf 114)) := by kernel_rfl
theorem si56 : Tryz.prog.stoodInHeld 114 = false := by kernel_rfl
theorem eqG56 : Tryz.prog.eqGuardType Tryz.prog.depth 114 = false := by kernel_rfl
theorem agg3 (w : World) : (isAgg 3).run Tryz.prog w = .ok false w := by kernel_rfl
theorem eqRef (a b c d : Int) (w : World) : (Op.equal 114 (.agg #[.int .i64 a, .int .i64 b]) (.agg #[.int .i64 c, .int .i64 d])).run Tryz.prog w = .ok ((a == c) && (b == d)) w := by
  unfold Op.equal Op.maxDepth
  rw [run_equalIn_struct w 9999 114 _ _ st56 si56, fields56]
  simp [Op.eqFields, Sem.run_bind, run_equalIn_int _ _ _ _ _ _ _ tU3, part, agg3]
  by_cases h1 : a = c <;> by_cases h2 : b = d <;> simp [h1, h2]
attribute [local irreducible] W AX Run RunD AStep AOp AOpX AStB AStH AStG Fits PCall GCall PostG Post Stop
theorem cloneAt_c (l : List Att) : PCall Tryz.prog 173 [.c (.im (.sl 231 (l.map attA)))] (.c (.im (.sl 231 (l.map attA)))) := by
  refine PCall.intro (nt := 8) (rs := [.tmp 2]) Tryz.func173 rfl ⟨by kernel_rfl, by kernel_rfl, by kernel_rfl⟩ (by simp) ?_
  rintro ⟨P, w0, ok0, may, np, pblk⟩ rfl rfl
  refine W.lenB 0 rfl tE231 fun hlen hbytes => ?_
  rw [List.length_map] at hlen hbytes
  refine W.nilCase 0 rfl (fun h0 => ?_) ?_
  · rw [h0]
    simp only [go_sem]
    repeat' (first | refine W.stop (id := 2) ?_ | refine W.seq fun K hK => ?_ | refine W.block ?_ | ((first | refine wR ?_ | refine wD ?_ | refine W.skip ?_ | refine W.exit ?_ | refine W.ret (Post.ret ?_) | refine aP ?_ | refine aF ?_ | refine aE ?_ | refine aQ ?_ | refine aZ ?_); simp only [go_sem, reduceCtorEq]) | refine wT ?_ | refine wF ?_ | refine wC (fun h => ?_) (fun h => ?_) | refine iK ?_ | refine aI2 ?_ | (refine hK _ ?_; clear hK K) | clear hK K)
    refine Stop.out ?_
    refine wR ?_
    simp only [go_sem, reduceCtorEq]
    refine hK _ ?_
    refine W.fits (Fits.nilSl 2 231 rfl Fits.rfl) ?_
    simp only [go_sem]
    refine W.ret (Post.ret ?_)
    simp only [go_sem]
  · simp only [go_sem]
    repeat' (first | refine W.seq fun K hK => ?_ | refine W.block ?_ | ((first | refine wR ?_ | refine wD ?_ | refine W.skip ?_ | refine W.exit ?_ | refine W.ret (Post.ret ?_) | refine aP ?_ | refine aF ?_ | refine aE ?_ | refine aQ ?_ | refine aZ ?_); simp only [go_sem, reduceCtorEq]) | refine wT ?_ | refine wF ?_ | refine wC (fun h => ?_) (fun h => ?_) | refine iK ?_ | refine aI2 ?_ | (refine hK _ ?_; clear hK K) | clear hK K)
theorem cloneRf_c (l : List Rf) : PCall Tryz.prog 174 [.c (.im (.sl 114 (l.map refA)))] (.c (.im (.sl 114 (l.map refA)))) := by
  refine PCall.intro (nt := 8) (rs := [.tmp 2]) Tryz.func174 rfl ⟨by kernel_rfl, by kernel_rfl, by kernel_rfl⟩ (by simp) ?_
  rintro ⟨P, w0, ok0, may, np, pblk⟩ rfl rfl
  refine W.lenB 0 rfl tE114 fun hlen hbytes => ?_
  rw [List.length_map] at hlen hbytes
  refine W.nilCase 0 rfl (fun h0 => ?_) ?_
  · rw [h0]
    simp only [go_sem]
    repeat' (first | refine W.stop (id := 2) ?_ | refine W.seq fun K hK => ?_ | refine W.block ?_ | ((first | refine wR ?_ | refine wD ?_ | refine W.skip ?_ | refine W.exit ?_ | refine W.ret (Post.ret ?_) | refine aP ?_ | refine aF ?_ | refine aE ?_ | refine aQ ?_ | refine aZ ?_); simp only [go_sem, reduceCtorEq]) | refine wT ?_ | refine wF ?_ | refine wC (fun h => ?_) (fun h => ?_) | refine iK ?_ | refine aI2 ?_ | (refine hK _ ?_; clear hK K) | clear hK K)
    refine Stop.out ?_
    refine wR ?_
    simp only [go_sem, reduceCtorEq]
    refine hK _ ?_
    refine W.fits (Fits.nilSl 2 114 rfl Fits.rfl) ?_
    simp only [go_sem]
    refine W.ret (Post.ret ?_)
    simp only [go_sem]
  · simp only [go_sem]
    repeat' (first | refine W.seq fun K hK => ?_ | refine W.block ?_ | ((first | refine wR ?_ | refine wD ?_ | refine W.skip ?_ | refine W.exit ?_ | refine W.ret (Post.ret ?_) | refine aP ?_ | refine aF ?_ | refine aE ?_ | refine aQ ?_ | refine aZ ?_); simp only [go_sem, reduceCtorEq]) | refine wT ?_ | refine wF ?_ | refine wC (fun h => ?_) (fun h => ?_) | refine iK ?_ | refine aI2 ?_ | (refine hK _ ?_; clear hK K) | clear hK K)
theorem copied_c (s : Spn) : PCall Tryz.prog 162 [spT s] (spT s) := by
  have c1 := cloneAt_c s.ats
  have c2 := cloneRf_c s.lks
  simp only [spT, spA, List.map]
  refine PCall.intro (nt := 12) (rs := [.cell 2 42]) Tryz.func162 rfl ⟨by kernel_rfl, by kernel_rfl, by kernel_rfl⟩ (by simp) ?_
  rintro ⟨P, w0, ok0, may, np, pblk⟩ rfl rfl
  repeat' (first | refine W.seq fun K hK => ?_ | refine W.block ?_ | ((first | refine wR ?_ | refine wD ?_ | refine W.skip ?_ | refine W.exit ?_ | refine W.ret (Post.ret ?_) | refine aP ?_ | refine aF ?_ | refine aE ?_ | refine aQ ?_ | refine aZ ?_); simp only [go_sem, reduceCtorEq]) | refine wT ?_ | refine wF ?_ | refine wC (fun h => ?_) (fun h => ?_) | refine iK ?_ | refine aI2 ?_ | (refine hK _ ?_; clear hK K) | clear hK K)
def isLast (l : List Spn) (i : Nat) : Bool := match l[i]?, l[i + 1]? with
  | some x, some y => !((y.tr == x.tr) && (y.id == x.id))
  | _, _ => true
theorem winners1_c (l : List Spn) (i : Nat) (hi : i < l.length) (hl : l.length ≤ 9223372036854775807) : PCall Tryz.prog 142 [ft (.int .i64 i), .c (.im (.pt [.sl 42 (l.map spA)]))] (ft (.bool (isLast l i))) := by
  obtain ⟨x, hx, _, _⟩ := drop_at hi
  have hw := w64s i (by omega)
  by_cases h : i + 1 < l.length
  · obtain ⟨y, hy, _, _⟩ := drop_at h
    have e : isLast l i = !((y.tr == x.tr) && (y.id == x.id)) := by simp [isLast, hx, hy]
    rw [e]
    have e1 : (((i + 1 : Nat) : Int) == (l.length : Int)) = false := by simp; omega
    have hG := eqG56
    have hE := eqRef y.tr y.id x.tr x.id
    have c1 := refOf_c x
    have c2 := refOf_c y
    simp only [spT, spA, refA, List.map] at c1 c2
    refine PCall.intro (nt := 23) (rs := [.tmp 3]) Tryz.func142 rfl ⟨by kernel_rfl, by kernel_rfl, by kernel_rfl⟩ (by simp) ?_
    rintro ⟨P, w0, ok0, may, np, pblk⟩ rfl rfl
    repeat' (first | refine W.seq fun K hK => ?_ | refine W.block ?_ | ((first | refine wR ?_ | refine wD ?_ | refine W.skip ?_ | refine W.exit ?_ | refine W.ret (Post.ret ?_) | refine aP ?_ | refine aF ?_ | refine aE ?_ | refine aQ ?_ | refine aZ ?_); simp only [go_sem, reduceCtorEq, hw, e1, List.getElem?_map, List.length_map, hx, hy, spA]) | refine wT ?_ | refine wF ?_ | refine wC (fun h => ?_) (fun h => ?_) | refine iK ?_ | refine aI2 ?_ | (refine hK _ ?_; clear hK K) | clear hK K)
  · have e : isLast l i = true := by simp [isLast, hx, List.getElem?_eq_none (show l.length ≤ i + 1 by omega)]
    rw [e]
    have e1 : (((i + 1 : Nat) : Int) == (l.length : Int)) = true := by simp; omega
    refine PCall.intro (nt := 23) (rs := [.tmp 3]) Tryz.func142 rfl ⟨by kernel_rfl, by kernel_rfl, by kernel_rfl⟩ (by simp) ?_
    rintro ⟨P, w0, ok0, may, np, pblk⟩ rfl rfl
    repeat' (first | refine W.seq fun K hK => ?_ | refine W.block ?_ | ((first | refine wR ?_ | refine wD ?_ | refine W.skip ?_ | refine W.exit ?_ | refine W.ret (Post.ret ?_) | refine aP ?_ | refine aF ?_ | refine aE ?_ | refine aQ ?_ | refine aZ ?_); simp only [go_sem, reduceCtorEq, hw, e1, List.getElem?_map, List.length_map, hx, spA]) | refine wT ?_ | refine wF ?_ | refine wC (fun h => ?_) (fun h => ?_) | refine iK ?_ | refine aI2 ?_ | (refine hK _ ?_; clear hK K) | clear hK K)
end Go.Proofs.YthlimkmjobpjoaaGreat
namespace Go.Proofs.YthlimkmjobpjoaaGreat
open Go.RowKit Go.Exe

def chosenN (keep : Nat → Bool) (l : List Spn) : Nat → List Spn
  | 0 => []
  | n + 1 => chosenN keep l n ++ if keep n then [l.getD n default] else []
theorem chosenN_len (keep : Nat → Bool) (l : List Spn) : ∀ n, (chosenN keep l n).length ≤ n
  | 0 => Nat.le_refl _
  | n + 1 => by have := chosenN_len keep l n; simp only [chosenN, List.length_append]; split <;> simp <;> omega
theorem imR_snoc (l : List Spn) (x : Spn) : imR (l.map spA) ++ [(spA x).map .im] = imR ((l ++ [x]).map spA) := by simp [imR, imL]
attribute [local irreducible] W AX Run RunD AStep AOp AOpX AStB AStH AStG Fits PCall GCall PostG Post Stop
theorem chosen_c (l : List Spn) (kf : Nat) (cs : List AV) (keep : Nat → Bool) (hk : ∀ i, i < l.length → PCall Tryz.prog kf (ft (.int .i64 (i : Nat)) :: cs.map fun c => .c (.im c)) (ft (.bool (keep i)))) :
    PCall Tryz.prog 141 [spsT l, .c (.im (.fn kf cs))] (spsT (chosenN keep l l.length)) := by
  refine PCall.intro (nt := 25) (rs := [.tmp 4]) Tryz.func141 rfl ⟨by kernel_rfl, by kernel_rfl, by kernel_rfl⟩ (by simp) ?_
  rintro ⟨P, w0, ok0, may, np, pblk⟩ rfl rfl
  refine W.lenB 0 rfl tE42 fun hlen hbytes => ?_
  rw [List.length_map] at hlen hbytes
  rw [maxLen_is] at hlen
  repeat' (first | refine W.seq fun K hK => ?_ | refine W.block ?_ | ((first | refine wR ?_ | refine wD ?_ | refine W.skip ?_ | refine W.exit ?_ | refine W.ret (Post.ret ?_) | refine aP ?_ | refine aF ?_ | refine aC ?_ | refine aK ?_); simp only [go_sem, reduceCtorEq, List.length_map]) | refine wT ?_ | refine wF ?_ | refine wC (fun h => ?_) (fun h => ?_) | refine iK ?_ | refine aI2 ?_ | (refine hK _ ?_; clear hK K) | clear hK K)
  refine W.loopF (T := fun i : Nat => { t := [(1, .c (.im (.fn kf cs))), (5, .c (.ref 0)), (8, spsT l), (9, ft (.int .i64 l.length)), (10, ft (.int .i64 (i : Nat)))], h := [(0, .row 42 (imR ((chosenN keep l i).map spA)))], nx := 1, ex := [], nt := 25 })
    (Inv := fun i => i ≤ l.length) (μ := fun i => l.length - i) (x0 := 0) (Fits.adopt 5 99 42 rfl rfl rfl tE42 rfl (Fits.fit [(99, 0)] [1, 5, 8, 9, 10] 1 rfl rfl ?_)) (Nat.zero_le _) ?_
  · simp only [go_sem, chosenN, List.map_nil, imR_nil]
    exact Fits.rfl
  rintro i hi KL hKL
  by_cases hlt : i < l.length
  · obtain ⟨x, hx, hm, hd⟩ := drop_at hlt
    have e1 : decide ((i : Int) < l.length) = true := by simp; omega
    have hw := w64s i (by omega)
    have hc := hk i hlt
    clear hk
    have hcl := chosenN_len keep l i
    have hcp := copied_c x
    simp only [spT, spA, List.map] at hcp
    have hn : chosenN keep l (i + 1) = chosenN keep l i ++ if keep i then [x] else [] := by simp [chosenN, List.getD_eq_getElem?_getD, hx]
    cases hki : keep i with
    | true =>
      rw [hki] at hc hn
      repeat' (first | refine W.seq fun K hK => ?_ | refine W.block ?_ | ((first | refine wR ?_ | refine wD ?_ | refine W.skip ?_ | refine W.exit ?_ | refine W.ret (Post.ret ?_) | refine aP ?_ | refine aF ?_ | refine aC ?_ | refine aK ?_); simp only [go_sem, reduceCtorEq, List.getElem?_map, hx, spA, e1, hw, imR_len, List.length_map]) | refine wT ?_ | refine wF ?_ | refine wC (fun h => ?_) (fun h => ?_) | refine iK ?_ | refine aI2 ?_ | (refine hK _ ?_; clear hK K) | clear hK K)
      refine hKL.to (i + 1) (by omega) (by omega) (Fits.fit [(15, 0)] [1, 5, 8, 9, 10] 1 rfl rfl ?_)
      have e := imR_snoc (chosenN keep l i) x
      simp only [spA, List.map] at e
      simp only [go_sem, hn, if_true, e]
      exact Fits.rfl
    | false =>
      rw [hki] at hc hn
      repeat' (first | refine W.seq fun K hK => ?_ | refine W.block ?_ | ((first | refine wR ?_ | refine wD ?_ | refine W.skip ?_ | refine W.exit ?_ | refine W.ret (Post.ret ?_) | refine aP ?_ | refine aF ?_ | refine aC ?_ | refine aK ?_); simp only [go_sem, reduceCtorEq, List.getElem?_map, hx, spA, e1, hw]) | refine wT ?_ | refine wF ?_ | refine wC (fun h => ?_) (fun h => ?_) | refine iK ?_ | refine aI2 ?_ | (refine hK _ ?_; clear hK K) | clear hK K)
      refine hKL.to (i + 1) (by omega) (by omega) (Fits.fit [(0, 0)] [1, 5, 8, 9, 10] 1 rfl rfl ?_)
      simp only [go_sem, hn, Bool.false_eq_true, if_false, List.append_nil]
      exact Fits.rfl
  · obtain rfl : i = l.length := by omega
    have e1 : decide ((l.length : Int) < l.length) = false := by simp
    clear hKL
    repeat' (first | refine W.seq fun K hK => ?_ | refine W.block ?_ | ((first | refine wR ?_ | refine wD ?_ | refine W.skip ?_ | refine W.exit ?_ | refine W.ret (Post.ret ?_) | refine aP ?_ | refine aF ?_ | refine aC ?_ | refine aK ?_); simp only [go_sem, reduceCtorEq, e1, unim_im]) | refine wT ?_ | refine wF ?_ | refine wC (fun h => ?_) (fun h => ?_) | refine iK ?_ | refine aI2 ?_ | (refine hK _ ?_; clear hK K) | clear hK K)
def winS (l : List Spn) : List Spn := chosenN (isLast (setS l)) (setS l) (setS l).length
theorem winners_c (c141 : SortC Tryz.prog 164 14) (l : List Spn) : PCall Tryz.prog 105 [spsT l] (spsT (winS l)) := by
  have c1 := set_c c141 l
  refine PCall.intro (nt := 9) (rs := [.tmp 2]) Tryz.func105 rfl ⟨by kernel_rfl, by kernel_rfl, by kernel_rfl⟩ (by simp) ?_
  rintro ⟨P, w0, ok0, may, np, pblk⟩ rfl rfl
  repeat' (first | refine W.stop (id := 2) ?_ | refine W.seq fun K hK => ?_ | refine W.block ?_ | ((first | refine wR ?_ | refine wD ?_ | refine W.skip ?_ | refine W.exit ?_ | refine W.ret (Post.ret ?_) | refine aP ?_ | refine aF ?_ | refine aC ?_ | refine aK ?_); simp only [go_sem, reduceCtorEq]) | refine wT ?_ | refine wF ?_ | refine wC (fun h => ?_) (fun h => ?_) | refine iK ?_ | refine aI2 ?_ | (refine hK _ ?_; clear hK K) | clear hK K)
  refine Stop.out ?_
  refine W.lenX 3 0 rfl rfl tE42 fun hlen hbytes => ?_
  rw [List.length_map, maxLen_is] at hlen
  have c2 := chosen_c (setS l) 142 [.pt [.sl 42 ((setS l).map spA)]] (isLast (setS l)) fun i hi => winners1_c _ i hi hlen
  trace_state
  repeat' (first | refine W.seq fun K hK => ?_ | refine W.block ?_ | ((first | refine wR ?_ | refine wD ?_ | refine W.skip ?_ | refine W.exit ?_ | refine W.ret (Post.ret ?_) | refine aP ?_ | refine aF ?_ | refine aC ?_ | refine aK ?_); simp only [go_sem, reduceCtorEq, winS]) | refine wT ?_ | refine wF ?_ | refine wC (fun h => ?_) (fun h => ?_) | refine iK ?_ | refine aI2 ?_ | (refine hK _ ?_; clear hK K) | clear hK K)
end Go.Proofs.YthlimkmjobpjoaaGreat
namespace Go.Proofs.YthlimkmjobpjoaaGreat
open Go.RowKit Go.Exe

def idxN (p : Spn → Bool) (l : List Spn) : Int := match l.findIdx? p with | some i => (i : Int) | none => -1
attribute [local irreducible] W AX Run RunD AStep AOp AOpX AStB AStH AStG Fits PCall GCall PostG Post Stop
theorem of1_c (t : Int) (s : Spn) : PCall Tryz.prog 106 [spT s, .c (.im (.pt [.flat (.int .i64 t)]))] (ft (.bool (s.tr != t))) := by
  simp only [spT, spA, List.map]
  refine PCall.intro (nt := 8) (rs := [.tmp 3]) Tryz.func106 rfl ⟨by kernel_rfl, by kernel_rfl, by kernel_rfl⟩ (by simp) ?_
  rintro ⟨P, w0, ok0, may, np, pblk⟩ rfl rfl
  repeat' (first | refine W.seq fun K hK => ?_ | refine W.block ?_ | ((first | refine wR ?_ | refine wD ?_ | refine W.skip ?_ | refine W.exit ?_ | refine W.ret (Post.ret ?_) | refine aP ?_ | refine aF ?_ | refine aC ?_ | refine aZ ?_); simp only [go_sem, reduceCtorEq]) | refine wT ?_ | refine wF ?_ | refine wC (fun h => ?_) (fun h => ?_) | refine iK ?_ | refine aI2 ?_ | (refine hK _ ?_; clear hK K) | clear hK K)
theorem cloneSp_c (l : List Spn) : GCall Tryz.prog 96 0 (St.g [spsT l] [] 0) (St.r (.c (.ref 0)) [(0, .row 42 (imR (l.map spA)))] 1) := by
  refine GCall.introG (nt := 8) (rs := [.tmp 2]) Tryz.func96 rfl ⟨by kernel_rfl, by kernel_rfl, by kernel_rfl⟩ (by simp) ?_
  rintro ⟨P, w0, ok0, may, np, pblk⟩ rfl rfl
  simp only [go_sem]
  refine W.lenB 0 rfl tE42 fun hlen hbytes => ?_
  rw [List.length_map] at hlen hbytes
  refine W.nilCase 0 rfl (fun h0 => ?_) ?_
  · rw [h0]
    simp only [go_sem]
    repeat' (first | refine W.seq fun K hK => ?_ | refine W.block ?_ | ((first | refine wR ?_ | refine wD ?_ | refine W.skip ?_ | refine W.exit ?_ | refine W.ret (Post.ret ?_) | refine aP ?_ | refine aF ?_ | refine aC ?_ | refine aZ ?_); simp only [go_sem, reduceCtorEq]) | refine wT ?_ | refine wF ?_ | refine wC (fun h => ?_) (fun h => ?_) | refine iK ?_ | refine aI2 ?_ | (refine hK _ ?_; clear hK K) | clear hK K)
    refine W.ret (PostG.ret (Fits.fit [] [2] 0 rfl rfl (Fits.adopt 2 0 42 rfl rfl rfl tE42 rfl Fits.rfl)) rfl rfl ?_)
    simp only [St.r, go_sem, imR_nil]
  · simp only [go_sem]
    repeat' (first | refine W.seq fun K hK => ?_ | refine W.block ?_ | ((first | refine wR ?_ | refine wD ?_ | refine W.skip ?_ | refine W.exit ?_ | refine W.ret (Post.ret ?_) | refine aP ?_ | refine aF ?_ | refine aC ?_ | refine aZ ?_); simp only [go_sem, reduceCtorEq]) | refine wT ?_ | refine wF ?_ | refine wC (fun h => ?_) (fun h => ?_) | refine iK ?_ | refine aI2 ?_ | (refine hK _ ?_; clear hK K) | clear hK K)
    refine W.ret (PostG.ret (Fits.fit [(5, 0)] [2] 1 rfl rfl Fits.rfl) rfl rfl ?_)
    simp only [St.r, go_sem]
theorem indexFunc_c (l : List Spn) (kf : Nat) (cs : List AV) (p : Spn → Bool) (hp : ∀ x, PCall Tryz.prog kf (spT x :: cs.map fun c => .c (.im c)) (ft (.bool (p x)))) :
    PCall Tryz.prog 57 [spsT l, .c (.im (.fn kf cs))] (ft (.int .i64 (idxN p l))) := by
  refine PCall.intro (nt := 19) (rs := [.tmp 4]) Tryz.func57 rfl ⟨by kernel_rfl, by kernel_rfl, by kernel_rfl⟩ (by simp) ?_
  rintro ⟨P, w0, ok0, may, np, pblk⟩ rfl rfl
  refine W.lenIm 0 rfl fun hlen => ?_
  rw [List.length_map, maxLen_is] at hlen
  repeat' (first | refine W.seq fun K hK => ?_ | refine W.block ?_ | ((first | refine wR ?_ | refine wD ?_ | refine W.skip ?_ | refine W.exit ?_ | refine W.ret (Post.ret ?_) | refine aP ?_ | refine aF ?_ | refine aC ?_ | refine aZ ?_); simp only [go_sem, reduceCtorEq, List.length_map]) | refine wT ?_ | refine wF ?_ | refine wC (fun h => ?_) (fun h => ?_) | refine iK ?_ | refine aI2 ?_ | (refine hK _ ?_; clear hK K) | clear hK K)
  refine W.loopF (T := fun i : Nat => { t := [(0, spsT l), (1, .c (.im (.fn kf cs))), (7, ft (.int .i64 l.length)), (8, ft (.int .i64 (i : Nat)))], h := [], nx := 0, ex := [], nt := 19 })
    (Inv := fun i => i ≤ l.length ∧ ∀ x ∈ l.take i, p x = false) (μ := fun i => l.length - i) (x0 := 0) (Fits.fit [] [0, 1, 7, 8] 0 rfl rfl ?_) ⟨Nat.zero_le _, by simp⟩ ?_
  · simp only [go_sem]
    exact Fits.rfl
  rintro i ⟨hi, hinv⟩ KL hKL
  by_cases hlt : i < l.length
  · obtain ⟨x, hx, hm, hd⟩ := drop_at hlt
    have e1 : decide ((i : Int) < l.length) = true := by simp; omega
    have hw := w64s i (by omega)
    have hc := hp x
    clear hp
    simp only [spT, spA, List.map_cons, List.map_nil] at hc
    cases hpx : p x with
    | true =>
      rw [hpx] at hc
      have e2 : idxN p l = (i : Int) := by
        have : l.findIdx? p = some i := by
          rw [List.findIdx?_eq_some_iff_getElem]
          refine ⟨hlt, ?_, fun j hj => ?_⟩
          · rw [List.getElem?_eq_getElem hlt] at hx; cases hx; exact hpx
          · have := hinv l[j] (List.mem_of_getElem? (i := j) (by rw [List.getElem?_take, if_pos hj, List.getElem?_eq_getElem]))
            simp [this]
        simp [idxN, this]
      rw [e2]
      clear hKL
      repeat' (first | refine W.seq fun K hK => ?_ | refine W.block ?_ | ((first | refine wR ?_ | refine wD ?_ | refine W.skip ?_ | refine W.exit ?_ | refine W.ret (Post.ret ?_) | refine aP ?_ | refine aF ?_ | refine aC ?_ | refine aZ ?_); simp only [go_sem, reduceCtorEq, List.getElem?_map, hx, spA, e1, hw]) | refine wT ?_ | refine wF ?_ | refine wC (fun h => ?_) (fun h => ?_) | refine iK ?_ | refine aI2 ?_ | (refine hK _ ?_; clear hK K) | clear hK K)
    | false =>
      rw [hpx] at hc
      repeat' (first | refine W.seq fun K hK => ?_ | refine W.block ?_ | ((first | refine wR ?_ | refine wD ?_ | refine W.skip ?_ | refine W.exit ?_ | refine W.ret (Post.ret ?_) | refine aP ?_ | refine aF ?_ | refine aC ?_ | refine aZ ?_); simp only [go_sem, reduceCtorEq, List.getElem?_map, hx, spA, e1, hw]) | refine wT ?_ | refine wF ?_ | refine wC (fun h => ?_) (fun h => ?_) | refine iK ?_ | refine aI2 ?_ | (refine hK _ ?_; clear hK K) | clear hK K)
      refine hKL.to (i + 1) ⟨by omega, fun y hy => ?_⟩ (by omega) (Fits.fit [] [0, 1, 7, 8] 0 rfl rfl ?_)
      · rw [List.take_add_one, hx] at hy
        rcases List.mem_append.1 hy with hy | hy
        · exact hinv y hy
        · simp at hy; subst hy; exact hpx
      · simp only [go_sem]
        exact Fits.rfl
  · have e1 : decide ((i : Int) < l.length) = false := by simp; omega
    have e2 : idxN p l = -1 := by
      have : l.findIdx? p = none := by
        rw [List.findIdx?_eq_none_iff]
        intro x hx
        rw [show l = l.take i by rw [List.take_of_length_le (by omega)]] at hx
        exact hinv x hx
      simp [idxN, this]
    clear hKL
    repeat' (first | refine W.seq fun K hK => ?_ | refine W.block ?_ | ((first | refine wR ?_ | refine wD ?_ | refine W.skip ?_ | refine W.exit ?_ | refine W.ret (Post.ret ?_) | refine aP ?_ | refine aF ?_ | refine aC ?_ | refine aZ ?_); simp only [go_sem, reduceCtorEq, e1]) | refine wT ?_ | refine wF ?_ | refine wC (fun h => ?_) (fun h => ?_) | refine iK ?_ | refine aI2 ?_ | (refine hK _ ?_; clear hK K) | clear hK K)
    rw [e2]
theorem deleteFunc_c (l : List Spn) (kf : Nat) (cs : List AV) (p : Spn → Bool) (hp : ∀ x, PCall Tryz.prog kf (spT x :: cs.map fun c => .c (.im c)) (ft (.bool (p x)))) :
    GCall Tryz.prog 95 0 (St.g [.c (.ref 0), .c (.im (.fn kf cs))] [(0, .row 42 (imR (l.map spA)))] 1) (St.r (spsT (l.filter fun x => !p x)) [] 0) := by
  have ci := indexFunc_c l kf cs p hp
  refine GCall.introG (nt := 42) (rs := [.tmp 4]) Tryz.func95 rfl ⟨by kernel_rfl, by kernel_rfl, by kernel_rfl⟩ (by simp) ?_
  rintro ⟨P, w0, ok0, may, np, pblk⟩ rfl rfl
  simp only [go_sem]
  refine W.lenR 0 rfl tE42 fun hlen _ => ?_
  rw [imR_len, List.length_map, maxLen_is] at hlen
  cases hf : l.findIdx? p with
  | none =>
    have e0 : idxN p l = -1 := by simp [idxN, hf]
    rw [e0] at ci
    have e1 : (l.filter fun x => !p x) = l := by
      rw [List.filter_eq_self]
      intro x hx
      have := List.findIdx?_eq_none_iff.1 hf x hx
      simp [this]
    clear hp
    repeat' (first | refine W.seq fun K hK => ?_ | refine W.block ?_ | ((first | refine wR ?_ | refine wD ?_ | refine W.skip ?_ | refine W.exit ?_ | refine W.ret (Post.ret ?_) | refine aP ?_ | refine aF ?_ | refine aC ?_ | refine aZ ?_); simp only [go_sem, reduceCtorEq, unim_im]) | refine wT ?_ | refine wF ?_ | refine wC (fun h => ?_) (fun h => ?_) | refine iK ?_ | refine aI2 ?_ | (refine hK _ ?_; clear hK K) | clear hK K)
    refine W.ret (PostG.ret (Fits.freeze 0 rfl (unim_im _) (Fits.seeT 4 0 rfl (.inl rfl) rfl (Fits.fit [] [4] 0 rfl rfl Fits.rfl))) rfl rfl ?_)
    simp only [St.r, go_sem, e1]
  | some i =>
    have e0 : idxN p l = (i : Int) := by simp [idxN, hf]
    rw [e0] at ci
    have e9 : ((i : Int) == -1) = false := by simp
    obtain ⟨hil, hpi, hlow⟩ := List.findIdx?_eq_some_iff_getElem.1 hf
    have hwi := w64s i (by omega)
    have hwi := w64s i (by omega)
    repeat' (first | refine W.seq fun K hK => ?_ | refine W.block ?_ | ((first | refine wR ?_ | refine wD ?_ | refine W.skip ?_ | refine W.exit ?_ | refine W.ret (Post.ret ?_) | refine aP ?_ | refine aF ?_ | refine aC ?_ | refine aZ ?_); simp only [go_sem, reduceCtorEq, unim_im, e9, hwi]) | refine wT ?_ | refine wF ?_ | refine wC (fun h => ?_) (fun h => ?_) | refine iK ?_ | refine aI2 ?_ | (refine hK _ ?_; clear hK K) | clear hK K)
    refine W.loopF (T := fun y : List Spn × Nat × Nat => { t := [(0, .c (.ref 0)), (1, .c (.im (.fn kf cs))), (5, ft (.int .i64 (y.2.1 : Nat))), (6, ft (.int .i64 (y.2.2 : Nat)))], h := [(0, .row 42 (imR (y.1.map spA)))], nx := 1, ex := [], nt := 42 })
      (Inv := fun y => y.1.length = l.length ∧ y.2.1 < y.2.2 ∧ y.1.take y.2.1 = (l.take y.2.2).filter (fun x => !p x) ∧ y.1.drop y.2.2 = l.drop y.2.2 ∧ y.2.2 ≤ l.length) (μ := fun y => l.length - y.2.2) (x0 := (l, i, i + 1)) (Fits.fit [(0, 0)] [0, 1, 5, 6] 1 rfl rfl ?_) ⟨rfl, Nat.lt_succ_self i, ?_, rfl, hil⟩ ?_
    · simp only [go_sem]
      exact Fits.rfl
    · show l.take i = (l.take (i + 1)).filter _
      rw [List.take_add_one, List.getElem?_eq_getElem hil, List.filter_append]
      have h1 : (l.take i).filter (fun x => !p x) = l.take i := by
        rw [List.filter_eq_self]
        intro x hx
        obtain ⟨j, hj⟩ := List.getElem?_of_mem hx
        rw [List.getElem?_take] at hj
        split at hj <;> try (cases hj; done)
        rename_i hji
        rw [List.getElem?_eq_getElem (by omega)] at hj
        cases hj
        simpa using hlow j hji
      rw [h1]
      simp [hpi]
    rintro ⟨r, k, m⟩ ⟨hrl, hk, hrt, hrd, hml⟩ KI hKI
    simp only at hrl hk hrt hrd hml
    by_cases hlt2 : m < l.length
    · obtain ⟨x, hx, _, _⟩ := drop_at hlt2
      obtain ⟨z, hz, _, _⟩ := drop_at (show k < r.length by omega)
      have hx2 : r[m]? = some x := by
        rw [← hx]
        have := congrArg (·[0]?) hrd
        simpa [List.getElem?_drop] using this
      have f1 : decide ((m : Int) < (l.length : Int)) = true := by simp; omega
      have f2 : decide (m < l.length) = true := by simp; omega
      have f4 : decide (k < l.length) = true := by simp; omega
      have f6 := w64s k (by omega)
      have f7 := w64s m (by omega)
      have hc := hp x
      clear hp
      simp only [spT, spA, List.map_cons, List.map_nil] at hc
      have hx3 := imR_at hx2
      have hz3 := imR_at hz
      simp only [spA, List.map] at hx3 hz3
      have hsnoc : (l.take (m + 1)).filter (fun x => !p x) = (l.take m).filter (fun x => !p x) ++ if p x then [] else [x] := by
        rw [List.take_add_one, hx, List.filter_append]
        cases h : p x <;> simp [h]
      have hrd2 : r.drop (m + 1) = l.drop (m + 1) := by
        have := congrArg (List.drop 1) hrd
        simpa [List.drop_drop, Nat.add_assoc] using this
      cases hpx : p x with
      | true =>
        rw [hpx] at hc hsnoc
        repeat' (first | refine W.seq fun K hK => ?_ | refine W.block ?_ | ((first | refine wR ?_ | refine wD ?_ | refine W.skip ?_ | refine W.exit ?_ | refine W.ret (Post.ret ?_) | refine aP ?_ | refine aF ?_ | refine aC ?_ | refine aZ ?_); simp only [go_sem, reduceCtorEq, imR_len, List.length_map, hrl, f1, f2, f4, f6, f7, hx3, hz3]) | refine wT ?_ | refine wF ?_ | refine wC (fun h => ?_) (fun h => ?_) | refine iK ?_ | refine aI2 ?_ | (refine hK _ ?_; clear hK K) | clear hK K)
        refine hKI.to (r, k, m + 1) ⟨hrl, by simp only; omega, ?_, hrd2, by simp only; omega⟩ (by simp only; omega) (Fits.fit [(0, 0)] [0, 1, 5, 6] 1 rfl rfl ?_)
        · show r.take k = _
          rw [hsnoc, hrt]; simp
        · simp only [go_sem]
          exact Fits.rfl
      | false =>
        rw [hpx] at hc hsnoc
        repeat' (first | refine W.seq fun K hK => ?_ | refine W.block ?_ | ((first | refine wR ?_ | refine wD ?_ | refine W.skip ?_ | refine W.exit ?_ | refine W.ret (Post.ret ?_) | refine aP ?_ | refine aF ?_ | refine aC ?_ | refine aZ ?_); simp only [go_sem, reduceCtorEq, imR_len, List.length_map, hrl, f1, f2, f4, f6, f7, hx3, hz3]) | refine wT ?_ | refine wF ?_ | refine wC (fun h => ?_) (fun h => ?_) | refine iK ?_ | refine aI2 ?_ | (refine hK _ ?_; clear hK K) | clear hK K)
        refine hKI.to (r.set k x, k + 1, m + 1) ⟨by simpa using hrl, by simp only; omega, ?_, ?_, by simp only; omega⟩ (by simp only; omega) (Fits.fit [(0, 0)] [0, 1, 5, 6] 1 rfl rfl ?_)
        · show (r.set k x).take (k + 1) = _
          rw [hsnoc, ← hrt, List.take_add_one, List.getElem?_set_self (by omega), List.take_set_of_le (Nat.le_refl k)]
          simp
        · show (r.set k x).drop (m + 1) = _
          rw [List.drop_set_of_lt (by omega)]
          exact hrd2
        · have e := imR_set (l := r) (i := k) (x := x)
          simp only [spA, List.map] at e
          simp only [go_sem, e]
          exact Fits.rfl
    · have f1 : decide ((m : Int) < (l.length : Int)) = false := by simp; omega
      clear hKI
      repeat' (first | refine W.seq fun K hK => ?_ | refine W.block ?_ | ((first | refine wR ?_ | refine wD ?_ | refine W.skip ?_ | refine W.exit ?_ | refine W.ret (Post.ret ?_) | refine aP ?_ | refine aF ?_ | refine aC ?_ | refine aZ ?_); simp only [go_sem, reduceCtorEq, imR_len, List.length_map, hrl, f1]) | refine wT ?_ | refine wF ?_ | refine wC (fun h => ?_) (fun h => ?_) | refine iK ?_ | refine aI2 ?_ | (refine hK _ ?_; clear hK K) | clear hK K)
      refine AX.clearV rfl tL30 tE42 tZ42 rfl rfl rfl (by rw [imR_len, List.length_map]; omega) rfl ?_
      simp only [go_sem]
      have hcl := clr_len (lo := k) (n := l.length - k) [Value.int IntKind.i64 0, Value.int IntKind.i64 0, Value.int IntKind.i64 0, Value.int IntKind.i64 0, Value.int IntKind.i64 0, Value.int IntKind.i64 0, Value.string ByteArray.empty, Value.string ByteArray.empty, Value.string ByteArray.empty, Value.int IntKind.i64 0, Value.int IntKind.i64 0, Value.bool false, Value.slice none 0 0, Value.slice none 0 0] (show k + (l.length - k) ≤ (imR (r.map spA)).length by rw [imR_len, List.length_map]; omega)
      rw [imR_len, List.length_map, hrl] at hcl
      repeat' (first | refine W.seq fun K hK => ?_ | refine W.block ?_ | ((first | refine wR ?_ | refine wD ?_ | refine W.skip ?_ | refine W.exit ?_ | refine W.ret (Post.ret ?_) | refine aP ?_ | refine aF ?_ | refine aC ?_ | refine aZ ?_); simp only [go_sem, reduceCtorEq, hcl]) | refine wT ?_ | refine wF ?_ | refine wC (fun h => ?_) (fun h => ?_) | refine iK ?_ | refine aI2 ?_ | (refine hK _ ?_; clear hK K) | clear hK K)
      refine W.ret (PostG.ret (Fits.froV 4 0 rfl rfl (clr_unim _ _ _ _) tE42 (by rw [hcl]; omega) (Fits.fit [] [4] 0 rfl rfl Fits.rfl)) rfl rfl ?_)
      have e : ∀ Z V : List (List AV), List.take (k - 0) (List.take k (r.map spA) ++ Z ++ V) = (l.filter fun x => !p x).map spA := fun Z V => by
        rw [Nat.sub_zero, List.append_assoc, List.take_append_of_le_length (by simp; omega), List.take_take, Nat.min_self, ← List.map_take, hrt, show m = l.length by omega, List.take_length]
      simp only [St.r, go_sem, e]
end Go.Proofs.YthlimkmjobpjoaaGreat
namespace Go.Proofs.YthlimkmjobpjoaaGreat
open Go.RowKit Go.Exe
attribute [local irreducible] W AX Run RunD AStep AOp AOpX AStB AStH AStG Fits PCall GCall PostG Post Stop
def ofS (l : List Spn) (t : Int) : List Spn := winS (l.filter fun x => !(x.tr != t))
theorem of_c (c141 : SortC Tryz.prog 164 14) (l : List Spn) (t : Int) : PCall Tryz.prog 77 [spsT l, ft (.int .i64 t)] (spsT (ofS l t)) := by
  have c2 := winners_c c141 (l.filter fun x => !(x.tr != t))
  refine PCall.intro (nt := 10) (rs := [.tmp 4]) Tryz.func77 rfl ⟨by kernel_rfl, by kernel_rfl, by kernel_rfl⟩ (by simp) ?_
  rintro ⟨P, w0, ok0, may, np, pblk⟩ rfl rfl
  repeat' (first | refine W.seq fun K hK => ?_ | refine W.block ?_ | ((first | refine wR ?_ | refine wD ?_ | refine W.skip ?_ | refine W.exit ?_ | refine W.ret (Post.ret ?_) | refine aP ?_ | refine aF ?_ | refine aC ?_ | refine aK ?_ | refine aE ?_); simp only [go_sem, reduceCtorEq]) | refine wT ?_ | refine wF ?_ | refine wC (fun h => ?_) (fun h => ?_) | refine iK ?_ | refine aI2 ?_ | (refine hK _ ?_; clear hK K) | clear hK K)
  refine AX.gcall [] rfl rfl (cloneSp_c l) (by simp only [go_sem, reduceCtorEq]) (by simp only [go_sem, reduceCtorEq]) rfl rfl (by simp only [go_sem, Obj.owns]) rfl (by simp only [go_sem, Obj.owns]) rfl rfl ?_
  simp only [go_sem, reduceCtorEq]
  repeat' (first | refine W.seq fun K hK => ?_ | refine W.block ?_ | ((first | refine wR ?_ | refine wD ?_ | refine W.skip ?_ | refine W.exit ?_ | refine W.ret (Post.ret ?_) | refine aP ?_ | refine aF ?_ | refine aC ?_ | refine aK ?_ | refine aE ?_); simp only [go_sem, reduceCtorEq]) | refine wT ?_ | refine wF ?_ | refine wC (fun h => ?_) (fun h => ?_) | refine iK ?_ | refine aI2 ?_ | (refine hK _ ?_; clear hK K) | clear hK K)
  refine AX.gcall [3] rfl rfl (deleteFunc_c l 106 [.pt [.flat (.int .i64 t)]] (fun x => x.tr != t) (fun x => of1_c t x)) (by simp only [go_sem, reduceCtorEq]) (by simp only [go_sem, reduceCtorEq]) rfl rfl (by simp only [go_sem, Obj.owns]) rfl (by simp only [go_sem, Obj.owns]) rfl rfl ?_
  simp only [go_sem, reduceCtorEq]
  repeat' (first | refine W.seq fun K hK => ?_ | refine W.block ?_ | ((first | refine wR ?_ | refine wD ?_ | refine W.skip ?_ | refine W.exit ?_ | refine W.ret (Post.ret ?_) | refine aP ?_ | refine aF ?_ | refine aC ?_ | refine aK ?_ | refine aE ?_); simp only [go_sem, reduceCtorEq, ofS]) | refine wT ?_ | refine wF ?_ | refine wC (fun h => ?_) (fun h => ?_) | refine iK ?_ | refine aI2 ?_ | (refine hK _ ?_; clear hK K) | clear hK K)
end Go.Proofs.YthlimkmjobpjoaaGreat
namespace Go.Proofs.YthlimkmjobpjoaaGreat
open Go.RowKit Go.Exe
attribute [local irreducible] W AX Run RunD AStep AOp AOpX AStB AStH AStG Fits PCall GCall PostG Post Stop
def setE (ks : List Int) : List (Value × Bool × List AV) := ks.map fun k => (.int .i64 k, false, [.flat (.bool true)])
def selK (ks : List Int) (seen : List Nat) : List Int := seen.map fun j => ks.getD j 0
theorem selK_perm {ks : List Int} {seen : List Nat} (hn : seen.Nodup) (hb : ∀ j ∈ seen, j < ks.length) (ha : ∀ j, j < ks.length → j ∈ seen) : (selK ks seen).Perm ks := by
  have := (seen_perm hn hb ha).map fun j => ks.getD j 0
  have e : (List.range ks.length).map (fun j => ks.getD j 0) = ks := by
    apply List.ext_getElem?
    intro i
    rw [List.getElem?_map]
    by_cases h : i < ks.length
    · rw [List.getElem?_range h]; simp [List.getD_eq_getElem?_getD, h]
    · rw [List.getElem?_eq_none (by simpa using h), List.getElem?_eq_none (by simpa using h)]; rfl
  rwa [e] at this
theorem keys1_it (ks : List Int) : ItC Tryz.prog 108 [.c (.im (.pt [.mp 3 (setE ks)]))] (fun k => ft (.int .i64 k)) (fun ys => ys.Perm ks) ks.length := by
  intro l J hJ hY
  refine GCall.introG (nt := 14) (rs := []) Tryz.func108 rfl ⟨by kernel_rfl, by kernel_rfl, by kernel_rfl⟩ (by simp) ?_
  rintro ⟨P, w0, ok0, may, np, pblk⟩ rfl rfl
  simp only [go_sem]
  repeat' (first | refine W.seq fun K hK => ?_ | refine W.block ?_ | ((first | refine wR ?_ | refine wD ?_ | refine W.skip ?_ | refine W.exit ?_ | refine W.ret (Post.ret ?_) | refine aP ?_ | refine aF ?_ | refine aY (k0 := 0) ?_ | refine aL ?_ | refine aU ?_ | refine aM ?_ | refine aN ?_ | refine aR ?_ | refine aK ?_ | refine aZ ?_); simp only [go_sem, reduceCtorEq]) | refine wT ?_ | refine wF ?_ | refine wC (fun h => ?_) (fun h => ?_) | refine iK ?_ | refine aI2 ?_ | (refine hK _ ?_; clear hK K) | clear hK K)
  have hlen : (setE ks).length = ks.length := by simp [setE]
  refine W.loopF (T := fun seen : List Nat => { t := [(0, ft (.func (.yield l) #[] #[])), (5, .c (.ptr 1 0))], h := [(0, .raw (J (selK ks seen))), (1, .itf 3 (setE ks) seen)], nx := 2, ex := [], nt := 14 })
    (Inv := fun seen => seen.Nodup ∧ ∀ j ∈ seen, j < ks.length) (μ := fun seen => ks.length - seen.length) (x0 := []) (Fits.fit [(0, 0), (2, 1)] [0, 5] 2 rfl rfl ?_) ⟨List.nodup_nil, by simp⟩ ?_
  · simp only [go_sem, selK, List.map_nil]
    exact Fits.rfl
  rintro seen ⟨hnd, hbd⟩ KL hKL
  repeat' (first | refine W.stop (id := 1) ?_ | refine W.seq fun K hK => ?_ | refine W.block ?_ | ((first | refine wR ?_ | refine wD ?_ | refine W.skip ?_ | refine W.exit ?_ | refine W.ret (Post.ret ?_) | refine aP ?_ | refine aF ?_ | refine aY (k0 := 0) ?_ | refine aL ?_ | refine aU ?_ | refine aM ?_ | refine aN ?_ | refine aR ?_ | refine aK ?_ | refine aZ ?_); simp only [go_sem, reduceCtorEq]) | refine wT ?_ | refine wF ?_ | refine wC (fun h => ?_) (fun h => ?_) | refine iK ?_ | refine aI2 ?_ | (refine hK _ ?_; clear hK K) | clear hK K)
  refine Stop.out ?_
  refine W.nextReg rfl rfl rfl rfl rfl rfl rfl rfl rfl rfl (fun j e he hj => ?_) (fun hall => ?_)
  · simp only [setE, List.getElem?_map, Option.map_eq_some_iff] at he
    obtain ⟨k, hk, rfl⟩ := he
    have hjl := (List.getElem?_eq_some_iff.1 hk).1
    have hn2 : (seen ++ [j]).Nodup := List.nodup_append.2 ⟨hnd, by simp, fun x hx y hy => by simp at hy; subst hy; exact fun e => hj (e ▸ hx)⟩
    have hb2 : ∀ i ∈ seen ++ [j], i < ks.length := fun i hi => by
      rcases List.mem_append.1 hi with h | h
      · exact hbd i h
      · simp at h; omega
    have hsl := seen_le hn2 hb2
    have hsa : (seen ++ [j]).length = seen.length + 1 := by simp
    have hed : (setE ks)[j]? = some (.int .i64 k, false, [.flat (.bool true)]) := by simp [setE, hk]
    have hs2 : selK ks seen ++ [k] = selK ks (seen ++ [j]) := by simp [selK, List.getD_eq_getElem?_getD, hk]
    have hy := hY (selK ks seen) k (by simp [selK]; omega)
    rw [hs2] at hy
    simp only [go_sem]
    repeat' (first | refine W.seq fun K hK => ?_ | refine W.block ?_ | ((first | refine wR ?_ | refine wD ?_ | refine W.skip ?_ | refine W.exit ?_ | refine W.ret (Post.ret ?_) | refine aP ?_ | refine aF ?_ | refine aY (k0 := 0) ?_ | refine aL ?_ | refine aU ?_ | refine aM ?_ | refine aN ?_ | refine aR ?_ | refine aK ?_ | refine aZ ?_); simp only [go_sem, reduceCtorEq]) | refine wT ?_ | refine wF ?_ | refine wC (fun h => ?_) (fun h => ?_) | refine iK ?_ | refine aI2 ?_ | (refine hK _ ?_; clear hK K) | clear hK K)
    refine AX.entry rfl rfl rfl (j := j) (by simp) hed rfl rfl ?_
    simp only [go_sem, imL]
    repeat' (first | refine W.seq fun K hK => ?_ | refine W.block ?_ | ((first | refine wR ?_ | refine wD ?_ | refine W.skip ?_ | refine W.exit ?_ | refine W.ret (Post.ret ?_) | refine aP ?_ | refine aF ?_ | refine aY (k0 := 0) ?_ | refine aL ?_ | refine aU ?_ | refine aM ?_ | refine aN ?_ | refine aR ?_ | refine aK ?_ | refine aZ ?_); simp only [go_sem, reduceCtorEq]) | refine wT ?_ | refine wF ?_ | refine wC (fun h => ?_) (fun h => ?_) | refine iK ?_ | refine aI2 ?_ | (refine hK _ ?_; clear hK K) | clear hK K)
    refine hKL.to (seen ++ [j]) ⟨hn2, hb2⟩ (by omega) (Fits.fit [(0, 0), (1, 1)] [0, 5] 2 rfl rfl ?_)
    simp only [go_sem]
    exact Fits.rfl
  · simp only [go_sem]
    clear hKL
    have hall : ∀ j, j < ks.length → j ∈ seen := fun j hj => hall j (by simpa [setE] using hj)
    have hp := selK_perm hnd hbd hall
    repeat' (first | refine W.seq fun K hK => ?_ | refine W.block ?_ | ((first | refine wR ?_ | refine wD ?_ | refine W.skip ?_ | refine W.exit ?_ | refine W.ret (Post.ret ?_) | refine aP ?_ | refine aF ?_ | refine aY (k0 := 0) ?_ | refine aL ?_ | refine aU ?_ | refine aM ?_ | refine aN ?_ | refine aR ?_ | refine aK ?_ | refine aZ ?_); simp only [go_sem, reduceCtorEq]) | refine wT ?_ | refine wF ?_ | refine wC (fun h => ?_) (fun h => ?_) | refine iK ?_ | refine aI2 ?_ | (refine hK _ ?_; clear hK K) | clear hK K)
    refine PostG.normal (Fits.weak 0 (o1 := .raw fun ok B w => ∃ ys, ys.Perm ks ∧ J ys ok B w) rfl rfl (fun ok w L h => ?_) (Fits.fit [(0, 0)] [] 1 rfl rfl Fits.rfl)) rfl rfl ?_
    · obtain ⟨h1, h2, _⟩ := h
      exact ⟨h1, ⟨_, hp, h2⟩, fun ok ok' B w w' ⟨ys, e, hj⟩ k1 k2 => ⟨ys, e, hJ _ ok ok' B w w' hj k1 k2⟩⟩
    · simp only [St.r, go_sem]
end Go.Proofs.YthlimkmjobpjoaaGreat
namespace Go.Proofs.YthlimkmjobpjoaaGreat
open Go.RowKit Go.Exe
attribute [local irreducible] W AX Run RunD AStep AOp AOpX AStB AStH AStG Fits PCall GCall PostG Post Stop
/-! ### AppendSeq, Collect, Sorted of ints -/
abbrev aiT (l : List Int) : St := { t := [(2, .c (.ptr 0 0))], h := [(0, .box 51 [.ref 1]), (1, .row 3 (imR (l.map iA)))], nx := 2, ex := [], nt := 13 }
abbrev aiM (l : List Int) (x : Int) : St := { t := [(2, .c (.ptr 0 0)), (5, ft (.int .i64 x))], h := [(0, .box 51 [.ref 1]), (1, .row 3 (imR (l.map iA)))], nx := 2, ex := [], nt := 13 }
theorem imR_snocI (l : List Int) (x : Int) : imR (l.map iA) ++ [[.im (.flat (.int .i64 x))]] = imR ((l ++ [x]).map iA) := by simp [imR, imL, iA]
theorem appendSeqI_c (gf : Nat) (cs : List AV) (S : List Int → Prop) (N : Nat) (hit : ItC Tryz.prog gf (cs.map fun c => .c (.im c)) (fun k => ft (.int .i64 k)) S N) (hlen : N * 8 ≤ 140737488355328) :
    GCallE Tryz.prog 109 0 (St.g [ft (.slice none 0 0), .c (.im (.fn gf cs))] [] 0) S fun ys => St.r (.c (.ref 0)) [(0, .row 3 (imR (ys.map iA)))] 1 := by
  refine seq_range (i0 := 0) (i1 := 1) (i2 := 2) (i3 := 3) (i4 := 4) (b0 := 0) (b1 := 1) (gi := 6) (p := 7) (d := 2) (nt := 13) (rs := [.tmp 4]) (tv := fun k : Int => ft (.int .i64 k)) (N := N) (gf := gf) (cs := cs) (T := aiT) (TMx := aiM) (TA := { aiT [] with t := [(2, .c (.ptr 0 0)), (6, .c (.im (.fn gf cs)))] }) Tryz.func109 rfl ⟨by kernel_rfl, by kernel_rfl, by kernel_rfl⟩ (by simp) (by decide) (by decide) ?_ ⟨rfl, rfl, rfl, rfl, rfl, rfl⟩ (fun pre => ⟨rfl, rfl, rfl, .inl (Nat.zero_lt_succ _), ?_⟩) (fun pre x => ⟨rfl, .inl (Nat.zero_lt_succ _), ?_⟩) hit (fun _ => rfl) ?_ ?_ ?_
  · rintro ⟨P, w0, ok0, may, np, pblk⟩ rfl rfl
    simp only [go_sem]
    refine ⟨_, rfl, Fits.rfl, ?_⟩
    simp only [go_sem]
    refine Fits.adoptB 0 51 _ 0 9 3 rfl rfl rfl rfl tE3 rfl ?_
    refine Fits.fit [(0, 0), (9, 1)] [2, 6] 2 rfl rfl ?_
    simp only [go_sem, List.map_nil, imR_nil]
    exact Fits.rfl
  · intro p hp
    simp only [aiT, List.mem_cons, List.not_mem_nil, or_false] at hp
    rcases hp with rfl | rfl <;> exact ⟨rfl, rfl⟩
  · intro p hp
    simp only [aiM, List.mem_cons, List.not_mem_nil, or_false] at hp
    rcases hp with rfl | rfl <;> exact ⟨rfl, rfl⟩
  · rintro ⟨P, w0, ok0, may, np, pblk⟩ rfl rfl pre x hpre
    simp only [go_sem]
    refine Fits.fit [(0, 0), (1, 1)] [2, 5] 2 rfl rfl ?_
    simp only [go_sem]
    exact Fits.rfl
  · rintro ⟨P, w0, ok0, may, np, pblk⟩ rfl rfl pre x hpre
    simp only [go_sem]
    repeat' (first | refine W.seq fun K hK => ?_ | refine W.block ?_ | ((first | refine wR ?_ | refine wD ?_ | refine W.skip ?_ | refine W.exit ?_ | refine W.ret (Post.ret ?_) | refine aP ?_ | refine aF ?_ | refine aY (k0 := 0) ?_ | refine aL ?_ | refine aU (hnn := by simp only [go_sem, reduceCtorEq, imR_len, List.length_map]) ?_ | refine aM ?_ | refine aN ?_ | refine aR ?_ | refine aK ?_ | refine aZ ?_); simp only [go_sem, reduceCtorEq, imR_len, List.length_map]) | refine wT ?_ | refine wF ?_ | refine wC (fun h => ?_) (fun h => ?_) | refine iK ?_ | refine aI2 ?_ | (refine hK _ ?_; clear hK K) | clear hK K)
    refine Fits.fit [(0, 0), (5, 1)] [2] 2 rfl rfl ?_
    simp only [go_sem, imR_snocI]
    exact Fits.rfl
  · rintro ⟨P, w0, ok0, may, np, pblk⟩ rfl rfl ys hys
    simp only [go_sem]
    refine ⟨_, _, Fits.fit [(1, 0)] [4] 1 rfl rfl Fits.rfl, rfl, rfl, ?_⟩
    simp only [St.r, go_sem]
end Go.Proofs.YthlimkmjobpjoaaGreat
namespace Go.Proofs.YthlimkmjobpjoaaGreat
open Go.RowKit Go.Exe
attribute [local irreducible] W AX Run RunD AStep AOp AOpX AStB AStH AStG Fits PCall GCall PostG Post Stop
theorem collectI_c (gf : Nat) (cs : List AV) (S : List Int → Prop) (N : Nat) (hit : ItC Tryz.prog gf (cs.map fun c => .c (.im c)) (fun k => ft (.int .i64 k)) S N) (hlen : N * 8 ≤ 140737488355328) :
    GCallE Tryz.prog 80 0 (St.g [.c (.im (.fn gf cs))] [] 0) S fun ys => St.r (.c (.ref 0)) [(0, .row 3 (imR (ys.map iA)))] 1 := by
  have hc := appendSeqI_c gf cs S N hit hlen
  refine GCallE.introG (nt := 5) (rs := [.tmp 2]) Tryz.func80 rfl ⟨by kernel_rfl, by kernel_rfl, by kernel_rfl⟩ (by simp) ?_
  rintro ⟨P, w0, ok0, may, np, pblk⟩ rfl rfl
  simp only [go_sem]
  repeat' (first | refine W.stop (id := 1) ?_ | refine W.seq fun K hK => ?_ | refine W.block ?_ | ((first | refine wR ?_ | refine wD ?_ | refine W.skip ?_ | refine W.exit ?_ | refine W.ret (Post.ret ?_) | refine aP ?_ | refine aF ?_ | refine aY (k0 := 0) ?_ | refine aL ?_ | refine aU ?_ | refine aM ?_ | refine aN ?_ | refine aR ?_ | refine aK ?_ | refine aZ ?_); simp only [go_sem, reduceCtorEq]) | refine wT ?_ | refine wF ?_ | refine wC (fun h => ?_) (fun h => ?_) | refine iK ?_ | refine aI2 ?_ | (refine hK _ ?_; clear hK K) | clear hK K)
  refine Stop.out ?_
  refine W.regE ?_
  refine ⟨rfl, OpE.ofAOp 9 (by simp [St.used]) ?_⟩
  simp only [go_sem]
  refine ⟨rfl, OpE.gcall 9 [] rfl rfl hc rfl rfl rfl rfl rfl rfl (fun _ _ => rfl) rfl rfl (by simp [St.used]) fun ys hys => ?_⟩
  simp only [go_sem]
  refine ⟨rfl, OpE.ofAOp 10 (by simp [St.used]) ?_⟩
  simp only [go_sem]
  refine ⟨_, Fits.fit [(9, 0)] [2] 1 rfl rfl Fits.rfl, ?_⟩
  simp only [go_sem]
  refine hK _ ?_
  refine W.ret ⟨ys, hys, PostG.ret Fits.rfl rfl rfl ?_⟩
  simp only [St.r, go_sem]
theorem keys_c (ks : List Int) : PCall Tryz.prog 79 [.c (.im (.mp 3 (setE ks)))] (.c (.im (.fn 108 [.pt [.mp 3 (setE ks)]]))) := by
  refine PCall.intro (nt := 4) (rs := [.tmp 2]) Tryz.func79 rfl ⟨by kernel_rfl, by kernel_rfl, by kernel_rfl⟩ (by simp) ?_
  rintro ⟨P, w0, ok0, may, np, pblk⟩ rfl rfl
  repeat' (first | refine W.seq fun K hK => ?_ | refine W.block ?_ | ((first | refine wR ?_ | refine wD ?_ | refine W.skip ?_ | refine W.exit ?_ | refine W.ret (Post.ret ?_) | refine aP ?_ | refine aF ?_ | refine aY (k0 := 0) ?_ | refine aL ?_ | refine aU ?_ | refine aM ?_ | refine aN ?_ | refine aR ?_ | refine aK ?_ | refine aZ ?_); simp only [go_sem, reduceCtorEq]) | refine wT ?_ | refine wF ?_ | refine wC (fun h => ?_) (fun h => ?_) | refine iK ?_ | refine aI2 ?_ | (refine hK _ ?_; clear hK K) | clear hK K)
theorem srtI_uni {l m : List Int} (h : l.Perm m) : srtI l = srtI m := by
  have h1 := List.pairwise_mergeSort (le := fun a b : Int => decide (a ≤ b)) (by simpa using fun a b c => Int.le_trans) (fun a b => by simp; omega) l
  have h2 := List.pairwise_mergeSort (le := fun a b : Int => decide (a ≤ b)) (by simpa using fun a b c => Int.le_trans) (fun a b => by simp; omega) m
  exact List.Perm.eq_of_pairwise (fun a b _ _ h1 h2 => by simp at h1 h2; omega) h1 h2 ((List.mergeSort_perm l _).trans (h.trans (List.mergeSort_perm m _).symm))
theorem sorted_c (c60 : SortI Tryz.prog 56) (ks : List Int) (hlen : ks.length * 8 ≤ 140737488355328) :
    GCall Tryz.prog 52 0 (St.g [.c (.im (.fn 108 [.pt [.mp 3 (setE ks)]]))] [] 0) (St.r (.c (.ref 0)) [(0, .row 3 (imR ((srtI ks).map iA)))] 1) := by
  have hc := collectI_c 108 [.pt [.mp 3 (setE ks)]] _ _ (keys1_it ks) hlen
  refine GCall.introG (nt := 9) (rs := [.tmp 2]) Tryz.func52 rfl ⟨by kernel_rfl, by kernel_rfl, by kernel_rfl⟩ (by simp) ?_
  rintro ⟨P, w0, ok0, may, np, pblk⟩ rfl rfl
  simp only [go_sem]
  repeat' (first | refine W.stop (id := 1) ?_ | refine W.seq fun K hK => ?_ | refine W.block ?_ | ((first | refine wR ?_ | refine wD ?_ | refine W.skip ?_ | refine W.exit ?_ | refine W.ret (Post.ret ?_) | refine aP ?_ | refine aF ?_ | refine aY (k0 := 0) ?_ | refine aL ?_ | refine aU ?_ | refine aM ?_ | refine aN ?_ | refine aR ?_ | refine aK ?_ | refine aZ ?_); simp only [go_sem, reduceCtorEq]) | refine wT ?_ | refine wF ?_ | refine wC (fun h => ?_) (fun h => ?_) | refine iK ?_ | refine aI2 ?_ | (refine hK _ ?_; clear hK K) | clear hK K)
  refine Stop.out ?_
  refine W.regE ?_
  refine ⟨rfl, OpE.ofAOp 9 (by simp [St.used]) ?_⟩
  simp only [go_sem]
  refine ⟨rfl, OpE.gcall 9 [] rfl rfl hc rfl rfl rfl rfl rfl rfl (fun _ _ => rfl) rfl rfl (by simp [St.used]) fun ys hys => ?_⟩
  simp only [go_sem]
  refine ⟨rfl, OpE.ofAOp 10 (by simp [St.used]) ?_⟩
  simp only [go_sem]
  refine ⟨_, Fits.fit [(9, 0)] [3] 1 rfl rfl Fits.rfl, ?_⟩
  simp only [go_sem]
  repeat' (first | refine W.seq fun K hK => ?_ | refine W.block ?_ | ((first | refine wR ?_ | refine wD ?_ | refine W.skip ?_ | refine W.exit ?_ | refine W.ret (Post.ret ?_) | refine aP ?_ | refine aF ?_ | refine aY (k0 := 0) ?_ | refine aL ?_ | refine aU ?_ | refine aM ?_ | refine aN ?_ | refine aR ?_ | refine aK ?_ | refine aZ ?_); simp only [go_sem, reduceCtorEq]) | refine wT ?_ | refine wF ?_ | refine wC (fun h => ?_) (fun h => ?_) | refine iK ?_ | refine aI2 ?_ | (refine hK _ ?_; clear hK K) | clear hK K)
  refine AX.sortI (zs := ys) rfl rfl rfl rfl rfl tE3 (by decide) c60 rfl ?_
  rw [srtI_uni hys]
  simp only [go_sem]
  repeat' (first | refine W.seq fun K hK => ?_ | refine W.block ?_ | ((first | refine wR ?_ | refine wD ?_ | refine W.skip ?_ | refine W.exit ?_ | refine W.ret (Post.ret ?_) | refine aP ?_ | refine aF ?_ | refine aY (k0 := 0) ?_ | refine aL ?_ | refine aU ?_ | refine aM ?_ | refine aN ?_ | refine aR ?_ | refine aK ?_ | refine aZ ?_); simp only [go_sem, reduceCtorEq]) | refine wT ?_ | refine wF ?_ | refine wC (fun h => ?_) (fun h => ?_) | refine iK ?_ | refine aI2 ?_ | (refine hK _ ?_; clear hK K) | clear hK K)
  refine W.ret (PostG.ret (Fits.fit [(0, 0)] [2] 1 rfl rfl Fits.rfl) rfl rfl ?_)
  simp only [St.r, go_sem]
  rfl
end Go.Proofs.YthlimkmjobpjoaaGreat
namespace Go.Proofs.YthlimkmjobpjoaaGreat
open Go.RowKit Go.Exe
attribute [local irreducible] W AX Run RunD AStep AOp AOpX AStB AStH AStG Fits PCall GCall PostG Post Stop
abbrev listsT (ls : List (List Int)) : TV := .c (.im (.sl 51 (ls.map fun l => [.sl 3 (l.map iA)])))
theorem take_flat {ls : List (List Int)} {i : Nat} {l : List Int} (h : ls[i]? = some l) : (ls.take (i + 1)).flatten = (ls.take i).flatten ++ l := by
  rw [List.take_add_one, h]; simp
theorem flat_le {ls : List (List Int)} (i : Nat) : (ls.take i).flatten.length ≤ ls.flatten.length := by
  rw [show ls.flatten = (ls.take i).flatten ++ (ls.drop i).flatten by rw [← List.flatten_append, List.take_append_drop]]
  simp
theorem concat_c (g62 : GrowC Tryz.prog 107 3 1 8) (ls : List (List Int)) (hb : ls.flatten.length * 8 ≤ 140737488355328) : PCall Tryz.prog 78 [listsT ls] (intsT ls.flatten) := by
  have hg := g62.call tE3 (by decide) ls.flatten.length hb (by omega)
  refine PCall.intro (nt := 36) (rs := [.tmp 2]) Tryz.func78 rfl ⟨by kernel_rfl, by kernel_rfl, by kernel_rfl⟩ (by simp) ?_
  rintro ⟨P, w0, ok0, may, np, pblk⟩ rfl rfl
  refine W.lenIm 0 rfl fun hlen => ?_
  rw [List.length_map, maxLen_is] at hlen
  repeat' (first | refine W.seq fun K hK => ?_ | refine W.block ?_ | ((first | refine wR ?_ | refine wD ?_ | refine W.skip ?_ | refine W.exit ?_ | refine W.ret (Post.ret ?_) | refine aP ?_ | refine aF ?_); simp only [go_sem, reduceCtorEq, List.length_map]) | refine wT ?_ | refine wF ?_ | refine wC (fun h => ?_) (fun h => ?_) | refine iK ?_ | refine aI2 ?_ | (refine hK _ ?_; clear hK K) | clear hK K)
  refine W.loopF (T := fun i : Nat => { t := [(0, listsT ls), (3, ft (.int .i64 ((ls.take i).flatten.length : Nat))), (9, listsT ls), (10, ft (.int .i64 ls.length)), (11, ft (.int .i64 (i : Nat)))], h := [], nx := 0, ex := [], nt := 36 })
    (Inv := fun i => i ≤ ls.length) (μ := fun i => ls.length - i) (x0 := 0) (Fits.fit [] [0, 3, 9, 10, 11] 0 rfl rfl ?_) (Nat.zero_le _) ?_
  · simp only [go_sem]
    exact Fits.rfl
  rintro i hi KL hKL
  by_cases hlt : i < ls.length
  · obtain ⟨l, hx, hm, hd⟩ := drop_at hlt
    have e1 : decide ((i : Int) < ls.length) = true := by simp; omega
    have hw := w64s i (by omega)
    have hfl := flat_le (ls := ls) (i + 1)
    rw [take_flat hx, List.length_append] at hfl
    have e2 : IntKind.i64.wrap (((ls.take i).flatten.length : Int) + (l.length : Int)) = (((ls.take (i + 1)).flatten.length : Nat) : Int) := by
      rw [w64 (by omega) (by omega), take_flat hx, List.length_append]; simp
    have e3 : decide ((((ls.take (i + 1)).flatten.length : Nat) : Int) < 0) = false := by simp
    repeat' (first | refine W.seq fun K hK => ?_ | refine W.block ?_ | ((first | refine wR ?_ | refine wD ?_ | refine W.skip ?_ | refine W.exit ?_ | refine W.ret (Post.ret ?_) | refine aP ?_ | refine aF ?_); simp only [go_sem, reduceCtorEq, List.getElem?_map, hx, e1, hw, e2, e3, List.length_map]) | refine wT ?_ | refine wF ?_ | refine wC (fun h => ?_) (fun h => ?_) | refine iK ?_ | refine aI2 ?_ | (refine hK _ ?_; clear hK K) | clear hK K)
    refine hKL.to (i + 1) (by omega) (by omega) (Fits.fit [] [0, 3, 9, 10, 11] 0 rfl rfl ?_)
    simp only [go_sem]
    exact Fits.rfl
  · obtain rfl : i = ls.length := by omega
    have e1 : decide ((ls.length : Int) < ls.length) = false := by simp
    clear hKL
    repeat' (first | refine W.seq fun K hK => ?_ | refine W.block ?_ | ((first | refine wR ?_ | refine wD ?_ | refine W.skip ?_ | refine W.exit ?_ | refine W.ret (Post.ret ?_) | refine aP ?_ | refine aF ?_); simp only [go_sem, reduceCtorEq, e1, List.take_length]) | refine wT ?_ | refine wF ?_ | refine wC (fun h => ?_) (fun h => ?_) | refine iK ?_ | refine aI2 ?_ | (refine hK _ ?_; clear hK K) | clear hK K)
    refine AX.gcall [] rfl rfl (hg) (by simp only [go_sem, reduceCtorEq]) (by simp only [go_sem, reduceCtorEq]) rfl rfl (by simp only [go_sem, Obj.owns]) rfl (by simp only [go_sem, Obj.owns]) rfl rfl ?_
    simp only [go_sem, reduceCtorEq]
    repeat' (first | refine W.seq fun K hK => ?_ | refine W.block ?_ | ((first | refine wR ?_ | refine wD ?_ | refine W.skip ?_ | refine W.exit ?_ | refine W.ret (Post.ret ?_) | refine aP ?_ | refine aF ?_); simp only [go_sem, reduceCtorEq, List.length_map]) | refine wT ?_ | refine wF ?_ | refine wC (fun h => ?_) (fun h => ?_) | refine iK ?_ | refine aI2 ?_ | (refine hK _ ?_; clear hK K) | clear hK K)
    refine W.loopF (T := fun i : Nat => { t := [(6, .c (.ref 0)), (25, listsT ls), (26, ft (.int .i64 ls.length)), (27, ft (.int .i64 (i : Nat)))], h := [(0, .row 3 (imR ((ls.take i).flatten.map iA)))], nx := 1, ex := [], nt := 36 })
      (Inv := fun i => i ≤ ls.length) (μ := fun i => ls.length - i) (x0 := 0) ?_ (Nat.zero_le _) ?_
    · refine Fits.fit [(2, 0)] [6, 25, 26, 27] 1 rfl rfl ?_
      simp only [go_sem, List.take_zero, List.flatten_nil, List.map_nil, imR_nil]
      exact Fits.rfl
    rintro i hi KL hKL
    by_cases hlt : i < ls.length
    · obtain ⟨l, hx, hm, hd⟩ := drop_at hlt
      have e1 : decide ((i : Int) < ls.length) = true := by simp; omega
      have hw := w64s i (by omega)
      have hfl := flat_le (ls := ls) (i + 1)
      rw [take_flat hx, List.length_append] at hfl
      repeat' (first | refine W.seq fun K hK => ?_ | refine W.block ?_ | ((first | refine wR ?_ | refine wD ?_ | refine W.skip ?_ | refine W.exit ?_ | refine W.ret (Post.ret ?_) | refine aP ?_ | refine aF ?_); simp only [go_sem, reduceCtorEq, List.getElem?_map, hx, e1, hw, List.length_map, imR_len]) | refine wT ?_ | refine wF ?_ | refine wC (fun h => ?_) (fun h => ?_) | refine iK ?_ | refine aI2 ?_ | (refine hK _ ?_; clear hK K) | clear hK K)
      refine hKL.to (i + 1) (by omega) (by omega) (Fits.fit [(7, 0)] [6, 25, 26, 27] 1 rfl rfl ?_)
      simp only [go_sem, take_flat hx, List.map_append, imR_app]
      exact Fits.rfl
    · obtain rfl : i = ls.length := by omega
      have e1 : decide ((ls.length : Int) < ls.length) = false := by simp
      clear hKL
      repeat' (first | refine W.seq fun K hK => ?_ | refine W.block ?_ | ((first | refine wR ?_ | refine wD ?_ | refine W.skip ?_ | refine W.exit ?_ | refine W.ret (Post.ret ?_) | refine aP ?_ | refine aF ?_); simp only [go_sem, reduceCtorEq, e1, List.take_length, unim_im]) | refine wT ?_ | refine wF ?_ | refine wC (fun h => ?_) (fun h => ?_) | refine iK ?_ | refine aI2 ?_ | (refine hK _ ?_; clear hK K) | clear hK K)
end Go.Proofs.YthlimkmjobpjoaaGreat
namespace Go.Proofs.YthlimkmjobpjoaaGreat
open Go.RowKit Go.Exe

/-! ### trees -/
structure Nd where
  id : Int
  pa : Int
  dep : Int
  ch : List Int
  deriving DecidableEq
structure Tr where
  tr : Int
  nds : List Nd
  roots : List Int
  orph : List Int
  cyc : List Int
  miss : List Int
def ndA (n : Nd) : List AV := [.flat (.int .i64 n.id), .flat (.int .i64 n.pa), .flat (.int .i64 n.dep), .sl 3 (n.ch.map iA)]
def ndC (n : Nd) : List Cell := [fl (.int .i64 n.id), fl (.int .i64 n.pa), fl (.int .i64 n.dep), .orow 3 (n.ch.map iA)]
def nd0 (s : Spn) : List AV := [.flat (.int .i64 s.id), .flat (.int .i64 s.pa), .flat (.int .i64 (-1)), .flat (.slice none 0 0)]
def trA (t : Tr) : List AV := [.flat (.int .i64 t.tr), .sl 146 (t.nds.map ndA), .sl 3 (t.roots.map iA), .sl 3 (t.orph.map iA), .sl 3 (t.cyc.map iA), .sl 3 (t.miss.map iA)]
abbrev trT (t : Tr) : TV := .g ((trA t).map .im)
def I64 (n : Int) : Prop := -9223372036854775808 ≤ n ∧ n ≤ 9223372036854775807
theorem koI {n : Int} (h : I64 n) : KeyOk Tryz.prog 3 (.int .i64 n) := by
  refine ⟨_, Maps.keyOf_int_mk tU3 ?_⟩
  obtain ⟨h1, h2⟩ := h
  show (decide (-9223372036854775808 ≤ n) && decide (n ≤ 9223372036854775807)) = true
  simp
  exact ⟨h1, h2⟩
/-- The index at which each id lies. -/
def atE (ids : List Int) : List (Value × Bool × List Cell) := ids.zipIdx.map fun p => (.int .i64 p.1, false, [fl (.int .i64 (p.2 : Int))])
theorem atE_keys (ids : List Int) : (atE ids).map (·.1) = ids.map (Value.int .i64) := by
  rw [atE, List.map_map]
  rw [show ((fun x : Value × Bool × List Cell => x.1) ∘ fun p : Int × Nat => (Value.int .i64 p.1, false, [fl (.int .i64 (p.2 : Int))])) = (Value.int .i64) ∘ Prod.fst from rfl, ← List.map_map, List.zipIdx_map_fst]
theorem int_inj {a b : Int} (h : Value.int .i64 a = Value.int .i64 b) : a = b := by injection h
theorem ints_nodup {l : List Int} (h : l.Nodup) : (l.map (Value.int .i64)).Nodup := by
  refine List.Pairwise.map _ (fun a b hab => fun e => hab (int_inj e)) h
theorem atE_snoc (ids : List Int) (x : Int) : atE (ids ++ [x]) = atE ids ++ [(.int .i64 x, false, [fl (.int .i64 (ids.length : Int))])] := by
  simp [atE, List.zipIdx_append]
theorem atE_put {ids : List Int} {x : Int} (h : x ∉ ids) : mput (.int .i64 x) (false, [fl (.int .i64 (ids.length : Int))]) (atE ids) = atE (ids ++ [x]) := by
  rw [mput_none, atE_snoc]
  intro e he
  have : e.1 ∈ (atE ids).map (·.1) := List.mem_map_of_mem he
  rw [atE_keys] at this
  obtain ⟨y, hy, hxy⟩ := List.mem_map.1 this
  rw [← hxy]
  exact fun e => h (int_inj e ▸ hy)
theorem atE_get {ids : List Int} {k : Nat} {x : Int} (hn : ids.Nodup) (h : ids[k]? = some x) : mget (.int .i64 x) (atE ids) = some (false, [fl (.int .i64 (k : Int))]) := by
  have h2 : (atE ids)[k]? = some (.int .i64 x, false, [fl (.int .i64 (k : Int))]) := by
    have : ids.zipIdx[k]? = some (x, k) := by simp [List.getElem?_zipIdx, h]
    simp [atE, this]
  exact mget_at (by rw [atE_keys]; exact ints_nodup hn) h2 rfl
theorem atE_none {ids : List Int} {x : Int} (h : x ∉ ids) : mget (.int .i64 x) (atE ids) = none := by
  refine mget_none fun e he => ?_
  have : e.1 ∈ (atE ids).map (·.1) := List.mem_map_of_mem he
  rw [atE_keys] at this
  obtain ⟨y, hy, hxy⟩ := List.mem_map.1 this
  rw [← hxy]
  exact fun e => h (int_inj e ▸ hy)
/-- A set of ints. -/
def msE (ks : List Int) : List (Value × Bool × List Cell) := ks.map fun k => (.int .i64 k, false, [fl (.bool true)])
def addK (ks : List Int) (k : Int) : List Int := if k ∈ ks then ks else ks ++ [k]
theorem msE_put (ks : List Int) (k : Int) : mput (.int .i64 k) (false, [fl (.bool true)]) (msE ks) = msE (addK ks k) := by
  unfold addK
  induction ks with
  | nil => simp [msE, mput]
  | cons x r ih =>
    simp only [msE, List.map_cons, mput] at ih ⊢
    by_cases h : x = k
    · subst h; simp
    · rw [if_neg (fun e => h (int_inj e)), ih]
      have : (k = x) = False := by simp; exact fun e => h e.symm
      simp only [List.mem_cons, this, false_or]
      split <;> simp
theorem msE_close (ks : List Int) : closeE (msE ks) = some (setE ks) := closeE_map _ _ (fun x => ⟨rfl, rfl, by simp [closeL, closeC]⟩) ks

def idsOf (ss : List Spn) : List Int := ss.map Spn.id
def kidsN (ss : List Spn) (n : Nat) (p : Int) : List Int := ((ss.take n).filter fun s => s.pa == p && s.pa != 0).map Spn.id
def rootsN (ss : List Spn) (n : Nat) : List Int := ((ss.take n).filter fun s => s.pa == 0).map Spn.id
def orphN (ss : List Spn) (n : Nat) : List Int := ((ss.take n).filter fun s => s.pa != 0 && !(idsOf ss).contains s.pa).map Spn.id
def missN (ss : List Spn) (n : Nat) : List Int := (((ss.take n).filter fun s => s.pa != 0 && !(idsOf ss).contains s.pa).map Spn.pa).foldl addK []
def nodesN (ss : List Spn) (n : Nat) : List Nd := ss.map fun s => ⟨s.id, s.pa, -1, kidsN ss n s.id⟩
section
variable {ss : List Spn} {i : Nat} {s : Spn} (h : ss[i]? = some s)
include h
theorem take_s : ss.take (i + 1) = ss.take i ++ [s] := by rw [List.take_add_one, h]; rfl
theorem step_root (h0 : s.pa = 0) : rootsN ss (i + 1) = rootsN ss i ++ [s.id] ∧ orphN ss (i + 1) = orphN ss i ∧ missN ss (i + 1) = missN ss i ∧ nodesN ss (i + 1) = nodesN ss i := by
  refine ⟨?_, ?_, ?_, ?_⟩
  · simp [rootsN, take_s h, h0]
  · simp [orphN, take_s h, h0]
  · simp [missN, take_s h, h0]
  · simp [nodesN, kidsN, take_s h, h0]
theorem step_orph (h0 : s.pa ≠ 0) (h1 : s.pa ∉ idsOf ss) : rootsN ss (i + 1) = rootsN ss i ∧ orphN ss (i + 1) = orphN ss i ++ [s.id] ∧ missN ss (i + 1) = addK (missN ss i) s.pa ∧ nodesN ss (i + 1) = nodesN ss i := by
  refine ⟨?_, ?_, ?_, ?_⟩
  · simp [rootsN, take_s h, h0]
  · simp [orphN, take_s h, h0, h1]
  · simp [missN, take_s h, h0, h1]
  · unfold nodesN
    refine List.map_congr_left fun x hx => ?_
    have : s.pa ≠ x.id := fun e => h1 (e ▸ List.mem_map_of_mem hx)
    simp [kidsN, take_s h, this]
theorem step_kid {k : Nat} {p : Spn} (hn : (idsOf ss).Nodup) (h0 : s.pa ≠ 0) (hk : ss[k]? = some p) (hp : s.pa = p.id) : rootsN ss (i + 1) = rootsN ss i ∧ orphN ss (i + 1) = orphN ss i ∧ missN ss (i + 1) = missN ss i ∧ nodesN ss (i + 1) = (nodesN ss i).set k ⟨p.id, p.pa, -1, kidsN ss i p.id ++ [s.id]⟩ := by
  have hin : s.pa ∈ idsOf ss := by rw [hp]; exact List.mem_map_of_mem (List.mem_of_getElem? hk)
  refine ⟨?_, ?_, ?_, ?_⟩
  · simp [rootsN, take_s h, h0]
  · simp [orphN, take_s h, h0, hin]
  · simp [missN, take_s h, h0, hin]
  · apply List.ext_getElem?
    intro j
    simp only [nodesN, List.getElem?_map, List.getElem?_set, List.length_map]
    by_cases hj : k = j
    · subst hj
      obtain ⟨hkl, hke⟩ := List.getElem?_eq_some_iff.1 hk
      simp [hkl, hke, kidsN, take_s h, ← hp, h0]
    · rw [if_neg hj]
      cases hx : ss[j]? with
      | none => rfl
      | some x =>
        have : s.pa ≠ x.id := fun e => by
          have h1 : (idsOf ss)[k]? = some p.id := by simp [idsOf, hk]
          have h2 : (idsOf ss)[j]? = some x.id := by simp [idsOf, hx]
          have h3 := (List.getElem?_eq_some_iff.1 h1).1
          have h4 := (List.getElem?_eq_some_iff.1 h2).1
          rw [List.getElem?_eq_getElem h3] at h1
          rw [List.getElem?_eq_getElem h4] at h2
          have h5 : (idsOf ss)[k] = (idsOf ss)[j] := by rw [Option.some.inj h1, Option.some.inj h2, ← hp, e]
          exact hj ((List.getElem_inj hn).1 h5)
        simp [kidsN, take_s h, this]
end
theorem imR_nd0 (l : List Spn) (s : Spn) : imR (l.map nd0) ++ [[.im (.flat (.int .i64 s.id)), .im (.flat (.int .i64 s.pa)), .im (.flat (.int .i64 (-1))), .im (.flat (.slice none 0 0))]] = imR ((l ++ [s]).map nd0) := by simp [imR, imL, nd0]
theorem nd0_CN (ss : List Spn) : Al (Al (CN Tryz.prog)) (imR (ss.map nd0)) ((nodesN ss 0).map ndC) := by
  refine ⟨by simp [imR, nodesN], fun i u x hu hx => ?_⟩
  simp only [imR, nodesN, List.map_map, List.getElem?_map, Option.map_eq_some_iff] at hu hx
  obtain ⟨s, hs, rfl⟩ := hu
  obtain ⟨s', hs', rfl⟩ := hx
  rw [hs] at hs'
  cases hs'
  refine ⟨rfl, fun j c d hc hd => ?_⟩
  match j with
  | 0 => simp [nd0, imL, ndC] at hc hd; subst hc; subst hd; exact .same _
  | 1 => simp [nd0, imL, ndC] at hc hd; subst hc; subst hd; exact .same _
  | 2 => simp [nd0, imL, ndC] at hc hd; subst hc; subst hd; exact .same _
  | 3 => simp [nd0, imL, ndC, kidsN] at hc hd; subst hc; subst hd; exact .nil tE3 (by decide)
  | j + 4 => simp [nd0, imL] at hc
theorem rnEs_map {α : Type} (r : Ren) (f : α → Value × Bool × List Cell) (h : ∀ x, rnCs r (f x).2.2 = (f x).2.2) : ∀ l : List α, rnEs r (l.map f) = l.map f
  | [] => rfl
  | x :: l => by simp only [List.map_cons, rnEs, h x, rnEs_map r f h l]
theorem rnEs_atE (r : Ren) (ids : List Int) : rnEs r (atE ids) = atE ids := rnEs_map r _ (fun _ => rfl) _
theorem rnEs_msE (r : Ren) (ks : List Int) : rnEs r (msE ks) = msE ks := rnEs_map r _ (fun _ => rfl) _
theorem rnCss_ndC (r : Ren) : ∀ l : List Nd, rnCss r (l.map ndC) = l.map ndC
  | [] => rfl
  | x :: l => by simp only [List.map_cons, rnCss, rnCss_ndC r l]; rfl
theorem nodesN_len (ss : List Spn) (i : Nat) : (nodesN ss i).length = ss.length := by simp [nodesN]
theorem nodesN_at {ss : List Spn} {j : Nat} {s : Spn} (i : Nat) (h : ss[j]? = some s) : ((nodesN ss i).map ndC)[j]? = some [fl (.int .i64 s.id), fl (.int .i64 s.pa), fl (.int .i64 (-1)), .orow 3 ((kidsN ss i s.id).map iA)] := by simp [nodesN, h, ndC]
theorem kidsN_le (ss : List Spn) (i : Nat) (p : Int) : (kidsN ss i p).length ≤ i := by
  have := List.length_filter_le (fun s : Spn => s.pa == p && s.pa != 0) (ss.take i)
  simp only [kidsN, List.length_map]; rw [List.length_take] at this; omega
theorem rootsN_le (ss : List Spn) (i : Nat) : (rootsN ss i).length ≤ i := by
  have := List.length_filter_le (fun s : Spn => s.pa == 0) (ss.take i)
  simp only [rootsN, List.length_map]; rw [List.length_take] at this; omega
theorem orphN_le (ss : List Spn) (i : Nat) : (orphN ss i).length ≤ i := by
  have := List.length_filter_le (fun s : Spn => s.pa != 0 && !(idsOf ss).contains s.pa) (ss.take i)
  simp only [orphN, List.length_map]; rw [List.length_take] at this; omega
theorem setR_get (p : Nat) (c : Cell) : ∀ (xs : List (List Cell)) (k j : Nat), (setR xs k p c)[j]? = if k = j then (xs[j]?).map fun x => x.set p c else xs[j]?
  | [], k, j => by simp [setR]
  | x :: r, 0, 0 => by simp [setR]
  | x :: r, 0, j + 1 => by simp [setR]
  | x :: r, k + 1, 0 => by simp [setR]
  | x :: r, k + 1, j + 1 => by simp [setR, setR_get p c r k j]
theorem setR_len (p : Nat) (c : Cell) : ∀ (xs : List (List Cell)) (k : Nat), (setR xs k p c).length = xs.length
  | [], _ => rfl
  | x :: r, 0 => rfl
  | x :: r, k + 1 => by simp [setR, setR_len p c r k]
theorem setR_fin {ns : List Nd} {k : Nat} (hk : k < ns.length) (c1 c2 : Cell) (a b d : Int) (ch : List Int) :
    setR ((setR (ns.map ndC) k 3 c1).set k [fl (.int .i64 a), fl (.int .i64 b), fl (.int .i64 d), c2]) k 3 (.orow 3 (ch.map iA)) = (ns.set k ⟨a, b, d, ch⟩).map ndC := by
  apply List.ext_getElem?
  intro j
  rw [setR_get, List.getElem?_map, List.getElem?_set, List.getElem?_set, setR_get, setR_len, List.length_map]
  by_cases h : k = j
  · subst h; simp [hk, ndC]
  · simp [h]
theorem setR_back {ns : List Nd} {k : Nat} {n : Nd} (hk : ns[k]? = some n) (c1 : Cell) : setR (setR (ns.map ndC) k 3 c1) k 3 (.orow 3 (n.ch.map iA)) = ns.map ndC := by
  apply List.ext_getElem?
  intro j
  rw [setR_get, setR_get, List.getElem?_map]
  by_cases h : k = j
  · subst h; simp [hk, ndC]
  · simp [h]
theorem msE_mget (key : Value) : ∀ ks : List Int, mget key (msE ks) = none ∨ mget key (msE ks) = some (false, [fl (.bool true)])
  | [] => .inl rfl
  | k :: r => by
    simp only [msE, List.map_cons, mget]
    split
    · exact .inr rfl
    · exact msE_mget key r
end Go.Proofs.YthlimkmjobpjoaaGreat
namespace Go.Proofs.YthlimkmjobpjoaaGreat
open Go.RowKit Go.Exe

/-! ### the levels of a tree -/
def kidsF (ss : List Spn) (p : Int) : List Int := kidsN ss ss.length p
def topsF (ss : List Spn) : List Int := rootsN ss ss.length ++ orphN ss ss.length
def lev (ss : List Spn) : Nat → List Int
  | 0 => topsF ss
  | d + 1 => (lev ss d).flatMap (kidsF ss)
def depN (ss : List Spn) : Nat → Int → Int
  | 0, _ => -1
  | d + 1, x => if x ∈ lev ss d then (d : Int) else depN ss d x
def nodesD (ss : List Spn) (d : Nat) : List Nd := ss.map fun s => ⟨s.id, s.pa, depN ss d s.id, kidsF ss s.id⟩
def nodesI (ss : List Spn) (d i : Nat) : List Nd := ss.map fun s => ⟨s.id, s.pa, if s.id ∈ (lev ss d).take i then (d : Int) else depN ss d s.id, kidsF ss s.id⟩
def nextI (ss : List Spn) (d i : Nat) : List Int := ((lev ss d).take i).flatMap (kidsF ss)
theorem nodesN_D (ss : List Spn) : nodesN ss ss.length = nodesD ss 0 := rfl
theorem nodesI_0 (ss : List Spn) (d : Nat) : nodesI ss d 0 = nodesD ss d := by simp [nodesI, nodesD]
theorem nodesI_all (ss : List Spn) (d : Nat) : nodesI ss d (lev ss d).length = nodesD ss (d + 1) := by simp [nodesI, nodesD, depN]
theorem nextI_all (ss : List Spn) (d : Nat) : nextI ss d (lev ss d).length = lev ss (d + 1) := by simp [nextI, lev]
theorem mem_kids {ss : List Spn} {p x : Int} : x ∈ kidsF ss p ↔ ∃ s ∈ ss, s.id = x ∧ s.pa = p ∧ s.pa ≠ 0 := by
  simp only [kidsF, kidsN, List.take_length, List.mem_map, List.mem_filter, Bool.and_eq_true, beq_iff_eq, bne_iff_ne]
  constructor
  · rintro ⟨s, ⟨h1, h2, h3⟩, h4⟩; exact ⟨s, h1, h4, h2, h3⟩
  · rintro ⟨s, h1, h4, h2, h3⟩; exact ⟨s, ⟨h1, h2, h3⟩, h4⟩
theorem mem_tops {ss : List Spn} {x : Int} : x ∈ topsF ss ↔ ∃ s ∈ ss, s.id = x ∧ (s.pa = 0 ∨ s.pa ∉ idsOf ss) := by
  simp only [topsF, rootsN, orphN, List.take_length, List.mem_append, List.mem_map, List.mem_filter, Bool.and_eq_true, beq_iff_eq, bne_iff_ne, Bool.not_eq_true', List.contains_eq_mem, decide_eq_false_iff_not]
  constructor
  · rintro (⟨s, ⟨h1, h2⟩, h3⟩ | ⟨s, ⟨h1, h2, h4⟩, h3⟩)
    · exact ⟨s, h1, h3, .inl h2⟩
    · exact ⟨s, h1, h3, .inr h4⟩
  · rintro ⟨s, h1, h3, h2⟩
    by_cases h0 : s.pa = 0
    · exact .inl ⟨s, ⟨h1, h0⟩, h3⟩
    · exact .inr ⟨s, ⟨h1, h0, h2.resolve_left h0⟩, h3⟩
theorem lev_ids {ss : List Spn} : ∀ (d : Nat) {x : Int}, x ∈ lev ss d → x ∈ idsOf ss
  | 0, x, h => by
    obtain ⟨s, hs, rfl, _⟩ := mem_tops.1 h
    exact List.mem_map_of_mem hs
  | d + 1, x, h => by
    obtain ⟨p, _, hx⟩ := List.mem_flatMap.1 h
    obtain ⟨s, hs, rfl, _⟩ := mem_kids.1 hx
    exact List.mem_map_of_mem hs
theorem id_uni {ss : List Spn} (hn : (idsOf ss).Nodup) {s s' : Spn} (h : s ∈ ss) (h' : s' ∈ ss) (e : s.id = s'.id) : s = s' := by
  obtain ⟨i, hi⟩ := List.getElem?_of_mem h
  obtain ⟨j, hj⟩ := List.getElem?_of_mem h'
  have h1 : (idsOf ss)[i]? = some s.id := by simp [idsOf, hi]
  have h2 : (idsOf ss)[j]? = some s'.id := by simp [idsOf, hj]
  obtain ⟨h3, h4⟩ := List.getElem?_eq_some_iff.1 h1
  obtain ⟨h5, h6⟩ := List.getElem?_eq_some_iff.1 h2
  have : i = j := (List.getElem_inj hn).1 (by rw [h4, h6, e])
  subst this
  rw [hi] at hj
  exact Option.some.inj hj
theorem lev_one {ss : List Spn} (hn : (idsOf ss).Nodup) : ∀ (d e : Nat) {x : Int}, x ∈ lev ss d → x ∈ lev ss e → d = e
  | 0, 0, _, _, _ => rfl
  | 0, e + 1, x, h, h' => by
    obtain ⟨s, hs, rfl, ht⟩ := mem_tops.1 h
    obtain ⟨p, hp, hx⟩ := List.mem_flatMap.1 h'
    obtain ⟨s', hs', e1, e2, e3⟩ := mem_kids.1 hx
    obtain rfl := id_uni hn hs' hs e1
    rcases ht with h0 | h0
    · exact absurd h0 e3
    · exact absurd (e2 ▸ lev_ids e hp) h0
  | d + 1, 0, x, h, h' => by
    obtain ⟨s, hs, rfl, ht⟩ := mem_tops.1 h'
    obtain ⟨p, hp, hx⟩ := List.mem_flatMap.1 h
    obtain ⟨s', hs', e1, e2, e3⟩ := mem_kids.1 hx
    obtain rfl := id_uni hn hs' hs e1
    rcases ht with h0 | h0
    · exact absurd h0 e3
    · exact absurd (e2 ▸ lev_ids d hp) h0
  | d + 1, e + 1, x, h, h' => by
    obtain ⟨p, hp, hx⟩ := List.mem_flatMap.1 h
    obtain ⟨p', hp', hx'⟩ := List.mem_flatMap.1 h'
    obtain ⟨s, hs, e1, e2, _⟩ := mem_kids.1 hx
    obtain ⟨s', hs', e1', e2', _⟩ := mem_kids.1 hx'
    obtain rfl := id_uni hn hs hs' (e1.trans e1'.symm)
    have : p = p' := e2.symm.trans e2'
    subst this
    rw [lev_one hn d e hp hp']
theorem kids_nodup {ss : List Spn} (hn : (idsOf ss).Nodup) (p : Int) : (kidsF ss p).Nodup := by
  refine hn.sublist ?_
  simp only [kidsF, kidsN, List.take_length, idsOf]
  exact List.Sublist.map _ List.filter_sublist
theorem lev_nodup {ss : List Spn} (hn : (idsOf ss).Nodup) : ∀ d, (lev ss d).Nodup
  | 0 => by
    simp only [lev, topsF]
    refine List.nodup_append.2 ⟨?_, ?_, fun a ha b hb e => ?_⟩
    · refine hn.sublist ?_
      simp only [rootsN, List.take_length, idsOf]
      exact List.Sublist.map _ List.filter_sublist
    · refine hn.sublist ?_
      simp only [orphN, List.take_length, idsOf]
      exact List.Sublist.map _ List.filter_sublist
    · subst e
      simp only [rootsN, orphN, List.take_length, List.mem_map, List.mem_filter, Bool.and_eq_true, beq_iff_eq, bne_iff_ne] at ha hb
      obtain ⟨s, ⟨h1, h2⟩, h3⟩ := ha
      obtain ⟨s', ⟨h1', h2', _⟩, h3'⟩ := hb
      obtain rfl := id_uni hn h1 h1' (h3.trans h3'.symm)
      exact h2' h2
  | d + 1 => by
    refine List.pairwise_flatMap.2 ⟨fun a _ => kids_nodup hn a, (lev_nodup hn d).imp fun {a b} hab x hx y hy e => ?_⟩
    subst e
    obtain ⟨s, hs, e1, e2, _⟩ := mem_kids.1 hx
    obtain ⟨s', hs', e1', e2', _⟩ := mem_kids.1 hy
    obtain rfl := id_uni hn hs hs' (e1.trans e1'.symm)
    exact hab (e2.symm.trans e2')
theorem levs_len {ss : List Spn} (hn : (idsOf ss).Nodup) (d : Nat) : ((List.range d).flatMap (lev ss)).length ≤ ss.length := by
  have h1 : ((List.range d).flatMap (lev ss)).Nodup := List.pairwise_flatMap.2 ⟨fun a _ => lev_nodup hn a, (List.nodup_range (n := d)).imp fun {a b} hab x hx y hy e => hab (lev_one hn a b hx (e ▸ hy))⟩
  have h2 : (List.range d).flatMap (lev ss) ⊆ idsOf ss := fun x hx => by
    obtain ⟨e, _, hx⟩ := List.mem_flatMap.1 hx
    exact lev_ids e hx
  have := h1.length_le_of_subset h2
  simpa [idsOf] using this
theorem lev_le {ss : List Spn} (hn : (idsOf ss).Nodup) (d : Nat) : (lev ss d).length ≤ ss.length := by
  have := (lev_nodup hn d).length_le_of_subset (fun x hx => lev_ids d hx)
  simpa [idsOf] using this
theorem nextI_le {ss : List Spn} (hn : (idsOf ss).Nodup) (d i : Nat) : (nextI ss d i).length ≤ ss.length := by
  have h1 : (nextI ss d i).Sublist (lev ss (d + 1)) := by
    simp only [nextI, lev]
    have := List.take_append_drop i (lev ss d)
    rw [← this, List.flatMap_append]
    simp
  exact Nat.le_trans h1.length_le (lev_le hn (d + 1))
theorem lev_down {ss : List Spn} : ∀ d e, e ≤ d → lev ss d ≠ [] → lev ss e ≠ []
  | 0, e, h, h' => by obtain rfl : e = 0 := by omega
                      exact h'
  | d + 1, e, h, h' => by
    by_cases he : e = d + 1
    · subst he; exact h'
    · refine lev_down d e (by omega) fun h0 => h' ?_
      simp [lev, h0]
theorem dep_lt {ss : List Spn} (hn : (idsOf ss).Nodup) {d : Nat} (h : lev ss d ≠ []) : d < ss.length := by
  have h1 := levs_len hn (d + 1)
  have h2 : ∀ n, (∀ e, e < n → lev ss e ≠ []) → n ≤ ((List.range n).flatMap (lev ss)).length := by
    intro n
    induction n with
    | zero => intro _; simp
    | succ n ih =>
      intro he
      have h3 := ih fun e h => he e (by omega)
      have h4 : 0 < (lev ss n).length := List.length_pos_iff.2 (he n (by omega))
      have h5 : ([n].flatMap (lev ss)).length = (lev ss n).length := by simp
      rw [List.range_succ, List.flatMap_append, List.length_append, h5]
      omega
  have := h2 (d + 1) fun e he => lev_down d e (by omega) h
  omega
section
variable {ss : List Spn} {d i k : Nat} {x : Int} {p : Spn}
theorem nodesI_step (hn : (idsOf ss).Nodup) (hx : (lev ss d)[i]? = some x) (hp : ss[k]? = some p) (e : p.id = x) : nodesI ss d (i + 1) = (nodesI ss d i).set k ⟨p.id, p.pa, d, kidsF ss p.id⟩ := by
  subst e
  have ht : (lev ss d).take (i + 1) = (lev ss d).take i ++ [p.id] := by rw [List.take_add_one, hx]; rfl
  apply List.ext_getElem?
  intro j
  simp only [nodesI, List.getElem?_map, List.getElem?_set, List.length_map, ht]
  by_cases hj : k = j
  · subst hj
    obtain ⟨hkl, hke⟩ := List.getElem?_eq_some_iff.1 hp
    simp [hkl, hke]
  · rw [if_neg hj]
    cases hs : ss[j]? with
    | none => rfl
    | some s =>
      have : s.id ≠ p.id := fun e => by
        have h1 : (idsOf ss)[k]? = some p.id := by simp [idsOf, hp]
        have h2 : (idsOf ss)[j]? = some s.id := by simp [idsOf, hs]
        obtain ⟨h3, h4⟩ := List.getElem?_eq_some_iff.1 h1
        obtain ⟨h5, h6⟩ := List.getElem?_eq_some_iff.1 h2
        exact hj ((List.getElem_inj hn).1 (by rw [h4, h6, e]))
      simp [this]
theorem nextI_step (hx : (lev ss d)[i]? = some x) : nextI ss d (i + 1) = nextI ss d i ++ kidsF ss x := by
  have ht : (lev ss d).take (i + 1) = (lev ss d).take i ++ [x] := by rw [List.take_add_one, hx]; rfl
  simp [nextI, ht, List.flatMap_append]
theorem nodesI_len : (nodesI ss d i).length = ss.length := by simp [nodesI]
theorem nodesD_len : (nodesD ss d).length = ss.length := by simp [nodesD]
theorem nodesI_at (hp : ss[k]? = some p) : ∃ b, ((nodesI ss d i).map ndC)[k]? = some [fl (.int .i64 p.id), fl (.int .i64 p.pa), fl (.int .i64 b), .orow 3 ((kidsF ss p.id).map iA)] := ⟨_, by simp [nodesI, hp, ndC]; rfl⟩
theorem nodesD_at (hp : ss[k]? = some p) : ((nodesD ss d).map ndC)[k]? = some [fl (.int .i64 p.id), fl (.int .i64 p.pa), fl (.int .i64 (depN ss d p.id)), .orow 3 ((kidsF ss p.id).map iA)] := by simp [nodesD, hp, ndC]
theorem nodesI_set (hn : (idsOf ss).Nodup) (hx : (lev ss d)[i]? = some x) (hp : ss[k]? = some p) (e : p.id = x) : ((nodesI ss d i).map ndC).set k [fl (.int .i64 p.id), fl (.int .i64 p.pa), fl (.int .i64 (d : Int)), .orow 3 ((kidsF ss p.id).map iA)] = (nodesI ss d (i + 1)).map ndC := by
  rw [nodesI_step hn hx hp e, List.map_set]; rfl
theorem nodesI_n (hp : ss[k]? = some p) : ∃ b, (nodesI ss d i)[k]? = some ⟨p.id, p.pa, b, kidsF ss p.id⟩ := ⟨_, by simp [nodesI, hp]; rfl⟩
end
theorem lev_end {ss : List Spn} {d : Nat} (h : lev ss d = []) : ∀ e, d ≤ e → lev ss e = []
  | 0, he => by obtain rfl : d = 0 := by omega
                exact h
  | e + 1, he => by
    by_cases h1 : d = e + 1
    · rw [← h1]; exact h
    · simp [lev, lev_end h e (by omega)]
theorem depN_end {ss : List Spn} {d : Nat} (h : lev ss d = []) (x : Int) : ∀ e, d ≤ e → depN ss e x = depN ss d x
  | 0, he => by obtain rfl : d = 0 := by omega
                rfl
  | e + 1, he => by
    by_cases h1 : d = e + 1
    · rw [h1]
    · simp [depN, lev_end h e (by omega), depN_end h x e (by omega)]
theorem nodesD_end {ss : List Spn} {d : Nat} (h : lev ss d = []) (hd : d ≤ ss.length) : nodesD ss d = nodesD ss ss.length := by
  unfold nodesD
  exact List.map_congr_left fun s _ => by rw [depN_end h s.id _ hd]
def cycN (ss : List Spn) (i : Nat) : List Int := ((ss.take i).filter fun s => decide (depN ss ss.length s.id < 0)).map Spn.id
theorem cycN_le (ss : List Spn) (i : Nat) : (cycN ss i).length ≤ i := by
  have := List.length_filter_le (fun s : Spn => decide (depN ss ss.length s.id < 0)) (ss.take i)
  simp only [cycN, List.length_map]; rw [List.length_take] at this; omega
theorem missN_le (ss : List Spn) (i : Nat) : (missN ss i).length ≤ i := by
  have h1 : ∀ (l a : List Int), (l.foldl addK a).length ≤ l.length + a.length := by
    intro l
    induction l with
    | nil => intro a; simp
    | cons x r ih =>
      intro a
      have := ih (addK a x)
      have h2 : (addK a x).length ≤ a.length + 1 := by unfold addK; split <;> simp
      simp only [List.foldl_cons, List.length_cons]
      omega
  have h2 := h1 (((ss.take i).filter fun s => s.pa != 0 && !(idsOf ss).contains s.pa).map Spn.pa) []
  have h3 := List.length_filter_le (fun s : Spn => s.pa != 0 && !(idsOf ss).contains s.pa) (ss.take i)
  rw [List.length_take] at h3
  simp only [List.length_map, List.length_nil] at h2
  unfold missN
  omega
theorem closeR_ndC (l : List Nd) : closeR (l.map ndC) = some (l.map ndA) := closeR_map _ _ (fun x => by simp [ndC, ndA, closeL, closeC]) l
/-- The tree of a trace, out of the trace's spans. -/
def treeOf (t : Int) (ss : List Spn) : Tr := ⟨t, nodesD ss ss.length, rootsN ss ss.length, orphN ss ss.length, cycN ss ss.length, srtI (missN ss ss.length)⟩
end Go.Proofs.YthlimkmjobpjoaaGreat
namespace Go.Proofs.YthlimkmjobpjoaaGreat
open Go.RowKit Go.Exe
attribute [local irreducible] W AX Run RunD AStep AOp AOpX AStB AStH AStG Fits PCall GCall PostG Post Stop
theorem build_c (c141 : SortC Tryz.prog 164 14) (c60 : SortI Tryz.prog 56) (g62 : GrowC Tryz.prog 107 3 1 8) (l : List Spn) (t : Int) (hnd : (idsOf (ofS l t)).Nodup) (hI : ∀ s ∈ ofS l t, I64 s.id ∧ I64 s.pa) :
    PCall Tryz.prog 43 [spsT l, ft (.int .i64 t)] (trT (treeOf t (ofS l t))) := by
  have c20 := of_c c141 l t
  generalize hss : ofS l t = ss at *
  refine PCall.intro (nt := 163) (rs := [.cell 4 99]) Tryz.func43 rfl ⟨by kernel_rfl, by kernel_rfl, by kernel_rfl⟩ (by simp) ?_
  rintro ⟨P, w0, ok0, may, np, pblk⟩ rfl rfl
  repeat' (first | refine W.seq fun K hK => ?_ | refine W.block ?_ | ((first | refine wR ?_ | refine wD ?_ | refine W.skip ?_ | refine W.exit ?_ | refine W.ret (Post.ret ?_) | refine aP ?_ | refine aF ?_ | refine aL ?_ | refine aU (hnn := by simp only [go_sem, reduceCtorEq, List.length_map]) ?_ | refine aM ?_ | refine aN ?_ | refine aR ?_); simp only [go_sem, reduceCtorEq, List.length_map]) | refine wT ?_ | refine wF ?_ | refine wC (fun h => ?_) (fun h => ?_) | refine iK ?_ | refine aI2 ?_ | (refine hK _ ?_; clear hK K) | clear hK K)
  refine W.lenB 26 rfl tE42 fun _ hsm => ?_
  rw [List.length_map] at hsm
  refine W.loopF (T := fun i : Nat => { t := [(4, .c (.ptr 0 0)), (5, .c (.ptr 1 0)), (6, .c (.mp 3)), (26, spsT ss), (27, ft (.int .i64 ss.length)), (28, ft (.int .i64 (i : Nat)))], h := [(0, .box 99 [fl (.int .i64 0), fl (.slice none 0 0), fl (.slice none 0 0), fl (.slice none 0 0), fl (.slice none 0 0), fl (.slice none 0 0)]), (1, .box 99 [fl (.int .i64 t), .ref 2, fl (.slice none 0 0), fl (.slice none 0 0), fl (.slice none 0 0), fl (.slice none 0 0)]), (2, .row 146 (imR ((ss.take i).map nd0))), (3, .map 3 (atE (idsOf (ss.take i))))], nx := 4, ex := [], nt := 163 })
    (Inv := fun i => i ≤ ss.length) (μ := fun i => ss.length - i) (x0 := 0) ?_ (Nat.zero_le _) ?_
  · refine Fits.adoptB 3 99 _ 1 99 146 rfl rfl rfl rfl tE146 rfl ?_
    refine Fits.fit [(0, 0), (3, 1), (99, 2), (5, 3)] [4, 5, 6, 26, 27, 28] 4 rfl rfl ?_
    simp only [go_sem, List.take_zero, List.map_nil, imR_nil, idsOf, atE, List.zipIdx_nil]
    exact Fits.rfl
  rintro i hi KL hKL
  by_cases hlt : i < ss.length
  · obtain ⟨s, hx, hm, hd⟩ := drop_at hlt
    have e1 : decide ((i : Int) < ss.length) = true := by simp; omega
    have hw := w64s i (by omega)
    have hko := koI (hI s hm).1
    have hlen : (ss.take i).length = i := by rw [List.length_take]; omega
    have hids : idsOf (ss.take (i + 1)) = idsOf (ss.take i) ++ [s.id] := by rw [take_s hx]; simp [idsOf]
    have hnew : s.id ∉ idsOf (ss.take i) := by
      have : (idsOf (ss.take (i + 1))).Nodup := (hnd.sublist (List.Sublist.map _ (List.take_sublist _ _)))
      rw [hids, List.nodup_append] at this
      exact fun h => this.2.2 _ h _ (by simp) rfl
    have hput := atE_put hnew
    have hil : (idsOf (ss.take i)).length = i := by simp [idsOf]; omega
    rw [hil, ← hids] at hput
    have hget := atE_none hnew
    repeat' (first | refine W.seq fun K hK => ?_ | refine W.block ?_ | ((first | refine wR ?_ | refine wD ?_ | refine W.skip ?_ | refine W.exit ?_ | refine W.ret (Post.ret ?_) | refine aP ?_ | refine aF ?_ | refine aL ?_ | refine aU (hnn := by simp only [go_sem, reduceCtorEq, List.getElem?_map, hx, spA, e1, hw, List.length_map, imR_len, hlen, hput, hget]) ?_ | refine aM ?_ | refine aN ?_ | refine aR ?_); simp only [go_sem, reduceCtorEq, List.getElem?_map, hx, spA, e1, hw, List.length_map, imR_len, hlen, hput, hget]) | refine wT ?_ | refine wF ?_ | refine wC (fun h => ?_) (fun h => ?_) | refine iK ?_ | refine aI2 ?_ | (refine hK _ ?_; clear hK K) | clear hK K)
    refine hKL.to (i + 1) (by omega) (by omega) (Fits.fit [(0, 0), (1, 1), (24, 2), (3, 3)] [4, 5, 6, 26, 27, 28] 4 rfl rfl ?_)
    have e9 : (ss.take (i + 1)).map nd0 = (ss.take i ++ [s]).map nd0 := by rw [take_s hx]
    simp only [go_sem, e9, imR_nd0, rnEs_atE]
    exact Fits.rfl
  obtain rfl : i = ss.length := by omega
  have e1 : decide ((ss.length : Int) < ss.length) = false := by simp
  clear hKL
  repeat' (first | refine W.seq fun K hK => ?_ | refine W.block ?_ | ((first | refine wR ?_ | refine wD ?_ | refine W.skip ?_ | refine W.exit ?_ | refine W.ret (Post.ret ?_) | refine aP ?_ | refine aF ?_ | refine aL ?_ | refine aU (hnn := by simp only [go_sem, reduceCtorEq, e1, List.take_length, imR_len, List.length_map]) ?_ | refine aM ?_ | refine aN ?_ | refine aR ?_); simp only [go_sem, reduceCtorEq, e1, List.take_length, imR_len, List.length_map]) | refine wT ?_ | refine wF ?_ | refine wC (fun h => ?_) (fun h => ?_) | refine iK ?_ | refine aI2 ?_ | (refine hK _ ?_; clear hK K) | clear hK K)
  refine W.loopF (T := fun i : Nat => { t := [(4, .c (.ptr 0 0)), (5, .c (.ptr 1 0)), (6, .c (.mp 3)), (9, .c (.mp 4)), (51, .c (.ref 2)), (52, ft (.int .i64 ss.length)), (53, ft (.int .i64 (i : Nat)))], h := [(0, .box 99 [fl (.int .i64 0), fl (.slice none 0 0), fl (.slice none 0 0), fl (.slice none 0 0), fl (.slice none 0 0), fl (.slice none 0 0)]), (1, .box 99 [fl (.int .i64 t), .ref 2, .ref 5, .ref 6, fl (.slice none 0 0), fl (.slice none 0 0)]), (2, .nrow 146 ((nodesN ss i).map ndC)), (3, .map 3 (atE (idsOf ss))), (4, .map 3 (msE (missN ss i))), (5, .row 3 (imR ((rootsN ss i).map iA))), (6, .row 3 (imR ((orphN ss i).map iA)))], nx := 7, ex := [], nt := 163 })
    (Inv := fun i => i ≤ ss.length) (μ := fun i => ss.length - i) (x0 := 0) ?_ (Nat.zero_le _) ?_
  · refine Fits.adoptB 1 99 _ 2 98 3 rfl rfl rfl rfl tE3 rfl ?_
    refine Fits.adoptB 1 99 _ 3 99 3 rfl rfl rfl rfl tE3 rfl ?_
    refine Fits.toN 2 ((nodesN ss 0).map ndC) rfl (nd0_CN ss) ?_
    refine Fits.fit [(0, 0), (1, 1), (2, 2), (3, 3), (5, 4), (98, 5), (99, 6)] [4, 5, 6, 9, 51, 52, 53] 7 rfl rfl ?_
    simp only [go_sem, rnEs_atE, rnCss_ndC, rootsN, orphN, missN, List.take_zero, List.filter_nil, List.map_nil, imR_nil, List.foldl_nil, msE]
    exact Fits.rfl
  rintro i hi KL hKL
  by_cases hlt : i < ss.length
  · obtain ⟨s, hx, hm, hd⟩ := drop_at hlt
    have e1 : decide ((i : Int) < ss.length) = true := by simp; omega
    have e2 : decide (i < ss.length) = true := by simp; omega
    have hw := w64s i (by omega)
    have hko := koI (hI s hm).2
    have hnx := nodesN_at i hx
    have hrl := rootsN_le ss i
    have hol := orphN_le ss i
    by_cases hin : s.pa ∈ idsOf ss
    · obtain ⟨k, hk⟩ := List.getElem?_of_mem hin
      have hget := atE_get hnd hk
      by_cases h0 : s.pa = 0
      · have e3 : (s.pa == 0) = true := by simp [h0]
        obtain ⟨g1, g2, g3, g4⟩ := step_root hx h0
        repeat' (first | refine W.seq fun K hK => ?_ | refine W.block ?_ | ((first | refine wR ?_ | refine wD ?_ | refine W.skip ?_ | refine W.exit ?_ | refine W.ret (Post.ret ?_) | refine aP ?_ | refine aF ?_ | refine aL ?_ | refine aU (hnn := by simp only [go_sem, reduceCtorEq, List.length_map, nodesN_len, imR_len, e1, e2, e3, hw, hnx, hget]) ?_ | refine aM ?_ | refine aN ?_ | refine aR ?_); simp only [go_sem, reduceCtorEq, List.length_map, nodesN_len, imR_len, e1, e2, e3, hw, hnx, hget]) | refine wT ?_ | refine wF ?_ | refine wC (fun h => ?_) (fun h => ?_) | refine iK ?_ | refine aI2 ?_ | (refine hK _ ?_; clear hK K) | clear hK K)
        refine hKL.to (i + 1) (by omega) (by omega) (Fits.fit [(0, 0), (1, 1), (2, 2), (3, 3), (4, 4), (30, 5), (6, 6)] [4, 5, 6, 9, 51, 52, 53] 7 rfl rfl ?_)
        simp only [go_sem, rnEs_atE, rnEs_msE, rnCss_ndC, imR_snocI, g1, g2, g3, g4]
        exact Fits.rfl
      · have e3 : (s.pa == 0) = false := by simp [h0]
        have hkl : k < ss.length := by have := (List.getElem?_eq_some_iff.1 hk).1; simpa [idsOf] using this
        obtain ⟨p, hp, hpm, _⟩ := drop_at hkl
        have hpi : s.pa = p.id := by simpa [idsOf, hp] using hk.symm
        obtain ⟨g1, g2, g3, g4⟩ := step_kid hx hnd h0 hp hpi
        have hkx := nodesN_at i hp
        have e4 : decide (k < ss.length) = true := by simp; omega
        have hkle := kidsN_le ss i p.id
        repeat' (first | refine W.stop (id := 19) ?_ | refine W.seq fun K hK => ?_ | refine W.block ?_ | ((first | refine wR ?_ | refine wD ?_ | refine W.skip ?_ | refine W.exit ?_ | refine W.ret (Post.ret ?_) | refine aP ?_ | refine aF ?_ | refine aL ?_ | refine aU (hnn := by simp only [go_sem, reduceCtorEq, List.length_map, nodesN_len, imR_len, e1, e2, e3, hw, hnx, hget]) ?_ | refine aM ?_ | refine aN ?_ | refine aR ?_); simp only [go_sem, reduceCtorEq, List.length_map, nodesN_len, imR_len, e1, e2, e3, hw, hnx, hget]) | refine wT ?_ | refine wF ?_ | refine wC (fun h => ?_) (fun h => ?_) | refine iK ?_ | refine aI2 ?_ | (refine hK _ ?_; clear hK K) | clear hK K)
        refine Stop.out ?_
        refine W.fits (Fits.unf 2 k 3 200 rfl rfl (by simp only [go_sem, hkx]; rfl) rfl rfl Fits.rfl) ?_
        simp only [go_sem]
        have hk2 := setR_get 3 (.ref 200) ((nodesN ss i).map ndC) k k
        rw [if_pos rfl, hkx] at hk2
        simp only [Option.map_some, List.set_cons_succ, List.set_cons_zero] at hk2
        repeat' (first | refine W.seq fun K hK => ?_ | refine W.block ?_ | ((first | refine wR ?_ | refine wD ?_ | refine W.skip ?_ | refine W.exit ?_ | refine W.ret (Post.ret ?_) | refine aP ?_ | refine aF ?_ | refine aL ?_ | refine aU (hnn := by simp only [go_sem, reduceCtorEq, List.length_map, nodesN_len, setR_len, imR_len, e4, hk2, hw]) ?_ | refine aM ?_ | refine aN ?_ | refine aR ?_); simp only [go_sem, reduceCtorEq, List.length_map, nodesN_len, setR_len, imR_len, e4, hk2, hw]) | refine wT ?_ | refine wF ?_ | refine wC (fun h => ?_) (fun h => ?_) | refine iK ?_ | refine aI2 ?_ | (refine hK _ ?_; clear hK K) | clear hK K)
        refine hKL.to (i + 1) (by omega) (by omega) ?_
        simp only [imR_snocI]
        refine Fits.fold 2 k 3 213 (.orow 3 ((kidsN ss i p.id ++ [s.id]).map iA)) rfl rfl rfl (by simp [Obj.slot, refCell, setR_len, nodesN_len, hkl]) (by decide) ?_
        refine Fits.fit [(0, 0), (1, 1), (2, 2), (3, 3), (4, 4), (5, 5), (6, 6)] [4, 5, 6, 9, 51, 52, 53] 7 rfl rfl ?_
        have e9 := setR_fin (ns := nodesN ss i) (by rw [nodesN_len]; exact hkl) (.ref 200) (.ref 213) p.id p.pa (-1) (kidsN ss i p.id ++ [s.id])
        simp only [go_sem] at e9
        simp only [go_sem, e9, rnEs_atE, rnEs_msE, rnCss_ndC, g1, g2, g3, g4]
        exact Fits.rfl
    · have hget := atE_none hin
      by_cases h0 : s.pa = 0
      · have e3 : (s.pa == 0) = true := by simp [h0]
        obtain ⟨g1, g2, g3, g4⟩ := step_root hx h0
        repeat' (first | refine W.seq fun K hK => ?_ | refine W.block ?_ | ((first | refine wR ?_ | refine wD ?_ | refine W.skip ?_ | refine W.exit ?_ | refine W.ret (Post.ret ?_) | refine aP ?_ | refine aF ?_ | refine aL ?_ | refine aU (hnn := by simp only [go_sem, reduceCtorEq, List.length_map, nodesN_len, imR_len, e1, e2, e3, hw, hnx, hget]) ?_ | refine aM ?_ | refine aN ?_ | refine aR ?_); simp only [go_sem, reduceCtorEq, List.length_map, nodesN_len, imR_len, e1, e2, e3, hw, hnx, hget]) | refine wT ?_ | refine wF ?_ | refine wC (fun h => ?_) (fun h => ?_) | refine iK ?_ | refine aI2 ?_ | (refine hK _ ?_; clear hK K) | clear hK K)
        refine hKL.to (i + 1) (by omega) (by omega) (Fits.fit [(0, 0), (1, 1), (2, 2), (3, 3), (4, 4), (30, 5), (6, 6)] [4, 5, 6, 9, 51, 52, 53] 7 rfl rfl ?_)
        simp only [go_sem, rnEs_atE, rnEs_msE, rnCss_ndC, imR_snocI, g1, g2, g3, g4]
        exact Fits.rfl
      · have e3 : (s.pa == 0) = false := by simp [h0]
        obtain ⟨g1, g2, g3, g4⟩ := step_orph hx h0 hin
        have hput := msE_put (missN ss i) s.pa
        rcases msE_mget (.int .i64 s.pa) (missN ss i) with hq | hq
        · have := hq
          repeat' (first | refine W.seq fun K hK => ?_ | refine W.block ?_ | ((first | refine wR ?_ | refine wD ?_ | refine W.skip ?_ | refine W.exit ?_ | refine W.ret (Post.ret ?_) | refine aP ?_ | refine aF ?_ | refine aL ?_ | refine aU (hnn := by simp only [go_sem, reduceCtorEq, List.length_map, nodesN_len, imR_len, e1, e2, e3, hw, hnx, hget, hput, hq]) ?_ | refine aM ?_ | refine aN ?_ | refine aR ?_); simp only [go_sem, reduceCtorEq, List.length_map, nodesN_len, imR_len, e1, e2, e3, hw, hnx, hget, hput, hq]) | refine wT ?_ | refine wF ?_ | refine wC (fun h => ?_) (fun h => ?_) | refine iK ?_ | refine aI2 ?_ | (refine hK _ ?_; clear hK K) | clear hK K)
          refine hKL.to (i + 1) (by omega) (by omega) (Fits.fit [(0, 0), (1, 1), (2, 2), (3, 3), (4, 4), (5, 5), (32, 6)] [4, 5, 6, 9, 51, 52, 53] 7 rfl rfl ?_)
          simp only [go_sem, rnEs_atE, rnEs_msE, rnCss_ndC, imR_snocI, g1, g2, g3, g4]
          exact Fits.rfl
        · have := hq
          repeat' (first | refine W.seq fun K hK => ?_ | refine W.block ?_ | ((first | refine wR ?_ | refine wD ?_ | refine W.skip ?_ | refine W.exit ?_ | refine W.ret (Post.ret ?_) | refine aP ?_ | refine aF ?_ | refine aL ?_ | refine aU (hnn := by simp only [go_sem, reduceCtorEq, List.length_map, nodesN_len, imR_len, e1, e2, e3, hw, hnx, hget, hput, hq]) ?_ | refine aM ?_ | refine aN ?_ | refine aR ?_); simp only [go_sem, reduceCtorEq, List.length_map, nodesN_len, imR_len, e1, e2, e3, hw, hnx, hget, hput, hq]) | refine wT ?_ | refine wF ?_ | refine wC (fun h => ?_) (fun h => ?_) | refine iK ?_ | refine aI2 ?_ | (refine hK _ ?_; clear hK K) | clear hK K)
          refine hKL.to (i + 1) (by omega) (by omega) (Fits.fit [(0, 0), (1, 1), (2, 2), (3, 3), (4, 4), (5, 5), (32, 6)] [4, 5, 6, 9, 51, 52, 53] 7 rfl rfl ?_)
          simp only [go_sem, rnEs_atE, rnEs_msE, rnCss_ndC, imR_snocI, g1, g2, g3, g4]
          exact Fits.rfl
  obtain rfl : i = ss.length := by omega
  have e1 : decide ((ss.length : Int) < ss.length) = false := by simp
  clear hKL
  repeat' (first | refine W.stop (id := 21) ?_ | refine W.seq fun K hK => ?_ | refine W.block ?_ | ((first | refine wR ?_ | refine wD ?_ | refine W.skip ?_ | refine W.exit ?_ | refine W.ret (Post.ret ?_) | refine aP ?_ | refine aF ?_ | refine aL ?_ | refine aU (hnn := by simp only [go_sem, reduceCtorEq, e1]) ?_ | refine aM ?_ | refine aN ?_ | refine aR ?_); simp only [go_sem, reduceCtorEq, e1]) | refine wT ?_ | refine wF ?_ | refine wC (fun h => ?_) (fun h => ?_) | refine iK ?_ | refine aI2 ?_ | (refine hK _ ?_; clear hK K) | clear hK K)
  refine Stop.out ?_
  refine W.fits (s' := { t := [(4, .c (.ptr 0 0)), (5, .c (.ptr 1 0)), (6, .c (.mp 3)), (9, .c (.mp 4))], h := [(0, .box 99 [fl (.int .i64 0), fl (.slice none 0 0), fl (.slice none 0 0), fl (.slice none 0 0), fl (.slice none 0 0), fl (.slice none 0 0)]), (1, .box 99 [fl (.int .i64 t), .ref 2, .im (.sl 3 ((rootsN ss ss.length).map iA)), .im (.sl 3 ((orphN ss ss.length).map iA)), fl (.slice none 0 0), fl (.slice none 0 0)]), (2, .nrow 146 ((nodesD ss 0).map ndC)), (3, .map 3 (atE (idsOf ss))), (4, .map 3 (msE (missN ss ss.length)))], nx := 5, ex := [], nt := 163 }) ?_ ?_
  · refine Fits.freeze 5 rfl (unim_im _) ?_
    refine Fits.freeze 6 rfl (unim_im _) ?_
    refine Fits.seeO 1 5 rfl rfl ?_
    refine Fits.seeO 1 6 rfl rfl ?_
    refine Fits.fit [(0, 0), (1, 1), (2, 2), (3, 3), (4, 4)] [4, 5, 6, 9] 5 rfl rfl ?_
    simp only [go_sem, rnEs_atE, rnEs_msE, rnCss_ndC, nodesN_D]
    exact Fits.rfl
  have hconc := concat_c g62 [rootsN ss ss.length, orphN ss ss.length] (by
    have := lev_le hnd 0
    simp only [lev, topsF, List.length_append] at this
    simp; omega)
  simp only [listsT, List.map_cons, List.map_nil] at hconc
  have e0 : [rootsN ss ss.length, orphN ss ss.length].flatten = lev ss 0 := by simp [lev, topsF]
  rw [e0] at hconc
  repeat' (first | refine W.seq fun K hK => ?_ | refine W.block ?_ | ((first | refine wR ?_ | refine wD ?_ | refine W.skip ?_ | refine W.exit ?_ | refine W.ret (Post.ret ?_) | refine aP ?_ | refine aF ?_ | refine aL ?_ | refine aU ?_ | refine aM ?_ | refine aN ?_ | refine aR ?_); simp only [go_sem, reduceCtorEq]) | refine wT ?_ | refine wF ?_ | refine wC (fun h => ?_) (fun h => ?_) | refine iK ?_ | refine aI2 ?_ | (refine hK _ ?_; clear hK K) | clear hK K)
  refine W.loopF (T := fun d : Nat => { t := [(4, .c (.ptr 0 0)), (5, .c (.ptr 1 0)), (6, .c (.mp 3)), (9, .c (.mp 4)), (14, intsT (lev ss d)), (15, ft (.int .i64 (d : Nat)))], h := [(0, .box 99 [fl (.int .i64 0), fl (.slice none 0 0), fl (.slice none 0 0), fl (.slice none 0 0), fl (.slice none 0 0), fl (.slice none 0 0)]), (1, .box 99 [fl (.int .i64 t), .ref 2, .im (.sl 3 ((rootsN ss ss.length).map iA)), .im (.sl 3 ((orphN ss ss.length).map iA)), fl (.slice none 0 0), fl (.slice none 0 0)]), (2, .nrow 146 ((nodesD ss d).map ndC)), (3, .map 3 (atE (idsOf ss))), (4, .map 3 (msE (missN ss ss.length)))], nx := 5, ex := [], nt := 163 })
    (Inv := fun d => d ≤ ss.length) (μ := fun d => ss.length - d) (x0 := 0) ?_ (Nat.zero_le _) ?_
  · refine Fits.fit [(0, 0), (1, 1), (2, 2), (3, 3), (4, 4)] [4, 5, 6, 9, 14, 15] 5 rfl rfl ?_
    simp only [go_sem, rnEs_atE, rnEs_msE, rnCss_ndC]
    exact Fits.rfl
  rintro d hdl KD hKD
  by_cases hne : lev ss d = []
  · have f1 : decide ((((lev ss d).length : Nat) : Int) > 0) = false := by simp [hne]
    clear hKD
    have hD := nodesD_end hne hdl
    have hml := missN_le ss ss.length
    have hkey := keys_c (missN ss ss.length)
    have hsrt := sorted_c c60 (missN ss ss.length) (by omega)
    repeat' (first | refine W.seq fun K hK => ?_ | refine W.block ?_ | ((first | refine wR ?_ | refine wD ?_ | refine W.skip ?_ | refine W.exit ?_ | refine W.ret (Post.ret ?_) | refine aP ?_ | refine aF ?_ | refine aL ?_ | refine aU (hnn := by simp only [go_sem, reduceCtorEq, List.length_map, f1, hD, nodesD_len]) ?_ | refine aM ?_ | refine aN ?_ | refine aR ?_); simp only [go_sem, reduceCtorEq, List.length_map, f1, hD, nodesD_len]) | refine wT ?_ | refine wF ?_ | refine wC (fun h => ?_) (fun h => ?_) | refine iK ?_ | refine aI2 ?_ | (refine hK _ ?_; clear hK K) | clear hK K)
    refine W.loopF (T := fun i : Nat => { t := [(4, .c (.ptr 0 0)), (5, .c (.ptr 1 0)), (9, .c (.mp 3)), (141, .c (.ref 2)), (142, ft (.int .i64 ss.length)), (143, ft (.int .i64 (i : Nat)))], h := [(0, .box 99 [fl (.int .i64 0), fl (.slice none 0 0), fl (.slice none 0 0), fl (.slice none 0 0), fl (.slice none 0 0), fl (.slice none 0 0)]), (1, .box 99 [fl (.int .i64 t), .ref 2, .im (.sl 3 ((rootsN ss ss.length).map iA)), .im (.sl 3 ((orphN ss ss.length).map iA)), .ref 4, fl (.slice none 0 0)]), (2, .nrow 146 ((nodesD ss ss.length).map ndC)), (3, .map 3 (msE (missN ss ss.length))), (4, .row 3 (imR ((cycN ss i).map iA)))], nx := 5, ex := [], nt := 163 })
      (Inv := fun i => i ≤ ss.length) (μ := fun i => ss.length - i) (x0 := 0) ?_ (Nat.zero_le _) ?_
    · refine Fits.adoptB 1 99 _ 4 99 3 rfl rfl rfl rfl tE3 rfl ?_
      refine Fits.fit [(0, 0), (1, 1), (2, 2), (4, 3), (99, 4)] [4, 5, 9, 141, 142, 143] 5 rfl rfl ?_
      simp only [go_sem, rnEs_atE, rnEs_msE, rnCss_ndC, cycN, List.take_zero, List.filter_nil, List.map_nil, imR_nil]
      exact Fits.rfl
    rintro i hi KI hKI
    by_cases hlt : i < ss.length
    · obtain ⟨s, hx, hm, hd⟩ := drop_at hlt
      have e1 : decide ((i : Int) < ss.length) = true := by simp; omega
      have e2 : decide (i < ss.length) = true := by simp; omega
      have hw := w64s i (by omega)
      have hnx := nodesD_at (d := ss.length) hx
      have hcl := cycN_le ss i
      have hstep : cycN ss (i + 1) = cycN ss i ++ if decide (depN ss ss.length s.id < 0) = true then [s.id] else [] := by
        unfold cycN
        rw [take_s hx, List.filter_append, List.map_append]
        cases h : decide (depN ss ss.length s.id < 0) <;> simp [h]
      cases hc : decide (depN ss ss.length s.id < 0) with
      | true =>
        rw [hc] at hstep
        repeat' (first | refine W.seq fun K hK => ?_ | refine W.block ?_ | ((first | refine wR ?_ | refine wD ?_ | refine W.skip ?_ | refine W.exit ?_ | refine W.ret (Post.ret ?_) | refine aP ?_ | refine aF ?_ | refine aL ?_ | refine aU (hnn := by simp only [go_sem, reduceCtorEq, List.length_map, nodesD_len, imR_len, e1, e2, hw, hnx, hc]) ?_ | refine aM ?_ | refine aN ?_ | refine aR ?_); simp only [go_sem, reduceCtorEq, List.length_map, nodesD_len, imR_len, e1, e2, hw, hnx, hc]) | refine wT ?_ | refine wF ?_ | refine wC (fun h => ?_) (fun h => ?_) | refine iK ?_ | refine aI2 ?_ | (refine hK _ ?_; clear hK K) | clear hK K)
        refine hKI.to (i + 1) (by omega) (by omega) (Fits.fit [(0, 0), (1, 1), (2, 2), (3, 3), (18, 4)] [4, 5, 9, 141, 142, 143] 5 rfl rfl ?_)
        simp only [go_sem, hstep, rnEs_msE, rnCss_ndC, imR_snocI, if_true]
        exact Fits.rfl
      | false =>
        rw [hc] at hstep
        repeat' (first | refine W.seq fun K hK => ?_ | refine W.block ?_ | ((first | refine wR ?_ | refine wD ?_ | refine W.skip ?_ | refine W.exit ?_ | refine W.ret (Post.ret ?_) | refine aP ?_ | refine aF ?_ | refine aL ?_ | refine aU (hnn := by simp only [go_sem, reduceCtorEq, List.length_map, nodesD_len, imR_len, e1, e2, hw, hnx, hc]) ?_ | refine aM ?_ | refine aN ?_ | refine aR ?_); simp only [go_sem, reduceCtorEq, List.length_map, nodesD_len, imR_len, e1, e2, hw, hnx, hc]) | refine wT ?_ | refine wF ?_ | refine wC (fun h => ?_) (fun h => ?_) | refine iK ?_ | refine aI2 ?_ | (refine hK _ ?_; clear hK K) | clear hK K)
        refine hKI.to (i + 1) (by omega) (by omega) (Fits.fit [(0, 0), (1, 1), (2, 2), (3, 3), (4, 4)] [4, 5, 9, 141, 142, 143] 5 rfl rfl ?_)
        simp only [go_sem, hstep, rnEs_msE, rnCss_ndC, Bool.false_eq_true, if_false, List.append_nil]
        exact Fits.rfl
    · obtain rfl : i = ss.length := by omega
      have e1 : decide ((ss.length : Int) < ss.length) = false := by simp
      clear hKI
      repeat' (first | refine W.stop (id := 39) ?_ | refine W.seq fun K hK => ?_ | refine W.block ?_ | ((first | refine wR ?_ | refine wD ?_ | refine W.skip ?_ | refine W.exit ?_ | refine W.ret (Post.ret ?_) | refine aP ?_ | refine aF ?_ | refine aL ?_ | refine aU (hnn := by simp only [go_sem, reduceCtorEq, e1]) ?_ | refine aM ?_ | refine aN ?_ | refine aR ?_); simp only [go_sem, reduceCtorEq, e1]) | refine wT ?_ | refine wF ?_ | refine wC (fun h => ?_) (fun h => ?_) | refine iK ?_ | refine aI2 ?_ | (refine hK _ ?_; clear hK K) | clear hK K)
      refine Stop.out ?_
      refine W.fits (Fits.freezeM 3 rfl (msE_close _) Fits.rfl) ?_
      simp only [go_sem]
      repeat' (first | refine W.seq fun K hK => ?_ | refine W.block ?_ | ((first | refine wR ?_ | refine wD ?_ | refine W.skip ?_ | refine W.exit ?_ | refine W.ret (Post.ret ?_) | refine aP ?_ | refine aF ?_ | refine aL ?_ | refine aU ?_ | refine aM ?_ | refine aN ?_ | refine aR ?_); simp only [go_sem, reduceCtorEq]) | refine wT ?_ | refine wF ?_ | refine wC (fun h => ?_) (fun h => ?_) | refine iK ?_ | refine aI2 ?_ | (refine hK _ ?_; clear hK K) | clear hK K)
      refine AX.gcall [] rfl rfl (hsrt) (by simp only [go_sem, reduceCtorEq]) (by simp only [go_sem, reduceCtorEq]) rfl rfl (by simp only [go_sem, Obj.owns]) rfl (by simp only [go_sem, Obj.owns]) rfl rfl ?_
      simp only [go_sem, reduceCtorEq]
      repeat' (first | refine W.stop (id := 40) ?_ | refine W.seq fun K hK => ?_ | refine W.block ?_ | ((first | refine wR ?_ | refine wD ?_ | refine W.skip ?_ | refine W.exit ?_ | refine W.ret (Post.ret ?_) | refine aP ?_ | refine aF ?_ | refine aL ?_ | refine aU ?_ | refine aM ?_ | refine aN ?_ | refine aR ?_); simp only [go_sem, reduceCtorEq]) | refine wT ?_ | refine wF ?_ | refine wC (fun h => ?_) (fun h => ?_) | refine iK ?_ | refine aI2 ?_ | (refine hK _ ?_; clear hK K) | clear hK K)
      refine Stop.out ?_
      refine W.fits (s' := { t := [(4, .c (.ptr 0 0)), (5, .c (.ptr 1 0))], h := [(0, .box 99 [fl (.int .i64 0), fl (.slice none 0 0), fl (.slice none 0 0), fl (.slice none 0 0), fl (.slice none 0 0), fl (.slice none 0 0)]), (1, .box 99 [fl (.int .i64 t), .im (.sl 146 ((nodesD ss ss.length).map ndA)), .im (.sl 3 ((rootsN ss ss.length).map iA)), .im (.sl 3 ((orphN ss ss.length).map iA)), .im (.sl 3 ((cycN ss ss.length).map iA)), .im (.sl 3 ((srtI (missN ss ss.length)).map iA))])], nx := 2, ex := [], nt := 163 }) ?_ ?_
      · refine Fits.freeze 4 rfl (unim_im _) ?_
        refine Fits.freeze 8 rfl (unim_im _) ?_
        refine Fits.freezeR 2 rfl (closeR_ndC _) ?_
        refine Fits.seeO 1 4 rfl rfl ?_
        refine Fits.seeO 1 8 rfl rfl ?_
        refine Fits.seeO 1 2 rfl rfl ?_
        refine Fits.fit [(0, 0), (1, 1)] [4, 5] 2 rfl rfl ?_
        simp only [go_sem]
        exact Fits.rfl
      repeat' (first | refine W.seq fun K hK => ?_ | refine W.block ?_ | ((first | refine wR ?_ | refine wD ?_ | refine W.skip ?_ | refine W.exit ?_ | refine W.ret (Post.ret ?_) | refine aP ?_ | refine aF ?_ | refine aL ?_ | refine aU (hnn := by simp only [go_sem, reduceCtorEq, treeOf, trA]) ?_ | refine aM ?_ | refine aN ?_ | refine aR ?_); simp only [go_sem, reduceCtorEq, treeOf, trA]) | refine wT ?_ | refine wF ?_ | refine wC (fun h => ?_) (fun h => ?_) | refine iK ?_ | refine aI2 ?_ | (refine hK _ ?_; clear hK K) | clear hK K)
      rfl
  have hdlt := dep_lt hnd hne
  have hpos : 0 < (lev ss d).length := List.length_pos_iff.2 hne
  have hll := lev_le hnd d
  have f1 : decide (((lev ss d).length : Int) > 0) = true := by simp; omega
  have hwd := w64s d (by omega)
  repeat' (first | refine W.seq fun K hK => ?_ | refine W.block ?_ | ((first | refine wR ?_ | refine wD ?_ | refine W.skip ?_ | refine W.exit ?_ | refine W.ret (Post.ret ?_) | refine aP ?_ | refine aF ?_ | refine aL ?_ | refine aU (hnn := by simp only [go_sem, reduceCtorEq, List.length_map, f1]) ?_ | refine aM ?_ | refine aN ?_ | refine aR ?_); simp only [go_sem, reduceCtorEq, List.length_map, f1]) | refine wT ?_ | refine wF ?_ | refine wC (fun h => ?_) (fun h => ?_) | refine iK ?_ | refine aI2 ?_ | (refine hK _ ?_; clear hK K) | clear hK K)
  refine W.loopF (T := fun i : Nat => { t := [(4, .c (.ptr 0 0)), (5, .c (.ptr 1 0)), (6, .c (.mp 3)), (9, .c (.mp 4)), (15, ft (.int .i64 (d : Nat))), (16, .c (.ref 5)), (114, intsT (lev ss d)), (115, ft (.int .i64 (lev ss d).length)), (116, ft (.int .i64 (i : Nat)))], h := [(0, .box 99 [fl (.int .i64 0), fl (.slice none 0 0), fl (.slice none 0 0), fl (.slice none 0 0), fl (.slice none 0 0), fl (.slice none 0 0)]), (1, .box 99 [fl (.int .i64 t), .ref 2, .im (.sl 3 ((rootsN ss ss.length).map iA)), .im (.sl 3 ((orphN ss ss.length).map iA)), fl (.slice none 0 0), fl (.slice none 0 0)]), (2, .nrow 146 ((nodesI ss d i).map ndC)), (3, .map 3 (atE (idsOf ss))), (4, .map 3 (msE (missN ss ss.length))), (5, .row 3 (imR ((nextI ss d i).map iA)))], nx := 6, ex := [], nt := 163 })
    (Inv := fun i => i ≤ (lev ss d).length) (μ := fun i => (lev ss d).length - i) (x0 := 0) ?_ (Nat.zero_le _) ?_
  · refine Fits.adopt 16 99 3 rfl rfl rfl tE3 rfl ?_
    refine Fits.fit [(0, 0), (1, 1), (2, 2), (3, 3), (4, 4), (99, 5)] [4, 5, 6, 9, 15, 16, 114, 115, 116] 6 rfl rfl ?_
    simp only [go_sem, rnEs_atE, rnEs_msE, rnCss_ndC, nodesI_0, nextI, List.take_zero, List.flatMap_nil, List.map_nil, imR_nil]
    exact Fits.rfl
  rintro i hi KI hKI
  by_cases hlt : i < (lev ss d).length
  · obtain ⟨x, hx, hxm, _⟩ := drop_at hlt
    obtain ⟨k, hk⟩ := List.getElem?_of_mem (lev_ids d hxm)
    have hkl : k < ss.length := by have := (List.getElem?_eq_some_iff.1 hk).1; simpa [idsOf] using this
    obtain ⟨p, hp, hpm, _⟩ := drop_at hkl
    have hpx : p.id = x := by simpa [idsOf, hp] using hk
    have hget := atE_get hnd hk
    have hko := koI (hI p hpm).1
    rw [hpx] at hko
    obtain ⟨b, hkx⟩ := nodesI_at (d := d) (i := i) hp
    have g2 : decide (k < ss.length) = true := by simp; omega
    have hset := nodesI_set hnd hx hp hpx
    have g1 : decide ((i : Int) < ((lev ss d).length : Int)) = true := by simp; omega
    have hw := w64s i (by omega)
    have hnl := nextI_le hnd d i
    repeat' (first | refine W.stop (id := 30) ?_ | refine W.seq fun K hK => ?_ | refine W.block ?_ | ((first | refine wR ?_ | refine wD ?_ | refine W.skip ?_ | refine W.exit ?_ | refine W.ret (Post.ret ?_) | refine aP ?_ | refine aF ?_ | refine aL ?_ | refine aU (hnn := by simp only [go_sem, reduceCtorEq, List.getElem?_map, hx, iA, g1, g2, hget, hkx, List.length_map, nodesI_len, hset]) ?_ | refine aM ?_ | refine aN ?_ | refine aR ?_); simp only [go_sem, reduceCtorEq, List.getElem?_map, hx, iA, g1, g2, hget, hkx, List.length_map, nodesI_len, hset]) | refine wT ?_ | refine wF ?_ | refine wC (fun h => ?_) (fun h => ?_) | refine iK ?_ | refine aI2 ?_ | (refine hK _ ?_; clear hK K) | clear hK K)
    refine Stop.out ?_
    obtain ⟨b2, hkx2⟩ := nodesI_at (d := d) (i := i + 1) hp
    obtain ⟨b3, hkn⟩ := nodesI_n (d := d) (i := i + 1) hp
    refine W.fits (Fits.unf 2 k 3 200 rfl rfl (by simp only [go_sem, hkx2]; rfl) rfl rfl Fits.rfl) ?_
    simp only [go_sem]
    have hk2 := setR_get 3 (.ref 200) ((nodesI ss d (i + 1)).map ndC) k k
    rw [if_pos rfl, hkx2] at hk2
    simp only [Option.map_some, List.set_cons_succ, List.set_cons_zero] at hk2
    have hns := nextI_step hx
    have hnl2 := nextI_le hnd d (i + 1)
    rw [hns, List.length_append] at hnl2
    rw [← hpx] at hns hnl2
    have hback := setR_back hkn (.ref 200)
    repeat' (first | refine W.seq fun K hK => ?_ | refine W.block ?_ | ((first | refine wR ?_ | refine wD ?_ | refine W.skip ?_ | refine W.exit ?_ | refine W.ret (Post.ret ?_) | refine aP ?_ | refine aF ?_ | refine aL ?_ | refine aU (hnn := by simp only [go_sem, reduceCtorEq, List.getElem?_map, hx, iA, g1, g2, hget, hk2, List.length_map, nodesI_len, setR_len, imR_len, hw]) ?_ | refine aM ?_ | refine aN ?_ | refine aR ?_); simp only [go_sem, reduceCtorEq, List.getElem?_map, hx, iA, g1, g2, hget, hk2, List.length_map, nodesI_len, setR_len, imR_len, hw]) | refine wT ?_ | refine wF ?_ | refine wC (fun h => ?_) (fun h => ?_) | refine iK ?_ | refine aI2 ?_ | (refine hK _ ?_; clear hK K) | clear hK K)
    refine hKI.to (i + 1) (by omega) (by omega) ?_
    refine Fits.fold 2 k 3 200 (.orow 3 ((kidsF ss p.id).map iA)) rfl rfl rfl (by simp [Obj.slot, refCell, hk2]) (by decide) ?_
    refine Fits.fit [(0, 0), (1, 1), (2, 2), (3, 3), (4, 4), (210, 5)] [4, 5, 6, 9, 15, 16, 114, 115, 116] 6 rfl rfl ?_
    simp only [go_sem, hback, rnEs_atE, rnEs_msE, rnCss_ndC, hns, List.map_append, imR_app]
    exact Fits.rfl
  · obtain rfl : i = (lev ss d).length := by omega
    have g1 : decide (((lev ss d).length : Int) < ((lev ss d).length : Int)) = false := by simp
    clear hKI
    repeat' (first | refine W.seq fun K hK => ?_ | refine W.block ?_ | ((first | refine wR ?_ | refine wD ?_ | refine W.skip ?_ | refine W.exit ?_ | refine W.ret (Post.ret ?_) | refine aP ?_ | refine aF ?_ | refine aL ?_ | refine aU (hnn := by simp only [go_sem, reduceCtorEq, g1, hwd]) ?_ | refine aM ?_ | refine aN ?_ | refine aR ?_); simp only [go_sem, reduceCtorEq, g1, hwd]) | refine wT ?_ | refine wF ?_ | refine wC (fun h => ?_) (fun h => ?_) | refine iK ?_ | refine aI2 ?_ | (refine hK _ ?_; clear hK K) | clear hK K)
    refine hKD.to (d + 1) (by omega) (by omega) ?_
    refine Fits.freeze 5 rfl (unim_im _) ?_
    refine Fits.seeT 14 5 rfl (.inl rfl) rfl ?_
    refine Fits.fit [(0, 0), (1, 1), (2, 2), (3, 3), (4, 4)] [4, 5, 6, 9, 14, 15] 5 rfl rfl ?_
    simp only [go_sem, rnEs_atE, rnEs_msE, rnCss_ndC, nodesI_all, nextI_all]
    exact Fits.rfl
end Go.Proofs.YthlimkmjobpjoaaGreat
namespace Go.Proofs.YthlimkmjobpjoaaGreat
open Go.RowKit Go.Exe
attribute [local irreducible] W AX Run RunD AStep AOp AOpX AStB AStH AStG Fits PCall GCall PostG Post Stop
abbrev ndsT (l : List Nd) : TV := .c (.im (.sl 146 (l.map ndA)))
theorem index1_c (n : Nd) (id : Int) : PCall Tryz.prog 144 [.g ((ndA n).map .im), ft (.int .i64 id)] (ft (.int .i64 (cmpI n.id id))) := by
  have c1 := cmpCompareI_c
  simp only [ndA, List.map]
  refine PCall.intro (nt := 9) (rs := [.tmp 4]) Tryz.func144 rfl ⟨by kernel_rfl, by kernel_rfl, by kernel_rfl⟩ (by simp) ?_
  rintro ⟨P, w0, ok0, may, np, pblk⟩ rfl rfl
  repeat' (first | refine W.seq fun K hK => ?_ | refine W.block ?_ | ((first | refine wR ?_ | refine wD ?_ | refine W.skip ?_ | refine W.exit ?_ | refine W.ret (Post.ret ?_) | refine aP ?_ | refine aF ?_ | refine aH ?_); simp only [go_sem, reduceCtorEq]) | refine wT ?_ | refine wF ?_ | refine wC (fun h => ?_) (fun h => ?_) | refine iK ?_ | refine aI2 ?_ | (refine hK _ ?_; clear hK K) | clear hK K)
def fnd (l : List Nd) (id : Int) : Nat := (l.takeWhile fun n => decide (n.id < id)).length
def fndB (l : List Nd) (id : Int) : Bool := match l[fnd l id]? with | some n => n.id == id | none => false
theorem fnd_eq (id : Int) : ∀ (l : List Nd) (i : Nat), i ≤ l.length → (∀ a n, a < i → l[a]? = some n → n.id < id) → (∀ a n, i ≤ a → l[a]? = some n → ¬ n.id < id) → fnd l id = i
  | [], i, h, _, _ => by simp at h; subst h; rfl
  | x :: r, 0, _, _, h => by
    have := h 0 x (Nat.le_refl _) rfl
    simp [fnd, this]
  | x :: r, i + 1, hi, h1, h2 => by
    have hx := h1 0 x (Nat.succ_pos _) rfl
    have := fnd_eq id r i (by simpa using hi) (fun a n ha hn => h1 (a + 1) n (by omega) (by simpa using hn)) (fun a n ha hn => h2 (a + 1) n (by omega) (by simpa using hn))
    simp only [fnd] at this ⊢
    simp [hx, this]
theorem cmpI_lt (a b : Int) : (cmpI a b < 0) ↔ a < b := by unfold cmpI; split <;> (try split) <;> omega
theorem cmpI_eq (a b : Int) : (cmpI a b = 0) ↔ a = b := by unfold cmpI; split <;> (try split) <;> omega
theorem half_u (m : Nat) (h : m < 9223372036854775808) : IntKind.i64.wrap ((IntKind.u64.wrap (m : Int)).fdiv (2 ^ min (Int.toNat 1) 64)) = ((m / 2 : Nat) : Int) := by
  have e1 : IntKind.u64.wrap (m : Int) = (m : Int) := by rw [IntKind.wrap_u64]; omega
  have e2 : ((m : Int)).fdiv (2 ^ min (Int.toNat 1) 64) = ((m / 2 : Nat) : Int) := by
    rw [show (2 ^ min (Int.toNat 1) 64 : Int) = 2 from rfl, Int.fdiv_eq_ediv_of_nonneg _ (by decide)]
    omega
  rw [e1, e2, w64 (by omega) (by omega)]
theorem binSearch_c (l : List Nd) (id : Int) (hs : l.Pairwise fun a b => a.id < b.id) : PCall Tryz.prog 143 [ndsT l, ft (.int .i64 id), ft (.func (.func 144) #[] #[])] (.t [(false, [fl (.int .i64 (fnd l id : Nat))]), (false, [fl (.bool (fndB l id))])]) := by
  have c1 := index1_c
  refine PCall.intro (nt := 49) (rs := [.tmp 6, .tmp 7]) Tryz.func143 rfl ⟨by kernel_rfl, by kernel_rfl, by kernel_rfl⟩ (by simp) ?_
  rintro ⟨P, w0, ok0, may, np, pblk⟩ rfl rfl
  refine W.lenB 0 rfl tE146 fun _ hb => ?_
  rw [List.length_map] at hb
  repeat' (first | refine W.seq fun K hK => ?_ | refine W.block ?_ | ((first | refine wR ?_ | refine wD ?_ | refine W.skip ?_ | refine W.exit ?_ | refine W.ret (Post.ret ?_) | refine aP ?_ | refine aF ?_ | refine aH ?_); simp only [go_sem, reduceCtorEq, List.length_map]) | refine wT ?_ | refine wF ?_ | refine wC (fun h => ?_) (fun h => ?_) | refine iK ?_ | refine aI2 ?_ | (refine hK _ ?_; clear hK K) | clear hK K)
  refine W.loopF (T := fun y : Nat × Nat => { t := [(0, ndsT l), (1, ft (.int .i64 id)), (2, ft (.func (.func 144) #[] #[])), (6, ft (.int .i64 0)), (7, ft (.bool false)), (8, ft (.int .i64 l.length)), (9, ft (.int .i64 (y.1 : Nat))), (10, ft (.int .i64 (y.2 : Nat)))], h := [], nx := 0, ex := [], nt := 49 })
    (Inv := fun y => y.1 ≤ y.2 ∧ y.2 ≤ l.length ∧ (∀ a n, a < y.1 → l[a]? = some n → n.id < id) ∧ (∀ a n, y.2 ≤ a → l[a]? = some n → ¬ n.id < id)) (μ := fun y => y.2 - y.1) (x0 := (0, l.length)) (Fits.fit [] [0, 1, 2, 6, 7, 8, 9, 10] 0 rfl rfl ?_) ⟨Nat.zero_le _, Nat.le_refl _, fun a n h => by omega, fun a n h h2 => by rw [List.getElem?_eq_none h] at h2; cases h2⟩ ?_
  · simp only [go_sem]
    exact Fits.rfl
  rintro ⟨i, j⟩ ⟨hij, hjl, hlo, hhi⟩ KL hKL
  simp only at hij hjl hlo hhi
  by_cases hlt : i < j
  · have e1 : decide ((i : Int) < (j : Int)) = true := by simp; omega
    have e2 : IntKind.i64.wrap ((i : Int) + (j : Int)) = ((i + j : Nat) : Int) := by rw [w64 (by omega) (by omega)]; simp
    obtain ⟨x, hx, _, _⟩ := drop_at (show (i + j) / 2 < l.length by omega)
    have e3 := half_u (i + j) (by omega)
    have e4 := w64s ((i + j) / 2) (by omega)
    have hc := index1_c x id
    simp only [ndA, List.map] at hc
    clear c1
    by_cases hlx : x.id < id
    · have e5 : decide (cmpI x.id id < 0) = true := by simpa [cmpI_lt] using hlx
      repeat' (first | refine W.seq fun K hK => ?_ | refine W.block ?_ | ((first | refine wR ?_ | refine wD ?_ | refine W.skip ?_ | refine W.exit ?_ | refine W.ret (Post.ret ?_) | refine aP ?_ | refine aF ?_ | refine aH ?_); simp only [go_sem, reduceCtorEq, e1, e2, e3, e4, List.getElem?_map, hx, ndA, e5]) | refine wT ?_ | refine wF ?_ | refine wC (fun h => ?_) (fun h => ?_) | refine iK ?_ | refine aI2 ?_ | (refine hK _ ?_; clear hK K) | clear hK K)
      refine hKL.to ((i + j) / 2 + 1, j) ⟨by simp only; omega, hjl, fun a n ha hn => ?_, hhi⟩ (by simp only; omega) (Fits.fit [] [0, 1, 2, 6, 7, 8, 9, 10] 0 rfl rfl ?_)
      · have hal : a < l.length := (List.getElem?_eq_some_iff.1 hn).1
        by_cases ha2 : a = (i + j) / 2
        · subst ha2; rw [hx] at hn; cases hn; exact hlx
        · have ha : a < (i + j) / 2 + 1 := ha
          have h1 := List.pairwise_iff_getElem.1 hs a ((i + j) / 2) hal (by omega) (by omega)
          rw [List.getElem?_eq_getElem hal] at hn
          rw [List.getElem?_eq_getElem (by omega)] at hx
          simp only [Option.some.injEq] at hn hx
          subst hn
          rw [← hx] at hlx
          omega
      · simp only [go_sem]
        exact Fits.rfl
    · have e5 : decide (cmpI x.id id < 0) = false := by simp [cmpI_lt]; omega
      repeat' (first | refine W.seq fun K hK => ?_ | refine W.block ?_ | ((first | refine wR ?_ | refine wD ?_ | refine W.skip ?_ | refine W.exit ?_ | refine W.ret (Post.ret ?_) | refine aP ?_ | refine aF ?_ | refine aH ?_); simp only [go_sem, reduceCtorEq, e1, e2, e3, e4, List.getElem?_map, hx, ndA, e5]) | refine wT ?_ | refine wF ?_ | refine wC (fun h => ?_) (fun h => ?_) | refine iK ?_ | refine aI2 ?_ | (refine hK _ ?_; clear hK K) | clear hK K)
      refine hKL.to (i, (i + j) / 2) ⟨by simp only; omega, by simp only; omega, hlo, fun a n ha hn => ?_⟩ (by simp only; omega) (Fits.fit [] [0, 1, 2, 6, 7, 8, 9, 10] 0 rfl rfl ?_)
      · have hal : a < l.length := (List.getElem?_eq_some_iff.1 hn).1
        by_cases ha2 : a = (i + j) / 2
        · subst ha2; rw [hx] at hn; cases hn; exact hlx
        · have ha : (i + j) / 2 ≤ a := ha
          have h1 := List.pairwise_iff_getElem.1 hs ((i + j) / 2) a (by omega) hal (by omega)
          rw [List.getElem?_eq_getElem hal] at hn
          rw [List.getElem?_eq_getElem (by omega)] at hx
          simp only [Option.some.injEq] at hn hx
          subst hn
          rw [← hx] at hlx
          omega
      · simp only [go_sem]
        exact Fits.rfl
  · obtain rfl : i = j := by omega
    have e1 : decide ((i : Int) < (i : Int)) = false := by simp
    have hfe := fnd_eq id l i hjl hlo hhi
    clear hKL
    by_cases hil : i < l.length
    · obtain ⟨x, hx, _, _⟩ := drop_at hil
      have e2 : decide ((i : Int) < (l.length : Int)) = true := by simp; omega
      have hc := index1_c x id
      simp only [ndA, List.map] at hc
      clear c1
      have hfb : fndB l id = (cmpI x.id id == 0) := by
        simp only [fndB, hfe, hx]
        by_cases h : x.id = id
        · have := (cmpI_eq x.id id).2 h; simp [h, this]; rw [h] at this; exact this
        · have h2 : ¬ cmpI x.id id = 0 := fun e => h ((cmpI_eq _ _).1 e)
          rw [beq_eq_false_iff_ne.2 h, beq_eq_false_iff_ne.2 h2]
      repeat' (first | refine W.seq fun K hK => ?_ | refine W.block ?_ | ((first | refine wR ?_ | refine wD ?_ | refine W.skip ?_ | refine W.exit ?_ | refine W.ret (Post.ret ?_) | refine aP ?_ | refine aF ?_ | refine aH ?_); simp only [go_sem, reduceCtorEq, e1, e2, List.getElem?_map, hx, ndA]) | refine wT ?_ | refine wF ?_ | refine wC (fun h => ?_) (fun h => ?_) | refine iK ?_ | refine aI2 ?_ | (refine hK _ ?_; clear hK K) | clear hK K)
      rw [hfe, hfb]
    · have e2 : decide ((i : Int) < (l.length : Int)) = false := by simp; omega
      have hfb : fndB l id = false := by simp [fndB, hfe, List.getElem?_eq_none (show l.length ≤ i by omega)]
      repeat' (first | refine W.seq fun K hK => ?_ | refine W.block ?_ | ((first | refine wR ?_ | refine wD ?_ | refine W.skip ?_ | refine W.exit ?_ | refine W.ret (Post.ret ?_) | refine aP ?_ | refine aF ?_ | refine aH ?_); simp only [go_sem, reduceCtorEq, e1, e2]) | refine wT ?_ | refine wF ?_ | refine wC (fun h => ?_) (fun h => ?_) | refine iK ?_ | refine aI2 ?_ | (refine hK _ ?_; clear hK K) | clear hK K)
      rw [hfe, hfb]
theorem index_c (t : Tr) (id : Int) (hs : t.nds.Pairwise fun a b => a.id < b.id) : PCall Tryz.prog 112 [trT t, ft (.int .i64 id)] (.t [(false, [fl (.int .i64 (fnd t.nds id : Nat))]), (false, [fl (.bool (fndB t.nds id))])]) := by
  have c1 := binSearch_c t.nds id hs
  simp only [trT, trA, List.map]
  refine PCall.intro (nt := 12) (rs := [.tmp 4, .tmp 5]) Tryz.func112 rfl ⟨by kernel_rfl, by kernel_rfl, by kernel_rfl⟩ (by simp) ?_
  rintro ⟨P, w0, ok0, may, np, pblk⟩ rfl rfl
  repeat' (first | refine W.seq fun K hK => ?_ | refine W.block ?_ | ((first | refine wR ?_ | refine wD ?_ | refine W.skip ?_ | refine W.exit ?_ | refine W.ret (Post.ret ?_) | refine aP ?_ | refine aF ?_ | refine aH ?_); simp only [go_sem, reduceCtorEq]) | refine wT ?_ | refine wF ?_ | refine wC (fun h => ?_) (fun h => ?_) | refine iK ?_ | refine aI2 ?_ | (refine hK _ ?_; clear hK K) | clear hK K)
end Go.Proofs.YthlimkmjobpjoaaGreat
