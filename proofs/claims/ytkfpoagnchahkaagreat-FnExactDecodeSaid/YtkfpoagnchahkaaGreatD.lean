/- Of this session: what the functions mean, printed; each equal to its code's meaning by the kernel. -/
import Derived.Test.YtkfpoagnchahkaaGreatProg
import Derived.Test.YtkfpoagnchahkaaGreatA
namespace Go.Proofs.YtkfpoagnchahkaaGreat.A
open Go Go.RowKit
set_option linter.unusedVariables false
set_option linter.unusedSimpArgs false
set_option maxRecDepth 100000
@[simp] theorem okT_72 : okT Tryz.prog 72 = true := by kernel_rfl
@[simp] theorem szT_72 : szT Tryz.prog 72 = 1 := by kernel_rfl
@[simp] theorem agT_72 : agT Tryz.prog 72 = false := by kernel_rfl
@[simp] theorem slT_72 : slT Tryz.prog 72 = some 2 := by kernel_rfl
@[simp] theorem okT_2 : okT Tryz.prog 2 = true := by kernel_rfl
@[simp] theorem szT_2 : szT Tryz.prog 2 = 1 := by kernel_rfl
@[simp] theorem agT_2 : agT Tryz.prog 2 = false := by kernel_rfl
@[simp] theorem okT_22 : okT Tryz.prog 22 = true := by kernel_rfl
@[simp] theorem szT_22 : szT Tryz.prog 22 = 1 := by kernel_rfl
@[simp] theorem agT_22 : agT Tryz.prog 22 = false := by kernel_rfl
@[simp] theorem slT_22 : slT Tryz.prog 22 = some 72 := by kernel_rfl
@[simp] theorem okT_33 : okT Tryz.prog 33 = true := by kernel_rfl
@[simp] theorem szT_33 : szT Tryz.prog 33 = 1 := by kernel_rfl
@[simp] theorem agT_33 : agT Tryz.prog 33 = false := by kernel_rfl
@[simp] theorem slT_33 : slT Tryz.prog 33 = some 83 := by kernel_rfl
@[simp] theorem plT_195 : plT Tryz.prog 195 = some [(0, 1)] := by kernel_rfl
@[simp] theorem zrT_195 : zrT Tryz.prog 195 = some (AVal.agg [AVal.v (Value.int IntKind.i64 (0))]) := by kernel_rfl
@[simp] theorem okT_83 : okT Tryz.prog 83 = true := by kernel_rfl
@[simp] theorem szT_83 : szT Tryz.prog 83 = 4 := by kernel_rfl
@[simp] theorem agT_83 : agT Tryz.prog 83 = true := by kernel_rfl
@[simp] theorem zrT_83 : zrT Tryz.prog 83 = some (AVal.agg [AVal.v (Value.int IntKind.i64 (0)), AVal.v (Value.int IntKind.i64 (0)), AVal.v (Value.int IntKind.i64 (0)), AVal.v (Value.int IntKind.u32 (0))]) := by kernel_rfl
@[simp] theorem okT_32 : okT Tryz.prog 32 = true := by kernel_rfl
@[simp] theorem szT_32 : szT Tryz.prog 32 = 1 := by kernel_rfl
@[simp] theorem agT_32 : agT Tryz.prog 32 = false := by kernel_rfl
@[simp] theorem slT_32 : slT Tryz.prog 32 = some 79 := by kernel_rfl
@[simp] theorem okT_79 : okT Tryz.prog 79 = true := by kernel_rfl
@[simp] theorem szT_79 : szT Tryz.prog 79 = 4 := by kernel_rfl
@[simp] theorem agT_79 : agT Tryz.prog 79 = true := by kernel_rfl
@[simp] theorem okT_77 : okT Tryz.prog 77 = true := by kernel_rfl
@[simp] theorem szT_77 : szT Tryz.prog 77 = 1 := by kernel_rfl
@[simp] theorem agT_77 : agT Tryz.prog 77 = false := by kernel_rfl
@[simp] theorem slT_77 : slT Tryz.prog 77 = some 81 := by kernel_rfl
@[simp] theorem okT_81 : okT Tryz.prog 81 = true := by kernel_rfl
@[simp] theorem szT_81 : szT Tryz.prog 81 = 4 := by kernel_rfl
@[simp] theorem agT_81 : agT Tryz.prog 81 = true := by kernel_rfl
@[simp] theorem okT_31 : okT Tryz.prog 31 = true := by kernel_rfl
@[simp] theorem szT_31 : szT Tryz.prog 31 = 1 := by kernel_rfl
@[simp] theorem agT_31 : agT Tryz.prog 31 = false := by kernel_rfl
@[simp] theorem slT_31 : slT Tryz.prog 31 = some 76 := by kernel_rfl
@[simp] theorem okT_76 : okT Tryz.prog 76 = true := by kernel_rfl
@[simp] theorem szT_76 : szT Tryz.prog 76 = 2 := by kernel_rfl
@[simp] theorem agT_76 : agT Tryz.prog 76 = true := by kernel_rfl
@[simp] theorem zrT_76 : zrT Tryz.prog 76 = some (AVal.agg [AVal.v (Value.int IntKind.i64 (0)), AVal.v (Value.int IntKind.u32 (0))]) := by kernel_rfl
@[simp] theorem okT_74 : okT Tryz.prog 74 = true := by kernel_rfl
@[simp] theorem szT_74 : szT Tryz.prog 74 = 1 := by kernel_rfl
@[simp] theorem agT_74 : agT Tryz.prog 74 = false := by kernel_rfl
@[simp] theorem slT_153 : slT Tryz.prog 153 = some 91 := by kernel_rfl
@[simp] theorem okT_91 : okT Tryz.prog 91 = true := by kernel_rfl
@[simp] theorem szT_91 : szT Tryz.prog 91 = 1 := by kernel_rfl
@[simp] theorem agT_91 : agT Tryz.prog 91 = false := by kernel_rfl
@[simp] theorem zrT_91 : zrT Tryz.prog 91 = some (AVal.v Value.nilFunc) := by kernel_rfl
@[simp] theorem byT_91 : byT Tryz.prog 91 = 8 := by kernel_rfl
@[simp] theorem zrT_79 : zrT Tryz.prog 79 = some (AVal.agg [AVal.v (Value.slice none 0 0), AVal.v (Value.int IntKind.i64 (0)), AVal.v (Value.slice none 0 0), AVal.v (Value.slice none 0 0)]) := by kernel_rfl
@[simp] theorem plT_79 : plT Tryz.prog 79 = some [(0, 1), (1, 1), (2, 1), (3, 1)] := by kernel_rfl
@[simp] theorem plT_81 : plT Tryz.prog 81 = some [(0, 1), (1, 1), (2, 1), (3, 1)] := by kernel_rfl
@[simp] theorem zrT_81 : zrT Tryz.prog 81 = some (AVal.agg [AVal.v (Value.int IntKind.i64 (0)), AVal.v (Value.int IntKind.i64 (0)), AVal.v (Value.int IntKind.i64 (0)), AVal.v (Value.int IntKind.i64 (0))]) := by kernel_rfl
@[simp] theorem byT_81 : byT Tryz.prog 81 = 32 := by kernel_rfl
@[simp] theorem okT_29 : okT Tryz.prog 29 = true := by kernel_rfl
@[simp] theorem szT_29 : szT Tryz.prog 29 = 1 := by kernel_rfl
@[simp] theorem agT_29 : agT Tryz.prog 29 = false := by kernel_rfl
@[simp] theorem okT_106 : okT Tryz.prog 106 = true := by kernel_rfl
@[simp] theorem szT_106 : szT Tryz.prog 106 = 2 := by kernel_rfl
@[simp] theorem agT_106 : agT Tryz.prog 106 = true := by kernel_rfl
@[simp] theorem zrT_106 : zrT Tryz.prog 106 = some (AVal.agg [AVal.v (Value.bool false), AVal.v (Value.int IntKind.i64 (0))]) := by kernel_rfl
@[simp] theorem okT_4 : okT Tryz.prog 4 = true := by kernel_rfl
@[simp] theorem szT_4 : szT Tryz.prog 4 = 1 := by kernel_rfl
@[simp] theorem agT_4 : agT Tryz.prog 4 = false := by kernel_rfl
@[simp] theorem plT_165 : plT Tryz.prog 165 = some [] := by kernel_rfl
@[simp] theorem zrT_165 : zrT Tryz.prog 165 = some (AVal.agg []) := by kernel_rfl
@[simp] theorem okT_35 : okT Tryz.prog 35 = true := by kernel_rfl
@[simp] theorem szT_35 : szT Tryz.prog 35 = 4 := by kernel_rfl
@[simp] theorem agT_35 : agT Tryz.prog 35 = true := by kernel_rfl
@[simp] theorem zrT_35 : zrT Tryz.prog 35 = some (AVal.agg [AVal.v (Value.slice none 0 0), AVal.v (Value.slice none 0 0), AVal.v (Value.slice none 0 0), AVal.v (Value.slice none 0 0)]) := by kernel_rfl
@[simp] theorem plT_35 : plT Tryz.prog 35 = some [(0, 1), (1, 1), (2, 1), (3, 1)] := by kernel_rfl
@[simp] theorem zrT_72 : zrT Tryz.prog 72 = some (AVal.v (Value.slice none 0 0)) := by kernel_rfl
@[simp] theorem byT_72 : byT Tryz.prog 72 = 24 := by kernel_rfl
@[simp] theorem plT_76 : plT Tryz.prog 76 = some [(0, 1), (1, 1)] := by kernel_rfl
@[simp] theorem byT_76 : byT Tryz.prog 76 = 16 := by kernel_rfl
@[simp] theorem byT_79 : byT Tryz.prog 79 = 80 := by kernel_rfl
@[simp] theorem plT_83 : plT Tryz.prog 83 = some [(0, 1), (1, 1), (2, 1), (3, 1)] := by kernel_rfl
@[simp] theorem byT_83 : byT Tryz.prog 83 = 32 := by kernel_rfl
@[simp] theorem zrT_2 : zrT Tryz.prog 2 = some (AVal.v (Value.int IntKind.i64 (0))) := by kernel_rfl
@[simp] theorem byT_2 : byT Tryz.prog 2 = 8 := by kernel_rfl
@[simp] theorem okT_154 : okT Tryz.prog 154 = true := by kernel_rfl
@[simp] theorem szT_154 : szT Tryz.prog 154 = 16 := by kernel_rfl
@[simp] theorem agT_154 : agT Tryz.prog 154 = true := by kernel_rfl
@[simp] theorem zrT_154 : zrT Tryz.prog 154 = some (AVal.agg [AVal.v (Value.int IntKind.u32 (0)), AVal.v (Value.int IntKind.u32 (0)), AVal.v (Value.int IntKind.u32 (0)), AVal.v (Value.int IntKind.u32 (0)), AVal.v (Value.int IntKind.u32 (0)), AVal.v (Value.int IntKind.u32 (0)), AVal.v (Value.int IntKind.u32 (0)), AVal.v (Value.int IntKind.u32 (0)), AVal.v (Value.int IntKind.u32 (0)), AVal.v (Value.int IntKind.u32 (0)), AVal.v (Value.int IntKind.u32 (0)), AVal.v (Value.int IntKind.u32 (0)), AVal.v (Value.int IntKind.u32 (0)), AVal.v (Value.int IntKind.u32 (0)), AVal.v (Value.int IntKind.u32 (0)), AVal.v (Value.int IntKind.u32 (0))]) := by kernel_rfl
@[simp] theorem slT_29 : slT Tryz.prog 29 = some 5 := by kernel_rfl
@[simp] theorem okT_5 : okT Tryz.prog 5 = true := by kernel_rfl
@[simp] theorem szT_5 : szT Tryz.prog 5 = 1 := by kernel_rfl
@[simp] theorem agT_5 : agT Tryz.prog 5 = false := by kernel_rfl
@[simp] theorem arT_154 : arT Tryz.prog 154 = some (16, 74) := by kernel_rfl
@[simp] theorem okT_43 : okT Tryz.prog 43 = true := by kernel_rfl
@[simp] theorem szT_43 : szT Tryz.prog 43 = 5 := by kernel_rfl
@[simp] theorem agT_43 : agT Tryz.prog 43 = true := by kernel_rfl
@[simp] theorem zrT_43 : zrT Tryz.prog 43 = some (AVal.agg [AVal.v (Value.int IntKind.i64 (0)), AVal.v (Value.slice none 0 0), AVal.v (Value.slice none 0 0), AVal.v (Value.slice none 0 0), AVal.v (Value.slice none 0 0)]) := by kernel_rfl
@[simp] theorem plT_43 : plT Tryz.prog 43 = some [(0, 1), (1, 4)] := by kernel_rfl
@[simp] theorem plT_114 : plT Tryz.prog 114 = some [(0, 1), (1, 1)] := by kernel_rfl
@[simp] theorem zrT_114 : zrT Tryz.prog 114 = some (AVal.agg [AVal.v (Value.slice none 0 0), AVal.v (Value.int IntKind.i64 (0))]) := by kernel_rfl
@[simp] theorem plT_106 : plT Tryz.prog 106 = some [(0, 1), (1, 1)] := by kernel_rfl
@[simp] theorem okT_187 : okT Tryz.prog 187 = true := by kernel_rfl
@[simp] theorem szT_187 : szT Tryz.prog 187 = 3 := by kernel_rfl
@[simp] theorem agT_187 : agT Tryz.prog 187 = true := by kernel_rfl
@[simp] theorem zrT_187 : zrT Tryz.prog 187 = some (AVal.agg [AVal.v (Value.string { data := { toList := [] } }), AVal.v (Value.int IntKind.i64 (0)), AVal.v (Value.int IntKind.i64 (0))]) := by kernel_rfl
@[simp] theorem plT_187 : plT Tryz.prog 187 = some [(0, 1), (1, 1), (2, 1)] := by kernel_rfl
@[simp] theorem slT_214 : slT Tryz.prog 214 = some 213 := by kernel_rfl
@[simp] theorem okT_213 : okT Tryz.prog 213 = true := by kernel_rfl
@[simp] theorem szT_213 : szT Tryz.prog 213 = 4 := by kernel_rfl
@[simp] theorem agT_213 : agT Tryz.prog 213 = true := by kernel_rfl
@[simp] theorem zrT_213 : zrT Tryz.prog 213 = some (AVal.agg [AVal.v (Value.string { data := { toList := [] } }), AVal.v (Value.int IntKind.i64 (0)), AVal.v (Value.int IntKind.i64 (0)), AVal.v Value.nilFunc]) := by kernel_rfl
@[simp] theorem byT_213 : byT Tryz.prog 213 = 40 := by kernel_rfl
@[simp] theorem plT_213 : plT Tryz.prog 213 = some [(0, 3), (3, 1)] := by kernel_rfl
@[simp] theorem slT_25 : slT Tryz.prog 25 = some 152 := by kernel_rfl
@[simp] theorem slT_23 : slT Tryz.prog 23 = some 149 := by kernel_rfl
@[simp] theorem okT_138 : okT Tryz.prog 138 = true := by kernel_rfl
@[simp] theorem szT_138 : szT Tryz.prog 138 = 1 := by kernel_rfl
@[simp] theorem agT_138 : agT Tryz.prog 138 = false := by kernel_rfl
@[simp] theorem slT_24 : slT Tryz.prog 24 = some 140 := by kernel_rfl
@[simp] theorem okT_140 : okT Tryz.prog 140 = true := by kernel_rfl
@[simp] theorem szT_140 : szT Tryz.prog 140 = 4 := by kernel_rfl
@[simp] theorem agT_140 : agT Tryz.prog 140 = true := by kernel_rfl
@[simp] theorem slT_138 : slT Tryz.prog 138 = some 208 := by kernel_rfl
@[simp] theorem okT_23 : okT Tryz.prog 23 = true := by kernel_rfl
@[simp] theorem szT_23 : szT Tryz.prog 23 = 1 := by kernel_rfl
@[simp] theorem agT_23 : agT Tryz.prog 23 = false := by kernel_rfl
@[simp] theorem okT_24 : okT Tryz.prog 24 = true := by kernel_rfl
@[simp] theorem szT_24 : szT Tryz.prog 24 = 1 := by kernel_rfl
@[simp] theorem agT_24 : agT Tryz.prog 24 = false := by kernel_rfl
@[simp] theorem okT_25 : okT Tryz.prog 25 = true := by kernel_rfl
@[simp] theorem szT_25 : szT Tryz.prog 25 = 1 := by kernel_rfl
@[simp] theorem agT_25 : agT Tryz.prog 25 = false := by kernel_rfl
@[simp] theorem zrT_5 : zrT Tryz.prog 5 = some (AVal.v (Value.int IntKind.u8 (0))) := by kernel_rfl
@[simp] theorem byT_5 : byT Tryz.prog 5 = 1 := by kernel_rfl
@[simp] theorem okT_152 : okT Tryz.prog 152 = true := by kernel_rfl
@[simp] theorem szT_152 : szT Tryz.prog 152 = 4 := by kernel_rfl
@[simp] theorem agT_152 : agT Tryz.prog 152 = true := by kernel_rfl
@[simp] theorem okT_149 : okT Tryz.prog 149 = true := by kernel_rfl
@[simp] theorem szT_149 : szT Tryz.prog 149 = 2 := by kernel_rfl
@[simp] theorem agT_149 : agT Tryz.prog 149 = true := by kernel_rfl
@[simp] theorem okT_208 : okT Tryz.prog 208 = true := by kernel_rfl
@[simp] theorem szT_208 : szT Tryz.prog 208 = 4 := by kernel_rfl
@[simp] theorem agT_208 : agT Tryz.prog 208 = true := by kernel_rfl
@[simp] theorem plT_110 : plT Tryz.prog 110 = some [(0, 1), (1, 1), (2, 1)] := by kernel_rfl
@[simp] theorem zrT_110 : zrT Tryz.prog 110 = some (AVal.agg [AVal.v (Value.slice none 0 0), AVal.v (Value.int IntKind.i64 (0)), AVal.v (Value.bool false)]) := by kernel_rfl
@[simp] theorem slT_205 : slT Tryz.prog 205 = some 187 := by kernel_rfl
@[simp] theorem byT_187 : byT Tryz.prog 187 = 32 := by kernel_rfl
@[simp] theorem okT_165 : okT Tryz.prog 165 = true := by kernel_rfl
@[simp] theorem szT_165 : szT Tryz.prog 165 = 0 := by kernel_rfl
@[simp] theorem agT_165 : agT Tryz.prog 165 = true := by kernel_rfl
@[simp] theorem zokT_81 : zokT Tryz.prog 81 = true := by kernel_rfl
@[simp] theorem zokT_72 : zokT Tryz.prog 72 = true := by kernel_rfl
@[simp] theorem zokT_76 : zokT Tryz.prog 76 = true := by kernel_rfl
@[simp] theorem zokT_79 : zokT Tryz.prog 79 = true := by kernel_rfl
@[simp] theorem zokT_83 : zokT Tryz.prog 83 = true := by kernel_rfl
@[simp] theorem zokT_2 : zokT Tryz.prog 2 = true := by kernel_rfl
@[simp] theorem fdT_79_0 : fdT Tryz.prog 79 0 = some (0, 72) := by kernel_rfl
@[simp] theorem fdT_79_2 : fdT Tryz.prog 79 2 = some (2, 72) := by kernel_rfl
@[simp] theorem fdT_81_1 : fdT Tryz.prog 81 1 = some (1, 2) := by kernel_rfl
@[simp] theorem fdT_81_2 : fdT Tryz.prog 81 2 = some (2, 2) := by kernel_rfl
@[simp] theorem fdT_35_0 : fdT Tryz.prog 35 0 = some (0, 22) := by kernel_rfl
@[simp] theorem fdT_81_0 : fdT Tryz.prog 81 0 = some (0, 2) := by kernel_rfl
@[simp] theorem fdT_81_3 : fdT Tryz.prog 81 3 = some (3, 2) := by kernel_rfl
@[simp] theorem fdT_35_3 : fdT Tryz.prog 35 3 = some (3, 33) := by kernel_rfl
@[simp] theorem fdT_83_0 : fdT Tryz.prog 83 0 = some (0, 2) := by kernel_rfl
@[simp] theorem fdT_35_2 : fdT Tryz.prog 35 2 = some (2, 32) := by kernel_rfl
@[simp] theorem fdT_83_1 : fdT Tryz.prog 83 1 = some (1, 2) := by kernel_rfl
@[simp] theorem fdT_79_3 : fdT Tryz.prog 79 3 = some (3, 77) := by kernel_rfl
@[simp] theorem fdT_83_2 : fdT Tryz.prog 83 2 = some (2, 2) := by kernel_rfl
@[simp] theorem fdT_35_1 : fdT Tryz.prog 35 1 = some (1, 31) := by kernel_rfl
@[simp] theorem fdT_76_0 : fdT Tryz.prog 76 0 = some (0, 2) := by kernel_rfl
@[simp] theorem fdT_76_1 : fdT Tryz.prog 76 1 = some (1, 74) := by kernel_rfl
@[simp] theorem fdT_79_1 : fdT Tryz.prog 79 1 = some (1, 2) := by kernel_rfl
@[simp] theorem fdT_187_2 : fdT Tryz.prog 187 2 = some (2, 2) := by kernel_rfl
@[simp] theorem fdT_114_0 : fdT Tryz.prog 114 0 = some (0, 29) := by kernel_rfl
@[simp] theorem fdT_114_1 : fdT Tryz.prog 114 1 = some (1, 2) := by kernel_rfl
@[simp] theorem fdT_106_0 : fdT Tryz.prog 106 0 = some (0, 4) := by kernel_rfl
@[simp] theorem fdT_106_1 : fdT Tryz.prog 106 1 = some (1, 2) := by kernel_rfl
@[simp] theorem fdT_83_3 : fdT Tryz.prog 83 3 = some (3, 74) := by kernel_rfl
@[simp] theorem fdT_213_0 : fdT Tryz.prog 213 0 = some (0, 187) := by kernel_rfl
@[simp] theorem fdT_43_0 : fdT Tryz.prog 43 0 = some (0, 2) := by kernel_rfl
@[simp] theorem fdT_43_1 : fdT Tryz.prog 43 1 = some (1, 35) := by kernel_rfl
@[simp] theorem fdT_140_0 : fdT Tryz.prog 140 0 = some (0, 72) := by kernel_rfl
@[simp] theorem fdT_140_2 : fdT Tryz.prog 140 2 = some (2, 72) := by kernel_rfl
@[simp] theorem fdT_140_3 : fdT Tryz.prog 140 3 = some (3, 138) := by kernel_rfl
@[simp] theorem fdT_27_0 : fdT Tryz.prog 27 0 = some (0, 22) := by kernel_rfl
@[simp] theorem fdT_27_1 : fdT Tryz.prog 27 1 = some (1, 23) := by kernel_rfl
@[simp] theorem fdT_27_2 : fdT Tryz.prog 27 2 = some (2, 24) := by kernel_rfl
@[simp] theorem fdT_27_3 : fdT Tryz.prog 27 3 = some (3, 25) := by kernel_rfl
@[simp] theorem fdT_152_0 : fdT Tryz.prog 152 0 = some (0, 2) := by kernel_rfl
@[simp] theorem fdT_152_1 : fdT Tryz.prog 152 1 = some (1, 2) := by kernel_rfl
@[simp] theorem fdT_152_2 : fdT Tryz.prog 152 2 = some (2, 2) := by kernel_rfl
@[simp] theorem fdT_152_3 : fdT Tryz.prog 152 3 = some (3, 74) := by kernel_rfl
@[simp] theorem fdT_149_0 : fdT Tryz.prog 149 0 = some (0, 2) := by kernel_rfl
@[simp] theorem fdT_149_1 : fdT Tryz.prog 149 1 = some (1, 74) := by kernel_rfl
@[simp] theorem fdT_140_1 : fdT Tryz.prog 140 1 = some (1, 2) := by kernel_rfl
@[simp] theorem fdT_208_0 : fdT Tryz.prog 208 0 = some (0, 2) := by kernel_rfl
@[simp] theorem fdT_208_1 : fdT Tryz.prog 208 1 = some (1, 2) := by kernel_rfl
@[simp] theorem fdT_208_2 : fdT Tryz.prog 208 2 = some (2, 2) := by kernel_rfl
@[simp] theorem fdT_208_3 : fdT Tryz.prog 208 3 = some (3, 2) := by kernel_rfl
@[simp] theorem fdT_110_2 : fdT Tryz.prog 110 2 = some (2, 4) := by kernel_rfl
@[simp] theorem fdT_110_1 : fdT Tryz.prog 110 1 = some (1, 2) := by kernel_rfl
@[simp] theorem fdT_110_0 : fdT Tryz.prog 110 0 = some (0, 29) := by kernel_rfl
@[simp] theorem stT_9 : stT Tryz.prog 9 = true := by kernel_rfl
@[simp] theorem ifT_90 : ifT Tryz.prog 90 = true := by kernel_rfl
@[simp] theorem ifT_20 : ifT Tryz.prog 20 = true := by kernel_rfl
@[simp] theorem ncT_195 : ncT Tryz.prog 195 = true := by kernel_rfl
@[simp] theorem ncT_165 : ncT Tryz.prog 165 = true := by kernel_rfl
@[simp] theorem inT_5 : inT Tryz.prog 5 = some IntKind.u8 := by kernel_rfl
@[simp] theorem inT_74 : inT Tryz.prog 74 = some IntKind.u32 := by kernel_rfl
@[simp] theorem inT_145 : inT Tryz.prog 145 = some IntKind.u64 := by kernel_rfl
@[simp] theorem okT_145 : okT Tryz.prog 145 = true := by kernel_rfl
@[simp] theorem szT_145 : szT Tryz.prog 145 = 1 := by kernel_rfl
@[simp] theorem agT_145 : agT Tryz.prog 145 = false := by kernel_rfl
@[simp] theorem inT_2 : inT Tryz.prog 2 = some IntKind.i64 := by kernel_rfl
@[simp] theorem okT_3 : okT Tryz.prog 3 = true := by kernel_rfl
@[simp] theorem szT_3 : szT Tryz.prog 3 = 1 := by kernel_rfl
@[simp] theorem agT_3 : agT Tryz.prog 3 = false := by kernel_rfl
@[simp] theorem inT_146 : inT Tryz.prog 146 = some IntKind.u64 := by kernel_rfl
/- (*impl.Func).localType -/
def or_impl_Func_localType_3 : DR := ⟨[0, 1, 2, 4, 0, 0, 32, 64, 128, 256, 528, 1032, 2048, 8191], [0, 1, 3, 7, 0, 0, 32, 96, 224, 480, 1008, 2047, 4095, 8191], (.one 0 (.one 1 (.one 2 (.one 3 (.one 4 (.one 5 (.one 6 (.one 7 (.one 8 (.one 9 (.one 10 (.one 11 (.one 12 (.one 13 .nil))))))))))))))⟩
@[simp] theorem dr_impl_Func_localType_3 : drawnOK Tryz.prog [] (regOps Tryz.f130 3) or_impl_Func_localType_3 = True := eq_true ⟨by kernel_rfl, by kernel_rfl⟩
def D_impl_Func_localType (a0 a1 : AVal) (h : AHeap) (Q : KA) : Prop :=
 nilChkM a0 h fun x1 h1 =>
 fldAddrM Tryz.prog 79 x1 0 h1 fun x2 h2 =>
 loadM Tryz.prog 72 x2 h2 fun x3 h3 =>
 lenM Tryz.prog 72 x3 h3 fun x4 h4 =>
 binM Tryz.prog .lss 2 a1 x4 h4 fun x5 h5 =>
 gdM x5
 (nilChkM a0 h5 fun x6 h6 =>
 fldAddrM Tryz.prog 79 x6 0 h6 fun x7 h7 =>
 loadM Tryz.prog 72 x7 h7 fun x8 h8 =>
 ixAddrM Tryz.prog 72 x8 a1 h8 fun x9 h9 =>
 loadM Tryz.prog 2 x9 h9 fun x10 h10 =>
 retW x10 h10 Q)
 (And (drawnOK Tryz.prog [] (regOps Tryz.f130 3) or_impl_Func_localType_3) (nilChkM a0 h5 fun x11 h11 =>
 fldAddrM Tryz.prog 79 x11 2 h11 fun x12 h12 =>
 loadM Tryz.prog 72 x12 h12 fun x13 h13 =>
 nilChkM a0 h13 fun x14 h14 =>
 fldAddrM Tryz.prog 79 x14 0 h14 fun x15 h15 =>
 loadM Tryz.prog 72 x15 h15 fun x16 h16 =>
 lenM Tryz.prog 72 x16 h16 fun x17 h17 =>
 binM Tryz.prog .sub 2 a1 x17 h17 fun x18 h18 =>
 ixAddrM Tryz.prog 72 x13 x18 h18 fun x19 h19 =>
 loadM Tryz.prog 2 x19 h19 fun x20 h20 =>
 retW x20 h20 Q))
theorem D_impl_Func_localType_eq (a0 a1 : AVal) (h : AHeap) (Q : KA) : adFn Tryz.prog ⟨fun i => bif Nat.beq i 3 then or_impl_Func_localType_3 else ⟨[], [], .nil⟩, fun _ => none, fun _ => [], []⟩ Tryz.f130 [a0, a1] h Q = D_impl_Func_localType a0 a1 h Q := by kernel_rfl
theorem D_impl_Func_localType_of {a0 a1 : AVal} {h : AHeap} {Q : KA} (hd : D_impl_Func_localType a0 a1 h Q) : callM Tryz.prog 130 [a0, a1] h Q := callM_of (fn := Tryz.f130) Tryz.func130 (Nat.le_of_ble_eq_true (by kernel_rfl)) ((D_impl_Func_localType_eq a0 a1 h Q).symm ▸ hd)
theorem fn_impl_Func_localType : fnT Tryz.prog 130 = true := by kernel_rfl
/- (*impl.Func).locals -/
def or_impl_Func_locals_1 : DR := ⟨[0, 1, 2, 4, 8, 0, 32, 64, 128, 256, 528, 2047], [0, 1, 3, 7, 15, 0, 32, 96, 224, 480, 1023, 2047], (.one 0 (.one 1 (.one 2 (.one 3 (.one 4 (.one 5 (.one 6 (.one 7 (.one 8 (.one 9 (.one 10 (.one 11 .nil))))))))))))⟩
@[simp] theorem dr_impl_Func_locals_1 : drawnOK Tryz.prog [] (regOps Tryz.f127 1) or_impl_Func_locals_1 = True := eq_true ⟨by kernel_rfl, by kernel_rfl⟩
def D_impl_Func_locals (a0 : AVal) (h : AHeap) (Q : KA) : Prop :=
 And (drawnOK Tryz.prog [] (regOps Tryz.f127 1) or_impl_Func_locals_1) (nilChkM a0 h fun x1 h1 =>
 fldAddrM Tryz.prog 79 x1 0 h1 fun x2 h2 =>
 loadM Tryz.prog 72 x2 h2 fun x3 h3 =>
 lenM Tryz.prog 72 x3 h3 fun x4 h4 =>
 nilChkM a0 h4 fun x5 h5 =>
 fldAddrM Tryz.prog 79 x5 2 h5 fun x6 h6 =>
 loadM Tryz.prog 72 x6 h6 fun x7 h7 =>
 lenM Tryz.prog 72 x7 h7 fun x8 h8 =>
 binM Tryz.prog .add 3 x4 x8 h8 fun x9 h9 =>
 retW x9 h9 Q)
theorem D_impl_Func_locals_eq (a0 : AVal) (h : AHeap) (Q : KA) : adFn Tryz.prog ⟨fun i => bif Nat.beq i 1 then or_impl_Func_locals_1 else ⟨[], [], .nil⟩, fun _ => none, fun _ => [], []⟩ Tryz.f127 [a0] h Q = D_impl_Func_locals a0 h Q := by kernel_rfl
theorem D_impl_Func_locals_of {a0 : AVal} {h : AHeap} {Q : KA} (hd : D_impl_Func_locals a0 h Q) : callM Tryz.prog 127 [a0] h Q := callM_of (fn := Tryz.f127) Tryz.func127 (Nat.le_of_ble_eq_true (by kernel_rfl)) ((D_impl_Func_locals_eq a0 h Q).symm ▸ hd)
theorem fn_impl_Func_locals : fnT Tryz.prog 127 = true := by kernel_rfl
/- (*impl.Program).cellsAre; J87: _119 in r _117 _118; J46: in r _101; J21: in p _51; J1: in p _32 -/
def or_impl_Program_cellsAre_1 : DR := ⟨[0, 1, 2, 4, 8, 16, 48, 64, 192, 320, 576, 64, 2112, 4160, 8256, 64, 32832, 65600, 131136, 278592, 524352, 1048640, 2098240, 4194368, 8388672], [0, 1, 3, 7, 15, 31, 63, 127, 255, 511, 1023, 127, 2175, 6271, 14463, 127, 32895, 98431, 229503, 522367, 1046655, 2095231, 4194303, 8388607, 16777215], (.one 0 (.one 1 (.one 2 (.one 3 (.one 4 (.one 5 (.one 6 (.one 7 (.one 8 (.one 9 (.one 10 (.one 11 (.one 12 (.one 13 (.one 14 (.one 15 (.one 16 (.one 17 (.one 18 (.one 19 (.one 20 (.one 21 (.one 22 (.one 23 (.one 24 .nil)))))))))))))))))))))))))⟩
@[simp] theorem dr_impl_Program_cellsAre_1 : drawnOK Tryz.prog [] (regOps Tryz.f142 1) or_impl_Program_cellsAre_1 = True := eq_true ⟨by kernel_rfl, by kernel_rfl⟩
def or_impl_Program_cellsAre_5 : DR := ⟨[0, 1, 2, 4, 0, 16, 32, 64, 136, 256, 1023], [0, 1, 3, 7, 0, 16, 48, 112, 255, 511, 1023], (.one 0 (.one 1 (.one 2 (.one 3 (.one 4 (.one 5 (.one 6 (.one 7 (.one 8 (.one 9 (.one 10 .nil)))))))))))⟩
@[simp] theorem dr_impl_Program_cellsAre_5 : drawnOK Tryz.prog [] (regOps Tryz.f142 5) or_impl_Program_cellsAre_5 = True := eq_true ⟨by kernel_rfl, by kernel_rfl⟩
def or_impl_Program_cellsAre_6 : DR := ⟨[0, 1, 2, 4, 8, 16, 32, 96, 160, 288, 544, 1056, 2080, 4096, 12288, 20480, 36864, 4096, 135168, 266240, 528384, 1052672, 2166784, 4198400, 8392704, 16781312, 33554432, 100663296, 167772160, 301989888, 33554432, 1107296256, 2181038080, 4328521728, 9160359936, 33554432, 34393292800, 85932900352, 137472507904, 274911461376], [0, 1, 3, 7, 15, 31, 63, 127, 255, 511, 1023, 2047, 4095, 8191, 16383, 32767, 65535, 8191, 139263, 401407, 925695, 1974271, 4194303, 8388607, 16777215, 33554431, 67108863, 134217727, 268435455, 536870911, 67108863, 1140850687, 3288334335, 7583301631, 17179869183, 67108863, 34426847231, 137438953471, 274877906943, 549755813887], (.one 0 (.one 1 (.one 2 (.one 3 (.one 4 (.one 5 (.one 6 (.one 7 (.one 8 (.one 9 (.one 10 (.one 11 (.one 12 (.one 13 (.one 14 (.one 15 (.one 16 (.one 17 (.one 18 (.one 19 (.one 20 (.one 21 (.one 22 (.one 23 (.one 24 (.one 25 (.one 26 (.one 27 (.one 28 (.one 29 (.one 30 (.one 31 (.one 32 (.one 33 (.one 34 (.one 35 (.one 36 (.one 37 (.one 38 (.one 39 .nil))))))))))))))))))))))))))))))))))))))))⟩
@[simp] theorem dr_impl_Program_cellsAre_6 : drawnOK Tryz.prog [] (regOps Tryz.f142 6) or_impl_Program_cellsAre_6 = True := eq_true ⟨by kernel_rfl, by kernel_rfl⟩
def or_impl_Program_cellsAre_8 : DR := ⟨[0, 0, 2, 4, 8, 0, 32, 64, 128, 0, 512, 1024, 2048, 4352, 8192, 16401, 32768, 0], [0, 0, 2, 6, 14, 0, 32, 96, 224, 0, 512, 1536, 3584, 8160, 16352, 32767, 65535, 0], (.one 0 (.one 1 (.one 2 (.one 3 (.one 4 (.one 5 (.one 6 (.one 7 (.one 8 (.one 9 (.one 10 (.one 11 (.one 12 (.one 13 (.one 14 (.one 15 (.one 16 (.one 17 .nil))))))))))))))))))⟩
@[simp] theorem dr_impl_Program_cellsAre_8 : drawnOK Tryz.prog [] (regOps Tryz.f142 8) or_impl_Program_cellsAre_8 = True := eq_true ⟨by kernel_rfl, by kernel_rfl⟩
def D_impl_Program_cellsAre (a0 a1 : AVal) (h : AHeap) (Q : KA) : Prop :=
 @jnM ⟨fun J1 =>
 And (drawnOK Tryz.prog [] (regOps Tryz.f142 1) or_impl_Program_cellsAre_1) (nilChkM a1 h fun x2 h2 =>
 fldAddrM Tryz.prog 81 x2 1 h2 fun x3 h3 =>
 loadM Tryz.prog 2 x3 h3 fun x4 h4 =>
 @clM Tryz.prog 129 [x4, (i64 3)] h4 ⟨fun x5 h5 =>
 unM .not x5 h5 fun x6 h6 =>
 gdM x6
 (@wkM [a1, a0, tt] h6 ⟨J1⟩)
 (nilChkM a1 h6 fun x7 h7 =>
 fldAddrM Tryz.prog 81 x7 2 h7 fun x8 h8 =>
 loadM Tryz.prog 2 x8 h8 fun x9 h9 =>
 nilChkM a0 h9 fun x10 h10 =>
 fldAddrM Tryz.prog 35 x10 0 h10 fun x11 h11 =>
 loadM Tryz.prog 22 x11 h11 fun x12 h12 =>
 nilChkM a1 h12 fun x13 h13 =>
 fldAddrM Tryz.prog 81 x13 1 h13 fun x14 h14 =>
 loadM Tryz.prog 2 x14 h14 fun x15 h15 =>
 ixAddrM Tryz.prog 22 x12 x15 h15 fun x16 h16 =>
 loadM Tryz.prog 72 x16 h16 fun x17 h17 =>
 lenM Tryz.prog 72 x17 h17 fun x18 h18 =>
 @clM Tryz.prog 129 [x9, x18] h18 ⟨fun x19 h19 =>
 unM .not x19 h19 fun x20 h20 =>
 @wkM [a1, a0, x20] h20 ⟨J1⟩⟩)⟩)⟩
 ⟨fun s1 h1 =>
 gdM (nthA s1 2)
 (retW ff h1 Q)
 (@jnM ⟨fun J21 =>
 nilChkM (nthA s1 0) h1 fun x22 h22 =>
 fldAddrM Tryz.prog 81 x22 0 h22 fun x23 h23 =>
 loadM Tryz.prog 2 x23 h23 fun x24 h24 =>
 binM Tryz.prog .eql 2 x24 (i64 5) h24 fun x25 h25 =>
 gdM x25
 (nilChkM (nthA s1 0) h25 fun x26 h26 =>
 fldAddrM Tryz.prog 81 x26 1 h26 fun x27 h27 =>
 loadM Tryz.prog 2 x27 h27 fun x28 h28 =>
 binM Tryz.prog .eql 2 x28 (i64 0) h28 fun x29 h29 =>
 @wkM [(nthA s1 0), (nthA s1 1), x29] h29 ⟨J21⟩)
 (nilChkM (nthA s1 0) h25 fun x30 h30 =>
 fldAddrM Tryz.prog 81 x30 0 h30 fun x31 h31 =>
 loadM Tryz.prog 2 x31 h31 fun x32 h32 =>
 binM Tryz.prog .eql 2 x32 (i64 7) h32 fun x33 h33 =>
 gdM x33
 (nilChkM (nthA s1 0) h33 fun x34 h34 =>
 fldAddrM Tryz.prog 81 x34 1 h34 fun x35 h35 =>
 loadM Tryz.prog 2 x35 h35 fun x36 h36 =>
 binM Tryz.prog .eql 2 x36 (i64 0) h36 fun x37 h37 =>
 @wkM [(nthA s1 0), (nthA s1 1), x37] h37 ⟨J21⟩)
 (@wkM [(nthA s1 0), (nthA s1 1), ff] h33 ⟨J21⟩))⟩
 ⟨fun s21 h21 =>
 gdM (nthA s21 2)
 (retW ff h21 Q)
 (And (drawnOK Tryz.prog [] (regOps Tryz.f142 5) or_impl_Program_cellsAre_5) (nilChkM (nthA s21 1) h21 fun x38 h38 =>
 fldAddrM Tryz.prog 35 x38 0 h38 fun x39 h39 =>
 loadM Tryz.prog 22 x39 h39 fun x40 h40 =>
 nilChkM (nthA s21 0) h40 fun x41 h41 =>
 fldAddrM Tryz.prog 81 x41 1 h41 fun x42 h42 =>
 loadM Tryz.prog 2 x42 h42 fun x43 h43 =>
 ixAddrM Tryz.prog 22 x40 x43 h43 fun x44 h44 =>
 loadM Tryz.prog 72 x44 h44 fun x45 h45 =>
 @jnM ⟨fun J46 =>
 And (drawnOK Tryz.prog [] (regOps Tryz.f142 6) or_impl_Program_cellsAre_6) (nilChkM (nthA s21 0) h45 fun x47 h47 =>
 fldAddrM Tryz.prog 81 x47 3 h47 fun x48 h48 =>
 loadM Tryz.prog 2 x48 h48 fun x49 h49 =>
 binM Tryz.prog .lss 2 x49 (i64 0) h49 fun x50 h50 =>
 gdM x50
 (@wkM [(nthA s21 0), x45, tt] h50 ⟨J46⟩)
 (nilChkM (nthA s21 0) h50 fun x51 h51 =>
 fldAddrM Tryz.prog 81 x51 3 h51 fun x52 h52 =>
 loadM Tryz.prog 2 x52 h52 fun x53 h53 =>
 binM Tryz.prog .geq 2 x53 (i64 256) h53 fun x54 h54 =>
 gdM x54
 (@wkM [(nthA s21 0), x45, tt] h54 ⟨J46⟩)
 (nilChkM (nthA s21 0) h54 fun x55 h55 =>
 fldAddrM Tryz.prog 81 x55 3 h55 fun x56 h56 =>
 loadM Tryz.prog 2 x56 h56 fun x57 h57 =>
 nilChkM (nthA s21 0) h57 fun x58 h58 =>
 fldAddrM Tryz.prog 81 x58 3 h58 fun x59 h59 =>
 loadM Tryz.prog 2 x59 h59 fun x60 h60 =>
 binM Tryz.prog .add 2 x60 (i64 1) h60 fun x61 h61 =>
 binM Tryz.prog .and 2 x57 x61 h61 fun x62 h62 =>
 binM Tryz.prog .neq 2 x62 (i64 0) h62 fun x63 h63 =>
 gdM x63
 (@wkM [(nthA s21 0), x45, tt] h63 ⟨J46⟩)
 (nilChkM (nthA s21 0) h63 fun x64 h64 =>
 fldAddrM Tryz.prog 81 x64 2 h64 fun x65 h65 =>
 loadM Tryz.prog 2 x65 h65 fun x66 h66 =>
 nilChkM (nthA s21 0) h66 fun x67 h67 =>
 fldAddrM Tryz.prog 81 x67 3 h67 fun x68 h68 =>
 loadM Tryz.prog 2 x68 h68 fun x69 h69 =>
 binM Tryz.prog .add 2 x66 x69 h69 fun x70 h70 =>
 lenM Tryz.prog 72 x45 h70 fun x71 h71 =>
 @clM Tryz.prog 129 [x70, x71] h71 ⟨fun x72 h72 =>
 unM .not x72 h72 fun x73 h73 =>
 @wkM [(nthA s21 0), x45, x73] h73 ⟨J46⟩⟩))))⟩
 ⟨fun s46 h46 =>
 gdM (nthA s46 2)
 (retW ff h46 Q)
 (And (drawnOK Tryz.prog [] (regOps Tryz.f142 8) or_impl_Program_cellsAre_8) (nilChkM (nthA s46 0) h46 fun x74 h74 =>
 fldAddrM Tryz.prog 81 x74 2 h74 fun x75 h75 =>
 loadM Tryz.prog 2 x75 h75 fun x76 h76 =>
 nilChkM (nthA s46 0) h76 fun x77 h77 =>
 fldAddrM Tryz.prog 81 x77 2 h77 fun x78 h78 =>
 loadM Tryz.prog 2 x78 h78 fun x79 h79 =>
 nilChkM (nthA s46 0) h79 fun x80 h80 =>
 fldAddrM Tryz.prog 81 x80 3 h80 fun x81 h81 =>
 loadM Tryz.prog 2 x81 h81 fun x82 h82 =>
 binM Tryz.prog .add 2 x79 x82 h82 fun x83 h83 =>
 binM Tryz.prog .add 2 x83 (i64 1) h83 fun x84 h84 =>
 sliceM Tryz.prog 72 (nthA s46 1) (some x76) (some x84) none h84 fun x85 h85 =>
 lenM Tryz.prog 72 x85 h85 fun x86 h86 =>
 @lpM [(i64 0), (nthA s46 0), (nthA s46 1), x85, x86] h86 ⟨fun s87 h87 J87 =>
 binM Tryz.prog .lss 3 (nthA s87 0) (nthA s87 4) h87 fun x88 h88 =>
 gdM x88
 (ixAddrM Tryz.prog 72 (nthA s87 3) (nthA s87 0) h88 fun x89 h89 =>
 loadM Tryz.prog 2 x89 h89 fun x90 h90 =>
 nilChkM (nthA s87 1) h90 fun x91 h91 =>
 fldAddrM Tryz.prog 81 x91 2 h91 fun x92 h92 =>
 loadM Tryz.prog 2 x92 h92 fun x93 h93 =>
 ixAddrM Tryz.prog 72 (nthA s87 2) x93 h93 fun x94 h94 =>
 loadM Tryz.prog 2 x94 h94 fun x95 h95 =>
 binM Tryz.prog .neq 2 x90 x95 h95 fun x96 h96 =>
 gdM x96
 (retW ff h96 Q)
 (binM Tryz.prog .add 3 (nthA s87 0) (i64 1) h96 fun x97 h97 =>
 @wkM [x97, (nthA s87 1), (nthA s87 2), (nthA s87 3), (nthA s87 4)] h97 ⟨J87⟩))
 (retW tt h88 Q)⟩))⟩))⟩)⟩
theorem D_impl_Program_cellsAre_eq (a0 a1 : AVal) (h : AHeap) (Q : KA) : adFn Tryz.prog ⟨fun i => bif Nat.beq i 1 then or_impl_Program_cellsAre_1 else bif Nat.beq i 5 then or_impl_Program_cellsAre_5 else bif Nat.beq i 6 then or_impl_Program_cellsAre_6 else bif Nat.beq i 8 then or_impl_Program_cellsAre_8 else ⟨[], [], .nil⟩, fun i => bif Nat.beq i 2 then some [1, 0, 32] else bif Nat.beq i 4 then some [1, 0, 51] else bif Nat.beq i 7 then some [1, 5, 101] else none, fun i => bif Nat.beq i 9 then [119, 1, 5, 117, 118] else [], []⟩ Tryz.f142 [a0, a1] h Q = D_impl_Program_cellsAre a0 a1 h Q := by kernel_rfl
theorem D_impl_Program_cellsAre_of {a0 a1 : AVal} {h : AHeap} {Q : KA} (hd : D_impl_Program_cellsAre a0 a1 h Q) : callM Tryz.prog 142 [a0, a1] h Q := callM_of (fn := Tryz.f142) Tryz.func142 (Nat.le_of_ble_eq_true (by kernel_rfl)) ((D_impl_Program_cellsAre_eq a0 a1 h Q).symm ▸ hd)
theorem fn_impl_Program_cellsAre : fnT Tryz.prog 142 = true := by kernel_rfl
/- (*impl.Program).certsFault; J12: _20 p _18 _19; J72: p _18 _19 _20 _97; J35: p _18 _19 _20 c i _66; J14: p _18 _19 _20 -/
def or_impl_Program_certsFault_6 : DR := ⟨[0, 1, 0, 4, 8, 16, 32, 66, 128], [0, 1, 0, 4, 12, 28, 60, 127, 255], (.one 0 (.one 1 (.one 2 (.one 3 (.one 4 (.one 5 (.one 6 (.one 7 (.one 8 .nil)))))))))⟩
@[simp] theorem dr_impl_Program_certsFault_6 : drawnOK Tryz.prog [] (regOps Tryz.f92 6) or_impl_Program_certsFault_6 = True := eq_true ⟨by kernel_rfl, by kernel_rfl⟩
def or_impl_Program_certsFault_8 : DR := ⟨[0, 1, 2, 4, 0, 16, 40, 127], [0, 1, 3, 7, 0, 16, 63, 127], (.one 0 (.one 1 (.one 2 (.one 3 (.one 4 (.one 5 (.one 6 (.one 7 .nil))))))))⟩
@[simp] theorem dr_impl_Program_certsFault_8 : drawnOK Tryz.prog [] (regOps Tryz.f92 8) or_impl_Program_certsFault_8 = True := eq_true ⟨by kernel_rfl, by kernel_rfl⟩
def or_impl_Program_certsFault_9 : DR := ⟨[0, 1, 0, 4, 8, 16, 32, 66, 128, 384, 512, 1536, 512, 4608, 10752, 16896, 33280, 81920, 131072, 131072, 655360, 1441792, 2228224, 4325376], [0, 1, 0, 4, 12, 28, 60, 127, 255, 511, 1023, 2047, 1023, 5119, 16383, 32767, 65535, 131071, 262143, 262143, 786431, 2097151, 4194303, 8388607], (.one 0 (.one 1 (.one 2 (.one 3 (.one 4 (.one 5 (.one 6 (.one 7 (.one 8 (.one 9 (.one 10 (.one 12 (.or (.one 11 (.one 13 (.one 14 (.one 15 (.one 16 (.one 17 (.one 18 (.one 19 (.one 20 (.one 21 (.one 22 (.one 23 .nil)))))))))))) (.one 13 (.one 11 (.one 14 (.one 15 (.one 16 (.one 17 (.one 18 (.one 19 (.one 20 (.one 21 (.one 22 (.one 23 .nil)))))))))))))))))))))))))⟩
@[simp] theorem dr_impl_Program_certsFault_9 : drawnOK Tryz.prog [] (regOps Tryz.f92 9) or_impl_Program_certsFault_9 = True := eq_true ⟨by kernel_rfl, by kernel_rfl⟩
def D_impl_Program_certsFault (a0 : AVal) (h : AHeap) (Q : KA) : Prop :=
 nilChkM a0 h fun x1 h1 =>
 fldAddrM Tryz.prog 35 x1 3 h1 fun x2 h2 =>
 loadM Tryz.prog 33 x2 h2 fun x3 h3 =>
 lenM Tryz.prog 33 x3 h3 fun x4 h4 =>
 binM Tryz.prog .gtr 3 x4 (i64 64) h4 fun x5 h5 =>
 gdM x5
 (buildM Tryz.prog 195 [(0, (i64 5))] h5 fun x6 h6 =>
 mkIfM Tryz.prog 195 x6 h6 fun x7 h7 =>
 retW x7 h7 Q)
 (nilChkM a0 h5 fun x8 h8 =>
 fldAddrM Tryz.prog 35 x8 3 h8 fun x9 h9 =>
 loadM Tryz.prog 33 x9 h9 fun x10 h10 =>
 lenM Tryz.prog 33 x10 h10 fun x11 h11 =>
 @lpM [(i64 0), a0, x10, x11] h11 ⟨fun s12 h12 J12 =>
 binM Tryz.prog .lss 3 (nthA s12 0) (nthA s12 3) h12 fun x13 h13 =>
 gdM x13
 (@jnM ⟨fun J14 =>
 ixAddrM Tryz.prog 33 (nthA s12 2) (nthA s12 0) h13 fun x15 h15 =>
 loadM Tryz.prog 83 x15 h15 fun x16 h16 =>
 allocM Tryz.prog 83 h16 fun x17 h17 =>
 storeM Tryz.prog 83 x17 x16 h17 fun x18 h18 =>
 And (drawnOK Tryz.prog [] (regOps Tryz.f92 6) or_impl_Program_certsFault_6) (fldAddrM Tryz.prog 83 x17 0 h18 fun x19 h19 =>
 loadM Tryz.prog 2 x19 h19 fun x20 h20 =>
 nilChkM (nthA s12 1) h20 fun x21 h21 =>
 fldAddrM Tryz.prog 35 x21 2 h21 fun x22 h22 =>
 loadM Tryz.prog 32 x22 h22 fun x23 h23 =>
 lenM Tryz.prog 32 x23 h23 fun x24 h24 =>
 @clM Tryz.prog 129 [x20, x24] h24 ⟨fun x25 h25 =>
 unM .not x25 h25 fun x26 h26 =>
 gdM x26
 (buildM Tryz.prog 195 [(0, (i64 5))] h26 fun x27 h27 =>
 mkIfM Tryz.prog 195 x27 h27 fun x28 h28 =>
 retW x28 h28 Q)
 (And (drawnOK Tryz.prog [] (regOps Tryz.f92 8) or_impl_Program_certsFault_8) (nilChkM (nthA s12 1) h26 fun x29 h29 =>
 fldAddrM Tryz.prog 35 x29 2 h29 fun x30 h30 =>
 loadM Tryz.prog 32 x30 h30 fun x31 h31 =>
 fldAddrM Tryz.prog 83 x17 0 h31 fun x32 h32 =>
 loadM Tryz.prog 2 x32 h32 fun x33 h33 =>
 ixAddrM Tryz.prog 32 x31 x33 h33 fun x34 h34 =>
 @jnM ⟨fun J35 =>
 And (drawnOK Tryz.prog [] (regOps Tryz.f92 9) or_impl_Program_certsFault_9) (fldAddrM Tryz.prog 83 x17 1 h34 fun x36 h36 =>
 loadM Tryz.prog 2 x36 h36 fun x37 h37 =>
 nilChkM x34 h37 fun x38 h38 =>
 fldAddrM Tryz.prog 79 x38 3 h38 fun x39 h39 =>
 loadM Tryz.prog 77 x39 h39 fun x40 h40 =>
 lenM Tryz.prog 77 x40 h40 fun x41 h41 =>
 @clM Tryz.prog 129 [x37, x41] h41 ⟨fun x42 h42 =>
 unM .not x42 h42 fun x43 h43 =>
 gdM x43
 (And (@wkM [(nthA s12 1), (nthA s12 2), (nthA s12 3), (nthA s12 0), x17, (nthA s12 0), tt] h43 ⟨J35⟩)
 (@wkM [(nthA s12 1), (nthA s12 2), (nthA s12 3), (nthA s12 0), x17, (nthA s12 0), tt] h43 ⟨J35⟩))
 (fldAddrM Tryz.prog 83 x17 2 h43 fun x44 h44 =>
 And (loadM Tryz.prog 2 x44 h44 fun x45 h45 =>
 @clM Tryz.prog 127 [x34] h45 ⟨fun x46 h46 =>
 @clM Tryz.prog 129 [x45, x46] h46 ⟨fun x47 h47 =>
 unM .not x47 h47 fun x48 h48 =>
 gdM x48
 (@wkM [(nthA s12 1), (nthA s12 2), (nthA s12 3), (nthA s12 0), x17, (nthA s12 0), tt] h48 ⟨J35⟩)
 (fldAddrM Tryz.prog 83 x17 2 h48 fun x49 h49 =>
 loadM Tryz.prog 2 x49 h49 fun x50 h50 =>
 @clM Tryz.prog 130 [x34, x50] h50 ⟨fun x51 h51 =>
 binM Tryz.prog .neq 2 x51 (i64 3) h51 fun x52 h52 =>
 @wkM [(nthA s12 1), (nthA s12 2), (nthA s12 3), (nthA s12 0), x17, (nthA s12 0), x52] h52 ⟨J35⟩⟩)⟩⟩)
 (@clM Tryz.prog 127 [x34] h44 ⟨fun x53 h53 =>
 loadM Tryz.prog 2 x44 h53 fun x54 h54 =>
 @clM Tryz.prog 129 [x54, x53] h54 ⟨fun x55 h55 =>
 unM .not x55 h55 fun x56 h56 =>
 gdM x56
 (@wkM [(nthA s12 1), (nthA s12 2), (nthA s12 3), (nthA s12 0), x17, (nthA s12 0), tt] h56 ⟨J35⟩)
 (fldAddrM Tryz.prog 83 x17 2 h56 fun x57 h57 =>
 loadM Tryz.prog 2 x57 h57 fun x58 h58 =>
 @clM Tryz.prog 130 [x34, x58] h58 ⟨fun x59 h59 =>
 binM Tryz.prog .neq 2 x59 (i64 3) h59 fun x60 h60 =>
 @wkM [(nthA s12 1), (nthA s12 2), (nthA s12 3), (nthA s12 0), x17, (nthA s12 0), x60] h60 ⟨J35⟩⟩)⟩⟩))⟩)⟩
 ⟨fun s35 h35 =>
 gdM (nthA s35 6)
 (buildM Tryz.prog 195 [(0, (i64 5))] h35 fun x61 h61 =>
 mkIfM Tryz.prog 195 x61 h61 fun x62 h62 =>
 retW x62 h62 Q)
 (binM Tryz.prog .gtr 3 (nthA s35 5) (i64 0) h35 fun x63 h63 =>
 gdM x63
 (nilChkM (nthA s35 0) h63 fun x64 h64 =>
 fldAddrM Tryz.prog 35 x64 3 h64 fun x65 h65 =>
 loadM Tryz.prog 33 x65 h65 fun x66 h66 =>
 binM Tryz.prog .sub 3 (nthA s35 5) (i64 1) h66 fun x67 h67 =>
 ixAddrM Tryz.prog 33 x66 x67 h67 fun x68 h68 =>
 loadM Tryz.prog 83 x68 h68 fun x69 h69 =>
 allocM Tryz.prog 83 h69 fun x70 h70 =>
 storeM Tryz.prog 83 x70 x69 h70 fun x71 h71 =>
 @jnM ⟨fun J72 =>
 fldAddrM Tryz.prog 83 x70 0 h71 fun x73 h73 =>
 loadM Tryz.prog 2 x73 h73 fun x74 h74 =>
 fldAddrM Tryz.prog 83 (nthA s35 4) 0 h74 fun x75 h75 =>
 loadM Tryz.prog 2 x75 h75 fun x76 h76 =>
 binM Tryz.prog .gtr 2 x74 x76 h76 fun x77 h77 =>
 gdM x77
 (@wkM [(nthA s35 0), (nthA s35 1), (nthA s35 2), (nthA s35 3), tt] h77 ⟨J72⟩)
 (fldAddrM Tryz.prog 83 x70 0 h77 fun x78 h78 =>
 loadM Tryz.prog 2 x78 h78 fun x79 h79 =>
 fldAddrM Tryz.prog 83 (nthA s35 4) 0 h79 fun x80 h80 =>
 loadM Tryz.prog 2 x80 h80 fun x81 h81 =>
 binM Tryz.prog .eql 2 x79 x81 h81 fun x82 h82 =>
 gdM x82
 (fldAddrM Tryz.prog 83 x70 1 h82 fun x83 h83 =>
 loadM Tryz.prog 2 x83 h83 fun x84 h84 =>
 fldAddrM Tryz.prog 83 (nthA s35 4) 1 h84 fun x85 h85 =>
 loadM Tryz.prog 2 x85 h85 fun x86 h86 =>
 binM Tryz.prog .geq 2 x84 x86 h86 fun x87 h87 =>
 @wkM [(nthA s35 0), (nthA s35 1), (nthA s35 2), (nthA s35 3), x87] h87 ⟨J72⟩)
 (@wkM [(nthA s35 0), (nthA s35 1), (nthA s35 2), (nthA s35 3), ff] h82 ⟨J72⟩))⟩
 ⟨fun s72 h72 =>
 gdM (nthA s72 4)
 (buildM Tryz.prog 195 [(0, (i64 5))] h72 fun x88 h88 =>
 mkIfM Tryz.prog 195 x88 h88 fun x89 h89 =>
 retW x89 h89 Q)
 (@wkM [(nthA s72 0), (nthA s72 1), (nthA s72 2), (nthA s72 3)] h72 ⟨J14⟩)⟩)
 (@wkM [(nthA s35 0), (nthA s35 1), (nthA s35 2), (nthA s35 3)] h63 ⟨J14⟩))⟩))⟩)⟩
 ⟨fun s14 h14 =>
 binM Tryz.prog .add 3 (nthA s14 3) (i64 1) h14 fun x90 h90 =>
 @wkM [x90, (nthA s14 0), (nthA s14 1), (nthA s14 2)] h90 ⟨J12⟩⟩)
 (retW (.v Value.nilIface) h13 Q)⟩)
theorem D_impl_Program_certsFault_eq (a0 : AVal) (h : AHeap) (Q : KA) : adFn Tryz.prog ⟨fun i => bif Nat.beq i 6 then or_impl_Program_certsFault_6 else bif Nat.beq i 8 then or_impl_Program_certsFault_8 else bif Nat.beq i 9 then or_impl_Program_certsFault_9 else ⟨[], [], .nil⟩, fun i => bif Nat.beq i 10 then some [0, 18, 19, 20, 4, 3, 66] else bif Nat.beq i 14 then some [0, 18, 19, 20, 97] else bif Nat.beq i 15 then some [0, 18, 19, 20] else none, fun i => bif Nat.beq i 4 then [20, 0, 18, 19] else [], []⟩ Tryz.f92 [a0] h Q = D_impl_Program_certsFault a0 h Q := by kernel_rfl
theorem D_impl_Program_certsFault_of {a0 : AVal} {h : AHeap} {Q : KA} (hd : D_impl_Program_certsFault a0 h Q) : callM Tryz.prog 92 [a0] h Q := callM_of (fn := Tryz.f92) Tryz.func92 (Nat.le_of_ble_eq_true (by kernel_rfl)) ((D_impl_Program_certsFault_eq a0 h Q).symm ▸ hd)
theorem fn_impl_Program_certsFault : fnT Tryz.prog 92 = true := by kernel_rfl
/- (*impl.Program).codeFault; J5: _11 p _10; J15: p _10 _11 _25 f _24 -/
def D_impl_Program_codeFault (a0 : AVal) (h : AHeap) (Q : KA) : Prop :=
 nilChkM a0 h fun x1 h1 =>
 fldAddrM Tryz.prog 35 x1 2 h1 fun x2 h2 =>
 loadM Tryz.prog 32 x2 h2 fun x3 h3 =>
 lenM Tryz.prog 32 x3 h3 fun x4 h4 =>
 @lpM [(i64 0), a0, x4] h4 ⟨fun s5 h5 J5 =>
 binM Tryz.prog .lss 3 (nthA s5 0) (nthA s5 2) h5 fun x6 h6 =>
 gdM x6
 (nilChkM (nthA s5 1) h6 fun x7 h7 =>
 fldAddrM Tryz.prog 35 x7 2 h7 fun x8 h8 =>
 loadM Tryz.prog 32 x8 h8 fun x9 h9 =>
 ixAddrM Tryz.prog 32 x9 (nthA s5 0) h9 fun x10 h10 =>
 nilChkM x10 h10 fun x11 h11 =>
 fldAddrM Tryz.prog 79 x11 3 h11 fun x12 h12 =>
 loadM Tryz.prog 77 x12 h12 fun x13 h13 =>
 lenM Tryz.prog 77 x13 h13 fun x14 h14 =>
 @lpM [(nthA s5 1), (nthA s5 2), (nthA s5 0), (i64 0), x10, x14] h14 ⟨fun s15 h15 J15 =>
 binM Tryz.prog .lss 3 (nthA s15 3) (nthA s15 5) h15 fun x16 h16 =>
 gdM x16
 (nilChkM (nthA s15 4) h16 fun x17 h17 =>
 fldAddrM Tryz.prog 79 x17 3 h17 fun x18 h18 =>
 loadM Tryz.prog 77 x18 h18 fun x19 h19 =>
 ixAddrM Tryz.prog 77 x19 (nthA s15 3) h19 fun x20 h20 =>
 @clM Tryz.prog 128 [(nthA s15 0), (nthA s15 4), x20] h20 ⟨fun x21 h21 =>
 unM .not x21 h21 fun x22 h22 =>
 gdM x22
 (buildM Tryz.prog 195 [(0, (i64 4))] h22 fun x23 h23 =>
 mkIfM Tryz.prog 195 x23 h23 fun x24 h24 =>
 retW x24 h24 Q)
 (binM Tryz.prog .add 3 (nthA s15 3) (i64 1) h22 fun x25 h25 =>
 @wkM [(nthA s15 0), (nthA s15 1), (nthA s15 2), x25, (nthA s15 4), (nthA s15 5)] h25 ⟨J15⟩)⟩)
 (binM Tryz.prog .add 3 (nthA s15 2) (i64 1) h16 fun x26 h26 =>
 @wkM [x26, (nthA s15 0), (nthA s15 1)] h26 ⟨J5⟩)⟩)
 (retW (.v Value.nilIface) h6 Q)⟩
theorem D_impl_Program_codeFault_eq (a0 : AVal) (h : AHeap) (Q : KA) : adFn Tryz.prog ⟨fun _ => ⟨[], [], .nil⟩, fun _ => none, fun i => bif Nat.beq i 2 then [11, 0, 10] else bif Nat.beq i 6 then [0, 10, 11, 25, 4, 24] else [], []⟩ Tryz.f91 [a0] h Q = D_impl_Program_codeFault a0 h Q := by kernel_rfl
theorem D_impl_Program_codeFault_of {a0 : AVal} {h : AHeap} {Q : KA} (hd : D_impl_Program_codeFault a0 h Q) : callM Tryz.prog 91 [a0] h Q := callM_of (fn := Tryz.f91) Tryz.func91 (Nat.le_of_ble_eq_true (by kernel_rfl)) ((D_impl_Program_codeFault_eq a0 h Q).symm ▸ hd)
theorem fn_impl_Program_codeFault : fnT Tryz.prog 91 = true := by kernel_rfl
/- (*impl.Program).constsFault; J12: _18 _16 _17; J18: _16 _17 _18 _35 -/
def D_impl_Program_constsFault (a0 : AVal) (h : AHeap) (Q : KA) : Prop :=
 nilChkM a0 h fun x1 h1 =>
 fldAddrM Tryz.prog 35 x1 1 h1 fun x2 h2 =>
 loadM Tryz.prog 31 x2 h2 fun x3 h3 =>
 lenM Tryz.prog 31 x3 h3 fun x4 h4 =>
 binM Tryz.prog .gtr 3 x4 (i64 64) h4 fun x5 h5 =>
 gdM x5
 (buildM Tryz.prog 195 [(0, (i64 2))] h5 fun x6 h6 =>
 mkIfM Tryz.prog 195 x6 h6 fun x7 h7 =>
 retW x7 h7 Q)
 (nilChkM a0 h5 fun x8 h8 =>
 fldAddrM Tryz.prog 35 x8 1 h8 fun x9 h9 =>
 loadM Tryz.prog 31 x9 h9 fun x10 h10 =>
 lenM Tryz.prog 31 x10 h10 fun x11 h11 =>
 @lpM [(i64 0), x10, x11] h11 ⟨fun s12 h12 J12 =>
 binM Tryz.prog .lss 3 (nthA s12 0) (nthA s12 2) h12 fun x13 h13 =>
 gdM x13
 (ixAddrM Tryz.prog 31 (nthA s12 1) (nthA s12 0) h13 fun x14 h14 =>
 loadM Tryz.prog 76 x14 h14 fun x15 h15 =>
 allocM Tryz.prog 76 h15 fun x16 h16 =>
 storeM Tryz.prog 76 x16 x15 h16 fun x17 h17 =>
 @jnM ⟨fun J18 =>
 fldAddrM Tryz.prog 76 x16 0 h17 fun x19 h19 =>
 loadM Tryz.prog 2 x19 h19 fun x20 h20 =>
 @clM Tryz.prog 126 [x20] h20 ⟨fun x21 h21 =>
 unM .not x21 h21 fun x22 h22 =>
 gdM x22
 (@wkM [(nthA s12 1), (nthA s12 2), (nthA s12 0), tt] h22 ⟨J18⟩)
 (fldAddrM Tryz.prog 76 x16 0 h22 fun x23 h23 =>
 loadM Tryz.prog 2 x23 h23 fun x24 h24 =>
 binM Tryz.prog .eql 2 x24 (i64 1) h24 fun x25 h25 =>
 gdM x25
 (fldAddrM Tryz.prog 76 x16 1 h25 fun x26 h26 =>
 loadM Tryz.prog 74 x26 h26 fun x27 h27 =>
 binM Tryz.prog .gtr 74 x27 (u32 1) h27 fun x28 h28 =>
 @wkM [(nthA s12 1), (nthA s12 2), (nthA s12 0), x28] h28 ⟨J18⟩)
 (@wkM [(nthA s12 1), (nthA s12 2), (nthA s12 0), ff] h25 ⟨J18⟩))⟩⟩
 ⟨fun s18 h18 =>
 gdM (nthA s18 3)
 (buildM Tryz.prog 195 [(0, (i64 2))] h18 fun x29 h29 =>
 mkIfM Tryz.prog 195 x29 h29 fun x30 h30 =>
 retW x30 h30 Q)
 (binM Tryz.prog .add 3 (nthA s18 2) (i64 1) h18 fun x31 h31 =>
 @wkM [x31, (nthA s18 0), (nthA s18 1)] h31 ⟨J12⟩)⟩)
 (retW (.v Value.nilIface) h13 Q)⟩)
theorem D_impl_Program_constsFault_eq (a0 : AVal) (h : AHeap) (Q : KA) : adFn Tryz.prog ⟨fun _ => ⟨[], [], .nil⟩, fun i => bif Nat.beq i 7 then some [16, 17, 18, 35] else none, fun i => bif Nat.beq i 4 then [18, 16, 17] else [], []⟩ Tryz.f89 [a0] h Q = D_impl_Program_constsFault a0 h Q := by kernel_rfl
theorem D_impl_Program_constsFault_of {a0 : AVal} {h : AHeap} {Q : KA} (hd : D_impl_Program_constsFault a0 h Q) : callM Tryz.prog 89 [a0] h Q := callM_of (fn := Tryz.f89) Tryz.func89 (Nat.le_of_ble_eq_true (by kernel_rfl)) ((D_impl_Program_constsFault_eq a0 h Q).symm ▸ hd)
theorem fn_impl_Program_constsFault : fnT Tryz.prog 89 = true := by kernel_rfl
/- (*impl.Program).fault; J8: _18 _16 _17 -/
def D_impl_Program_fault (a0 : AVal) (h : AHeap) (Q : KA) : Prop :=
 mkFnM (.func 88) [a0] [] h fun x1 h1 =>
 mkFnM (.func 89) [a0] [] h1 fun x2 h2 =>
 mkFnM (.func 90) [a0] [] h2 fun x3 h3 =>
 mkFnM (.func 91) [a0] [] h3 fun x4 h4 =>
 mkFnM (.func 92) [a0] [] h4 fun x5 h5 =>
 buildSliceM Tryz.prog 153 5 [(0, x1), (1, x2), (2, x3), (3, x4), (4, x5)] h5 fun x6 h6 =>
 lenM Tryz.prog 153 x6 h6 fun x7 h7 =>
 @lpM [(i64 0), x6, x7] h7 ⟨fun s8 h8 J8 =>
 binM Tryz.prog .lss 3 (nthA s8 0) (nthA s8 2) h8 fun x9 h9 =>
 gdM x9
 (ixAddrM Tryz.prog 153 (nthA s8 1) (nthA s8 0) h9 fun x10 h10 =>
 loadM Tryz.prog 91 x10 h10 fun x11 h11 =>
 callV Tryz.prog x11 [] h11 fun x12 h12 =>
 nilM Tryz.prog .neq 90 x12 h12 fun x13 h13 =>
 gdM x13
 (retW x12 h13 Q)
 (binM Tryz.prog .add 3 (nthA s8 0) (i64 1) h13 fun x14 h14 =>
 @wkM [x14, (nthA s8 1), (nthA s8 2)] h14 ⟨J8⟩))
 (retW (.v Value.nilIface) h9 Q)⟩
theorem D_impl_Program_fault_eq (a0 : AVal) (h : AHeap) (Q : KA) : adFn Tryz.prog ⟨fun _ => ⟨[], [], .nil⟩, fun _ => none, fun i => bif Nat.beq i 2 then [18, 16, 17] else [], []⟩ Tryz.f42 [a0] h Q = D_impl_Program_fault a0 h Q := by kernel_rfl
theorem D_impl_Program_fault_of {a0 : AVal} {h : AHeap} {Q : KA} (hd : D_impl_Program_fault a0 h Q) : callM Tryz.prog 42 [a0] h Q := callM_of (fn := Tryz.f42) Tryz.func42 (Nat.le_of_ble_eq_true (by kernel_rfl)) ((D_impl_Program_fault_eq a0 h Q).symm ▸ hd)
theorem fn_impl_Program_fault : fnT Tryz.prog 42 = true := by kernel_rfl
/- (*impl.Program).funcsFault; J18: _27 p _26; J72: p _26 _27 _114; J42: p _26 _27 f i bad; J24: p _26 _27 f i bad; J1: p _19 -/
def D_impl_Program_funcsFault (a0 : AVal) (h : AHeap) (Q : KA) : Prop :=
 @jnM ⟨fun J1 =>
 nilChkM a0 h fun x2 h2 =>
 fldAddrM Tryz.prog 35 x2 2 h2 fun x3 h3 =>
 loadM Tryz.prog 32 x3 h3 fun x4 h4 =>
 lenM Tryz.prog 32 x4 h4 fun x5 h5 =>
 binM Tryz.prog .eql 3 x5 (i64 0) h5 fun x6 h6 =>
 gdM x6
 (@wkM [a0, tt] h6 ⟨J1⟩)
 (nilChkM a0 h6 fun x7 h7 =>
 fldAddrM Tryz.prog 35 x7 2 h7 fun x8 h8 =>
 loadM Tryz.prog 32 x8 h8 fun x9 h9 =>
 lenM Tryz.prog 32 x9 h9 fun x10 h10 =>
 binM Tryz.prog .gtr 3 x10 (i64 32) h10 fun x11 h11 =>
 @wkM [a0, x11] h11 ⟨J1⟩)⟩
 ⟨fun s1 h1 =>
 gdM (nthA s1 1)
 (buildM Tryz.prog 195 [(0, (i64 3))] h1 fun x12 h12 =>
 mkIfM Tryz.prog 195 x12 h12 fun x13 h13 =>
 retW x13 h13 Q)
 (nilChkM (nthA s1 0) h1 fun x14 h14 =>
 fldAddrM Tryz.prog 35 x14 2 h14 fun x15 h15 =>
 loadM Tryz.prog 32 x15 h15 fun x16 h16 =>
 lenM Tryz.prog 32 x16 h16 fun x17 h17 =>
 @lpM [(i64 0), (nthA s1 0), x17] h17 ⟨fun s18 h18 J18 =>
 binM Tryz.prog .lss 3 (nthA s18 0) (nthA s18 2) h18 fun x19 h19 =>
 gdM x19
 (nilChkM (nthA s18 1) h19 fun x20 h20 =>
 fldAddrM Tryz.prog 35 x20 2 h20 fun x21 h21 =>
 loadM Tryz.prog 32 x21 h21 fun x22 h22 =>
 ixAddrM Tryz.prog 32 x22 (nthA s18 0) h22 fun x23 h23 =>
 @jnM ⟨fun J24 =>
 nilChkM x23 h23 fun x25 h25 =>
 fldAddrM Tryz.prog 79 x25 0 h25 fun x26 h26 =>
 loadM Tryz.prog 72 x26 h26 fun x27 h27 =>
 lenM Tryz.prog 72 x27 h27 fun x28 h28 =>
 binM Tryz.prog .gtr 3 x28 (i64 8) h28 fun x29 h29 =>
 gdM x29
 (@wkM [(nthA s18 1), (nthA s18 2), (nthA s18 0), x23, (nthA s18 0), tt] h29 ⟨J24⟩)
 (@clM Tryz.prog 127 [x23] h29 ⟨fun x30 h30 =>
 binM Tryz.prog .gtr 3 x30 (i64 32) h30 fun x31 h31 =>
 gdM x31
 (@wkM [(nthA s18 1), (nthA s18 2), (nthA s18 0), x23, (nthA s18 0), tt] h31 ⟨J24⟩)
 (nilChkM x23 h31 fun x32 h32 =>
 fldAddrM Tryz.prog 79 x32 0 h32 fun x33 h33 =>
 loadM Tryz.prog 72 x33 h33 fun x34 h34 =>
 @clM Tryz.prog 125 [x34] h34 ⟨fun x35 h35 =>
 unM .not x35 h35 fun x36 h36 =>
 gdM x36
 (@wkM [(nthA s18 1), (nthA s18 2), (nthA s18 0), x23, (nthA s18 0), tt] h36 ⟨J24⟩)
 (nilChkM x23 h36 fun x37 h37 =>
 fldAddrM Tryz.prog 79 x37 2 h37 fun x38 h38 =>
 loadM Tryz.prog 72 x38 h38 fun x39 h39 =>
 @clM Tryz.prog 125 [x39] h39 ⟨fun x40 h40 =>
 unM .not x40 h40 fun x41 h41 =>
 @wkM [(nthA s18 1), (nthA s18 2), (nthA s18 0), x23, (nthA s18 0), x41] h41 ⟨J24⟩⟩)⟩)⟩)⟩
 ⟨fun s24 h24 =>
 @jnM ⟨fun J42 =>
 gdM (nthA s24 5)
 (@wkM [(nthA s24 0), (nthA s24 1), (nthA s24 2), (nthA s24 3), (nthA s24 4), tt] h24 ⟨J42⟩)
 (nilChkM (nthA s24 3) h24 fun x43 h43 =>
 fldAddrM Tryz.prog 79 x43 1 h43 fun x44 h44 =>
 loadM Tryz.prog 2 x44 h44 fun x45 h45 =>
 binM Tryz.prog .neq 2 x45 (i64 0) h45 fun x46 h46 =>
 gdM x46
 (nilChkM (nthA s24 3) h46 fun x47 h47 =>
 fldAddrM Tryz.prog 79 x47 1 h47 fun x48 h48 =>
 loadM Tryz.prog 2 x48 h48 fun x49 h49 =>
 @clM Tryz.prog 126 [x49] h49 ⟨fun x50 h50 =>
 unM .not x50 h50 fun x51 h51 =>
 gdM x51
 (@wkM [(nthA s24 0), (nthA s24 1), (nthA s24 2), (nthA s24 3), (nthA s24 4), tt] h51 ⟨J42⟩)
 (nilChkM (nthA s24 3) h51 fun x52 h52 =>
 fldAddrM Tryz.prog 79 x52 3 h52 fun x53 h53 =>
 loadM Tryz.prog 77 x53 h53 fun x54 h54 =>
 lenM Tryz.prog 77 x54 h54 fun x55 h55 =>
 binM Tryz.prog .eql 3 x55 (i64 0) h55 fun x56 h56 =>
 gdM x56
 (@wkM [(nthA s24 0), (nthA s24 1), (nthA s24 2), (nthA s24 3), (nthA s24 4), tt] h56 ⟨J42⟩)
 (nilChkM (nthA s24 3) h56 fun x57 h57 =>
 fldAddrM Tryz.prog 79 x57 3 h57 fun x58 h58 =>
 loadM Tryz.prog 77 x58 h58 fun x59 h59 =>
 lenM Tryz.prog 77 x59 h59 fun x60 h60 =>
 binM Tryz.prog .gtr 3 x60 (i64 1024) h60 fun x61 h61 =>
 @wkM [(nthA s24 0), (nthA s24 1), (nthA s24 2), (nthA s24 3), (nthA s24 4), x61] h61 ⟨J42⟩))⟩)
 (nilChkM (nthA s24 3) h46 fun x62 h62 =>
 fldAddrM Tryz.prog 79 x62 3 h62 fun x63 h63 =>
 loadM Tryz.prog 77 x63 h63 fun x64 h64 =>
 lenM Tryz.prog 77 x64 h64 fun x65 h65 =>
 binM Tryz.prog .eql 3 x65 (i64 0) h65 fun x66 h66 =>
 gdM x66
 (@wkM [(nthA s24 0), (nthA s24 1), (nthA s24 2), (nthA s24 3), (nthA s24 4), tt] h66 ⟨J42⟩)
 (nilChkM (nthA s24 3) h66 fun x67 h67 =>
 fldAddrM Tryz.prog 79 x67 3 h67 fun x68 h68 =>
 loadM Tryz.prog 77 x68 h68 fun x69 h69 =>
 lenM Tryz.prog 77 x69 h69 fun x70 h70 =>
 binM Tryz.prog .gtr 3 x70 (i64 1024) h70 fun x71 h71 =>
 @wkM [(nthA s24 0), (nthA s24 1), (nthA s24 2), (nthA s24 3), (nthA s24 4), x71] h71 ⟨J42⟩)))⟩
 ⟨fun s42 h42 =>
 @jnM ⟨fun J72 =>
 gdM (nthA s42 5)
 (@wkM [(nthA s42 0), (nthA s42 1), (nthA s42 2), tt] h42 ⟨J72⟩)
 (binM Tryz.prog .eql 3 (nthA s42 4) (i64 0) h42 fun x73 h73 =>
 gdM x73
 (nilChkM (nthA s42 3) h73 fun x74 h74 =>
 fldAddrM Tryz.prog 79 x74 0 h74 fun x75 h75 =>
 loadM Tryz.prog 72 x75 h75 fun x76 h76 =>
 lenM Tryz.prog 72 x76 h76 fun x77 h77 =>
 binM Tryz.prog .gtr 3 x77 (i64 0) h77 fun x78 h78 =>
 gdM x78
 (@wkM [(nthA s42 0), (nthA s42 1), (nthA s42 2), tt] h78 ⟨J72⟩)
 (nilChkM (nthA s42 3) h78 fun x79 h79 =>
 fldAddrM Tryz.prog 79 x79 1 h79 fun x80 h80 =>
 loadM Tryz.prog 2 x80 h80 fun x81 h81 =>
 binM Tryz.prog .neq 2 x81 (i64 0) h81 fun x82 h82 =>
 @wkM [(nthA s42 0), (nthA s42 1), (nthA s42 2), x82] h82 ⟨J72⟩))
 (@wkM [(nthA s42 0), (nthA s42 1), (nthA s42 2), ff] h73 ⟨J72⟩))⟩
 ⟨fun s72 h72 =>
 gdM (nthA s72 3)
 (buildM Tryz.prog 195 [(0, (i64 3))] h72 fun x83 h83 =>
 mkIfM Tryz.prog 195 x83 h83 fun x84 h84 =>
 retW x84 h84 Q)
 (binM Tryz.prog .add 3 (nthA s72 2) (i64 1) h72 fun x85 h85 =>
 @wkM [x85, (nthA s72 0), (nthA s72 1)] h85 ⟨J18⟩)⟩⟩⟩)
 (retW (.v Value.nilIface) h19 Q)⟩)⟩
theorem D_impl_Program_funcsFault_eq (a0 : AVal) (h : AHeap) (Q : KA) : adFn Tryz.prog ⟨fun _ => ⟨[], [], .nil⟩, fun i => bif Nat.beq i 2 then some [0, 19] else bif Nat.beq i 8 then some [0, 26, 27, 4, 3, 5] else bif Nat.beq i 9 then some [0, 26, 27, 4, 3, 5] else bif Nat.beq i 10 then some [0, 26, 27, 114] else none, fun i => bif Nat.beq i 4 then [27, 0, 26] else [], []⟩ Tryz.f90 [a0] h Q = D_impl_Program_funcsFault a0 h Q := by kernel_rfl
theorem D_impl_Program_funcsFault_of {a0 : AVal} {h : AHeap} {Q : KA} (hd : D_impl_Program_funcsFault a0 h Q) : callM Tryz.prog 90 [a0] h Q := callM_of (fn := Tryz.f90) Tryz.func90 (Nat.le_of_ble_eq_true (by kernel_rfl)) ((D_impl_Program_funcsFault_eq a0 h Q).symm ▸ hd)
theorem fn_impl_Program_funcsFault : fnT Tryz.prog 90 = true := by kernel_rfl
/- (*impl.Program).instrFits; J103: p in _105 _128; J92: p in _105 f _118; J62: p in f form _104; J26: p in f form _85; J22: p in f form usesC usesB usesA; J18: p in f form usesB usesA; J15: p in f form usesA; J1: p in f _22 -/
def or_impl_Program_instrFits_9 : DR := ⟨[0, 1, 2, 4, 12, 20, 36, 64, 192, 320, 576, 64, 2112, 4160, 8256, 16448, 33856, 65600, 131136], [0, 1, 3, 7, 15, 31, 63, 127, 255, 511, 1023, 127, 2175, 6271, 14463, 30847, 65535, 131071, 262143], (.one 0 (.one 1 (.one 2 (.one 3 (.one 4 (.one 5 (.one 6 (.one 7 (.one 8 (.one 9 (.one 10 (.one 11 (.one 12 (.one 13 (.one 14 (.one 15 (.one 16 (.one 17 (.one 18 .nil)))))))))))))))))))⟩
@[simp] theorem dr_impl_Program_instrFits_9 : drawnOK Tryz.prog [] (regOps Tryz.f128 9) or_impl_Program_instrFits_9 = True := eq_true ⟨by kernel_rfl, by kernel_rfl⟩
def or_impl_Program_instrFits_13 : DR := ⟨[0, 1, 2, 4, 0, 16, 32, 64, 128, 264, 1023], [0, 1, 3, 7, 0, 16, 48, 112, 240, 511, 1023], (.one 0 (.one 1 (.one 2 (.one 3 (.one 4 (.one 5 (.one 6 (.one 7 (.one 8 (.one 9 (.one 10 .nil)))))))))))⟩
@[simp] theorem dr_impl_Program_instrFits_13 : drawnOK Tryz.prog [] (regOps Tryz.f128 13) or_impl_Program_instrFits_13 = True := eq_true ⟨by kernel_rfl, by kernel_rfl⟩
def or_impl_Program_instrFits_16 : DR := ⟨[0, 1, 2, 4, 0, 16, 40, 127], [0, 1, 3, 7, 0, 16, 63, 127], (.one 0 (.one 1 (.one 2 (.one 4 (.or (.one 3 (.one 5 (.one 6 (.one 7 .nil)))) (.one 5 (.one 3 (.one 6 (.one 7 .nil)))))))))⟩
@[simp] theorem dr_impl_Program_instrFits_16 : drawnOK Tryz.prog [] (regOps Tryz.f128 16) or_impl_Program_instrFits_16 = True := eq_true ⟨by kernel_rfl, by kernel_rfl⟩
def or_impl_Program_instrFits_27 : DR := ⟨[0, 1, 2, 4, 8, 16, 32, 96, 160, 288, 544, 1056, 3072, 4096, 12288, 20480, 36864, 4096, 135168, 266240, 528384, 1118208, 2101248, 8388607], [0, 1, 3, 7, 15, 31, 63, 127, 255, 511, 1023, 2047, 4095, 8191, 16383, 32767, 65535, 8191, 139263, 401407, 925695, 2097151, 4194303, 8388607], (.one 0 (.one 1 (.one 2 (.one 3 (.one 4 (.one 5 (.one 6 (.one 7 (.one 8 (.one 9 (.one 10 (.one 11 (.one 12 (.one 13 (.one 14 (.one 15 (.one 16 (.one 17 (.one 18 (.one 19 (.one 20 (.one 21 (.one 22 (.one 23 .nil))))))))))))))))))))))))⟩
@[simp] theorem dr_impl_Program_instrFits_27 : drawnOK Tryz.prog [] (regOps Tryz.f128 27) or_impl_Program_instrFits_27 = True := eq_true ⟨by kernel_rfl, by kernel_rfl⟩
def or_impl_Program_instrFits_29 : DR := ⟨[0, 1, 2, 4, 0, 16, 32, 64, 128, 264, 1023], [0, 1, 3, 7, 0, 16, 48, 112, 240, 511, 1023], (.one 0 (.one 1 (.one 2 (.one 3 (.one 4 (.one 5 (.one 6 (.one 7 (.one 8 (.one 9 (.one 10 .nil)))))))))))⟩
@[simp] theorem dr_impl_Program_instrFits_29 : drawnOK Tryz.prog [] (regOps Tryz.f128 29) or_impl_Program_instrFits_29 = True := eq_true ⟨by kernel_rfl, by kernel_rfl⟩
def D_impl_Program_instrFits (a0 a1 a2 : AVal) (h : AHeap) (Q : KA) : Prop :=
 @jnM ⟨fun J1 =>
 nilChkM a2 h fun x2 h2 =>
 fldAddrM Tryz.prog 81 x2 0 h2 fun x3 h3 =>
 loadM Tryz.prog 2 x3 h3 fun x4 h4 =>
 binM Tryz.prog .lss 2 x4 (i64 0) h4 fun x5 h5 =>
 gdM x5
 (@wkM [a0, a2, a1, tt] h5 ⟨J1⟩)
 (nilChkM a2 h5 fun x6 h6 =>
 fldAddrM Tryz.prog 81 x6 0 h6 fun x7 h7 =>
 loadM Tryz.prog 2 x7 h7 fun x8 h8 =>
 binM Tryz.prog .gtr 2 x8 (i64 29) h8 fun x9 h9 =>
 @wkM [a0, a2, a1, x9] h9 ⟨J1⟩)⟩
 ⟨fun s1 h1 =>
 gdM (nthA s1 3)
 (retW ff h1 Q)
 (nilChkM (nthA s1 1) h1 fun x10 h10 =>
 fldAddrM Tryz.prog 81 x10 0 h10 fun x11 h11 =>
 loadM Tryz.prog 2 x11 h11 fun x12 h12 =>
 @clM Tryz.prog 141 [x12] h12 ⟨fun x13 h13 =>
 fieldM Tryz.prog 187 x13 2 h13 fun x14 h14 =>
 @jnM ⟨fun J15 =>
 binM Tryz.prog .neq 2 x14 (i64 0) h14 fun x16 h16 =>
 gdM x16
 (binM Tryz.prog .neq 2 x14 (i64 9) h16 fun x17 h17 =>
 @wkM [(nthA s1 0), (nthA s1 1), (nthA s1 2), x14, x17] h17 ⟨J15⟩)
 (@wkM [(nthA s1 0), (nthA s1 1), (nthA s1 2), x14, ff] h16 ⟨J15⟩)⟩
 ⟨fun s15 h15 =>
 @jnM ⟨fun J18 =>
 binM Tryz.prog .eql 2 (nthA s15 3) (i64 3) h15 fun x19 h19 =>
 gdM x19
 (@wkM [(nthA s15 0), (nthA s15 1), (nthA s15 2), (nthA s15 3), tt, (nthA s15 4)] h19 ⟨J18⟩)
 (binM Tryz.prog .eql 2 (nthA s15 3) (i64 4) h19 fun x20 h20 =>
 gdM x20
 (@wkM [(nthA s15 0), (nthA s15 1), (nthA s15 2), (nthA s15 3), tt, (nthA s15 4)] h20 ⟨J18⟩)
 (binM Tryz.prog .eql 2 (nthA s15 3) (i64 8) h20 fun x21 h21 =>
 @wkM [(nthA s15 0), (nthA s15 1), (nthA s15 2), (nthA s15 3), x21, (nthA s15 4)] h21 ⟨J18⟩))⟩
 ⟨fun s18 h18 =>
 @jnM ⟨fun J22 =>
 binM Tryz.prog .eql 2 (nthA s18 3) (i64 4) h18 fun x23 h23 =>
 gdM x23
 (@wkM [(nthA s18 0), (nthA s18 1), (nthA s18 2), (nthA s18 3), tt, (nthA s18 4), (nthA s18 5)] h23 ⟨J22⟩)
 (binM Tryz.prog .eql 2 (nthA s18 3) (i64 9) h23 fun x24 h24 =>
 gdM x24
 (@wkM [(nthA s18 0), (nthA s18 1), (nthA s18 2), (nthA s18 3), tt, (nthA s18 4), (nthA s18 5)] h24 ⟨J22⟩)
 (binM Tryz.prog .eql 2 (nthA s18 3) (i64 10) h24 fun x25 h25 =>
 @wkM [(nthA s18 0), (nthA s18 1), (nthA s18 2), (nthA s18 3), x25, (nthA s18 4), (nthA s18 5)] h25 ⟨J22⟩))⟩
 ⟨fun s22 h22 =>
 @jnM ⟨fun J26 =>
 unM .not (nthA s22 6) h22 fun x27 h27 =>
 gdM x27
 (nilChkM (nthA s22 1) h27 fun x28 h28 =>
 fldAddrM Tryz.prog 81 x28 1 h28 fun x29 h29 =>
 loadM Tryz.prog 2 x29 h29 fun x30 h30 =>
 binM Tryz.prog .neq 2 x30 (i64 0) h30 fun x31 h31 =>
 gdM x31
 (@wkM [(nthA s22 0), (nthA s22 1), (nthA s22 2), (nthA s22 3), tt] h31 ⟨J26⟩)
 (unM .not (nthA s22 5) h31 fun x32 h32 =>
 gdM x32
 (nilChkM (nthA s22 1) h32 fun x33 h33 =>
 fldAddrM Tryz.prog 81 x33 2 h33 fun x34 h34 =>
 loadM Tryz.prog 2 x34 h34 fun x35 h35 =>
 binM Tryz.prog .neq 2 x35 (i64 0) h35 fun x36 h36 =>
 gdM x36
 (@wkM [(nthA s22 0), (nthA s22 1), (nthA s22 2), (nthA s22 3), tt] h36 ⟨J26⟩)
 (unM .not (nthA s22 4) h36 fun x37 h37 =>
 gdM x37
 (nilChkM (nthA s22 1) h37 fun x38 h38 =>
 fldAddrM Tryz.prog 81 x38 3 h38 fun x39 h39 =>
 loadM Tryz.prog 2 x39 h39 fun x40 h40 =>
 binM Tryz.prog .neq 2 x40 (i64 0) h40 fun x41 h41 =>
 @wkM [(nthA s22 0), (nthA s22 1), (nthA s22 2), (nthA s22 3), x41] h41 ⟨J26⟩)
 (@wkM [(nthA s22 0), (nthA s22 1), (nthA s22 2), (nthA s22 3), ff] h37 ⟨J26⟩)))
 (unM .not (nthA s22 4) h32 fun x42 h42 =>
 gdM x42
 (nilChkM (nthA s22 1) h42 fun x43 h43 =>
 fldAddrM Tryz.prog 81 x43 3 h43 fun x44 h44 =>
 loadM Tryz.prog 2 x44 h44 fun x45 h45 =>
 binM Tryz.prog .neq 2 x45 (i64 0) h45 fun x46 h46 =>
 @wkM [(nthA s22 0), (nthA s22 1), (nthA s22 2), (nthA s22 3), x46] h46 ⟨J26⟩)
 (@wkM [(nthA s22 0), (nthA s22 1), (nthA s22 2), (nthA s22 3), ff] h42 ⟨J26⟩))))
 (unM .not (nthA s22 5) h27 fun x47 h47 =>
 gdM x47
 (nilChkM (nthA s22 1) h47 fun x48 h48 =>
 fldAddrM Tryz.prog 81 x48 2 h48 fun x49 h49 =>
 loadM Tryz.prog 2 x49 h49 fun x50 h50 =>
 binM Tryz.prog .neq 2 x50 (i64 0) h50 fun x51 h51 =>
 gdM x51
 (@wkM [(nthA s22 0), (nthA s22 1), (nthA s22 2), (nthA s22 3), tt] h51 ⟨J26⟩)
 (unM .not (nthA s22 4) h51 fun x52 h52 =>
 gdM x52
 (nilChkM (nthA s22 1) h52 fun x53 h53 =>
 fldAddrM Tryz.prog 81 x53 3 h53 fun x54 h54 =>
 loadM Tryz.prog 2 x54 h54 fun x55 h55 =>
 binM Tryz.prog .neq 2 x55 (i64 0) h55 fun x56 h56 =>
 @wkM [(nthA s22 0), (nthA s22 1), (nthA s22 2), (nthA s22 3), x56] h56 ⟨J26⟩)
 (@wkM [(nthA s22 0), (nthA s22 1), (nthA s22 2), (nthA s22 3), ff] h52 ⟨J26⟩)))
 (unM .not (nthA s22 4) h47 fun x57 h57 =>
 gdM x57
 (nilChkM (nthA s22 1) h57 fun x58 h58 =>
 fldAddrM Tryz.prog 81 x58 3 h58 fun x59 h59 =>
 loadM Tryz.prog 2 x59 h59 fun x60 h60 =>
 binM Tryz.prog .neq 2 x60 (i64 0) h60 fun x61 h61 =>
 @wkM [(nthA s22 0), (nthA s22 1), (nthA s22 2), (nthA s22 3), x61] h61 ⟨J26⟩)
 (@wkM [(nthA s22 0), (nthA s22 1), (nthA s22 2), (nthA s22 3), ff] h57 ⟨J26⟩)))⟩
 ⟨fun s26 h26 =>
 gdM (nthA s26 4)
 (retW ff h26 Q)
 (@jnM ⟨fun J62 =>
 And (drawnOK Tryz.prog [] (regOps Tryz.f128 9) or_impl_Program_instrFits_9) (binM Tryz.prog .eql 2 (nthA s26 3) (i64 9) h26 fun x63 h63 =>
 gdM x63
 (nilChkM (nthA s26 1) h63 fun x64 h64 =>
 fldAddrM Tryz.prog 81 x64 3 h64 fun x65 h65 =>
 loadM Tryz.prog 2 x65 h65 fun x66 h66 =>
 nilChkM (nthA s26 2) h66 fun x67 h67 =>
 fldAddrM Tryz.prog 79 x67 3 h67 fun x68 h68 =>
 loadM Tryz.prog 77 x68 h68 fun x69 h69 =>
 lenM Tryz.prog 77 x69 h69 fun x70 h70 =>
 @clM Tryz.prog 129 [x66, x70] h70 ⟨fun x71 h71 =>
 unM .not x71 h71 fun x72 h72 =>
 @wkM [(nthA s26 0), (nthA s26 1), (nthA s26 2), (nthA s26 3), x72] h72 ⟨J62⟩⟩)
 (binM Tryz.prog .eql 2 (nthA s26 3) (i64 10) h63 fun x73 h73 =>
 gdM x73
 (nilChkM (nthA s26 1) h73 fun x74 h74 =>
 fldAddrM Tryz.prog 81 x74 3 h74 fun x75 h75 =>
 loadM Tryz.prog 2 x75 h75 fun x76 h76 =>
 nilChkM (nthA s26 2) h76 fun x77 h77 =>
 fldAddrM Tryz.prog 79 x77 3 h77 fun x78 h78 =>
 loadM Tryz.prog 77 x78 h78 fun x79 h79 =>
 lenM Tryz.prog 77 x79 h79 fun x80 h80 =>
 @clM Tryz.prog 129 [x76, x80] h80 ⟨fun x81 h81 =>
 unM .not x81 h81 fun x82 h82 =>
 @wkM [(nthA s26 0), (nthA s26 1), (nthA s26 2), (nthA s26 3), x82] h82 ⟨J62⟩⟩)
 (@wkM [(nthA s26 0), (nthA s26 1), (nthA s26 2), (nthA s26 3), ff] h73 ⟨J62⟩)))⟩
 ⟨fun s62 h62 =>
 gdM (nthA s62 4)
 (retW ff h62 Q)
 (binM Tryz.prog .eql 2 (nthA s62 3) (i64 1) h62 fun x83 h83 =>
 gdM x83
 (And (drawnOK Tryz.prog [] (regOps Tryz.f128 13) or_impl_Program_instrFits_13) (nilChkM (nthA s62 1) h83 fun x84 h84 =>
 fldAddrM Tryz.prog 81 x84 1 h84 fun x85 h85 =>
 loadM Tryz.prog 2 x85 h85 fun x86 h86 =>
 nilChkM (nthA s62 0) h86 fun x87 h87 =>
 fldAddrM Tryz.prog 35 x87 1 h87 fun x88 h88 =>
 loadM Tryz.prog 31 x88 h88 fun x89 h89 =>
 lenM Tryz.prog 31 x89 h89 fun x90 h90 =>
 @clM Tryz.prog 129 [x86, x90] h90 ⟨fun x91 h91 =>
 retW x91 h91 Q⟩))
 (@jnM ⟨fun J92 =>
 binM Tryz.prog .eql 2 (nthA s62 3) (i64 2) h83 fun x93 h93 =>
 gdM x93
 (@wkM [(nthA s62 0), (nthA s62 1), (nthA s62 3), (nthA s62 2), x93] h93 ⟨J92⟩)
 (binM Tryz.prog .eql 2 (nthA s62 3) (i64 10) h93 fun x94 h94 =>
 @wkM [(nthA s62 0), (nthA s62 1), (nthA s62 3), (nthA s62 2), x94] h94 ⟨J92⟩)⟩
 ⟨fun s92 h92 =>
 gdM (nthA s92 4)
 (And (drawnOK Tryz.prog [] (regOps Tryz.f128 16) or_impl_Program_instrFits_16) (nilChkM (nthA s92 1) h92 fun x95 h95 =>
 fldAddrM Tryz.prog 81 x95 1 h95 fun x96 h96 =>
 And (loadM Tryz.prog 2 x96 h96 fun x97 h97 =>
 @clM Tryz.prog 127 [(nthA s92 3)] h97 ⟨fun x98 h98 =>
 @clM Tryz.prog 129 [x97, x98] h98 ⟨fun x99 h99 =>
 retW x99 h99 Q⟩⟩)
 (@clM Tryz.prog 127 [(nthA s92 3)] h96 ⟨fun x100 h100 =>
 loadM Tryz.prog 2 x96 h100 fun x101 h101 =>
 @clM Tryz.prog 129 [x101, x100] h101 ⟨fun x102 h102 =>
 retW x102 h102 Q⟩⟩)))
 (@jnM ⟨fun J103 =>
 binM Tryz.prog .eql 2 (nthA s92 2) (i64 3) h92 fun x104 h104 =>
 gdM x104
 (@wkM [(nthA s92 0), (nthA s92 1), (nthA s92 2), x104] h104 ⟨J103⟩)
 (binM Tryz.prog .eql 2 (nthA s92 2) (i64 4) h104 fun x105 h105 =>
 @wkM [(nthA s92 0), (nthA s92 1), (nthA s92 2), x105] h105 ⟨J103⟩)⟩
 ⟨fun s103 h103 =>
 gdM (nthA s103 3)
 (@clM Tryz.prog 142 [(nthA s103 0), (nthA s103 1)] h103 ⟨fun x106 h106 =>
 retW x106 h106 Q⟩)
 (binM Tryz.prog .eql 2 (nthA s103 2) (i64 5) h103 fun x107 h107 =>
 gdM x107
 (nilChkM (nthA s103 1) h107 fun x108 h108 =>
 fldAddrM Tryz.prog 81 x108 1 h108 fun x109 h109 =>
 loadM Tryz.prog 2 x109 h109 fun x110 h110 =>
 @clM Tryz.prog 143 [x110] h110 ⟨fun x111 h111 =>
 retW x111 h111 Q⟩)
 (binM Tryz.prog .eql 2 (nthA s103 2) (i64 6) h107 fun x112 h112 =>
 gdM x112
 (nilChkM (nthA s103 1) h112 fun x113 h113 =>
 fldAddrM Tryz.prog 81 x113 1 h113 fun x114 h114 =>
 loadM Tryz.prog 2 x114 h114 fun x115 h115 =>
 @clM Tryz.prog 144 [x115] h115 ⟨fun x116 h116 =>
 retW x116 h116 Q⟩)
 (binM Tryz.prog .eql 2 (nthA s103 2) (i64 7) h112 fun x117 h117 =>
 gdM x117
 (nilChkM (nthA s103 1) h117 fun x118 h118 =>
 fldAddrM Tryz.prog 81 x118 1 h118 fun x119 h119 =>
 loadM Tryz.prog 2 x119 h119 fun x120 h120 =>
 @clM Tryz.prog 126 [x120] h120 ⟨fun x121 h121 =>
 retW x121 h121 Q⟩)
 (binM Tryz.prog .eql 2 (nthA s103 2) (i64 8) h117 fun x122 h122 =>
 gdM x122
 (And (drawnOK Tryz.prog [] (regOps Tryz.f128 27) or_impl_Program_instrFits_27) (nilChkM (nthA s103 1) h122 fun x123 h123 =>
 fldAddrM Tryz.prog 81 x123 1 h123 fun x124 h124 =>
 loadM Tryz.prog 2 x124 h124 fun x125 h125 =>
 @clM Tryz.prog 126 [x125] h125 ⟨fun x126 h126 =>
 gdM x126
 (nilChkM (nthA s103 1) h126 fun x127 h127 =>
 fldAddrM Tryz.prog 81 x127 2 h127 fun x128 h128 =>
 loadM Tryz.prog 2 x128 h128 fun x129 h129 =>
 @clM Tryz.prog 126 [x129] h129 ⟨fun x130 h130 =>
 gdM x130
 (nilChkM (nthA s103 1) h130 fun x131 h131 =>
 fldAddrM Tryz.prog 81 x131 1 h131 fun x132 h132 =>
 loadM Tryz.prog 2 x132 h132 fun x133 h133 =>
 nilChkM (nthA s103 1) h133 fun x134 h134 =>
 fldAddrM Tryz.prog 81 x134 2 h134 fun x135 h135 =>
 loadM Tryz.prog 2 x135 h135 fun x136 h136 =>
 binM Tryz.prog .neq 2 x133 x136 h136 fun x137 h137 =>
 retW x137 h137 Q)
 (retW ff h130 Q)⟩)
 (retW ff h126 Q)⟩))
 (binM Tryz.prog .eql 2 (nthA s103 2) (i64 11) h122 fun x138 h138 =>
 gdM x138
 (And (drawnOK Tryz.prog [] (regOps Tryz.f128 29) or_impl_Program_instrFits_29) (nilChkM (nthA s103 1) h138 fun x139 h139 =>
 fldAddrM Tryz.prog 81 x139 1 h139 fun x140 h140 =>
 loadM Tryz.prog 2 x140 h140 fun x141 h141 =>
 nilChkM (nthA s103 0) h141 fun x142 h142 =>
 fldAddrM Tryz.prog 35 x142 2 h142 fun x143 h143 =>
 loadM Tryz.prog 32 x143 h143 fun x144 h144 =>
 lenM Tryz.prog 32 x144 h144 fun x145 h145 =>
 @clM Tryz.prog 129 [x141, x145] h145 ⟨fun x146 h146 =>
 retW x146 h146 Q⟩))
 (retW tt h138 Q))))))⟩)⟩))⟩)⟩⟩⟩⟩⟩)⟩
theorem D_impl_Program_instrFits_eq (a0 a1 a2 : AVal) (h : AHeap) (Q : KA) : adFn Tryz.prog ⟨fun i => bif Nat.beq i 9 then or_impl_Program_instrFits_9 else bif Nat.beq i 13 then or_impl_Program_instrFits_13 else bif Nat.beq i 16 then or_impl_Program_instrFits_16 else bif Nat.beq i 27 then or_impl_Program_instrFits_27 else bif Nat.beq i 29 then or_impl_Program_instrFits_29 else ⟨[], [], .nil⟩, fun i => bif Nat.beq i 2 then some [0, 2, 1, 22] else bif Nat.beq i 5 then some [0, 2, 1, 7, 8] else bif Nat.beq i 6 then some [0, 2, 1, 7, 9, 8] else bif Nat.beq i 7 then some [0, 2, 1, 7, 10, 9, 8] else bif Nat.beq i 8 then some [0, 2, 1, 7, 85] else bif Nat.beq i 10 then some [0, 2, 1, 7, 104] else bif Nat.beq i 16 then some [0, 2, 105, 1, 118] else bif Nat.beq i 19 then some [0, 2, 105, 128] else none, fun _ => [], []⟩ Tryz.f128 [a0, a1, a2] h Q = D_impl_Program_instrFits a0 a1 a2 h Q := by kernel_rfl
theorem D_impl_Program_instrFits_of {a0 a1 a2 : AVal} {h : AHeap} {Q : KA} (hd : D_impl_Program_instrFits a0 a1 a2 h Q) : callM Tryz.prog 128 [a0, a1, a2] h Q := callM_of (fn := Tryz.f128) Tryz.func128 (Nat.le_of_ble_eq_true (by kernel_rfl)) ((D_impl_Program_instrFits_eq a0 a1 a2 h Q).symm ▸ hd)
theorem fn_impl_Program_instrFits : fnT Tryz.prog 128 = true := by kernel_rfl
/- (*impl.Program).regionsFault; J12: _18 _16 _17; J16: _16 _17 _18 _29 -/
def D_impl_Program_regionsFault (a0 : AVal) (h : AHeap) (Q : KA) : Prop :=
 nilChkM a0 h fun x1 h1 =>
 fldAddrM Tryz.prog 35 x1 0 h1 fun x2 h2 =>
 loadM Tryz.prog 22 x2 h2 fun x3 h3 =>
 lenM Tryz.prog 22 x3 h3 fun x4 h4 =>
 binM Tryz.prog .neq 3 x4 (i64 3) h4 fun x5 h5 =>
 gdM x5
 (buildM Tryz.prog 195 [(0, (i64 1))] h5 fun x6 h6 =>
 mkIfM Tryz.prog 195 x6 h6 fun x7 h7 =>
 retW x7 h7 Q)
 (nilChkM a0 h5 fun x8 h8 =>
 fldAddrM Tryz.prog 35 x8 0 h8 fun x9 h9 =>
 loadM Tryz.prog 22 x9 h9 fun x10 h10 =>
 lenM Tryz.prog 22 x10 h10 fun x11 h11 =>
 @lpM [(i64 0), x10, x11] h11 ⟨fun s12 h12 J12 =>
 binM Tryz.prog .lss 3 (nthA s12 0) (nthA s12 2) h12 fun x13 h13 =>
 gdM x13
 (ixAddrM Tryz.prog 22 (nthA s12 1) (nthA s12 0) h13 fun x14 h14 =>
 loadM Tryz.prog 72 x14 h14 fun x15 h15 =>
 @jnM ⟨fun J16 =>
 lenM Tryz.prog 72 x15 h15 fun x17 h17 =>
 binM Tryz.prog .gtr 3 x17 (i64 256) h17 fun x18 h18 =>
 gdM x18
 (@wkM [(nthA s12 1), (nthA s12 2), (nthA s12 0), tt] h18 ⟨J16⟩)
 (@clM Tryz.prog 125 [x15] h18 ⟨fun x19 h19 =>
 unM .not x19 h19 fun x20 h20 =>
 @wkM [(nthA s12 1), (nthA s12 2), (nthA s12 0), x20] h20 ⟨J16⟩⟩)⟩
 ⟨fun s16 h16 =>
 gdM (nthA s16 3)
 (buildM Tryz.prog 195 [(0, (i64 1))] h16 fun x21 h21 =>
 mkIfM Tryz.prog 195 x21 h21 fun x22 h22 =>
 retW x22 h22 Q)
 (binM Tryz.prog .add 3 (nthA s16 2) (i64 1) h16 fun x23 h23 =>
 @wkM [x23, (nthA s16 0), (nthA s16 1)] h23 ⟨J12⟩)⟩)
 (retW (.v Value.nilIface) h13 Q)⟩)
theorem D_impl_Program_regionsFault_eq (a0 : AVal) (h : AHeap) (Q : KA) : adFn Tryz.prog ⟨fun _ => ⟨[], [], .nil⟩, fun i => bif Nat.beq i 7 then some [16, 17, 18, 29] else none, fun i => bif Nat.beq i 4 then [18, 16, 17] else [], []⟩ Tryz.f88 [a0] h Q = D_impl_Program_regionsFault a0 h Q := by kernel_rfl
theorem D_impl_Program_regionsFault_of {a0 : AVal} {h : AHeap} {Q : KA} (hd : D_impl_Program_regionsFault a0 h Q) : callM Tryz.prog 88 [a0] h Q := callM_of (fn := Tryz.f88) Tryz.func88 (Nat.le_of_ble_eq_true (by kernel_rfl)) ((D_impl_Program_regionsFault_eq a0 h Q).symm ▸ hd)
theorem fn_impl_Program_regionsFault : fnT Tryz.prog 88 = true := by kernel_rfl
/- (*impl.reader).function; J17: _2 f n r -/
def D_impl_reader_function [Pn : Pk] (a0 : AVal) (h : AHeap) (Q : KA) : Prop :=
 allocM Tryz.prog 79 h fun x1 h1 =>
 buildM Tryz.prog 79 [] h1 fun x2 h2 =>
 allocM Tryz.prog 79 h2 fun x3 h3 =>
 storeM Tryz.prog 79 x3 x2 h3 fun x4 h4 =>
 @clM Tryz.prog 134 [a0, (i64 1)] h4 ⟨fun x5 h5 =>
 @clM Tryz.prog 133 [a0, x5] h5 ⟨fun x6 h6 =>
 fldAddrM Tryz.prog 79 x3 0 h6 fun x7 h7 =>
 storeM Tryz.prog 72 x7 x6 h7 fun x8 h8 =>
 @clM Tryz.prog 134 [a0, (i64 1)] h8 ⟨fun x9 h9 =>
 fldAddrM Tryz.prog 79 x3 1 h9 fun x10 h10 =>
 storeM Tryz.prog 2 x10 x9 h10 fun x11 h11 =>
 @clM Tryz.prog 134 [a0, (i64 1)] h11 ⟨fun x12 h12 =>
 @clM Tryz.prog 133 [a0, x12] h12 ⟨fun x13 h13 =>
 fldAddrM Tryz.prog 79 x3 2 h13 fun x14 h14 =>
 storeM Tryz.prog 72 x14 x13 h14 fun x15 h15 =>
 @clM Tryz.prog 134 [a0, (i64 2)] h15 ⟨fun x16 h16 =>
 @lpM [x1, x3, x16, a0] h16 ⟨fun s17 h17 J17 =>
 binM Tryz.prog .gtr 2 (nthA s17 2) (i64 0) h17 fun x18 h18 =>
 gdM x18
 (@clM Tryz.prog 134 [(nthA s17 3), (i64 1)] h18 ⟨fun x19 h19 =>
 buildM Tryz.prog 81 [(0, x19)] h19 fun x20 h20 =>
 allocM Tryz.prog 81 h20 fun x21 h21 =>
 storeM Tryz.prog 81 x21 x20 h21 fun x22 h22 =>
 @clM Tryz.prog 134 [(nthA s17 3), (i64 1)] h22 ⟨fun x23 h23 =>
 fldAddrM Tryz.prog 81 x21 1 h23 fun x24 h24 =>
 storeM Tryz.prog 2 x24 x23 h24 fun x25 h25 =>
 @clM Tryz.prog 134 [(nthA s17 3), (i64 2)] h25 ⟨fun x26 h26 =>
 fldAddrM Tryz.prog 81 x21 2 h26 fun x27 h27 =>
 storeM Tryz.prog 2 x27 x26 h27 fun x28 h28 =>
 @clM Tryz.prog 134 [(nthA s17 3), (i64 4)] h28 ⟨fun x29 h29 =>
 fldAddrM Tryz.prog 81 x21 3 h29 fun x30 h30 =>
 storeM Tryz.prog 2 x30 x29 h30 fun x31 h31 =>
 fldAddrM Tryz.prog 79 (nthA s17 1) 3 h31 fun x32 h32 =>
 loadM Tryz.prog 77 x32 h32 fun x33 h33 =>
 loadM Tryz.prog 81 x21 h33 fun x34 h34 =>
 buildSliceM Tryz.prog 77 1 [(0, x34)] h34 fun x35 h35 =>
 appendM Tryz.prog 77 77 x33 x35 h35 fun x36 h36 =>
 fldAddrM Tryz.prog 79 (nthA s17 1) 3 h36 fun x37 h37 =>
 storeM Tryz.prog 77 x37 x36 h37 fun x38 h38 =>
 binM Tryz.prog .sub 2 (nthA s17 2) (i64 1) h38 fun x39 h39 =>
 @wkM [(nthA s17 0), (nthA s17 1), x39, (nthA s17 3)] h39 ⟨J17⟩⟩⟩⟩⟩)
 (loadM Tryz.prog 79 (nthA s17 1) h18 fun x40 h40 =>
 storeM Tryz.prog 79 (nthA s17 0) x40 h40 fun x41 h41 =>
 loadM Tryz.prog 79 (nthA s17 0) h41 fun x42 h42 =>
 retW x42 h42 Q)⟩⟩⟩⟩⟩⟩⟩
theorem D_impl_reader_function_eq [Pn : Pk] (a0 : AVal) (h : AHeap) (Q : KA) : adFn Tryz.prog ⟨fun _ => ⟨[], [], .nil⟩, fun _ => none, fun i => bif Nat.beq i 6 then [2, 3, 4, 0] else [], []⟩ Tryz.f135 [a0] h Q = D_impl_reader_function a0 h Q := by kernel_rfl
theorem D_impl_reader_function_of [Pn : Pk] {a0 : AVal} {h : AHeap} {Q : KA} (hd : D_impl_reader_function a0 h Q) : callM Tryz.prog 135 [a0] h Q := callM_of (fn := Tryz.f135) Tryz.func135 (Nat.le_of_ble_eq_true (by kernel_rfl)) ((D_impl_reader_function_eq a0 h Q).symm ▸ hd)
theorem fn_impl_reader_function : fnT Tryz.prog 135 = true := by kernel_rfl
/- (*impl.reader).get; J14: v n r; J1: v n r -/
def or_impl_reader_get_1 : DR := ⟨[0, 1, 2, 4, 0, 16, 32, 64, 0, 392, 0, 2047], [0, 1, 3, 7, 0, 16, 48, 112, 0, 511, 0, 2047], (.one 0 (.one 1 (.one 2 (.one 3 (.one 4 (.one 5 (.one 6 (.one 7 (.one 8 (.or (.one 9 (.one 10 (.one 11 .nil))) (.one 10 (.one 9 (.one 11 .nil)))))))))))))⟩
@[simp] theorem dr_impl_reader_get_1 : drawnOK Tryz.prog [] (regOps Tryz.f134 1) or_impl_reader_get_1 = True := eq_true ⟨by kernel_rfl, by kernel_rfl⟩
def D_impl_reader_get [Pn : Pk] (a0 a1 : AVal) (h : AHeap) (Q : KA) : Prop :=
 @jnM ⟨fun J1 =>
 And (drawnOK Tryz.prog [] (regOps Tryz.f134 1) or_impl_reader_get_1) (nilChkM a0 h fun x2 h2 =>
 fldAddrM Tryz.prog 114 x2 0 h2 fun x3 h3 =>
 loadM Tryz.prog 29 x3 h3 fun x4 h4 =>
 nilChkM a0 h4 fun x5 h5 =>
 fldAddrM Tryz.prog 114 x5 1 h5 fun x6 h6 =>
 loadM Tryz.prog 2 x6 h6 fun x7 h7 =>
 And (@clM Tryz.prog 56 [x4, x7, a1] h7 ⟨fun x8 h8 =>
 allocM Tryz.prog 106 h8 fun x9 h9 =>
 storeM Tryz.prog 106 x9 x8 h9 fun x10 h10 =>
 @wkM [x9, a1, a0] h10 ⟨J1⟩⟩)
 (allocM Tryz.prog 106 h7 fun x11 h11 =>
 @clM Tryz.prog 56 [x4, x7, a1] h11 ⟨fun x12 h12 =>
 storeM Tryz.prog 106 x11 x12 h12 fun x13 h13 =>
 @wkM [x11, a1, a0] h13 ⟨J1⟩⟩))⟩
 ⟨fun s1 h1 =>
 @jnM ⟨fun J14 =>
 fldAddrM Tryz.prog 106 (nthA s1 0) 0 h1 fun x15 h15 =>
 loadM Tryz.prog 4 x15 h15 fun x16 h16 =>
 unM .not x16 h16 fun x17 h17 =>
 gdM x17
 (buildM Tryz.prog 165 [] h17 fun x18 h18 =>
 mkIfM Tryz.prog 165 x18 h18 fun x19 h19 =>
 panM x19 h19)
 (@wkM [(nthA s1 0), (nthA s1 1), (nthA s1 2)] h17 ⟨J14⟩)⟩
 ⟨fun s14 h14 =>
 nilChkM (nthA s14 2) h14 fun x20 h20 =>
 fldAddrM Tryz.prog 114 x20 1 h20 fun x21 h21 =>
 loadM Tryz.prog 2 x21 h21 fun x22 h22 =>
 binM Tryz.prog .add 2 x22 (nthA s14 1) h22 fun x23 h23 =>
 nilChkM (nthA s14 2) h23 fun x24 h24 =>
 fldAddrM Tryz.prog 114 x24 1 h24 fun x25 h25 =>
 storeM Tryz.prog 2 x25 x23 h25 fun x26 h26 =>
 fldAddrM Tryz.prog 106 (nthA s14 0) 1 h26 fun x27 h27 =>
 loadM Tryz.prog 2 x27 h27 fun x28 h28 =>
 retW x28 h28 Q⟩⟩
theorem D_impl_reader_get_eq [Pn : Pk] (a0 a1 : AVal) (h : AHeap) (Q : KA) : adFn Tryz.prog ⟨fun i => bif Nat.beq i 1 then or_impl_reader_get_1 else ⟨[], [], .nil⟩, fun i => bif Nat.beq i 2 then some [5, 1, 0] else bif Nat.beq i 4 then some [5, 1, 0] else none, fun _ => [], []⟩ Tryz.f134 [a0, a1] h Q = D_impl_reader_get a0 a1 h Q := by kernel_rfl
theorem D_impl_reader_get_of [Pn : Pk] {a0 a1 : AVal} {h : AHeap} {Q : KA} (hd : D_impl_reader_get a0 a1 h Q) : callM Tryz.prog 134 [a0, a1] h Q := callM_of (fn := Tryz.f134) Tryz.func134 (Nat.le_of_ble_eq_true (by kernel_rfl)) ((D_impl_reader_get_eq a0 a1 h Q).symm ▸ hd)
theorem fn_impl_reader_get : fnT Tryz.prog 134 = true := by kernel_rfl
/- (*impl.reader).program; J5: _2 p r i; J7: _2 p r i; J31: _2 p r n; J50: _2 p r n; J52: _2 p r n; J68: _2 p n r -/
def or_impl_reader_program_5 : DR := ⟨[0, 1, 0, 0, 8, 20, 32, 98, 255, 511], [0, 1, 0, 0, 8, 28, 60, 127, 255, 511], (.one 0 (.one 2 (.one 3 (.or (.one 1 (.one 4 (.one 5 (.one 6 (.one 7 (.one 8 (.one 9 .nil))))))) (.one 4 (.or (.one 1 (.one 5 (.one 6 (.one 7 (.one 8 (.one 9 .nil)))))) (.one 5 (.one 1 (.one 6 (.one 7 (.one 8 (.one 9 .nil))))))))))))⟩
@[simp] theorem dr_impl_reader_program_5 : drawnOK Tryz.prog [] (regOps Tryz.f105 5) or_impl_reader_program_5 = True := eq_true ⟨by kernel_rfl, by kernel_rfl⟩
def or_impl_reader_program_15 : DR := ⟨[0, 1, 0, 4, 8, 26, 63, 127], [0, 1, 0, 4, 12, 31, 63, 127], (.one 0 (.one 2 (.or (.one 1 (.one 3 (.one 4 (.one 5 (.one 6 (.one 7 .nil)))))) (.one 3 (.one 1 (.one 4 (.one 5 (.one 6 (.one 7 .nil)))))))))⟩
@[simp] theorem dr_impl_reader_program_15 : drawnOK Tryz.prog [] (regOps Tryz.f105 15) or_impl_reader_program_15 = True := eq_true ⟨by kernel_rfl, by kernel_rfl⟩
def D_impl_reader_program [Pn : Pk] (a0 : AVal) (h : AHeap) (Q : KA) : Prop :=
 allocM Tryz.prog 35 h fun x1 h1 =>
 buildM Tryz.prog 35 [] h1 fun x2 h2 =>
 allocM Tryz.prog 35 h2 fun x3 h3 =>
 storeM Tryz.prog 35 x3 x2 h3 fun x4 h4 =>
 @lpM [x1, x3, a0, (i64 0)] h4 ⟨fun s5 h5 J5 =>
 binM Tryz.prog .lss 3 (nthA s5 3) (i64 3) h5 fun x6 h6 =>
 gdM x6
 (@jnM ⟨fun J7 =>
 And (drawnOK Tryz.prog [] (regOps Tryz.f105 5) or_impl_reader_program_5) (fldAddrM Tryz.prog 35 (nthA s5 1) 0 h6 fun x8 h8 =>
 And (loadM Tryz.prog 22 x8 h8 fun x9 h9 =>
 @clM Tryz.prog 134 [(nthA s5 2), (i64 2)] h9 ⟨fun x10 h10 =>
 @clM Tryz.prog 133 [(nthA s5 2), x10] h10 ⟨fun x11 h11 =>
 buildSliceM Tryz.prog 22 1 [(0, x11)] h11 fun x12 h12 =>
 appendM Tryz.prog 22 22 x9 x12 h12 fun x13 h13 =>
 fldAddrM Tryz.prog 35 (nthA s5 1) 0 h13 fun x14 h14 =>
 storeM Tryz.prog 22 x14 x13 h14 fun x15 h15 =>
 @wkM [(nthA s5 0), (nthA s5 1), (nthA s5 2), (nthA s5 3)] h15 ⟨J7⟩⟩⟩)
 (@clM Tryz.prog 134 [(nthA s5 2), (i64 2)] h8 ⟨fun x16 h16 =>
 And (loadM Tryz.prog 22 x8 h16 fun x17 h17 =>
 @clM Tryz.prog 133 [(nthA s5 2), x16] h17 ⟨fun x18 h18 =>
 buildSliceM Tryz.prog 22 1 [(0, x18)] h18 fun x19 h19 =>
 appendM Tryz.prog 22 22 x17 x19 h19 fun x20 h20 =>
 fldAddrM Tryz.prog 35 (nthA s5 1) 0 h20 fun x21 h21 =>
 storeM Tryz.prog 22 x21 x20 h21 fun x22 h22 =>
 @wkM [(nthA s5 0), (nthA s5 1), (nthA s5 2), (nthA s5 3)] h22 ⟨J7⟩⟩)
 (@clM Tryz.prog 133 [(nthA s5 2), x16] h16 ⟨fun x23 h23 =>
 loadM Tryz.prog 22 x8 h23 fun x24 h24 =>
 buildSliceM Tryz.prog 22 1 [(0, x23)] h24 fun x25 h25 =>
 appendM Tryz.prog 22 22 x24 x25 h25 fun x26 h26 =>
 fldAddrM Tryz.prog 35 (nthA s5 1) 0 h26 fun x27 h27 =>
 storeM Tryz.prog 22 x27 x26 h27 fun x28 h28 =>
 @wkM [(nthA s5 0), (nthA s5 1), (nthA s5 2), (nthA s5 3)] h28 ⟨J7⟩⟩)⟩))⟩
 ⟨fun s7 h7 =>
 binM Tryz.prog .add 3 (nthA s7 3) (i64 1) h7 fun x29 h29 =>
 @wkM [(nthA s7 0), (nthA s7 1), (nthA s7 2), x29] h29 ⟨J5⟩⟩)
 (@clM Tryz.prog 134 [(nthA s5 2), (i64 2)] h6 ⟨fun x30 h30 =>
 @lpM [(nthA s5 0), (nthA s5 1), (nthA s5 2), x30] h30 ⟨fun s31 h31 J31 =>
 binM Tryz.prog .gtr 2 (nthA s31 3) (i64 0) h31 fun x32 h32 =>
 gdM x32
 (@clM Tryz.prog 134 [(nthA s31 2), (i64 1)] h32 ⟨fun x33 h33 =>
 buildM Tryz.prog 76 [(0, x33)] h33 fun x34 h34 =>
 allocM Tryz.prog 76 h34 fun x35 h35 =>
 storeM Tryz.prog 76 x35 x34 h35 fun x36 h36 =>
 @clM Tryz.prog 134 [(nthA s31 2), (i64 4)] h36 ⟨fun x37 h37 =>
 convM Tryz.prog 2 74 x37 h37 fun x38 h38 =>
 fldAddrM Tryz.prog 76 x35 1 h38 fun x39 h39 =>
 storeM Tryz.prog 74 x39 x38 h39 fun x40 h40 =>
 fldAddrM Tryz.prog 35 (nthA s31 1) 1 h40 fun x41 h41 =>
 loadM Tryz.prog 31 x41 h41 fun x42 h42 =>
 loadM Tryz.prog 76 x35 h42 fun x43 h43 =>
 buildSliceM Tryz.prog 31 1 [(0, x43)] h43 fun x44 h44 =>
 appendM Tryz.prog 31 31 x42 x44 h44 fun x45 h45 =>
 fldAddrM Tryz.prog 35 (nthA s31 1) 1 h45 fun x46 h46 =>
 storeM Tryz.prog 31 x46 x45 h46 fun x47 h47 =>
 binM Tryz.prog .sub 2 (nthA s31 3) (i64 1) h47 fun x48 h48 =>
 @wkM [(nthA s31 0), (nthA s31 1), (nthA s31 2), x48] h48 ⟨J31⟩⟩⟩)
 (@clM Tryz.prog 134 [(nthA s31 2), (i64 2)] h32 ⟨fun x49 h49 =>
 @lpM [(nthA s31 0), (nthA s31 1), (nthA s31 2), x49] h49 ⟨fun s50 h50 J50 =>
 binM Tryz.prog .gtr 2 (nthA s50 3) (i64 0) h50 fun x51 h51 =>
 gdM x51
 (@jnM ⟨fun J52 =>
 And (drawnOK Tryz.prog [] (regOps Tryz.f105 15) or_impl_reader_program_15) (fldAddrM Tryz.prog 35 (nthA s50 1) 2 h51 fun x53 h53 =>
 And (loadM Tryz.prog 32 x53 h53 fun x54 h54 =>
 @clM Tryz.prog 135 [(nthA s50 2)] h54 ⟨fun x55 h55 =>
 buildSliceM Tryz.prog 32 1 [(0, x55)] h55 fun x56 h56 =>
 appendM Tryz.prog 32 32 x54 x56 h56 fun x57 h57 =>
 fldAddrM Tryz.prog 35 (nthA s50 1) 2 h57 fun x58 h58 =>
 storeM Tryz.prog 32 x58 x57 h58 fun x59 h59 =>
 @wkM [(nthA s50 0), (nthA s50 1), (nthA s50 2), (nthA s50 3)] h59 ⟨J52⟩⟩)
 (@clM Tryz.prog 135 [(nthA s50 2)] h53 ⟨fun x60 h60 =>
 loadM Tryz.prog 32 x53 h60 fun x61 h61 =>
 buildSliceM Tryz.prog 32 1 [(0, x60)] h61 fun x62 h62 =>
 appendM Tryz.prog 32 32 x61 x62 h62 fun x63 h63 =>
 fldAddrM Tryz.prog 35 (nthA s50 1) 2 h63 fun x64 h64 =>
 storeM Tryz.prog 32 x64 x63 h64 fun x65 h65 =>
 @wkM [(nthA s50 0), (nthA s50 1), (nthA s50 2), (nthA s50 3)] h65 ⟨J52⟩⟩))⟩
 ⟨fun s52 h52 =>
 binM Tryz.prog .sub 2 (nthA s52 3) (i64 1) h52 fun x66 h66 =>
 @wkM [(nthA s52 0), (nthA s52 1), (nthA s52 2), x66] h66 ⟨J50⟩⟩)
 (@clM Tryz.prog 134 [(nthA s50 2), (i64 2)] h51 ⟨fun x67 h67 =>
 @lpM [(nthA s50 0), (nthA s50 1), x67, (nthA s50 2)] h67 ⟨fun s68 h68 J68 =>
 binM Tryz.prog .gtr 2 (nthA s68 2) (i64 0) h68 fun x69 h69 =>
 gdM x69
 (@clM Tryz.prog 134 [(nthA s68 3), (i64 2)] h69 ⟨fun x70 h70 =>
 buildM Tryz.prog 83 [(0, x70)] h70 fun x71 h71 =>
 allocM Tryz.prog 83 h71 fun x72 h72 =>
 storeM Tryz.prog 83 x72 x71 h72 fun x73 h73 =>
 @clM Tryz.prog 134 [(nthA s68 3), (i64 2)] h73 ⟨fun x74 h74 =>
 fldAddrM Tryz.prog 83 x72 1 h74 fun x75 h75 =>
 storeM Tryz.prog 2 x75 x74 h75 fun x76 h76 =>
 @clM Tryz.prog 134 [(nthA s68 3), (i64 1)] h76 ⟨fun x77 h77 =>
 fldAddrM Tryz.prog 83 x72 2 h77 fun x78 h78 =>
 storeM Tryz.prog 2 x78 x77 h78 fun x79 h79 =>
 @clM Tryz.prog 134 [(nthA s68 3), (i64 4)] h79 ⟨fun x80 h80 =>
 convM Tryz.prog 2 74 x80 h80 fun x81 h81 =>
 fldAddrM Tryz.prog 83 x72 3 h81 fun x82 h82 =>
 storeM Tryz.prog 74 x82 x81 h82 fun x83 h83 =>
 fldAddrM Tryz.prog 35 (nthA s68 1) 3 h83 fun x84 h84 =>
 loadM Tryz.prog 33 x84 h84 fun x85 h85 =>
 loadM Tryz.prog 83 x72 h85 fun x86 h86 =>
 buildSliceM Tryz.prog 33 1 [(0, x86)] h86 fun x87 h87 =>
 appendM Tryz.prog 33 33 x85 x87 h87 fun x88 h88 =>
 fldAddrM Tryz.prog 35 (nthA s68 1) 3 h88 fun x89 h89 =>
 storeM Tryz.prog 33 x89 x88 h89 fun x90 h90 =>
 binM Tryz.prog .sub 2 (nthA s68 2) (i64 1) h90 fun x91 h91 =>
 @wkM [(nthA s68 0), (nthA s68 1), x91, (nthA s68 3)] h91 ⟨J68⟩⟩⟩⟩⟩)
 (loadM Tryz.prog 35 (nthA s68 1) h69 fun x92 h92 =>
 storeM Tryz.prog 35 (nthA s68 0) x92 h92 fun x93 h93 =>
 loadM Tryz.prog 35 (nthA s68 0) h93 fun x94 h94 =>
 retW x94 h94 Q)⟩⟩)⟩⟩)⟩⟩)⟩
theorem D_impl_reader_program_eq [Pn : Pk] (a0 : AVal) (h : AHeap) (Q : KA) : adFn Tryz.prog ⟨fun i => bif Nat.beq i 5 then or_impl_reader_program_5 else bif Nat.beq i 15 then or_impl_reader_program_15 else ⟨[], [], .nil⟩, fun i => bif Nat.beq i 4 then some [2, 3, 0, 4] else bif Nat.beq i 14 then some [2, 3, 0, 7] else none, fun i => bif Nat.beq i 3 then [2, 3, 0, 4] else bif Nat.beq i 7 then [2, 3, 0, 5] else bif Nat.beq i 13 then [2, 3, 0, 7] else bif Nat.beq i 17 then [2, 3, 8, 0] else [], []⟩ Tryz.f105 [a0] h Q = D_impl_reader_program a0 h Q := by kernel_rfl
theorem D_impl_reader_program_of [Pn : Pk] {a0 : AVal} {h : AHeap} {Q : KA} (hd : D_impl_reader_program a0 h Q) : callM Tryz.prog 105 [a0] h Q := callM_of (fn := Tryz.f105) Tryz.func105 (Nat.le_of_ble_eq_true (by kernel_rfl)) ((D_impl_reader_program_eq a0 h Q).symm ▸ hd)
theorem fn_impl_reader_program : fnT Tryz.prog 105 = true := by kernel_rfl
/- (*impl.reader).types; J2: out n r -/
def D_impl_reader_types [Pn : Pk] (a0 a1 : AVal) (h : AHeap) (Q : KA) : Prop :=
 buildSliceM Tryz.prog 72 0 [] h fun x1 h1 =>
 @lpM [x1, a1, a0] h1 ⟨fun s2 h2 J2 =>
 binM Tryz.prog .gtr 2 (nthA s2 1) (i64 0) h2 fun x3 h3 =>
 gdM x3
 (@clM Tryz.prog 134 [(nthA s2 2), (i64 1)] h3 ⟨fun x4 h4 =>
 buildSliceM Tryz.prog 72 1 [(0, x4)] h4 fun x5 h5 =>
 appendM Tryz.prog 72 72 (nthA s2 0) x5 h5 fun x6 h6 =>
 binM Tryz.prog .sub 2 (nthA s2 1) (i64 1) h6 fun x7 h7 =>
 @wkM [x6, x7, (nthA s2 2)] h7 ⟨J2⟩⟩)
 (retW (nthA s2 0) h3 Q)⟩
theorem D_impl_reader_types_eq [Pn : Pk] (a0 a1 : AVal) (h : AHeap) (Q : KA) : adFn Tryz.prog ⟨fun _ => ⟨[], [], .nil⟩, fun _ => none, fun i => bif Nat.beq i 2 then [5, 1, 0] else [], []⟩ Tryz.f133 [a0, a1] h Q = D_impl_reader_types a0 a1 h Q := by kernel_rfl
theorem D_impl_reader_types_of [Pn : Pk] {a0 a1 : AVal} {h : AHeap} {Q : KA} (hd : D_impl_reader_types a0 a1 h Q) : callM Tryz.prog 133 [a0, a1] h Q := callM_of (fn := Tryz.f133) Tryz.func133 (Nat.le_of_ble_eq_true (by kernel_rfl)) ((D_impl_reader_types_eq a0 a1 h Q).symm ▸ hd)
theorem fn_impl_reader_types : fnT Tryz.prog 133 = true := by kernel_rfl
/- impl.Crc; J5: r _10 table _8 _9 -/
def D_impl_Crc (a0 : AVal) (h : AHeap) (Q : KA) : Prop :=
 @clM Tryz.prog 94 [] h ⟨fun x1 h1 =>
 allocM Tryz.prog 154 h1 fun x2 h2 =>
 storeM Tryz.prog 154 x2 x1 h2 fun x3 h3 =>
 lenM Tryz.prog 29 a0 h3 fun x4 h4 =>
 @lpM [(u32 4294967295), (i64 0), x2, a0, x4] h4 ⟨fun s5 h5 J5 =>
 binM Tryz.prog .lss 3 (nthA s5 1) (nthA s5 4) h5 fun x6 h6 =>
 gdM x6
 (ixAddrM Tryz.prog 29 (nthA s5 3) (nthA s5 1) h6 fun x7 h7 =>
 loadM Tryz.prog 5 x7 h7 fun x8 h8 =>
 convM Tryz.prog 5 74 x8 h8 fun x9 h9 =>
 binM Tryz.prog .xor 74 (nthA s5 0) x9 h9 fun x10 h10 =>
 binM Tryz.prog .shr 74 x10 (u64 4) h10 fun x11 h11 =>
 binM Tryz.prog .and 74 x10 (u32 15) h11 fun x12 h12 =>
 ixAddrM Tryz.prog 154 (nthA s5 2) x12 h12 fun x13 h13 =>
 loadM Tryz.prog 74 x13 h13 fun x14 h14 =>
 binM Tryz.prog .xor 74 x11 x14 h14 fun x15 h15 =>
 binM Tryz.prog .shr 74 x15 (u64 4) h15 fun x16 h16 =>
 binM Tryz.prog .and 74 x15 (u32 15) h16 fun x17 h17 =>
 ixAddrM Tryz.prog 154 (nthA s5 2) x17 h17 fun x18 h18 =>
 loadM Tryz.prog 74 x18 h18 fun x19 h19 =>
 binM Tryz.prog .xor 74 x16 x19 h19 fun x20 h20 =>
 binM Tryz.prog .add 3 (nthA s5 1) (i64 1) h20 fun x21 h21 =>
 @wkM [x20, x21, (nthA s5 2), (nthA s5 3), (nthA s5 4)] h21 ⟨J5⟩)
 (unM .xor (nthA s5 0) h6 fun x22 h22 =>
 retW x22 h22 Q)⟩⟩
theorem D_impl_Crc_eq (a0 : AVal) (h : AHeap) (Q : KA) : adFn Tryz.prog ⟨fun _ => ⟨[], [], .nil⟩, fun _ => none, fun i => bif Nat.beq i 4 then [4, 10, 3, 8, 9] else [], []⟩ Tryz.f45 [a0] h Q = D_impl_Crc a0 h Q := by kernel_rfl
theorem D_impl_Crc_of {a0 : AVal} {h : AHeap} {Q : KA} (hd : D_impl_Crc a0 h Q) : callM Tryz.prog 45 [a0] h Q := callM_of (fn := Tryz.f45) Tryz.func45 (Nat.le_of_ble_eq_true (by kernel_rfl)) ((D_impl_Crc_eq a0 h Q).symm ▸ hd)
theorem fn_impl_Crc : fnT Tryz.prog 45 = true := by kernel_rfl
/- impl.Decode; J2: _2 b _15 -/
def or_impl_Decode_4 : DR := ⟨[0, 0, 3, 4, 8, 0, 0, 96, 132, 272], [0, 0, 3, 7, 15, 0, 0, 96, 231, 511], (.one 0 (.one 1 (.one 5 (.one 6 (.one 7 (.one 2 (.one 3 (.one 4 (.one 8 (.one 9 .nil))))))))))⟩
@[simp] theorem dr_impl_Decode_4 : drawnOK Tryz.prog [13] (regOps Tryz.f17 4) or_impl_Decode_4 = True := eq_true ⟨by kernel_rfl, by kernel_rfl⟩
def or_impl_Decode_12 : DR := ⟨[0, 1, 2, 4, 0, 16, 32, 64, 128, 264, 512], [0, 1, 3, 7, 0, 16, 48, 112, 240, 511, 1023], (.one 0 (.one 1 (.one 2 (.one 3 (.one 4 (.one 5 (.one 6 (.one 7 (.one 8 (.one 9 (.one 10 .nil)))))))))))⟩
@[simp] theorem dr_impl_Decode_12 : drawnOK Tryz.prog [13] (regOps Tryz.f17 12) or_impl_Decode_12 = True := eq_true ⟨by kernel_rfl, by kernel_rfl⟩
def D_impl_Decode (a0 : AVal) (h : AHeap) (Q : KA) : Prop :=
 allocM Tryz.prog 43 h fun x1 h1 =>
 @jnM ⟨fun J2 =>
 lenM Tryz.prog 29 a0 h1 fun x3 h3 =>
 binM Tryz.prog .lss 3 x3 (i64 10) h3 fun x4 h4 =>
 gdM x4
 (@wkM [x1, a0, tt] h4 ⟨J2⟩)
 (sliceM Tryz.prog 29 a0 none (some (i64 4)) none h4 fun x5 h5 =>
 cvsM Tryz.prog 29 9 x5 h5 fun x6 h6 =>
 binM Tryz.prog .neq 9 x6 (.v (Value.string ⟨#[80, 76, 67, 49]⟩)) h6 fun x7 h7 =>
 @wkM [x1, a0, x7] h7 ⟨J2⟩)⟩
 ⟨fun s2 h2 =>
 gdM (nthA s2 2)
 (buildM Tryz.prog 43 [(0, (i64 1))] h2 fun x8 h8 =>
 storeM Tryz.prog 43 (nthA s2 0) x8 h8 fun x9 h9 =>
 loadM Tryz.prog 43 (nthA s2 0) h9 fun x10 h10 =>
 retW x10 h10 Q)
 (lenM Tryz.prog 29 (nthA s2 1) h2 fun x11 h11 =>
 binM Tryz.prog .sub 3 x11 (i64 4) h11 fun x12 h12 =>
 And (drawnOK Tryz.prog [13] (regOps Tryz.f17 4) or_impl_Decode_4) (sliceM Tryz.prog 29 (nthA s2 1) none (some x12) none h12 fun x13 h13 =>
 @clM Tryz.prog 56 [(nthA s2 1), x12, (i64 4)] h13 ⟨fun x14 h14 =>
 fieldM Tryz.prog 106 x14 1 h14 fun x15 h15 =>
 convM Tryz.prog 2 74 x15 h15 fun x16 h16 =>
 @clM Tryz.prog 45 [x13] h16 ⟨fun x17 h17 =>
 binM Tryz.prog .neq 74 x16 x17 h17 fun x18 h18 =>
 gdM x18
 (buildM Tryz.prog 43 [(0, (i64 2))] h18 fun x19 h19 =>
 storeM Tryz.prog 43 (nthA s2 0) x19 h19 fun x20 h20 =>
 loadM Tryz.prog 43 (nthA s2 0) h20 fun x21 h21 =>
 retW x21 h21 Q)
 (@clM Tryz.prog 56 [(nthA s2 1), (i64 4), (i64 2)] h18 ⟨fun x22 h22 =>
 fieldM Tryz.prog 106 x22 1 h22 fun x23 h23 =>
 binM Tryz.prog .neq 2 x23 (i64 1) h23 fun x24 h24 =>
 gdM x24
 (buildM Tryz.prog 43 [(0, (i64 3))] h24 fun x25 h25 =>
 storeM Tryz.prog 43 (nthA s2 0) x25 h25 fun x26 h26 =>
 loadM Tryz.prog 43 (nthA s2 0) h26 fun x27 h27 =>
 retW x27 h27 Q)
 (sliceM Tryz.prog 29 (nthA s2 1) (some (i64 6)) (some x12) none h24 fun x28 h28 =>
 buildM Tryz.prog 114 [(0, x28)] h28 fun x29 h29 =>
 boxM 114 x29 h29 fun x30 h30 =>
 @clM Tryz.prog 57 [x30] h30 ⟨fun x31 h31 =>
 extractM x31 0 h31 fun x32 h32 =>
 extractM x31 1 h32 fun x33 h33 =>
 allocM Tryz.prog 35 h33 fun x34 h34 =>
 storeM Tryz.prog 35 x34 x32 h34 fun x35 h35 =>
 unM .not x33 h35 fun x36 h36 =>
 gdM x36
 (buildM Tryz.prog 43 [(0, (i64 4))] h36 fun x37 h37 =>
 storeM Tryz.prog 43 (nthA s2 0) x37 h37 fun x38 h38 =>
 loadM Tryz.prog 43 (nthA s2 0) h38 fun x39 h39 =>
 retW x39 h39 Q)
 (And (drawnOK Tryz.prog [13] (regOps Tryz.f17 12) or_impl_Decode_12) (nilChkM x30 h36 fun x40 h40 =>
 fldAddrM Tryz.prog 114 x40 1 h40 fun x41 h41 =>
 loadM Tryz.prog 2 x41 h41 fun x42 h42 =>
 nilChkM x30 h42 fun x43 h43 =>
 fldAddrM Tryz.prog 114 x43 0 h43 fun x44 h44 =>
 loadM Tryz.prog 29 x44 h44 fun x45 h45 =>
 lenM Tryz.prog 29 x45 h45 fun x46 h46 =>
 binM Tryz.prog .lss 2 x42 x46 h46 fun x47 h47 =>
 gdM x47
 (buildM Tryz.prog 43 [(0, (i64 5))] h47 fun x48 h48 =>
 storeM Tryz.prog 43 (nthA s2 0) x48 h48 fun x49 h49 =>
 loadM Tryz.prog 43 (nthA s2 0) h49 fun x50 h50 =>
 retW x50 h50 Q)
 (@clM Tryz.prog 42 [x34] h47 ⟨fun x51 h51 =>
 nilM Tryz.prog .neq 90 x51 h51 fun x52 h52 =>
 gdM x52
 (buildM Tryz.prog 43 [(0, (i64 6))] h52 fun x53 h53 =>
 storeM Tryz.prog 43 (nthA s2 0) x53 h53 fun x54 h54 =>
 loadM Tryz.prog 43 (nthA s2 0) h54 fun x55 h55 =>
 retW x55 h55 Q)
 (loadM Tryz.prog 35 x34 h52 fun x56 h56 =>
 buildM Tryz.prog 43 [(1, x56)] h56 fun x57 h57 =>
 storeM Tryz.prog 43 (nthA s2 0) x57 h57 fun x58 h58 =>
 loadM Tryz.prog 43 (nthA s2 0) h58 fun x59 h59 =>
 retW x59 h59 Q)⟩)))⟩)⟩)⟩⟩))⟩
theorem D_impl_Decode_eq (a0 : AVal) (h : AHeap) (Q : KA) : adFn Tryz.prog ⟨fun i => bif Nat.beq i 4 then or_impl_Decode_4 else bif Nat.beq i 12 then or_impl_Decode_12 else ⟨[], [], .nil⟩, fun i => bif Nat.beq i 2 then some [2, 0, 15] else none, fun _ => [], [13]⟩ Tryz.f17 [a0] h Q = D_impl_Decode a0 h Q := by kernel_rfl
theorem D_impl_Decode_of {a0 : AVal} {h : AHeap} {Q : KA} (hd : D_impl_Decode a0 h Q) : callM Tryz.prog 17 [a0] h Q := callM_of (fn := Tryz.f17) Tryz.func17 (Nat.le_of_ble_eq_true (by kernel_rfl)) ((D_impl_Decode_eq a0 h Q).symm ▸ hd)
theorem fn_impl_Decode : fnT Tryz.prog 17 = true := by kernel_rfl
/- impl.GetNumber; J15: _6 v i at b; J2: _6 at b n _32 -/
def D_impl_GetNumber (a0 a1 a2 : AVal) (h : AHeap) (Q : KA) : Prop :=
 allocM Tryz.prog 106 h fun x1 h1 =>
 @jnM ⟨fun J2 =>
 binM Tryz.prog .lss 2 a2 (i64 1) h1 fun x3 h3 =>
 gdM x3
 (@wkM [x1, a1, a0, a2, tt] h3 ⟨J2⟩)
 (binM Tryz.prog .gtr 2 a2 (i64 8) h3 fun x4 h4 =>
 gdM x4
 (@wkM [x1, a1, a0, a2, tt] h4 ⟨J2⟩)
 (binM Tryz.prog .lss 2 a1 (i64 0) h4 fun x5 h5 =>
 gdM x5
 (@wkM [x1, a1, a0, a2, tt] h5 ⟨J2⟩)
 (lenM Tryz.prog 29 a0 h5 fun x6 h6 =>
 binM Tryz.prog .gtr 2 a1 x6 h6 fun x7 h7 =>
 gdM x7
 (@wkM [x1, a1, a0, a2, tt] h7 ⟨J2⟩)
 (lenM Tryz.prog 29 a0 h7 fun x8 h8 =>
 binM Tryz.prog .sub 2 x8 a1 h8 fun x9 h9 =>
 binM Tryz.prog .lss 2 x9 a2 h9 fun x10 h10 =>
 @wkM [x1, a1, a0, a2, x10] h10 ⟨J2⟩))))⟩
 ⟨fun s2 h2 =>
 gdM (nthA s2 4)
 (buildM Tryz.prog 106 [] h2 fun x11 h11 =>
 storeM Tryz.prog 106 (nthA s2 0) x11 h11 fun x12 h12 =>
 loadM Tryz.prog 106 (nthA s2 0) h12 fun x13 h13 =>
 retW x13 h13 Q)
 (binM Tryz.prog .sub 2 (nthA s2 3) (i64 1) h2 fun x14 h14 =>
 @lpM [(nthA s2 0), (u64 0), x14, (nthA s2 1), (nthA s2 2)] h14 ⟨fun s15 h15 J15 =>
 binM Tryz.prog .geq 2 (nthA s15 2) (i64 0) h15 fun x16 h16 =>
 gdM x16
 (binM Tryz.prog .shl 145 (nthA s15 1) (u64 8) h16 fun x17 h17 =>
 binM Tryz.prog .add 2 (nthA s15 3) (nthA s15 2) h17 fun x18 h18 =>
 ixAddrM Tryz.prog 29 (nthA s15 4) x18 h18 fun x19 h19 =>
 loadM Tryz.prog 5 x19 h19 fun x20 h20 =>
 convM Tryz.prog 5 145 x20 h20 fun x21 h21 =>
 binM Tryz.prog .or 145 x17 x21 h21 fun x22 h22 =>
 binM Tryz.prog .sub 2 (nthA s15 2) (i64 1) h22 fun x23 h23 =>
 @wkM [(nthA s15 0), x22, x23, (nthA s15 3), (nthA s15 4)] h23 ⟨J15⟩)
 (convM Tryz.prog 145 2 (nthA s15 1) h16 fun x24 h24 =>
 buildM Tryz.prog 106 [(0, tt), (1, x24)] h24 fun x25 h25 =>
 storeM Tryz.prog 106 (nthA s15 0) x25 h25 fun x26 h26 =>
 loadM Tryz.prog 106 (nthA s15 0) h26 fun x27 h27 =>
 retW x27 h27 Q)⟩)⟩
theorem D_impl_GetNumber_eq (a0 a1 a2 : AVal) (h : AHeap) (Q : KA) : adFn Tryz.prog ⟨fun _ => ⟨[], [], .nil⟩, fun i => bif Nat.beq i 2 then some [6, 1, 0, 2, 32] else none, fun i => bif Nat.beq i 5 then [6, 7, 8, 1, 0] else [], []⟩ Tryz.f56 [a0, a1, a2] h Q = D_impl_GetNumber a0 a1 a2 h Q := by kernel_rfl
theorem D_impl_GetNumber_of {a0 a1 a2 : AVal} {h : AHeap} {Q : KA} (hd : D_impl_GetNumber a0 a1 a2 h Q) : callM Tryz.prog 56 [a0, a1, a2] h Q := callM_of (fn := Tryz.f56) Tryz.func56 (Nat.le_of_ble_eq_true (by kernel_rfl)) ((D_impl_GetNumber_eq a0 a1 a2 h Q).symm ▸ hd)
theorem fn_impl_GetNumber : fnT Tryz.prog 56 = true := by kernel_rfl
/- impl.Info; J2: _2 op _8 -/
def D_impl_Info (a0 : AVal) (h : AHeap) (Q : KA) : Prop :=
 allocM Tryz.prog 187 h fun x1 h1 =>
 @jnM ⟨fun J2 =>
 binM Tryz.prog .lss 2 a0 (i64 0) h1 fun x3 h3 =>
 gdM x3
 (@wkM [x1, a0, tt] h3 ⟨J2⟩)
 (binM Tryz.prog .gtr 2 a0 (i64 29) h3 fun x4 h4 =>
 @wkM [x1, a0, x4] h4 ⟨J2⟩)⟩
 ⟨fun s2 h2 =>
 gdM (nthA s2 2)
 (buildM Tryz.prog 187 [] h2 fun x5 h5 =>
 storeM Tryz.prog 187 (nthA s2 0) x5 h5 fun x6 h6 =>
 loadM Tryz.prog 187 (nthA s2 0) h6 fun x7 h7 =>
 retW x7 h7 Q)
 (@clM Tryz.prog 146 [] h2 ⟨fun x8 h8 =>
 ixAddrM Tryz.prog 214 x8 (nthA s2 1) h8 fun x9 h9 =>
 fldAddrM Tryz.prog 213 x9 0 h9 fun x10 h10 =>
 loadM Tryz.prog 187 x10 h10 fun x11 h11 =>
 storeM Tryz.prog 187 (nthA s2 0) x11 h11 fun x12 h12 =>
 loadM Tryz.prog 187 (nthA s2 0) h12 fun x13 h13 =>
 retW x13 h13 Q⟩)⟩
theorem D_impl_Info_eq (a0 : AVal) (h : AHeap) (Q : KA) : adFn Tryz.prog ⟨fun _ => ⟨[], [], .nil⟩, fun i => bif Nat.beq i 2 then some [2, 0, 8] else none, fun _ => [], []⟩ Tryz.f141 [a0] h Q = D_impl_Info a0 h Q := by kernel_rfl
theorem D_impl_Info_of {a0 : AVal} {h : AHeap} {Q : KA} (hd : D_impl_Info a0 h Q) : callM Tryz.prog 141 [a0] h Q := callM_of (fn := Tryz.f141) Tryz.func141 (Nat.le_of_ble_eq_true (by kernel_rfl)) ((D_impl_Info_eq a0 h Q).symm ▸ hd)
theorem fn_impl_Info : fnT Tryz.prog 141 = true := by kernel_rfl
/- impl.allTypes; J2: _7 _5 _6 -/
def D_impl_allTypes (a0 : AVal) (h : AHeap) (Q : KA) : Prop :=
 lenM Tryz.prog 72 a0 h fun x1 h1 =>
 @lpM [(i64 0), a0, x1] h1 ⟨fun s2 h2 J2 =>
 binM Tryz.prog .lss 3 (nthA s2 0) (nthA s2 2) h2 fun x3 h3 =>
 gdM x3
 (ixAddrM Tryz.prog 72 (nthA s2 1) (nthA s2 0) h3 fun x4 h4 =>
 loadM Tryz.prog 2 x4 h4 fun x5 h5 =>
 @clM Tryz.prog 126 [x5] h5 ⟨fun x6 h6 =>
 unM .not x6 h6 fun x7 h7 =>
 gdM x7
 (retW ff h7 Q)
 (binM Tryz.prog .add 3 (nthA s2 0) (i64 1) h7 fun x8 h8 =>
 @wkM [x8, (nthA s2 1), (nthA s2 2)] h8 ⟨J2⟩)⟩)
 (retW tt h3 Q)⟩
theorem D_impl_allTypes_eq (a0 : AVal) (h : AHeap) (Q : KA) : adFn Tryz.prog ⟨fun _ => ⟨[], [], .nil⟩, fun _ => none, fun i => bif Nat.beq i 2 then [7, 5, 6] else [], []⟩ Tryz.f125 [a0] h Q = D_impl_allTypes a0 h Q := by kernel_rfl
theorem D_impl_allTypes_of {a0 : AVal} {h : AHeap} {Q : KA} (hd : D_impl_allTypes a0 h Q) : callM Tryz.prog 125 [a0] h Q := callM_of (fn := Tryz.f125) Tryz.func125 (Nat.le_of_ble_eq_true (by kernel_rfl)) ((D_impl_allTypes_eq a0 h Q).symm ▸ hd)
theorem fn_impl_allTypes : fnT Tryz.prog 125 = true := by kernel_rfl
/- impl.below; J1: _4 -/
def D_impl_below (a0 a1 : AVal) (h : AHeap) (Q : KA) : Prop :=
 @jnM ⟨fun J1 =>
 binM Tryz.prog .geq 2 a0 (i64 0) h fun x2 h2 =>
 gdM x2
 (binM Tryz.prog .lss 2 a0 a1 h2 fun x3 h3 =>
 @wkM [x3] h3 ⟨J1⟩)
 (@wkM [ff] h2 ⟨J1⟩)⟩
 ⟨fun s1 h1 =>
 retW (nthA s1 0) h1 Q⟩
theorem D_impl_below_eq (a0 a1 : AVal) (h : AHeap) (Q : KA) : adFn Tryz.prog ⟨fun _ => ⟨[], [], .nil⟩, fun i => bif Nat.beq i 0 then some [4] else none, fun _ => [], []⟩ Tryz.f129 [a0, a1] h Q = D_impl_below a0 a1 h Q := by kernel_rfl
theorem D_impl_below_of {a0 a1 : AVal} {h : AHeap} {Q : KA} (hd : D_impl_below a0 a1 h Q) : callM Tryz.prog 129 [a0, a1] h Q := callM_of (fn := Tryz.f129) Tryz.func129 (Nat.le_of_ble_eq_true (by kernel_rfl)) ((D_impl_below_eq a0 a1 h Q).symm ▸ hd)
theorem fn_impl_below : fnT Tryz.prog 129 = true := by kernel_rfl
/- impl.flag -/
def D_impl_flag (a0 : AVal) (h : AHeap) (Q : KA) : Prop :=
 gdM a0
 (retW (u32 1) h Q)
 (retW (u32 0) h Q)
theorem D_impl_flag_eq (a0 : AVal) (h : AHeap) (Q : KA) : adFn Tryz.prog ⟨fun _ => ⟨[], [], .nil⟩, fun _ => none, fun _ => [], []⟩ Tryz.f113 [a0] h Q = D_impl_flag a0 h Q := by kernel_rfl
theorem D_impl_flag_of {a0 : AVal} {h : AHeap} {Q : KA} (hd : D_impl_flag a0 h Q) : callM Tryz.prog 113 [a0] h Q := callM_of (fn := Tryz.f113) Tryz.func113 (Nat.le_of_ble_eq_true (by kernel_rfl)) ((D_impl_flag_eq a0 h Q).symm ▸ hd)
theorem fn_impl_flag : fnT Tryz.prog 113 = true := by kernel_rfl
/- impl.halves; J3: _0 out _5; J6: _0 out _5 r i k; J8: _0 out _5 r i k -/
def D_impl_halves (h : AHeap) (Q : KA) : Prop :=
 allocM Tryz.prog 154 h fun x1 h1 =>
 allocM Tryz.prog 154 h1 fun x2 h2 =>
 @lpM [x1, x2, (i64 0)] h2 ⟨fun s3 h3 J3 =>
 binM Tryz.prog .lss 3 (nthA s3 2) (i64 16) h3 fun x4 h4 =>
 gdM x4
 (convM Tryz.prog 3 74 (nthA s3 2) h4 fun x5 h5 =>
 @lpM [(nthA s3 0), (nthA s3 1), (nthA s3 2), x5, (nthA s3 2), (i64 0)] h5 ⟨fun s6 h6 J6 =>
 binM Tryz.prog .lss 3 (nthA s6 5) (i64 4) h6 fun x7 h7 =>
 gdM x7
 (@jnM ⟨fun J8 =>
 binM Tryz.prog .and 74 (nthA s6 3) (u32 1) h7 fun x9 h9 =>
 binM Tryz.prog .neq 74 x9 (u32 0) h9 fun x10 h10 =>
 gdM x10
 (binM Tryz.prog .shr 74 (nthA s6 3) (u64 1) h10 fun x11 h11 =>
 binM Tryz.prog .xor 74 x11 (u32 3988292384) h11 fun x12 h12 =>
 @wkM [(nthA s6 0), (nthA s6 1), (nthA s6 2), x12, (nthA s6 4), (nthA s6 5)] h12 ⟨J8⟩)
 (binM Tryz.prog .shr 74 (nthA s6 3) (u64 1) h10 fun x13 h13 =>
 @wkM [(nthA s6 0), (nthA s6 1), (nthA s6 2), x13, (nthA s6 4), (nthA s6 5)] h13 ⟨J8⟩)⟩
 ⟨fun s8 h8 =>
 binM Tryz.prog .add 3 (nthA s8 5) (i64 1) h8 fun x14 h14 =>
 @wkM [(nthA s8 0), (nthA s8 1), (nthA s8 2), (nthA s8 3), (nthA s8 4), x14] h14 ⟨J6⟩⟩)
 (ixAddrM Tryz.prog 154 (nthA s6 1) (nthA s6 4) h7 fun x15 h15 =>
 storeM Tryz.prog 74 x15 (nthA s6 3) h15 fun x16 h16 =>
 binM Tryz.prog .add 3 (nthA s6 2) (i64 1) h16 fun x17 h17 =>
 @wkM [(nthA s6 0), (nthA s6 1), x17] h17 ⟨J3⟩)⟩)
 (loadM Tryz.prog 154 (nthA s3 1) h4 fun x18 h18 =>
 storeM Tryz.prog 154 (nthA s3 0) x18 h18 fun x19 h19 =>
 loadM Tryz.prog 154 (nthA s3 0) h19 fun x20 h20 =>
 retW x20 h20 Q)⟩
theorem D_impl_halves_eq (h : AHeap) (Q : KA) : adFn Tryz.prog ⟨fun _ => ⟨[], [], .nil⟩, fun i => bif Nat.beq i 8 then some [0, 1, 5, 3, 2, 4] else none, fun i => bif Nat.beq i 3 then [0, 1, 5] else bif Nat.beq i 7 then [0, 1, 5, 3, 2, 4] else [], []⟩ Tryz.f94 [] h Q = D_impl_halves  h Q := by kernel_rfl
theorem D_impl_halves_of {h : AHeap} {Q : KA} (hd : D_impl_halves  h Q) : callM Tryz.prog 94 [] h Q := callM_of (fn := Tryz.f94) Tryz.func94 (Nat.le_of_ble_eq_true (by kernel_rfl)) ((D_impl_halves_eq  h Q).symm ▸ hd)
theorem fn_impl_halves : fnT Tryz.prog 94 = true := by kernel_rfl
/- impl.isBits; J1: _2 -/
def D_impl_isBits (a0 : AVal) (h : AHeap) (Q : KA) : Prop :=
 @jnM ⟨fun J1 =>
 binM Tryz.prog .eql 2 a0 (i64 1) h fun x2 h2 =>
 gdM x2
 (@wkM [tt] h2 ⟨J1⟩)
 (binM Tryz.prog .eql 2 a0 (i64 3) h2 fun x3 h3 =>
 @wkM [x3] h3 ⟨J1⟩)⟩
 ⟨fun s1 h1 =>
 retW (nthA s1 0) h1 Q⟩
theorem D_impl_isBits_eq (a0 : AVal) (h : AHeap) (Q : KA) : adFn Tryz.prog ⟨fun _ => ⟨[], [], .nil⟩, fun i => bif Nat.beq i 0 then some [2] else none, fun _ => [], []⟩ Tryz.f144 [a0] h Q = D_impl_isBits a0 h Q := by kernel_rfl
theorem D_impl_isBits_of {a0 : AVal} {h : AHeap} {Q : KA} (hd : D_impl_isBits a0 h Q) : callM Tryz.prog 144 [a0] h Q := callM_of (fn := Tryz.f144) Tryz.func144 (Nat.le_of_ble_eq_true (by kernel_rfl)) ((D_impl_isBits_eq a0 h Q).symm ▸ hd)
theorem fn_impl_isBits : fnT Tryz.prog 144 = true := by kernel_rfl
/- impl.isNumber; J1: _2 -/
def D_impl_isNumber (a0 : AVal) (h : AHeap) (Q : KA) : Prop :=
 @jnM ⟨fun J1 =>
 binM Tryz.prog .eql 2 a0 (i64 2) h fun x2 h2 =>
 gdM x2
 (@wkM [tt] h2 ⟨J1⟩)
 (binM Tryz.prog .eql 2 a0 (i64 3) h2 fun x3 h3 =>
 @wkM [x3] h3 ⟨J1⟩)⟩
 ⟨fun s1 h1 =>
 retW (nthA s1 0) h1 Q⟩
theorem D_impl_isNumber_eq (a0 : AVal) (h : AHeap) (Q : KA) : adFn Tryz.prog ⟨fun _ => ⟨[], [], .nil⟩, fun i => bif Nat.beq i 0 then some [2] else none, fun _ => [], []⟩ Tryz.f143 [a0] h Q = D_impl_isNumber a0 h Q := by kernel_rfl
theorem D_impl_isNumber_of {a0 : AVal} {h : AHeap} {Q : KA} (hd : D_impl_isNumber a0 h Q) : callM Tryz.prog 143 [a0] h Q := callM_of (fn := Tryz.f143) Tryz.func143 (Nat.le_of_ble_eq_true (by kernel_rfl)) ((D_impl_isNumber_eq a0 h Q).symm ▸ hd)
theorem fn_impl_isNumber : fnT Tryz.prog 143 = true := by kernel_rfl
/- impl.isType; J1: _2 -/
def D_impl_isType (a0 : AVal) (h : AHeap) (Q : KA) : Prop :=
 @jnM ⟨fun J1 =>
 binM Tryz.prog .geq 2 a0 (i64 1) h fun x2 h2 =>
 gdM x2
 (binM Tryz.prog .leq 2 a0 (i64 3) h2 fun x3 h3 =>
 @wkM [x3] h3 ⟨J1⟩)
 (@wkM [ff] h2 ⟨J1⟩)⟩
 ⟨fun s1 h1 =>
 retW (nthA s1 0) h1 Q⟩
theorem D_impl_isType_eq (a0 : AVal) (h : AHeap) (Q : KA) : adFn Tryz.prog ⟨fun _ => ⟨[], [], .nil⟩, fun i => bif Nat.beq i 0 then some [2] else none, fun _ => [], []⟩ Tryz.f126 [a0] h Q = D_impl_isType a0 h Q := by kernel_rfl
theorem D_impl_isType_of {a0 : AVal} {h : AHeap} {Q : KA} (hd : D_impl_isType a0 h Q) : callM Tryz.prog 126 [a0] h Q := callM_of (fn := Tryz.f126) Tryz.func126 (Nat.le_of_ble_eq_true (by kernel_rfl)) ((D_impl_isType_eq a0 h Q).symm ▸ hd)
theorem fn_impl_isType : fnT Tryz.prog 126 = true := by kernel_rfl
/- impl.onBits -/
def D_impl_onBits (a0 : AVal) (h : AHeap) (Q : KA) : Prop :=
 boxFM a0 h fun x1 h1 =>
 mkFnM (.func 171) [] [x1] h1 fun x2 h2 =>
 retW x2 h2 Q
theorem D_impl_onBits_eq (a0 : AVal) (h : AHeap) (Q : KA) : adFn Tryz.prog ⟨fun _ => ⟨[], [], .nil⟩, fun _ => none, fun _ => [], [1]⟩ Tryz.f155 [a0] h Q = D_impl_onBits a0 h Q := by kernel_rfl
theorem D_impl_onBits_of {a0 : AVal} {h : AHeap} {Q : KA} (hd : D_impl_onBits a0 h Q) : callM Tryz.prog 155 [a0] h Q := callM_of (fn := Tryz.f155) Tryz.func155 (Nat.le_of_ble_eq_true (by kernel_rfl)) ((D_impl_onBits_eq a0 h Q).symm ▸ hd)
theorem fn_impl_onBits : fnT Tryz.prog 155 = true := by kernel_rfl
/- impl.onNumbers -/
def D_impl_onNumbers (a0 : AVal) (h : AHeap) (Q : KA) : Prop :=
 boxFM a0 h fun x1 h1 =>
 mkFnM (.func 165) [] [x1] h1 fun x2 h2 =>
 retW x2 h2 Q
theorem D_impl_onNumbers_eq (a0 : AVal) (h : AHeap) (Q : KA) : adFn Tryz.prog ⟨fun _ => ⟨[], [], .nil⟩, fun _ => none, fun _ => [], [1]⟩ Tryz.f149 [a0] h Q = D_impl_onNumbers a0 h Q := by kernel_rfl
theorem D_impl_onNumbers_of {a0 : AVal} {h : AHeap} {Q : KA} (hd : D_impl_onNumbers a0 h Q) : callM Tryz.prog 149 [a0] h Q := callM_of (fn := Tryz.f149) Tryz.func149 (Nat.le_of_ble_eq_true (by kernel_rfl)) ((D_impl_onNumbers_eq a0 h Q).symm ▸ hd)
theorem fn_impl_onNumbers : fnT Tryz.prog 149 = true := by kernel_rfl
/- impl.opRows -/
def D_impl_opRows (h : AHeap) (Q : KA) : Prop :=
 @clM Tryz.prog 147 [(.v (Value.string ⟨#[110, 111, 112]⟩)), (i64 1), (i64 0)] h ⟨fun x1 h1 =>
 @clM Tryz.prog 147 [(.v (Value.string ⟨#[99, 111, 110, 115, 116]⟩)), (i64 1), (i64 1)] h1 ⟨fun x2 h2 =>
 @clM Tryz.prog 147 [(.v (Value.string ⟨#[108, 111, 97, 100, 108, 111, 99, 97, 108]⟩)), (i64 1), (i64 2)] h2 ⟨fun x3 h3 =>
 @clM Tryz.prog 147 [(.v (Value.string ⟨#[115, 116, 111, 114, 101, 108, 111, 99, 97, 108]⟩)), (i64 1), (i64 2)] h3 ⟨fun x4 h4 =>
 @clM Tryz.prog 147 [(.v (Value.string ⟨#[108, 111, 97, 100]⟩)), (i64 2), (i64 3)] h4 ⟨fun x5 h5 =>
 @clM Tryz.prog 147 [(.v (Value.string ⟨#[115, 116, 111, 114, 101]⟩)), (i64 2), (i64 3)] h5 ⟨fun x6 h6 =>
 @clM Tryz.prog 147 [(.v (Value.string ⟨#[108, 111, 97, 100, 97, 116]⟩)), (i64 3), (i64 4)] h6 ⟨fun x7 h7 =>
 @clM Tryz.prog 147 [(.v (Value.string ⟨#[115, 116, 111, 114, 101, 97, 116]⟩)), (i64 3), (i64 4)] h7 ⟨fun x8 h8 =>
 @clM Tryz.prog 149 [(.fn 150 [] [])] h8 ⟨fun x9 h9 =>
 @clM Tryz.prog 148 [(.v (Value.string ⟨#[97, 100, 100]⟩)), (i64 1), (i64 5), x9] h9 ⟨fun x10 h10 =>
 @clM Tryz.prog 149 [(.fn 151 [] [])] h10 ⟨fun x11 h11 =>
 @clM Tryz.prog 148 [(.v (Value.string ⟨#[115, 117, 98]⟩)), (i64 1), (i64 5), x11] h11 ⟨fun x12 h12 =>
 @clM Tryz.prog 149 [(.fn 152 [] [])] h12 ⟨fun x13 h13 =>
 @clM Tryz.prog 148 [(.v (Value.string ⟨#[109, 117, 108]⟩)), (i64 3), (i64 5), x13] h13 ⟨fun x14 h14 =>
 @clM Tryz.prog 148 [(.v (Value.string ⟨#[100, 105, 118]⟩)), (i64 8), (i64 5), (.fn 153 [] [])] h14 ⟨fun x15 h15 =>
 @clM Tryz.prog 148 [(.v (Value.string ⟨#[109, 111, 100]⟩)), (i64 8), (i64 5), (.fn 154 [] [])] h15 ⟨fun x16 h16 =>
 @clM Tryz.prog 155 [(.fn 156 [] [])] h16 ⟨fun x17 h17 =>
 @clM Tryz.prog 148 [(.v (Value.string ⟨#[97, 110, 100]⟩)), (i64 1), (i64 6), x17] h17 ⟨fun x18 h18 =>
 @clM Tryz.prog 155 [(.fn 157 [] [])] h18 ⟨fun x19 h19 =>
 @clM Tryz.prog 148 [(.v (Value.string ⟨#[111, 114]⟩)), (i64 1), (i64 6), x19] h19 ⟨fun x20 h20 =>
 @clM Tryz.prog 155 [(.fn 158 [] [])] h20 ⟨fun x21 h21 =>
 @clM Tryz.prog 148 [(.v (Value.string ⟨#[120, 111, 114]⟩)), (i64 1), (i64 6), x21] h21 ⟨fun x22 h22 =>
 @clM Tryz.prog 148 [(.v (Value.string ⟨#[110, 111, 116]⟩)), (i64 1), (i64 6), (.fn 159 [] [])] h22 ⟨fun x23 h23 =>
 @clM Tryz.prog 148 [(.v (Value.string ⟨#[115, 104, 108]⟩)), (i64 1), (i64 0), (.fn 160 [] [])] h23 ⟨fun x24 h24 =>
 @clM Tryz.prog 148 [(.v (Value.string ⟨#[115, 104, 114]⟩)), (i64 1), (i64 0), (.fn 161 [] [])] h24 ⟨fun x25 h25 =>
 @clM Tryz.prog 148 [(.v (Value.string ⟨#[110, 101, 103]⟩)), (i64 1), (i64 0), (.fn 162 [] [])] h25 ⟨fun x26 h26 =>
 @clM Tryz.prog 148 [(.v (Value.string ⟨#[101, 113]⟩)), (i64 1), (i64 7), (.fn 163 [] [])] h26 ⟨fun x27 h27 =>
 @clM Tryz.prog 148 [(.v (Value.string ⟨#[108, 101, 115, 115]⟩)), (i64 1), (i64 5), (.fn 164 [] [])] h27 ⟨fun x28 h28 =>
 @clM Tryz.prog 147 [(.v (Value.string ⟨#[99, 111, 110, 118]⟩)), (i64 1), (i64 8)] h28 ⟨fun x29 h29 =>
 @clM Tryz.prog 147 [(.v (Value.string ⟨#[100, 117, 112]⟩)), (i64 1), (i64 0)] h29 ⟨fun x30 h30 =>
 @clM Tryz.prog 147 [(.v (Value.string ⟨#[100, 114, 111, 112]⟩)), (i64 1), (i64 0)] h30 ⟨fun x31 h31 =>
 @clM Tryz.prog 147 [(.v (Value.string ⟨#[106, 117, 109, 112]⟩)), (i64 2), (i64 9)] h31 ⟨fun x32 h32 =>
 @clM Tryz.prog 147 [(.v (Value.string ⟨#[106, 117, 109, 112, 122, 101, 114, 111]⟩)), (i64 2), (i64 9)] h32 ⟨fun x33 h33 =>
 @clM Tryz.prog 147 [(.v (Value.string ⟨#[103, 117, 97, 114, 100]⟩)), (i64 2), (i64 10)] h33 ⟨fun x34 h34 =>
 @clM Tryz.prog 147 [(.v (Value.string ⟨#[99, 97, 108, 108]⟩)), (i64 4), (i64 11)] h34 ⟨fun x35 h35 =>
 @clM Tryz.prog 147 [(.v (Value.string ⟨#[114, 101, 116, 117, 114, 110]⟩)), (i64 2), (i64 0)] h35 ⟨fun x36 h36 =>
 buildSliceM Tryz.prog 214 30 [(0, x1), (1, x2), (2, x3), (3, x4), (4, x5), (5, x6), (6, x7), (7, x8), (8, x10), (9, x12), (10, x14), (11, x15), (12, x16), (13, x18), (14, x20), (15, x22), (16, x23), (17, x24), (18, x25), (19, x26), (20, x27), (21, x28), (22, x29), (23, x30), (24, x31), (25, x32), (26, x33), (27, x34), (28, x35), (29, x36)] h36 fun x37 h37 =>
 retW x37 h37 Q⟩⟩⟩⟩⟩⟩⟩⟩⟩⟩⟩⟩⟩⟩⟩⟩⟩⟩⟩⟩⟩⟩⟩⟩⟩⟩⟩⟩⟩⟩⟩⟩⟩⟩⟩⟩
theorem D_impl_opRows_eq (h : AHeap) (Q : KA) : adFn Tryz.prog ⟨fun _ => ⟨[], [], .nil⟩, fun _ => none, fun _ => [], []⟩ Tryz.f146 [] h Q = D_impl_opRows  h Q := by kernel_rfl
theorem D_impl_opRows_of {h : AHeap} {Q : KA} (hd : D_impl_opRows  h Q) : callM Tryz.prog 146 [] h Q := callM_of (fn := Tryz.f146) Tryz.func146 (Nat.le_of_ble_eq_true (by kernel_rfl)) ((D_impl_opRows_eq  h Q).symm ▸ hd)
theorem fn_impl_opRows : fnT Tryz.prog 146 = true := by kernel_rfl
/- impl.opRows$1 -/
def D_impl_opRows_1 (a0 a1 a2 : AVal) (h : AHeap) (Q : KA) : Prop :=
 allocM Tryz.prog 213 h fun x1 h1 =>
 buildM Tryz.prog 187 [(0, a0), (1, a1), (2, a2)] h1 fun x2 h2 =>
 buildM Tryz.prog 213 [(0, x2)] h2 fun x3 h3 =>
 storeM Tryz.prog 213 x1 x3 h3 fun x4 h4 =>
 loadM Tryz.prog 213 x1 h4 fun x5 h5 =>
 retW x5 h5 Q
theorem D_impl_opRows_1_eq (a0 a1 a2 : AVal) (h : AHeap) (Q : KA) : adFn Tryz.prog ⟨fun _ => ⟨[], [], .nil⟩, fun _ => none, fun _ => [], []⟩ Tryz.f147 [a0, a1, a2] h Q = D_impl_opRows_1 a0 a1 a2 h Q := by kernel_rfl
theorem D_impl_opRows_1_of {a0 a1 a2 : AVal} {h : AHeap} {Q : KA} (hd : D_impl_opRows_1 a0 a1 a2 h Q) : callM Tryz.prog 147 [a0, a1, a2] h Q := callM_of (fn := Tryz.f147) Tryz.func147 (Nat.le_of_ble_eq_true (by kernel_rfl)) ((D_impl_opRows_1_eq a0 a1 a2 h Q).symm ▸ hd)
theorem fn_impl_opRows_1 : fnT Tryz.prog 147 = true := by kernel_rfl
/- impl.opRows$2 -/
def D_impl_opRows_2 (a0 a1 a2 a3 : AVal) (h : AHeap) (Q : KA) : Prop :=
 allocM Tryz.prog 213 h fun x1 h1 =>
 buildM Tryz.prog 187 [(0, a0), (1, a1), (2, a2)] h1 fun x2 h2 =>
 buildM Tryz.prog 213 [(0, x2), (1, a3)] h2 fun x3 h3 =>
 storeM Tryz.prog 213 x1 x3 h3 fun x4 h4 =>
 loadM Tryz.prog 213 x1 h4 fun x5 h5 =>
 retW x5 h5 Q
theorem D_impl_opRows_2_eq (a0 a1 a2 a3 : AVal) (h : AHeap) (Q : KA) : adFn Tryz.prog ⟨fun _ => ⟨[], [], .nil⟩, fun _ => none, fun _ => [], []⟩ Tryz.f148 [a0, a1, a2, a3] h Q = D_impl_opRows_2 a0 a1 a2 a3 h Q := by kernel_rfl
theorem D_impl_opRows_2_of {a0 a1 a2 a3 : AVal} {h : AHeap} {Q : KA} (hd : D_impl_opRows_2 a0 a1 a2 a3 h Q) : callM Tryz.prog 148 [a0, a1, a2, a3] h Q := callM_of (fn := Tryz.f148) Tryz.func148 (Nat.le_of_ble_eq_true (by kernel_rfl)) ((D_impl_opRows_2_eq a0 a1 a2 a3 h Q).symm ▸ hd)
theorem fn_impl_opRows_2 : fnT Tryz.prog 148 = true := by kernel_rfl
/- laws.FnExactDecode; J19: g0 w0 aB _39 -/
def D_laws_FnExactDecode (a0 : AVal) (h : AHeap) (Q : KA) : Prop :=
 lenM Tryz.prog 29 a0 h fun x1 h1 =>
 binM Tryz.prog .gtr 3 x1 (i64 1048576) h1 fun x2 h2 =>
 gdM x2
 (retW tt h2 Q)
 (@clM Tryz.prog 16 [a0] h2 ⟨fun x3 h3 =>
 @clM Tryz.prog 15 [x3] h3 ⟨fun x4 h4 =>
 allocM Tryz.prog 43 h4 fun x5 h5 =>
 storeM Tryz.prog 43 x5 x4 h5 fun x6 h6 =>
 @clM Tryz.prog 16 [a0] h6 ⟨fun x7 h7 =>
 @clM Tryz.prog 17 [x7] h7 ⟨fun x8 h8 =>
 allocM Tryz.prog 43 h8 fun x9 h9 =>
 storeM Tryz.prog 43 x9 x8 h9 fun x10 h10 =>
 loadM Tryz.prog 43 x9 h10 fun x11 h11 =>
 loadM Tryz.prog 43 x5 h11 fun x12 h12 =>
 @clM Tryz.prog 18 [x11, x12] h12 ⟨fun x13 h13 =>
 unM .not x13 h13 fun x14 h14 =>
 gdM x14
 (retW ff h14 Q)
 (@clM Tryz.prog 16 [a0] h14 ⟨fun x15 h15 =>
 @clM Tryz.prog 10 [x7, x15] h15 ⟨fun x16 h16 =>
 unM .not x16 h16 fun x17 h17 =>
 gdM x17
 (retW ff h17 Q)
 (@clM Tryz.prog 13 [x7, (i64 1)] h17 ⟨fun x18 h18 =>
 @jnM ⟨fun J19 =>
 binM Tryz.prog .lss 3 x18 (i64 0) h18 fun x20 h20 =>
 gdM x20
 (@wkM [x9, x5, a0, tt] h20 ⟨J19⟩)
 (loadM Tryz.prog 43 x9 h20 fun x21 h21 =>
 loadM Tryz.prog 43 x5 h21 fun x22 h22 =>
 @clM Tryz.prog 18 [x21, x22] h22 ⟨fun x23 h23 =>
 unM .not x23 h23 fun x24 h24 =>
 @wkM [x9, x5, a0, x24] h24 ⟨J19⟩⟩)⟩
 ⟨fun s19 h19 =>
 gdM (nthA s19 3)
 (retW ff h19 Q)
 (loadM Tryz.prog 43 (nthA s19 0) h19 fun x25 h25 =>
 @clM Tryz.prog 19 [x25, (i64 1)] h25 ⟨fun x26 h26 =>
 loadM Tryz.prog 43 (nthA s19 0) h26 fun x27 h27 =>
 @clM Tryz.prog 20 [x27, (i64 1)] h27 ⟨fun x28 h28 =>
 binM Tryz.prog .lss 3 x28 (i64 0) h28 fun x29 h29 =>
 gdM x29
 (retW ff h29 Q)
 (binM Tryz.prog .neq 3 x28 x26 h29 fun x30 h30 =>
 gdM x30
 (retW ff h30 Q)
 (@clM Tryz.prog 16 [(nthA s19 2)] h30 ⟨fun x31 h31 =>
 @clM Tryz.prog 17 [x31] h31 ⟨fun x32 h32 =>
 allocM Tryz.prog 43 h32 fun x33 h33 =>
 storeM Tryz.prog 43 x33 x32 h33 fun x34 h34 =>
 loadM Tryz.prog 43 x33 h34 fun x35 h35 =>
 loadM Tryz.prog 43 (nthA s19 1) h35 fun x36 h36 =>
 @clM Tryz.prog 18 [x35, x36] h36 ⟨fun x37 h37 =>
 unM .not x37 h37 fun x38 h38 =>
 gdM x38
 (retW ff h38 Q)
 (loadM Tryz.prog 43 (nthA s19 0) h38 fun x39 h39 =>
 @clM Tryz.prog 20 [x39, (i64 1)] h39 ⟨fun x40 h40 =>
 binM Tryz.prog .lss 3 x40 (i64 0) h40 fun x41 h41 =>
 gdM x41
 (retW ff h41 Q)
 (binM Tryz.prog .neq 3 x40 x26 h41 fun x42 h42 =>
 gdM x42
 (retW ff h42 Q)
 (retW tt h42 Q))⟩)⟩⟩⟩))⟩⟩)⟩⟩)⟩⟩)⟩⟩⟩⟩⟩)
theorem D_laws_FnExactDecode_eq (a0 : AVal) (h : AHeap) (Q : KA) : adFn Tryz.prog ⟨fun _ => ⟨[], [], .nil⟩, fun i => bif Nat.beq i 13 then some [5, 3, 0, 39] else none, fun _ => [], []⟩ Tryz.f4 [a0] h Q = D_laws_FnExactDecode a0 h Q := by kernel_rfl
theorem D_laws_FnExactDecode_of {a0 : AVal} {h : AHeap} {Q : KA} (hd : D_laws_FnExactDecode a0 h Q) : callM Tryz.prog 4 [a0] h Q := callM_of (fn := Tryz.f4) Tryz.func4 (Nat.le_of_ble_eq_true (by kernel_rfl)) ((D_laws_FnExactDecode_eq a0 h Q).symm ▸ hd)
theorem fn_laws_FnExactDecode : fnT Tryz.prog 4 = true := by kernel_rfl
/- laws.eqByteS; J4: i b a -/
def or_laws_eqByteS_6 : DR := ⟨[0, 0, 3, 4, 0, 0, 48, 64, 136], [0, 0, 3, 7, 0, 0, 48, 112, 255], (.one 0 (.one 1 (.one 2 (.one 3 (.one 4 (.one 5 (.one 6 (.one 7 (.one 8 .nil)))))))))⟩
@[simp] theorem dr_laws_eqByteS_6 : drawnOK Tryz.prog [] (regOps Tryz.f10 6) or_laws_eqByteS_6 = True := eq_true ⟨by kernel_rfl, by kernel_rfl⟩
def D_laws_eqByteS (a0 a1 : AVal) (h : AHeap) (Q : KA) : Prop :=
 lenM Tryz.prog 29 a0 h fun x1 h1 =>
 lenM Tryz.prog 29 a1 h1 fun x2 h2 =>
 binM Tryz.prog .neq 3 x1 x2 h2 fun x3 h3 =>
 gdM x3
 (retW ff h3 Q)
 (@lpM [(i64 0), a1, a0] h3 ⟨fun s4 h4 J4 =>
 lenM Tryz.prog 29 (nthA s4 2) h4 fun x5 h5 =>
 binM Tryz.prog .lss 3 (nthA s4 0) x5 h5 fun x6 h6 =>
 gdM x6
 (And (drawnOK Tryz.prog [] (regOps Tryz.f10 6) or_laws_eqByteS_6) (ixAddrM Tryz.prog 29 (nthA s4 2) (nthA s4 0) h6 fun x7 h7 =>
 loadM Tryz.prog 5 x7 h7 fun x8 h8 =>
 ixAddrM Tryz.prog 29 (nthA s4 1) (nthA s4 0) h8 fun x9 h9 =>
 loadM Tryz.prog 5 x9 h9 fun x10 h10 =>
 binM Tryz.prog .neq 5 x8 x10 h10 fun x11 h11 =>
 gdM x11
 (retW ff h11 Q)
 (binM Tryz.prog .add 3 (nthA s4 0) (i64 1) h11 fun x12 h12 =>
 @wkM [x12, (nthA s4 1), (nthA s4 2)] h12 ⟨J4⟩)))
 (retW tt h6 Q)⟩)
theorem D_laws_eqByteS_eq (a0 a1 : AVal) (h : AHeap) (Q : KA) : adFn Tryz.prog ⟨fun i => bif Nat.beq i 6 then or_laws_eqByteS_6 else ⟨[], [], .nil⟩, fun _ => none, fun i => bif Nat.beq i 4 then [5, 1, 0] else [], []⟩ Tryz.f10 [a0, a1] h Q = D_laws_eqByteS a0 a1 h Q := by kernel_rfl
theorem D_laws_eqByteS_of {a0 a1 : AVal} {h : AHeap} {Q : KA} (hd : D_laws_eqByteS a0 a1 h Q) : callM Tryz.prog 10 [a0, a1] h Q := callM_of (fn := Tryz.f10) Tryz.func10 (Nat.le_of_ble_eq_true (by kernel_rfl)) ((D_laws_eqByteS_eq a0 a1 h Q).symm ▸ hd)
theorem fn_laws_eqByteS : fnT Tryz.prog 10 = true := by kernel_rfl
/- laws.eqCert -/
def D_laws_eqCert (a0 a1 : AVal) (h : AHeap) (Q : KA) : Prop :=
 boxFM a0 h fun x1 h1 =>
 boxFM a1 h1 fun x2 h2 =>
 fldAddrM Tryz.prog 83 x1 0 h2 fun x3 h3 =>
 loadM Tryz.prog 2 x3 h3 fun x4 h4 =>
 fldAddrM Tryz.prog 83 x2 0 h4 fun x5 h5 =>
 loadM Tryz.prog 2 x5 h5 fun x6 h6 =>
 binM Tryz.prog .neq 2 x4 x6 h6 fun x7 h7 =>
 gdM x7
 (retW ff h7 Q)
 (fldAddrM Tryz.prog 83 x1 1 h7 fun x8 h8 =>
 loadM Tryz.prog 2 x8 h8 fun x9 h9 =>
 fldAddrM Tryz.prog 83 x2 1 h9 fun x10 h10 =>
 loadM Tryz.prog 2 x10 h10 fun x11 h11 =>
 binM Tryz.prog .neq 2 x9 x11 h11 fun x12 h12 =>
 gdM x12
 (retW ff h12 Q)
 (fldAddrM Tryz.prog 83 x1 2 h12 fun x13 h13 =>
 loadM Tryz.prog 2 x13 h13 fun x14 h14 =>
 fldAddrM Tryz.prog 83 x2 2 h14 fun x15 h15 =>
 loadM Tryz.prog 2 x15 h15 fun x16 h16 =>
 binM Tryz.prog .neq 2 x14 x16 h16 fun x17 h17 =>
 gdM x17
 (retW ff h17 Q)
 (fldAddrM Tryz.prog 83 x1 3 h17 fun x18 h18 =>
 loadM Tryz.prog 74 x18 h18 fun x19 h19 =>
 fldAddrM Tryz.prog 83 x2 3 h19 fun x20 h20 =>
 loadM Tryz.prog 74 x20 h20 fun x21 h21 =>
 binM Tryz.prog .neq 74 x19 x21 h21 fun x22 h22 =>
 gdM x22
 (retW ff h22 Q)
 (retW tt h22 Q))))
theorem D_laws_eqCert_eq (a0 a1 : AVal) (h : AHeap) (Q : KA) : adFn Tryz.prog ⟨fun _ => ⟨[], [], .nil⟩, fun _ => none, fun _ => [], [2, 3]⟩ Tryz.f98 [a0, a1] h Q = D_laws_eqCert a0 a1 h Q := by kernel_rfl
theorem D_laws_eqCert_of {a0 a1 : AVal} {h : AHeap} {Q : KA} (hd : D_laws_eqCert a0 a1 h Q) : callM Tryz.prog 98 [a0, a1] h Q := callM_of (fn := Tryz.f98) Tryz.func98 (Nat.le_of_ble_eq_true (by kernel_rfl)) ((D_laws_eqCert_eq a0 a1 h Q).symm ▸ hd)
theorem fn_laws_eqCert : fnT Tryz.prog 98 = true := by kernel_rfl
/- laws.eqCertS; J4: i b a -/
def or_laws_eqCertS_6 : DR := ⟨[0, 0, 3, 4, 0, 0, 48, 64, 136, 256], [0, 0, 3, 7, 0, 0, 48, 112, 255, 511], (.one 0 (.one 1 (.one 2 (.one 3 (.one 4 (.one 5 (.one 6 (.one 7 (.one 8 (.one 9 .nil))))))))))⟩
@[simp] theorem dr_laws_eqCertS_6 : drawnOK Tryz.prog [] (regOps Tryz.f49 6) or_laws_eqCertS_6 = True := eq_true ⟨by kernel_rfl, by kernel_rfl⟩
def D_laws_eqCertS (a0 a1 : AVal) (h : AHeap) (Q : KA) : Prop :=
 lenM Tryz.prog 33 a0 h fun x1 h1 =>
 lenM Tryz.prog 33 a1 h1 fun x2 h2 =>
 binM Tryz.prog .neq 3 x1 x2 h2 fun x3 h3 =>
 gdM x3
 (retW ff h3 Q)
 (@lpM [(i64 0), a1, a0] h3 ⟨fun s4 h4 J4 =>
 lenM Tryz.prog 33 (nthA s4 2) h4 fun x5 h5 =>
 binM Tryz.prog .lss 3 (nthA s4 0) x5 h5 fun x6 h6 =>
 gdM x6
 (And (drawnOK Tryz.prog [] (regOps Tryz.f49 6) or_laws_eqCertS_6) (ixAddrM Tryz.prog 33 (nthA s4 2) (nthA s4 0) h6 fun x7 h7 =>
 loadM Tryz.prog 83 x7 h7 fun x8 h8 =>
 ixAddrM Tryz.prog 33 (nthA s4 1) (nthA s4 0) h8 fun x9 h9 =>
 loadM Tryz.prog 83 x9 h9 fun x10 h10 =>
 @clM Tryz.prog 98 [x8, x10] h10 ⟨fun x11 h11 =>
 unM .not x11 h11 fun x12 h12 =>
 gdM x12
 (retW ff h12 Q)
 (binM Tryz.prog .add 3 (nthA s4 0) (i64 1) h12 fun x13 h13 =>
 @wkM [x13, (nthA s4 1), (nthA s4 2)] h13 ⟨J4⟩)⟩))
 (retW tt h6 Q)⟩)
theorem D_laws_eqCertS_eq (a0 a1 : AVal) (h : AHeap) (Q : KA) : adFn Tryz.prog ⟨fun i => bif Nat.beq i 6 then or_laws_eqCertS_6 else ⟨[], [], .nil⟩, fun _ => none, fun i => bif Nat.beq i 4 then [5, 1, 0] else [], []⟩ Tryz.f49 [a0, a1] h Q = D_laws_eqCertS a0 a1 h Q := by kernel_rfl
theorem D_laws_eqCertS_of {a0 a1 : AVal} {h : AHeap} {Q : KA} (hd : D_laws_eqCertS a0 a1 h Q) : callM Tryz.prog 49 [a0, a1] h Q := callM_of (fn := Tryz.f49) Tryz.func49 (Nat.le_of_ble_eq_true (by kernel_rfl)) ((D_laws_eqCertS_eq a0 a1 h Q).symm ▸ hd)
theorem fn_laws_eqCertS : fnT Tryz.prog 49 = true := by kernel_rfl
/- laws.eqConst -/
def D_laws_eqConst (a0 a1 : AVal) (h : AHeap) (Q : KA) : Prop :=
 boxFM a0 h fun x1 h1 =>
 boxFM a1 h1 fun x2 h2 =>
 fldAddrM Tryz.prog 76 x1 0 h2 fun x3 h3 =>
 loadM Tryz.prog 2 x3 h3 fun x4 h4 =>
 fldAddrM Tryz.prog 76 x2 0 h4 fun x5 h5 =>
 loadM Tryz.prog 2 x5 h5 fun x6 h6 =>
 binM Tryz.prog .neq 2 x4 x6 h6 fun x7 h7 =>
 gdM x7
 (retW ff h7 Q)
 (fldAddrM Tryz.prog 76 x1 1 h7 fun x8 h8 =>
 loadM Tryz.prog 74 x8 h8 fun x9 h9 =>
 fldAddrM Tryz.prog 76 x2 1 h9 fun x10 h10 =>
 loadM Tryz.prog 74 x10 h10 fun x11 h11 =>
 binM Tryz.prog .neq 74 x9 x11 h11 fun x12 h12 =>
 gdM x12
 (retW ff h12 Q)
 (retW tt h12 Q))
theorem D_laws_eqConst_eq (a0 a1 : AVal) (h : AHeap) (Q : KA) : adFn Tryz.prog ⟨fun _ => ⟨[], [], .nil⟩, fun _ => none, fun _ => [], [2, 3]⟩ Tryz.f96 [a0, a1] h Q = D_laws_eqConst a0 a1 h Q := by kernel_rfl
theorem D_laws_eqConst_of {a0 a1 : AVal} {h : AHeap} {Q : KA} (hd : D_laws_eqConst a0 a1 h Q) : callM Tryz.prog 96 [a0, a1] h Q := callM_of (fn := Tryz.f96) Tryz.func96 (Nat.le_of_ble_eq_true (by kernel_rfl)) ((D_laws_eqConst_eq a0 a1 h Q).symm ▸ hd)
theorem fn_laws_eqConst : fnT Tryz.prog 96 = true := by kernel_rfl
/- laws.eqConstS; J4: i b a -/
def or_laws_eqConstS_6 : DR := ⟨[0, 0, 3, 4, 0, 0, 48, 64, 136, 256], [0, 0, 3, 7, 0, 0, 48, 112, 255, 511], (.one 0 (.one 1 (.one 2 (.one 3 (.one 4 (.one 5 (.one 6 (.one 7 (.one 8 (.one 9 .nil))))))))))⟩
@[simp] theorem dr_laws_eqConstS_6 : drawnOK Tryz.prog [] (regOps Tryz.f47 6) or_laws_eqConstS_6 = True := eq_true ⟨by kernel_rfl, by kernel_rfl⟩
def D_laws_eqConstS (a0 a1 : AVal) (h : AHeap) (Q : KA) : Prop :=
 lenM Tryz.prog 31 a0 h fun x1 h1 =>
 lenM Tryz.prog 31 a1 h1 fun x2 h2 =>
 binM Tryz.prog .neq 3 x1 x2 h2 fun x3 h3 =>
 gdM x3
 (retW ff h3 Q)
 (@lpM [(i64 0), a1, a0] h3 ⟨fun s4 h4 J4 =>
 lenM Tryz.prog 31 (nthA s4 2) h4 fun x5 h5 =>
 binM Tryz.prog .lss 3 (nthA s4 0) x5 h5 fun x6 h6 =>
 gdM x6
 (And (drawnOK Tryz.prog [] (regOps Tryz.f47 6) or_laws_eqConstS_6) (ixAddrM Tryz.prog 31 (nthA s4 2) (nthA s4 0) h6 fun x7 h7 =>
 loadM Tryz.prog 76 x7 h7 fun x8 h8 =>
 ixAddrM Tryz.prog 31 (nthA s4 1) (nthA s4 0) h8 fun x9 h9 =>
 loadM Tryz.prog 76 x9 h9 fun x10 h10 =>
 @clM Tryz.prog 96 [x8, x10] h10 ⟨fun x11 h11 =>
 unM .not x11 h11 fun x12 h12 =>
 gdM x12
 (retW ff h12 Q)
 (binM Tryz.prog .add 3 (nthA s4 0) (i64 1) h12 fun x13 h13 =>
 @wkM [x13, (nthA s4 1), (nthA s4 2)] h13 ⟨J4⟩)⟩))
 (retW tt h6 Q)⟩)
theorem D_laws_eqConstS_eq (a0 a1 : AVal) (h : AHeap) (Q : KA) : adFn Tryz.prog ⟨fun i => bif Nat.beq i 6 then or_laws_eqConstS_6 else ⟨[], [], .nil⟩, fun _ => none, fun i => bif Nat.beq i 4 then [5, 1, 0] else [], []⟩ Tryz.f47 [a0, a1] h Q = D_laws_eqConstS a0 a1 h Q := by kernel_rfl
theorem D_laws_eqConstS_of {a0 a1 : AVal} {h : AHeap} {Q : KA} (hd : D_laws_eqConstS a0 a1 h Q) : callM Tryz.prog 47 [a0, a1] h Q := callM_of (fn := Tryz.f47) Tryz.func47 (Nat.le_of_ble_eq_true (by kernel_rfl)) ((D_laws_eqConstS_eq a0 a1 h Q).symm ▸ hd)
theorem fn_laws_eqConstS : fnT Tryz.prog 47 = true := by kernel_rfl
/- laws.eqFunc -/
def D_laws_eqFunc (a0 a1 : AVal) (h : AHeap) (Q : KA) : Prop :=
 boxFM a0 h fun x1 h1 =>
 boxFM a1 h1 fun x2 h2 =>
 fldAddrM Tryz.prog 79 x1 0 h2 fun x3 h3 =>
 loadM Tryz.prog 72 x3 h3 fun x4 h4 =>
 fldAddrM Tryz.prog 79 x2 0 h4 fun x5 h5 =>
 loadM Tryz.prog 72 x5 h5 fun x6 h6 =>
 @clM Tryz.prog 95 [x4, x6] h6 ⟨fun x7 h7 =>
 unM .not x7 h7 fun x8 h8 =>
 gdM x8
 (retW ff h8 Q)
 (fldAddrM Tryz.prog 79 x1 1 h8 fun x9 h9 =>
 loadM Tryz.prog 2 x9 h9 fun x10 h10 =>
 fldAddrM Tryz.prog 79 x2 1 h10 fun x11 h11 =>
 loadM Tryz.prog 2 x11 h11 fun x12 h12 =>
 binM Tryz.prog .neq 2 x10 x12 h12 fun x13 h13 =>
 gdM x13
 (retW ff h13 Q)
 (fldAddrM Tryz.prog 79 x1 2 h13 fun x14 h14 =>
 loadM Tryz.prog 72 x14 h14 fun x15 h15 =>
 fldAddrM Tryz.prog 79 x2 2 h15 fun x16 h16 =>
 loadM Tryz.prog 72 x16 h16 fun x17 h17 =>
 @clM Tryz.prog 95 [x15, x17] h17 ⟨fun x18 h18 =>
 unM .not x18 h18 fun x19 h19 =>
 gdM x19
 (retW ff h19 Q)
 (fldAddrM Tryz.prog 79 x1 3 h19 fun x20 h20 =>
 loadM Tryz.prog 77 x20 h20 fun x21 h21 =>
 fldAddrM Tryz.prog 79 x2 3 h21 fun x22 h22 =>
 loadM Tryz.prog 77 x22 h22 fun x23 h23 =>
 @clM Tryz.prog 132 [x21, x23] h23 ⟨fun x24 h24 =>
 unM .not x24 h24 fun x25 h25 =>
 gdM x25
 (retW ff h25 Q)
 (retW tt h25 Q)⟩)⟩))⟩
theorem D_laws_eqFunc_eq (a0 a1 : AVal) (h : AHeap) (Q : KA) : adFn Tryz.prog ⟨fun _ => ⟨[], [], .nil⟩, fun _ => none, fun _ => [], [2, 3]⟩ Tryz.f97 [a0, a1] h Q = D_laws_eqFunc a0 a1 h Q := by kernel_rfl
theorem D_laws_eqFunc_of {a0 a1 : AVal} {h : AHeap} {Q : KA} (hd : D_laws_eqFunc a0 a1 h Q) : callM Tryz.prog 97 [a0, a1] h Q := callM_of (fn := Tryz.f97) Tryz.func97 (Nat.le_of_ble_eq_true (by kernel_rfl)) ((D_laws_eqFunc_eq a0 a1 h Q).symm ▸ hd)
theorem fn_laws_eqFunc : fnT Tryz.prog 97 = true := by kernel_rfl
/- laws.eqFuncS; J4: i b a -/
def or_laws_eqFuncS_6 : DR := ⟨[0, 0, 3, 4, 0, 0, 48, 64, 136, 256], [0, 0, 3, 7, 0, 0, 48, 112, 255, 511], (.one 0 (.one 1 (.one 2 (.one 3 (.one 4 (.one 5 (.one 6 (.one 7 (.one 8 (.one 9 .nil))))))))))⟩
@[simp] theorem dr_laws_eqFuncS_6 : drawnOK Tryz.prog [] (regOps Tryz.f48 6) or_laws_eqFuncS_6 = True := eq_true ⟨by kernel_rfl, by kernel_rfl⟩
def D_laws_eqFuncS (a0 a1 : AVal) (h : AHeap) (Q : KA) : Prop :=
 lenM Tryz.prog 32 a0 h fun x1 h1 =>
 lenM Tryz.prog 32 a1 h1 fun x2 h2 =>
 binM Tryz.prog .neq 3 x1 x2 h2 fun x3 h3 =>
 gdM x3
 (retW ff h3 Q)
 (@lpM [(i64 0), a1, a0] h3 ⟨fun s4 h4 J4 =>
 lenM Tryz.prog 32 (nthA s4 2) h4 fun x5 h5 =>
 binM Tryz.prog .lss 3 (nthA s4 0) x5 h5 fun x6 h6 =>
 gdM x6
 (And (drawnOK Tryz.prog [] (regOps Tryz.f48 6) or_laws_eqFuncS_6) (ixAddrM Tryz.prog 32 (nthA s4 2) (nthA s4 0) h6 fun x7 h7 =>
 loadM Tryz.prog 79 x7 h7 fun x8 h8 =>
 ixAddrM Tryz.prog 32 (nthA s4 1) (nthA s4 0) h8 fun x9 h9 =>
 loadM Tryz.prog 79 x9 h9 fun x10 h10 =>
 @clM Tryz.prog 97 [x8, x10] h10 ⟨fun x11 h11 =>
 unM .not x11 h11 fun x12 h12 =>
 gdM x12
 (retW ff h12 Q)
 (binM Tryz.prog .add 3 (nthA s4 0) (i64 1) h12 fun x13 h13 =>
 @wkM [x13, (nthA s4 1), (nthA s4 2)] h13 ⟨J4⟩)⟩))
 (retW tt h6 Q)⟩)
theorem D_laws_eqFuncS_eq (a0 a1 : AVal) (h : AHeap) (Q : KA) : adFn Tryz.prog ⟨fun i => bif Nat.beq i 6 then or_laws_eqFuncS_6 else ⟨[], [], .nil⟩, fun _ => none, fun i => bif Nat.beq i 4 then [5, 1, 0] else [], []⟩ Tryz.f48 [a0, a1] h Q = D_laws_eqFuncS a0 a1 h Q := by kernel_rfl
theorem D_laws_eqFuncS_of {a0 a1 : AVal} {h : AHeap} {Q : KA} (hd : D_laws_eqFuncS a0 a1 h Q) : callM Tryz.prog 48 [a0, a1] h Q := callM_of (fn := Tryz.f48) Tryz.func48 (Nat.le_of_ble_eq_true (by kernel_rfl)) ((D_laws_eqFuncS_eq a0 a1 h Q).symm ▸ hd)
theorem fn_laws_eqFuncS : fnT Tryz.prog 48 = true := by kernel_rfl
/- laws.eqInstr -/
def D_laws_eqInstr (a0 a1 : AVal) (h : AHeap) (Q : KA) : Prop :=
 boxFM a0 h fun x1 h1 =>
 boxFM a1 h1 fun x2 h2 =>
 fldAddrM Tryz.prog 81 x1 0 h2 fun x3 h3 =>
 loadM Tryz.prog 2 x3 h3 fun x4 h4 =>
 fldAddrM Tryz.prog 81 x2 0 h4 fun x5 h5 =>
 loadM Tryz.prog 2 x5 h5 fun x6 h6 =>
 binM Tryz.prog .neq 2 x4 x6 h6 fun x7 h7 =>
 gdM x7
 (retW ff h7 Q)
 (fldAddrM Tryz.prog 81 x1 1 h7 fun x8 h8 =>
 loadM Tryz.prog 2 x8 h8 fun x9 h9 =>
 fldAddrM Tryz.prog 81 x2 1 h9 fun x10 h10 =>
 loadM Tryz.prog 2 x10 h10 fun x11 h11 =>
 binM Tryz.prog .neq 2 x9 x11 h11 fun x12 h12 =>
 gdM x12
 (retW ff h12 Q)
 (fldAddrM Tryz.prog 81 x1 2 h12 fun x13 h13 =>
 loadM Tryz.prog 2 x13 h13 fun x14 h14 =>
 fldAddrM Tryz.prog 81 x2 2 h14 fun x15 h15 =>
 loadM Tryz.prog 2 x15 h15 fun x16 h16 =>
 binM Tryz.prog .neq 2 x14 x16 h16 fun x17 h17 =>
 gdM x17
 (retW ff h17 Q)
 (fldAddrM Tryz.prog 81 x1 3 h17 fun x18 h18 =>
 loadM Tryz.prog 2 x18 h18 fun x19 h19 =>
 fldAddrM Tryz.prog 81 x2 3 h19 fun x20 h20 =>
 loadM Tryz.prog 2 x20 h20 fun x21 h21 =>
 binM Tryz.prog .neq 2 x19 x21 h21 fun x22 h22 =>
 gdM x22
 (retW ff h22 Q)
 (retW tt h22 Q))))
theorem D_laws_eqInstr_eq (a0 a1 : AVal) (h : AHeap) (Q : KA) : adFn Tryz.prog ⟨fun _ => ⟨[], [], .nil⟩, fun _ => none, fun _ => [], [2, 3]⟩ Tryz.f145 [a0, a1] h Q = D_laws_eqInstr a0 a1 h Q := by kernel_rfl
theorem D_laws_eqInstr_of {a0 a1 : AVal} {h : AHeap} {Q : KA} (hd : D_laws_eqInstr a0 a1 h Q) : callM Tryz.prog 145 [a0, a1] h Q := callM_of (fn := Tryz.f145) Tryz.func145 (Nat.le_of_ble_eq_true (by kernel_rfl)) ((D_laws_eqInstr_eq a0 a1 h Q).symm ▸ hd)
theorem fn_laws_eqInstr : fnT Tryz.prog 145 = true := by kernel_rfl
/- laws.eqInstrS; J4: i b a -/
def or_laws_eqInstrS_6 : DR := ⟨[0, 0, 3, 4, 0, 0, 48, 64, 136, 256], [0, 0, 3, 7, 0, 0, 48, 112, 255, 511], (.one 0 (.one 1 (.one 2 (.one 3 (.one 4 (.one 5 (.one 6 (.one 7 (.one 8 (.one 9 .nil))))))))))⟩
@[simp] theorem dr_laws_eqInstrS_6 : drawnOK Tryz.prog [] (regOps Tryz.f132 6) or_laws_eqInstrS_6 = True := eq_true ⟨by kernel_rfl, by kernel_rfl⟩
def D_laws_eqInstrS (a0 a1 : AVal) (h : AHeap) (Q : KA) : Prop :=
 lenM Tryz.prog 77 a0 h fun x1 h1 =>
 lenM Tryz.prog 77 a1 h1 fun x2 h2 =>
 binM Tryz.prog .neq 3 x1 x2 h2 fun x3 h3 =>
 gdM x3
 (retW ff h3 Q)
 (@lpM [(i64 0), a1, a0] h3 ⟨fun s4 h4 J4 =>
 lenM Tryz.prog 77 (nthA s4 2) h4 fun x5 h5 =>
 binM Tryz.prog .lss 3 (nthA s4 0) x5 h5 fun x6 h6 =>
 gdM x6
 (And (drawnOK Tryz.prog [] (regOps Tryz.f132 6) or_laws_eqInstrS_6) (ixAddrM Tryz.prog 77 (nthA s4 2) (nthA s4 0) h6 fun x7 h7 =>
 loadM Tryz.prog 81 x7 h7 fun x8 h8 =>
 ixAddrM Tryz.prog 77 (nthA s4 1) (nthA s4 0) h8 fun x9 h9 =>
 loadM Tryz.prog 81 x9 h9 fun x10 h10 =>
 @clM Tryz.prog 145 [x8, x10] h10 ⟨fun x11 h11 =>
 unM .not x11 h11 fun x12 h12 =>
 gdM x12
 (retW ff h12 Q)
 (binM Tryz.prog .add 3 (nthA s4 0) (i64 1) h12 fun x13 h13 =>
 @wkM [x13, (nthA s4 1), (nthA s4 2)] h13 ⟨J4⟩)⟩))
 (retW tt h6 Q)⟩)
theorem D_laws_eqInstrS_eq (a0 a1 : AVal) (h : AHeap) (Q : KA) : adFn Tryz.prog ⟨fun i => bif Nat.beq i 6 then or_laws_eqInstrS_6 else ⟨[], [], .nil⟩, fun _ => none, fun i => bif Nat.beq i 4 then [5, 1, 0] else [], []⟩ Tryz.f132 [a0, a1] h Q = D_laws_eqInstrS a0 a1 h Q := by kernel_rfl
theorem D_laws_eqInstrS_of {a0 a1 : AVal} {h : AHeap} {Q : KA} (hd : D_laws_eqInstrS a0 a1 h Q) : callM Tryz.prog 132 [a0, a1] h Q := callM_of (fn := Tryz.f132) Tryz.func132 (Nat.le_of_ble_eq_true (by kernel_rfl)) ((D_laws_eqInstrS_eq a0 a1 h Q).symm ▸ hd)
theorem fn_laws_eqInstrS : fnT Tryz.prog 132 = true := by kernel_rfl
/- laws.eqInt64S; J4: i b a -/
def or_laws_eqInt64S_6 : DR := ⟨[0, 0, 3, 4, 0, 0, 48, 64, 136], [0, 0, 3, 7, 0, 0, 48, 112, 255], (.one 0 (.one 1 (.one 2 (.one 3 (.one 4 (.one 5 (.one 6 (.one 7 (.one 8 .nil)))))))))⟩
@[simp] theorem dr_laws_eqInt64S_6 : drawnOK Tryz.prog [] (regOps Tryz.f95 6) or_laws_eqInt64S_6 = True := eq_true ⟨by kernel_rfl, by kernel_rfl⟩
def D_laws_eqInt64S (a0 a1 : AVal) (h : AHeap) (Q : KA) : Prop :=
 lenM Tryz.prog 72 a0 h fun x1 h1 =>
 lenM Tryz.prog 72 a1 h1 fun x2 h2 =>
 binM Tryz.prog .neq 3 x1 x2 h2 fun x3 h3 =>
 gdM x3
 (retW ff h3 Q)
 (@lpM [(i64 0), a1, a0] h3 ⟨fun s4 h4 J4 =>
 lenM Tryz.prog 72 (nthA s4 2) h4 fun x5 h5 =>
 binM Tryz.prog .lss 3 (nthA s4 0) x5 h5 fun x6 h6 =>
 gdM x6
 (And (drawnOK Tryz.prog [] (regOps Tryz.f95 6) or_laws_eqInt64S_6) (ixAddrM Tryz.prog 72 (nthA s4 2) (nthA s4 0) h6 fun x7 h7 =>
 loadM Tryz.prog 2 x7 h7 fun x8 h8 =>
 ixAddrM Tryz.prog 72 (nthA s4 1) (nthA s4 0) h8 fun x9 h9 =>
 loadM Tryz.prog 2 x9 h9 fun x10 h10 =>
 binM Tryz.prog .neq 2 x8 x10 h10 fun x11 h11 =>
 gdM x11
 (retW ff h11 Q)
 (binM Tryz.prog .add 3 (nthA s4 0) (i64 1) h11 fun x12 h12 =>
 @wkM [x12, (nthA s4 1), (nthA s4 2)] h12 ⟨J4⟩)))
 (retW tt h6 Q)⟩)
theorem D_laws_eqInt64S_eq (a0 a1 : AVal) (h : AHeap) (Q : KA) : adFn Tryz.prog ⟨fun i => bif Nat.beq i 6 then or_laws_eqInt64S_6 else ⟨[], [], .nil⟩, fun _ => none, fun i => bif Nat.beq i 4 then [5, 1, 0] else [], []⟩ Tryz.f95 [a0, a1] h Q = D_laws_eqInt64S a0 a1 h Q := by kernel_rfl
theorem D_laws_eqInt64S_of {a0 a1 : AVal} {h : AHeap} {Q : KA} (hd : D_laws_eqInt64S a0 a1 h Q) : callM Tryz.prog 95 [a0, a1] h Q := callM_of (fn := Tryz.f95) Tryz.func95 (Nat.le_of_ble_eq_true (by kernel_rfl)) ((D_laws_eqInt64S_eq a0 a1 h Q).symm ▸ hd)
theorem fn_laws_eqInt64S : fnT Tryz.prog 95 = true := by kernel_rfl
/- laws.eqInt64SS; J4: i b a -/
def or_laws_eqInt64SS_6 : DR := ⟨[0, 0, 3, 4, 0, 0, 48, 64, 136, 256], [0, 0, 3, 7, 0, 0, 48, 112, 255, 511], (.one 0 (.one 1 (.one 2 (.one 3 (.one 4 (.one 5 (.one 6 (.one 7 (.one 8 (.one 9 .nil))))))))))⟩
@[simp] theorem dr_laws_eqInt64SS_6 : drawnOK Tryz.prog [] (regOps Tryz.f46 6) or_laws_eqInt64SS_6 = True := eq_true ⟨by kernel_rfl, by kernel_rfl⟩
def D_laws_eqInt64SS (a0 a1 : AVal) (h : AHeap) (Q : KA) : Prop :=
 lenM Tryz.prog 22 a0 h fun x1 h1 =>
 lenM Tryz.prog 22 a1 h1 fun x2 h2 =>
 binM Tryz.prog .neq 3 x1 x2 h2 fun x3 h3 =>
 gdM x3
 (retW ff h3 Q)
 (@lpM [(i64 0), a1, a0] h3 ⟨fun s4 h4 J4 =>
 lenM Tryz.prog 22 (nthA s4 2) h4 fun x5 h5 =>
 binM Tryz.prog .lss 3 (nthA s4 0) x5 h5 fun x6 h6 =>
 gdM x6
 (And (drawnOK Tryz.prog [] (regOps Tryz.f46 6) or_laws_eqInt64SS_6) (ixAddrM Tryz.prog 22 (nthA s4 2) (nthA s4 0) h6 fun x7 h7 =>
 loadM Tryz.prog 72 x7 h7 fun x8 h8 =>
 ixAddrM Tryz.prog 22 (nthA s4 1) (nthA s4 0) h8 fun x9 h9 =>
 loadM Tryz.prog 72 x9 h9 fun x10 h10 =>
 @clM Tryz.prog 95 [x8, x10] h10 ⟨fun x11 h11 =>
 unM .not x11 h11 fun x12 h12 =>
 gdM x12
 (retW ff h12 Q)
 (binM Tryz.prog .add 3 (nthA s4 0) (i64 1) h12 fun x13 h13 =>
 @wkM [x13, (nthA s4 1), (nthA s4 2)] h13 ⟨J4⟩)⟩))
 (retW tt h6 Q)⟩)
theorem D_laws_eqInt64SS_eq (a0 a1 : AVal) (h : AHeap) (Q : KA) : adFn Tryz.prog ⟨fun i => bif Nat.beq i 6 then or_laws_eqInt64SS_6 else ⟨[], [], .nil⟩, fun _ => none, fun i => bif Nat.beq i 4 then [5, 1, 0] else [], []⟩ Tryz.f46 [a0, a1] h Q = D_laws_eqInt64SS a0 a1 h Q := by kernel_rfl
theorem D_laws_eqInt64SS_of {a0 a1 : AVal} {h : AHeap} {Q : KA} (hd : D_laws_eqInt64SS a0 a1 h Q) : callM Tryz.prog 46 [a0, a1] h Q := callM_of (fn := Tryz.f46) Tryz.func46 (Nat.le_of_ble_eq_true (by kernel_rfl)) ((D_laws_eqInt64SS_eq a0 a1 h Q).symm ▸ hd)
theorem fn_laws_eqInt64SS : fnT Tryz.prog 46 = true := by kernel_rfl
/- laws.eqProgram -/
def D_laws_eqProgram (a0 a1 : AVal) (h : AHeap) (Q : KA) : Prop :=
 boxFM a0 h fun x1 h1 =>
 boxFM a1 h1 fun x2 h2 =>
 fldAddrM Tryz.prog 35 x1 0 h2 fun x3 h3 =>
 loadM Tryz.prog 22 x3 h3 fun x4 h4 =>
 fldAddrM Tryz.prog 35 x2 0 h4 fun x5 h5 =>
 loadM Tryz.prog 22 x5 h5 fun x6 h6 =>
 @clM Tryz.prog 46 [x4, x6] h6 ⟨fun x7 h7 =>
 unM .not x7 h7 fun x8 h8 =>
 gdM x8
 (retW ff h8 Q)
 (fldAddrM Tryz.prog 35 x1 1 h8 fun x9 h9 =>
 loadM Tryz.prog 31 x9 h9 fun x10 h10 =>
 fldAddrM Tryz.prog 35 x2 1 h10 fun x11 h11 =>
 loadM Tryz.prog 31 x11 h11 fun x12 h12 =>
 @clM Tryz.prog 47 [x10, x12] h12 ⟨fun x13 h13 =>
 unM .not x13 h13 fun x14 h14 =>
 gdM x14
 (retW ff h14 Q)
 (fldAddrM Tryz.prog 35 x1 2 h14 fun x15 h15 =>
 loadM Tryz.prog 32 x15 h15 fun x16 h16 =>
 fldAddrM Tryz.prog 35 x2 2 h16 fun x17 h17 =>
 loadM Tryz.prog 32 x17 h17 fun x18 h18 =>
 @clM Tryz.prog 48 [x16, x18] h18 ⟨fun x19 h19 =>
 unM .not x19 h19 fun x20 h20 =>
 gdM x20
 (retW ff h20 Q)
 (fldAddrM Tryz.prog 35 x1 3 h20 fun x21 h21 =>
 loadM Tryz.prog 33 x21 h21 fun x22 h22 =>
 fldAddrM Tryz.prog 35 x2 3 h22 fun x23 h23 =>
 loadM Tryz.prog 33 x23 h23 fun x24 h24 =>
 @clM Tryz.prog 49 [x22, x24] h24 ⟨fun x25 h25 =>
 unM .not x25 h25 fun x26 h26 =>
 gdM x26
 (retW ff h26 Q)
 (retW tt h26 Q)⟩)⟩)⟩)⟩
theorem D_laws_eqProgram_eq (a0 a1 : AVal) (h : AHeap) (Q : KA) : adFn Tryz.prog ⟨fun _ => ⟨[], [], .nil⟩, fun _ => none, fun _ => [], [2, 3]⟩ Tryz.f11 [a0, a1] h Q = D_laws_eqProgram a0 a1 h Q := by kernel_rfl
theorem D_laws_eqProgram_of {a0 a1 : AVal} {h : AHeap} {Q : KA} (hd : D_laws_eqProgram a0 a1 h Q) : callM Tryz.prog 11 [a0, a1] h Q := callM_of (fn := Tryz.f11) Tryz.func11 (Nat.le_of_ble_eq_true (by kernel_rfl)) ((D_laws_eqProgram_eq a0 a1 h Q).symm ▸ hd)
theorem fn_laws_eqProgram : fnT Tryz.prog 11 = true := by kernel_rfl
/- laws.eqProgramResult -/
def D_laws_eqProgramResult (a0 a1 : AVal) (h : AHeap) (Q : KA) : Prop :=
 boxFM a0 h fun x1 h1 =>
 boxFM a1 h1 fun x2 h2 =>
 fldAddrM Tryz.prog 43 x1 0 h2 fun x3 h3 =>
 loadM Tryz.prog 2 x3 h3 fun x4 h4 =>
 fldAddrM Tryz.prog 43 x2 0 h4 fun x5 h5 =>
 loadM Tryz.prog 2 x5 h5 fun x6 h6 =>
 binM Tryz.prog .neq 2 x4 x6 h6 fun x7 h7 =>
 gdM x7
 (retW ff h7 Q)
 (fldAddrM Tryz.prog 43 x1 1 h7 fun x8 h8 =>
 loadM Tryz.prog 35 x8 h8 fun x9 h9 =>
 fldAddrM Tryz.prog 43 x2 1 h9 fun x10 h10 =>
 loadM Tryz.prog 35 x10 h10 fun x11 h11 =>
 @clM Tryz.prog 11 [x9, x11] h11 ⟨fun x12 h12 =>
 unM .not x12 h12 fun x13 h13 =>
 gdM x13
 (retW ff h13 Q)
 (retW tt h13 Q)⟩)
theorem D_laws_eqProgramResult_eq (a0 a1 : AVal) (h : AHeap) (Q : KA) : adFn Tryz.prog ⟨fun _ => ⟨[], [], .nil⟩, fun _ => none, fun _ => [], [2, 3]⟩ Tryz.f18 [a0, a1] h Q = D_laws_eqProgramResult a0 a1 h Q := by kernel_rfl
theorem D_laws_eqProgramResult_of {a0 a1 : AVal} {h : AHeap} {Q : KA} (hd : D_laws_eqProgramResult a0 a1 h Q) : callM Tryz.prog 18 [a0, a1] h Q := callM_of (fn := Tryz.f18) Tryz.func18 (Nat.le_of_ble_eq_true (by kernel_rfl)) ((D_laws_eqProgramResult_eq a0 a1 h Q).symm ▸ hd)
theorem fn_laws_eqProgramResult : fnT Tryz.prog 18 = true := by kernel_rfl
/- laws.heldByteS; J1: k i a -/
def D_laws_heldByteS (a0 a1 : AVal) (h : AHeap) (Q : KA) : Prop :=
 @lpM [a1, (i64 0), a0] h ⟨fun s1 h1 J1 =>
 lenM Tryz.prog 29 (nthA s1 2) h1 fun x2 h2 =>
 binM Tryz.prog .lss 3 (nthA s1 1) x2 h2 fun x3 h3 =>
 gdM x3
 (ixAddrM Tryz.prog 29 (nthA s1 2) (nthA s1 1) h3 fun x4 h4 =>
 loadM Tryz.prog 5 x4 h4 fun x5 h5 =>
 convM Tryz.prog 3 5 (nthA s1 0) h5 fun x6 h6 =>
 binM Tryz.prog .neq 5 x5 x6 h6 fun x7 h7 =>
 gdM x7
 (retW (i64 (-1)) h7 Q)
 (binM Tryz.prog .add 3 (nthA s1 0) (i64 1) h7 fun x8 h8 =>
 binM Tryz.prog .add 3 (nthA s1 1) (i64 1) h8 fun x9 h9 =>
 @wkM [x8, x9, (nthA s1 2)] h9 ⟨J1⟩))
 (retW (nthA s1 0) h3 Q)⟩
theorem D_laws_heldByteS_eq (a0 a1 : AVal) (h : AHeap) (Q : KA) : adFn Tryz.prog ⟨fun _ => ⟨[], [], .nil⟩, fun _ => none, fun i => bif Nat.beq i 2 then [1, 5, 0] else [], []⟩ Tryz.f14 [a0, a1] h Q = D_laws_heldByteS a0 a1 h Q := by kernel_rfl
theorem D_laws_heldByteS_of {a0 a1 : AVal} {h : AHeap} {Q : KA} (hd : D_laws_heldByteS a0 a1 h Q) : callM Tryz.prog 14 [a0, a1] h Q := callM_of (fn := Tryz.f14) Tryz.func14 (Nat.le_of_ble_eq_true (by kernel_rfl)) ((D_laws_heldByteS_eq a0 a1 h Q).symm ▸ hd)
theorem fn_laws_heldByteS : fnT Tryz.prog 14 = true := by kernel_rfl
/- laws.heldCertS; J1: k i a -/
def D_laws_heldCertS (a0 a1 : AVal) (h : AHeap) (Q : KA) : Prop :=
 @lpM [a1, (i64 0), a0] h ⟨fun s1 h1 J1 =>
 lenM Tryz.prog 33 (nthA s1 2) h1 fun x2 h2 =>
 binM Tryz.prog .lss 3 (nthA s1 1) x2 h2 fun x3 h3 =>
 gdM x3
 (ixAddrM Tryz.prog 33 (nthA s1 2) (nthA s1 1) h3 fun x4 h4 =>
 fldAddrM Tryz.prog 83 x4 0 h4 fun x5 h5 =>
 loadM Tryz.prog 2 x5 h5 fun x6 h6 =>
 binM Tryz.prog .neq 2 x6 (nthA s1 0) h6 fun x7 h7 =>
 gdM x7
 (retW (i64 (-1)) h7 Q)
 (binM Tryz.prog .add 3 (nthA s1 0) (i64 1) h7 fun x8 h8 =>
 ixAddrM Tryz.prog 33 (nthA s1 2) (nthA s1 1) h8 fun x9 h9 =>
 fldAddrM Tryz.prog 83 x9 1 h9 fun x10 h10 =>
 loadM Tryz.prog 2 x10 h10 fun x11 h11 =>
 binM Tryz.prog .neq 2 x11 x8 h11 fun x12 h12 =>
 gdM x12
 (retW (i64 (-1)) h12 Q)
 (binM Tryz.prog .add 3 x8 (i64 1) h12 fun x13 h13 =>
 ixAddrM Tryz.prog 33 (nthA s1 2) (nthA s1 1) h13 fun x14 h14 =>
 fldAddrM Tryz.prog 83 x14 2 h14 fun x15 h15 =>
 loadM Tryz.prog 2 x15 h15 fun x16 h16 =>
 binM Tryz.prog .neq 2 x16 x13 h16 fun x17 h17 =>
 gdM x17
 (retW (i64 (-1)) h17 Q)
 (binM Tryz.prog .add 3 x13 (i64 1) h17 fun x18 h18 =>
 ixAddrM Tryz.prog 33 (nthA s1 2) (nthA s1 1) h18 fun x19 h19 =>
 fldAddrM Tryz.prog 83 x19 3 h19 fun x20 h20 =>
 loadM Tryz.prog 74 x20 h20 fun x21 h21 =>
 convM Tryz.prog 3 74 x18 h21 fun x22 h22 =>
 binM Tryz.prog .neq 74 x21 x22 h22 fun x23 h23 =>
 gdM x23
 (retW (i64 (-1)) h23 Q)
 (binM Tryz.prog .add 3 x18 (i64 1) h23 fun x24 h24 =>
 binM Tryz.prog .add 3 (nthA s1 1) (i64 1) h24 fun x25 h25 =>
 @wkM [x24, x25, (nthA s1 2)] h25 ⟨J1⟩)))))
 (retW (nthA s1 0) h3 Q)⟩
theorem D_laws_heldCertS_eq (a0 a1 : AVal) (h : AHeap) (Q : KA) : adFn Tryz.prog ⟨fun _ => ⟨[], [], .nil⟩, fun _ => none, fun i => bif Nat.beq i 2 then [1, 5, 0] else [], []⟩ Tryz.f109 [a0, a1] h Q = D_laws_heldCertS a0 a1 h Q := by kernel_rfl
theorem D_laws_heldCertS_of {a0 a1 : AVal} {h : AHeap} {Q : KA} (hd : D_laws_heldCertS a0 a1 h Q) : callM Tryz.prog 109 [a0, a1] h Q := callM_of (fn := Tryz.f109) Tryz.func109 (Nat.le_of_ble_eq_true (by kernel_rfl)) ((D_laws_heldCertS_eq a0 a1 h Q).symm ▸ hd)
theorem fn_laws_heldCertS : fnT Tryz.prog 109 = true := by kernel_rfl
/- laws.heldConstS; J1: k i a -/
def D_laws_heldConstS (a0 a1 : AVal) (h : AHeap) (Q : KA) : Prop :=
 @lpM [a1, (i64 0), a0] h ⟨fun s1 h1 J1 =>
 lenM Tryz.prog 31 (nthA s1 2) h1 fun x2 h2 =>
 binM Tryz.prog .lss 3 (nthA s1 1) x2 h2 fun x3 h3 =>
 gdM x3
 (ixAddrM Tryz.prog 31 (nthA s1 2) (nthA s1 1) h3 fun x4 h4 =>
 fldAddrM Tryz.prog 76 x4 0 h4 fun x5 h5 =>
 loadM Tryz.prog 2 x5 h5 fun x6 h6 =>
 binM Tryz.prog .neq 2 x6 (nthA s1 0) h6 fun x7 h7 =>
 gdM x7
 (retW (i64 (-1)) h7 Q)
 (binM Tryz.prog .add 3 (nthA s1 0) (i64 1) h7 fun x8 h8 =>
 ixAddrM Tryz.prog 31 (nthA s1 2) (nthA s1 1) h8 fun x9 h9 =>
 fldAddrM Tryz.prog 76 x9 1 h9 fun x10 h10 =>
 loadM Tryz.prog 74 x10 h10 fun x11 h11 =>
 convM Tryz.prog 3 74 x8 h11 fun x12 h12 =>
 binM Tryz.prog .neq 74 x11 x12 h12 fun x13 h13 =>
 gdM x13
 (retW (i64 (-1)) h13 Q)
 (binM Tryz.prog .add 3 x8 (i64 1) h13 fun x14 h14 =>
 binM Tryz.prog .add 3 (nthA s1 1) (i64 1) h14 fun x15 h15 =>
 @wkM [x14, x15, (nthA s1 2)] h15 ⟨J1⟩)))
 (retW (nthA s1 0) h3 Q)⟩
theorem D_laws_heldConstS_eq (a0 a1 : AVal) (h : AHeap) (Q : KA) : adFn Tryz.prog ⟨fun _ => ⟨[], [], .nil⟩, fun _ => none, fun i => bif Nat.beq i 2 then [1, 5, 0] else [], []⟩ Tryz.f107 [a0, a1] h Q = D_laws_heldConstS a0 a1 h Q := by kernel_rfl
theorem D_laws_heldConstS_of {a0 a1 : AVal} {h : AHeap} {Q : KA} (hd : D_laws_heldConstS a0 a1 h Q) : callM Tryz.prog 107 [a0, a1] h Q := callM_of (fn := Tryz.f107) Tryz.func107 (Nat.le_of_ble_eq_true (by kernel_rfl)) ((D_laws_heldConstS_eq a0 a1 h Q).symm ▸ hd)
theorem fn_laws_heldConstS : fnT Tryz.prog 107 = true := by kernel_rfl
/- laws.heldFuncS; J1: k i a -/
def D_laws_heldFuncS (a0 a1 : AVal) (h : AHeap) (Q : KA) : Prop :=
 @lpM [a1, (i64 0), a0] h ⟨fun s1 h1 J1 =>
 lenM Tryz.prog 32 (nthA s1 2) h1 fun x2 h2 =>
 binM Tryz.prog .lss 3 (nthA s1 1) x2 h2 fun x3 h3 =>
 gdM x3
 (ixAddrM Tryz.prog 32 (nthA s1 2) (nthA s1 1) h3 fun x4 h4 =>
 fldAddrM Tryz.prog 79 x4 0 h4 fun x5 h5 =>
 loadM Tryz.prog 72 x5 h5 fun x6 h6 =>
 @clM Tryz.prog 136 [x6, (nthA s1 0)] h6 ⟨fun x7 h7 =>
 binM Tryz.prog .lss 3 x7 (i64 0) h7 fun x8 h8 =>
 gdM x8
 (retW (i64 (-1)) h8 Q)
 (ixAddrM Tryz.prog 32 (nthA s1 2) (nthA s1 1) h8 fun x9 h9 =>
 fldAddrM Tryz.prog 79 x9 1 h9 fun x10 h10 =>
 loadM Tryz.prog 2 x10 h10 fun x11 h11 =>
 binM Tryz.prog .neq 2 x11 x7 h11 fun x12 h12 =>
 gdM x12
 (retW (i64 (-1)) h12 Q)
 (binM Tryz.prog .add 3 x7 (i64 1) h12 fun x13 h13 =>
 ixAddrM Tryz.prog 32 (nthA s1 2) (nthA s1 1) h13 fun x14 h14 =>
 fldAddrM Tryz.prog 79 x14 2 h14 fun x15 h15 =>
 loadM Tryz.prog 72 x15 h15 fun x16 h16 =>
 @clM Tryz.prog 136 [x16, x13] h16 ⟨fun x17 h17 =>
 binM Tryz.prog .lss 3 x17 (i64 0) h17 fun x18 h18 =>
 gdM x18
 (retW (i64 (-1)) h18 Q)
 (ixAddrM Tryz.prog 32 (nthA s1 2) (nthA s1 1) h18 fun x19 h19 =>
 fldAddrM Tryz.prog 79 x19 3 h19 fun x20 h20 =>
 loadM Tryz.prog 77 x20 h20 fun x21 h21 =>
 @clM Tryz.prog 137 [x21, x17] h21 ⟨fun x22 h22 =>
 binM Tryz.prog .lss 3 x22 (i64 0) h22 fun x23 h23 =>
 gdM x23
 (retW (i64 (-1)) h23 Q)
 (binM Tryz.prog .add 3 (nthA s1 1) (i64 1) h23 fun x24 h24 =>
 @wkM [x22, x24, (nthA s1 2)] h24 ⟨J1⟩)⟩)⟩))⟩)
 (retW (nthA s1 0) h3 Q)⟩
theorem D_laws_heldFuncS_eq (a0 a1 : AVal) (h : AHeap) (Q : KA) : adFn Tryz.prog ⟨fun _ => ⟨[], [], .nil⟩, fun _ => none, fun i => bif Nat.beq i 2 then [1, 5, 0] else [], []⟩ Tryz.f108 [a0, a1] h Q = D_laws_heldFuncS a0 a1 h Q := by kernel_rfl
theorem D_laws_heldFuncS_of {a0 a1 : AVal} {h : AHeap} {Q : KA} (hd : D_laws_heldFuncS a0 a1 h Q) : callM Tryz.prog 108 [a0, a1] h Q := callM_of (fn := Tryz.f108) Tryz.func108 (Nat.le_of_ble_eq_true (by kernel_rfl)) ((D_laws_heldFuncS_eq a0 a1 h Q).symm ▸ hd)
theorem fn_laws_heldFuncS : fnT Tryz.prog 108 = true := by kernel_rfl
/- laws.heldInstrS; J1: k i a -/
def D_laws_heldInstrS (a0 a1 : AVal) (h : AHeap) (Q : KA) : Prop :=
 @lpM [a1, (i64 0), a0] h ⟨fun s1 h1 J1 =>
 lenM Tryz.prog 77 (nthA s1 2) h1 fun x2 h2 =>
 binM Tryz.prog .lss 3 (nthA s1 1) x2 h2 fun x3 h3 =>
 gdM x3
 (ixAddrM Tryz.prog 77 (nthA s1 2) (nthA s1 1) h3 fun x4 h4 =>
 fldAddrM Tryz.prog 81 x4 0 h4 fun x5 h5 =>
 loadM Tryz.prog 2 x5 h5 fun x6 h6 =>
 binM Tryz.prog .neq 2 x6 (nthA s1 0) h6 fun x7 h7 =>
 gdM x7
 (retW (i64 (-1)) h7 Q)
 (binM Tryz.prog .add 3 (nthA s1 0) (i64 1) h7 fun x8 h8 =>
 ixAddrM Tryz.prog 77 (nthA s1 2) (nthA s1 1) h8 fun x9 h9 =>
 fldAddrM Tryz.prog 81 x9 1 h9 fun x10 h10 =>
 loadM Tryz.prog 2 x10 h10 fun x11 h11 =>
 binM Tryz.prog .neq 2 x11 x8 h11 fun x12 h12 =>
 gdM x12
 (retW (i64 (-1)) h12 Q)
 (binM Tryz.prog .add 3 x8 (i64 1) h12 fun x13 h13 =>
 ixAddrM Tryz.prog 77 (nthA s1 2) (nthA s1 1) h13 fun x14 h14 =>
 fldAddrM Tryz.prog 81 x14 2 h14 fun x15 h15 =>
 loadM Tryz.prog 2 x15 h15 fun x16 h16 =>
 binM Tryz.prog .neq 2 x16 x13 h16 fun x17 h17 =>
 gdM x17
 (retW (i64 (-1)) h17 Q)
 (binM Tryz.prog .add 3 x13 (i64 1) h17 fun x18 h18 =>
 ixAddrM Tryz.prog 77 (nthA s1 2) (nthA s1 1) h18 fun x19 h19 =>
 fldAddrM Tryz.prog 81 x19 3 h19 fun x20 h20 =>
 loadM Tryz.prog 2 x20 h20 fun x21 h21 =>
 binM Tryz.prog .neq 2 x21 x18 h21 fun x22 h22 =>
 gdM x22
 (retW (i64 (-1)) h22 Q)
 (binM Tryz.prog .add 3 x18 (i64 1) h22 fun x23 h23 =>
 binM Tryz.prog .add 3 (nthA s1 1) (i64 1) h23 fun x24 h24 =>
 @wkM [x23, x24, (nthA s1 2)] h24 ⟨J1⟩)))))
 (retW (nthA s1 0) h3 Q)⟩
theorem D_laws_heldInstrS_eq (a0 a1 : AVal) (h : AHeap) (Q : KA) : adFn Tryz.prog ⟨fun _ => ⟨[], [], .nil⟩, fun _ => none, fun i => bif Nat.beq i 2 then [1, 5, 0] else [], []⟩ Tryz.f137 [a0, a1] h Q = D_laws_heldInstrS a0 a1 h Q := by kernel_rfl
theorem D_laws_heldInstrS_of {a0 a1 : AVal} {h : AHeap} {Q : KA} (hd : D_laws_heldInstrS a0 a1 h Q) : callM Tryz.prog 137 [a0, a1] h Q := callM_of (fn := Tryz.f137) Tryz.func137 (Nat.le_of_ble_eq_true (by kernel_rfl)) ((D_laws_heldInstrS_eq a0 a1 h Q).symm ▸ hd)
theorem fn_laws_heldInstrS : fnT Tryz.prog 137 = true := by kernel_rfl
/- laws.heldInt64S; J1: k i a -/
def D_laws_heldInt64S (a0 a1 : AVal) (h : AHeap) (Q : KA) : Prop :=
 @lpM [a1, (i64 0), a0] h ⟨fun s1 h1 J1 =>
 lenM Tryz.prog 72 (nthA s1 2) h1 fun x2 h2 =>
 binM Tryz.prog .lss 3 (nthA s1 1) x2 h2 fun x3 h3 =>
 gdM x3
 (ixAddrM Tryz.prog 72 (nthA s1 2) (nthA s1 1) h3 fun x4 h4 =>
 loadM Tryz.prog 2 x4 h4 fun x5 h5 =>
 binM Tryz.prog .neq 2 x5 (nthA s1 0) h5 fun x6 h6 =>
 gdM x6
 (retW (i64 (-1)) h6 Q)
 (binM Tryz.prog .add 3 (nthA s1 0) (i64 1) h6 fun x7 h7 =>
 binM Tryz.prog .add 3 (nthA s1 1) (i64 1) h7 fun x8 h8 =>
 @wkM [x7, x8, (nthA s1 2)] h8 ⟨J1⟩))
 (retW (nthA s1 0) h3 Q)⟩
theorem D_laws_heldInt64S_eq (a0 a1 : AVal) (h : AHeap) (Q : KA) : adFn Tryz.prog ⟨fun _ => ⟨[], [], .nil⟩, fun _ => none, fun i => bif Nat.beq i 2 then [1, 5, 0] else [], []⟩ Tryz.f136 [a0, a1] h Q = D_laws_heldInt64S a0 a1 h Q := by kernel_rfl
theorem D_laws_heldInt64S_of {a0 a1 : AVal} {h : AHeap} {Q : KA} (hd : D_laws_heldInt64S a0 a1 h Q) : callM Tryz.prog 136 [a0, a1] h Q := callM_of (fn := Tryz.f136) Tryz.func136 (Nat.le_of_ble_eq_true (by kernel_rfl)) ((D_laws_heldInt64S_eq a0 a1 h Q).symm ▸ hd)
theorem fn_laws_heldInt64S : fnT Tryz.prog 136 = true := by kernel_rfl
/- laws.heldInt64SS; J1: k i a -/
def D_laws_heldInt64SS (a0 a1 : AVal) (h : AHeap) (Q : KA) : Prop :=
 @lpM [a1, (i64 0), a0] h ⟨fun s1 h1 J1 =>
 lenM Tryz.prog 22 (nthA s1 2) h1 fun x2 h2 =>
 binM Tryz.prog .lss 3 (nthA s1 1) x2 h2 fun x3 h3 =>
 gdM x3
 (ixAddrM Tryz.prog 22 (nthA s1 2) (nthA s1 1) h3 fun x4 h4 =>
 loadM Tryz.prog 72 x4 h4 fun x5 h5 =>
 @clM Tryz.prog 136 [x5, (nthA s1 0)] h5 ⟨fun x6 h6 =>
 binM Tryz.prog .lss 3 x6 (i64 0) h6 fun x7 h7 =>
 gdM x7
 (retW (i64 (-1)) h7 Q)
 (binM Tryz.prog .add 3 (nthA s1 1) (i64 1) h7 fun x8 h8 =>
 @wkM [x6, x8, (nthA s1 2)] h8 ⟨J1⟩)⟩)
 (retW (nthA s1 0) h3 Q)⟩
theorem D_laws_heldInt64SS_eq (a0 a1 : AVal) (h : AHeap) (Q : KA) : adFn Tryz.prog ⟨fun _ => ⟨[], [], .nil⟩, fun _ => none, fun i => bif Nat.beq i 2 then [1, 5, 0] else [], []⟩ Tryz.f106 [a0, a1] h Q = D_laws_heldInt64SS a0 a1 h Q := by kernel_rfl
theorem D_laws_heldInt64SS_of {a0 a1 : AVal} {h : AHeap} {Q : KA} (hd : D_laws_heldInt64SS a0 a1 h Q) : callM Tryz.prog 106 [a0, a1] h Q := callM_of (fn := Tryz.f106) Tryz.func106 (Nat.le_of_ble_eq_true (by kernel_rfl)) ((D_laws_heldInt64SS_eq a0 a1 h Q).symm ▸ hd)
theorem fn_laws_heldInt64SS : fnT Tryz.prog 106 = true := by kernel_rfl
/- laws.heldProgram -/
def D_laws_heldProgram (a0 a1 : AVal) (h : AHeap) (Q : KA) : Prop :=
 boxFM a0 h fun x1 h1 =>
 fldAddrM Tryz.prog 35 x1 0 h1 fun x2 h2 =>
 loadM Tryz.prog 22 x2 h2 fun x3 h3 =>
 @clM Tryz.prog 106 [x3, a1] h3 ⟨fun x4 h4 =>
 binM Tryz.prog .lss 3 x4 (i64 0) h4 fun x5 h5 =>
 gdM x5
 (retW (i64 (-1)) h5 Q)
 (fldAddrM Tryz.prog 35 x1 1 h5 fun x6 h6 =>
 loadM Tryz.prog 31 x6 h6 fun x7 h7 =>
 @clM Tryz.prog 107 [x7, x4] h7 ⟨fun x8 h8 =>
 binM Tryz.prog .lss 3 x8 (i64 0) h8 fun x9 h9 =>
 gdM x9
 (retW (i64 (-1)) h9 Q)
 (fldAddrM Tryz.prog 35 x1 2 h9 fun x10 h10 =>
 loadM Tryz.prog 32 x10 h10 fun x11 h11 =>
 @clM Tryz.prog 108 [x11, x8] h11 ⟨fun x12 h12 =>
 binM Tryz.prog .lss 3 x12 (i64 0) h12 fun x13 h13 =>
 gdM x13
 (retW (i64 (-1)) h13 Q)
 (fldAddrM Tryz.prog 35 x1 3 h13 fun x14 h14 =>
 loadM Tryz.prog 33 x14 h14 fun x15 h15 =>
 @clM Tryz.prog 109 [x15, x12] h15 ⟨fun x16 h16 =>
 binM Tryz.prog .lss 3 x16 (i64 0) h16 fun x17 h17 =>
 gdM x17
 (retW (i64 (-1)) h17 Q)
 (retW x16 h17 Q)⟩)⟩)⟩)⟩
theorem D_laws_heldProgram_eq (a0 a1 : AVal) (h : AHeap) (Q : KA) : adFn Tryz.prog ⟨fun _ => ⟨[], [], .nil⟩, fun _ => none, fun _ => [], [2]⟩ Tryz.f58 [a0, a1] h Q = D_laws_heldProgram a0 a1 h Q := by kernel_rfl
theorem D_laws_heldProgram_of {a0 a1 : AVal} {h : AHeap} {Q : KA} (hd : D_laws_heldProgram a0 a1 h Q) : callM Tryz.prog 58 [a0, a1] h Q := callM_of (fn := Tryz.f58) Tryz.func58 (Nat.le_of_ble_eq_true (by kernel_rfl)) ((D_laws_heldProgram_eq a0 a1 h Q).symm ▸ hd)
theorem fn_laws_heldProgram : fnT Tryz.prog 58 = true := by kernel_rfl
/- laws.heldProgramResult -/
def D_laws_heldProgramResult (a0 a1 : AVal) (h : AHeap) (Q : KA) : Prop :=
 boxFM a0 h fun x1 h1 =>
 fldAddrM Tryz.prog 43 x1 1 h1 fun x2 h2 =>
 loadM Tryz.prog 35 x2 h2 fun x3 h3 =>
 @clM Tryz.prog 58 [x3, a1] h3 ⟨fun x4 h4 =>
 binM Tryz.prog .lss 3 x4 (i64 0) h4 fun x5 h5 =>
 gdM x5
 (retW (i64 (-1)) h5 Q)
 (retW x4 h5 Q)⟩
theorem D_laws_heldProgramResult_eq (a0 a1 : AVal) (h : AHeap) (Q : KA) : adFn Tryz.prog ⟨fun _ => ⟨[], [], .nil⟩, fun _ => none, fun _ => [], [2]⟩ Tryz.f20 [a0, a1] h Q = D_laws_heldProgramResult a0 a1 h Q := by kernel_rfl
theorem D_laws_heldProgramResult_of {a0 a1 : AVal} {h : AHeap} {Q : KA} (hd : D_laws_heldProgramResult a0 a1 h Q) : callM Tryz.prog 20 [a0, a1] h Q := callM_of (fn := Tryz.f20) Tryz.func20 (Nat.le_of_ble_eq_true (by kernel_rfl)) ((D_laws_heldProgramResult_eq a0 a1 h Q).symm ▸ hd)
theorem fn_laws_heldProgramResult : fnT Tryz.prog 20 = true := by kernel_rfl
/- laws.markByteS; J1: k i a -/
def D_laws_markByteS (a0 a1 : AVal) (h : AHeap) (Q : KA) : Prop :=
 @lpM [a1, (i64 0), a0] h ⟨fun s1 h1 J1 =>
 lenM Tryz.prog 29 (nthA s1 2) h1 fun x2 h2 =>
 binM Tryz.prog .lss 3 (nthA s1 1) x2 h2 fun x3 h3 =>
 gdM x3
 (convM Tryz.prog 3 5 (nthA s1 0) h3 fun x4 h4 =>
 ixAddrM Tryz.prog 29 (nthA s1 2) (nthA s1 1) h4 fun x5 h5 =>
 storeM Tryz.prog 5 x5 x4 h5 fun x6 h6 =>
 binM Tryz.prog .add 3 (nthA s1 0) (i64 1) h6 fun x7 h7 =>
 binM Tryz.prog .add 3 (nthA s1 1) (i64 1) h7 fun x8 h8 =>
 @wkM [x7, x8, (nthA s1 2)] h8 ⟨J1⟩)
 (retW (nthA s1 0) h3 Q)⟩
theorem D_laws_markByteS_eq (a0 a1 : AVal) (h : AHeap) (Q : KA) : adFn Tryz.prog ⟨fun _ => ⟨[], [], .nil⟩, fun _ => none, fun i => bif Nat.beq i 2 then [1, 5, 0] else [], []⟩ Tryz.f13 [a0, a1] h Q = D_laws_markByteS a0 a1 h Q := by kernel_rfl
theorem D_laws_markByteS_of {a0 a1 : AVal} {h : AHeap} {Q : KA} (hd : D_laws_markByteS a0 a1 h Q) : callM Tryz.prog 13 [a0, a1] h Q := callM_of (fn := Tryz.f13) Tryz.func13 (Nat.le_of_ble_eq_true (by kernel_rfl)) ((D_laws_markByteS_eq a0 a1 h Q).symm ▸ hd)
theorem fn_laws_markByteS : fnT Tryz.prog 13 = true := by kernel_rfl
/- laws.markCertS; J1: k i a -/
def D_laws_markCertS (a0 a1 : AVal) (h : AHeap) (Q : KA) : Prop :=
 @lpM [a1, (i64 0), a0] h ⟨fun s1 h1 J1 =>
 lenM Tryz.prog 33 (nthA s1 2) h1 fun x2 h2 =>
 binM Tryz.prog .lss 3 (nthA s1 1) x2 h2 fun x3 h3 =>
 gdM x3
 (ixAddrM Tryz.prog 33 (nthA s1 2) (nthA s1 1) h3 fun x4 h4 =>
 fldAddrM Tryz.prog 83 x4 0 h4 fun x5 h5 =>
 storeM Tryz.prog 2 x5 (nthA s1 0) h5 fun x6 h6 =>
 binM Tryz.prog .add 3 (nthA s1 0) (i64 1) h6 fun x7 h7 =>
 ixAddrM Tryz.prog 33 (nthA s1 2) (nthA s1 1) h7 fun x8 h8 =>
 fldAddrM Tryz.prog 83 x8 1 h8 fun x9 h9 =>
 storeM Tryz.prog 2 x9 x7 h9 fun x10 h10 =>
 binM Tryz.prog .add 3 x7 (i64 1) h10 fun x11 h11 =>
 ixAddrM Tryz.prog 33 (nthA s1 2) (nthA s1 1) h11 fun x12 h12 =>
 fldAddrM Tryz.prog 83 x12 2 h12 fun x13 h13 =>
 storeM Tryz.prog 2 x13 x11 h13 fun x14 h14 =>
 binM Tryz.prog .add 3 x11 (i64 1) h14 fun x15 h15 =>
 convM Tryz.prog 3 74 x15 h15 fun x16 h16 =>
 ixAddrM Tryz.prog 33 (nthA s1 2) (nthA s1 1) h16 fun x17 h17 =>
 fldAddrM Tryz.prog 83 x17 3 h17 fun x18 h18 =>
 storeM Tryz.prog 74 x18 x16 h18 fun x19 h19 =>
 binM Tryz.prog .add 3 x15 (i64 1) h19 fun x20 h20 =>
 binM Tryz.prog .add 3 (nthA s1 1) (i64 1) h20 fun x21 h21 =>
 @wkM [x20, x21, (nthA s1 2)] h21 ⟨J1⟩)
 (retW (nthA s1 0) h3 Q)⟩
theorem D_laws_markCertS_eq (a0 a1 : AVal) (h : AHeap) (Q : KA) : adFn Tryz.prog ⟨fun _ => ⟨[], [], .nil⟩, fun _ => none, fun i => bif Nat.beq i 2 then [1, 5, 0] else [], []⟩ Tryz.f53 [a0, a1] h Q = D_laws_markCertS a0 a1 h Q := by kernel_rfl
theorem D_laws_markCertS_of {a0 a1 : AVal} {h : AHeap} {Q : KA} (hd : D_laws_markCertS a0 a1 h Q) : callM Tryz.prog 53 [a0, a1] h Q := callM_of (fn := Tryz.f53) Tryz.func53 (Nat.le_of_ble_eq_true (by kernel_rfl)) ((D_laws_markCertS_eq a0 a1 h Q).symm ▸ hd)
theorem fn_laws_markCertS : fnT Tryz.prog 53 = true := by kernel_rfl
/- laws.markConstS; J1: k i a -/
def D_laws_markConstS (a0 a1 : AVal) (h : AHeap) (Q : KA) : Prop :=
 @lpM [a1, (i64 0), a0] h ⟨fun s1 h1 J1 =>
 lenM Tryz.prog 31 (nthA s1 2) h1 fun x2 h2 =>
 binM Tryz.prog .lss 3 (nthA s1 1) x2 h2 fun x3 h3 =>
 gdM x3
 (ixAddrM Tryz.prog 31 (nthA s1 2) (nthA s1 1) h3 fun x4 h4 =>
 fldAddrM Tryz.prog 76 x4 0 h4 fun x5 h5 =>
 storeM Tryz.prog 2 x5 (nthA s1 0) h5 fun x6 h6 =>
 binM Tryz.prog .add 3 (nthA s1 0) (i64 1) h6 fun x7 h7 =>
 convM Tryz.prog 3 74 x7 h7 fun x8 h8 =>
 ixAddrM Tryz.prog 31 (nthA s1 2) (nthA s1 1) h8 fun x9 h9 =>
 fldAddrM Tryz.prog 76 x9 1 h9 fun x10 h10 =>
 storeM Tryz.prog 74 x10 x8 h10 fun x11 h11 =>
 binM Tryz.prog .add 3 x7 (i64 1) h11 fun x12 h12 =>
 binM Tryz.prog .add 3 (nthA s1 1) (i64 1) h12 fun x13 h13 =>
 @wkM [x12, x13, (nthA s1 2)] h13 ⟨J1⟩)
 (retW (nthA s1 0) h3 Q)⟩
theorem D_laws_markConstS_eq (a0 a1 : AVal) (h : AHeap) (Q : KA) : adFn Tryz.prog ⟨fun _ => ⟨[], [], .nil⟩, fun _ => none, fun i => bif Nat.beq i 2 then [1, 5, 0] else [], []⟩ Tryz.f51 [a0, a1] h Q = D_laws_markConstS a0 a1 h Q := by kernel_rfl
theorem D_laws_markConstS_of {a0 a1 : AVal} {h : AHeap} {Q : KA} (hd : D_laws_markConstS a0 a1 h Q) : callM Tryz.prog 51 [a0, a1] h Q := callM_of (fn := Tryz.f51) Tryz.func51 (Nat.le_of_ble_eq_true (by kernel_rfl)) ((D_laws_markConstS_eq a0 a1 h Q).symm ▸ hd)
theorem fn_laws_markConstS : fnT Tryz.prog 51 = true := by kernel_rfl
/- laws.markFuncS; J1: k i a -/
def D_laws_markFuncS (a0 a1 : AVal) (h : AHeap) (Q : KA) : Prop :=
 @lpM [a1, (i64 0), a0] h ⟨fun s1 h1 J1 =>
 lenM Tryz.prog 32 (nthA s1 2) h1 fun x2 h2 =>
 binM Tryz.prog .lss 3 (nthA s1 1) x2 h2 fun x3 h3 =>
 gdM x3
 (ixAddrM Tryz.prog 32 (nthA s1 2) (nthA s1 1) h3 fun x4 h4 =>
 fldAddrM Tryz.prog 79 x4 0 h4 fun x5 h5 =>
 loadM Tryz.prog 72 x5 h5 fun x6 h6 =>
 @clM Tryz.prog 99 [x6, (nthA s1 0)] h6 ⟨fun x7 h7 =>
 ixAddrM Tryz.prog 32 (nthA s1 2) (nthA s1 1) h7 fun x8 h8 =>
 fldAddrM Tryz.prog 79 x8 1 h8 fun x9 h9 =>
 storeM Tryz.prog 2 x9 x7 h9 fun x10 h10 =>
 binM Tryz.prog .add 3 x7 (i64 1) h10 fun x11 h11 =>
 ixAddrM Tryz.prog 32 (nthA s1 2) (nthA s1 1) h11 fun x12 h12 =>
 fldAddrM Tryz.prog 79 x12 2 h12 fun x13 h13 =>
 loadM Tryz.prog 72 x13 h13 fun x14 h14 =>
 @clM Tryz.prog 99 [x14, x11] h14 ⟨fun x15 h15 =>
 ixAddrM Tryz.prog 32 (nthA s1 2) (nthA s1 1) h15 fun x16 h16 =>
 fldAddrM Tryz.prog 79 x16 3 h16 fun x17 h17 =>
 loadM Tryz.prog 77 x17 h17 fun x18 h18 =>
 @clM Tryz.prog 100 [x18, x15] h18 ⟨fun x19 h19 =>
 binM Tryz.prog .add 3 (nthA s1 1) (i64 1) h19 fun x20 h20 =>
 @wkM [x19, x20, (nthA s1 2)] h20 ⟨J1⟩⟩⟩⟩)
 (retW (nthA s1 0) h3 Q)⟩
theorem D_laws_markFuncS_eq (a0 a1 : AVal) (h : AHeap) (Q : KA) : adFn Tryz.prog ⟨fun _ => ⟨[], [], .nil⟩, fun _ => none, fun i => bif Nat.beq i 2 then [1, 5, 0] else [], []⟩ Tryz.f52 [a0, a1] h Q = D_laws_markFuncS a0 a1 h Q := by kernel_rfl
theorem D_laws_markFuncS_of {a0 a1 : AVal} {h : AHeap} {Q : KA} (hd : D_laws_markFuncS a0 a1 h Q) : callM Tryz.prog 52 [a0, a1] h Q := callM_of (fn := Tryz.f52) Tryz.func52 (Nat.le_of_ble_eq_true (by kernel_rfl)) ((D_laws_markFuncS_eq a0 a1 h Q).symm ▸ hd)
theorem fn_laws_markFuncS : fnT Tryz.prog 52 = true := by kernel_rfl
/- laws.markInstrS; J1: k i a -/
def D_laws_markInstrS (a0 a1 : AVal) (h : AHeap) (Q : KA) : Prop :=
 @lpM [a1, (i64 0), a0] h ⟨fun s1 h1 J1 =>
 lenM Tryz.prog 77 (nthA s1 2) h1 fun x2 h2 =>
 binM Tryz.prog .lss 3 (nthA s1 1) x2 h2 fun x3 h3 =>
 gdM x3
 (ixAddrM Tryz.prog 77 (nthA s1 2) (nthA s1 1) h3 fun x4 h4 =>
 fldAddrM Tryz.prog 81 x4 0 h4 fun x5 h5 =>
 storeM Tryz.prog 2 x5 (nthA s1 0) h5 fun x6 h6 =>
 binM Tryz.prog .add 3 (nthA s1 0) (i64 1) h6 fun x7 h7 =>
 ixAddrM Tryz.prog 77 (nthA s1 2) (nthA s1 1) h7 fun x8 h8 =>
 fldAddrM Tryz.prog 81 x8 1 h8 fun x9 h9 =>
 storeM Tryz.prog 2 x9 x7 h9 fun x10 h10 =>
 binM Tryz.prog .add 3 x7 (i64 1) h10 fun x11 h11 =>
 ixAddrM Tryz.prog 77 (nthA s1 2) (nthA s1 1) h11 fun x12 h12 =>
 fldAddrM Tryz.prog 81 x12 2 h12 fun x13 h13 =>
 storeM Tryz.prog 2 x13 x11 h13 fun x14 h14 =>
 binM Tryz.prog .add 3 x11 (i64 1) h14 fun x15 h15 =>
 ixAddrM Tryz.prog 77 (nthA s1 2) (nthA s1 1) h15 fun x16 h16 =>
 fldAddrM Tryz.prog 81 x16 3 h16 fun x17 h17 =>
 storeM Tryz.prog 2 x17 x15 h17 fun x18 h18 =>
 binM Tryz.prog .add 3 x15 (i64 1) h18 fun x19 h19 =>
 binM Tryz.prog .add 3 (nthA s1 1) (i64 1) h19 fun x20 h20 =>
 @wkM [x19, x20, (nthA s1 2)] h20 ⟨J1⟩)
 (retW (nthA s1 0) h3 Q)⟩
theorem D_laws_markInstrS_eq (a0 a1 : AVal) (h : AHeap) (Q : KA) : adFn Tryz.prog ⟨fun _ => ⟨[], [], .nil⟩, fun _ => none, fun i => bif Nat.beq i 2 then [1, 5, 0] else [], []⟩ Tryz.f100 [a0, a1] h Q = D_laws_markInstrS a0 a1 h Q := by kernel_rfl
theorem D_laws_markInstrS_of {a0 a1 : AVal} {h : AHeap} {Q : KA} (hd : D_laws_markInstrS a0 a1 h Q) : callM Tryz.prog 100 [a0, a1] h Q := callM_of (fn := Tryz.f100) Tryz.func100 (Nat.le_of_ble_eq_true (by kernel_rfl)) ((D_laws_markInstrS_eq a0 a1 h Q).symm ▸ hd)
theorem fn_laws_markInstrS : fnT Tryz.prog 100 = true := by kernel_rfl
/- laws.markInt64S; J1: k i a -/
def D_laws_markInt64S (a0 a1 : AVal) (h : AHeap) (Q : KA) : Prop :=
 @lpM [a1, (i64 0), a0] h ⟨fun s1 h1 J1 =>
 lenM Tryz.prog 72 (nthA s1 2) h1 fun x2 h2 =>
 binM Tryz.prog .lss 3 (nthA s1 1) x2 h2 fun x3 h3 =>
 gdM x3
 (ixAddrM Tryz.prog 72 (nthA s1 2) (nthA s1 1) h3 fun x4 h4 =>
 storeM Tryz.prog 2 x4 (nthA s1 0) h4 fun x5 h5 =>
 binM Tryz.prog .add 3 (nthA s1 0) (i64 1) h5 fun x6 h6 =>
 binM Tryz.prog .add 3 (nthA s1 1) (i64 1) h6 fun x7 h7 =>
 @wkM [x6, x7, (nthA s1 2)] h7 ⟨J1⟩)
 (retW (nthA s1 0) h3 Q)⟩
theorem D_laws_markInt64S_eq (a0 a1 : AVal) (h : AHeap) (Q : KA) : adFn Tryz.prog ⟨fun _ => ⟨[], [], .nil⟩, fun _ => none, fun i => bif Nat.beq i 2 then [1, 5, 0] else [], []⟩ Tryz.f99 [a0, a1] h Q = D_laws_markInt64S a0 a1 h Q := by kernel_rfl
theorem D_laws_markInt64S_of {a0 a1 : AVal} {h : AHeap} {Q : KA} (hd : D_laws_markInt64S a0 a1 h Q) : callM Tryz.prog 99 [a0, a1] h Q := callM_of (fn := Tryz.f99) Tryz.func99 (Nat.le_of_ble_eq_true (by kernel_rfl)) ((D_laws_markInt64S_eq a0 a1 h Q).symm ▸ hd)
theorem fn_laws_markInt64S : fnT Tryz.prog 99 = true := by kernel_rfl
/- laws.markInt64SS; J1: k i a -/
def D_laws_markInt64SS (a0 a1 : AVal) (h : AHeap) (Q : KA) : Prop :=
 @lpM [a1, (i64 0), a0] h ⟨fun s1 h1 J1 =>
 lenM Tryz.prog 22 (nthA s1 2) h1 fun x2 h2 =>
 binM Tryz.prog .lss 3 (nthA s1 1) x2 h2 fun x3 h3 =>
 gdM x3
 (ixAddrM Tryz.prog 22 (nthA s1 2) (nthA s1 1) h3 fun x4 h4 =>
 loadM Tryz.prog 72 x4 h4 fun x5 h5 =>
 @clM Tryz.prog 99 [x5, (nthA s1 0)] h5 ⟨fun x6 h6 =>
 binM Tryz.prog .add 3 (nthA s1 1) (i64 1) h6 fun x7 h7 =>
 @wkM [x6, x7, (nthA s1 2)] h7 ⟨J1⟩⟩)
 (retW (nthA s1 0) h3 Q)⟩
theorem D_laws_markInt64SS_eq (a0 a1 : AVal) (h : AHeap) (Q : KA) : adFn Tryz.prog ⟨fun _ => ⟨[], [], .nil⟩, fun _ => none, fun i => bif Nat.beq i 2 then [1, 5, 0] else [], []⟩ Tryz.f50 [a0, a1] h Q = D_laws_markInt64SS a0 a1 h Q := by kernel_rfl
theorem D_laws_markInt64SS_of {a0 a1 : AVal} {h : AHeap} {Q : KA} (hd : D_laws_markInt64SS a0 a1 h Q) : callM Tryz.prog 50 [a0, a1] h Q := callM_of (fn := Tryz.f50) Tryz.func50 (Nat.le_of_ble_eq_true (by kernel_rfl)) ((D_laws_markInt64SS_eq a0 a1 h Q).symm ▸ hd)
theorem fn_laws_markInt64SS : fnT Tryz.prog 50 = true := by kernel_rfl
/- laws.markProgram -/
def D_laws_markProgram (a0 a1 : AVal) (h : AHeap) (Q : KA) : Prop :=
 boxFM a0 h fun x1 h1 =>
 fldAddrM Tryz.prog 35 x1 0 h1 fun x2 h2 =>
 loadM Tryz.prog 22 x2 h2 fun x3 h3 =>
 @clM Tryz.prog 50 [x3, a1] h3 ⟨fun x4 h4 =>
 fldAddrM Tryz.prog 35 x1 1 h4 fun x5 h5 =>
 loadM Tryz.prog 31 x5 h5 fun x6 h6 =>
 @clM Tryz.prog 51 [x6, x4] h6 ⟨fun x7 h7 =>
 fldAddrM Tryz.prog 35 x1 2 h7 fun x8 h8 =>
 loadM Tryz.prog 32 x8 h8 fun x9 h9 =>
 @clM Tryz.prog 52 [x9, x7] h9 ⟨fun x10 h10 =>
 fldAddrM Tryz.prog 35 x1 3 h10 fun x11 h11 =>
 loadM Tryz.prog 33 x11 h11 fun x12 h12 =>
 @clM Tryz.prog 53 [x12, x10] h12 ⟨fun x13 h13 =>
 retW x13 h13 Q⟩⟩⟩⟩
theorem D_laws_markProgram_eq (a0 a1 : AVal) (h : AHeap) (Q : KA) : adFn Tryz.prog ⟨fun _ => ⟨[], [], .nil⟩, fun _ => none, fun _ => [], [2]⟩ Tryz.f12 [a0, a1] h Q = D_laws_markProgram a0 a1 h Q := by kernel_rfl
theorem D_laws_markProgram_of {a0 a1 : AVal} {h : AHeap} {Q : KA} (hd : D_laws_markProgram a0 a1 h Q) : callM Tryz.prog 12 [a0, a1] h Q := callM_of (fn := Tryz.f12) Tryz.func12 (Nat.le_of_ble_eq_true (by kernel_rfl)) ((D_laws_markProgram_eq a0 a1 h Q).symm ▸ hd)
theorem fn_laws_markProgram : fnT Tryz.prog 12 = true := by kernel_rfl
/- laws.markProgramResult -/
def D_laws_markProgramResult (a0 a1 : AVal) (h : AHeap) (Q : KA) : Prop :=
 boxFM a0 h fun x1 h1 =>
 fldAddrM Tryz.prog 43 x1 1 h1 fun x2 h2 =>
 loadM Tryz.prog 35 x2 h2 fun x3 h3 =>
 @clM Tryz.prog 12 [x3, a1] h3 ⟨fun x4 h4 =>
 retW x4 h4 Q⟩
theorem D_laws_markProgramResult_eq (a0 a1 : AVal) (h : AHeap) (Q : KA) : adFn Tryz.prog ⟨fun _ => ⟨[], [], .nil⟩, fun _ => none, fun _ => [], [2]⟩ Tryz.f19 [a0, a1] h Q = D_laws_markProgramResult a0 a1 h Q := by kernel_rfl
theorem D_laws_markProgramResult_of {a0 a1 : AVal} {h : AHeap} {Q : KA} (hd : D_laws_markProgramResult a0 a1 h Q) : callM Tryz.prog 19 [a0, a1] h Q := callM_of (fn := Tryz.f19) Tryz.func19 (Nat.le_of_ble_eq_true (by kernel_rfl)) ((D_laws_markProgramResult_eq a0 a1 h Q).symm ▸ hd)
theorem fn_laws_markProgramResult : fnT Tryz.prog 19 = true := by kernel_rfl
/- laws.szCertS -/
def D_laws_szCertS (a0 a1 : AVal) (h : AHeap) (Q : KA) : Prop :=
 lenM Tryz.prog 25 a0 h fun x1 h1 =>
 binM Tryz.prog .sub 3 a1 x1 h1 fun x2 h2 =>
 binM Tryz.prog .lss 3 x2 (i64 0) h2 fun x3 h3 =>
 gdM x3
 (retW (i64 (-1)) h3 Q)
 (retW x2 h3 Q)
theorem D_laws_szCertS_eq (a0 a1 : AVal) (h : AHeap) (Q : KA) : adFn Tryz.prog ⟨fun _ => ⟨[], [], .nil⟩, fun _ => none, fun _ => [], []⟩ Tryz.f33 [a0, a1] h Q = D_laws_szCertS a0 a1 h Q := by kernel_rfl
theorem D_laws_szCertS_of {a0 a1 : AVal} {h : AHeap} {Q : KA} (hd : D_laws_szCertS a0 a1 h Q) : callM Tryz.prog 33 [a0, a1] h Q := callM_of (fn := Tryz.f33) Tryz.func33 (Nat.le_of_ble_eq_true (by kernel_rfl)) ((D_laws_szCertS_eq a0 a1 h Q).symm ▸ hd)
theorem fn_laws_szCertS : fnT Tryz.prog 33 = true := by kernel_rfl
/- laws.szConstS -/
def D_laws_szConstS (a0 a1 : AVal) (h : AHeap) (Q : KA) : Prop :=
 lenM Tryz.prog 23 a0 h fun x1 h1 =>
 binM Tryz.prog .sub 3 a1 x1 h1 fun x2 h2 =>
 binM Tryz.prog .lss 3 x2 (i64 0) h2 fun x3 h3 =>
 gdM x3
 (retW (i64 (-1)) h3 Q)
 (retW x2 h3 Q)
theorem D_laws_szConstS_eq (a0 a1 : AVal) (h : AHeap) (Q : KA) : adFn Tryz.prog ⟨fun _ => ⟨[], [], .nil⟩, fun _ => none, fun _ => [], []⟩ Tryz.f31 [a0, a1] h Q = D_laws_szConstS a0 a1 h Q := by kernel_rfl
theorem D_laws_szConstS_of {a0 a1 : AVal} {h : AHeap} {Q : KA} (hd : D_laws_szConstS a0 a1 h Q) : callM Tryz.prog 31 [a0, a1] h Q := callM_of (fn := Tryz.f31) Tryz.func31 (Nat.le_of_ble_eq_true (by kernel_rfl)) ((D_laws_szConstS_eq a0 a1 h Q).symm ▸ hd)
theorem fn_laws_szConstS : fnT Tryz.prog 31 = true := by kernel_rfl
/- laws.szFunc -/
def D_laws_szFunc (a0 a1 : AVal) (h : AHeap) (Q : KA) : Prop :=
 boxFM a0 h fun x1 h1 =>
 fldAddrM Tryz.prog 140 x1 0 h1 fun x2 h2 =>
 loadM Tryz.prog 72 x2 h2 fun x3 h3 =>
 @clM Tryz.prog 77 [x3, a1] h3 ⟨fun x4 h4 =>
 binM Tryz.prog .lss 3 x4 (i64 0) h4 fun x5 h5 =>
 gdM x5
 (retW (i64 (-1)) h5 Q)
 (fldAddrM Tryz.prog 140 x1 2 h5 fun x6 h6 =>
 loadM Tryz.prog 72 x6 h6 fun x7 h7 =>
 @clM Tryz.prog 77 [x7, x4] h7 ⟨fun x8 h8 =>
 binM Tryz.prog .lss 3 x8 (i64 0) h8 fun x9 h9 =>
 gdM x9
 (retW (i64 (-1)) h9 Q)
 (fldAddrM Tryz.prog 140 x1 3 h9 fun x10 h10 =>
 loadM Tryz.prog 138 x10 h10 fun x11 h11 =>
 @clM Tryz.prog 117 [x11, x8] h11 ⟨fun x12 h12 =>
 binM Tryz.prog .lss 3 x12 (i64 0) h12 fun x13 h13 =>
 gdM x13
 (retW (i64 (-1)) h13 Q)
 (retW x12 h13 Q)⟩)⟩)⟩
theorem D_laws_szFunc_eq (a0 a1 : AVal) (h : AHeap) (Q : KA) : adFn Tryz.prog ⟨fun _ => ⟨[], [], .nil⟩, fun _ => none, fun _ => [], [2]⟩ Tryz.f78 [a0, a1] h Q = D_laws_szFunc a0 a1 h Q := by kernel_rfl
theorem D_laws_szFunc_of {a0 a1 : AVal} {h : AHeap} {Q : KA} (hd : D_laws_szFunc a0 a1 h Q) : callM Tryz.prog 78 [a0, a1] h Q := callM_of (fn := Tryz.f78) Tryz.func78 (Nat.le_of_ble_eq_true (by kernel_rfl)) ((D_laws_szFunc_eq a0 a1 h Q).symm ▸ hd)
theorem fn_laws_szFunc : fnT Tryz.prog 78 = true := by kernel_rfl
/- laws.szFuncS; J4: left i a -/
def D_laws_szFuncS (a0 a1 : AVal) (h : AHeap) (Q : KA) : Prop :=
 lenM Tryz.prog 24 a0 h fun x1 h1 =>
 binM Tryz.prog .sub 3 a1 x1 h1 fun x2 h2 =>
 binM Tryz.prog .lss 3 x2 (i64 0) h2 fun x3 h3 =>
 gdM x3
 (retW (i64 (-1)) h3 Q)
 (@lpM [x2, (i64 0), a0] h3 ⟨fun s4 h4 J4 =>
 lenM Tryz.prog 24 (nthA s4 2) h4 fun x5 h5 =>
 binM Tryz.prog .lss 3 (nthA s4 1) x5 h5 fun x6 h6 =>
 gdM x6
 (ixAddrM Tryz.prog 24 (nthA s4 2) (nthA s4 1) h6 fun x7 h7 =>
 loadM Tryz.prog 140 x7 h7 fun x8 h8 =>
 @clM Tryz.prog 78 [x8, (nthA s4 0)] h8 ⟨fun x9 h9 =>
 binM Tryz.prog .lss 3 x9 (i64 0) h9 fun x10 h10 =>
 gdM x10
 (retW (i64 (-1)) h10 Q)
 (binM Tryz.prog .add 3 (nthA s4 1) (i64 1) h10 fun x11 h11 =>
 @wkM [x9, x11, (nthA s4 2)] h11 ⟨J4⟩)⟩)
 (retW (nthA s4 0) h6 Q)⟩)
theorem D_laws_szFuncS_eq (a0 a1 : AVal) (h : AHeap) (Q : KA) : adFn Tryz.prog ⟨fun _ => ⟨[], [], .nil⟩, fun _ => none, fun i => bif Nat.beq i 5 then [1, 5, 0] else [], []⟩ Tryz.f32 [a0, a1] h Q = D_laws_szFuncS a0 a1 h Q := by kernel_rfl
theorem D_laws_szFuncS_of {a0 a1 : AVal} {h : AHeap} {Q : KA} (hd : D_laws_szFuncS a0 a1 h Q) : callM Tryz.prog 32 [a0, a1] h Q := callM_of (fn := Tryz.f32) Tryz.func32 (Nat.le_of_ble_eq_true (by kernel_rfl)) ((D_laws_szFuncS_eq a0 a1 h Q).symm ▸ hd)
theorem fn_laws_szFuncS : fnT Tryz.prog 32 = true := by kernel_rfl
/- laws.szInstrS -/
def D_laws_szInstrS (a0 a1 : AVal) (h : AHeap) (Q : KA) : Prop :=
 lenM Tryz.prog 138 a0 h fun x1 h1 =>
 binM Tryz.prog .sub 3 a1 x1 h1 fun x2 h2 =>
 binM Tryz.prog .lss 3 x2 (i64 0) h2 fun x3 h3 =>
 gdM x3
 (retW (i64 (-1)) h3 Q)
 (retW x2 h3 Q)
theorem D_laws_szInstrS_eq (a0 a1 : AVal) (h : AHeap) (Q : KA) : adFn Tryz.prog ⟨fun _ => ⟨[], [], .nil⟩, fun _ => none, fun _ => [], []⟩ Tryz.f117 [a0, a1] h Q = D_laws_szInstrS a0 a1 h Q := by kernel_rfl
theorem D_laws_szInstrS_of {a0 a1 : AVal} {h : AHeap} {Q : KA} (hd : D_laws_szInstrS a0 a1 h Q) : callM Tryz.prog 117 [a0, a1] h Q := callM_of (fn := Tryz.f117) Tryz.func117 (Nat.le_of_ble_eq_true (by kernel_rfl)) ((D_laws_szInstrS_eq a0 a1 h Q).symm ▸ hd)
theorem fn_laws_szInstrS : fnT Tryz.prog 117 = true := by kernel_rfl
/- laws.szInt64S -/
def D_laws_szInt64S (a0 a1 : AVal) (h : AHeap) (Q : KA) : Prop :=
 lenM Tryz.prog 72 a0 h fun x1 h1 =>
 binM Tryz.prog .sub 3 a1 x1 h1 fun x2 h2 =>
 binM Tryz.prog .lss 3 x2 (i64 0) h2 fun x3 h3 =>
 gdM x3
 (retW (i64 (-1)) h3 Q)
 (retW x2 h3 Q)
theorem D_laws_szInt64S_eq (a0 a1 : AVal) (h : AHeap) (Q : KA) : adFn Tryz.prog ⟨fun _ => ⟨[], [], .nil⟩, fun _ => none, fun _ => [], []⟩ Tryz.f77 [a0, a1] h Q = D_laws_szInt64S a0 a1 h Q := by kernel_rfl
theorem D_laws_szInt64S_of {a0 a1 : AVal} {h : AHeap} {Q : KA} (hd : D_laws_szInt64S a0 a1 h Q) : callM Tryz.prog 77 [a0, a1] h Q := callM_of (fn := Tryz.f77) Tryz.func77 (Nat.le_of_ble_eq_true (by kernel_rfl)) ((D_laws_szInt64S_eq a0 a1 h Q).symm ▸ hd)
theorem fn_laws_szInt64S : fnT Tryz.prog 77 = true := by kernel_rfl
/- laws.szInt64SS; J4: left i a -/
def D_laws_szInt64SS (a0 a1 : AVal) (h : AHeap) (Q : KA) : Prop :=
 lenM Tryz.prog 22 a0 h fun x1 h1 =>
 binM Tryz.prog .sub 3 a1 x1 h1 fun x2 h2 =>
 binM Tryz.prog .lss 3 x2 (i64 0) h2 fun x3 h3 =>
 gdM x3
 (retW (i64 (-1)) h3 Q)
 (@lpM [x2, (i64 0), a0] h3 ⟨fun s4 h4 J4 =>
 lenM Tryz.prog 22 (nthA s4 2) h4 fun x5 h5 =>
 binM Tryz.prog .lss 3 (nthA s4 1) x5 h5 fun x6 h6 =>
 gdM x6
 (ixAddrM Tryz.prog 22 (nthA s4 2) (nthA s4 1) h6 fun x7 h7 =>
 loadM Tryz.prog 72 x7 h7 fun x8 h8 =>
 @clM Tryz.prog 77 [x8, (nthA s4 0)] h8 ⟨fun x9 h9 =>
 binM Tryz.prog .lss 3 x9 (i64 0) h9 fun x10 h10 =>
 gdM x10
 (retW (i64 (-1)) h10 Q)
 (binM Tryz.prog .add 3 (nthA s4 1) (i64 1) h10 fun x11 h11 =>
 @wkM [x9, x11, (nthA s4 2)] h11 ⟨J4⟩)⟩)
 (retW (nthA s4 0) h6 Q)⟩)
theorem D_laws_szInt64SS_eq (a0 a1 : AVal) (h : AHeap) (Q : KA) : adFn Tryz.prog ⟨fun _ => ⟨[], [], .nil⟩, fun _ => none, fun i => bif Nat.beq i 5 then [1, 5, 0] else [], []⟩ Tryz.f30 [a0, a1] h Q = D_laws_szInt64SS a0 a1 h Q := by kernel_rfl
theorem D_laws_szInt64SS_of {a0 a1 : AVal} {h : AHeap} {Q : KA} (hd : D_laws_szInt64SS a0 a1 h Q) : callM Tryz.prog 30 [a0, a1] h Q := callM_of (fn := Tryz.f30) Tryz.func30 (Nat.le_of_ble_eq_true (by kernel_rfl)) ((D_laws_szInt64SS_eq a0 a1 h Q).symm ▸ hd)
theorem fn_laws_szInt64SS : fnT Tryz.prog 30 = true := by kernel_rfl
/- laws.szProgram -/
def D_laws_szProgram (a0 a1 : AVal) (h : AHeap) (Q : KA) : Prop :=
 boxFM a0 h fun x1 h1 =>
 fldAddrM Tryz.prog 27 x1 0 h1 fun x2 h2 =>
 loadM Tryz.prog 22 x2 h2 fun x3 h3 =>
 @clM Tryz.prog 30 [x3, a1] h3 ⟨fun x4 h4 =>
 binM Tryz.prog .lss 3 x4 (i64 0) h4 fun x5 h5 =>
 gdM x5
 (retW (i64 (-1)) h5 Q)
 (fldAddrM Tryz.prog 27 x1 1 h5 fun x6 h6 =>
 loadM Tryz.prog 23 x6 h6 fun x7 h7 =>
 @clM Tryz.prog 31 [x7, x4] h7 ⟨fun x8 h8 =>
 binM Tryz.prog .lss 3 x8 (i64 0) h8 fun x9 h9 =>
 gdM x9
 (retW (i64 (-1)) h9 Q)
 (fldAddrM Tryz.prog 27 x1 2 h9 fun x10 h10 =>
 loadM Tryz.prog 24 x10 h10 fun x11 h11 =>
 @clM Tryz.prog 32 [x11, x8] h11 ⟨fun x12 h12 =>
 binM Tryz.prog .lss 3 x12 (i64 0) h12 fun x13 h13 =>
 gdM x13
 (retW (i64 (-1)) h13 Q)
 (fldAddrM Tryz.prog 27 x1 3 h13 fun x14 h14 =>
 loadM Tryz.prog 25 x14 h14 fun x15 h15 =>
 @clM Tryz.prog 33 [x15, x12] h15 ⟨fun x16 h16 =>
 binM Tryz.prog .lss 3 x16 (i64 0) h16 fun x17 h17 =>
 gdM x17
 (retW (i64 (-1)) h17 Q)
 (retW x16 h17 Q)⟩)⟩)⟩)⟩
theorem D_laws_szProgram_eq (a0 a1 : AVal) (h : AHeap) (Q : KA) : adFn Tryz.prog ⟨fun _ => ⟨[], [], .nil⟩, fun _ => none, fun _ => [], [2]⟩ Tryz.f6 [a0, a1] h Q = D_laws_szProgram a0 a1 h Q := by kernel_rfl
theorem D_laws_szProgram_of {a0 a1 : AVal} {h : AHeap} {Q : KA} (hd : D_laws_szProgram a0 a1 h Q) : callM Tryz.prog 6 [a0, a1] h Q := callM_of (fn := Tryz.f6) Tryz.func6 (Nat.le_of_ble_eq_true (by kernel_rfl)) ((D_laws_szProgram_eq a0 a1 h Q).symm ▸ hd)
theorem fn_laws_szProgram : fnT Tryz.prog 6 = true := by kernel_rfl
/- laws.toByteS; J3: out i a -/
def D_laws_toByteS (a0 : AVal) (h : AHeap) (Q : KA) : Prop :=
 lenM Tryz.prog 29 a0 h fun x1 h1 =>
 makeM Tryz.prog 29 x1 x1 h1 fun x2 h2 =>
 @lpM [x2, (i64 0), a0] h2 ⟨fun s3 h3 J3 =>
 lenM Tryz.prog 29 (nthA s3 2) h3 fun x4 h4 =>
 binM Tryz.prog .lss 3 (nthA s3 1) x4 h4 fun x5 h5 =>
 gdM x5
 (ixAddrM Tryz.prog 29 (nthA s3 2) (nthA s3 1) h5 fun x6 h6 =>
 loadM Tryz.prog 5 x6 h6 fun x7 h7 =>
 ixAddrM Tryz.prog 29 (nthA s3 0) (nthA s3 1) h7 fun x8 h8 =>
 storeM Tryz.prog 5 x8 x7 h8 fun x9 h9 =>
 binM Tryz.prog .add 3 (nthA s3 1) (i64 1) h9 fun x10 h10 =>
 @wkM [(nthA s3 0), x10, (nthA s3 2)] h10 ⟨J3⟩)
 (retW (nthA s3 0) h5 Q)⟩
theorem D_laws_toByteS_eq (a0 : AVal) (h : AHeap) (Q : KA) : adFn Tryz.prog ⟨fun _ => ⟨[], [], .nil⟩, fun _ => none, fun i => bif Nat.beq i 3 then [3, 4, 0] else [], []⟩ Tryz.f16 [a0] h Q = D_laws_toByteS a0 h Q := by kernel_rfl
theorem D_laws_toByteS_of {a0 : AVal} {h : AHeap} {Q : KA} (hd : D_laws_toByteS a0 h Q) : callM Tryz.prog 16 [a0] h Q := callM_of (fn := Tryz.f16) Tryz.func16 (Nat.le_of_ble_eq_true (by kernel_rfl)) ((D_laws_toByteS_eq a0 h Q).symm ▸ hd)
theorem fn_laws_toByteS : fnT Tryz.prog 16 = true := by kernel_rfl
/- laws.toCert -/
def D_laws_toCert (a0 : AVal) (h : AHeap) (Q : KA) : Prop :=
 boxFM a0 h fun x1 h1 =>
 allocM Tryz.prog 83 h1 fun x2 h2 =>
 allocM Tryz.prog 83 h2 fun x3 h3 =>
 fldAddrM Tryz.prog 152 x1 0 h3 fun x4 h4 =>
 loadM Tryz.prog 2 x4 h4 fun x5 h5 =>
 fldAddrM Tryz.prog 83 x3 0 h5 fun x6 h6 =>
 storeM Tryz.prog 2 x6 x5 h6 fun x7 h7 =>
 fldAddrM Tryz.prog 152 x1 1 h7 fun x8 h8 =>
 loadM Tryz.prog 2 x8 h8 fun x9 h9 =>
 fldAddrM Tryz.prog 83 x3 1 h9 fun x10 h10 =>
 storeM Tryz.prog 2 x10 x9 h10 fun x11 h11 =>
 fldAddrM Tryz.prog 152 x1 2 h11 fun x12 h12 =>
 loadM Tryz.prog 2 x12 h12 fun x13 h13 =>
 fldAddrM Tryz.prog 83 x3 2 h13 fun x14 h14 =>
 storeM Tryz.prog 2 x14 x13 h14 fun x15 h15 =>
 fldAddrM Tryz.prog 152 x1 3 h15 fun x16 h16 =>
 loadM Tryz.prog 74 x16 h16 fun x17 h17 =>
 fldAddrM Tryz.prog 83 x3 3 h17 fun x18 h18 =>
 storeM Tryz.prog 74 x18 x17 h18 fun x19 h19 =>
 loadM Tryz.prog 83 x3 h19 fun x20 h20 =>
 storeM Tryz.prog 83 x2 x20 h20 fun x21 h21 =>
 loadM Tryz.prog 83 x2 h21 fun x22 h22 =>
 retW x22 h22 Q
theorem D_laws_toCert_eq (a0 : AVal) (h : AHeap) (Q : KA) : adFn Tryz.prog ⟨fun _ => ⟨[], [], .nil⟩, fun _ => none, fun _ => [], [1]⟩ Tryz.f87 [a0] h Q = D_laws_toCert a0 h Q := by kernel_rfl
theorem D_laws_toCert_of {a0 : AVal} {h : AHeap} {Q : KA} (hd : D_laws_toCert a0 h Q) : callM Tryz.prog 87 [a0] h Q := callM_of (fn := Tryz.f87) Tryz.func87 (Nat.le_of_ble_eq_true (by kernel_rfl)) ((D_laws_toCert_eq a0 h Q).symm ▸ hd)
theorem fn_laws_toCert : fnT Tryz.prog 87 = true := by kernel_rfl
/- laws.toCertS; J3: out i a -/
def D_laws_toCertS (a0 : AVal) (h : AHeap) (Q : KA) : Prop :=
 lenM Tryz.prog 25 a0 h fun x1 h1 =>
 makeM Tryz.prog 33 x1 x1 h1 fun x2 h2 =>
 @lpM [x2, (i64 0), a0] h2 ⟨fun s3 h3 J3 =>
 lenM Tryz.prog 25 (nthA s3 2) h3 fun x4 h4 =>
 binM Tryz.prog .lss 3 (nthA s3 1) x4 h4 fun x5 h5 =>
 gdM x5
 (ixAddrM Tryz.prog 25 (nthA s3 2) (nthA s3 1) h5 fun x6 h6 =>
 loadM Tryz.prog 152 x6 h6 fun x7 h7 =>
 @clM Tryz.prog 87 [x7] h7 ⟨fun x8 h8 =>
 ixAddrM Tryz.prog 33 (nthA s3 0) (nthA s3 1) h8 fun x9 h9 =>
 storeM Tryz.prog 83 x9 x8 h9 fun x10 h10 =>
 binM Tryz.prog .add 3 (nthA s3 1) (i64 1) h10 fun x11 h11 =>
 @wkM [(nthA s3 0), x11, (nthA s3 2)] h11 ⟨J3⟩⟩)
 (retW (nthA s3 0) h5 Q)⟩
theorem D_laws_toCertS_eq (a0 : AVal) (h : AHeap) (Q : KA) : adFn Tryz.prog ⟨fun _ => ⟨[], [], .nil⟩, fun _ => none, fun i => bif Nat.beq i 3 then [3, 4, 0] else [], []⟩ Tryz.f41 [a0] h Q = D_laws_toCertS a0 h Q := by kernel_rfl
theorem D_laws_toCertS_of {a0 : AVal} {h : AHeap} {Q : KA} (hd : D_laws_toCertS a0 h Q) : callM Tryz.prog 41 [a0] h Q := callM_of (fn := Tryz.f41) Tryz.func41 (Nat.le_of_ble_eq_true (by kernel_rfl)) ((D_laws_toCertS_eq a0 h Q).symm ▸ hd)
theorem fn_laws_toCertS : fnT Tryz.prog 41 = true := by kernel_rfl
/- laws.toConst -/
def D_laws_toConst (a0 : AVal) (h : AHeap) (Q : KA) : Prop :=
 boxFM a0 h fun x1 h1 =>
 allocM Tryz.prog 76 h1 fun x2 h2 =>
 allocM Tryz.prog 76 h2 fun x3 h3 =>
 fldAddrM Tryz.prog 149 x1 0 h3 fun x4 h4 =>
 loadM Tryz.prog 2 x4 h4 fun x5 h5 =>
 fldAddrM Tryz.prog 76 x3 0 h5 fun x6 h6 =>
 storeM Tryz.prog 2 x6 x5 h6 fun x7 h7 =>
 fldAddrM Tryz.prog 149 x1 1 h7 fun x8 h8 =>
 loadM Tryz.prog 74 x8 h8 fun x9 h9 =>
 fldAddrM Tryz.prog 76 x3 1 h9 fun x10 h10 =>
 storeM Tryz.prog 74 x10 x9 h10 fun x11 h11 =>
 loadM Tryz.prog 76 x3 h11 fun x12 h12 =>
 storeM Tryz.prog 76 x2 x12 h12 fun x13 h13 =>
 loadM Tryz.prog 76 x2 h13 fun x14 h14 =>
 retW x14 h14 Q
theorem D_laws_toConst_eq (a0 : AVal) (h : AHeap) (Q : KA) : adFn Tryz.prog ⟨fun _ => ⟨[], [], .nil⟩, fun _ => none, fun _ => [], [1]⟩ Tryz.f85 [a0] h Q = D_laws_toConst a0 h Q := by kernel_rfl
theorem D_laws_toConst_of {a0 : AVal} {h : AHeap} {Q : KA} (hd : D_laws_toConst a0 h Q) : callM Tryz.prog 85 [a0] h Q := callM_of (fn := Tryz.f85) Tryz.func85 (Nat.le_of_ble_eq_true (by kernel_rfl)) ((D_laws_toConst_eq a0 h Q).symm ▸ hd)
theorem fn_laws_toConst : fnT Tryz.prog 85 = true := by kernel_rfl
/- laws.toConstS; J3: out i a -/
def D_laws_toConstS (a0 : AVal) (h : AHeap) (Q : KA) : Prop :=
 lenM Tryz.prog 23 a0 h fun x1 h1 =>
 makeM Tryz.prog 31 x1 x1 h1 fun x2 h2 =>
 @lpM [x2, (i64 0), a0] h2 ⟨fun s3 h3 J3 =>
 lenM Tryz.prog 23 (nthA s3 2) h3 fun x4 h4 =>
 binM Tryz.prog .lss 3 (nthA s3 1) x4 h4 fun x5 h5 =>
 gdM x5
 (ixAddrM Tryz.prog 23 (nthA s3 2) (nthA s3 1) h5 fun x6 h6 =>
 loadM Tryz.prog 149 x6 h6 fun x7 h7 =>
 @clM Tryz.prog 85 [x7] h7 ⟨fun x8 h8 =>
 ixAddrM Tryz.prog 31 (nthA s3 0) (nthA s3 1) h8 fun x9 h9 =>
 storeM Tryz.prog 76 x9 x8 h9 fun x10 h10 =>
 binM Tryz.prog .add 3 (nthA s3 1) (i64 1) h10 fun x11 h11 =>
 @wkM [(nthA s3 0), x11, (nthA s3 2)] h11 ⟨J3⟩⟩)
 (retW (nthA s3 0) h5 Q)⟩
theorem D_laws_toConstS_eq (a0 : AVal) (h : AHeap) (Q : KA) : adFn Tryz.prog ⟨fun _ => ⟨[], [], .nil⟩, fun _ => none, fun i => bif Nat.beq i 3 then [3, 4, 0] else [], []⟩ Tryz.f39 [a0] h Q = D_laws_toConstS a0 h Q := by kernel_rfl
theorem D_laws_toConstS_of {a0 : AVal} {h : AHeap} {Q : KA} (hd : D_laws_toConstS a0 h Q) : callM Tryz.prog 39 [a0] h Q := callM_of (fn := Tryz.f39) Tryz.func39 (Nat.le_of_ble_eq_true (by kernel_rfl)) ((D_laws_toConstS_eq a0 h Q).symm ▸ hd)
theorem fn_laws_toConstS : fnT Tryz.prog 39 = true := by kernel_rfl
/- laws.toFunc -/
def D_laws_toFunc (a0 : AVal) (h : AHeap) (Q : KA) : Prop :=
 boxFM a0 h fun x1 h1 =>
 allocM Tryz.prog 79 h1 fun x2 h2 =>
 allocM Tryz.prog 79 h2 fun x3 h3 =>
 fldAddrM Tryz.prog 140 x1 0 h3 fun x4 h4 =>
 loadM Tryz.prog 72 x4 h4 fun x5 h5 =>
 @clM Tryz.prog 84 [x5] h5 ⟨fun x6 h6 =>
 fldAddrM Tryz.prog 79 x3 0 h6 fun x7 h7 =>
 storeM Tryz.prog 72 x7 x6 h7 fun x8 h8 =>
 fldAddrM Tryz.prog 140 x1 1 h8 fun x9 h9 =>
 loadM Tryz.prog 2 x9 h9 fun x10 h10 =>
 fldAddrM Tryz.prog 79 x3 1 h10 fun x11 h11 =>
 storeM Tryz.prog 2 x11 x10 h11 fun x12 h12 =>
 fldAddrM Tryz.prog 140 x1 2 h12 fun x13 h13 =>
 loadM Tryz.prog 72 x13 h13 fun x14 h14 =>
 @clM Tryz.prog 84 [x14] h14 ⟨fun x15 h15 =>
 fldAddrM Tryz.prog 79 x3 2 h15 fun x16 h16 =>
 storeM Tryz.prog 72 x16 x15 h16 fun x17 h17 =>
 fldAddrM Tryz.prog 140 x1 3 h17 fun x18 h18 =>
 loadM Tryz.prog 138 x18 h18 fun x19 h19 =>
 @clM Tryz.prog 124 [x19] h19 ⟨fun x20 h20 =>
 fldAddrM Tryz.prog 79 x3 3 h20 fun x21 h21 =>
 storeM Tryz.prog 77 x21 x20 h21 fun x22 h22 =>
 loadM Tryz.prog 79 x3 h22 fun x23 h23 =>
 storeM Tryz.prog 79 x2 x23 h23 fun x24 h24 =>
 loadM Tryz.prog 79 x2 h24 fun x25 h25 =>
 retW x25 h25 Q⟩⟩⟩
theorem D_laws_toFunc_eq (a0 : AVal) (h : AHeap) (Q : KA) : adFn Tryz.prog ⟨fun _ => ⟨[], [], .nil⟩, fun _ => none, fun _ => [], [1]⟩ Tryz.f86 [a0] h Q = D_laws_toFunc a0 h Q := by kernel_rfl
theorem D_laws_toFunc_of {a0 : AVal} {h : AHeap} {Q : KA} (hd : D_laws_toFunc a0 h Q) : callM Tryz.prog 86 [a0] h Q := callM_of (fn := Tryz.f86) Tryz.func86 (Nat.le_of_ble_eq_true (by kernel_rfl)) ((D_laws_toFunc_eq a0 h Q).symm ▸ hd)
theorem fn_laws_toFunc : fnT Tryz.prog 86 = true := by kernel_rfl
/- laws.toFuncS; J3: out i a -/
def D_laws_toFuncS (a0 : AVal) (h : AHeap) (Q : KA) : Prop :=
 lenM Tryz.prog 24 a0 h fun x1 h1 =>
 makeM Tryz.prog 32 x1 x1 h1 fun x2 h2 =>
 @lpM [x2, (i64 0), a0] h2 ⟨fun s3 h3 J3 =>
 lenM Tryz.prog 24 (nthA s3 2) h3 fun x4 h4 =>
 binM Tryz.prog .lss 3 (nthA s3 1) x4 h4 fun x5 h5 =>
 gdM x5
 (ixAddrM Tryz.prog 24 (nthA s3 2) (nthA s3 1) h5 fun x6 h6 =>
 loadM Tryz.prog 140 x6 h6 fun x7 h7 =>
 @clM Tryz.prog 86 [x7] h7 ⟨fun x8 h8 =>
 ixAddrM Tryz.prog 32 (nthA s3 0) (nthA s3 1) h8 fun x9 h9 =>
 storeM Tryz.prog 79 x9 x8 h9 fun x10 h10 =>
 binM Tryz.prog .add 3 (nthA s3 1) (i64 1) h10 fun x11 h11 =>
 @wkM [(nthA s3 0), x11, (nthA s3 2)] h11 ⟨J3⟩⟩)
 (retW (nthA s3 0) h5 Q)⟩
theorem D_laws_toFuncS_eq (a0 : AVal) (h : AHeap) (Q : KA) : adFn Tryz.prog ⟨fun _ => ⟨[], [], .nil⟩, fun _ => none, fun i => bif Nat.beq i 3 then [3, 4, 0] else [], []⟩ Tryz.f40 [a0] h Q = D_laws_toFuncS a0 h Q := by kernel_rfl
theorem D_laws_toFuncS_of {a0 : AVal} {h : AHeap} {Q : KA} (hd : D_laws_toFuncS a0 h Q) : callM Tryz.prog 40 [a0] h Q := callM_of (fn := Tryz.f40) Tryz.func40 (Nat.le_of_ble_eq_true (by kernel_rfl)) ((D_laws_toFuncS_eq a0 h Q).symm ▸ hd)
theorem fn_laws_toFuncS : fnT Tryz.prog 40 = true := by kernel_rfl
/- laws.toInstr -/
def D_laws_toInstr (a0 : AVal) (h : AHeap) (Q : KA) : Prop :=
 boxFM a0 h fun x1 h1 =>
 allocM Tryz.prog 81 h1 fun x2 h2 =>
 allocM Tryz.prog 81 h2 fun x3 h3 =>
 fldAddrM Tryz.prog 208 x1 0 h3 fun x4 h4 =>
 loadM Tryz.prog 2 x4 h4 fun x5 h5 =>
 fldAddrM Tryz.prog 81 x3 0 h5 fun x6 h6 =>
 storeM Tryz.prog 2 x6 x5 h6 fun x7 h7 =>
 fldAddrM Tryz.prog 208 x1 1 h7 fun x8 h8 =>
 loadM Tryz.prog 2 x8 h8 fun x9 h9 =>
 fldAddrM Tryz.prog 81 x3 1 h9 fun x10 h10 =>
 storeM Tryz.prog 2 x10 x9 h10 fun x11 h11 =>
 fldAddrM Tryz.prog 208 x1 2 h11 fun x12 h12 =>
 loadM Tryz.prog 2 x12 h12 fun x13 h13 =>
 fldAddrM Tryz.prog 81 x3 2 h13 fun x14 h14 =>
 storeM Tryz.prog 2 x14 x13 h14 fun x15 h15 =>
 fldAddrM Tryz.prog 208 x1 3 h15 fun x16 h16 =>
 loadM Tryz.prog 2 x16 h16 fun x17 h17 =>
 fldAddrM Tryz.prog 81 x3 3 h17 fun x18 h18 =>
 storeM Tryz.prog 2 x18 x17 h18 fun x19 h19 =>
 loadM Tryz.prog 81 x3 h19 fun x20 h20 =>
 storeM Tryz.prog 81 x2 x20 h20 fun x21 h21 =>
 loadM Tryz.prog 81 x2 h21 fun x22 h22 =>
 retW x22 h22 Q
theorem D_laws_toInstr_eq (a0 : AVal) (h : AHeap) (Q : KA) : adFn Tryz.prog ⟨fun _ => ⟨[], [], .nil⟩, fun _ => none, fun _ => [], [1]⟩ Tryz.f140 [a0] h Q = D_laws_toInstr a0 h Q := by kernel_rfl
theorem D_laws_toInstr_of {a0 : AVal} {h : AHeap} {Q : KA} (hd : D_laws_toInstr a0 h Q) : callM Tryz.prog 140 [a0] h Q := callM_of (fn := Tryz.f140) Tryz.func140 (Nat.le_of_ble_eq_true (by kernel_rfl)) ((D_laws_toInstr_eq a0 h Q).symm ▸ hd)
theorem fn_laws_toInstr : fnT Tryz.prog 140 = true := by kernel_rfl
/- laws.toInstrS; J3: out i a -/
def D_laws_toInstrS (a0 : AVal) (h : AHeap) (Q : KA) : Prop :=
 lenM Tryz.prog 138 a0 h fun x1 h1 =>
 makeM Tryz.prog 77 x1 x1 h1 fun x2 h2 =>
 @lpM [x2, (i64 0), a0] h2 ⟨fun s3 h3 J3 =>
 lenM Tryz.prog 138 (nthA s3 2) h3 fun x4 h4 =>
 binM Tryz.prog .lss 3 (nthA s3 1) x4 h4 fun x5 h5 =>
 gdM x5
 (ixAddrM Tryz.prog 138 (nthA s3 2) (nthA s3 1) h5 fun x6 h6 =>
 loadM Tryz.prog 208 x6 h6 fun x7 h7 =>
 @clM Tryz.prog 140 [x7] h7 ⟨fun x8 h8 =>
 ixAddrM Tryz.prog 77 (nthA s3 0) (nthA s3 1) h8 fun x9 h9 =>
 storeM Tryz.prog 81 x9 x8 h9 fun x10 h10 =>
 binM Tryz.prog .add 3 (nthA s3 1) (i64 1) h10 fun x11 h11 =>
 @wkM [(nthA s3 0), x11, (nthA s3 2)] h11 ⟨J3⟩⟩)
 (retW (nthA s3 0) h5 Q)⟩
theorem D_laws_toInstrS_eq (a0 : AVal) (h : AHeap) (Q : KA) : adFn Tryz.prog ⟨fun _ => ⟨[], [], .nil⟩, fun _ => none, fun i => bif Nat.beq i 3 then [3, 4, 0] else [], []⟩ Tryz.f124 [a0] h Q = D_laws_toInstrS a0 h Q := by kernel_rfl
theorem D_laws_toInstrS_of {a0 : AVal} {h : AHeap} {Q : KA} (hd : D_laws_toInstrS a0 h Q) : callM Tryz.prog 124 [a0] h Q := callM_of (fn := Tryz.f124) Tryz.func124 (Nat.le_of_ble_eq_true (by kernel_rfl)) ((D_laws_toInstrS_eq a0 h Q).symm ▸ hd)
theorem fn_laws_toInstrS : fnT Tryz.prog 124 = true := by kernel_rfl
/- laws.toInt64S; J3: out i a -/
def D_laws_toInt64S (a0 : AVal) (h : AHeap) (Q : KA) : Prop :=
 lenM Tryz.prog 72 a0 h fun x1 h1 =>
 makeM Tryz.prog 72 x1 x1 h1 fun x2 h2 =>
 @lpM [x2, (i64 0), a0] h2 ⟨fun s3 h3 J3 =>
 lenM Tryz.prog 72 (nthA s3 2) h3 fun x4 h4 =>
 binM Tryz.prog .lss 3 (nthA s3 1) x4 h4 fun x5 h5 =>
 gdM x5
 (ixAddrM Tryz.prog 72 (nthA s3 2) (nthA s3 1) h5 fun x6 h6 =>
 loadM Tryz.prog 2 x6 h6 fun x7 h7 =>
 ixAddrM Tryz.prog 72 (nthA s3 0) (nthA s3 1) h7 fun x8 h8 =>
 storeM Tryz.prog 2 x8 x7 h8 fun x9 h9 =>
 binM Tryz.prog .add 3 (nthA s3 1) (i64 1) h9 fun x10 h10 =>
 @wkM [(nthA s3 0), x10, (nthA s3 2)] h10 ⟨J3⟩)
 (retW (nthA s3 0) h5 Q)⟩
theorem D_laws_toInt64S_eq (a0 : AVal) (h : AHeap) (Q : KA) : adFn Tryz.prog ⟨fun _ => ⟨[], [], .nil⟩, fun _ => none, fun i => bif Nat.beq i 3 then [3, 4, 0] else [], []⟩ Tryz.f84 [a0] h Q = D_laws_toInt64S a0 h Q := by kernel_rfl
theorem D_laws_toInt64S_of {a0 : AVal} {h : AHeap} {Q : KA} (hd : D_laws_toInt64S a0 h Q) : callM Tryz.prog 84 [a0] h Q := callM_of (fn := Tryz.f84) Tryz.func84 (Nat.le_of_ble_eq_true (by kernel_rfl)) ((D_laws_toInt64S_eq a0 h Q).symm ▸ hd)
theorem fn_laws_toInt64S : fnT Tryz.prog 84 = true := by kernel_rfl
/- laws.toInt64SS; J3: out i a -/
def D_laws_toInt64SS (a0 : AVal) (h : AHeap) (Q : KA) : Prop :=
 lenM Tryz.prog 22 a0 h fun x1 h1 =>
 makeM Tryz.prog 22 x1 x1 h1 fun x2 h2 =>
 @lpM [x2, (i64 0), a0] h2 ⟨fun s3 h3 J3 =>
 lenM Tryz.prog 22 (nthA s3 2) h3 fun x4 h4 =>
 binM Tryz.prog .lss 3 (nthA s3 1) x4 h4 fun x5 h5 =>
 gdM x5
 (ixAddrM Tryz.prog 22 (nthA s3 2) (nthA s3 1) h5 fun x6 h6 =>
 loadM Tryz.prog 72 x6 h6 fun x7 h7 =>
 @clM Tryz.prog 84 [x7] h7 ⟨fun x8 h8 =>
 ixAddrM Tryz.prog 22 (nthA s3 0) (nthA s3 1) h8 fun x9 h9 =>
 storeM Tryz.prog 72 x9 x8 h9 fun x10 h10 =>
 binM Tryz.prog .add 3 (nthA s3 1) (i64 1) h10 fun x11 h11 =>
 @wkM [(nthA s3 0), x11, (nthA s3 2)] h11 ⟨J3⟩⟩)
 (retW (nthA s3 0) h5 Q)⟩
theorem D_laws_toInt64SS_eq (a0 : AVal) (h : AHeap) (Q : KA) : adFn Tryz.prog ⟨fun _ => ⟨[], [], .nil⟩, fun _ => none, fun i => bif Nat.beq i 3 then [3, 4, 0] else [], []⟩ Tryz.f38 [a0] h Q = D_laws_toInt64SS a0 h Q := by kernel_rfl
theorem D_laws_toInt64SS_of {a0 : AVal} {h : AHeap} {Q : KA} (hd : D_laws_toInt64SS a0 h Q) : callM Tryz.prog 38 [a0] h Q := callM_of (fn := Tryz.f38) Tryz.func38 (Nat.le_of_ble_eq_true (by kernel_rfl)) ((D_laws_toInt64SS_eq a0 h Q).symm ▸ hd)
theorem fn_laws_toInt64SS : fnT Tryz.prog 38 = true := by kernel_rfl
/- laws.toProgram -/
def D_laws_toProgram (a0 : AVal) (h : AHeap) (Q : KA) : Prop :=
 boxFM a0 h fun x1 h1 =>
 allocM Tryz.prog 35 h1 fun x2 h2 =>
 allocM Tryz.prog 35 h2 fun x3 h3 =>
 fldAddrM Tryz.prog 27 x1 0 h3 fun x4 h4 =>
 loadM Tryz.prog 22 x4 h4 fun x5 h5 =>
 @clM Tryz.prog 38 [x5] h5 ⟨fun x6 h6 =>
 fldAddrM Tryz.prog 35 x3 0 h6 fun x7 h7 =>
 storeM Tryz.prog 22 x7 x6 h7 fun x8 h8 =>
 fldAddrM Tryz.prog 27 x1 1 h8 fun x9 h9 =>
 loadM Tryz.prog 23 x9 h9 fun x10 h10 =>
 @clM Tryz.prog 39 [x10] h10 ⟨fun x11 h11 =>
 fldAddrM Tryz.prog 35 x3 1 h11 fun x12 h12 =>
 storeM Tryz.prog 31 x12 x11 h12 fun x13 h13 =>
 fldAddrM Tryz.prog 27 x1 2 h13 fun x14 h14 =>
 loadM Tryz.prog 24 x14 h14 fun x15 h15 =>
 @clM Tryz.prog 40 [x15] h15 ⟨fun x16 h16 =>
 fldAddrM Tryz.prog 35 x3 2 h16 fun x17 h17 =>
 storeM Tryz.prog 32 x17 x16 h17 fun x18 h18 =>
 fldAddrM Tryz.prog 27 x1 3 h18 fun x19 h19 =>
 loadM Tryz.prog 25 x19 h19 fun x20 h20 =>
 @clM Tryz.prog 41 [x20] h20 ⟨fun x21 h21 =>
 fldAddrM Tryz.prog 35 x3 3 h21 fun x22 h22 =>
 storeM Tryz.prog 33 x22 x21 h22 fun x23 h23 =>
 loadM Tryz.prog 35 x3 h23 fun x24 h24 =>
 storeM Tryz.prog 35 x2 x24 h24 fun x25 h25 =>
 loadM Tryz.prog 35 x2 h25 fun x26 h26 =>
 retW x26 h26 Q⟩⟩⟩⟩
theorem D_laws_toProgram_eq (a0 : AVal) (h : AHeap) (Q : KA) : adFn Tryz.prog ⟨fun _ => ⟨[], [], .nil⟩, fun _ => none, fun _ => [], [1]⟩ Tryz.f8 [a0] h Q = D_laws_toProgram a0 h Q := by kernel_rfl
theorem D_laws_toProgram_of {a0 : AVal} {h : AHeap} {Q : KA} (hd : D_laws_toProgram a0 h Q) : callM Tryz.prog 8 [a0] h Q := callM_of (fn := Tryz.f8) Tryz.func8 (Nat.le_of_ble_eq_true (by kernel_rfl)) ((D_laws_toProgram_eq a0 h Q).symm ▸ hd)
theorem fn_laws_toProgram : fnT Tryz.prog 8 = true := by kernel_rfl
/- spec.Crc; J1: r i b; J4: r b i k; J6: r b i k -/
def D_spec_Crc (a0 : AVal) (h : AHeap) (Q : KA) : Prop :=
 @lpM [(u32 4294967295), (i64 0), a0] h ⟨fun s1 h1 J1 =>
 lenM Tryz.prog 29 (nthA s1 2) h1 fun x2 h2 =>
 binM Tryz.prog .lss 3 (nthA s1 1) x2 h2 fun x3 h3 =>
 gdM x3
 (@lpM [(nthA s1 0), (nthA s1 2), (nthA s1 1), (u64 0)] h3 ⟨fun s4 h4 J4 =>
 binM Tryz.prog .lss 146 (nthA s4 3) (u64 8) h4 fun x5 h5 =>
 gdM x5
 (@jnM ⟨fun J6 =>
 ixAddrM Tryz.prog 29 (nthA s4 1) (nthA s4 2) h5 fun x7 h7 =>
 loadM Tryz.prog 5 x7 h7 fun x8 h8 =>
 binM Tryz.prog .shr 5 x8 (nthA s4 3) h8 fun x9 h9 =>
 convM Tryz.prog 5 74 x9 h9 fun x10 h10 =>
 binM Tryz.prog .and 74 x10 (u32 1) h10 fun x11 h11 =>
 binM Tryz.prog .and 74 (nthA s4 0) (u32 1) h11 fun x12 h12 =>
 binM Tryz.prog .shr 74 (nthA s4 0) (u64 1) h12 fun x13 h13 =>
 binM Tryz.prog .neq 74 x11 x12 h13 fun x14 h14 =>
 gdM x14
 (binM Tryz.prog .xor 74 x13 (u32 3988292384) h14 fun x15 h15 =>
 @wkM [x15, (nthA s4 1), (nthA s4 2), (nthA s4 3)] h15 ⟨J6⟩)
 (@wkM [x13, (nthA s4 1), (nthA s4 2), (nthA s4 3)] h14 ⟨J6⟩)⟩
 ⟨fun s6 h6 =>
 binM Tryz.prog .add 146 (nthA s6 3) (u64 1) h6 fun x16 h16 =>
 @wkM [(nthA s6 0), (nthA s6 1), (nthA s6 2), x16] h16 ⟨J4⟩⟩)
 (binM Tryz.prog .add 3 (nthA s4 2) (i64 1) h5 fun x17 h17 =>
 @wkM [(nthA s4 0), x17, (nthA s4 1)] h17 ⟨J1⟩)⟩)
 (unM .xor (nthA s1 0) h3 fun x18 h18 =>
 retW x18 h18 Q)⟩
theorem D_spec_Crc_eq (a0 : AVal) (h : AHeap) (Q : KA) : adFn Tryz.prog ⟨fun _ => ⟨[], [], .nil⟩, fun i => bif Nat.beq i 7 then some [3, 0, 4, 5] else none, fun i => bif Nat.beq i 3 then [3, 4, 0] else bif Nat.beq i 6 then [3, 0, 4, 5] else [], []⟩ Tryz.f37 [a0] h Q = D_spec_Crc a0 h Q := by kernel_rfl
theorem D_spec_Crc_of {a0 : AVal} {h : AHeap} {Q : KA} (hd : D_spec_Crc a0 h Q) : callM Tryz.prog 37 [a0] h Q := callM_of (fn := Tryz.f37) Tryz.func37 (Nat.le_of_ble_eq_true (by kernel_rfl)) ((D_spec_Crc_eq a0 h Q).symm ▸ hd)
theorem fn_spec_Crc : fnT Tryz.prog 37 = true := by kernel_rfl
/- spec.Decode; J3: _2 n b _15 -/
def or_spec_Decode_4 : DR := ⟨[0, 0, 2, 5, 8, 0, 0, 64, 160, 264, 512, 1040], [0, 0, 2, 7, 15, 0, 0, 64, 224, 495, 1007, 2047], (.one 0 (.one 1 (.one 2 (.one 5 (.one 6 (.one 7 (.one 8 (.one 3 (.one 4 (.one 9 (.one 10 (.one 11 .nil))))))))))))⟩
@[simp] theorem dr_spec_Decode_4 : drawnOK Tryz.prog [13] (regOps Tryz.f15 4) or_spec_Decode_4 = True := eq_true ⟨by kernel_rfl, by kernel_rfl⟩
def D_spec_Decode (a0 : AVal) (h : AHeap) (Q : KA) : Prop :=
 allocM Tryz.prog 43 h fun x1 h1 =>
 lenM Tryz.prog 29 a0 h1 fun x2 h2 =>
 @jnM ⟨fun J3 =>
 binM Tryz.prog .lss 2 x2 (i64 10) h2 fun x4 h4 =>
 gdM x4
 (@wkM [x1, x2, a0, tt] h4 ⟨J3⟩)
 (sliceM Tryz.prog 29 a0 none (some (i64 4)) none h4 fun x5 h5 =>
 cvsM Tryz.prog 29 9 x5 h5 fun x6 h6 =>
 binM Tryz.prog .neq 9 x6 (.v (Value.string ⟨#[80, 76, 67, 49]⟩)) h6 fun x7 h7 =>
 @wkM [x1, x2, a0, x7] h7 ⟨J3⟩)⟩
 ⟨fun s3 h3 =>
 gdM (nthA s3 3)
 (buildM Tryz.prog 43 [(0, (i64 1))] h3 fun x8 h8 =>
 storeM Tryz.prog 43 (nthA s3 0) x8 h8 fun x9 h9 =>
 loadM Tryz.prog 43 (nthA s3 0) h9 fun x10 h10 =>
 retW x10 h10 Q)
 (And (drawnOK Tryz.prog [13] (regOps Tryz.f15 4) or_spec_Decode_4) (binM Tryz.prog .sub 2 (nthA s3 1) (i64 4) h3 fun x11 h11 =>
 binM Tryz.prog .sub 2 (nthA s3 1) (i64 4) h11 fun x12 h12 =>
 sliceM Tryz.prog 29 (nthA s3 2) none (some x12) none h12 fun x13 h13 =>
 @clM Tryz.prog 54 [(nthA s3 2), x11, (i64 4)] h13 ⟨fun x14 h14 =>
 fieldM Tryz.prog 106 x14 1 h14 fun x15 h15 =>
 @clM Tryz.prog 37 [x13] h15 ⟨fun x16 h16 =>
 convM Tryz.prog 74 2 x16 h16 fun x17 h17 =>
 binM Tryz.prog .neq 2 x15 x17 h17 fun x18 h18 =>
 gdM x18
 (buildM Tryz.prog 43 [(0, (i64 2))] h18 fun x19 h19 =>
 storeM Tryz.prog 43 (nthA s3 0) x19 h19 fun x20 h20 =>
 loadM Tryz.prog 43 (nthA s3 0) h20 fun x21 h21 =>
 retW x21 h21 Q)
 (@clM Tryz.prog 54 [(nthA s3 2), (i64 4), (i64 2)] h18 ⟨fun x22 h22 =>
 fieldM Tryz.prog 106 x22 1 h22 fun x23 h23 =>
 binM Tryz.prog .neq 2 x23 (i64 1) h23 fun x24 h24 =>
 gdM x24
 (buildM Tryz.prog 43 [(0, (i64 3))] h24 fun x25 h25 =>
 storeM Tryz.prog 43 (nthA s3 0) x25 h25 fun x26 h26 =>
 loadM Tryz.prog 43 (nthA s3 0) h26 fun x27 h27 =>
 retW x27 h27 Q)
 (binM Tryz.prog .sub 2 (nthA s3 1) (i64 4) h24 fun x28 h28 =>
 sliceM Tryz.prog 29 (nthA s3 2) none (some x28) none h28 fun x29 h29 =>
 buildM Tryz.prog 110 [(0, x29), (1, (i64 6))] h29 fun x30 h30 =>
 boxM 110 x30 h30 fun x31 h31 =>
 @clM Tryz.prog 55 [x31] h31 ⟨fun x32 h32 =>
 allocM Tryz.prog 35 h32 fun x33 h33 =>
 storeM Tryz.prog 35 x33 x32 h33 fun x34 h34 =>
 nilChkM x31 h34 fun x35 h35 =>
 fldAddrM Tryz.prog 110 x35 2 h35 fun x36 h36 =>
 loadM Tryz.prog 4 x36 h36 fun x37 h37 =>
 gdM x37
 (buildM Tryz.prog 43 [(0, (i64 4))] h37 fun x38 h38 =>
 storeM Tryz.prog 43 (nthA s3 0) x38 h38 fun x39 h39 =>
 loadM Tryz.prog 43 (nthA s3 0) h39 fun x40 h40 =>
 retW x40 h40 Q)
 (nilChkM x31 h37 fun x41 h41 =>
 fldAddrM Tryz.prog 110 x41 1 h41 fun x42 h42 =>
 loadM Tryz.prog 2 x42 h42 fun x43 h43 =>
 binM Tryz.prog .sub 2 (nthA s3 1) (i64 4) h43 fun x44 h44 =>
 binM Tryz.prog .neq 2 x43 x44 h44 fun x45 h45 =>
 gdM x45
 (buildM Tryz.prog 43 [(0, (i64 5))] h45 fun x46 h46 =>
 storeM Tryz.prog 43 (nthA s3 0) x46 h46 fun x47 h47 =>
 loadM Tryz.prog 43 (nthA s3 0) h47 fun x48 h48 =>
 retW x48 h48 Q)
 (loadM Tryz.prog 35 x33 h45 fun x49 h49 =>
 @clM Tryz.prog 34 [x49] h49 ⟨fun x50 h50 =>
 binM Tryz.prog .neq 2 x50 (i64 0) h50 fun x51 h51 =>
 gdM x51
 (buildM Tryz.prog 43 [(0, (i64 6))] h51 fun x52 h52 =>
 storeM Tryz.prog 43 (nthA s3 0) x52 h52 fun x53 h53 =>
 loadM Tryz.prog 43 (nthA s3 0) h53 fun x54 h54 =>
 retW x54 h54 Q)
 (loadM Tryz.prog 35 x33 h51 fun x55 h55 =>
 buildM Tryz.prog 43 [(1, x55)] h55 fun x56 h56 =>
 storeM Tryz.prog 43 (nthA s3 0) x56 h56 fun x57 h57 =>
 loadM Tryz.prog 43 (nthA s3 0) h57 fun x58 h58 =>
 retW x58 h58 Q)⟩))⟩)⟩)⟩⟩))⟩
theorem D_spec_Decode_eq (a0 : AVal) (h : AHeap) (Q : KA) : adFn Tryz.prog ⟨fun i => bif Nat.beq i 4 then or_spec_Decode_4 else ⟨[], [], .nil⟩, fun i => bif Nat.beq i 3 then some [2, 3, 0, 15] else none, fun _ => [], [13]⟩ Tryz.f15 [a0] h Q = D_spec_Decode a0 h Q := by kernel_rfl
theorem D_spec_Decode_of {a0 : AVal} {h : AHeap} {Q : KA} (hd : D_spec_Decode a0 h Q) : callM Tryz.prog 15 [a0] h Q := callM_of (fn := Tryz.f15) Tryz.func15 (Nat.le_of_ble_eq_true (by kernel_rfl)) ((D_spec_Decode_eq a0 h Q).symm ▸ hd)
theorem fn_spec_Decode : fnT Tryz.prog 15 = true := by kernel_rfl
/- spec.GetNumber; J12: _6 v i at b n; J2: _6 at b n _26 -/
def D_spec_GetNumber (a0 a1 a2 : AVal) (h : AHeap) (Q : KA) : Prop :=
 allocM Tryz.prog 106 h fun x1 h1 =>
 @jnM ⟨fun J2 =>
 binM Tryz.prog .lss 2 a2 (i64 1) h1 fun x3 h3 =>
 gdM x3
 (@wkM [x1, a1, a0, a2, tt] h3 ⟨J2⟩)
 (binM Tryz.prog .gtr 2 a2 (i64 8) h3 fun x4 h4 =>
 gdM x4
 (@wkM [x1, a1, a0, a2, tt] h4 ⟨J2⟩)
 (binM Tryz.prog .lss 2 a1 (i64 0) h4 fun x5 h5 =>
 gdM x5
 (@wkM [x1, a1, a0, a2, tt] h5 ⟨J2⟩)
 (lenM Tryz.prog 29 a0 h5 fun x6 h6 =>
 binM Tryz.prog .sub 2 x6 a2 h6 fun x7 h7 =>
 binM Tryz.prog .gtr 2 a1 x7 h7 fun x8 h8 =>
 @wkM [x1, a1, a0, a2, x8] h8 ⟨J2⟩)))⟩
 ⟨fun s2 h2 =>
 gdM (nthA s2 4)
 (buildM Tryz.prog 106 [] h2 fun x9 h9 =>
 storeM Tryz.prog 106 (nthA s2 0) x9 h9 fun x10 h10 =>
 loadM Tryz.prog 106 (nthA s2 0) h10 fun x11 h11 =>
 retW x11 h11 Q)
 (@lpM [(nthA s2 0), (u64 0), (i64 0), (nthA s2 1), (nthA s2 2), (nthA s2 3)] h2 ⟨fun s12 h12 J12 =>
 binM Tryz.prog .lss 2 (nthA s12 2) (nthA s12 5) h12 fun x13 h13 =>
 gdM x13
 (binM Tryz.prog .add 2 (nthA s12 3) (nthA s12 2) h13 fun x14 h14 =>
 ixAddrM Tryz.prog 29 (nthA s12 4) x14 h14 fun x15 h15 =>
 loadM Tryz.prog 5 x15 h15 fun x16 h16 =>
 convM Tryz.prog 5 145 x16 h16 fun x17 h17 =>
 convM Tryz.prog 2 146 (nthA s12 2) h17 fun x18 h18 =>
 binM Tryz.prog .mul 146 (u64 8) x18 h18 fun x19 h19 =>
 binM Tryz.prog .shl 145 x17 x19 h19 fun x20 h20 =>
 binM Tryz.prog .or 145 (nthA s12 1) x20 h20 fun x21 h21 =>
 binM Tryz.prog .add 2 (nthA s12 2) (i64 1) h21 fun x22 h22 =>
 @wkM [(nthA s12 0), x21, x22, (nthA s12 3), (nthA s12 4), (nthA s12 5)] h22 ⟨J12⟩)
 (convM Tryz.prog 145 2 (nthA s12 1) h13 fun x23 h23 =>
 buildM Tryz.prog 106 [(0, tt), (1, x23)] h23 fun x24 h24 =>
 storeM Tryz.prog 106 (nthA s12 0) x24 h24 fun x25 h25 =>
 loadM Tryz.prog 106 (nthA s12 0) h25 fun x26 h26 =>
 retW x26 h26 Q)⟩)⟩
theorem D_spec_GetNumber_eq (a0 a1 a2 : AVal) (h : AHeap) (Q : KA) : adFn Tryz.prog ⟨fun _ => ⟨[], [], .nil⟩, fun i => bif Nat.beq i 2 then some [6, 1, 0, 2, 26] else none, fun i => bif Nat.beq i 5 then [6, 7, 8, 1, 0, 2] else [], []⟩ Tryz.f54 [a0, a1, a2] h Q = D_spec_GetNumber a0 a1 a2 h Q := by kernel_rfl
theorem D_spec_GetNumber_of {a0 a1 a2 : AVal} {h : AHeap} {Q : KA} (hd : D_spec_GetNumber a0 a1 a2 h Q) : callM Tryz.prog 54 [a0, a1, a2] h Q := callM_of (fn := Tryz.f54) Tryz.func54 (Nat.le_of_ble_eq_true (by kernel_rfl)) ((D_spec_GetNumber_eq a0 a1 a2 h Q).symm ▸ hd)
theorem fn_spec_GetNumber : fnT Tryz.prog 54 = true := by kernel_rfl
/- spec.Info; J2: _2 op _8 -/
def D_spec_Info (a0 : AVal) (h : AHeap) (Q : KA) : Prop :=
 allocM Tryz.prog 187 h fun x1 h1 =>
 @jnM ⟨fun J2 =>
 binM Tryz.prog .lss 2 a0 (i64 0) h1 fun x3 h3 =>
 gdM x3
 (@wkM [x1, a0, tt] h3 ⟨J2⟩)
 (binM Tryz.prog .gtr 2 a0 (i64 29) h3 fun x4 h4 =>
 @wkM [x1, a0, x4] h4 ⟨J2⟩)⟩
 ⟨fun s2 h2 =>
 gdM (nthA s2 2)
 (buildM Tryz.prog 187 [] h2 fun x5 h5 =>
 storeM Tryz.prog 187 (nthA s2 0) x5 h5 fun x6 h6 =>
 loadM Tryz.prog 187 (nthA s2 0) h6 fun x7 h7 =>
 retW x7 h7 Q)
 (@clM Tryz.prog 139 [] h2 ⟨fun x8 h8 =>
 ixAddrM Tryz.prog 205 x8 (nthA s2 1) h8 fun x9 h9 =>
 loadM Tryz.prog 187 x9 h9 fun x10 h10 =>
 storeM Tryz.prog 187 (nthA s2 0) x10 h10 fun x11 h11 =>
 loadM Tryz.prog 187 (nthA s2 0) h11 fun x12 h12 =>
 retW x12 h12 Q⟩)⟩
theorem D_spec_Info_eq (a0 : AVal) (h : AHeap) (Q : KA) : adFn Tryz.prog ⟨fun _ => ⟨[], [], .nil⟩, fun i => bif Nat.beq i 2 then some [2, 0, 8] else none, fun _ => [], []⟩ Tryz.f119 [a0] h Q = D_spec_Info a0 h Q := by kernel_rfl
theorem D_spec_Info_of {a0 : AVal} {h : AHeap} {Q : KA} (hd : D_spec_Info a0 h Q) : callM Tryz.prog 119 [a0] h Q := callM_of (fn := Tryz.f119) Tryz.func119 (Nat.le_of_ble_eq_true (by kernel_rfl)) ((D_spec_Info_eq a0 h Q).symm ▸ hd)
theorem fn_spec_Info : fnT Tryz.prog 119 = true := by kernel_rfl
/- spec.ProgramFault; J6: p i; J8: p i _30; J34: p i; J47: p i; J52: p i k; J25: p _43 -/
def or_spec_ProgramFault_23 : DR := ⟨[0, 0, 2, 0, 12, 16, 0, 64, 0, 384, 512, 1024, 0, 6144, 8192, 16417, 32768], [0, 0, 2, 0, 14, 30, 0, 64, 0, 448, 960, 1984, 0, 8128, 16320, 32767, 65535], (.one 0 (.one 1 (.one 2 (.one 3 (.one 4 (.one 5 (.one 6 (.one 7 (.one 8 (.one 9 (.one 10 (.one 11 (.one 12 (.one 13 (.one 14 (.one 15 (.one 16 .nil)))))))))))))))))⟩
@[simp] theorem dr_spec_ProgramFault_23 : drawnOK Tryz.prog [1, 78, 80, 83, 85, 89, 92] (regOps Tryz.f34 23) or_spec_ProgramFault_23 = True := eq_true ⟨by kernel_rfl, by kernel_rfl⟩
def D_spec_ProgramFault (a0 : AVal) (h : AHeap) (Q : KA) : Prop :=
 boxFM a0 h fun x1 h1 =>
 fldAddrM Tryz.prog 35 x1 0 h1 fun x2 h2 =>
 loadM Tryz.prog 22 x2 h2 fun x3 h3 =>
 lenM Tryz.prog 22 x3 h3 fun x4 h4 =>
 binM Tryz.prog .neq 3 x4 (i64 3) h4 fun x5 h5 =>
 gdM x5
 (retW (i64 1) h5 Q)
 (@lpM [x1, (i64 0)] h5 ⟨fun s6 h6 J6 =>
 binM Tryz.prog .lss 3 (nthA s6 1) (i64 3) h6 fun x7 h7 =>
 gdM x7
 (@jnM ⟨fun J8 =>
 fldAddrM Tryz.prog 35 (nthA s6 0) 0 h7 fun x9 h9 =>
 loadM Tryz.prog 22 x9 h9 fun x10 h10 =>
 ixAddrM Tryz.prog 22 x10 (nthA s6 1) h10 fun x11 h11 =>
 loadM Tryz.prog 72 x11 h11 fun x12 h12 =>
 lenM Tryz.prog 72 x12 h12 fun x13 h13 =>
 binM Tryz.prog .gtr 3 x13 (i64 256) h13 fun x14 h14 =>
 gdM x14
 (@wkM [(nthA s6 0), (nthA s6 1), tt] h14 ⟨J8⟩)
 (fldAddrM Tryz.prog 35 (nthA s6 0) 0 h14 fun x15 h15 =>
 loadM Tryz.prog 22 x15 h15 fun x16 h16 =>
 ixAddrM Tryz.prog 22 x16 (nthA s6 1) h16 fun x17 h17 =>
 loadM Tryz.prog 72 x17 h17 fun x18 h18 =>
 @clM Tryz.prog 79 [x18] h18 ⟨fun x19 h19 =>
 unM .not x19 h19 fun x20 h20 =>
 @wkM [(nthA s6 0), (nthA s6 1), x20] h20 ⟨J8⟩⟩)⟩
 ⟨fun s8 h8 =>
 gdM (nthA s8 2)
 (retW (i64 1) h8 Q)
 (binM Tryz.prog .add 3 (nthA s8 1) (i64 1) h8 fun x21 h21 =>
 @wkM [(nthA s8 0), x21] h21 ⟨J6⟩)⟩)
 (loadM Tryz.prog 35 (nthA s6 0) h7 fun x22 h22 =>
 @clM Tryz.prog 80 [x22] h22 ⟨fun x23 h23 =>
 unM .not x23 h23 fun x24 h24 =>
 gdM x24
 (retW (i64 2) h24 Q)
 (@jnM ⟨fun J25 =>
 fldAddrM Tryz.prog 35 (nthA s6 0) 2 h24 fun x26 h26 =>
 loadM Tryz.prog 32 x26 h26 fun x27 h27 =>
 lenM Tryz.prog 32 x27 h27 fun x28 h28 =>
 binM Tryz.prog .eql 3 x28 (i64 0) h28 fun x29 h29 =>
 gdM x29
 (@wkM [(nthA s6 0), tt] h29 ⟨J25⟩)
 (fldAddrM Tryz.prog 35 (nthA s6 0) 2 h29 fun x30 h30 =>
 loadM Tryz.prog 32 x30 h30 fun x31 h31 =>
 lenM Tryz.prog 32 x31 h31 fun x32 h32 =>
 binM Tryz.prog .gtr 3 x32 (i64 32) h32 fun x33 h33 =>
 @wkM [(nthA s6 0), x33] h33 ⟨J25⟩)⟩
 ⟨fun s25 h25 =>
 gdM (nthA s25 1)
 (retW (i64 3) h25 Q)
 (@lpM [(nthA s25 0), (i64 0)] h25 ⟨fun s34 h34 J34 =>
 fldAddrM Tryz.prog 35 (nthA s34 0) 2 h34 fun x35 h35 =>
 loadM Tryz.prog 32 x35 h35 fun x36 h36 =>
 lenM Tryz.prog 32 x36 h36 fun x37 h37 =>
 binM Tryz.prog .lss 3 (nthA s34 1) x37 h37 fun x38 h38 =>
 gdM x38
 (fldAddrM Tryz.prog 35 (nthA s34 0) 2 h38 fun x39 h39 =>
 loadM Tryz.prog 32 x39 h39 fun x40 h40 =>
 ixAddrM Tryz.prog 32 x40 (nthA s34 1) h40 fun x41 h41 =>
 loadM Tryz.prog 79 x41 h41 fun x42 h42 =>
 binM Tryz.prog .eql 3 (nthA s34 1) (i64 0) h42 fun x43 h43 =>
 @clM Tryz.prog 81 [x42, x43] h43 ⟨fun x44 h44 =>
 unM .not x44 h44 fun x45 h45 =>
 gdM x45
 (retW (i64 3) h45 Q)
 (binM Tryz.prog .add 3 (nthA s34 1) (i64 1) h45 fun x46 h46 =>
 @wkM [(nthA s34 0), x46] h46 ⟨J34⟩)⟩)
 (@lpM [(nthA s34 0), (i64 0)] h38 ⟨fun s47 h47 J47 =>
 fldAddrM Tryz.prog 35 (nthA s47 0) 2 h47 fun x48 h48 =>
 loadM Tryz.prog 32 x48 h48 fun x49 h49 =>
 lenM Tryz.prog 32 x49 h49 fun x50 h50 =>
 binM Tryz.prog .lss 3 (nthA s47 1) x50 h50 fun x51 h51 =>
 gdM x51
 (@lpM [(nthA s47 0), (nthA s47 1), (i64 0)] h51 ⟨fun s52 h52 J52 =>
 fldAddrM Tryz.prog 35 (nthA s52 0) 2 h52 fun x53 h53 =>
 loadM Tryz.prog 32 x53 h53 fun x54 h54 =>
 ixAddrM Tryz.prog 32 x54 (nthA s52 1) h54 fun x55 h55 =>
 fldAddrM Tryz.prog 79 x55 3 h55 fun x56 h56 =>
 loadM Tryz.prog 77 x56 h56 fun x57 h57 =>
 lenM Tryz.prog 77 x57 h57 fun x58 h58 =>
 binM Tryz.prog .lss 3 (nthA s52 2) x58 h58 fun x59 h59 =>
 gdM x59
 (And (drawnOK Tryz.prog [1, 78, 80, 83, 85, 89, 92] (regOps Tryz.f34 23) or_spec_ProgramFault_23) (loadFM Tryz.prog 35 (nthA s52 0) h59 fun x60 h60 =>
 fldAddrM Tryz.prog 35 (nthA s52 0) 2 h60 fun x61 h61 =>
 loadFM Tryz.prog 32 x61 h61 fun x62 h62 =>
 ixAddrM Tryz.prog 32 x62 (nthA s52 1) h62 fun x63 h63 =>
 loadFM Tryz.prog 79 x63 h63 fun x64 h64 =>
 fldAddrM Tryz.prog 35 (nthA s52 0) 2 h64 fun x65 h65 =>
 loadFM Tryz.prog 32 x65 h65 fun x66 h66 =>
 ixAddrM Tryz.prog 32 x66 (nthA s52 1) h66 fun x67 h67 =>
 fldAddrM Tryz.prog 79 x67 3 h67 fun x68 h68 =>
 loadFM Tryz.prog 77 x68 h68 fun x69 h69 =>
 ixAddrM Tryz.prog 77 x69 (nthA s52 2) h69 fun x70 h70 =>
 loadFM Tryz.prog 81 x70 h70 fun x71 h71 =>
 @clM Tryz.prog 82 [x60, x64, x71] h71 ⟨fun x72 h72 =>
 unM .not x72 h72 fun x73 h73 =>
 gdM x73
 (retW (i64 4) h73 Q)
 (binM Tryz.prog .add 3 (nthA s52 2) (i64 1) h73 fun x74 h74 =>
 @wkM [(nthA s52 0), (nthA s52 1), x74] h74 ⟨J52⟩)⟩))
 (binM Tryz.prog .add 3 (nthA s52 1) (i64 1) h59 fun x75 h75 =>
 @wkM [(nthA s52 0), x75] h75 ⟨J47⟩)⟩)
 (loadM Tryz.prog 35 (nthA s47 0) h51 fun x76 h76 =>
 @clM Tryz.prog 83 [x76] h76 ⟨fun x77 h77 =>
 unM .not x77 h77 fun x78 h78 =>
 gdM x78
 (retW (i64 5) h78 Q)
 (retW (i64 0) h78 Q)⟩)⟩)⟩)⟩)⟩)⟩)
theorem D_spec_ProgramFault_eq (a0 : AVal) (h : AHeap) (Q : KA) : adFn Tryz.prog ⟨fun i => bif Nat.beq i 23 then or_spec_ProgramFault_23 else ⟨[], [], .nil⟩, fun i => bif Nat.beq i 7 then some [1, 3, 30] else bif Nat.beq i 11 then some [1, 43] else none, fun i => bif Nat.beq i 4 then [1, 3] else bif Nat.beq i 13 then [1, 4] else bif Nat.beq i 18 then [1, 5] else bif Nat.beq i 21 then [1, 5, 6] else [], [1, 78, 80, 83, 85, 89, 92]⟩ Tryz.f34 [a0] h Q = D_spec_ProgramFault a0 h Q := by kernel_rfl
theorem D_spec_ProgramFault_of {a0 : AVal} {h : AHeap} {Q : KA} (hd : D_spec_ProgramFault a0 h Q) : callM Tryz.prog 34 [a0] h Q := callM_of (fn := Tryz.f34) Tryz.func34 (Nat.le_of_ble_eq_true (by kernel_rfl)) ((D_spec_ProgramFault_eq a0 h Q).symm ▸ hd)
theorem fn_spec_ProgramFault : fnT Tryz.prog 34 = true := by kernel_rfl
/- spec.l2Infos -/
def D_spec_l2Infos (h : AHeap) (Q : KA) : Prop :=
 buildM Tryz.prog 187 [(0, (.v (Value.string ⟨#[110, 111, 112]⟩))), (1, (i64 1))] h fun x1 h1 =>
 buildM Tryz.prog 187 [(0, (.v (Value.string ⟨#[99, 111, 110, 115, 116]⟩))), (1, (i64 1)), (2, (i64 1))] h1 fun x2 h2 =>
 buildM Tryz.prog 187 [(0, (.v (Value.string ⟨#[108, 111, 97, 100, 108, 111, 99, 97, 108]⟩))), (1, (i64 1)), (2, (i64 2))] h2 fun x3 h3 =>
 buildM Tryz.prog 187 [(0, (.v (Value.string ⟨#[115, 116, 111, 114, 101, 108, 111, 99, 97, 108]⟩))), (1, (i64 1)), (2, (i64 2))] h3 fun x4 h4 =>
 buildM Tryz.prog 187 [(0, (.v (Value.string ⟨#[108, 111, 97, 100]⟩))), (1, (i64 2)), (2, (i64 3))] h4 fun x5 h5 =>
 buildM Tryz.prog 187 [(0, (.v (Value.string ⟨#[115, 116, 111, 114, 101]⟩))), (1, (i64 2)), (2, (i64 3))] h5 fun x6 h6 =>
 buildM Tryz.prog 187 [(0, (.v (Value.string ⟨#[108, 111, 97, 100, 97, 116]⟩))), (1, (i64 3)), (2, (i64 4))] h6 fun x7 h7 =>
 buildM Tryz.prog 187 [(0, (.v (Value.string ⟨#[115, 116, 111, 114, 101, 97, 116]⟩))), (1, (i64 3)), (2, (i64 4))] h7 fun x8 h8 =>
 buildM Tryz.prog 187 [(0, (.v (Value.string ⟨#[97, 100, 100]⟩))), (1, (i64 1)), (2, (i64 5))] h8 fun x9 h9 =>
 buildM Tryz.prog 187 [(0, (.v (Value.string ⟨#[115, 117, 98]⟩))), (1, (i64 1)), (2, (i64 5))] h9 fun x10 h10 =>
 buildM Tryz.prog 187 [(0, (.v (Value.string ⟨#[109, 117, 108]⟩))), (1, (i64 3)), (2, (i64 5))] h10 fun x11 h11 =>
 buildM Tryz.prog 187 [(0, (.v (Value.string ⟨#[100, 105, 118]⟩))), (1, (i64 8)), (2, (i64 5))] h11 fun x12 h12 =>
 buildM Tryz.prog 187 [(0, (.v (Value.string ⟨#[109, 111, 100]⟩))), (1, (i64 8)), (2, (i64 5))] h12 fun x13 h13 =>
 buildM Tryz.prog 187 [(0, (.v (Value.string ⟨#[97, 110, 100]⟩))), (1, (i64 1)), (2, (i64 6))] h13 fun x14 h14 =>
 buildM Tryz.prog 187 [(0, (.v (Value.string ⟨#[111, 114]⟩))), (1, (i64 1)), (2, (i64 6))] h14 fun x15 h15 =>
 buildM Tryz.prog 187 [(0, (.v (Value.string ⟨#[120, 111, 114]⟩))), (1, (i64 1)), (2, (i64 6))] h15 fun x16 h16 =>
 buildM Tryz.prog 187 [(0, (.v (Value.string ⟨#[110, 111, 116]⟩))), (1, (i64 1)), (2, (i64 6))] h16 fun x17 h17 =>
 buildM Tryz.prog 187 [(0, (.v (Value.string ⟨#[115, 104, 108]⟩))), (1, (i64 1))] h17 fun x18 h18 =>
 buildM Tryz.prog 187 [(0, (.v (Value.string ⟨#[115, 104, 114]⟩))), (1, (i64 1))] h18 fun x19 h19 =>
 buildM Tryz.prog 187 [(0, (.v (Value.string ⟨#[110, 101, 103]⟩))), (1, (i64 1))] h19 fun x20 h20 =>
 buildM Tryz.prog 187 [(0, (.v (Value.string ⟨#[101, 113]⟩))), (1, (i64 1)), (2, (i64 7))] h20 fun x21 h21 =>
 buildM Tryz.prog 187 [(0, (.v (Value.string ⟨#[108, 101, 115, 115]⟩))), (1, (i64 1)), (2, (i64 5))] h21 fun x22 h22 =>
 buildM Tryz.prog 187 [(0, (.v (Value.string ⟨#[99, 111, 110, 118]⟩))), (1, (i64 1)), (2, (i64 8))] h22 fun x23 h23 =>
 buildM Tryz.prog 187 [(0, (.v (Value.string ⟨#[100, 117, 112]⟩))), (1, (i64 1))] h23 fun x24 h24 =>
 buildM Tryz.prog 187 [(0, (.v (Value.string ⟨#[100, 114, 111, 112]⟩))), (1, (i64 1))] h24 fun x25 h25 =>
 buildM Tryz.prog 187 [(0, (.v (Value.string ⟨#[106, 117, 109, 112]⟩))), (1, (i64 2)), (2, (i64 9))] h25 fun x26 h26 =>
 buildM Tryz.prog 187 [(0, (.v (Value.string ⟨#[106, 117, 109, 112, 122, 101, 114, 111]⟩))), (1, (i64 2)), (2, (i64 9))] h26 fun x27 h27 =>
 buildM Tryz.prog 187 [(0, (.v (Value.string ⟨#[103, 117, 97, 114, 100]⟩))), (1, (i64 2)), (2, (i64 10))] h27 fun x28 h28 =>
 buildM Tryz.prog 187 [(0, (.v (Value.string ⟨#[99, 97, 108, 108]⟩))), (1, (i64 4)), (2, (i64 11))] h28 fun x29 h29 =>
 buildM Tryz.prog 187 [(0, (.v (Value.string ⟨#[114, 101, 116, 117, 114, 110]⟩))), (1, (i64 2))] h29 fun x30 h30 =>
 buildSliceM Tryz.prog 205 30 [(0, x1), (1, x2), (2, x3), (3, x4), (4, x5), (5, x6), (6, x7), (7, x8), (8, x9), (9, x10), (10, x11), (11, x12), (12, x13), (13, x14), (14, x15), (15, x16), (16, x17), (17, x18), (18, x19), (19, x20), (20, x21), (21, x22), (22, x23), (23, x24), (24, x25), (25, x26), (26, x27), (27, x28), (28, x29), (29, x30)] h30 fun x31 h31 =>
 retW x31 h31 Q
theorem D_spec_l2Infos_eq (h : AHeap) (Q : KA) : adFn Tryz.prog ⟨fun _ => ⟨[], [], .nil⟩, fun _ => none, fun _ => [], []⟩ Tryz.f139 [] h Q = D_spec_l2Infos  h Q := by kernel_rfl
theorem D_spec_l2Infos_of {h : AHeap} {Q : KA} (hd : D_spec_l2Infos  h Q) : callM Tryz.prog 139 [] h Q := callM_of (fn := Tryz.f139) Tryz.func139 (Nat.le_of_ble_eq_true (by kernel_rfl)) ((D_spec_l2Infos_eq  h Q).symm ▸ hd)
theorem fn_spec_l2Infos : fnT Tryz.prog 139 = true := by kernel_rfl
/- spec.l2Takes; J2: _4; J6: _4; J10: _4; J12: _4 -/
def D_spec_l2Takes (a0 a1 : AVal) (h : AHeap) (Q : KA) : Prop :=
 binM Tryz.prog .eql 2 a0 (i64 5) h fun x1 h1 =>
 gdM x1
 (@jnM ⟨fun J2 =>
 binM Tryz.prog .eql 2 a1 (i64 2) h1 fun x3 h3 =>
 gdM x3
 (@wkM [tt] h3 ⟨J2⟩)
 (binM Tryz.prog .eql 2 a1 (i64 3) h3 fun x4 h4 =>
 @wkM [x4] h4 ⟨J2⟩)⟩
 ⟨fun s2 h2 =>
 retW (nthA s2 0) h2 Q⟩)
 (binM Tryz.prog .eql 2 a0 (i64 6) h1 fun x5 h5 =>
 gdM x5
 (@jnM ⟨fun J6 =>
 binM Tryz.prog .eql 2 a1 (i64 1) h5 fun x7 h7 =>
 gdM x7
 (@wkM [tt] h7 ⟨J6⟩)
 (binM Tryz.prog .eql 2 a1 (i64 3) h7 fun x8 h8 =>
 @wkM [x8] h8 ⟨J6⟩)⟩
 ⟨fun s6 h6 =>
 retW (nthA s6 0) h6 Q⟩)
 (binM Tryz.prog .eql 2 a0 (i64 7) h5 fun x9 h9 =>
 gdM x9
 (@jnM ⟨fun J10 =>
 @clM Tryz.prog 118 [a1] h9 ⟨fun x11 h11 =>
 @wkM [x11] h11 ⟨J10⟩⟩⟩
 ⟨fun s10 h10 =>
 retW (nthA s10 0) h10 Q⟩)
 (@jnM ⟨fun J12 =>
 @wkM [ff] h9 ⟨J12⟩⟩
 ⟨fun s12 h12 =>
 retW (nthA s12 0) h12 Q⟩)))
theorem D_spec_l2Takes_eq (a0 a1 : AVal) (h : AHeap) (Q : KA) : adFn Tryz.prog ⟨fun _ => ⟨[], [], .nil⟩, fun i => bif Nat.beq i 0 then some [4] else none, fun _ => [], []⟩ Tryz.f123 [a0, a1] h Q = D_spec_l2Takes a0 a1 h Q := by kernel_rfl
theorem D_spec_l2Takes_of {a0 a1 : AVal} {h : AHeap} {Q : KA} (hd : D_spec_l2Takes a0 a1 h Q) : callM Tryz.prog 123 [a0, a1] h Q := callM_of (fn := Tryz.f123) Tryz.func123 (Nat.le_of_ble_eq_true (by kernel_rfl)) ((D_spec_l2Takes_eq a0 a1 h Q).symm ▸ hd)
theorem fn_spec_l2Takes : fnT Tryz.prog 123 = true := by kernel_rfl
/- spec.l2Type; J1: _2 -/
def D_spec_l2Type (a0 : AVal) (h : AHeap) (Q : KA) : Prop :=
 @jnM ⟨fun J1 =>
 binM Tryz.prog .geq 2 a0 (i64 1) h fun x2 h2 =>
 gdM x2
 (binM Tryz.prog .leq 2 a0 (i64 3) h2 fun x3 h3 =>
 @wkM [x3] h3 ⟨J1⟩)
 (@wkM [ff] h2 ⟨J1⟩)⟩
 ⟨fun s1 h1 =>
 retW (nthA s1 0) h1 Q⟩
theorem D_spec_l2Type_eq (a0 : AVal) (h : AHeap) (Q : KA) : adFn Tryz.prog ⟨fun _ => ⟨[], [], .nil⟩, fun i => bif Nat.beq i 0 then some [2] else none, fun _ => [], []⟩ Tryz.f118 [a0] h Q = D_spec_l2Type a0 h Q := by kernel_rfl
theorem D_spec_l2Type_of {a0 : AVal} {h : AHeap} {Q : KA} (hd : D_spec_l2Type a0 h Q) : callM Tryz.prog 118 [a0] h Q := callM_of (fn := Tryz.f118) Tryz.func118 (Nat.le_of_ble_eq_true (by kernel_rfl)) ((D_spec_l2Type_eq a0 h Q).symm ▸ hd)
theorem fn_spec_l2Type : fnT Tryz.prog 118 = true := by kernel_rfl
/- spec.l3Cell; J2: cell region p _26 -/
def D_spec_l3Cell (a0 a1 a2 : AVal) (h : AHeap) (Q : KA) : Prop :=
 boxFM a0 h fun x1 h1 =>
 @jnM ⟨fun J2 =>
 binM Tryz.prog .lss 2 a1 (i64 0) h1 fun x3 h3 =>
 gdM x3
 (@wkM [a2, a1, x1, tt] h3 ⟨J2⟩)
 (binM Tryz.prog .gtr 2 a1 (i64 2) h3 fun x4 h4 =>
 gdM x4
 (@wkM [a2, a1, x1, tt] h4 ⟨J2⟩)
 (binM Tryz.prog .lss 2 a2 (i64 0) h4 fun x5 h5 =>
 gdM x5
 (@wkM [a2, a1, x1, tt] h5 ⟨J2⟩)
 (fldAddrM Tryz.prog 35 x1 0 h5 fun x6 h6 =>
 loadM Tryz.prog 22 x6 h6 fun x7 h7 =>
 ixAddrM Tryz.prog 22 x7 a1 h7 fun x8 h8 =>
 loadM Tryz.prog 72 x8 h8 fun x9 h9 =>
 lenM Tryz.prog 72 x9 h9 fun x10 h10 =>
 binM Tryz.prog .geq 2 a2 x10 h10 fun x11 h11 =>
 @wkM [a2, a1, x1, x11] h11 ⟨J2⟩)))⟩
 ⟨fun s2 h2 =>
 gdM (nthA s2 3)
 (retW (i64 0) h2 Q)
 (fldAddrM Tryz.prog 35 (nthA s2 2) 0 h2 fun x12 h12 =>
 loadM Tryz.prog 22 x12 h12 fun x13 h13 =>
 ixAddrM Tryz.prog 22 x13 (nthA s2 1) h13 fun x14 h14 =>
 loadM Tryz.prog 72 x14 h14 fun x15 h15 =>
 ixAddrM Tryz.prog 72 x15 (nthA s2 0) h15 fun x16 h16 =>
 loadM Tryz.prog 2 x16 h16 fun x17 h17 =>
 retW x17 h17 Q)⟩
theorem D_spec_l3Cell_eq (a0 a1 a2 : AVal) (h : AHeap) (Q : KA) : adFn Tryz.prog ⟨fun _ => ⟨[], [], .nil⟩, fun i => bif Nat.beq i 2 then some [2, 1, 3, 26] else none, fun _ => [], [3]⟩ Tryz.f121 [a0, a1, a2] h Q = D_spec_l3Cell a0 a1 a2 h Q := by kernel_rfl
theorem D_spec_l3Cell_of {a0 a1 a2 : AVal} {h : AHeap} {Q : KA} (hd : D_spec_l3Cell a0 a1 a2 h Q) : callM Tryz.prog 121 [a0, a1, a2] h Q := callM_of (fn := Tryz.f121) Tryz.func121 (Nat.le_of_ble_eq_true (by kernel_rfl)) ((D_spec_l3Cell_eq a0 a1 a2 h Q).symm ▸ hd)
theorem fn_spec_l3Cell : fnT Tryz.prog 121 = true := by kernel_rfl
/- spec.l3Certs; J2: p i; J46: p i _90; J31: p i c _52; J13: p i c _28 -/
def or_spec_l3Certs_10 : DR := ⟨[0, 1, 2, 4, 12, 4, 36, 84, 132, 260, 4, 1028, 2564, 4100, 8192, 24576, 8192, 73728, 172032, 270336, 532480, 8192, 2105344, 5251072, 8396800, 16777216, 50331648, 16777216, 150994944, 352321536, 553648128, 1090519040, 16777216, 4311744512, 10754195456, 17196654592, 34359746564, 68719476740], [0, 1, 3, 7, 15, 7, 39, 127, 255, 511, 7, 1031, 4095, 8191, 16383, 32767, 16383, 81919, 262143, 524287, 1048575, 16383, 2113535, 8388607, 16777215, 33554431, 67108863, 33554431, 167772159, 536870911, 1073741823, 2147483647, 33554431, 4328521727, 17179869183, 34359738367, 68719476735, 137438953471], (.one 0 (.one 1 (.one 2 (.one 3 (.one 4 (.one 5 (.one 6 (.one 7 (.one 8 (.one 9 (.one 10 (.one 11 (.one 12 (.one 13 (.one 14 (.one 15 (.one 16 (.one 17 (.one 18 (.one 19 (.one 20 (.one 21 (.one 22 (.one 23 (.one 24 (.one 25 (.one 26 (.one 27 (.one 28 (.one 29 (.one 30 (.one 31 (.one 32 (.one 33 (.one 34 (.one 35 (.one 36 (.one 37 .nil))))))))))))))))))))))))))))))))))))))⟩
@[simp] theorem dr_spec_l3Certs_10 : drawnOK Tryz.prog [1, 57, 62, 68, 73, 79, 84] (regOps Tryz.f83 10) or_spec_l3Certs_10 = True := eq_true ⟨by kernel_rfl, by kernel_rfl⟩
def D_spec_l3Certs (a0 : AVal) (h : AHeap) (Q : KA) : Prop :=
 boxFM a0 h fun x1 h1 =>
 @lpM [x1, (i64 0)] h1 ⟨fun s2 h2 J2 =>
 fldAddrM Tryz.prog 35 (nthA s2 0) 3 h2 fun x3 h3 =>
 loadM Tryz.prog 33 x3 h3 fun x4 h4 =>
 lenM Tryz.prog 33 x4 h4 fun x5 h5 =>
 binM Tryz.prog .lss 3 (nthA s2 1) x5 h5 fun x6 h6 =>
 gdM x6
 (fldAddrM Tryz.prog 35 (nthA s2 0) 3 h6 fun x7 h7 =>
 loadM Tryz.prog 33 x7 h7 fun x8 h8 =>
 ixAddrM Tryz.prog 33 x8 (nthA s2 1) h8 fun x9 h9 =>
 loadM Tryz.prog 83 x9 h9 fun x10 h10 =>
 allocM Tryz.prog 83 h10 fun x11 h11 =>
 storeM Tryz.prog 83 x11 x10 h11 fun x12 h12 =>
 @jnM ⟨fun J13 =>
 fldAddrM Tryz.prog 83 x11 0 h12 fun x14 h14 =>
 loadM Tryz.prog 2 x14 h14 fun x15 h15 =>
 binM Tryz.prog .lss 2 x15 (i64 0) h15 fun x16 h16 =>
 gdM x16
 (@wkM [(nthA s2 0), (nthA s2 1), x11, tt] h16 ⟨J13⟩)
 (fldAddrM Tryz.prog 83 x11 0 h16 fun x17 h17 =>
 loadM Tryz.prog 2 x17 h17 fun x18 h18 =>
 fldAddrM Tryz.prog 35 (nthA s2 0) 2 h18 fun x19 h19 =>
 loadM Tryz.prog 32 x19 h19 fun x20 h20 =>
 lenM Tryz.prog 32 x20 h20 fun x21 h21 =>
 binM Tryz.prog .geq 2 x18 x21 h21 fun x22 h22 =>
 @wkM [(nthA s2 0), (nthA s2 1), x11, x22] h22 ⟨J13⟩)⟩
 ⟨fun s13 h13 =>
 gdM (nthA s13 3)
 (retW ff h13 Q)
 (fldAddrM Tryz.prog 35 (nthA s13 0) 2 h13 fun x23 h23 =>
 loadM Tryz.prog 32 x23 h23 fun x24 h24 =>
 fldAddrM Tryz.prog 83 (nthA s13 2) 0 h24 fun x25 h25 =>
 loadM Tryz.prog 2 x25 h25 fun x26 h26 =>
 ixAddrM Tryz.prog 32 x24 x26 h26 fun x27 h27 =>
 loadM Tryz.prog 79 x27 h27 fun x28 h28 =>
 allocM Tryz.prog 79 h28 fun x29 h29 =>
 storeM Tryz.prog 79 x29 x28 h29 fun x30 h30 =>
 @jnM ⟨fun J31 =>
 fldAddrM Tryz.prog 83 (nthA s13 2) 1 h30 fun x32 h32 =>
 loadM Tryz.prog 2 x32 h32 fun x33 h33 =>
 binM Tryz.prog .lss 2 x33 (i64 0) h33 fun x34 h34 =>
 gdM x34
 (@wkM [(nthA s13 0), (nthA s13 1), (nthA s13 2), tt] h34 ⟨J31⟩)
 (fldAddrM Tryz.prog 83 (nthA s13 2) 1 h34 fun x35 h35 =>
 loadM Tryz.prog 2 x35 h35 fun x36 h36 =>
 fldAddrM Tryz.prog 79 x29 3 h36 fun x37 h37 =>
 loadM Tryz.prog 77 x37 h37 fun x38 h38 =>
 lenM Tryz.prog 77 x38 h38 fun x39 h39 =>
 binM Tryz.prog .geq 2 x36 x39 h39 fun x40 h40 =>
 gdM x40
 (@wkM [(nthA s13 0), (nthA s13 1), (nthA s13 2), tt] h40 ⟨J31⟩)
 (loadM Tryz.prog 79 x29 h40 fun x41 h41 =>
 fldAddrM Tryz.prog 83 (nthA s13 2) 2 h41 fun x42 h42 =>
 loadM Tryz.prog 2 x42 h42 fun x43 h43 =>
 @clM Tryz.prog 120 [x41, x43] h43 ⟨fun x44 h44 =>
 binM Tryz.prog .neq 2 x44 (i64 3) h44 fun x45 h45 =>
 @wkM [(nthA s13 0), (nthA s13 1), (nthA s13 2), x45] h45 ⟨J31⟩⟩))⟩
 ⟨fun s31 h31 =>
 gdM (nthA s31 3)
 (retW ff h31 Q)
 (@jnM ⟨fun J46 =>
 And (drawnOK Tryz.prog [1, 57, 62, 68, 73, 79, 84] (regOps Tryz.f83 10) or_spec_l3Certs_10) (binM Tryz.prog .gtr 3 (nthA s31 1) (i64 0) h31 fun x47 h47 =>
 gdM x47
 (fldAddrM Tryz.prog 35 (nthA s31 0) 3 h47 fun x48 h48 =>
 loadFM Tryz.prog 33 x48 h48 fun x49 h49 =>
 binM Tryz.prog .sub 3 (nthA s31 1) (i64 1) h49 fun x50 h50 =>
 ixAddrM Tryz.prog 33 x49 x50 h50 fun x51 h51 =>
 fldAddrM Tryz.prog 83 x51 0 h51 fun x52 h52 =>
 loadFM Tryz.prog 2 x52 h52 fun x53 h53 =>
 fldAddrM Tryz.prog 83 (nthA s31 2) 0 h53 fun x54 h54 =>
 loadM Tryz.prog 2 x54 h54 fun x55 h55 =>
 binM Tryz.prog .gtr 2 x53 x55 h55 fun x56 h56 =>
 gdM x56
 (@wkM [(nthA s31 0), (nthA s31 1), tt] h56 ⟨J46⟩)
 (fldAddrM Tryz.prog 35 (nthA s31 0) 3 h56 fun x57 h57 =>
 loadFM Tryz.prog 33 x57 h57 fun x58 h58 =>
 binM Tryz.prog .sub 3 (nthA s31 1) (i64 1) h58 fun x59 h59 =>
 ixAddrM Tryz.prog 33 x58 x59 h59 fun x60 h60 =>
 fldAddrM Tryz.prog 83 x60 0 h60 fun x61 h61 =>
 loadFM Tryz.prog 2 x61 h61 fun x62 h62 =>
 fldAddrM Tryz.prog 83 (nthA s31 2) 0 h62 fun x63 h63 =>
 loadM Tryz.prog 2 x63 h63 fun x64 h64 =>
 binM Tryz.prog .eql 2 x62 x64 h64 fun x65 h65 =>
 gdM x65
 (fldAddrM Tryz.prog 35 (nthA s31 0) 3 h65 fun x66 h66 =>
 loadFM Tryz.prog 33 x66 h66 fun x67 h67 =>
 binM Tryz.prog .sub 3 (nthA s31 1) (i64 1) h67 fun x68 h68 =>
 ixAddrM Tryz.prog 33 x67 x68 h68 fun x69 h69 =>
 fldAddrM Tryz.prog 83 x69 1 h69 fun x70 h70 =>
 loadFM Tryz.prog 2 x70 h70 fun x71 h71 =>
 fldAddrM Tryz.prog 83 (nthA s31 2) 1 h71 fun x72 h72 =>
 loadM Tryz.prog 2 x72 h72 fun x73 h73 =>
 binM Tryz.prog .geq 2 x71 x73 h73 fun x74 h74 =>
 @wkM [(nthA s31 0), (nthA s31 1), x74] h74 ⟨J46⟩)
 (@wkM [(nthA s31 0), (nthA s31 1), ff] h65 ⟨J46⟩)))
 (@wkM [(nthA s31 0), (nthA s31 1), ff] h47 ⟨J46⟩))⟩
 ⟨fun s46 h46 =>
 gdM (nthA s46 2)
 (retW ff h46 Q)
 (binM Tryz.prog .add 3 (nthA s46 1) (i64 1) h46 fun x75 h75 =>
 @wkM [(nthA s46 0), x75] h75 ⟨J2⟩)⟩)⟩)⟩)
 (fldAddrM Tryz.prog 35 (nthA s2 0) 3 h6 fun x76 h76 =>
 loadM Tryz.prog 33 x76 h76 fun x77 h77 =>
 lenM Tryz.prog 33 x77 h77 fun x78 h78 =>
 binM Tryz.prog .leq 3 x78 (i64 64) h78 fun x79 h79 =>
 retW x79 h79 Q)⟩
theorem D_spec_l3Certs_eq (a0 : AVal) (h : AHeap) (Q : KA) : adFn Tryz.prog ⟨fun i => bif Nat.beq i 10 then or_spec_l3Certs_10 else ⟨[], [], .nil⟩, fun i => bif Nat.beq i 6 then some [1, 3, 4, 28] else bif Nat.beq i 9 then some [1, 3, 4, 52] else bif Nat.beq i 11 then some [1, 3, 90] else none, fun i => bif Nat.beq i 2 then [1, 3] else [], [1, 57, 62, 68, 73, 79, 84]⟩ Tryz.f83 [a0] h Q = D_spec_l3Certs a0 h Q := by kernel_rfl
theorem D_spec_l3Certs_of {a0 : AVal} {h : AHeap} {Q : KA} (hd : D_spec_l3Certs a0 h Q) : callM Tryz.prog 83 [a0] h Q := callM_of (fn := Tryz.f83) Tryz.func83 (Nat.le_of_ble_eq_true (by kernel_rfl)) ((D_spec_l3Certs_eq a0 h Q).symm ▸ hd)
theorem fn_spec_l3Certs : fnT Tryz.prog 83 = true := by kernel_rfl
/- spec.l3Consts; J2: p i; J13: p i _30 -/
def D_spec_l3Consts (a0 : AVal) (h : AHeap) (Q : KA) : Prop :=
 boxFM a0 h fun x1 h1 =>
 @lpM [x1, (i64 0)] h1 ⟨fun s2 h2 J2 =>
 fldAddrM Tryz.prog 35 (nthA s2 0) 1 h2 fun x3 h3 =>
 loadM Tryz.prog 31 x3 h3 fun x4 h4 =>
 lenM Tryz.prog 31 x4 h4 fun x5 h5 =>
 binM Tryz.prog .lss 3 (nthA s2 1) x5 h5 fun x6 h6 =>
 gdM x6
 (fldAddrM Tryz.prog 35 (nthA s2 0) 1 h6 fun x7 h7 =>
 loadM Tryz.prog 31 x7 h7 fun x8 h8 =>
 ixAddrM Tryz.prog 31 x8 (nthA s2 1) h8 fun x9 h9 =>
 loadM Tryz.prog 76 x9 h9 fun x10 h10 =>
 allocM Tryz.prog 76 h10 fun x11 h11 =>
 storeM Tryz.prog 76 x11 x10 h11 fun x12 h12 =>
 @jnM ⟨fun J13 =>
 fldAddrM Tryz.prog 76 x11 0 h12 fun x14 h14 =>
 loadM Tryz.prog 2 x14 h14 fun x15 h15 =>
 @clM Tryz.prog 118 [x15] h15 ⟨fun x16 h16 =>
 unM .not x16 h16 fun x17 h17 =>
 gdM x17
 (@wkM [(nthA s2 0), (nthA s2 1), tt] h17 ⟨J13⟩)
 (fldAddrM Tryz.prog 76 x11 0 h17 fun x18 h18 =>
 loadM Tryz.prog 2 x18 h18 fun x19 h19 =>
 binM Tryz.prog .eql 2 x19 (i64 1) h19 fun x20 h20 =>
 gdM x20
 (fldAddrM Tryz.prog 76 x11 1 h20 fun x21 h21 =>
 loadM Tryz.prog 74 x21 h21 fun x22 h22 =>
 binM Tryz.prog .gtr 74 x22 (u32 1) h22 fun x23 h23 =>
 @wkM [(nthA s2 0), (nthA s2 1), x23] h23 ⟨J13⟩)
 (@wkM [(nthA s2 0), (nthA s2 1), ff] h20 ⟨J13⟩))⟩⟩
 ⟨fun s13 h13 =>
 gdM (nthA s13 2)
 (retW ff h13 Q)
 (binM Tryz.prog .add 3 (nthA s13 1) (i64 1) h13 fun x24 h24 =>
 @wkM [(nthA s13 0), x24] h24 ⟨J2⟩)⟩)
 (fldAddrM Tryz.prog 35 (nthA s2 0) 1 h6 fun x25 h25 =>
 loadM Tryz.prog 31 x25 h25 fun x26 h26 =>
 lenM Tryz.prog 31 x26 h26 fun x27 h27 =>
 binM Tryz.prog .leq 3 x27 (i64 64) h27 fun x28 h28 =>
 retW x28 h28 Q)⟩
theorem D_spec_l3Consts_eq (a0 : AVal) (h : AHeap) (Q : KA) : adFn Tryz.prog ⟨fun _ => ⟨[], [], .nil⟩, fun i => bif Nat.beq i 6 then some [1, 3, 30] else none, fun i => bif Nat.beq i 2 then [1, 3] else [], [1]⟩ Tryz.f80 [a0] h Q = D_spec_l3Consts a0 h Q := by kernel_rfl
theorem D_spec_l3Consts_of {a0 : AVal} {h : AHeap} {Q : KA} (hd : D_spec_l3Consts a0 h Q) : callM Tryz.prog 80 [a0] h Q := callM_of (fn := Tryz.f80) Tryz.func80 (Nat.le_of_ble_eq_true (by kernel_rfl)) ((D_spec_l3Consts_eq a0 h Q).symm ▸ hd)
theorem fn_spec_l3Consts : fnT Tryz.prog 80 = true := by kernel_rfl
/- spec.l3Func; J23: _4; J48: _4; J49: _4; J24: f main _51; J2: f main _30 -/
def D_spec_l3Func (a0 a1 : AVal) (h : AHeap) (Q : KA) : Prop :=
 boxFM a0 h fun x1 h1 =>
 @jnM ⟨fun J2 =>
 fldAddrM Tryz.prog 79 x1 0 h1 fun x3 h3 =>
 loadM Tryz.prog 72 x3 h3 fun x4 h4 =>
 lenM Tryz.prog 72 x4 h4 fun x5 h5 =>
 binM Tryz.prog .gtr 3 x5 (i64 8) h5 fun x6 h6 =>
 gdM x6
 (@wkM [x1, a1, tt] h6 ⟨J2⟩)
 (fldAddrM Tryz.prog 79 x1 0 h6 fun x7 h7 =>
 loadM Tryz.prog 72 x7 h7 fun x8 h8 =>
 lenM Tryz.prog 72 x8 h8 fun x9 h9 =>
 fldAddrM Tryz.prog 79 x1 2 h9 fun x10 h10 =>
 loadM Tryz.prog 72 x10 h10 fun x11 h11 =>
 lenM Tryz.prog 72 x11 h11 fun x12 h12 =>
 binM Tryz.prog .add 3 x9 x12 h12 fun x13 h13 =>
 binM Tryz.prog .gtr 3 x13 (i64 32) h13 fun x14 h14 =>
 gdM x14
 (@wkM [x1, a1, tt] h14 ⟨J2⟩)
 (fldAddrM Tryz.prog 79 x1 0 h14 fun x15 h15 =>
 loadM Tryz.prog 72 x15 h15 fun x16 h16 =>
 @clM Tryz.prog 79 [x16] h16 ⟨fun x17 h17 =>
 unM .not x17 h17 fun x18 h18 =>
 gdM x18
 (@wkM [x1, a1, tt] h18 ⟨J2⟩)
 (fldAddrM Tryz.prog 79 x1 2 h18 fun x19 h19 =>
 loadM Tryz.prog 72 x19 h19 fun x20 h20 =>
 @clM Tryz.prog 79 [x20] h20 ⟨fun x21 h21 =>
 unM .not x21 h21 fun x22 h22 =>
 @wkM [x1, a1, x22] h22 ⟨J2⟩⟩)⟩))⟩
 ⟨fun s2 h2 =>
 gdM (nthA s2 2)
 (@jnM ⟨fun J23 =>
 @wkM [ff] h2 ⟨J23⟩⟩
 ⟨fun s23 h23 =>
 retW (nthA s23 0) h23 Q⟩)
 (@jnM ⟨fun J24 =>
 fldAddrM Tryz.prog 79 (nthA s2 0) 1 h2 fun x25 h25 =>
 loadM Tryz.prog 2 x25 h25 fun x26 h26 =>
 binM Tryz.prog .neq 2 x26 (i64 0) h26 fun x27 h27 =>
 gdM x27
 (fldAddrM Tryz.prog 79 (nthA s2 0) 1 h27 fun x28 h28 =>
 loadM Tryz.prog 2 x28 h28 fun x29 h29 =>
 @clM Tryz.prog 118 [x29] h29 ⟨fun x30 h30 =>
 unM .not x30 h30 fun x31 h31 =>
 gdM x31
 (@wkM [(nthA s2 0), (nthA s2 1), tt] h31 ⟨J24⟩)
 (fldAddrM Tryz.prog 79 (nthA s2 0) 3 h31 fun x32 h32 =>
 loadM Tryz.prog 77 x32 h32 fun x33 h33 =>
 lenM Tryz.prog 77 x33 h33 fun x34 h34 =>
 binM Tryz.prog .eql 3 x34 (i64 0) h34 fun x35 h35 =>
 gdM x35
 (@wkM [(nthA s2 0), (nthA s2 1), tt] h35 ⟨J24⟩)
 (fldAddrM Tryz.prog 79 (nthA s2 0) 3 h35 fun x36 h36 =>
 loadM Tryz.prog 77 x36 h36 fun x37 h37 =>
 lenM Tryz.prog 77 x37 h37 fun x38 h38 =>
 binM Tryz.prog .gtr 3 x38 (i64 1024) h38 fun x39 h39 =>
 @wkM [(nthA s2 0), (nthA s2 1), x39] h39 ⟨J24⟩))⟩)
 (fldAddrM Tryz.prog 79 (nthA s2 0) 3 h27 fun x40 h40 =>
 loadM Tryz.prog 77 x40 h40 fun x41 h41 =>
 lenM Tryz.prog 77 x41 h41 fun x42 h42 =>
 binM Tryz.prog .eql 3 x42 (i64 0) h42 fun x43 h43 =>
 gdM x43
 (@wkM [(nthA s2 0), (nthA s2 1), tt] h43 ⟨J24⟩)
 (fldAddrM Tryz.prog 79 (nthA s2 0) 3 h43 fun x44 h44 =>
 loadM Tryz.prog 77 x44 h44 fun x45 h45 =>
 lenM Tryz.prog 77 x45 h45 fun x46 h46 =>
 binM Tryz.prog .gtr 3 x46 (i64 1024) h46 fun x47 h47 =>
 @wkM [(nthA s2 0), (nthA s2 1), x47] h47 ⟨J24⟩))⟩
 ⟨fun s24 h24 =>
 gdM (nthA s24 2)
 (@jnM ⟨fun J48 =>
 @wkM [ff] h24 ⟨J48⟩⟩
 ⟨fun s48 h48 =>
 retW (nthA s48 0) h48 Q⟩)
 (@jnM ⟨fun J49 =>
 unM .not (nthA s24 1) h24 fun x50 h50 =>
 gdM x50
 (@wkM [tt] h50 ⟨J49⟩)
 (fldAddrM Tryz.prog 79 (nthA s24 0) 0 h50 fun x51 h51 =>
 loadM Tryz.prog 72 x51 h51 fun x52 h52 =>
 lenM Tryz.prog 72 x52 h52 fun x53 h53 =>
 binM Tryz.prog .eql 3 x53 (i64 0) h53 fun x54 h54 =>
 gdM x54
 (fldAddrM Tryz.prog 79 (nthA s24 0) 1 h54 fun x55 h55 =>
 loadM Tryz.prog 2 x55 h55 fun x56 h56 =>
 binM Tryz.prog .eql 2 x56 (i64 0) h56 fun x57 h57 =>
 @wkM [x57] h57 ⟨J49⟩)
 (@wkM [ff] h54 ⟨J49⟩))⟩
 ⟨fun s49 h49 =>
 retW (nthA s49 0) h49 Q⟩)⟩)⟩
theorem D_spec_l3Func_eq (a0 a1 : AVal) (h : AHeap) (Q : KA) : adFn Tryz.prog ⟨fun _ => ⟨[], [], .nil⟩, fun i => bif Nat.beq i 0 then some [4] else bif Nat.beq i 2 then some [2, 1, 30] else bif Nat.beq i 4 then some [2, 1, 51] else none, fun _ => [], [2]⟩ Tryz.f81 [a0, a1] h Q = D_spec_l3Func a0 a1 h Q := by kernel_rfl
theorem D_spec_l3Func_of {a0 a1 : AVal} {h : AHeap} {Q : KA} (hd : D_spec_l3Func a0 a1 h Q) : callM Tryz.prog 81 [a0, a1] h Q := callM_of (fn := Tryz.f81) Tryz.func81 (Nat.le_of_ble_eq_true (by kernel_rfl)) ((D_spec_l3Func_eq a0 a1 h Q).symm ▸ hd)
theorem fn_spec_l3Func : fnT Tryz.prog 81 = true := by kernel_rfl
/- spec.l3Get; J14: r n in _24; J1: r n in -/
def or_spec_l3Get_1 : DR := ⟨[0, 1, 2, 4, 0, 16, 32, 64, 0, 392, 0, 2047], [0, 1, 3, 7, 0, 16, 48, 112, 0, 511, 0, 2047], (.one 0 (.one 1 (.one 2 (.one 3 (.one 4 (.one 5 (.one 6 (.one 7 (.one 8 (.or (.one 9 (.one 10 (.one 11 .nil))) (.one 10 (.one 9 (.one 11 .nil)))))))))))))⟩
@[simp] theorem dr_spec_l3Get_1 : drawnOK Tryz.prog [] (regOps Tryz.f102 1) or_spec_l3Get_1 = True := eq_true ⟨by kernel_rfl, by kernel_rfl⟩
def D_spec_l3Get (a0 a1 : AVal) (h : AHeap) (Q : KA) : Prop :=
 @jnM ⟨fun J1 =>
 And (drawnOK Tryz.prog [] (regOps Tryz.f102 1) or_spec_l3Get_1) (nilChkM a0 h fun x2 h2 =>
 fldAddrM Tryz.prog 110 x2 0 h2 fun x3 h3 =>
 loadM Tryz.prog 29 x3 h3 fun x4 h4 =>
 nilChkM a0 h4 fun x5 h5 =>
 fldAddrM Tryz.prog 110 x5 1 h5 fun x6 h6 =>
 loadM Tryz.prog 2 x6 h6 fun x7 h7 =>
 And (@clM Tryz.prog 54 [x4, x7, a1] h7 ⟨fun x8 h8 =>
 allocM Tryz.prog 106 h8 fun x9 h9 =>
 storeM Tryz.prog 106 x9 x8 h9 fun x10 h10 =>
 @wkM [x9, a1, a0] h10 ⟨J1⟩⟩)
 (allocM Tryz.prog 106 h7 fun x11 h11 =>
 @clM Tryz.prog 54 [x4, x7, a1] h11 ⟨fun x12 h12 =>
 storeM Tryz.prog 106 x11 x12 h12 fun x13 h13 =>
 @wkM [x11, a1, a0] h13 ⟨J1⟩⟩))⟩
 ⟨fun s1 h1 =>
 @jnM ⟨fun J14 =>
 nilChkM (nthA s1 2) h1 fun x15 h15 =>
 fldAddrM Tryz.prog 110 x15 2 h15 fun x16 h16 =>
 loadM Tryz.prog 4 x16 h16 fun x17 h17 =>
 gdM x17
 (@wkM [(nthA s1 0), (nthA s1 1), (nthA s1 2), tt] h17 ⟨J14⟩)
 (fldAddrM Tryz.prog 106 (nthA s1 0) 0 h17 fun x18 h18 =>
 loadM Tryz.prog 4 x18 h18 fun x19 h19 =>
 unM .not x19 h19 fun x20 h20 =>
 @wkM [(nthA s1 0), (nthA s1 1), (nthA s1 2), x20] h20 ⟨J14⟩)⟩
 ⟨fun s14 h14 =>
 gdM (nthA s14 3)
 (nilChkM (nthA s14 2) h14 fun x21 h21 =>
 fldAddrM Tryz.prog 110 x21 2 h21 fun x22 h22 =>
 storeM Tryz.prog 4 x22 tt h22 fun x23 h23 =>
 retW (i64 0) h23 Q)
 (nilChkM (nthA s14 2) h14 fun x24 h24 =>
 fldAddrM Tryz.prog 110 x24 1 h24 fun x25 h25 =>
 loadM Tryz.prog 2 x25 h25 fun x26 h26 =>
 binM Tryz.prog .add 2 x26 (nthA s14 1) h26 fun x27 h27 =>
 nilChkM (nthA s14 2) h27 fun x28 h28 =>
 fldAddrM Tryz.prog 110 x28 1 h28 fun x29 h29 =>
 storeM Tryz.prog 2 x29 x27 h29 fun x30 h30 =>
 fldAddrM Tryz.prog 106 (nthA s14 0) 1 h30 fun x31 h31 =>
 loadM Tryz.prog 2 x31 h31 fun x32 h32 =>
 retW x32 h32 Q)⟩⟩
theorem D_spec_l3Get_eq (a0 a1 : AVal) (h : AHeap) (Q : KA) : adFn Tryz.prog ⟨fun i => bif Nat.beq i 1 then or_spec_l3Get_1 else ⟨[], [], .nil⟩, fun i => bif Nat.beq i 2 then some [5, 1, 0] else bif Nat.beq i 3 then some [5, 1, 0, 24] else none, fun _ => [], []⟩ Tryz.f102 [a0, a1] h Q = D_spec_l3Get a0 a1 h Q := by kernel_rfl
theorem D_spec_l3Get_of {a0 a1 : AVal} {h : AHeap} {Q : KA} (hd : D_spec_l3Get a0 a1 h Q) : callM Tryz.prog 102 [a0, a1] h Q := callM_of (fn := Tryz.f102) Tryz.func102 (Nat.le_of_ble_eq_true (by kernel_rfl)) ((D_spec_l3Get_eq a0 a1 h Q).symm ▸ hd)
theorem fn_spec_l3Get : fnT Tryz.prog 102 = true := by kernel_rfl
/- spec.l3GetFunc; J15: _2 f k in -/
def D_spec_l3GetFunc (a0 : AVal) (h : AHeap) (Q : KA) : Prop :=
 allocM Tryz.prog 79 h fun x1 h1 =>
 @clM Tryz.prog 102 [a0, (i64 1)] h1 ⟨fun x2 h2 =>
 @clM Tryz.prog 101 [a0, x2] h2 ⟨fun x3 h3 =>
 buildM Tryz.prog 79 [(0, x3)] h3 fun x4 h4 =>
 allocM Tryz.prog 79 h4 fun x5 h5 =>
 storeM Tryz.prog 79 x5 x4 h5 fun x6 h6 =>
 @clM Tryz.prog 102 [a0, (i64 1)] h6 ⟨fun x7 h7 =>
 fldAddrM Tryz.prog 79 x5 1 h7 fun x8 h8 =>
 storeM Tryz.prog 2 x8 x7 h8 fun x9 h9 =>
 @clM Tryz.prog 102 [a0, (i64 1)] h9 ⟨fun x10 h10 =>
 @clM Tryz.prog 101 [a0, x10] h10 ⟨fun x11 h11 =>
 fldAddrM Tryz.prog 79 x5 2 h11 fun x12 h12 =>
 storeM Tryz.prog 72 x12 x11 h12 fun x13 h13 =>
 @clM Tryz.prog 102 [a0, (i64 2)] h13 ⟨fun x14 h14 =>
 @lpM [x1, x5, x14, a0] h14 ⟨fun s15 h15 J15 =>
 binM Tryz.prog .gtr 2 (nthA s15 2) (i64 0) h15 fun x16 h16 =>
 gdM x16
 (nilChkM (nthA s15 3) h16 fun x17 h17 =>
 fldAddrM Tryz.prog 110 x17 2 h17 fun x18 h18 =>
 loadM Tryz.prog 4 x18 h18 fun x19 h19 =>
 unM .not x19 h19 fun x20 h20 =>
 gdM x20
 (@clM Tryz.prog 102 [(nthA s15 3), (i64 1)] h20 ⟨fun x21 h21 =>
 buildM Tryz.prog 81 [(0, x21)] h21 fun x22 h22 =>
 allocM Tryz.prog 81 h22 fun x23 h23 =>
 storeM Tryz.prog 81 x23 x22 h23 fun x24 h24 =>
 @clM Tryz.prog 102 [(nthA s15 3), (i64 1)] h24 ⟨fun x25 h25 =>
 fldAddrM Tryz.prog 81 x23 1 h25 fun x26 h26 =>
 storeM Tryz.prog 2 x26 x25 h26 fun x27 h27 =>
 @clM Tryz.prog 102 [(nthA s15 3), (i64 2)] h27 ⟨fun x28 h28 =>
 fldAddrM Tryz.prog 81 x23 2 h28 fun x29 h29 =>
 storeM Tryz.prog 2 x29 x28 h29 fun x30 h30 =>
 @clM Tryz.prog 102 [(nthA s15 3), (i64 4)] h30 ⟨fun x31 h31 =>
 fldAddrM Tryz.prog 81 x23 3 h31 fun x32 h32 =>
 storeM Tryz.prog 2 x32 x31 h32 fun x33 h33 =>
 fldAddrM Tryz.prog 79 (nthA s15 1) 3 h33 fun x34 h34 =>
 loadM Tryz.prog 77 x34 h34 fun x35 h35 =>
 loadM Tryz.prog 81 x23 h35 fun x36 h36 =>
 buildSliceM Tryz.prog 77 1 [(0, x36)] h36 fun x37 h37 =>
 appendM Tryz.prog 77 77 x35 x37 h37 fun x38 h38 =>
 fldAddrM Tryz.prog 79 (nthA s15 1) 3 h38 fun x39 h39 =>
 storeM Tryz.prog 77 x39 x38 h39 fun x40 h40 =>
 binM Tryz.prog .sub 2 (nthA s15 2) (i64 1) h40 fun x41 h41 =>
 @wkM [(nthA s15 0), (nthA s15 1), x41, (nthA s15 3)] h41 ⟨J15⟩⟩⟩⟩⟩)
 (loadM Tryz.prog 79 (nthA s15 1) h20 fun x42 h42 =>
 storeM Tryz.prog 79 (nthA s15 0) x42 h42 fun x43 h43 =>
 loadM Tryz.prog 79 (nthA s15 0) h43 fun x44 h44 =>
 retW x44 h44 Q))
 (loadM Tryz.prog 79 (nthA s15 1) h16 fun x45 h45 =>
 storeM Tryz.prog 79 (nthA s15 0) x45 h45 fun x46 h46 =>
 loadM Tryz.prog 79 (nthA s15 0) h46 fun x47 h47 =>
 retW x47 h47 Q)⟩⟩⟩⟩⟩⟩⟩
theorem D_spec_l3GetFunc_eq (a0 : AVal) (h : AHeap) (Q : KA) : adFn Tryz.prog ⟨fun _ => ⟨[], [], .nil⟩, fun _ => none, fun i => bif Nat.beq i 5 then [2, 3, 4, 0] else [], []⟩ Tryz.f103 [a0] h Q = D_spec_l3GetFunc a0 h Q := by kernel_rfl
theorem D_spec_l3GetFunc_of {a0 : AVal} {h : AHeap} {Q : KA} (hd : D_spec_l3GetFunc a0 h Q) : callM Tryz.prog 103 [a0] h Q := callM_of (fn := Tryz.f103) Tryz.func103 (Nat.le_of_ble_eq_true (by kernel_rfl)) ((D_spec_l3GetFunc_eq a0 h Q).symm ▸ hd)
theorem fn_spec_l3GetFunc : fnT Tryz.prog 103 = true := by kernel_rfl
/- spec.l3GetList; J2: out i in count -/
def D_spec_l3GetList (a0 a1 : AVal) (h : AHeap) (Q : KA) : Prop :=
 buildSliceM Tryz.prog 72 0 [] h fun x1 h1 =>
 @lpM [x1, (i64 0), a0, a1] h1 ⟨fun s2 h2 J2 =>
 binM Tryz.prog .lss 2 (nthA s2 1) (nthA s2 3) h2 fun x3 h3 =>
 gdM x3
 (nilChkM (nthA s2 2) h3 fun x4 h4 =>
 fldAddrM Tryz.prog 110 x4 2 h4 fun x5 h5 =>
 loadM Tryz.prog 4 x5 h5 fun x6 h6 =>
 unM .not x6 h6 fun x7 h7 =>
 gdM x7
 (@clM Tryz.prog 102 [(nthA s2 2), (i64 1)] h7 ⟨fun x8 h8 =>
 buildSliceM Tryz.prog 72 1 [(0, x8)] h8 fun x9 h9 =>
 appendM Tryz.prog 72 72 (nthA s2 0) x9 h9 fun x10 h10 =>
 binM Tryz.prog .add 2 (nthA s2 1) (i64 1) h10 fun x11 h11 =>
 @wkM [x10, x11, (nthA s2 2), (nthA s2 3)] h11 ⟨J2⟩⟩)
 (retW (nthA s2 0) h7 Q))
 (retW (nthA s2 0) h3 Q)⟩
theorem D_spec_l3GetList_eq (a0 a1 : AVal) (h : AHeap) (Q : KA) : adFn Tryz.prog ⟨fun _ => ⟨[], [], .nil⟩, fun _ => none, fun i => bif Nat.beq i 3 then [5, 6, 0, 1] else [], []⟩ Tryz.f101 [a0, a1] h Q = D_spec_l3GetList a0 a1 h Q := by kernel_rfl
theorem D_spec_l3GetList_of {a0 a1 : AVal} {h : AHeap} {Q : KA} (hd : D_spec_l3GetList a0 a1 h Q) : callM Tryz.prog 101 [a0, a1] h Q := callM_of (fn := Tryz.f101) Tryz.func101 (Nat.le_of_ble_eq_true (by kernel_rfl)) ((D_spec_l3GetList_eq a0 a1 h Q).symm ▸ hd)
theorem fn_spec_l3GetList : fnT Tryz.prog 101 = true := by kernel_rfl
/- spec.l3GetProgram; J5: _2 p in i; J7: _2 p in i; J31: _2 p in k; J37: _2 p in k; J58: _2 p in k; J64: _2 p in k; J80: _2 p k in; J115: _2 p k in; J150: _2 p in k; J156: _2 p in k; J172: _2 p k in; J207: _2 p k in -/
def or_spec_l3GetProgram_5 : DR := ⟨[0, 1, 0, 0, 8, 20, 32, 98, 255, 511], [0, 1, 0, 0, 8, 28, 60, 127, 255, 511], (.one 0 (.one 2 (.one 3 (.or (.one 1 (.one 4 (.one 5 (.one 6 (.one 7 (.one 8 (.one 9 .nil))))))) (.one 4 (.or (.one 1 (.one 5 (.one 6 (.one 7 (.one 8 (.one 9 .nil)))))) (.one 5 (.one 1 (.one 6 (.one 7 (.one 8 (.one 9 .nil))))))))))))⟩
@[simp] theorem dr_spec_l3GetProgram_5 : drawnOK Tryz.prog [] (regOps Tryz.f55 5) or_spec_l3GetProgram_5 = True := eq_true ⟨by kernel_rfl, by kernel_rfl⟩
def or_spec_l3GetProgram_10 : DR := ⟨[0, 1, 0, 0, 8, 16, 36, 64, 146, 511, 1023], [0, 1, 0, 0, 8, 24, 60, 124, 255, 511, 1023], (.one 0 (.one 2 (.one 3 (.or (.one 1 (.one 4 (.one 5 (.one 6 (.one 7 (.one 8 (.one 9 (.one 10 .nil)))))))) (.one 4 (.one 1 (.one 5 (.one 6 (.one 7 (.one 8 (.one 9 (.one 10 .nil))))))))))))⟩
@[simp] theorem dr_spec_l3GetProgram_10 : drawnOK Tryz.prog [] (regOps Tryz.f55 10) or_spec_l3GetProgram_10 = True := eq_true ⟨by kernel_rfl, by kernel_rfl⟩
def or_spec_l3GetProgram_14 : DR := ⟨[0, 1, 0, 4, 8, 26, 63, 127], [0, 1, 0, 4, 12, 31, 63, 127], (.one 0 (.one 2 (.or (.one 1 (.one 3 (.one 4 (.one 5 (.one 6 (.one 7 .nil)))))) (.one 3 (.one 1 (.one 4 (.one 5 (.one 6 (.one 7 .nil)))))))))⟩
@[simp] theorem dr_spec_l3GetProgram_14 : drawnOK Tryz.prog [] (regOps Tryz.f55 14) or_spec_l3GetProgram_14 = True := eq_true ⟨by kernel_rfl, by kernel_rfl⟩
def D_spec_l3GetProgram (a0 : AVal) (h : AHeap) (Q : KA) : Prop :=
 allocM Tryz.prog 35 h fun x1 h1 =>
 buildM Tryz.prog 35 [] h1 fun x2 h2 =>
 allocM Tryz.prog 35 h2 fun x3 h3 =>
 storeM Tryz.prog 35 x3 x2 h3 fun x4 h4 =>
 @lpM [x1, x3, a0, (i64 0)] h4 ⟨fun s5 h5 J5 =>
 binM Tryz.prog .lss 3 (nthA s5 3) (i64 3) h5 fun x6 h6 =>
 gdM x6
 (@jnM ⟨fun J7 =>
 And (drawnOK Tryz.prog [] (regOps Tryz.f55 5) or_spec_l3GetProgram_5) (fldAddrM Tryz.prog 35 (nthA s5 1) 0 h6 fun x8 h8 =>
 And (loadM Tryz.prog 22 x8 h8 fun x9 h9 =>
 @clM Tryz.prog 102 [(nthA s5 2), (i64 2)] h9 ⟨fun x10 h10 =>
 @clM Tryz.prog 101 [(nthA s5 2), x10] h10 ⟨fun x11 h11 =>
 buildSliceM Tryz.prog 22 1 [(0, x11)] h11 fun x12 h12 =>
 appendM Tryz.prog 22 22 x9 x12 h12 fun x13 h13 =>
 fldAddrM Tryz.prog 35 (nthA s5 1) 0 h13 fun x14 h14 =>
 storeM Tryz.prog 22 x14 x13 h14 fun x15 h15 =>
 @wkM [(nthA s5 0), (nthA s5 1), (nthA s5 2), (nthA s5 3)] h15 ⟨J7⟩⟩⟩)
 (@clM Tryz.prog 102 [(nthA s5 2), (i64 2)] h8 ⟨fun x16 h16 =>
 And (loadM Tryz.prog 22 x8 h16 fun x17 h17 =>
 @clM Tryz.prog 101 [(nthA s5 2), x16] h17 ⟨fun x18 h18 =>
 buildSliceM Tryz.prog 22 1 [(0, x18)] h18 fun x19 h19 =>
 appendM Tryz.prog 22 22 x17 x19 h19 fun x20 h20 =>
 fldAddrM Tryz.prog 35 (nthA s5 1) 0 h20 fun x21 h21 =>
 storeM Tryz.prog 22 x21 x20 h21 fun x22 h22 =>
 @wkM [(nthA s5 0), (nthA s5 1), (nthA s5 2), (nthA s5 3)] h22 ⟨J7⟩⟩)
 (@clM Tryz.prog 101 [(nthA s5 2), x16] h16 ⟨fun x23 h23 =>
 loadM Tryz.prog 22 x8 h23 fun x24 h24 =>
 buildSliceM Tryz.prog 22 1 [(0, x23)] h24 fun x25 h25 =>
 appendM Tryz.prog 22 22 x24 x25 h25 fun x26 h26 =>
 fldAddrM Tryz.prog 35 (nthA s5 1) 0 h26 fun x27 h27 =>
 storeM Tryz.prog 22 x27 x26 h27 fun x28 h28 =>
 @wkM [(nthA s5 0), (nthA s5 1), (nthA s5 2), (nthA s5 3)] h28 ⟨J7⟩⟩)⟩))⟩
 ⟨fun s7 h7 =>
 binM Tryz.prog .add 3 (nthA s7 3) (i64 1) h7 fun x29 h29 =>
 @wkM [(nthA s7 0), (nthA s7 1), (nthA s7 2), x29] h29 ⟨J5⟩⟩)
 (@clM Tryz.prog 102 [(nthA s5 2), (i64 2)] h6 ⟨fun x30 h30 =>
 @lpM [(nthA s5 0), (nthA s5 1), (nthA s5 2), x30] h30 ⟨fun s31 h31 J31 =>
 binM Tryz.prog .gtr 2 (nthA s31 3) (i64 0) h31 fun x32 h32 =>
 gdM x32
 (nilChkM (nthA s31 2) h32 fun x33 h33 =>
 fldAddrM Tryz.prog 110 x33 2 h33 fun x34 h34 =>
 loadM Tryz.prog 4 x34 h34 fun x35 h35 =>
 unM .not x35 h35 fun x36 h36 =>
 gdM x36
 (@jnM ⟨fun J37 =>
 @clM Tryz.prog 102 [(nthA s31 2), (i64 1)] h36 ⟨fun x38 h38 =>
 And (drawnOK Tryz.prog [] (regOps Tryz.f55 10) or_spec_l3GetProgram_10) (fldAddrM Tryz.prog 35 (nthA s31 1) 1 h38 fun x39 h39 =>
 And (loadM Tryz.prog 31 x39 h39 fun x40 h40 =>
 @clM Tryz.prog 102 [(nthA s31 2), (i64 4)] h40 ⟨fun x41 h41 =>
 convM Tryz.prog 2 74 x41 h41 fun x42 h42 =>
 buildM Tryz.prog 76 [(0, x38), (1, x42)] h42 fun x43 h43 =>
 buildSliceM Tryz.prog 31 1 [(0, x43)] h43 fun x44 h44 =>
 appendM Tryz.prog 31 31 x40 x44 h44 fun x45 h45 =>
 fldAddrM Tryz.prog 35 (nthA s31 1) 1 h45 fun x46 h46 =>
 storeM Tryz.prog 31 x46 x45 h46 fun x47 h47 =>
 @wkM [(nthA s31 0), (nthA s31 1), (nthA s31 2), (nthA s31 3)] h47 ⟨J37⟩⟩)
 (@clM Tryz.prog 102 [(nthA s31 2), (i64 4)] h39 ⟨fun x48 h48 =>
 loadM Tryz.prog 31 x39 h48 fun x49 h49 =>
 convM Tryz.prog 2 74 x48 h49 fun x50 h50 =>
 buildM Tryz.prog 76 [(0, x38), (1, x50)] h50 fun x51 h51 =>
 buildSliceM Tryz.prog 31 1 [(0, x51)] h51 fun x52 h52 =>
 appendM Tryz.prog 31 31 x49 x52 h52 fun x53 h53 =>
 fldAddrM Tryz.prog 35 (nthA s31 1) 1 h53 fun x54 h54 =>
 storeM Tryz.prog 31 x54 x53 h54 fun x55 h55 =>
 @wkM [(nthA s31 0), (nthA s31 1), (nthA s31 2), (nthA s31 3)] h55 ⟨J37⟩⟩))⟩⟩
 ⟨fun s37 h37 =>
 binM Tryz.prog .sub 2 (nthA s37 3) (i64 1) h37 fun x56 h56 =>
 @wkM [(nthA s37 0), (nthA s37 1), (nthA s37 2), x56] h56 ⟨J31⟩⟩)
 (@clM Tryz.prog 102 [(nthA s31 2), (i64 2)] h36 ⟨fun x57 h57 =>
 @lpM [(nthA s31 0), (nthA s31 1), (nthA s31 2), x57] h57 ⟨fun s58 h58 J58 =>
 binM Tryz.prog .gtr 2 (nthA s58 3) (i64 0) h58 fun x59 h59 =>
 gdM x59
 (nilChkM (nthA s58 2) h59 fun x60 h60 =>
 fldAddrM Tryz.prog 110 x60 2 h60 fun x61 h61 =>
 loadM Tryz.prog 4 x61 h61 fun x62 h62 =>
 unM .not x62 h62 fun x63 h63 =>
 gdM x63
 (@jnM ⟨fun J64 =>
 And (drawnOK Tryz.prog [] (regOps Tryz.f55 14) or_spec_l3GetProgram_14) (fldAddrM Tryz.prog 35 (nthA s58 1) 2 h63 fun x65 h65 =>
 And (loadM Tryz.prog 32 x65 h65 fun x66 h66 =>
 @clM Tryz.prog 103 [(nthA s58 2)] h66 ⟨fun x67 h67 =>
 buildSliceM Tryz.prog 32 1 [(0, x67)] h67 fun x68 h68 =>
 appendM Tryz.prog 32 32 x66 x68 h68 fun x69 h69 =>
 fldAddrM Tryz.prog 35 (nthA s58 1) 2 h69 fun x70 h70 =>
 storeM Tryz.prog 32 x70 x69 h70 fun x71 h71 =>
 @wkM [(nthA s58 0), (nthA s58 1), (nthA s58 2), (nthA s58 3)] h71 ⟨J64⟩⟩)
 (@clM Tryz.prog 103 [(nthA s58 2)] h65 ⟨fun x72 h72 =>
 loadM Tryz.prog 32 x65 h72 fun x73 h73 =>
 buildSliceM Tryz.prog 32 1 [(0, x72)] h73 fun x74 h74 =>
 appendM Tryz.prog 32 32 x73 x74 h74 fun x75 h75 =>
 fldAddrM Tryz.prog 35 (nthA s58 1) 2 h75 fun x76 h76 =>
 storeM Tryz.prog 32 x76 x75 h76 fun x77 h77 =>
 @wkM [(nthA s58 0), (nthA s58 1), (nthA s58 2), (nthA s58 3)] h77 ⟨J64⟩⟩))⟩
 ⟨fun s64 h64 =>
 binM Tryz.prog .sub 2 (nthA s64 3) (i64 1) h64 fun x78 h78 =>
 @wkM [(nthA s64 0), (nthA s64 1), (nthA s64 2), x78] h78 ⟨J58⟩⟩)
 (@clM Tryz.prog 102 [(nthA s58 2), (i64 2)] h63 ⟨fun x79 h79 =>
 @lpM [(nthA s58 0), (nthA s58 1), x79, (nthA s58 2)] h79 ⟨fun s80 h80 J80 =>
 binM Tryz.prog .gtr 2 (nthA s80 2) (i64 0) h80 fun x81 h81 =>
 gdM x81
 (nilChkM (nthA s80 3) h81 fun x82 h82 =>
 fldAddrM Tryz.prog 110 x82 2 h82 fun x83 h83 =>
 loadM Tryz.prog 4 x83 h83 fun x84 h84 =>
 unM .not x84 h84 fun x85 h85 =>
 gdM x85
 (@clM Tryz.prog 102 [(nthA s80 3), (i64 2)] h85 ⟨fun x86 h86 =>
 buildM Tryz.prog 83 [(0, x86)] h86 fun x87 h87 =>
 allocM Tryz.prog 83 h87 fun x88 h88 =>
 storeM Tryz.prog 83 x88 x87 h88 fun x89 h89 =>
 @clM Tryz.prog 102 [(nthA s80 3), (i64 2)] h89 ⟨fun x90 h90 =>
 fldAddrM Tryz.prog 83 x88 1 h90 fun x91 h91 =>
 storeM Tryz.prog 2 x91 x90 h91 fun x92 h92 =>
 @clM Tryz.prog 102 [(nthA s80 3), (i64 1)] h92 ⟨fun x93 h93 =>
 fldAddrM Tryz.prog 83 x88 2 h93 fun x94 h94 =>
 storeM Tryz.prog 2 x94 x93 h94 fun x95 h95 =>
 @clM Tryz.prog 102 [(nthA s80 3), (i64 4)] h95 ⟨fun x96 h96 =>
 convM Tryz.prog 2 74 x96 h96 fun x97 h97 =>
 fldAddrM Tryz.prog 83 x88 3 h97 fun x98 h98 =>
 storeM Tryz.prog 74 x98 x97 h98 fun x99 h99 =>
 fldAddrM Tryz.prog 35 (nthA s80 1) 3 h99 fun x100 h100 =>
 loadM Tryz.prog 33 x100 h100 fun x101 h101 =>
 loadM Tryz.prog 83 x88 h101 fun x102 h102 =>
 buildSliceM Tryz.prog 33 1 [(0, x102)] h102 fun x103 h103 =>
 appendM Tryz.prog 33 33 x101 x103 h103 fun x104 h104 =>
 fldAddrM Tryz.prog 35 (nthA s80 1) 3 h104 fun x105 h105 =>
 storeM Tryz.prog 33 x105 x104 h105 fun x106 h106 =>
 binM Tryz.prog .sub 2 (nthA s80 2) (i64 1) h106 fun x107 h107 =>
 @wkM [(nthA s80 0), (nthA s80 1), x107, (nthA s80 3)] h107 ⟨J80⟩⟩⟩⟩⟩)
 (loadM Tryz.prog 35 (nthA s80 1) h85 fun x108 h108 =>
 storeM Tryz.prog 35 (nthA s80 0) x108 h108 fun x109 h109 =>
 loadM Tryz.prog 35 (nthA s80 0) h109 fun x110 h110 =>
 retW x110 h110 Q))
 (loadM Tryz.prog 35 (nthA s80 1) h81 fun x111 h111 =>
 storeM Tryz.prog 35 (nthA s80 0) x111 h111 fun x112 h112 =>
 loadM Tryz.prog 35 (nthA s80 0) h112 fun x113 h113 =>
 retW x113 h113 Q)⟩⟩))
 (@clM Tryz.prog 102 [(nthA s58 2), (i64 2)] h59 ⟨fun x114 h114 =>
 @lpM [(nthA s58 0), (nthA s58 1), x114, (nthA s58 2)] h114 ⟨fun s115 h115 J115 =>
 binM Tryz.prog .gtr 2 (nthA s115 2) (i64 0) h115 fun x116 h116 =>
 gdM x116
 (nilChkM (nthA s115 3) h116 fun x117 h117 =>
 fldAddrM Tryz.prog 110 x117 2 h117 fun x118 h118 =>
 loadM Tryz.prog 4 x118 h118 fun x119 h119 =>
 unM .not x119 h119 fun x120 h120 =>
 gdM x120
 (@clM Tryz.prog 102 [(nthA s115 3), (i64 2)] h120 ⟨fun x121 h121 =>
 buildM Tryz.prog 83 [(0, x121)] h121 fun x122 h122 =>
 allocM Tryz.prog 83 h122 fun x123 h123 =>
 storeM Tryz.prog 83 x123 x122 h123 fun x124 h124 =>
 @clM Tryz.prog 102 [(nthA s115 3), (i64 2)] h124 ⟨fun x125 h125 =>
 fldAddrM Tryz.prog 83 x123 1 h125 fun x126 h126 =>
 storeM Tryz.prog 2 x126 x125 h126 fun x127 h127 =>
 @clM Tryz.prog 102 [(nthA s115 3), (i64 1)] h127 ⟨fun x128 h128 =>
 fldAddrM Tryz.prog 83 x123 2 h128 fun x129 h129 =>
 storeM Tryz.prog 2 x129 x128 h129 fun x130 h130 =>
 @clM Tryz.prog 102 [(nthA s115 3), (i64 4)] h130 ⟨fun x131 h131 =>
 convM Tryz.prog 2 74 x131 h131 fun x132 h132 =>
 fldAddrM Tryz.prog 83 x123 3 h132 fun x133 h133 =>
 storeM Tryz.prog 74 x133 x132 h133 fun x134 h134 =>
 fldAddrM Tryz.prog 35 (nthA s115 1) 3 h134 fun x135 h135 =>
 loadM Tryz.prog 33 x135 h135 fun x136 h136 =>
 loadM Tryz.prog 83 x123 h136 fun x137 h137 =>
 buildSliceM Tryz.prog 33 1 [(0, x137)] h137 fun x138 h138 =>
 appendM Tryz.prog 33 33 x136 x138 h138 fun x139 h139 =>
 fldAddrM Tryz.prog 35 (nthA s115 1) 3 h139 fun x140 h140 =>
 storeM Tryz.prog 33 x140 x139 h140 fun x141 h141 =>
 binM Tryz.prog .sub 2 (nthA s115 2) (i64 1) h141 fun x142 h142 =>
 @wkM [(nthA s115 0), (nthA s115 1), x142, (nthA s115 3)] h142 ⟨J115⟩⟩⟩⟩⟩)
 (loadM Tryz.prog 35 (nthA s115 1) h120 fun x143 h143 =>
 storeM Tryz.prog 35 (nthA s115 0) x143 h143 fun x144 h144 =>
 loadM Tryz.prog 35 (nthA s115 0) h144 fun x145 h145 =>
 retW x145 h145 Q))
 (loadM Tryz.prog 35 (nthA s115 1) h116 fun x146 h146 =>
 storeM Tryz.prog 35 (nthA s115 0) x146 h146 fun x147 h147 =>
 loadM Tryz.prog 35 (nthA s115 0) h147 fun x148 h148 =>
 retW x148 h148 Q)⟩⟩)⟩⟩))
 (@clM Tryz.prog 102 [(nthA s31 2), (i64 2)] h32 ⟨fun x149 h149 =>
 @lpM [(nthA s31 0), (nthA s31 1), (nthA s31 2), x149] h149 ⟨fun s150 h150 J150 =>
 binM Tryz.prog .gtr 2 (nthA s150 3) (i64 0) h150 fun x151 h151 =>
 gdM x151
 (nilChkM (nthA s150 2) h151 fun x152 h152 =>
 fldAddrM Tryz.prog 110 x152 2 h152 fun x153 h153 =>
 loadM Tryz.prog 4 x153 h153 fun x154 h154 =>
 unM .not x154 h154 fun x155 h155 =>
 gdM x155
 (@jnM ⟨fun J156 =>
 And (drawnOK Tryz.prog [] (regOps Tryz.f55 14) or_spec_l3GetProgram_14) (fldAddrM Tryz.prog 35 (nthA s150 1) 2 h155 fun x157 h157 =>
 And (loadM Tryz.prog 32 x157 h157 fun x158 h158 =>
 @clM Tryz.prog 103 [(nthA s150 2)] h158 ⟨fun x159 h159 =>
 buildSliceM Tryz.prog 32 1 [(0, x159)] h159 fun x160 h160 =>
 appendM Tryz.prog 32 32 x158 x160 h160 fun x161 h161 =>
 fldAddrM Tryz.prog 35 (nthA s150 1) 2 h161 fun x162 h162 =>
 storeM Tryz.prog 32 x162 x161 h162 fun x163 h163 =>
 @wkM [(nthA s150 0), (nthA s150 1), (nthA s150 2), (nthA s150 3)] h163 ⟨J156⟩⟩)
 (@clM Tryz.prog 103 [(nthA s150 2)] h157 ⟨fun x164 h164 =>
 loadM Tryz.prog 32 x157 h164 fun x165 h165 =>
 buildSliceM Tryz.prog 32 1 [(0, x164)] h165 fun x166 h166 =>
 appendM Tryz.prog 32 32 x165 x166 h166 fun x167 h167 =>
 fldAddrM Tryz.prog 35 (nthA s150 1) 2 h167 fun x168 h168 =>
 storeM Tryz.prog 32 x168 x167 h168 fun x169 h169 =>
 @wkM [(nthA s150 0), (nthA s150 1), (nthA s150 2), (nthA s150 3)] h169 ⟨J156⟩⟩))⟩
 ⟨fun s156 h156 =>
 binM Tryz.prog .sub 2 (nthA s156 3) (i64 1) h156 fun x170 h170 =>
 @wkM [(nthA s156 0), (nthA s156 1), (nthA s156 2), x170] h170 ⟨J150⟩⟩)
 (@clM Tryz.prog 102 [(nthA s150 2), (i64 2)] h155 ⟨fun x171 h171 =>
 @lpM [(nthA s150 0), (nthA s150 1), x171, (nthA s150 2)] h171 ⟨fun s172 h172 J172 =>
 binM Tryz.prog .gtr 2 (nthA s172 2) (i64 0) h172 fun x173 h173 =>
 gdM x173
 (nilChkM (nthA s172 3) h173 fun x174 h174 =>
 fldAddrM Tryz.prog 110 x174 2 h174 fun x175 h175 =>
 loadM Tryz.prog 4 x175 h175 fun x176 h176 =>
 unM .not x176 h176 fun x177 h177 =>
 gdM x177
 (@clM Tryz.prog 102 [(nthA s172 3), (i64 2)] h177 ⟨fun x178 h178 =>
 buildM Tryz.prog 83 [(0, x178)] h178 fun x179 h179 =>
 allocM Tryz.prog 83 h179 fun x180 h180 =>
 storeM Tryz.prog 83 x180 x179 h180 fun x181 h181 =>
 @clM Tryz.prog 102 [(nthA s172 3), (i64 2)] h181 ⟨fun x182 h182 =>
 fldAddrM Tryz.prog 83 x180 1 h182 fun x183 h183 =>
 storeM Tryz.prog 2 x183 x182 h183 fun x184 h184 =>
 @clM Tryz.prog 102 [(nthA s172 3), (i64 1)] h184 ⟨fun x185 h185 =>
 fldAddrM Tryz.prog 83 x180 2 h185 fun x186 h186 =>
 storeM Tryz.prog 2 x186 x185 h186 fun x187 h187 =>
 @clM Tryz.prog 102 [(nthA s172 3), (i64 4)] h187 ⟨fun x188 h188 =>
 convM Tryz.prog 2 74 x188 h188 fun x189 h189 =>
 fldAddrM Tryz.prog 83 x180 3 h189 fun x190 h190 =>
 storeM Tryz.prog 74 x190 x189 h190 fun x191 h191 =>
 fldAddrM Tryz.prog 35 (nthA s172 1) 3 h191 fun x192 h192 =>
 loadM Tryz.prog 33 x192 h192 fun x193 h193 =>
 loadM Tryz.prog 83 x180 h193 fun x194 h194 =>
 buildSliceM Tryz.prog 33 1 [(0, x194)] h194 fun x195 h195 =>
 appendM Tryz.prog 33 33 x193 x195 h195 fun x196 h196 =>
 fldAddrM Tryz.prog 35 (nthA s172 1) 3 h196 fun x197 h197 =>
 storeM Tryz.prog 33 x197 x196 h197 fun x198 h198 =>
 binM Tryz.prog .sub 2 (nthA s172 2) (i64 1) h198 fun x199 h199 =>
 @wkM [(nthA s172 0), (nthA s172 1), x199, (nthA s172 3)] h199 ⟨J172⟩⟩⟩⟩⟩)
 (loadM Tryz.prog 35 (nthA s172 1) h177 fun x200 h200 =>
 storeM Tryz.prog 35 (nthA s172 0) x200 h200 fun x201 h201 =>
 loadM Tryz.prog 35 (nthA s172 0) h201 fun x202 h202 =>
 retW x202 h202 Q))
 (loadM Tryz.prog 35 (nthA s172 1) h173 fun x203 h203 =>
 storeM Tryz.prog 35 (nthA s172 0) x203 h203 fun x204 h204 =>
 loadM Tryz.prog 35 (nthA s172 0) h204 fun x205 h205 =>
 retW x205 h205 Q)⟩⟩))
 (@clM Tryz.prog 102 [(nthA s150 2), (i64 2)] h151 ⟨fun x206 h206 =>
 @lpM [(nthA s150 0), (nthA s150 1), x206, (nthA s150 2)] h206 ⟨fun s207 h207 J207 =>
 binM Tryz.prog .gtr 2 (nthA s207 2) (i64 0) h207 fun x208 h208 =>
 gdM x208
 (nilChkM (nthA s207 3) h208 fun x209 h209 =>
 fldAddrM Tryz.prog 110 x209 2 h209 fun x210 h210 =>
 loadM Tryz.prog 4 x210 h210 fun x211 h211 =>
 unM .not x211 h211 fun x212 h212 =>
 gdM x212
 (@clM Tryz.prog 102 [(nthA s207 3), (i64 2)] h212 ⟨fun x213 h213 =>
 buildM Tryz.prog 83 [(0, x213)] h213 fun x214 h214 =>
 allocM Tryz.prog 83 h214 fun x215 h215 =>
 storeM Tryz.prog 83 x215 x214 h215 fun x216 h216 =>
 @clM Tryz.prog 102 [(nthA s207 3), (i64 2)] h216 ⟨fun x217 h217 =>
 fldAddrM Tryz.prog 83 x215 1 h217 fun x218 h218 =>
 storeM Tryz.prog 2 x218 x217 h218 fun x219 h219 =>
 @clM Tryz.prog 102 [(nthA s207 3), (i64 1)] h219 ⟨fun x220 h220 =>
 fldAddrM Tryz.prog 83 x215 2 h220 fun x221 h221 =>
 storeM Tryz.prog 2 x221 x220 h221 fun x222 h222 =>
 @clM Tryz.prog 102 [(nthA s207 3), (i64 4)] h222 ⟨fun x223 h223 =>
 convM Tryz.prog 2 74 x223 h223 fun x224 h224 =>
 fldAddrM Tryz.prog 83 x215 3 h224 fun x225 h225 =>
 storeM Tryz.prog 74 x225 x224 h225 fun x226 h226 =>
 fldAddrM Tryz.prog 35 (nthA s207 1) 3 h226 fun x227 h227 =>
 loadM Tryz.prog 33 x227 h227 fun x228 h228 =>
 loadM Tryz.prog 83 x215 h228 fun x229 h229 =>
 buildSliceM Tryz.prog 33 1 [(0, x229)] h229 fun x230 h230 =>
 appendM Tryz.prog 33 33 x228 x230 h230 fun x231 h231 =>
 fldAddrM Tryz.prog 35 (nthA s207 1) 3 h231 fun x232 h232 =>
 storeM Tryz.prog 33 x232 x231 h232 fun x233 h233 =>
 binM Tryz.prog .sub 2 (nthA s207 2) (i64 1) h233 fun x234 h234 =>
 @wkM [(nthA s207 0), (nthA s207 1), x234, (nthA s207 3)] h234 ⟨J207⟩⟩⟩⟩⟩)
 (loadM Tryz.prog 35 (nthA s207 1) h212 fun x235 h235 =>
 storeM Tryz.prog 35 (nthA s207 0) x235 h235 fun x236 h236 =>
 loadM Tryz.prog 35 (nthA s207 0) h236 fun x237 h237 =>
 retW x237 h237 Q))
 (loadM Tryz.prog 35 (nthA s207 1) h208 fun x238 h238 =>
 storeM Tryz.prog 35 (nthA s207 0) x238 h238 fun x239 h239 =>
 loadM Tryz.prog 35 (nthA s207 0) h239 fun x240 h240 =>
 retW x240 h240 Q)⟩⟩)⟩⟩)⟩⟩)⟩
theorem D_spec_l3GetProgram_eq (a0 : AVal) (h : AHeap) (Q : KA) : adFn Tryz.prog ⟨fun i => bif Nat.beq i 5 then or_spec_l3GetProgram_5 else bif Nat.beq i 10 then or_spec_l3GetProgram_10 else bif Nat.beq i 14 then or_spec_l3GetProgram_14 else ⟨[], [], .nil⟩, fun i => bif Nat.beq i 4 then some [2, 3, 0, 4] else bif Nat.beq i 8 then some [2, 3, 0, 5] else bif Nat.beq i 13 then some [2, 3, 0, 7] else none, fun i => bif Nat.beq i 3 then [2, 3, 0, 4] else bif Nat.beq i 7 then [2, 3, 0, 5] else bif Nat.beq i 12 then [2, 3, 0, 7] else bif Nat.beq i 16 then [2, 3, 8, 0] else [], []⟩ Tryz.f55 [a0] h Q = D_spec_l3GetProgram a0 h Q := by kernel_rfl
theorem D_spec_l3GetProgram_of {a0 : AVal} {h : AHeap} {Q : KA} (hd : D_spec_l3GetProgram a0 h Q) : callM Tryz.prog 55 [a0] h Q := callM_of (fn := Tryz.f55) Tryz.func55 (Nat.le_of_ble_eq_true (by kernel_rfl)) ((D_spec_l3GetProgram_eq a0 h Q).symm ▸ hd)
theorem fn_spec_l3GetProgram : fnT Tryz.prog 55 = true := by kernel_rfl
/- spec.l3Instr; J11: _6; J27: _6; J38: _6; J55: _6; J68: _6; J86: _6; J97: _6; J113: _6; J121: _6; J131: _6; J147: _6; J12: x p there f; J4: x p f _16 -/
def D_spec_l3Instr (a0 a1 a2 : AVal) (h : AHeap) (Q : KA) : Prop :=
 boxFM a0 h fun x1 h1 =>
 boxFM a1 h1 fun x2 h2 =>
 boxFM a2 h2 fun x3 h3 =>
 @jnM ⟨fun J4 =>
 fldAddrM Tryz.prog 81 x3 0 h3 fun x5 h5 =>
 loadM Tryz.prog 2 x5 h5 fun x6 h6 =>
 binM Tryz.prog .lss 2 x6 (i64 0) h6 fun x7 h7 =>
 gdM x7
 (@wkM [x3, x1, x2, tt] h7 ⟨J4⟩)
 (fldAddrM Tryz.prog 81 x3 0 h7 fun x8 h8 =>
 loadM Tryz.prog 2 x8 h8 fun x9 h9 =>
 binM Tryz.prog .gtr 2 x9 (i64 29) h9 fun x10 h10 =>
 @wkM [x3, x1, x2, x10] h10 ⟨J4⟩)⟩
 ⟨fun s4 h4 =>
 gdM (nthA s4 3)
 (@jnM ⟨fun J11 =>
 @wkM [ff] h4 ⟨J11⟩⟩
 ⟨fun s11 h11 =>
 retW (nthA s11 0) h11 Q⟩)
 (@jnM ⟨fun J12 =>
 fldAddrM Tryz.prog 81 (nthA s4 0) 3 h4 fun x13 h13 =>
 loadM Tryz.prog 2 x13 h13 fun x14 h14 =>
 binM Tryz.prog .geq 2 x14 (i64 0) h14 fun x15 h15 =>
 gdM x15
 (fldAddrM Tryz.prog 81 (nthA s4 0) 3 h15 fun x16 h16 =>
 loadM Tryz.prog 2 x16 h16 fun x17 h17 =>
 fldAddrM Tryz.prog 79 (nthA s4 2) 3 h17 fun x18 h18 =>
 loadM Tryz.prog 77 x18 h18 fun x19 h19 =>
 lenM Tryz.prog 77 x19 h19 fun x20 h20 =>
 binM Tryz.prog .lss 2 x17 x20 h20 fun x21 h21 =>
 @wkM [(nthA s4 0), (nthA s4 1), x21, (nthA s4 2)] h21 ⟨J12⟩)
 (@wkM [(nthA s4 0), (nthA s4 1), ff, (nthA s4 2)] h15 ⟨J12⟩)⟩
 ⟨fun s12 h12 =>
 fldAddrM Tryz.prog 81 (nthA s12 0) 0 h12 fun x22 h22 =>
 loadM Tryz.prog 2 x22 h22 fun x23 h23 =>
 @clM Tryz.prog 119 [x23] h23 ⟨fun x24 h24 =>
 fieldM Tryz.prog 187 x24 2 h24 fun x25 h25 =>
 binM Tryz.prog .eql 2 x25 (i64 0) h25 fun x26 h26 =>
 gdM x26
 (@jnM ⟨fun J27 =>
 fldAddrM Tryz.prog 81 (nthA s12 0) 1 h26 fun x28 h28 =>
 loadM Tryz.prog 2 x28 h28 fun x29 h29 =>
 binM Tryz.prog .eql 2 x29 (i64 0) h29 fun x30 h30 =>
 gdM x30
 (fldAddrM Tryz.prog 81 (nthA s12 0) 2 h30 fun x31 h31 =>
 loadM Tryz.prog 2 x31 h31 fun x32 h32 =>
 binM Tryz.prog .eql 2 x32 (i64 0) h32 fun x33 h33 =>
 gdM x33
 (fldAddrM Tryz.prog 81 (nthA s12 0) 3 h33 fun x34 h34 =>
 loadM Tryz.prog 2 x34 h34 fun x35 h35 =>
 binM Tryz.prog .eql 2 x35 (i64 0) h35 fun x36 h36 =>
 @wkM [x36] h36 ⟨J27⟩)
 (@wkM [ff] h33 ⟨J27⟩))
 (@wkM [ff] h30 ⟨J27⟩)⟩
 ⟨fun s27 h27 =>
 retW (nthA s27 0) h27 Q⟩)
 (binM Tryz.prog .eql 2 x25 (i64 1) h26 fun x37 h37 =>
 gdM x37
 (@jnM ⟨fun J38 =>
 fldAddrM Tryz.prog 81 (nthA s12 0) 1 h37 fun x39 h39 =>
 loadM Tryz.prog 2 x39 h39 fun x40 h40 =>
 binM Tryz.prog .geq 2 x40 (i64 0) h40 fun x41 h41 =>
 gdM x41
 (fldAddrM Tryz.prog 81 (nthA s12 0) 1 h41 fun x42 h42 =>
 loadM Tryz.prog 2 x42 h42 fun x43 h43 =>
 fldAddrM Tryz.prog 35 (nthA s12 1) 1 h43 fun x44 h44 =>
 loadM Tryz.prog 31 x44 h44 fun x45 h45 =>
 lenM Tryz.prog 31 x45 h45 fun x46 h46 =>
 binM Tryz.prog .lss 2 x43 x46 h46 fun x47 h47 =>
 gdM x47
 (fldAddrM Tryz.prog 81 (nthA s12 0) 2 h47 fun x48 h48 =>
 loadM Tryz.prog 2 x48 h48 fun x49 h49 =>
 binM Tryz.prog .eql 2 x49 (i64 0) h49 fun x50 h50 =>
 gdM x50
 (fldAddrM Tryz.prog 81 (nthA s12 0) 3 h50 fun x51 h51 =>
 loadM Tryz.prog 2 x51 h51 fun x52 h52 =>
 binM Tryz.prog .eql 2 x52 (i64 0) h52 fun x53 h53 =>
 @wkM [x53] h53 ⟨J38⟩)
 (@wkM [ff] h50 ⟨J38⟩))
 (@wkM [ff] h47 ⟨J38⟩))
 (@wkM [ff] h41 ⟨J38⟩)⟩
 ⟨fun s38 h38 =>
 retW (nthA s38 0) h38 Q⟩)
 (binM Tryz.prog .eql 2 x25 (i64 2) h37 fun x54 h54 =>
 gdM x54
 (@jnM ⟨fun J55 =>
 loadM Tryz.prog 79 (nthA s12 3) h54 fun x56 h56 =>
 fldAddrM Tryz.prog 81 (nthA s12 0) 1 h56 fun x57 h57 =>
 loadM Tryz.prog 2 x57 h57 fun x58 h58 =>
 @clM Tryz.prog 120 [x56, x58] h58 ⟨fun x59 h59 =>
 binM Tryz.prog .neq 2 x59 (i64 0) h59 fun x60 h60 =>
 gdM x60
 (fldAddrM Tryz.prog 81 (nthA s12 0) 2 h60 fun x61 h61 =>
 loadM Tryz.prog 2 x61 h61 fun x62 h62 =>
 binM Tryz.prog .eql 2 x62 (i64 0) h62 fun x63 h63 =>
 gdM x63
 (fldAddrM Tryz.prog 81 (nthA s12 0) 3 h63 fun x64 h64 =>
 loadM Tryz.prog 2 x64 h64 fun x65 h65 =>
 binM Tryz.prog .eql 2 x65 (i64 0) h65 fun x66 h66 =>
 @wkM [x66] h66 ⟨J55⟩)
 (@wkM [ff] h63 ⟨J55⟩))
 (@wkM [ff] h60 ⟨J55⟩)⟩⟩
 ⟨fun s55 h55 =>
 retW (nthA s55 0) h55 Q⟩)
 (binM Tryz.prog .eql 2 x25 (i64 3) h54 fun x67 h67 =>
 gdM x67
 (@jnM ⟨fun J68 =>
 loadM Tryz.prog 35 (nthA s12 1) h67 fun x69 h69 =>
 fldAddrM Tryz.prog 81 (nthA s12 0) 1 h69 fun x70 h70 =>
 loadM Tryz.prog 2 x70 h70 fun x71 h71 =>
 fldAddrM Tryz.prog 81 (nthA s12 0) 2 h71 fun x72 h72 =>
 loadM Tryz.prog 2 x72 h72 fun x73 h73 =>
 @clM Tryz.prog 121 [x69, x71, x73] h73 ⟨fun x74 h74 =>
 binM Tryz.prog .neq 2 x74 (i64 0) h74 fun x75 h75 =>
 gdM x75
 (fldAddrM Tryz.prog 81 (nthA s12 0) 3 h75 fun x76 h76 =>
 loadM Tryz.prog 2 x76 h76 fun x77 h77 =>
 binM Tryz.prog .eql 2 x77 (i64 0) h77 fun x78 h78 =>
 gdM x78
 (fldAddrM Tryz.prog 81 (nthA s12 0) 0 h78 fun x79 h79 =>
 loadM Tryz.prog 2 x79 h79 fun x80 h80 =>
 binM Tryz.prog .eql 2 x80 (i64 4) h80 fun x81 h81 =>
 gdM x81
 (@wkM [tt] h81 ⟨J68⟩)
 (fldAddrM Tryz.prog 81 (nthA s12 0) 1 h81 fun x82 h82 =>
 loadM Tryz.prog 2 x82 h82 fun x83 h83 =>
 binM Tryz.prog .neq 2 x83 (i64 0) h83 fun x84 h84 =>
 @wkM [x84] h84 ⟨J68⟩))
 (@wkM [ff] h78 ⟨J68⟩))
 (@wkM [ff] h75 ⟨J68⟩)⟩⟩
 ⟨fun s68 h68 =>
 retW (nthA s68 0) h68 Q⟩)
 (binM Tryz.prog .eql 2 x25 (i64 4) h67 fun x85 h85 =>
 gdM x85
 (@jnM ⟨fun J86 =>
 loadM Tryz.prog 35 (nthA s12 1) h85 fun x87 h87 =>
 loadM Tryz.prog 81 (nthA s12 0) h87 fun x88 h88 =>
 @clM Tryz.prog 122 [x87, x88] h88 ⟨fun x89 h89 =>
 gdM x89
 (fldAddrM Tryz.prog 81 (nthA s12 0) 0 h89 fun x90 h90 =>
 loadM Tryz.prog 2 x90 h90 fun x91 h91 =>
 binM Tryz.prog .eql 2 x91 (i64 6) h91 fun x92 h92 =>
 gdM x92
 (@wkM [tt] h92 ⟨J86⟩)
 (fldAddrM Tryz.prog 81 (nthA s12 0) 1 h92 fun x93 h93 =>
 loadM Tryz.prog 2 x93 h93 fun x94 h94 =>
 binM Tryz.prog .neq 2 x94 (i64 0) h94 fun x95 h95 =>
 @wkM [x95] h95 ⟨J86⟩))
 (@wkM [ff] h89 ⟨J86⟩)⟩⟩
 ⟨fun s86 h86 =>
 retW (nthA s86 0) h86 Q⟩)
 (binM Tryz.prog .eql 2 x25 (i64 8) h85 fun x96 h96 =>
 gdM x96
 (@jnM ⟨fun J97 =>
 fldAddrM Tryz.prog 81 (nthA s12 0) 1 h96 fun x98 h98 =>
 loadM Tryz.prog 2 x98 h98 fun x99 h99 =>
 @clM Tryz.prog 118 [x99] h99 ⟨fun x100 h100 =>
 gdM x100
 (fldAddrM Tryz.prog 81 (nthA s12 0) 2 h100 fun x101 h101 =>
 loadM Tryz.prog 2 x101 h101 fun x102 h102 =>
 @clM Tryz.prog 118 [x102] h102 ⟨fun x103 h103 =>
 gdM x103
 (fldAddrM Tryz.prog 81 (nthA s12 0) 1 h103 fun x104 h104 =>
 loadM Tryz.prog 2 x104 h104 fun x105 h105 =>
 fldAddrM Tryz.prog 81 (nthA s12 0) 2 h105 fun x106 h106 =>
 loadM Tryz.prog 2 x106 h106 fun x107 h107 =>
 binM Tryz.prog .neq 2 x105 x107 h107 fun x108 h108 =>
 gdM x108
 (fldAddrM Tryz.prog 81 (nthA s12 0) 3 h108 fun x109 h109 =>
 loadM Tryz.prog 2 x109 h109 fun x110 h110 =>
 binM Tryz.prog .eql 2 x110 (i64 0) h110 fun x111 h111 =>
 @wkM [x111] h111 ⟨J97⟩)
 (@wkM [ff] h108 ⟨J97⟩))
 (@wkM [ff] h103 ⟨J97⟩)⟩)
 (@wkM [ff] h100 ⟨J97⟩)⟩⟩
 ⟨fun s97 h97 =>
 retW (nthA s97 0) h97 Q⟩)
 (binM Tryz.prog .eql 2 x25 (i64 9) h96 fun x112 h112 =>
 gdM x112
 (@jnM ⟨fun J113 =>
 fldAddrM Tryz.prog 81 (nthA s12 0) 1 h112 fun x114 h114 =>
 loadM Tryz.prog 2 x114 h114 fun x115 h115 =>
 binM Tryz.prog .eql 2 x115 (i64 0) h115 fun x116 h116 =>
 gdM x116
 (fldAddrM Tryz.prog 81 (nthA s12 0) 2 h116 fun x117 h117 =>
 loadM Tryz.prog 2 x117 h117 fun x118 h118 =>
 binM Tryz.prog .eql 2 x118 (i64 0) h118 fun x119 h119 =>
 gdM x119
 (@wkM [(nthA s12 2)] h119 ⟨J113⟩)
 (@wkM [ff] h119 ⟨J113⟩))
 (@wkM [ff] h116 ⟨J113⟩)⟩
 ⟨fun s113 h113 =>
 retW (nthA s113 0) h113 Q⟩)
 (binM Tryz.prog .eql 2 x25 (i64 10) h112 fun x120 h120 =>
 gdM x120
 (@jnM ⟨fun J121 =>
 loadM Tryz.prog 79 (nthA s12 3) h120 fun x122 h122 =>
 fldAddrM Tryz.prog 81 (nthA s12 0) 1 h122 fun x123 h123 =>
 loadM Tryz.prog 2 x123 h123 fun x124 h124 =>
 @clM Tryz.prog 120 [x122, x124] h124 ⟨fun x125 h125 =>
 binM Tryz.prog .neq 2 x125 (i64 0) h125 fun x126 h126 =>
 gdM x126
 (fldAddrM Tryz.prog 81 (nthA s12 0) 2 h126 fun x127 h127 =>
 loadM Tryz.prog 2 x127 h127 fun x128 h128 =>
 binM Tryz.prog .eql 2 x128 (i64 0) h128 fun x129 h129 =>
 gdM x129
 (@wkM [(nthA s12 2)] h129 ⟨J121⟩)
 (@wkM [ff] h129 ⟨J121⟩))
 (@wkM [ff] h126 ⟨J121⟩)⟩⟩
 ⟨fun s121 h121 =>
 retW (nthA s121 0) h121 Q⟩)
 (binM Tryz.prog .eql 2 x25 (i64 11) h120 fun x130 h130 =>
 gdM x130
 (@jnM ⟨fun J131 =>
 fldAddrM Tryz.prog 81 (nthA s12 0) 1 h130 fun x132 h132 =>
 loadM Tryz.prog 2 x132 h132 fun x133 h133 =>
 binM Tryz.prog .geq 2 x133 (i64 0) h133 fun x134 h134 =>
 gdM x134
 (fldAddrM Tryz.prog 81 (nthA s12 0) 1 h134 fun x135 h135 =>
 loadM Tryz.prog 2 x135 h135 fun x136 h136 =>
 fldAddrM Tryz.prog 35 (nthA s12 1) 2 h136 fun x137 h137 =>
 loadM Tryz.prog 32 x137 h137 fun x138 h138 =>
 lenM Tryz.prog 32 x138 h138 fun x139 h139 =>
 binM Tryz.prog .lss 2 x136 x139 h139 fun x140 h140 =>
 gdM x140
 (fldAddrM Tryz.prog 81 (nthA s12 0) 2 h140 fun x141 h141 =>
 loadM Tryz.prog 2 x141 h141 fun x142 h142 =>
 binM Tryz.prog .eql 2 x142 (i64 0) h142 fun x143 h143 =>
 gdM x143
 (fldAddrM Tryz.prog 81 (nthA s12 0) 3 h143 fun x144 h144 =>
 loadM Tryz.prog 2 x144 h144 fun x145 h145 =>
 binM Tryz.prog .eql 2 x145 (i64 0) h145 fun x146 h146 =>
 @wkM [x146] h146 ⟨J131⟩)
 (@wkM [ff] h143 ⟨J131⟩))
 (@wkM [ff] h140 ⟨J131⟩))
 (@wkM [ff] h134 ⟨J131⟩)⟩
 ⟨fun s131 h131 =>
 retW (nthA s131 0) h131 Q⟩)
 (@jnM ⟨fun J147 =>
 fldAddrM Tryz.prog 81 (nthA s12 0) 1 h130 fun x148 h148 =>
 loadM Tryz.prog 2 x148 h148 fun x149 h149 =>
 @clM Tryz.prog 123 [x25, x149] h149 ⟨fun x150 h150 =>
 gdM x150
 (fldAddrM Tryz.prog 81 (nthA s12 0) 2 h150 fun x151 h151 =>
 loadM Tryz.prog 2 x151 h151 fun x152 h152 =>
 binM Tryz.prog .eql 2 x152 (i64 0) h152 fun x153 h153 =>
 gdM x153
 (fldAddrM Tryz.prog 81 (nthA s12 0) 3 h153 fun x154 h154 =>
 loadM Tryz.prog 2 x154 h154 fun x155 h155 =>
 binM Tryz.prog .eql 2 x155 (i64 0) h155 fun x156 h156 =>
 @wkM [x156] h156 ⟨J147⟩)
 (@wkM [ff] h153 ⟨J147⟩))
 (@wkM [ff] h150 ⟨J147⟩)⟩⟩
 ⟨fun s147 h147 =>
 retW (nthA s147 0) h147 Q⟩)))))))))⟩⟩)⟩
theorem D_spec_l3Instr_eq (a0 a1 a2 : AVal) (h : AHeap) (Q : KA) : adFn Tryz.prog ⟨fun _ => ⟨[], [], .nil⟩, fun i => bif Nat.beq i 0 then some [6] else bif Nat.beq i 2 then some [5, 3, 4, 16] else bif Nat.beq i 4 then some [5, 3, 7, 4] else none, fun _ => [], [3, 4, 5]⟩ Tryz.f82 [a0, a1, a2] h Q = D_spec_l3Instr a0 a1 a2 h Q := by kernel_rfl
theorem D_spec_l3Instr_of {a0 a1 a2 : AVal} {h : AHeap} {Q : KA} (hd : D_spec_l3Instr a0 a1 a2 h Q) : callM Tryz.prog 82 [a0, a1, a2] h Q := callM_of (fn := Tryz.f82) Tryz.func82 (Nat.le_of_ble_eq_true (by kernel_rfl)) ((D_spec_l3Instr_eq a0 a1 a2 h Q).symm ▸ hd)
theorem fn_spec_l3Instr : fnT Tryz.prog 82 = true := by kernel_rfl
/- spec.l3Local; J12: n k f _32; J5: n k f _15 -/
def D_spec_l3Local (a0 a1 : AVal) (h : AHeap) (Q : KA) : Prop :=
 boxFM a0 h fun x1 h1 =>
 fldAddrM Tryz.prog 79 x1 0 h1 fun x2 h2 =>
 loadM Tryz.prog 72 x2 h2 fun x3 h3 =>
 lenM Tryz.prog 72 x3 h3 fun x4 h4 =>
 @jnM ⟨fun J5 =>
 binM Tryz.prog .geq 2 a1 (i64 0) h4 fun x6 h6 =>
 gdM x6
 (binM Tryz.prog .lss 2 a1 x4 h6 fun x7 h7 =>
 @wkM [x4, a1, x1, x7] h7 ⟨J5⟩)
 (@wkM [x4, a1, x1, ff] h6 ⟨J5⟩)⟩
 ⟨fun s5 h5 =>
 gdM (nthA s5 3)
 (fldAddrM Tryz.prog 79 (nthA s5 2) 0 h5 fun x8 h8 =>
 loadM Tryz.prog 72 x8 h8 fun x9 h9 =>
 ixAddrM Tryz.prog 72 x9 (nthA s5 1) h9 fun x10 h10 =>
 loadM Tryz.prog 2 x10 h10 fun x11 h11 =>
 retW x11 h11 Q)
 (@jnM ⟨fun J12 =>
 binM Tryz.prog .geq 2 (nthA s5 1) (nthA s5 0) h5 fun x13 h13 =>
 gdM x13
 (fldAddrM Tryz.prog 79 (nthA s5 2) 2 h13 fun x14 h14 =>
 loadM Tryz.prog 72 x14 h14 fun x15 h15 =>
 lenM Tryz.prog 72 x15 h15 fun x16 h16 =>
 binM Tryz.prog .add 2 (nthA s5 0) x16 h16 fun x17 h17 =>
 binM Tryz.prog .lss 2 (nthA s5 1) x17 h17 fun x18 h18 =>
 @wkM [(nthA s5 0), (nthA s5 1), (nthA s5 2), x18] h18 ⟨J12⟩)
 (@wkM [(nthA s5 0), (nthA s5 1), (nthA s5 2), ff] h13 ⟨J12⟩)⟩
 ⟨fun s12 h12 =>
 gdM (nthA s12 3)
 (fldAddrM Tryz.prog 79 (nthA s12 2) 2 h12 fun x19 h19 =>
 loadM Tryz.prog 72 x19 h19 fun x20 h20 =>
 binM Tryz.prog .sub 2 (nthA s12 1) (nthA s12 0) h20 fun x21 h21 =>
 ixAddrM Tryz.prog 72 x20 x21 h21 fun x22 h22 =>
 loadM Tryz.prog 2 x22 h22 fun x23 h23 =>
 retW x23 h23 Q)
 (retW (i64 0) h12 Q)⟩)⟩
theorem D_spec_l3Local_eq (a0 a1 : AVal) (h : AHeap) (Q : KA) : adFn Tryz.prog ⟨fun _ => ⟨[], [], .nil⟩, fun i => bif Nat.beq i 3 then some [5, 1, 2, 15] else bif Nat.beq i 5 then some [5, 1, 2, 32] else none, fun _ => [], [2]⟩ Tryz.f120 [a0, a1] h Q = D_spec_l3Local a0 a1 h Q := by kernel_rfl
theorem D_spec_l3Local_of {a0 a1 : AVal} {h : AHeap} {Q : KA} (hd : D_spec_l3Local a0 a1 h Q) : callM Tryz.prog 120 [a0, a1] h Q := callM_of (fn := Tryz.f120) Tryz.func120 (Nat.le_of_ble_eq_true (by kernel_rfl)) ((D_spec_l3Local_eq a0 a1 h Q).symm ▸ hd)
theorem fn_spec_l3Local : fnT Tryz.prog 120 = true := by kernel_rfl
/- spec.l3Mask; J23: k t x p; J27: t x p k _49; J3: x p _23 -/
def D_spec_l3Mask (a0 a1 : AVal) (h : AHeap) (Q : KA) : Prop :=
 boxFM a0 h fun x1 h1 =>
 boxFM a1 h1 fun x2 h2 =>
 @jnM ⟨fun J3 =>
 fldAddrM Tryz.prog 81 x2 3 h2 fun x4 h4 =>
 loadM Tryz.prog 2 x4 h4 fun x5 h5 =>
 binM Tryz.prog .lss 2 x5 (i64 0) h5 fun x6 h6 =>
 gdM x6
 (@wkM [x2, x1, tt] h6 ⟨J3⟩)
 (fldAddrM Tryz.prog 81 x2 3 h6 fun x7 h7 =>
 loadM Tryz.prog 2 x7 h7 fun x8 h8 =>
 binM Tryz.prog .geq 2 x8 (i64 256) h8 fun x9 h9 =>
 gdM x9
 (@wkM [x2, x1, tt] h9 ⟨J3⟩)
 (fldAddrM Tryz.prog 81 x2 3 h9 fun x10 h10 =>
 loadM Tryz.prog 2 x10 h10 fun x11 h11 =>
 fldAddrM Tryz.prog 81 x2 3 h11 fun x12 h12 =>
 loadM Tryz.prog 2 x12 h12 fun x13 h13 =>
 binM Tryz.prog .add 2 x13 (i64 1) h13 fun x14 h14 =>
 binM Tryz.prog .and 2 x11 x14 h14 fun x15 h15 =>
 binM Tryz.prog .neq 2 x15 (i64 0) h15 fun x16 h16 =>
 @wkM [x2, x1, x16] h16 ⟨J3⟩))⟩
 ⟨fun s3 h3 =>
 gdM (nthA s3 2)
 (retW ff h3 Q)
 (loadM Tryz.prog 35 (nthA s3 1) h3 fun x17 h17 =>
 fldAddrM Tryz.prog 81 (nthA s3 0) 1 h17 fun x18 h18 =>
 loadM Tryz.prog 2 x18 h18 fun x19 h19 =>
 fldAddrM Tryz.prog 81 (nthA s3 0) 2 h19 fun x20 h20 =>
 loadM Tryz.prog 2 x20 h20 fun x21 h21 =>
 @clM Tryz.prog 121 [x17, x19, x21] h21 ⟨fun x22 h22 =>
 @lpM [(i64 0), x22, (nthA s3 0), (nthA s3 1)] h22 ⟨fun s23 h23 J23 =>
 fldAddrM Tryz.prog 81 (nthA s23 2) 3 h23 fun x24 h24 =>
 loadM Tryz.prog 2 x24 h24 fun x25 h25 =>
 binM Tryz.prog .leq 2 (nthA s23 0) x25 h25 fun x26 h26 =>
 gdM x26
 (@jnM ⟨fun J27 =>
 binM Tryz.prog .eql 2 (nthA s23 1) (i64 0) h26 fun x28 h28 =>
 gdM x28
 (@wkM [(nthA s23 1), (nthA s23 2), (nthA s23 3), (nthA s23 0), tt] h28 ⟨J27⟩)
 (loadM Tryz.prog 35 (nthA s23 3) h28 fun x29 h29 =>
 fldAddrM Tryz.prog 81 (nthA s23 2) 1 h29 fun x30 h30 =>
 loadM Tryz.prog 2 x30 h30 fun x31 h31 =>
 fldAddrM Tryz.prog 81 (nthA s23 2) 2 h31 fun x32 h32 =>
 loadM Tryz.prog 2 x32 h32 fun x33 h33 =>
 binM Tryz.prog .add 2 x33 (nthA s23 0) h33 fun x34 h34 =>
 @clM Tryz.prog 121 [x29, x31, x34] h34 ⟨fun x35 h35 =>
 binM Tryz.prog .neq 2 x35 (nthA s23 1) h35 fun x36 h36 =>
 @wkM [(nthA s23 1), (nthA s23 2), (nthA s23 3), (nthA s23 0), x36] h36 ⟨J27⟩⟩)⟩
 ⟨fun s27 h27 =>
 gdM (nthA s27 4)
 (retW ff h27 Q)
 (binM Tryz.prog .add 2 (nthA s27 3) (i64 1) h27 fun x37 h37 =>
 @wkM [x37, (nthA s27 0), (nthA s27 1), (nthA s27 2)] h37 ⟨J23⟩)⟩)
 (retW tt h26 Q)⟩⟩)⟩
theorem D_spec_l3Mask_eq (a0 a1 : AVal) (h : AHeap) (Q : KA) : adFn Tryz.prog ⟨fun _ => ⟨[], [], .nil⟩, fun i => bif Nat.beq i 2 then some [3, 2, 23] else bif Nat.beq i 8 then some [5, 3, 2, 6, 49] else none, fun i => bif Nat.beq i 5 then [6, 5, 3, 2] else [], [2, 3]⟩ Tryz.f122 [a0, a1] h Q = D_spec_l3Mask a0 a1 h Q := by kernel_rfl
theorem D_spec_l3Mask_of {a0 a1 : AVal} {h : AHeap} {Q : KA} (hd : D_spec_l3Mask a0 a1 h Q) : callM Tryz.prog 122 [a0, a1] h Q := callM_of (fn := Tryz.f122) Tryz.func122 (Nat.le_of_ble_eq_true (by kernel_rfl)) ((D_spec_l3Mask_eq a0 a1 h Q).symm ▸ hd)
theorem fn_spec_l3Mask : fnT Tryz.prog 122 = true := by kernel_rfl
/- spec.l3Types; J1: i list -/
def D_spec_l3Types (a0 : AVal) (h : AHeap) (Q : KA) : Prop :=
 @lpM [(i64 0), a0] h ⟨fun s1 h1 J1 =>
 lenM Tryz.prog 72 (nthA s1 1) h1 fun x2 h2 =>
 binM Tryz.prog .lss 3 (nthA s1 0) x2 h2 fun x3 h3 =>
 gdM x3
 (ixAddrM Tryz.prog 72 (nthA s1 1) (nthA s1 0) h3 fun x4 h4 =>
 loadM Tryz.prog 2 x4 h4 fun x5 h5 =>
 @clM Tryz.prog 118 [x5] h5 ⟨fun x6 h6 =>
 unM .not x6 h6 fun x7 h7 =>
 gdM x7
 (retW ff h7 Q)
 (binM Tryz.prog .add 3 (nthA s1 0) (i64 1) h7 fun x8 h8 =>
 @wkM [x8, (nthA s1 1)] h8 ⟨J1⟩)⟩)
 (retW tt h3 Q)⟩
theorem D_spec_l3Types_eq (a0 : AVal) (h : AHeap) (Q : KA) : adFn Tryz.prog ⟨fun _ => ⟨[], [], .nil⟩, fun _ => none, fun i => bif Nat.beq i 2 then [3, 0] else [], []⟩ Tryz.f79 [a0] h Q = D_spec_l3Types a0 h Q := by kernel_rfl
theorem D_spec_l3Types_of {a0 : AVal} {h : AHeap} {Q : KA} (hd : D_spec_l3Types a0 h Q) : callM Tryz.prog 79 [a0] h Q := callM_of (fn := Tryz.f79) Tryz.func79 (Nat.le_of_ble_eq_true (by kernel_rfl)) ((D_spec_l3Types_eq a0 h Q).symm ▸ hd)
theorem fn_spec_l3Types : fnT Tryz.prog 79 = true := by kernel_rfl
/- (*impl.reader).all$1; J7: _1 _0 -/
def an_impl_reader_all_1_p1 : An := ⟨fun _ => ⟨[], [], .nil⟩, fun i => bif Nat.beq i 5 then some [1, 0] else none, fun _ => [], []⟩
def D_impl_reader_all_1_p1 [Pn : Pk] (a0 a1 a2 a3 a4 a5 : AVal) (h : AHeap) (Q : KA) : Prop :=
 nilM Tryz.prog .eql 20 a2 h fun x1 h1 =>
 gdM x1
 (retW0 h1 Q)
 (taM Tryz.prog 165 true a2 h1 fun x2 h2 =>
 extractM x2 0 h2 fun x3 h3 =>
 extractM x2 1 h3 fun x4 h4 =>
 allocM Tryz.prog 165 h4 fun x5 h5 =>
 storeM Tryz.prog 165 x5 x3 h5 fun x6 h6 =>
 @jnM ⟨fun J7 =>
 unM .not x4 h6 fun x8 h8 =>
 gdM x8
 (panM a2 h8)
 (@wkM [a1, a0] h8 ⟨J7⟩)⟩
 ⟨fun s7 h7 =>
 buildM Tryz.prog 35 [] h7 fun x9 h9 =>
 storeM Tryz.prog 35 (nthA s7 1) x9 h9 fun x10 h10 =>
 storeM Tryz.prog 4 (nthA s7 0) ff h10 fun x11 h11 =>
 retW0 h11 Q⟩)
theorem D_impl_reader_all_1_p1_eq [Pn : Pk] (a0 a1 a2 a3 a4 a5 : AVal) (h : AHeap) (Q : KA) : adCode Tryz.prog an_impl_reader_all_1_p1 17 (sndC ((Tryz.f104.body).getD .skip)) (argEnv [a0, a1, a2, a3, a4, a5]) h (fun env h' => retM Tryz.prog [] env h' Q) (fun _ _ _ => False) (fun env h' => retM Tryz.prog [] env h' Q) = D_impl_reader_all_1_p1 a0 a1 a2 a3 a4 a5 h Q := by kernel_rfl
end Go.Proofs.YtkfpoagnchahkaaGreat.A
