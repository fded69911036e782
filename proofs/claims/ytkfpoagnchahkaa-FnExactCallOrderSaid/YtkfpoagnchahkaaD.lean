/- Of this session: what the functions mean, printed; each equal to its code's meaning by the kernel. -/
import Derived.Test.YtkfpoagnchahkaaProg
import Derived.Test.YtkfpoagnchahkaaA
namespace Go.Proofs.Ytkfpoagnchahkaa.A
open Go Go.RowKit
set_option linter.unusedVariables false
set_option linter.unusedSimpArgs false
set_option maxRecDepth 100000
@[simp] theorem okT_27 : okT Try.prog 27 = true := by kernel_rfl
@[simp] theorem szT_27 : szT Try.prog 27 = 4 := by kernel_rfl
@[simp] theorem agT_27 : agT Try.prog 27 = true := by kernel_rfl
@[simp] theorem okT_30 : okT Try.prog 30 = true := by kernel_rfl
@[simp] theorem szT_30 : szT Try.prog 30 = 3 := by kernel_rfl
@[simp] theorem agT_30 : agT Try.prog 30 = true := by kernel_rfl
@[simp] theorem okT_38 : okT Try.prog 38 = true := by kernel_rfl
@[simp] theorem szT_38 : szT Try.prog 38 = 4 := by kernel_rfl
@[simp] theorem agT_38 : agT Try.prog 38 = true := by kernel_rfl
@[simp] theorem zrT_38 : zrT Try.prog 38 = some (AVal.agg [AVal.v (Value.slice none 0 0), AVal.v (Value.slice none 0 0), AVal.v (Value.slice none 0 0), AVal.v (Value.slice none 0 0)]) := by kernel_rfl
@[simp] theorem okT_40 : okT Try.prog 40 = true := by kernel_rfl
@[simp] theorem szT_40 : szT Try.prog 40 = 3 := by kernel_rfl
@[simp] theorem agT_40 : agT Try.prog 40 = true := by kernel_rfl
@[simp] theorem zrT_40 : zrT Try.prog 40 = some (AVal.agg [AVal.v (Value.slice none 0 0), AVal.v (Value.slice none 0 0), AVal.v (Value.slice none 0 0)]) := by kernel_rfl
@[simp] theorem okT_22 : okT Try.prog 22 = true := by kernel_rfl
@[simp] theorem szT_22 : szT Try.prog 22 = 1 := by kernel_rfl
@[simp] theorem agT_22 : agT Try.prog 22 = false := by kernel_rfl
@[simp] theorem okT_23 : okT Try.prog 23 = true := by kernel_rfl
@[simp] theorem szT_23 : szT Try.prog 23 = 1 := by kernel_rfl
@[simp] theorem agT_23 : agT Try.prog 23 = false := by kernel_rfl
@[simp] theorem okT_24 : okT Try.prog 24 = true := by kernel_rfl
@[simp] theorem szT_24 : szT Try.prog 24 = 1 := by kernel_rfl
@[simp] theorem agT_24 : agT Try.prog 24 = false := by kernel_rfl
@[simp] theorem okT_25 : okT Try.prog 25 = true := by kernel_rfl
@[simp] theorem szT_25 : szT Try.prog 25 = 1 := by kernel_rfl
@[simp] theorem agT_25 : agT Try.prog 25 = false := by kernel_rfl
@[simp] theorem okT_28 : okT Try.prog 28 = true := by kernel_rfl
@[simp] theorem szT_28 : szT Try.prog 28 = 1 := by kernel_rfl
@[simp] theorem agT_28 : agT Try.prog 28 = false := by kernel_rfl
@[simp] theorem slT_28 : slT Try.prog 28 = some 88 := by kernel_rfl
@[simp] theorem slT_22 : slT Try.prog 22 = some 45 := by kernel_rfl
@[simp] theorem okT_45 : okT Try.prog 45 = true := by kernel_rfl
@[simp] theorem szT_45 : szT Try.prog 45 = 1 := by kernel_rfl
@[simp] theorem agT_45 : agT Try.prog 45 = false := by kernel_rfl
@[simp] theorem slT_45 : slT Try.prog 45 = some 2 := by kernel_rfl
@[simp] theorem okT_34 : okT Try.prog 34 = true := by kernel_rfl
@[simp] theorem szT_34 : szT Try.prog 34 = 1 := by kernel_rfl
@[simp] theorem agT_34 : agT Try.prog 34 = false := by kernel_rfl
@[simp] theorem okT_35 : okT Try.prog 35 = true := by kernel_rfl
@[simp] theorem szT_35 : szT Try.prog 35 = 1 := by kernel_rfl
@[simp] theorem agT_35 : agT Try.prog 35 = false := by kernel_rfl
@[simp] theorem okT_36 : okT Try.prog 36 = true := by kernel_rfl
@[simp] theorem szT_36 : szT Try.prog 36 = 1 := by kernel_rfl
@[simp] theorem agT_36 : agT Try.prog 36 = false := by kernel_rfl
@[simp] theorem okT_2 : okT Try.prog 2 = true := by kernel_rfl
@[simp] theorem szT_2 : szT Try.prog 2 = 1 := by kernel_rfl
@[simp] theorem agT_2 : agT Try.prog 2 = false := by kernel_rfl
@[simp] theorem zrT_2 : zrT Try.prog 2 = some (AVal.v (Value.int IntKind.i64 (0))) := by kernel_rfl
@[simp] theorem byT_2 : byT Try.prog 2 = 8 := by kernel_rfl
@[simp] theorem slT_35 : slT Try.prog 35 = some 74 := by kernel_rfl
@[simp] theorem slT_71 : slT Try.prog 71 = some 4 := by kernel_rfl
@[simp] theorem okT_4 : okT Try.prog 4 = true := by kernel_rfl
@[simp] theorem szT_4 : szT Try.prog 4 = 1 := by kernel_rfl
@[simp] theorem agT_4 : agT Try.prog 4 = false := by kernel_rfl
@[simp] theorem zrT_4 : zrT Try.prog 4 = some (AVal.v (Value.bool false)) := by kernel_rfl
@[simp] theorem byT_4 : byT Try.prog 4 = 1 := by kernel_rfl
@[simp] theorem okT_74 : okT Try.prog 74 = true := by kernel_rfl
@[simp] theorem szT_74 : szT Try.prog 74 = 4 := by kernel_rfl
@[simp] theorem agT_74 : agT Try.prog 74 = true := by kernel_rfl
@[simp] theorem okT_72 : okT Try.prog 72 = true := by kernel_rfl
@[simp] theorem szT_72 : szT Try.prog 72 = 1 := by kernel_rfl
@[simp] theorem agT_72 : agT Try.prog 72 = false := by kernel_rfl
@[simp] theorem slT_72 : slT Try.prog 72 = some 76 := by kernel_rfl
@[simp] theorem okT_76 : okT Try.prog 76 = true := by kernel_rfl
@[simp] theorem szT_76 : szT Try.prog 76 = 4 := by kernel_rfl
@[simp] theorem agT_76 : agT Try.prog 76 = true := by kernel_rfl
@[simp] theorem zrT_76 : zrT Try.prog 76 = some (AVal.agg [AVal.v (Value.int IntKind.i64 (0)), AVal.v (Value.int IntKind.i64 (0)), AVal.v (Value.int IntKind.i64 (0)), AVal.v (Value.int IntKind.i64 (0))]) := by kernel_rfl
@[simp] theorem slT_23 : slT Try.prog 23 = some 93 := by kernel_rfl
@[simp] theorem slT_24 : slT Try.prog 24 = some 83 := by kernel_rfl
@[simp] theorem okT_83 : okT Try.prog 83 = true := by kernel_rfl
@[simp] theorem szT_83 : szT Try.prog 83 = 4 := by kernel_rfl
@[simp] theorem agT_83 : agT Try.prog 83 = true := by kernel_rfl
@[simp] theorem slT_25 : slT Try.prog 25 = some 98 := by kernel_rfl
@[simp] theorem okT_88 : okT Try.prog 88 = true := by kernel_rfl
@[simp] theorem szT_88 : szT Try.prog 88 = 1 := by kernel_rfl
@[simp] theorem agT_88 : agT Try.prog 88 = false := by kernel_rfl
@[simp] theorem zrT_45 : zrT Try.prog 45 = some (AVal.v (Value.slice none 0 0)) := by kernel_rfl
@[simp] theorem byT_45 : byT Try.prog 45 = 24 := by kernel_rfl
@[simp] theorem slT_34 : slT Try.prog 34 = some 91 := by kernel_rfl
@[simp] theorem okT_91 : okT Try.prog 91 = true := by kernel_rfl
@[simp] theorem szT_91 : szT Try.prog 91 = 2 := by kernel_rfl
@[simp] theorem agT_91 : agT Try.prog 91 = true := by kernel_rfl
@[simp] theorem zrT_91 : zrT Try.prog 91 = some (AVal.agg [AVal.v (Value.int IntKind.i64 (0)), AVal.v (Value.int IntKind.u32 (0))]) := by kernel_rfl
@[simp] theorem byT_91 : byT Try.prog 91 = 16 := by kernel_rfl
@[simp] theorem okT_93 : okT Try.prog 93 = true := by kernel_rfl
@[simp] theorem szT_93 : szT Try.prog 93 = 2 := by kernel_rfl
@[simp] theorem agT_93 : agT Try.prog 93 = true := by kernel_rfl
@[simp] theorem zrT_74 : zrT Try.prog 74 = some (AVal.agg [AVal.v (Value.slice none 0 0), AVal.v (Value.int IntKind.i64 (0)), AVal.v (Value.slice none 0 0), AVal.v (Value.slice none 0 0)]) := by kernel_rfl
@[simp] theorem byT_74 : byT Try.prog 74 = 80 := by kernel_rfl
@[simp] theorem slT_36 : slT Try.prog 36 = some 96 := by kernel_rfl
@[simp] theorem okT_96 : okT Try.prog 96 = true := by kernel_rfl
@[simp] theorem szT_96 : szT Try.prog 96 = 4 := by kernel_rfl
@[simp] theorem agT_96 : agT Try.prog 96 = true := by kernel_rfl
@[simp] theorem zrT_96 : zrT Try.prog 96 = some (AVal.agg [AVal.v (Value.int IntKind.i64 (0)), AVal.v (Value.int IntKind.i64 (0)), AVal.v (Value.int IntKind.i64 (0)), AVal.v (Value.int IntKind.u32 (0))]) := by kernel_rfl
@[simp] theorem byT_96 : byT Try.prog 96 = 32 := by kernel_rfl
@[simp] theorem okT_98 : okT Try.prog 98 = true := by kernel_rfl
@[simp] theorem szT_98 : szT Try.prog 98 = 4 := by kernel_rfl
@[simp] theorem agT_98 : agT Try.prog 98 = true := by kernel_rfl
@[simp] theorem zrT_88 : zrT Try.prog 88 = some (AVal.v (Value.int IntKind.u32 (0))) := by kernel_rfl
@[simp] theorem byT_88 : byT Try.prog 88 = 4 := by kernel_rfl
@[simp] theorem slT_100 : slT Try.prog 100 = some 65 := by kernel_rfl
@[simp] theorem okT_65 : okT Try.prog 65 = true := by kernel_rfl
@[simp] theorem szT_65 : szT Try.prog 65 = 1 := by kernel_rfl
@[simp] theorem agT_65 : agT Try.prog 65 = false := by kernel_rfl
@[simp] theorem zrT_65 : zrT Try.prog 65 = some (AVal.v Value.nilFunc) := by kernel_rfl
@[simp] theorem byT_65 : byT Try.prog 65 = 8 := by kernel_rfl
@[simp] theorem okT_81 : okT Try.prog 81 = true := by kernel_rfl
@[simp] theorem szT_81 : szT Try.prog 81 = 1 := by kernel_rfl
@[simp] theorem agT_81 : agT Try.prog 81 = false := by kernel_rfl
@[simp] theorem plT_116 : plT Try.prog 116 = some [(0, 1)] := by kernel_rfl
@[simp] theorem zrT_116 : zrT Try.prog 116 = some (AVal.agg [AVal.v (Value.int IntKind.i64 (0))]) := by kernel_rfl
@[simp] theorem slT_81 : slT Try.prog 81 = some 127 := by kernel_rfl
@[simp] theorem okT_108 : okT Try.prog 108 = true := by kernel_rfl
@[simp] theorem szT_108 : szT Try.prog 108 = 3 := by kernel_rfl
@[simp] theorem agT_108 : agT Try.prog 108 = true := by kernel_rfl
@[simp] theorem zrT_108 : zrT Try.prog 108 = some (AVal.agg [AVal.v (Value.string { data := { toList := [] } }), AVal.v (Value.int IntKind.i64 (0)), AVal.v (Value.int IntKind.i64 (0))]) := by kernel_rfl
@[simp] theorem plT_108 : plT Try.prog 108 = some [(0, 1), (1, 1), (2, 1)] := by kernel_rfl
@[simp] theorem slT_124 : slT Try.prog 124 = some 108 := by kernel_rfl
@[simp] theorem byT_76 : byT Try.prog 76 = 32 := by kernel_rfl
@[simp] theorem okT_127 : okT Try.prog 127 = true := by kernel_rfl
@[simp] theorem szT_127 : szT Try.prog 127 = 4 := by kernel_rfl
@[simp] theorem agT_127 : agT Try.prog 127 = true := by kernel_rfl
@[simp] theorem byT_108 : byT Try.prog 108 = 32 := by kernel_rfl
@[simp] theorem slT_133 : slT Try.prog 133 = some 132 := by kernel_rfl
@[simp] theorem okT_132 : okT Try.prog 132 = true := by kernel_rfl
@[simp] theorem szT_132 : szT Try.prog 132 = 4 := by kernel_rfl
@[simp] theorem agT_132 : agT Try.prog 132 = true := by kernel_rfl
@[simp] theorem zrT_132 : zrT Try.prog 132 = some (AVal.agg [AVal.v (Value.string { data := { toList := [] } }), AVal.v (Value.int IntKind.i64 (0)), AVal.v (Value.int IntKind.i64 (0)), AVal.v Value.nilFunc]) := by kernel_rfl
@[simp] theorem byT_132 : byT Try.prog 132 = 40 := by kernel_rfl
@[simp] theorem plT_132 : plT Try.prog 132 = some [(0, 3), (3, 1)] := by kernel_rfl
@[simp] theorem okT_138 : okT Try.prog 138 = true := by kernel_rfl
@[simp] theorem szT_138 : szT Try.prog 138 = 1 := by kernel_rfl
@[simp] theorem agT_138 : agT Try.prog 138 = false := by kernel_rfl
@[simp] theorem zokT_2 : zokT Try.prog 2 = true := by kernel_rfl
@[simp] theorem fdT_27_0 : fdT Try.prog 27 0 = some (0, 22) := by kernel_rfl
@[simp] theorem fdT_27_1 : fdT Try.prog 27 1 = some (1, 23) := by kernel_rfl
@[simp] theorem fdT_27_2 : fdT Try.prog 27 2 = some (2, 24) := by kernel_rfl
@[simp] theorem fdT_27_3 : fdT Try.prog 27 3 = some (3, 25) := by kernel_rfl
@[simp] theorem fdT_30_0 : fdT Try.prog 30 0 = some (0, 28) := by kernel_rfl
@[simp] theorem fdT_30_1 : fdT Try.prog 30 1 = some (1, 28) := by kernel_rfl
@[simp] theorem fdT_30_2 : fdT Try.prog 30 2 = some (2, 28) := by kernel_rfl
@[simp] theorem fdT_40_0 : fdT Try.prog 40 0 = some (0, 28) := by kernel_rfl
@[simp] theorem fdT_38_0 : fdT Try.prog 38 0 = some (0, 22) := by kernel_rfl
@[simp] theorem fdT_40_1 : fdT Try.prog 40 1 = some (1, 28) := by kernel_rfl
@[simp] theorem fdT_40_2 : fdT Try.prog 40 2 = some (2, 28) := by kernel_rfl
@[simp] theorem fdT_38_1 : fdT Try.prog 38 1 = some (1, 34) := by kernel_rfl
@[simp] theorem fdT_38_2 : fdT Try.prog 38 2 = some (2, 35) := by kernel_rfl
@[simp] theorem fdT_38_3 : fdT Try.prog 38 3 = some (3, 36) := by kernel_rfl
@[simp] theorem fdT_74_3 : fdT Try.prog 74 3 = some (3, 72) := by kernel_rfl
@[simp] theorem fdT_76_0 : fdT Try.prog 76 0 = some (0, 2) := by kernel_rfl
@[simp] theorem fdT_76_1 : fdT Try.prog 76 1 = some (1, 2) := by kernel_rfl
@[simp] theorem fdT_91_0 : fdT Try.prog 91 0 = some (0, 2) := by kernel_rfl
@[simp] theorem fdT_91_1 : fdT Try.prog 91 1 = some (1, 88) := by kernel_rfl
@[simp] theorem fdT_74_0 : fdT Try.prog 74 0 = some (0, 45) := by kernel_rfl
@[simp] theorem fdT_74_1 : fdT Try.prog 74 1 = some (1, 2) := by kernel_rfl
@[simp] theorem fdT_74_2 : fdT Try.prog 74 2 = some (2, 45) := by kernel_rfl
@[simp] theorem fdT_96_0 : fdT Try.prog 96 0 = some (0, 2) := by kernel_rfl
@[simp] theorem fdT_96_1 : fdT Try.prog 96 1 = some (1, 2) := by kernel_rfl
@[simp] theorem fdT_96_2 : fdT Try.prog 96 2 = some (2, 2) := by kernel_rfl
@[simp] theorem fdT_96_3 : fdT Try.prog 96 3 = some (3, 88) := by kernel_rfl
@[simp] theorem fdT_83_0 : fdT Try.prog 83 0 = some (0, 45) := by kernel_rfl
@[simp] theorem fdT_83_2 : fdT Try.prog 83 2 = some (2, 45) := by kernel_rfl
@[simp] theorem fdT_83_3 : fdT Try.prog 83 3 = some (3, 81) := by kernel_rfl
@[simp] theorem fdT_76_3 : fdT Try.prog 76 3 = some (3, 2) := by kernel_rfl
@[simp] theorem fdT_108_2 : fdT Try.prog 108 2 = some (2, 2) := by kernel_rfl
@[simp] theorem fdT_76_2 : fdT Try.prog 76 2 = some (2, 2) := by kernel_rfl
@[simp] theorem fdT_93_0 : fdT Try.prog 93 0 = some (0, 2) := by kernel_rfl
@[simp] theorem fdT_93_1 : fdT Try.prog 93 1 = some (1, 88) := by kernel_rfl
@[simp] theorem fdT_83_1 : fdT Try.prog 83 1 = some (1, 2) := by kernel_rfl
@[simp] theorem fdT_98_0 : fdT Try.prog 98 0 = some (0, 2) := by kernel_rfl
@[simp] theorem fdT_98_1 : fdT Try.prog 98 1 = some (1, 2) := by kernel_rfl
@[simp] theorem fdT_98_2 : fdT Try.prog 98 2 = some (2, 2) := by kernel_rfl
@[simp] theorem fdT_98_3 : fdT Try.prog 98 3 = some (3, 88) := by kernel_rfl
@[simp] theorem fdT_127_0 : fdT Try.prog 127 0 = some (0, 2) := by kernel_rfl
@[simp] theorem fdT_127_1 : fdT Try.prog 127 1 = some (1, 2) := by kernel_rfl
@[simp] theorem fdT_127_2 : fdT Try.prog 127 2 = some (2, 2) := by kernel_rfl
@[simp] theorem fdT_127_3 : fdT Try.prog 127 3 = some (3, 2) := by kernel_rfl
@[simp] theorem fdT_132_0 : fdT Try.prog 132 0 = some (0, 108) := by kernel_rfl
@[simp] theorem blT_4 : blT Try.prog 4 = true := by kernel_rfl
@[simp] theorem ifT_64 : ifT Try.prog 64 = true := by kernel_rfl
@[simp] theorem ncT_116 : ncT Try.prog 116 = true := by kernel_rfl
@[simp] theorem okT_3 : okT Try.prog 3 = true := by kernel_rfl
@[simp] theorem szT_3 : szT Try.prog 3 = 1 := by kernel_rfl
@[simp] theorem agT_3 : agT Try.prog 3 = false := by kernel_rfl
@[simp] theorem inT_88 : inT Try.prog 88 = some IntKind.u32 := by kernel_rfl
@[simp] theorem inT_21 : inT Try.prog 21 = some IntKind.i32 := by kernel_rfl
@[simp] theorem okT_21 : okT Try.prog 21 = true := by kernel_rfl
@[simp] theorem szT_21 : szT Try.prog 21 = 1 := by kernel_rfl
@[simp] theorem agT_21 : agT Try.prog 21 = false := by kernel_rfl
/- laws.FnExactValidMemory; J41: _44; J31: aM x1 _39; J9: aM aP w0 -/
def or_laws_FnExactValidMemory_8 : DR := ⟨[0, 1, 0, 6, 10, 31], [0, 1, 0, 7, 15, 31], (.one 0 (.or (.one 1 (.one 2 (.one 3 (.one 4 (.one 5 .nil))))) (.one 2 (.one 1 (.one 3 (.one 4 (.one 5 .nil)))))))⟩
@[simp] theorem dr_laws_FnExactValidMemory_8 : drawnOK Try.prog (regOps Try.f3 8) or_laws_FnExactValidMemory_8 = True := eq_true ⟨by kernel_rfl, by kernel_rfl⟩
def or_laws_FnExactValidMemory_14 : DR := ⟨[0, 0, 2, 5, 8], [0, 0, 2, 7, 15], (.one 1 (.or (.one 0 (.one 2 (.one 3 (.one 4 .nil)))) (.one 2 (.one 0 (.one 3 (.one 4 .nil))))))⟩
@[simp] theorem dr_laws_FnExactValidMemory_14 : drawnOK Try.prog (regOps Try.f3 14) or_laws_FnExactValidMemory_14 = True := eq_true ⟨by kernel_rfl, by kernel_rfl⟩
def or_laws_FnExactValidMemory_16 : DR := ⟨[0, 0, 2, 5, 8], [0, 0, 2, 7, 15], (.one 1 (.or (.one 0 (.one 2 (.one 3 (.one 4 .nil)))) (.one 2 (.one 0 (.one 3 (.one 4 .nil))))))⟩
@[simp] theorem dr_laws_FnExactValidMemory_16 : drawnOK Try.prog (regOps Try.f3 16) or_laws_FnExactValidMemory_16 = True := eq_true ⟨by kernel_rfl, by kernel_rfl⟩
def D_laws_FnExactValidMemory (a0 a1 : AVal) (h : AHeap) (Q : KA) : Prop :=
 boxFM a0 h fun x1 h1 =>
 boxFM a1 h1 fun x2 h2 =>
 loadM Try.prog 27 x1 h2 fun x3 h3 =>
 @clM Try.prog 5 [x3, (i64 1048576)] h3 ⟨fun x4 h4 =>
 binM Try.prog .lss 3 x4 (i64 0) h4 fun x5 h5 =>
 gdM x5
 (retW tt h5 Q)
 (loadM Try.prog 30 x2 h5 fun x6 h6 =>
 @clM Try.prog 6 [x6, x4] h6 ⟨fun x7 h7 =>
 binM Try.prog .lss 3 x7 (i64 0) h7 fun x8 h8 =>
 gdM x8
 (retW tt h8 Q)
 (@jnM ⟨fun J9 =>
 And (drawnOK Try.prog (regOps Try.f3 8) or_laws_FnExactValidMemory_8) (loadM Try.prog 27 x1 h8 fun x10 h10 =>
 And (@clM Try.prog 8 [x10] h10 ⟨fun x11 h11 =>
 loadM Try.prog 30 x2 h11 fun x12 h12 =>
 @clM Try.prog 9 [x12] h12 ⟨fun x13 h13 =>
 @clM Try.prog 7 [x11, x13] h13 ⟨fun x14 h14 =>
 @wkM [x2, x1, x14] h14 ⟨J9⟩⟩⟩⟩)
 (loadM Try.prog 30 x2 h10 fun x15 h15 =>
 @clM Try.prog 8 [x10] h15 ⟨fun x16 h16 =>
 @clM Try.prog 9 [x15] h16 ⟨fun x17 h17 =>
 @clM Try.prog 7 [x16, x17] h17 ⟨fun x18 h18 =>
 @wkM [x2, x1, x18] h18 ⟨J9⟩⟩⟩⟩))⟩
 ⟨fun s9 h9 =>
 loadM Try.prog 27 (nthA s9 1) h9 fun x19 h19 =>
 @clM Try.prog 8 [x19] h19 ⟨fun x20 h20 =>
 allocM Try.prog 38 h20 fun x21 h21 =>
 storeM Try.prog 38 x21 x20 h21 fun x22 h22 =>
 loadM Try.prog 30 (nthA s9 0) h22 fun x23 h23 =>
 @clM Try.prog 9 [x23] h23 ⟨fun x24 h24 =>
 allocM Try.prog 40 h24 fun x25 h25 =>
 storeM Try.prog 40 x25 x24 h25 fun x26 h26 =>
 loadM Try.prog 38 x21 h26 fun x27 h27 =>
 loadM Try.prog 40 x25 h27 fun x28 h28 =>
 @clM Try.prog 10 [x27, x28] h28 ⟨fun x29 h29 =>
 binM Try.prog .neq 4 x29 (nthA s9 2) h29 fun x30 h30 =>
 gdM x30
 (retW ff h30 Q)
 (@jnM ⟨fun J31 =>
 And (drawnOK Try.prog (regOps Try.f3 14) or_laws_FnExactValidMemory_14) (loadM Try.prog 27 (nthA s9 1) h30 fun x32 h32 =>
 And (loadM Try.prog 38 x21 h32 fun x33 h33 =>
 @clM Try.prog 8 [x32] h33 ⟨fun x34 h34 =>
 @clM Try.prog 11 [x33, x34] h34 ⟨fun x35 h35 =>
 unM .not x35 h35 fun x36 h36 =>
 @wkM [(nthA s9 0), x25, x36] h36 ⟨J31⟩⟩⟩)
 (@clM Try.prog 8 [x32] h32 ⟨fun x37 h37 =>
 loadM Try.prog 38 x21 h37 fun x38 h38 =>
 @clM Try.prog 11 [x38, x37] h38 ⟨fun x39 h39 =>
 unM .not x39 h39 fun x40 h40 =>
 @wkM [(nthA s9 0), x25, x40] h40 ⟨J31⟩⟩⟩))⟩
 ⟨fun s31 h31 =>
 gdM (nthA s31 2)
 (retW ff h31 Q)
 (@jnM ⟨fun J41 =>
 And (drawnOK Try.prog (regOps Try.f3 16) or_laws_FnExactValidMemory_16) (loadM Try.prog 30 (nthA s31 0) h31 fun x42 h42 =>
 And (loadM Try.prog 40 (nthA s31 1) h42 fun x43 h43 =>
 @clM Try.prog 9 [x42] h43 ⟨fun x44 h44 =>
 @clM Try.prog 12 [x43, x44] h44 ⟨fun x45 h45 =>
 unM .not x45 h45 fun x46 h46 =>
 @wkM [x46] h46 ⟨J41⟩⟩⟩)
 (@clM Try.prog 9 [x42] h42 ⟨fun x47 h47 =>
 loadM Try.prog 40 (nthA s31 1) h47 fun x48 h48 =>
 @clM Try.prog 12 [x48, x47] h48 ⟨fun x49 h49 =>
 unM .not x49 h49 fun x50 h50 =>
 @wkM [x50] h50 ⟨J41⟩⟩⟩))⟩
 ⟨fun s41 h41 =>
 gdM (nthA s41 0)
 (retW ff h41 Q)
 (retW tt h41 Q)⟩)⟩)⟩⟩⟩⟩)⟩)⟩
theorem D_laws_FnExactValidMemory_eq (a0 a1 : AVal) (h : AHeap) (Q : KA) : adFn Try.prog ⟨fun i => bif Nat.beq i 8 then or_laws_FnExactValidMemory_8 else bif Nat.beq i 14 then or_laws_FnExactValidMemory_14 else bif Nat.beq i 16 then or_laws_FnExactValidMemory_16 else ⟨[], [], .nil⟩, fun i => bif Nat.beq i 9 then some [3, 2, 6] else bif Nat.beq i 15 then some [3, 8, 39] else bif Nat.beq i 17 then some [44] else none, fun _ => [], [2, 3]⟩ Try.f3 [a0, a1] h Q = D_laws_FnExactValidMemory a0 a1 h Q := by kernel_rfl
theorem D_laws_FnExactValidMemory_of {a0 a1 : AVal} {h : AHeap} {Q : KA} (hd : D_laws_FnExactValidMemory a0 a1 h Q) : callM Try.prog 3 [a0, a1] h Q := callM_of (fn := Try.f3) Try.func3 (Nat.le_of_ble_eq_true (by kernel_rfl)) ((D_laws_FnExactValidMemory_eq a0 a1 h Q).symm ▸ hd)
theorem fn_laws_FnExactValidMemory : fnT Try.prog 3 = true := by kernel_rfl
/- laws.FnExactCallOrder; J28: g0 w0 aP _42; J16: g0 w0 aP x0 _31 -/
def or_laws_FnExactCallOrder_10 : DR := ⟨[0, 0, 2, 5, 8], [0, 0, 2, 7, 15], (.one 1 (.or (.one 0 (.one 2 (.one 3 (.one 4 .nil)))) (.one 2 (.one 0 (.one 3 (.one 4 .nil))))))⟩
@[simp] theorem dr_laws_FnExactCallOrder_10 : drawnOK Try.prog (regOps Try.f4 10) or_laws_FnExactCallOrder_10 = True := eq_true ⟨by kernel_rfl, by kernel_rfl⟩
def D_laws_FnExactCallOrder (a0 : AVal) (h : AHeap) (Q : KA) : Prop :=
 boxFM a0 h fun x1 h1 =>
 loadM Try.prog 27 x1 h1 fun x2 h2 =>
 @clM Try.prog 5 [x2, (i64 1048576)] h2 ⟨fun x3 h3 =>
 binM Try.prog .lss 3 x3 (i64 0) h3 fun x4 h4 =>
 gdM x4
 (retW tt h4 Q)
 (loadM Try.prog 27 x1 h4 fun x5 h5 =>
 @clM Try.prog 8 [x5] h5 ⟨fun x6 h6 =>
 @clM Try.prog 13 [x6] h6 ⟨fun x7 h7 =>
 loadM Try.prog 27 x1 h7 fun x8 h8 =>
 @clM Try.prog 8 [x8] h8 ⟨fun x9 h9 =>
 allocM Try.prog 38 h9 fun x10 h10 =>
 storeM Try.prog 38 x10 x9 h10 fun x11 h11 =>
 loadM Try.prog 38 x10 h11 fun x12 h12 =>
 @clM Try.prog 14 [x12] h12 ⟨fun x13 h13 =>
 @clM Try.prog 15 [x13, x7] h13 ⟨fun x14 h14 =>
 unM .not x14 h14 fun x15 h15 =>
 gdM x15
 (retW ff h15 Q)
 (@jnM ⟨fun J16 =>
 And (drawnOK Try.prog (regOps Try.f4 10) or_laws_FnExactCallOrder_10) (loadM Try.prog 27 x1 h15 fun x17 h17 =>
 And (loadM Try.prog 38 x10 h17 fun x18 h18 =>
 @clM Try.prog 8 [x17] h18 ⟨fun x19 h19 =>
 @clM Try.prog 11 [x18, x19] h19 ⟨fun x20 h20 =>
 unM .not x20 h20 fun x21 h21 =>
 @wkM [x13, x7, x1, x10, x21] h21 ⟨J16⟩⟩⟩)
 (@clM Try.prog 8 [x17] h17 ⟨fun x22 h22 =>
 loadM Try.prog 38 x10 h22 fun x23 h23 =>
 @clM Try.prog 11 [x23, x22] h23 ⟨fun x24 h24 =>
 unM .not x24 h24 fun x25 h25 =>
 @wkM [x13, x7, x1, x10, x25] h25 ⟨J16⟩⟩⟩))⟩
 ⟨fun s16 h16 =>
 gdM (nthA s16 4)
 (retW ff h16 Q)
 (loadM Try.prog 38 (nthA s16 3) h16 fun x26 h26 =>
 @clM Try.prog 16 [x26, (i64 1)] h26 ⟨fun x27 h27 =>
 @jnM ⟨fun J28 =>
 binM Try.prog .lss 3 x27 (i64 0) h27 fun x29 h29 =>
 gdM x29
 (@wkM [(nthA s16 0), (nthA s16 1), (nthA s16 2), tt] h29 ⟨J28⟩)
 (@clM Try.prog 15 [(nthA s16 0), (nthA s16 1)] h29 ⟨fun x30 h30 =>
 unM .not x30 h30 fun x31 h31 =>
 @wkM [(nthA s16 0), (nthA s16 1), (nthA s16 2), x31] h31 ⟨J28⟩⟩)⟩
 ⟨fun s28 h28 =>
 gdM (nthA s28 3)
 (retW ff h28 Q)
 (@clM Try.prog 17 [(nthA s28 0), (i64 1)] h28 ⟨fun x32 h32 =>
 @clM Try.prog 18 [(nthA s28 0), (i64 1)] h32 ⟨fun x33 h33 =>
 binM Try.prog .lss 3 x33 (i64 0) h33 fun x34 h34 =>
 gdM x34
 (retW ff h34 Q)
 (binM Try.prog .neq 3 x33 x32 h34 fun x35 h35 =>
 gdM x35
 (retW ff h35 Q)
 (loadM Try.prog 27 (nthA s28 2) h35 fun x36 h36 =>
 @clM Try.prog 8 [x36] h36 ⟨fun x37 h37 =>
 @clM Try.prog 14 [x37] h37 ⟨fun x38 h38 =>
 @clM Try.prog 15 [x38, (nthA s28 1)] h38 ⟨fun x39 h39 =>
 unM .not x39 h39 fun x40 h40 =>
 gdM x40
 (retW ff h40 Q)
 (@clM Try.prog 18 [(nthA s28 0), (i64 1)] h40 ⟨fun x41 h41 =>
 binM Try.prog .lss 3 x41 (i64 0) h41 fun x42 h42 =>
 gdM x42
 (retW ff h42 Q)
 (binM Try.prog .neq 3 x41 x32 h42 fun x43 h43 =>
 gdM x43
 (retW ff h43 Q)
 (retW tt h43 Q))⟩)⟩⟩⟩))⟩⟩)⟩⟩)⟩)⟩⟩⟩⟩⟩)⟩
theorem D_laws_FnExactCallOrder_eq (a0 : AVal) (h : AHeap) (Q : KA) : adFn Try.prog ⟨fun i => bif Nat.beq i 10 then or_laws_FnExactCallOrder_10 else ⟨[], [], .nil⟩, fun i => bif Nat.beq i 11 then some [6, 4, 1, 5, 31] else bif Nat.beq i 15 then some [6, 4, 1, 42] else none, fun _ => [], [1]⟩ Try.f4 [a0] h Q = D_laws_FnExactCallOrder a0 h Q := by kernel_rfl
theorem D_laws_FnExactCallOrder_of {a0 : AVal} {h : AHeap} {Q : KA} (hd : D_laws_FnExactCallOrder a0 h Q) : callM Try.prog 4 [a0] h Q := callM_of (fn := Try.f4) Try.func4 (Nat.le_of_ble_eq_true (by kernel_rfl)) ((D_laws_FnExactCallOrder_eq a0 h Q).symm ▸ hd)
theorem fn_laws_FnExactCallOrder : fnT Try.prog 4 = true := by kernel_rfl
/- laws.szProgram -/
def D_laws_szProgram (a0 a1 : AVal) (h : AHeap) (Q : KA) : Prop :=
 boxFM a0 h fun x1 h1 =>
 fldAddrM Try.prog 27 x1 0 h1 fun x2 h2 =>
 loadM Try.prog 22 x2 h2 fun x3 h3 =>
 @clM Try.prog 19 [x3, a1] h3 ⟨fun x4 h4 =>
 binM Try.prog .lss 3 x4 (i64 0) h4 fun x5 h5 =>
 gdM x5
 (retW (i64 (-1)) h5 Q)
 (fldAddrM Try.prog 27 x1 1 h5 fun x6 h6 =>
 loadM Try.prog 23 x6 h6 fun x7 h7 =>
 @clM Try.prog 20 [x7, x4] h7 ⟨fun x8 h8 =>
 binM Try.prog .lss 3 x8 (i64 0) h8 fun x9 h9 =>
 gdM x9
 (retW (i64 (-1)) h9 Q)
 (fldAddrM Try.prog 27 x1 2 h9 fun x10 h10 =>
 loadM Try.prog 24 x10 h10 fun x11 h11 =>
 @clM Try.prog 21 [x11, x8] h11 ⟨fun x12 h12 =>
 binM Try.prog .lss 3 x12 (i64 0) h12 fun x13 h13 =>
 gdM x13
 (retW (i64 (-1)) h13 Q)
 (fldAddrM Try.prog 27 x1 3 h13 fun x14 h14 =>
 loadM Try.prog 25 x14 h14 fun x15 h15 =>
 @clM Try.prog 22 [x15, x12] h15 ⟨fun x16 h16 =>
 binM Try.prog .lss 3 x16 (i64 0) h16 fun x17 h17 =>
 gdM x17
 (retW (i64 (-1)) h17 Q)
 (retW x16 h17 Q)⟩)⟩)⟩)⟩
theorem D_laws_szProgram_eq (a0 a1 : AVal) (h : AHeap) (Q : KA) : adFn Try.prog ⟨fun _ => ⟨[], [], .nil⟩, fun _ => none, fun _ => [], [2]⟩ Try.f5 [a0, a1] h Q = D_laws_szProgram a0 a1 h Q := by kernel_rfl
theorem D_laws_szProgram_of {a0 a1 : AVal} {h : AHeap} {Q : KA} (hd : D_laws_szProgram a0 a1 h Q) : callM Try.prog 5 [a0, a1] h Q := callM_of (fn := Try.f5) Try.func5 (Nat.le_of_ble_eq_true (by kernel_rfl)) ((D_laws_szProgram_eq a0 a1 h Q).symm ▸ hd)
theorem fn_laws_szProgram : fnT Try.prog 5 = true := by kernel_rfl
/- laws.szMemory -/
def D_laws_szMemory (a0 a1 : AVal) (h : AHeap) (Q : KA) : Prop :=
 boxFM a0 h fun x1 h1 =>
 fldAddrM Try.prog 30 x1 0 h1 fun x2 h2 =>
 loadM Try.prog 28 x2 h2 fun x3 h3 =>
 @clM Try.prog 23 [x3, a1] h3 ⟨fun x4 h4 =>
 binM Try.prog .lss 3 x4 (i64 0) h4 fun x5 h5 =>
 gdM x5
 (retW (i64 (-1)) h5 Q)
 (fldAddrM Try.prog 30 x1 1 h5 fun x6 h6 =>
 loadM Try.prog 28 x6 h6 fun x7 h7 =>
 @clM Try.prog 23 [x7, x4] h7 ⟨fun x8 h8 =>
 binM Try.prog .lss 3 x8 (i64 0) h8 fun x9 h9 =>
 gdM x9
 (retW (i64 (-1)) h9 Q)
 (fldAddrM Try.prog 30 x1 2 h9 fun x10 h10 =>
 loadM Try.prog 28 x10 h10 fun x11 h11 =>
 @clM Try.prog 23 [x11, x8] h11 ⟨fun x12 h12 =>
 binM Try.prog .lss 3 x12 (i64 0) h12 fun x13 h13 =>
 gdM x13
 (retW (i64 (-1)) h13 Q)
 (retW x12 h13 Q)⟩)⟩)⟩
theorem D_laws_szMemory_eq (a0 a1 : AVal) (h : AHeap) (Q : KA) : adFn Try.prog ⟨fun _ => ⟨[], [], .nil⟩, fun _ => none, fun _ => [], [2]⟩ Try.f6 [a0, a1] h Q = D_laws_szMemory a0 a1 h Q := by kernel_rfl
theorem D_laws_szMemory_of {a0 a1 : AVal} {h : AHeap} {Q : KA} (hd : D_laws_szMemory a0 a1 h Q) : callM Try.prog 6 [a0, a1] h Q := callM_of (fn := Try.f6) Try.func6 (Nat.le_of_ble_eq_true (by kernel_rfl)) ((D_laws_szMemory_eq a0 a1 h Q).symm ▸ hd)
theorem fn_laws_szMemory : fnT Try.prog 6 = true := by kernel_rfl
/- spec.ValidMemory; J3: _4 -/
def or_spec_ValidMemory_1 : DR := ⟨[0, 1, 2, 6, 8, 24, 40, 8, 136, 264, 520, 1032, 2120, 4104, 8200, 16384, 49152, 16384, 147456, 278528, 540672, 1130496, 2113536, 6291456, 8388608, 25165824, 8388608, 75497472, 142606336, 276824064, 578813952, 1082130432, 4294967295], [0, 1, 3, 7, 15, 31, 63, 15, 143, 399, 911, 1935, 4095, 8191, 16383, 32767, 65535, 32767, 163839, 425983, 950271, 2097151, 4194303, 8388607, 16777215, 33554431, 16777215, 83886079, 218103807, 486539263, 1073741823, 2147483647, 4294967295], (.one 0 (.one 1 (.one 2 (.one 3 (.one 4 (.one 5 (.one 6 (.one 7 (.one 8 (.one 9 (.one 10 (.one 11 (.one 12 (.one 13 (.one 14 (.one 15 (.one 16 (.one 17 (.one 18 (.one 19 (.one 20 (.one 21 (.one 22 (.one 23 (.one 24 (.one 25 (.one 26 (.one 27 (.one 28 (.one 29 (.one 30 (.one 31 (.one 32 .nil)))))))))))))))))))))))))))))))))⟩
@[simp] theorem dr_spec_ValidMemory_1 : drawnOK Try.prog (regOps Try.f7 1) or_spec_ValidMemory_1 = True := eq_true ⟨by kernel_rfl, by kernel_rfl⟩
def D_spec_ValidMemory (a0 a1 : AVal) (h : AHeap) (Q : KA) : Prop :=
 boxFM a0 h fun x1 h1 =>
 boxFM a1 h1 fun x2 h2 =>
 @jnM ⟨fun J3 =>
 And (drawnOK Try.prog (regOps Try.f7 1) or_spec_ValidMemory_1) (loadM Try.prog 38 x1 h2 fun x4 h4 =>
 @clM Try.prog 24 [x4] h4 ⟨fun x5 h5 =>
 binM Try.prog .eql 2 x5 (i64 0) h5 fun x6 h6 =>
 gdM x6
 (fldAddrM Try.prog 40 x2 0 h6 fun x7 h7 =>
 loadM Try.prog 28 x7 h7 fun x8 h8 =>
 lenM Try.prog 28 x8 h8 fun x9 h9 =>
 fldAddrM Try.prog 38 x1 0 h9 fun x10 h10 =>
 loadM Try.prog 22 x10 h10 fun x11 h11 =>
 ixAddrM Try.prog 22 x11 (i64 0) h11 fun x12 h12 =>
 loadM Try.prog 45 x12 h12 fun x13 h13 =>
 lenM Try.prog 45 x13 h13 fun x14 h14 =>
 binM Try.prog .eql 3 x9 x14 h14 fun x15 h15 =>
 gdM x15
 (fldAddrM Try.prog 40 x2 1 h15 fun x16 h16 =>
 loadM Try.prog 28 x16 h16 fun x17 h17 =>
 fldAddrM Try.prog 38 x1 0 h17 fun x18 h18 =>
 loadM Try.prog 22 x18 h18 fun x19 h19 =>
 ixAddrM Try.prog 22 x19 (i64 1) h19 fun x20 h20 =>
 loadM Try.prog 45 x20 h20 fun x21 h21 =>
 @clM Try.prog 25 [x17, x21] h21 ⟨fun x22 h22 =>
 gdM x22
 (fldAddrM Try.prog 40 x2 2 h22 fun x23 h23 =>
 loadM Try.prog 28 x23 h23 fun x24 h24 =>
 fldAddrM Try.prog 38 x1 0 h24 fun x25 h25 =>
 loadM Try.prog 22 x25 h25 fun x26 h26 =>
 ixAddrM Try.prog 22 x26 (i64 2) h26 fun x27 h27 =>
 loadM Try.prog 45 x27 h27 fun x28 h28 =>
 @clM Try.prog 25 [x24, x28] h28 ⟨fun x29 h29 =>
 @wkM [x29] h29 ⟨J3⟩⟩)
 (@wkM [ff] h22 ⟨J3⟩)⟩)
 (@wkM [ff] h15 ⟨J3⟩))
 (@wkM [ff] h6 ⟨J3⟩)⟩)⟩
 ⟨fun s3 h3 =>
 retW (nthA s3 0) h3 Q⟩
theorem D_spec_ValidMemory_eq (a0 a1 : AVal) (h : AHeap) (Q : KA) : adFn Try.prog ⟨fun i => bif Nat.beq i 1 then or_spec_ValidMemory_1 else ⟨[], [], .nil⟩, fun i => bif Nat.beq i 0 then some [4] else none, fun _ => [], [2, 3]⟩ Try.f7 [a0, a1] h Q = D_spec_ValidMemory a0 a1 h Q := by kernel_rfl
theorem D_spec_ValidMemory_of {a0 a1 : AVal} {h : AHeap} {Q : KA} (hd : D_spec_ValidMemory a0 a1 h Q) : callM Try.prog 7 [a0, a1] h Q := callM_of (fn := Try.f7) Try.func7 (Nat.le_of_ble_eq_true (by kernel_rfl)) ((D_spec_ValidMemory_eq a0 a1 h Q).symm ▸ hd)
theorem fn_spec_ValidMemory : fnT Try.prog 7 = true := by kernel_rfl
/- laws.toProgram -/
def D_laws_toProgram (a0 : AVal) (h : AHeap) (Q : KA) : Prop :=
 boxFM a0 h fun x1 h1 =>
 allocM Try.prog 38 h1 fun x2 h2 =>
 allocM Try.prog 38 h2 fun x3 h3 =>
 fldAddrM Try.prog 27 x1 0 h3 fun x4 h4 =>
 loadM Try.prog 22 x4 h4 fun x5 h5 =>
 @clM Try.prog 26 [x5] h5 ⟨fun x6 h6 =>
 fldAddrM Try.prog 38 x3 0 h6 fun x7 h7 =>
 storeM Try.prog 22 x7 x6 h7 fun x8 h8 =>
 fldAddrM Try.prog 27 x1 1 h8 fun x9 h9 =>
 loadM Try.prog 23 x9 h9 fun x10 h10 =>
 @clM Try.prog 27 [x10] h10 ⟨fun x11 h11 =>
 fldAddrM Try.prog 38 x3 1 h11 fun x12 h12 =>
 storeM Try.prog 34 x12 x11 h12 fun x13 h13 =>
 fldAddrM Try.prog 27 x1 2 h13 fun x14 h14 =>
 loadM Try.prog 24 x14 h14 fun x15 h15 =>
 @clM Try.prog 28 [x15] h15 ⟨fun x16 h16 =>
 fldAddrM Try.prog 38 x3 2 h16 fun x17 h17 =>
 storeM Try.prog 35 x17 x16 h17 fun x18 h18 =>
 fldAddrM Try.prog 27 x1 3 h18 fun x19 h19 =>
 loadM Try.prog 25 x19 h19 fun x20 h20 =>
 @clM Try.prog 29 [x20] h20 ⟨fun x21 h21 =>
 fldAddrM Try.prog 38 x3 3 h21 fun x22 h22 =>
 storeM Try.prog 36 x22 x21 h22 fun x23 h23 =>
 loadM Try.prog 38 x3 h23 fun x24 h24 =>
 storeM Try.prog 38 x2 x24 h24 fun x25 h25 =>
 loadM Try.prog 38 x2 h25 fun x26 h26 =>
 retW x26 h26 Q⟩⟩⟩⟩
theorem D_laws_toProgram_eq (a0 : AVal) (h : AHeap) (Q : KA) : adFn Try.prog ⟨fun _ => ⟨[], [], .nil⟩, fun _ => none, fun _ => [], [1]⟩ Try.f8 [a0] h Q = D_laws_toProgram a0 h Q := by kernel_rfl
theorem D_laws_toProgram_of {a0 : AVal} {h : AHeap} {Q : KA} (hd : D_laws_toProgram a0 h Q) : callM Try.prog 8 [a0] h Q := callM_of (fn := Try.f8) Try.func8 (Nat.le_of_ble_eq_true (by kernel_rfl)) ((D_laws_toProgram_eq a0 h Q).symm ▸ hd)
theorem fn_laws_toProgram : fnT Try.prog 8 = true := by kernel_rfl
/- laws.toMemory -/
def D_laws_toMemory (a0 : AVal) (h : AHeap) (Q : KA) : Prop :=
 boxFM a0 h fun x1 h1 =>
 allocM Try.prog 40 h1 fun x2 h2 =>
 allocM Try.prog 40 h2 fun x3 h3 =>
 fldAddrM Try.prog 30 x1 0 h3 fun x4 h4 =>
 loadM Try.prog 28 x4 h4 fun x5 h5 =>
 @clM Try.prog 30 [x5] h5 ⟨fun x6 h6 =>
 fldAddrM Try.prog 40 x3 0 h6 fun x7 h7 =>
 storeM Try.prog 28 x7 x6 h7 fun x8 h8 =>
 fldAddrM Try.prog 30 x1 1 h8 fun x9 h9 =>
 loadM Try.prog 28 x9 h9 fun x10 h10 =>
 @clM Try.prog 30 [x10] h10 ⟨fun x11 h11 =>
 fldAddrM Try.prog 40 x3 1 h11 fun x12 h12 =>
 storeM Try.prog 28 x12 x11 h12 fun x13 h13 =>
 fldAddrM Try.prog 30 x1 2 h13 fun x14 h14 =>
 loadM Try.prog 28 x14 h14 fun x15 h15 =>
 @clM Try.prog 30 [x15] h15 ⟨fun x16 h16 =>
 fldAddrM Try.prog 40 x3 2 h16 fun x17 h17 =>
 storeM Try.prog 28 x17 x16 h17 fun x18 h18 =>
 loadM Try.prog 40 x3 h18 fun x19 h19 =>
 storeM Try.prog 40 x2 x19 h19 fun x20 h20 =>
 loadM Try.prog 40 x2 h20 fun x21 h21 =>
 retW x21 h21 Q⟩⟩⟩
theorem D_laws_toMemory_eq (a0 : AVal) (h : AHeap) (Q : KA) : adFn Try.prog ⟨fun _ => ⟨[], [], .nil⟩, fun _ => none, fun _ => [], [1]⟩ Try.f9 [a0] h Q = D_laws_toMemory a0 h Q := by kernel_rfl
theorem D_laws_toMemory_of {a0 : AVal} {h : AHeap} {Q : KA} (hd : D_laws_toMemory a0 h Q) : callM Try.prog 9 [a0] h Q := callM_of (fn := Try.f9) Try.func9 (Nat.le_of_ble_eq_true (by kernel_rfl)) ((D_laws_toMemory_eq a0 h Q).symm ▸ hd)
theorem fn_laws_toMemory : fnT Try.prog 9 = true := by kernel_rfl
/- impl.ValidMemory; J3: _4 -/
def or_impl_ValidMemory_1 : DR := ⟨[0, 1, 3, 4, 12, 20, 4, 68, 132, 260, 516, 1060, 2052, 4100, 8192, 24576, 40960, 8192, 139264, 270336, 532480, 1056768, 2170880, 4202496, 8396800, 16777216, 50331648, 83886080, 16777216, 285212672, 553648128, 1090519040, 2164260864, 4445962240, 8606711808, 17196646400, 34359738368, 103079215104, 34359738368, 309237645312, 584115552256, 1133871366144, 2370821947392, 4432406249472, 13194139533312, 17592186044416, 52776558133248, 17592186044416, 158329674399744, 299067162755072, 580542139465728, 1213860837064704, 2269391999729664, 9007199254740991], [0, 1, 3, 7, 15, 31, 7, 71, 199, 455, 967, 2047, 4095, 8191, 16383, 32767, 65535, 16383, 147455, 409599, 933887, 1982463, 4194303, 8388607, 16777215, 33554431, 67108863, 134217727, 33554431, 301989887, 838860799, 1912602623, 4060086271, 8589934591, 17179869183, 34359738367, 68719476735, 137438953471, 68719476735, 343597383679, 893353197567, 1992864825343, 4398046511103, 8796093022207, 17592186044415, 35184372088831, 70368744177663, 35184372088831, 175921860444159, 457396837154815, 1020346790576127, 2251799813685247, 4503599627370495, 9007199254740991], (.one 0 (.one 1 (.one 2 (.one 3 (.one 4 (.one 5 (.one 6 (.one 7 (.one 8 (.one 9 (.one 10 (.one 11 (.one 12 (.one 13 (.one 14 (.one 15 (.one 16 (.one 17 (.one 18 (.one 19 (.one 20 (.one 21 (.one 22 (.one 23 (.one 24 (.one 25 (.one 26 (.one 27 (.one 28 (.one 29 (.one 30 (.one 31 (.one 32 (.one 33 (.one 34 (.one 35 (.one 36 (.one 37 (.one 38 (.one 39 (.one 40 (.one 41 (.one 42 (.one 43 (.one 44 (.one 45 (.one 46 (.one 47 (.one 48 (.one 49 (.one 50 (.one 51 (.one 52 (.one 53 .nil))))))))))))))))))))))))))))))))))))))))))))))))))))))⟩
@[simp] theorem dr_impl_ValidMemory_1 : drawnOK Try.prog (regOps Try.f10 1) or_impl_ValidMemory_1 = True := eq_true ⟨by kernel_rfl, by kernel_rfl⟩
def D_impl_ValidMemory (a0 a1 : AVal) (h : AHeap) (Q : KA) : Prop :=
 boxFM a0 h fun x1 h1 =>
 boxFM a1 h1 fun x2 h2 =>
 @jnM ⟨fun J3 =>
 And (drawnOK Try.prog (regOps Try.f10 1) or_impl_ValidMemory_1) (@clM Try.prog 31 [x1] h2 ⟨fun x4 h4 =>
 nilM Try.prog .eql 64 x4 h4 fun x5 h5 =>
 gdM x5
 (fldAddrM Try.prog 40 x2 0 h5 fun x6 h6 =>
 loadM Try.prog 28 x6 h6 fun x7 h7 =>
 lenM Try.prog 28 x7 h7 fun x8 h8 =>
 fldAddrM Try.prog 38 x1 0 h8 fun x9 h9 =>
 loadM Try.prog 22 x9 h9 fun x10 h10 =>
 ixAddrM Try.prog 22 x10 (i64 0) h10 fun x11 h11 =>
 loadM Try.prog 45 x11 h11 fun x12 h12 =>
 lenM Try.prog 45 x12 h12 fun x13 h13 =>
 binM Try.prog .eql 3 x8 x13 h13 fun x14 h14 =>
 gdM x14
 (fldAddrM Try.prog 40 x2 1 h14 fun x15 h15 =>
 loadM Try.prog 28 x15 h15 fun x16 h16 =>
 lenM Try.prog 28 x16 h16 fun x17 h17 =>
 fldAddrM Try.prog 38 x1 0 h17 fun x18 h18 =>
 loadM Try.prog 22 x18 h18 fun x19 h19 =>
 ixAddrM Try.prog 22 x19 (i64 1) h19 fun x20 h20 =>
 loadM Try.prog 45 x20 h20 fun x21 h21 =>
 lenM Try.prog 45 x21 h21 fun x22 h22 =>
 binM Try.prog .eql 3 x17 x22 h22 fun x23 h23 =>
 gdM x23
 (fldAddrM Try.prog 40 x2 2 h23 fun x24 h24 =>
 loadM Try.prog 28 x24 h24 fun x25 h25 =>
 lenM Try.prog 28 x25 h25 fun x26 h26 =>
 fldAddrM Try.prog 38 x1 0 h26 fun x27 h27 =>
 loadM Try.prog 22 x27 h27 fun x28 h28 =>
 ixAddrM Try.prog 22 x28 (i64 2) h28 fun x29 h29 =>
 loadM Try.prog 45 x29 h29 fun x30 h30 =>
 lenM Try.prog 45 x30 h30 fun x31 h31 =>
 binM Try.prog .eql 3 x26 x31 h31 fun x32 h32 =>
 gdM x32
 (fldAddrM Try.prog 40 x2 1 h32 fun x33 h33 =>
 loadM Try.prog 28 x33 h33 fun x34 h34 =>
 fldAddrM Try.prog 38 x1 0 h34 fun x35 h35 =>
 loadM Try.prog 22 x35 h35 fun x36 h36 =>
 ixAddrM Try.prog 22 x36 (i64 1) h36 fun x37 h37 =>
 loadM Try.prog 45 x37 h37 fun x38 h38 =>
 @clM Try.prog 32 [x34, x38] h38 ⟨fun x39 h39 =>
 gdM x39
 (fldAddrM Try.prog 40 x2 2 h39 fun x40 h40 =>
 loadM Try.prog 28 x40 h40 fun x41 h41 =>
 fldAddrM Try.prog 38 x1 0 h41 fun x42 h42 =>
 loadM Try.prog 22 x42 h42 fun x43 h43 =>
 ixAddrM Try.prog 22 x43 (i64 2) h43 fun x44 h44 =>
 loadM Try.prog 45 x44 h44 fun x45 h45 =>
 @clM Try.prog 32 [x41, x45] h45 ⟨fun x46 h46 =>
 @wkM [x46] h46 ⟨J3⟩⟩)
 (@wkM [ff] h39 ⟨J3⟩)⟩)
 (@wkM [ff] h32 ⟨J3⟩))
 (@wkM [ff] h23 ⟨J3⟩))
 (@wkM [ff] h14 ⟨J3⟩))
 (@wkM [ff] h5 ⟨J3⟩)⟩)⟩
 ⟨fun s3 h3 =>
 retW (nthA s3 0) h3 Q⟩
theorem D_impl_ValidMemory_eq (a0 a1 : AVal) (h : AHeap) (Q : KA) : adFn Try.prog ⟨fun i => bif Nat.beq i 1 then or_impl_ValidMemory_1 else ⟨[], [], .nil⟩, fun i => bif Nat.beq i 0 then some [4] else none, fun _ => [], [2, 3]⟩ Try.f10 [a0, a1] h Q = D_impl_ValidMemory a0 a1 h Q := by kernel_rfl
theorem D_impl_ValidMemory_of {a0 a1 : AVal} {h : AHeap} {Q : KA} (hd : D_impl_ValidMemory a0 a1 h Q) : callM Try.prog 10 [a0, a1] h Q := callM_of (fn := Try.f10) Try.func10 (Nat.le_of_ble_eq_true (by kernel_rfl)) ((D_impl_ValidMemory_eq a0 a1 h Q).symm ▸ hd)
theorem fn_impl_ValidMemory : fnT Try.prog 10 = true := by kernel_rfl
/- laws.eqProgram -/
def D_laws_eqProgram (a0 a1 : AVal) (h : AHeap) (Q : KA) : Prop :=
 boxFM a0 h fun x1 h1 =>
 boxFM a1 h1 fun x2 h2 =>
 fldAddrM Try.prog 38 x1 0 h2 fun x3 h3 =>
 loadM Try.prog 22 x3 h3 fun x4 h4 =>
 fldAddrM Try.prog 38 x2 0 h4 fun x5 h5 =>
 loadM Try.prog 22 x5 h5 fun x6 h6 =>
 @clM Try.prog 33 [x4, x6] h6 ⟨fun x7 h7 =>
 unM .not x7 h7 fun x8 h8 =>
 gdM x8
 (retW ff h8 Q)
 (fldAddrM Try.prog 38 x1 1 h8 fun x9 h9 =>
 loadM Try.prog 34 x9 h9 fun x10 h10 =>
 fldAddrM Try.prog 38 x2 1 h10 fun x11 h11 =>
 loadM Try.prog 34 x11 h11 fun x12 h12 =>
 @clM Try.prog 34 [x10, x12] h12 ⟨fun x13 h13 =>
 unM .not x13 h13 fun x14 h14 =>
 gdM x14
 (retW ff h14 Q)
 (fldAddrM Try.prog 38 x1 2 h14 fun x15 h15 =>
 loadM Try.prog 35 x15 h15 fun x16 h16 =>
 fldAddrM Try.prog 38 x2 2 h16 fun x17 h17 =>
 loadM Try.prog 35 x17 h17 fun x18 h18 =>
 @clM Try.prog 35 [x16, x18] h18 ⟨fun x19 h19 =>
 unM .not x19 h19 fun x20 h20 =>
 gdM x20
 (retW ff h20 Q)
 (fldAddrM Try.prog 38 x1 3 h20 fun x21 h21 =>
 loadM Try.prog 36 x21 h21 fun x22 h22 =>
 fldAddrM Try.prog 38 x2 3 h22 fun x23 h23 =>
 loadM Try.prog 36 x23 h23 fun x24 h24 =>
 @clM Try.prog 36 [x22, x24] h24 ⟨fun x25 h25 =>
 unM .not x25 h25 fun x26 h26 =>
 gdM x26
 (retW ff h26 Q)
 (retW tt h26 Q)⟩)⟩)⟩)⟩
theorem D_laws_eqProgram_eq (a0 a1 : AVal) (h : AHeap) (Q : KA) : adFn Try.prog ⟨fun _ => ⟨[], [], .nil⟩, fun _ => none, fun _ => [], [2, 3]⟩ Try.f11 [a0, a1] h Q = D_laws_eqProgram a0 a1 h Q := by kernel_rfl
theorem D_laws_eqProgram_of {a0 a1 : AVal} {h : AHeap} {Q : KA} (hd : D_laws_eqProgram a0 a1 h Q) : callM Try.prog 11 [a0, a1] h Q := callM_of (fn := Try.f11) Try.func11 (Nat.le_of_ble_eq_true (by kernel_rfl)) ((D_laws_eqProgram_eq a0 a1 h Q).symm ▸ hd)
theorem fn_laws_eqProgram : fnT Try.prog 11 = true := by kernel_rfl
/- laws.eqMemory -/
def D_laws_eqMemory (a0 a1 : AVal) (h : AHeap) (Q : KA) : Prop :=
 boxFM a0 h fun x1 h1 =>
 boxFM a1 h1 fun x2 h2 =>
 fldAddrM Try.prog 40 x1 0 h2 fun x3 h3 =>
 loadM Try.prog 28 x3 h3 fun x4 h4 =>
 fldAddrM Try.prog 40 x2 0 h4 fun x5 h5 =>
 loadM Try.prog 28 x5 h5 fun x6 h6 =>
 @clM Try.prog 37 [x4, x6] h6 ⟨fun x7 h7 =>
 unM .not x7 h7 fun x8 h8 =>
 gdM x8
 (retW ff h8 Q)
 (fldAddrM Try.prog 40 x1 1 h8 fun x9 h9 =>
 loadM Try.prog 28 x9 h9 fun x10 h10 =>
 fldAddrM Try.prog 40 x2 1 h10 fun x11 h11 =>
 loadM Try.prog 28 x11 h11 fun x12 h12 =>
 @clM Try.prog 37 [x10, x12] h12 ⟨fun x13 h13 =>
 unM .not x13 h13 fun x14 h14 =>
 gdM x14
 (retW ff h14 Q)
 (fldAddrM Try.prog 40 x1 2 h14 fun x15 h15 =>
 loadM Try.prog 28 x15 h15 fun x16 h16 =>
 fldAddrM Try.prog 40 x2 2 h16 fun x17 h17 =>
 loadM Try.prog 28 x17 h17 fun x18 h18 =>
 @clM Try.prog 37 [x16, x18] h18 ⟨fun x19 h19 =>
 unM .not x19 h19 fun x20 h20 =>
 gdM x20
 (retW ff h20 Q)
 (retW tt h20 Q)⟩)⟩)⟩
theorem D_laws_eqMemory_eq (a0 a1 : AVal) (h : AHeap) (Q : KA) : adFn Try.prog ⟨fun _ => ⟨[], [], .nil⟩, fun _ => none, fun _ => [], [2, 3]⟩ Try.f12 [a0, a1] h Q = D_laws_eqMemory a0 a1 h Q := by kernel_rfl
theorem D_laws_eqMemory_of {a0 a1 : AVal} {h : AHeap} {Q : KA} (hd : D_laws_eqMemory a0 a1 h Q) : callM Try.prog 12 [a0, a1] h Q := callM_of (fn := Try.f12) Try.func12 (Nat.le_of_ble_eq_true (by kernel_rfl)) ((D_laws_eqMemory_eq a0 a1 h Q).symm ▸ hd)
theorem fn_laws_eqMemory : fnT Try.prog 12 = true := by kernel_rfl
/- spec.CallOrder; J10: out done p n; J14: done p n next out i; J20: done p n next out i ready k; J28: done p n next out i ready k; J16: done p n next out i -/
def D_spec_CallOrder (a0 : AVal) (h : AHeap) (Q : KA) : Prop :=
 boxFM a0 h fun x1 h1 =>
 buildSliceM Try.prog 45 0 [] h1 fun x2 h2 =>
 loadM Try.prog 38 x1 h2 fun x3 h3 =>
 @clM Try.prog 24 [x3] h3 ⟨fun x4 h4 =>
 binM Try.prog .neq 2 x4 (i64 0) h4 fun x5 h5 =>
 gdM x5
 (retW x2 h5 Q)
 (fldAddrM Try.prog 38 x1 2 h5 fun x6 h6 =>
 loadM Try.prog 35 x6 h6 fun x7 h7 =>
 lenM Try.prog 35 x7 h7 fun x8 h8 =>
 makeM Try.prog 71 x8 x8 h8 fun x9 h9 =>
 @lpM [x2, x9, x1, x8] h9 ⟨fun s10 h10 J10 =>
 lenM Try.prog 45 (nthA s10 0) h10 fun x11 h11 =>
 binM Try.prog .lss 3 x11 (nthA s10 3) h11 fun x12 h12 =>
 gdM x12
 (binM Try.prog .sub 3 (nthA s10 3) (i64 1) h12 fun x13 h13 =>
 @lpM [(nthA s10 1), (nthA s10 2), (nthA s10 3), (i64 (-1)), (nthA s10 0), x13] h13 ⟨fun s14 h14 J14 =>
 binM Try.prog .geq 3 (nthA s14 5) (i64 0) h14 fun x15 h15 =>
 gdM x15
 (@jnM ⟨fun J16 =>
 ixAddrM Try.prog 71 (nthA s14 0) (nthA s14 5) h15 fun x17 h17 =>
 loadM Try.prog 4 x17 h17 fun x18 h18 =>
 unM .not x18 h18 fun x19 h19 =>
 @lpM [(nthA s14 0), (nthA s14 1), (nthA s14 2), (nthA s14 3), (nthA s14 4), (nthA s14 5), x19, (i64 0)] h19 ⟨fun s20 h20 J20 =>
 fldAddrM Try.prog 38 (nthA s20 1) 2 h20 fun x21 h21 =>
 loadM Try.prog 35 x21 h21 fun x22 h22 =>
 ixAddrM Try.prog 35 x22 (nthA s20 5) h22 fun x23 h23 =>
 fldAddrM Try.prog 74 x23 3 h23 fun x24 h24 =>
 loadM Try.prog 72 x24 h24 fun x25 h25 =>
 lenM Try.prog 72 x25 h25 fun x26 h26 =>
 binM Try.prog .lss 3 (nthA s20 7) x26 h26 fun x27 h27 =>
 gdM x27
 (gdM (nthA s20 6)
 (@jnM ⟨fun J28 =>
 fldAddrM Try.prog 38 (nthA s20 1) 2 h27 fun x29 h29 =>
 loadM Try.prog 35 x29 h29 fun x30 h30 =>
 ixAddrM Try.prog 35 x30 (nthA s20 5) h30 fun x31 h31 =>
 fldAddrM Try.prog 74 x31 3 h31 fun x32 h32 =>
 loadM Try.prog 72 x32 h32 fun x33 h33 =>
 ixAddrM Try.prog 72 x33 (nthA s20 7) h33 fun x34 h34 =>
 loadM Try.prog 76 x34 h34 fun x35 h35 =>
 allocM Try.prog 76 h35 fun x36 h36 =>
 storeM Try.prog 76 x36 x35 h36 fun x37 h37 =>
 fldAddrM Try.prog 76 x36 0 h37 fun x38 h38 =>
 loadM Try.prog 2 x38 h38 fun x39 h39 =>
 binM Try.prog .neq 2 x39 (i64 28) h39 fun x40 h40 =>
 gdM x40
 (@wkM [(nthA s20 0), (nthA s20 1), (nthA s20 2), (nthA s20 3), (nthA s20 4), (nthA s20 5), tt, (nthA s20 7)] h40 ⟨J28⟩)
 (fldAddrM Try.prog 76 x36 1 h40 fun x41 h41 =>
 loadM Try.prog 2 x41 h41 fun x42 h42 =>
 ixAddrM Try.prog 71 (nthA s20 0) x42 h42 fun x43 h43 =>
 loadM Try.prog 4 x43 h43 fun x44 h44 =>
 @wkM [(nthA s20 0), (nthA s20 1), (nthA s20 2), (nthA s20 3), (nthA s20 4), (nthA s20 5), x44, (nthA s20 7)] h44 ⟨J28⟩)⟩
 ⟨fun s28 h28 =>
 binM Try.prog .add 3 (nthA s28 7) (i64 1) h28 fun x45 h45 =>
 @wkM [(nthA s28 0), (nthA s28 1), (nthA s28 2), (nthA s28 3), (nthA s28 4), (nthA s28 5), (nthA s28 6), x45] h45 ⟨J20⟩⟩)
 (gdM (nthA s20 6)
 (@wkM [(nthA s20 0), (nthA s20 1), (nthA s20 2), (nthA s20 5), (nthA s20 4), (nthA s20 5)] h27 ⟨J16⟩)
 (@wkM [(nthA s20 0), (nthA s20 1), (nthA s20 2), (nthA s20 3), (nthA s20 4), (nthA s20 5)] h27 ⟨J16⟩)))
 (gdM (nthA s20 6)
 (@wkM [(nthA s20 0), (nthA s20 1), (nthA s20 2), (nthA s20 5), (nthA s20 4), (nthA s20 5)] h27 ⟨J16⟩)
 (@wkM [(nthA s20 0), (nthA s20 1), (nthA s20 2), (nthA s20 3), (nthA s20 4), (nthA s20 5)] h27 ⟨J16⟩))⟩⟩
 ⟨fun s16 h16 =>
 binM Try.prog .sub 3 (nthA s16 5) (i64 1) h16 fun x46 h46 =>
 @wkM [(nthA s16 0), (nthA s16 1), (nthA s16 2), (nthA s16 3), (nthA s16 4), x46] h46 ⟨J14⟩⟩)
 (binM Try.prog .lss 3 (nthA s14 3) (i64 0) h15 fun x47 h47 =>
 gdM x47
 (buildSliceM Try.prog 45 0 [] h47 fun x48 h48 =>
 retW x48 h48 Q)
 (ixAddrM Try.prog 71 (nthA s14 0) (nthA s14 3) h47 fun x49 h49 =>
 storeM Try.prog 4 x49 tt h49 fun x50 h50 =>
 buildSliceM Try.prog 45 1 [(0, (nthA s14 3))] h50 fun x51 h51 =>
 appendM Try.prog 45 45 (nthA s14 4) x51 h51 fun x52 h52 =>
 @wkM [x52, (nthA s14 0), (nthA s14 1), (nthA s14 2)] h52 ⟨J10⟩))⟩)
 (retW (nthA s10 0) h12 Q)⟩)⟩
theorem D_spec_CallOrder_eq (a0 : AVal) (h : AHeap) (Q : KA) : adFn Try.prog ⟨fun _ => ⟨[], [], .nil⟩, fun i => bif Nat.beq i 10 then some [5, 1, 4, 6, 3, 7] else bif Nat.beq i 14 then some [5, 1, 4, 6, 3, 7, 8, 9] else none, fun i => bif Nat.beq i 6 then [3, 5, 1, 4] else bif Nat.beq i 9 then [5, 1, 4, 6, 3, 7] else bif Nat.beq i 13 then [5, 1, 4, 6, 3, 7, 8, 9] else [], [1]⟩ Try.f13 [a0] h Q = D_spec_CallOrder a0 h Q := by kernel_rfl
theorem D_spec_CallOrder_of {a0 : AVal} {h : AHeap} {Q : KA} (hd : D_spec_CallOrder a0 h Q) : callM Try.prog 13 [a0] h Q := callM_of (fn := Try.f13) Try.func13 (Nat.le_of_ble_eq_true (by kernel_rfl)) ((D_spec_CallOrder_eq a0 h Q).symm ▸ hd)
theorem fn_spec_CallOrder : fnT Try.prog 13 = true := by kernel_rfl
/- impl.CallOrder; J9: out placed p n; J12: out placed p n found i; J24: out placed p n found i ready _43 _41 _42; J26: out placed p n found i ready _41 _42 _43; J15: out placed p n found i -/
def D_impl_CallOrder (a0 : AVal) (h : AHeap) (Q : KA) : Prop :=
 boxFM a0 h fun x1 h1 =>
 @clM Try.prog 31 [x1] h1 ⟨fun x2 h2 =>
 nilM Try.prog .neq 64 x2 h2 fun x3 h3 =>
 gdM x3
 (retW nilS h3 Q)
 (fldAddrM Try.prog 38 x1 2 h3 fun x4 h4 =>
 loadM Try.prog 35 x4 h4 fun x5 h5 =>
 lenM Try.prog 35 x5 h5 fun x6 h6 =>
 makeM Try.prog 71 x6 x6 h6 fun x7 h7 =>
 buildSliceM Try.prog 45 0 [] h7 fun x8 h8 =>
 @lpM [x8, x7, x1, x6] h8 ⟨fun s9 h9 J9 =>
 lenM Try.prog 45 (nthA s9 0) h9 fun x10 h10 =>
 binM Try.prog .lss 3 x10 (nthA s9 3) h10 fun x11 h11 =>
 gdM x11
 (@lpM [(nthA s9 0), (nthA s9 1), (nthA s9 2), (nthA s9 3), ff, (i64 0)] h11 ⟨fun s12 h12 J12 =>
 binM Try.prog .lss 3 (nthA s12 5) (nthA s12 3) h12 fun x13 h13 =>
 gdM x13
 (unM .not (nthA s12 4) h13 fun x14 h14 =>
 gdM x14
 (@jnM ⟨fun J15 =>
 ixAddrM Try.prog 71 (nthA s12 1) (nthA s12 5) h14 fun x16 h16 =>
 loadM Try.prog 4 x16 h16 fun x17 h17 =>
 gdM x17
 (@wkM [(nthA s12 0), (nthA s12 1), (nthA s12 2), (nthA s12 3), (nthA s12 4), (nthA s12 5)] h17 ⟨J15⟩)
 (fldAddrM Try.prog 38 (nthA s12 2) 2 h17 fun x18 h18 =>
 loadM Try.prog 35 x18 h18 fun x19 h19 =>
 ixAddrM Try.prog 35 x19 (nthA s12 5) h19 fun x20 h20 =>
 fldAddrM Try.prog 74 x20 3 h20 fun x21 h21 =>
 loadM Try.prog 72 x21 h21 fun x22 h22 =>
 lenM Try.prog 72 x22 h22 fun x23 h23 =>
 @lpM [(nthA s12 0), (nthA s12 1), (nthA s12 2), (nthA s12 3), (nthA s12 4), (nthA s12 5), tt, (i64 0), x22, x23] h23 ⟨fun s24 h24 J24 =>
 binM Try.prog .lss 3 (nthA s24 7) (nthA s24 9) h24 fun x25 h25 =>
 gdM x25
 (@jnM ⟨fun J26 =>
 ixAddrM Try.prog 72 (nthA s24 8) (nthA s24 7) h25 fun x27 h27 =>
 loadM Try.prog 76 x27 h27 fun x28 h28 =>
 allocM Try.prog 76 h28 fun x29 h29 =>
 storeM Try.prog 76 x29 x28 h29 fun x30 h30 =>
 gdM (nthA s24 6)
 (fldAddrM Try.prog 76 x29 0 h30 fun x31 h31 =>
 loadM Try.prog 2 x31 h31 fun x32 h32 =>
 binM Try.prog .neq 2 x32 (i64 28) h32 fun x33 h33 =>
 gdM x33
 (@wkM [(nthA s24 0), (nthA s24 1), (nthA s24 2), (nthA s24 3), (nthA s24 4), (nthA s24 5), tt, (nthA s24 8), (nthA s24 9), (nthA s24 7)] h33 ⟨J26⟩)
 (fldAddrM Try.prog 76 x29 1 h33 fun x34 h34 =>
 loadM Try.prog 2 x34 h34 fun x35 h35 =>
 ixAddrM Try.prog 71 (nthA s24 1) x35 h35 fun x36 h36 =>
 loadM Try.prog 4 x36 h36 fun x37 h37 =>
 @wkM [(nthA s24 0), (nthA s24 1), (nthA s24 2), (nthA s24 3), (nthA s24 4), (nthA s24 5), x37, (nthA s24 8), (nthA s24 9), (nthA s24 7)] h37 ⟨J26⟩))
 (@wkM [(nthA s24 0), (nthA s24 1), (nthA s24 2), (nthA s24 3), (nthA s24 4), (nthA s24 5), ff, (nthA s24 8), (nthA s24 9), (nthA s24 7)] h30 ⟨J26⟩)⟩
 ⟨fun s26 h26 =>
 binM Try.prog .add 3 (nthA s26 9) (i64 1) h26 fun x38 h38 =>
 @wkM [(nthA s26 0), (nthA s26 1), (nthA s26 2), (nthA s26 3), (nthA s26 4), (nthA s26 5), (nthA s26 6), x38, (nthA s26 7), (nthA s26 8)] h38 ⟨J24⟩⟩)
 (gdM (nthA s24 6)
 (ixAddrM Try.prog 71 (nthA s24 1) (nthA s24 5) h25 fun x39 h39 =>
 storeM Try.prog 4 x39 tt h39 fun x40 h40 =>
 buildSliceM Try.prog 45 1 [(0, (nthA s24 5))] h40 fun x41 h41 =>
 appendM Try.prog 45 45 (nthA s24 0) x41 h41 fun x42 h42 =>
 @wkM [x42, (nthA s24 1), (nthA s24 2), (nthA s24 3), tt, (nthA s24 5)] h42 ⟨J15⟩)
 (@wkM [(nthA s24 0), (nthA s24 1), (nthA s24 2), (nthA s24 3), (nthA s24 4), (nthA s24 5)] h25 ⟨J15⟩))⟩)⟩
 ⟨fun s15 h15 =>
 binM Try.prog .add 3 (nthA s15 5) (i64 1) h15 fun x43 h43 =>
 @wkM [(nthA s15 0), (nthA s15 1), (nthA s15 2), (nthA s15 3), (nthA s15 4), x43] h43 ⟨J12⟩⟩)
 (unM .not (nthA s12 4) h14 fun x44 h44 =>
 gdM x44
 (retW nilS h44 Q)
 (@wkM [(nthA s12 0), (nthA s12 1), (nthA s12 2), (nthA s12 3)] h44 ⟨J9⟩)))
 (unM .not (nthA s12 4) h13 fun x45 h45 =>
 gdM x45
 (retW nilS h45 Q)
 (@wkM [(nthA s12 0), (nthA s12 1), (nthA s12 2), (nthA s12 3)] h45 ⟨J9⟩))⟩)
 (retW (nthA s9 0) h11 Q)⟩)⟩
theorem D_impl_CallOrder_eq (a0 : AVal) (h : AHeap) (Q : KA) : adFn Try.prog ⟨fun _ => ⟨[], [], .nil⟩, fun i => bif Nat.beq i 10 then some [5, 4, 1, 3, 6, 7] else bif Nat.beq i 17 then some [5, 4, 1, 3, 6, 7, 8, 41, 42, 43] else none, fun i => bif Nat.beq i 6 then [5, 4, 1, 3] else bif Nat.beq i 9 then [5, 4, 1, 3, 6, 7] else bif Nat.beq i 14 then [5, 4, 1, 3, 6, 7, 8, 43, 41, 42] else [], [1]⟩ Try.f14 [a0] h Q = D_impl_CallOrder a0 h Q := by kernel_rfl
theorem D_impl_CallOrder_of {a0 : AVal} {h : AHeap} {Q : KA} (hd : D_impl_CallOrder a0 h Q) : callM Try.prog 14 [a0] h Q := callM_of (fn := Try.f14) Try.func14 (Nat.le_of_ble_eq_true (by kernel_rfl)) ((D_impl_CallOrder_eq a0 h Q).symm ▸ hd)
theorem fn_impl_CallOrder : fnT Try.prog 14 = true := by kernel_rfl
/- laws.eqInt64S; J4: i b a -/
def or_laws_eqInt64S_6 : DR := ⟨[0, 0, 3, 4, 0, 0, 48, 64, 136], [0, 0, 3, 7, 0, 0, 48, 112, 255], (.one 0 (.one 1 (.one 2 (.one 3 (.one 4 (.one 5 (.one 6 (.one 7 (.one 8 .nil)))))))))⟩
@[simp] theorem dr_laws_eqInt64S_6 : drawnOK Try.prog (regOps Try.f15 6) or_laws_eqInt64S_6 = True := eq_true ⟨by kernel_rfl, by kernel_rfl⟩
def D_laws_eqInt64S (a0 a1 : AVal) (h : AHeap) (Q : KA) : Prop :=
 lenM Try.prog 45 a0 h fun x1 h1 =>
 lenM Try.prog 45 a1 h1 fun x2 h2 =>
 binM Try.prog .neq 3 x1 x2 h2 fun x3 h3 =>
 gdM x3
 (retW ff h3 Q)
 (@lpM [(i64 0), a1, a0] h3 ⟨fun s4 h4 J4 =>
 lenM Try.prog 45 (nthA s4 2) h4 fun x5 h5 =>
 binM Try.prog .lss 3 (nthA s4 0) x5 h5 fun x6 h6 =>
 gdM x6
 (And (drawnOK Try.prog (regOps Try.f15 6) or_laws_eqInt64S_6) (ixAddrM Try.prog 45 (nthA s4 2) (nthA s4 0) h6 fun x7 h7 =>
 loadM Try.prog 2 x7 h7 fun x8 h8 =>
 ixAddrM Try.prog 45 (nthA s4 1) (nthA s4 0) h8 fun x9 h9 =>
 loadM Try.prog 2 x9 h9 fun x10 h10 =>
 binM Try.prog .neq 2 x8 x10 h10 fun x11 h11 =>
 gdM x11
 (retW ff h11 Q)
 (binM Try.prog .add 3 (nthA s4 0) (i64 1) h11 fun x12 h12 =>
 @wkM [x12, (nthA s4 1), (nthA s4 2)] h12 ⟨J4⟩)))
 (retW tt h6 Q)⟩)
theorem D_laws_eqInt64S_eq (a0 a1 : AVal) (h : AHeap) (Q : KA) : adFn Try.prog ⟨fun i => bif Nat.beq i 6 then or_laws_eqInt64S_6 else ⟨[], [], .nil⟩, fun _ => none, fun i => bif Nat.beq i 4 then [5, 1, 0] else [], []⟩ Try.f15 [a0, a1] h Q = D_laws_eqInt64S a0 a1 h Q := by kernel_rfl
theorem D_laws_eqInt64S_of {a0 a1 : AVal} {h : AHeap} {Q : KA} (hd : D_laws_eqInt64S a0 a1 h Q) : callM Try.prog 15 [a0, a1] h Q := callM_of (fn := Try.f15) Try.func15 (Nat.le_of_ble_eq_true (by kernel_rfl)) ((D_laws_eqInt64S_eq a0 a1 h Q).symm ▸ hd)
theorem fn_laws_eqInt64S : fnT Try.prog 15 = true := by kernel_rfl
/- laws.markProgram -/
def D_laws_markProgram (a0 a1 : AVal) (h : AHeap) (Q : KA) : Prop :=
 boxFM a0 h fun x1 h1 =>
 fldAddrM Try.prog 38 x1 0 h1 fun x2 h2 =>
 loadM Try.prog 22 x2 h2 fun x3 h3 =>
 @clM Try.prog 38 [x3, a1] h3 ⟨fun x4 h4 =>
 fldAddrM Try.prog 38 x1 1 h4 fun x5 h5 =>
 loadM Try.prog 34 x5 h5 fun x6 h6 =>
 @clM Try.prog 39 [x6, x4] h6 ⟨fun x7 h7 =>
 fldAddrM Try.prog 38 x1 2 h7 fun x8 h8 =>
 loadM Try.prog 35 x8 h8 fun x9 h9 =>
 @clM Try.prog 40 [x9, x7] h9 ⟨fun x10 h10 =>
 fldAddrM Try.prog 38 x1 3 h10 fun x11 h11 =>
 loadM Try.prog 36 x11 h11 fun x12 h12 =>
 @clM Try.prog 41 [x12, x10] h12 ⟨fun x13 h13 =>
 retW x13 h13 Q⟩⟩⟩⟩
theorem D_laws_markProgram_eq (a0 a1 : AVal) (h : AHeap) (Q : KA) : adFn Try.prog ⟨fun _ => ⟨[], [], .nil⟩, fun _ => none, fun _ => [], [2]⟩ Try.f16 [a0, a1] h Q = D_laws_markProgram a0 a1 h Q := by kernel_rfl
theorem D_laws_markProgram_of {a0 a1 : AVal} {h : AHeap} {Q : KA} (hd : D_laws_markProgram a0 a1 h Q) : callM Try.prog 16 [a0, a1] h Q := callM_of (fn := Try.f16) Try.func16 (Nat.le_of_ble_eq_true (by kernel_rfl)) ((D_laws_markProgram_eq a0 a1 h Q).symm ▸ hd)
theorem fn_laws_markProgram : fnT Try.prog 16 = true := by kernel_rfl
/- laws.markInt64S; J1: k i a -/
def D_laws_markInt64S (a0 a1 : AVal) (h : AHeap) (Q : KA) : Prop :=
 @lpM [a1, (i64 0), a0] h ⟨fun s1 h1 J1 =>
 lenM Try.prog 45 (nthA s1 2) h1 fun x2 h2 =>
 binM Try.prog .lss 3 (nthA s1 1) x2 h2 fun x3 h3 =>
 gdM x3
 (ixAddrM Try.prog 45 (nthA s1 2) (nthA s1 1) h3 fun x4 h4 =>
 storeM Try.prog 2 x4 (nthA s1 0) h4 fun x5 h5 =>
 binM Try.prog .add 3 (nthA s1 0) (i64 1) h5 fun x6 h6 =>
 binM Try.prog .add 3 (nthA s1 1) (i64 1) h6 fun x7 h7 =>
 @wkM [x6, x7, (nthA s1 2)] h7 ⟨J1⟩)
 (retW (nthA s1 0) h3 Q)⟩
theorem D_laws_markInt64S_eq (a0 a1 : AVal) (h : AHeap) (Q : KA) : adFn Try.prog ⟨fun _ => ⟨[], [], .nil⟩, fun _ => none, fun i => bif Nat.beq i 2 then [1, 5, 0] else [], []⟩ Try.f17 [a0, a1] h Q = D_laws_markInt64S a0 a1 h Q := by kernel_rfl
theorem D_laws_markInt64S_of {a0 a1 : AVal} {h : AHeap} {Q : KA} (hd : D_laws_markInt64S a0 a1 h Q) : callM Try.prog 17 [a0, a1] h Q := callM_of (fn := Try.f17) Try.func17 (Nat.le_of_ble_eq_true (by kernel_rfl)) ((D_laws_markInt64S_eq a0 a1 h Q).symm ▸ hd)
theorem fn_laws_markInt64S : fnT Try.prog 17 = true := by kernel_rfl
/- laws.heldInt64S; J1: k i a -/
def D_laws_heldInt64S (a0 a1 : AVal) (h : AHeap) (Q : KA) : Prop :=
 @lpM [a1, (i64 0), a0] h ⟨fun s1 h1 J1 =>
 lenM Try.prog 45 (nthA s1 2) h1 fun x2 h2 =>
 binM Try.prog .lss 3 (nthA s1 1) x2 h2 fun x3 h3 =>
 gdM x3
 (ixAddrM Try.prog 45 (nthA s1 2) (nthA s1 1) h3 fun x4 h4 =>
 loadM Try.prog 2 x4 h4 fun x5 h5 =>
 binM Try.prog .neq 2 x5 (nthA s1 0) h5 fun x6 h6 =>
 gdM x6
 (retW (i64 (-1)) h6 Q)
 (binM Try.prog .add 3 (nthA s1 0) (i64 1) h6 fun x7 h7 =>
 binM Try.prog .add 3 (nthA s1 1) (i64 1) h7 fun x8 h8 =>
 @wkM [x7, x8, (nthA s1 2)] h8 ⟨J1⟩))
 (retW (nthA s1 0) h3 Q)⟩
theorem D_laws_heldInt64S_eq (a0 a1 : AVal) (h : AHeap) (Q : KA) : adFn Try.prog ⟨fun _ => ⟨[], [], .nil⟩, fun _ => none, fun i => bif Nat.beq i 2 then [1, 5, 0] else [], []⟩ Try.f18 [a0, a1] h Q = D_laws_heldInt64S a0 a1 h Q := by kernel_rfl
theorem D_laws_heldInt64S_of {a0 a1 : AVal} {h : AHeap} {Q : KA} (hd : D_laws_heldInt64S a0 a1 h Q) : callM Try.prog 18 [a0, a1] h Q := callM_of (fn := Try.f18) Try.func18 (Nat.le_of_ble_eq_true (by kernel_rfl)) ((D_laws_heldInt64S_eq a0 a1 h Q).symm ▸ hd)
theorem fn_laws_heldInt64S : fnT Try.prog 18 = true := by kernel_rfl
/- laws.szInt64SS; J4: left i a -/
def D_laws_szInt64SS (a0 a1 : AVal) (h : AHeap) (Q : KA) : Prop :=
 lenM Try.prog 22 a0 h fun x1 h1 =>
 binM Try.prog .sub 3 a1 x1 h1 fun x2 h2 =>
 binM Try.prog .lss 3 x2 (i64 0) h2 fun x3 h3 =>
 gdM x3
 (retW (i64 (-1)) h3 Q)
 (@lpM [x2, (i64 0), a0] h3 ⟨fun s4 h4 J4 =>
 lenM Try.prog 22 (nthA s4 2) h4 fun x5 h5 =>
 binM Try.prog .lss 3 (nthA s4 1) x5 h5 fun x6 h6 =>
 gdM x6
 (ixAddrM Try.prog 22 (nthA s4 2) (nthA s4 1) h6 fun x7 h7 =>
 loadM Try.prog 45 x7 h7 fun x8 h8 =>
 @clM Try.prog 42 [x8, (nthA s4 0)] h8 ⟨fun x9 h9 =>
 binM Try.prog .lss 3 x9 (i64 0) h9 fun x10 h10 =>
 gdM x10
 (retW (i64 (-1)) h10 Q)
 (binM Try.prog .add 3 (nthA s4 1) (i64 1) h10 fun x11 h11 =>
 @wkM [x9, x11, (nthA s4 2)] h11 ⟨J4⟩)⟩)
 (retW (nthA s4 0) h6 Q)⟩)
theorem D_laws_szInt64SS_eq (a0 a1 : AVal) (h : AHeap) (Q : KA) : adFn Try.prog ⟨fun _ => ⟨[], [], .nil⟩, fun _ => none, fun i => bif Nat.beq i 5 then [1, 5, 0] else [], []⟩ Try.f19 [a0, a1] h Q = D_laws_szInt64SS a0 a1 h Q := by kernel_rfl
theorem D_laws_szInt64SS_of {a0 a1 : AVal} {h : AHeap} {Q : KA} (hd : D_laws_szInt64SS a0 a1 h Q) : callM Try.prog 19 [a0, a1] h Q := callM_of (fn := Try.f19) Try.func19 (Nat.le_of_ble_eq_true (by kernel_rfl)) ((D_laws_szInt64SS_eq a0 a1 h Q).symm ▸ hd)
theorem fn_laws_szInt64SS : fnT Try.prog 19 = true := by kernel_rfl
/- laws.szConstS -/
def D_laws_szConstS (a0 a1 : AVal) (h : AHeap) (Q : KA) : Prop :=
 lenM Try.prog 23 a0 h fun x1 h1 =>
 binM Try.prog .sub 3 a1 x1 h1 fun x2 h2 =>
 binM Try.prog .lss 3 x2 (i64 0) h2 fun x3 h3 =>
 gdM x3
 (retW (i64 (-1)) h3 Q)
 (retW x2 h3 Q)
theorem D_laws_szConstS_eq (a0 a1 : AVal) (h : AHeap) (Q : KA) : adFn Try.prog ⟨fun _ => ⟨[], [], .nil⟩, fun _ => none, fun _ => [], []⟩ Try.f20 [a0, a1] h Q = D_laws_szConstS a0 a1 h Q := by kernel_rfl
theorem D_laws_szConstS_of {a0 a1 : AVal} {h : AHeap} {Q : KA} (hd : D_laws_szConstS a0 a1 h Q) : callM Try.prog 20 [a0, a1] h Q := callM_of (fn := Try.f20) Try.func20 (Nat.le_of_ble_eq_true (by kernel_rfl)) ((D_laws_szConstS_eq a0 a1 h Q).symm ▸ hd)
theorem fn_laws_szConstS : fnT Try.prog 20 = true := by kernel_rfl
/- laws.szFuncS; J4: left i a -/
def D_laws_szFuncS (a0 a1 : AVal) (h : AHeap) (Q : KA) : Prop :=
 lenM Try.prog 24 a0 h fun x1 h1 =>
 binM Try.prog .sub 3 a1 x1 h1 fun x2 h2 =>
 binM Try.prog .lss 3 x2 (i64 0) h2 fun x3 h3 =>
 gdM x3
 (retW (i64 (-1)) h3 Q)
 (@lpM [x2, (i64 0), a0] h3 ⟨fun s4 h4 J4 =>
 lenM Try.prog 24 (nthA s4 2) h4 fun x5 h5 =>
 binM Try.prog .lss 3 (nthA s4 1) x5 h5 fun x6 h6 =>
 gdM x6
 (ixAddrM Try.prog 24 (nthA s4 2) (nthA s4 1) h6 fun x7 h7 =>
 loadM Try.prog 83 x7 h7 fun x8 h8 =>
 @clM Try.prog 43 [x8, (nthA s4 0)] h8 ⟨fun x9 h9 =>
 binM Try.prog .lss 3 x9 (i64 0) h9 fun x10 h10 =>
 gdM x10
 (retW (i64 (-1)) h10 Q)
 (binM Try.prog .add 3 (nthA s4 1) (i64 1) h10 fun x11 h11 =>
 @wkM [x9, x11, (nthA s4 2)] h11 ⟨J4⟩)⟩)
 (retW (nthA s4 0) h6 Q)⟩)
theorem D_laws_szFuncS_eq (a0 a1 : AVal) (h : AHeap) (Q : KA) : adFn Try.prog ⟨fun _ => ⟨[], [], .nil⟩, fun _ => none, fun i => bif Nat.beq i 5 then [1, 5, 0] else [], []⟩ Try.f21 [a0, a1] h Q = D_laws_szFuncS a0 a1 h Q := by kernel_rfl
theorem D_laws_szFuncS_of {a0 a1 : AVal} {h : AHeap} {Q : KA} (hd : D_laws_szFuncS a0 a1 h Q) : callM Try.prog 21 [a0, a1] h Q := callM_of (fn := Try.f21) Try.func21 (Nat.le_of_ble_eq_true (by kernel_rfl)) ((D_laws_szFuncS_eq a0 a1 h Q).symm ▸ hd)
theorem fn_laws_szFuncS : fnT Try.prog 21 = true := by kernel_rfl
/- laws.szCertS -/
def D_laws_szCertS (a0 a1 : AVal) (h : AHeap) (Q : KA) : Prop :=
 lenM Try.prog 25 a0 h fun x1 h1 =>
 binM Try.prog .sub 3 a1 x1 h1 fun x2 h2 =>
 binM Try.prog .lss 3 x2 (i64 0) h2 fun x3 h3 =>
 gdM x3
 (retW (i64 (-1)) h3 Q)
 (retW x2 h3 Q)
theorem D_laws_szCertS_eq (a0 a1 : AVal) (h : AHeap) (Q : KA) : adFn Try.prog ⟨fun _ => ⟨[], [], .nil⟩, fun _ => none, fun _ => [], []⟩ Try.f22 [a0, a1] h Q = D_laws_szCertS a0 a1 h Q := by kernel_rfl
theorem D_laws_szCertS_of {a0 a1 : AVal} {h : AHeap} {Q : KA} (hd : D_laws_szCertS a0 a1 h Q) : callM Try.prog 22 [a0, a1] h Q := callM_of (fn := Try.f22) Try.func22 (Nat.le_of_ble_eq_true (by kernel_rfl)) ((D_laws_szCertS_eq a0 a1 h Q).symm ▸ hd)
theorem fn_laws_szCertS : fnT Try.prog 22 = true := by kernel_rfl
/- laws.szUint32S -/
def D_laws_szUint32S (a0 a1 : AVal) (h : AHeap) (Q : KA) : Prop :=
 lenM Try.prog 28 a0 h fun x1 h1 =>
 binM Try.prog .sub 3 a1 x1 h1 fun x2 h2 =>
 binM Try.prog .lss 3 x2 (i64 0) h2 fun x3 h3 =>
 gdM x3
 (retW (i64 (-1)) h3 Q)
 (retW x2 h3 Q)
theorem D_laws_szUint32S_eq (a0 a1 : AVal) (h : AHeap) (Q : KA) : adFn Try.prog ⟨fun _ => ⟨[], [], .nil⟩, fun _ => none, fun _ => [], []⟩ Try.f23 [a0, a1] h Q = D_laws_szUint32S a0 a1 h Q := by kernel_rfl
theorem D_laws_szUint32S_of {a0 a1 : AVal} {h : AHeap} {Q : KA} (hd : D_laws_szUint32S a0 a1 h Q) : callM Try.prog 23 [a0, a1] h Q := callM_of (fn := Try.f23) Try.func23 (Nat.le_of_ble_eq_true (by kernel_rfl)) ((D_laws_szUint32S_eq a0 a1 h Q).symm ▸ hd)
theorem fn_laws_szUint32S : fnT Try.prog 23 = true := by kernel_rfl
/- spec.ProgramFault; J6: p i; J8: p i _30; J34: p i; J47: p i; J52: p i k; J25: p _43 -/
def or_spec_ProgramFault_23 : DR := ⟨[0, 0, 2, 0, 12, 16, 0, 64, 0, 384, 512, 1024, 0, 6144, 8192, 16417, 32768], [0, 0, 2, 0, 14, 30, 0, 64, 0, 448, 960, 1984, 0, 8128, 16320, 32767, 65535], (.one 0 (.one 1 (.one 2 (.one 3 (.one 4 (.one 5 (.one 6 (.one 7 (.one 8 (.one 9 (.one 10 (.one 11 (.one 12 (.one 13 (.one 14 (.one 15 (.one 16 .nil)))))))))))))))))⟩
@[simp] theorem dr_spec_ProgramFault_23 : drawnOK Try.prog (regOps Try.f24 23) or_spec_ProgramFault_23 = True := eq_true ⟨by kernel_rfl, by kernel_rfl⟩
def D_spec_ProgramFault (a0 : AVal) (h : AHeap) (Q : KA) : Prop :=
 boxFM a0 h fun x1 h1 =>
 fldAddrM Try.prog 38 x1 0 h1 fun x2 h2 =>
 loadM Try.prog 22 x2 h2 fun x3 h3 =>
 lenM Try.prog 22 x3 h3 fun x4 h4 =>
 binM Try.prog .neq 3 x4 (i64 3) h4 fun x5 h5 =>
 gdM x5
 (retW (i64 1) h5 Q)
 (@lpM [x1, (i64 0)] h5 ⟨fun s6 h6 J6 =>
 binM Try.prog .lss 3 (nthA s6 1) (i64 3) h6 fun x7 h7 =>
 gdM x7
 (@jnM ⟨fun J8 =>
 fldAddrM Try.prog 38 (nthA s6 0) 0 h7 fun x9 h9 =>
 loadM Try.prog 22 x9 h9 fun x10 h10 =>
 ixAddrM Try.prog 22 x10 (nthA s6 1) h10 fun x11 h11 =>
 loadM Try.prog 45 x11 h11 fun x12 h12 =>
 lenM Try.prog 45 x12 h12 fun x13 h13 =>
 binM Try.prog .gtr 3 x13 (i64 256) h13 fun x14 h14 =>
 gdM x14
 (@wkM [(nthA s6 0), (nthA s6 1), tt] h14 ⟨J8⟩)
 (fldAddrM Try.prog 38 (nthA s6 0) 0 h14 fun x15 h15 =>
 loadM Try.prog 22 x15 h15 fun x16 h16 =>
 ixAddrM Try.prog 22 x16 (nthA s6 1) h16 fun x17 h17 =>
 loadM Try.prog 45 x17 h17 fun x18 h18 =>
 @clM Try.prog 44 [x18] h18 ⟨fun x19 h19 =>
 unM .not x19 h19 fun x20 h20 =>
 @wkM [(nthA s6 0), (nthA s6 1), x20] h20 ⟨J8⟩⟩)⟩
 ⟨fun s8 h8 =>
 gdM (nthA s8 2)
 (retW (i64 1) h8 Q)
 (binM Try.prog .add 3 (nthA s8 1) (i64 1) h8 fun x21 h21 =>
 @wkM [(nthA s8 0), x21] h21 ⟨J6⟩)⟩)
 (loadM Try.prog 38 (nthA s6 0) h7 fun x22 h22 =>
 @clM Try.prog 45 [x22] h22 ⟨fun x23 h23 =>
 unM .not x23 h23 fun x24 h24 =>
 gdM x24
 (retW (i64 2) h24 Q)
 (@jnM ⟨fun J25 =>
 fldAddrM Try.prog 38 (nthA s6 0) 2 h24 fun x26 h26 =>
 loadM Try.prog 35 x26 h26 fun x27 h27 =>
 lenM Try.prog 35 x27 h27 fun x28 h28 =>
 binM Try.prog .eql 3 x28 (i64 0) h28 fun x29 h29 =>
 gdM x29
 (@wkM [(nthA s6 0), tt] h29 ⟨J25⟩)
 (fldAddrM Try.prog 38 (nthA s6 0) 2 h29 fun x30 h30 =>
 loadM Try.prog 35 x30 h30 fun x31 h31 =>
 lenM Try.prog 35 x31 h31 fun x32 h32 =>
 binM Try.prog .gtr 3 x32 (i64 32) h32 fun x33 h33 =>
 @wkM [(nthA s6 0), x33] h33 ⟨J25⟩)⟩
 ⟨fun s25 h25 =>
 gdM (nthA s25 1)
 (retW (i64 3) h25 Q)
 (@lpM [(nthA s25 0), (i64 0)] h25 ⟨fun s34 h34 J34 =>
 fldAddrM Try.prog 38 (nthA s34 0) 2 h34 fun x35 h35 =>
 loadM Try.prog 35 x35 h35 fun x36 h36 =>
 lenM Try.prog 35 x36 h36 fun x37 h37 =>
 binM Try.prog .lss 3 (nthA s34 1) x37 h37 fun x38 h38 =>
 gdM x38
 (fldAddrM Try.prog 38 (nthA s34 0) 2 h38 fun x39 h39 =>
 loadM Try.prog 35 x39 h39 fun x40 h40 =>
 ixAddrM Try.prog 35 x40 (nthA s34 1) h40 fun x41 h41 =>
 loadM Try.prog 74 x41 h41 fun x42 h42 =>
 binM Try.prog .eql 3 (nthA s34 1) (i64 0) h42 fun x43 h43 =>
 @clM Try.prog 46 [x42, x43] h43 ⟨fun x44 h44 =>
 unM .not x44 h44 fun x45 h45 =>
 gdM x45
 (retW (i64 3) h45 Q)
 (binM Try.prog .add 3 (nthA s34 1) (i64 1) h45 fun x46 h46 =>
 @wkM [(nthA s34 0), x46] h46 ⟨J34⟩)⟩)
 (@lpM [(nthA s34 0), (i64 0)] h38 ⟨fun s47 h47 J47 =>
 fldAddrM Try.prog 38 (nthA s47 0) 2 h47 fun x48 h48 =>
 loadM Try.prog 35 x48 h48 fun x49 h49 =>
 lenM Try.prog 35 x49 h49 fun x50 h50 =>
 binM Try.prog .lss 3 (nthA s47 1) x50 h50 fun x51 h51 =>
 gdM x51
 (@lpM [(nthA s47 0), (nthA s47 1), (i64 0)] h51 ⟨fun s52 h52 J52 =>
 fldAddrM Try.prog 38 (nthA s52 0) 2 h52 fun x53 h53 =>
 loadM Try.prog 35 x53 h53 fun x54 h54 =>
 ixAddrM Try.prog 35 x54 (nthA s52 1) h54 fun x55 h55 =>
 fldAddrM Try.prog 74 x55 3 h55 fun x56 h56 =>
 loadM Try.prog 72 x56 h56 fun x57 h57 =>
 lenM Try.prog 72 x57 h57 fun x58 h58 =>
 binM Try.prog .lss 3 (nthA s52 2) x58 h58 fun x59 h59 =>
 gdM x59
 (And (drawnOK Try.prog (regOps Try.f24 23) or_spec_ProgramFault_23) (loadM Try.prog 38 (nthA s52 0) h59 fun x60 h60 =>
 fldAddrM Try.prog 38 (nthA s52 0) 2 h60 fun x61 h61 =>
 loadM Try.prog 35 x61 h61 fun x62 h62 =>
 ixAddrM Try.prog 35 x62 (nthA s52 1) h62 fun x63 h63 =>
 loadM Try.prog 74 x63 h63 fun x64 h64 =>
 fldAddrM Try.prog 38 (nthA s52 0) 2 h64 fun x65 h65 =>
 loadM Try.prog 35 x65 h65 fun x66 h66 =>
 ixAddrM Try.prog 35 x66 (nthA s52 1) h66 fun x67 h67 =>
 fldAddrM Try.prog 74 x67 3 h67 fun x68 h68 =>
 loadM Try.prog 72 x68 h68 fun x69 h69 =>
 ixAddrM Try.prog 72 x69 (nthA s52 2) h69 fun x70 h70 =>
 loadM Try.prog 76 x70 h70 fun x71 h71 =>
 @clM Try.prog 47 [x60, x64, x71] h71 ⟨fun x72 h72 =>
 unM .not x72 h72 fun x73 h73 =>
 gdM x73
 (retW (i64 4) h73 Q)
 (binM Try.prog .add 3 (nthA s52 2) (i64 1) h73 fun x74 h74 =>
 @wkM [(nthA s52 0), (nthA s52 1), x74] h74 ⟨J52⟩)⟩))
 (binM Try.prog .add 3 (nthA s52 1) (i64 1) h59 fun x75 h75 =>
 @wkM [(nthA s52 0), x75] h75 ⟨J47⟩)⟩)
 (loadM Try.prog 38 (nthA s47 0) h51 fun x76 h76 =>
 @clM Try.prog 48 [x76] h76 ⟨fun x77 h77 =>
 unM .not x77 h77 fun x78 h78 =>
 gdM x78
 (retW (i64 5) h78 Q)
 (retW (i64 0) h78 Q)⟩)⟩)⟩)⟩)⟩)⟩)
theorem D_spec_ProgramFault_eq (a0 : AVal) (h : AHeap) (Q : KA) : adFn Try.prog ⟨fun i => bif Nat.beq i 23 then or_spec_ProgramFault_23 else ⟨[], [], .nil⟩, fun i => bif Nat.beq i 7 then some [1, 3, 30] else bif Nat.beq i 11 then some [1, 43] else none, fun i => bif Nat.beq i 4 then [1, 3] else bif Nat.beq i 13 then [1, 4] else bif Nat.beq i 18 then [1, 5] else bif Nat.beq i 21 then [1, 5, 6] else [], [1]⟩ Try.f24 [a0] h Q = D_spec_ProgramFault a0 h Q := by kernel_rfl
theorem D_spec_ProgramFault_of {a0 : AVal} {h : AHeap} {Q : KA} (hd : D_spec_ProgramFault a0 h Q) : callM Try.prog 24 [a0] h Q := callM_of (fn := Try.f24) Try.func24 (Nat.le_of_ble_eq_true (by kernel_rfl)) ((D_spec_ProgramFault_eq a0 h Q).symm ▸ hd)
theorem fn_spec_ProgramFault : fnT Try.prog 24 = true := by kernel_rfl
/- spec.l4Words; J4: i list types; J7: list types i _28 -/
def D_spec_l4Words (a0 a1 : AVal) (h : AHeap) (Q : KA) : Prop :=
 lenM Try.prog 28 a0 h fun x1 h1 =>
 lenM Try.prog 45 a1 h1 fun x2 h2 =>
 binM Try.prog .neq 3 x1 x2 h2 fun x3 h3 =>
 gdM x3
 (retW ff h3 Q)
 (@lpM [(i64 0), a0, a1] h3 ⟨fun s4 h4 J4 =>
 lenM Try.prog 28 (nthA s4 1) h4 fun x5 h5 =>
 binM Try.prog .lss 3 (nthA s4 0) x5 h5 fun x6 h6 =>
 gdM x6
 (@jnM ⟨fun J7 =>
 ixAddrM Try.prog 45 (nthA s4 2) (nthA s4 0) h6 fun x8 h8 =>
 loadM Try.prog 2 x8 h8 fun x9 h9 =>
 binM Try.prog .eql 2 x9 (i64 1) h9 fun x10 h10 =>
 gdM x10
 (ixAddrM Try.prog 28 (nthA s4 1) (nthA s4 0) h10 fun x11 h11 =>
 loadM Try.prog 88 x11 h11 fun x12 h12 =>
 binM Try.prog .gtr 88 x12 (u32 1) h12 fun x13 h13 =>
 @wkM [(nthA s4 1), (nthA s4 2), (nthA s4 0), x13] h13 ⟨J7⟩)
 (@wkM [(nthA s4 1), (nthA s4 2), (nthA s4 0), ff] h10 ⟨J7⟩)⟩
 ⟨fun s7 h7 =>
 gdM (nthA s7 3)
 (retW ff h7 Q)
 (binM Try.prog .add 3 (nthA s7 2) (i64 1) h7 fun x14 h14 =>
 @wkM [x14, (nthA s7 0), (nthA s7 1)] h14 ⟨J4⟩)⟩)
 (retW tt h6 Q)⟩)
theorem D_spec_l4Words_eq (a0 a1 : AVal) (h : AHeap) (Q : KA) : adFn Try.prog ⟨fun _ => ⟨[], [], .nil⟩, fun i => bif Nat.beq i 7 then some [0, 1, 5, 28] else none, fun i => bif Nat.beq i 4 then [5, 0, 1] else [], []⟩ Try.f25 [a0, a1] h Q = D_spec_l4Words a0 a1 h Q := by kernel_rfl
theorem D_spec_l4Words_of {a0 a1 : AVal} {h : AHeap} {Q : KA} (hd : D_spec_l4Words a0 a1 h Q) : callM Try.prog 25 [a0, a1] h Q := callM_of (fn := Try.f25) Try.func25 (Nat.le_of_ble_eq_true (by kernel_rfl)) ((D_spec_l4Words_eq a0 a1 h Q).symm ▸ hd)
theorem fn_spec_l4Words : fnT Try.prog 25 = true := by kernel_rfl
/- laws.toInt64SS; J3: out i a -/
def D_laws_toInt64SS (a0 : AVal) (h : AHeap) (Q : KA) : Prop :=
 lenM Try.prog 22 a0 h fun x1 h1 =>
 makeM Try.prog 22 x1 x1 h1 fun x2 h2 =>
 @lpM [x2, (i64 0), a0] h2 ⟨fun s3 h3 J3 =>
 lenM Try.prog 22 (nthA s3 2) h3 fun x4 h4 =>
 binM Try.prog .lss 3 (nthA s3 1) x4 h4 fun x5 h5 =>
 gdM x5
 (ixAddrM Try.prog 22 (nthA s3 2) (nthA s3 1) h5 fun x6 h6 =>
 loadM Try.prog 45 x6 h6 fun x7 h7 =>
 @clM Try.prog 49 [x7] h7 ⟨fun x8 h8 =>
 ixAddrM Try.prog 22 (nthA s3 0) (nthA s3 1) h8 fun x9 h9 =>
 storeM Try.prog 45 x9 x8 h9 fun x10 h10 =>
 binM Try.prog .add 3 (nthA s3 1) (i64 1) h10 fun x11 h11 =>
 @wkM [(nthA s3 0), x11, (nthA s3 2)] h11 ⟨J3⟩⟩)
 (retW (nthA s3 0) h5 Q)⟩
theorem D_laws_toInt64SS_eq (a0 : AVal) (h : AHeap) (Q : KA) : adFn Try.prog ⟨fun _ => ⟨[], [], .nil⟩, fun _ => none, fun i => bif Nat.beq i 3 then [3, 4, 0] else [], []⟩ Try.f26 [a0] h Q = D_laws_toInt64SS a0 h Q := by kernel_rfl
theorem D_laws_toInt64SS_of {a0 : AVal} {h : AHeap} {Q : KA} (hd : D_laws_toInt64SS a0 h Q) : callM Try.prog 26 [a0] h Q := callM_of (fn := Try.f26) Try.func26 (Nat.le_of_ble_eq_true (by kernel_rfl)) ((D_laws_toInt64SS_eq a0 h Q).symm ▸ hd)
theorem fn_laws_toInt64SS : fnT Try.prog 26 = true := by kernel_rfl
/- laws.toConstS; J3: out i a -/
def D_laws_toConstS (a0 : AVal) (h : AHeap) (Q : KA) : Prop :=
 lenM Try.prog 23 a0 h fun x1 h1 =>
 makeM Try.prog 34 x1 x1 h1 fun x2 h2 =>
 @lpM [x2, (i64 0), a0] h2 ⟨fun s3 h3 J3 =>
 lenM Try.prog 23 (nthA s3 2) h3 fun x4 h4 =>
 binM Try.prog .lss 3 (nthA s3 1) x4 h4 fun x5 h5 =>
 gdM x5
 (ixAddrM Try.prog 23 (nthA s3 2) (nthA s3 1) h5 fun x6 h6 =>
 loadM Try.prog 93 x6 h6 fun x7 h7 =>
 @clM Try.prog 50 [x7] h7 ⟨fun x8 h8 =>
 ixAddrM Try.prog 34 (nthA s3 0) (nthA s3 1) h8 fun x9 h9 =>
 storeM Try.prog 91 x9 x8 h9 fun x10 h10 =>
 binM Try.prog .add 3 (nthA s3 1) (i64 1) h10 fun x11 h11 =>
 @wkM [(nthA s3 0), x11, (nthA s3 2)] h11 ⟨J3⟩⟩)
 (retW (nthA s3 0) h5 Q)⟩
theorem D_laws_toConstS_eq (a0 : AVal) (h : AHeap) (Q : KA) : adFn Try.prog ⟨fun _ => ⟨[], [], .nil⟩, fun _ => none, fun i => bif Nat.beq i 3 then [3, 4, 0] else [], []⟩ Try.f27 [a0] h Q = D_laws_toConstS a0 h Q := by kernel_rfl
theorem D_laws_toConstS_of {a0 : AVal} {h : AHeap} {Q : KA} (hd : D_laws_toConstS a0 h Q) : callM Try.prog 27 [a0] h Q := callM_of (fn := Try.f27) Try.func27 (Nat.le_of_ble_eq_true (by kernel_rfl)) ((D_laws_toConstS_eq a0 h Q).symm ▸ hd)
theorem fn_laws_toConstS : fnT Try.prog 27 = true := by kernel_rfl
/- laws.toFuncS; J3: out i a -/
def D_laws_toFuncS (a0 : AVal) (h : AHeap) (Q : KA) : Prop :=
 lenM Try.prog 24 a0 h fun x1 h1 =>
 makeM Try.prog 35 x1 x1 h1 fun x2 h2 =>
 @lpM [x2, (i64 0), a0] h2 ⟨fun s3 h3 J3 =>
 lenM Try.prog 24 (nthA s3 2) h3 fun x4 h4 =>
 binM Try.prog .lss 3 (nthA s3 1) x4 h4 fun x5 h5 =>
 gdM x5
 (ixAddrM Try.prog 24 (nthA s3 2) (nthA s3 1) h5 fun x6 h6 =>
 loadM Try.prog 83 x6 h6 fun x7 h7 =>
 @clM Try.prog 51 [x7] h7 ⟨fun x8 h8 =>
 ixAddrM Try.prog 35 (nthA s3 0) (nthA s3 1) h8 fun x9 h9 =>
 storeM Try.prog 74 x9 x8 h9 fun x10 h10 =>
 binM Try.prog .add 3 (nthA s3 1) (i64 1) h10 fun x11 h11 =>
 @wkM [(nthA s3 0), x11, (nthA s3 2)] h11 ⟨J3⟩⟩)
 (retW (nthA s3 0) h5 Q)⟩
theorem D_laws_toFuncS_eq (a0 : AVal) (h : AHeap) (Q : KA) : adFn Try.prog ⟨fun _ => ⟨[], [], .nil⟩, fun _ => none, fun i => bif Nat.beq i 3 then [3, 4, 0] else [], []⟩ Try.f28 [a0] h Q = D_laws_toFuncS a0 h Q := by kernel_rfl
theorem D_laws_toFuncS_of {a0 : AVal} {h : AHeap} {Q : KA} (hd : D_laws_toFuncS a0 h Q) : callM Try.prog 28 [a0] h Q := callM_of (fn := Try.f28) Try.func28 (Nat.le_of_ble_eq_true (by kernel_rfl)) ((D_laws_toFuncS_eq a0 h Q).symm ▸ hd)
theorem fn_laws_toFuncS : fnT Try.prog 28 = true := by kernel_rfl
/- laws.toCertS; J3: out i a -/
def D_laws_toCertS (a0 : AVal) (h : AHeap) (Q : KA) : Prop :=
 lenM Try.prog 25 a0 h fun x1 h1 =>
 makeM Try.prog 36 x1 x1 h1 fun x2 h2 =>
 @lpM [x2, (i64 0), a0] h2 ⟨fun s3 h3 J3 =>
 lenM Try.prog 25 (nthA s3 2) h3 fun x4 h4 =>
 binM Try.prog .lss 3 (nthA s3 1) x4 h4 fun x5 h5 =>
 gdM x5
 (ixAddrM Try.prog 25 (nthA s3 2) (nthA s3 1) h5 fun x6 h6 =>
 loadM Try.prog 98 x6 h6 fun x7 h7 =>
 @clM Try.prog 52 [x7] h7 ⟨fun x8 h8 =>
 ixAddrM Try.prog 36 (nthA s3 0) (nthA s3 1) h8 fun x9 h9 =>
 storeM Try.prog 96 x9 x8 h9 fun x10 h10 =>
 binM Try.prog .add 3 (nthA s3 1) (i64 1) h10 fun x11 h11 =>
 @wkM [(nthA s3 0), x11, (nthA s3 2)] h11 ⟨J3⟩⟩)
 (retW (nthA s3 0) h5 Q)⟩
theorem D_laws_toCertS_eq (a0 : AVal) (h : AHeap) (Q : KA) : adFn Try.prog ⟨fun _ => ⟨[], [], .nil⟩, fun _ => none, fun i => bif Nat.beq i 3 then [3, 4, 0] else [], []⟩ Try.f29 [a0] h Q = D_laws_toCertS a0 h Q := by kernel_rfl
theorem D_laws_toCertS_of {a0 : AVal} {h : AHeap} {Q : KA} (hd : D_laws_toCertS a0 h Q) : callM Try.prog 29 [a0] h Q := callM_of (fn := Try.f29) Try.func29 (Nat.le_of_ble_eq_true (by kernel_rfl)) ((D_laws_toCertS_eq a0 h Q).symm ▸ hd)
theorem fn_laws_toCertS : fnT Try.prog 29 = true := by kernel_rfl
/- laws.toUint32S; J3: out i a -/
def D_laws_toUint32S (a0 : AVal) (h : AHeap) (Q : KA) : Prop :=
 lenM Try.prog 28 a0 h fun x1 h1 =>
 makeM Try.prog 28 x1 x1 h1 fun x2 h2 =>
 @lpM [x2, (i64 0), a0] h2 ⟨fun s3 h3 J3 =>
 lenM Try.prog 28 (nthA s3 2) h3 fun x4 h4 =>
 binM Try.prog .lss 3 (nthA s3 1) x4 h4 fun x5 h5 =>
 gdM x5
 (ixAddrM Try.prog 28 (nthA s3 2) (nthA s3 1) h5 fun x6 h6 =>
 loadM Try.prog 88 x6 h6 fun x7 h7 =>
 ixAddrM Try.prog 28 (nthA s3 0) (nthA s3 1) h7 fun x8 h8 =>
 storeM Try.prog 88 x8 x7 h8 fun x9 h9 =>
 binM Try.prog .add 3 (nthA s3 1) (i64 1) h9 fun x10 h10 =>
 @wkM [(nthA s3 0), x10, (nthA s3 2)] h10 ⟨J3⟩)
 (retW (nthA s3 0) h5 Q)⟩
theorem D_laws_toUint32S_eq (a0 : AVal) (h : AHeap) (Q : KA) : adFn Try.prog ⟨fun _ => ⟨[], [], .nil⟩, fun _ => none, fun i => bif Nat.beq i 3 then [3, 4, 0] else [], []⟩ Try.f30 [a0] h Q = D_laws_toUint32S a0 h Q := by kernel_rfl
theorem D_laws_toUint32S_of {a0 : AVal} {h : AHeap} {Q : KA} (hd : D_laws_toUint32S a0 h Q) : callM Try.prog 30 [a0] h Q := callM_of (fn := Try.f30) Try.func30 (Nat.le_of_ble_eq_true (by kernel_rfl)) ((D_laws_toUint32S_eq a0 h Q).symm ▸ hd)
theorem fn_laws_toUint32S : fnT Try.prog 30 = true := by kernel_rfl
/- (*impl.Program).fault; J8: _18 _16 _17 -/
def D_impl_Program_fault (a0 : AVal) (h : AHeap) (Q : KA) : Prop :=
 mkFnM (.func 53) [a0] [] h fun x1 h1 =>
 mkFnM (.func 54) [a0] [] h1 fun x2 h2 =>
 mkFnM (.func 55) [a0] [] h2 fun x3 h3 =>
 mkFnM (.func 56) [a0] [] h3 fun x4 h4 =>
 mkFnM (.func 57) [a0] [] h4 fun x5 h5 =>
 buildSliceM Try.prog 100 5 [(0, x1), (1, x2), (2, x3), (3, x4), (4, x5)] h5 fun x6 h6 =>
 lenM Try.prog 100 x6 h6 fun x7 h7 =>
 @lpM [(i64 0), x6, x7] h7 ⟨fun s8 h8 J8 =>
 binM Try.prog .lss 3 (nthA s8 0) (nthA s8 2) h8 fun x9 h9 =>
 gdM x9
 (ixAddrM Try.prog 100 (nthA s8 1) (nthA s8 0) h9 fun x10 h10 =>
 loadM Try.prog 65 x10 h10 fun x11 h11 =>
 callV Try.prog x11 [] h11 fun x12 h12 =>
 nilM Try.prog .neq 64 x12 h12 fun x13 h13 =>
 gdM x13
 (retW x12 h13 Q)
 (binM Try.prog .add 3 (nthA s8 0) (i64 1) h13 fun x14 h14 =>
 @wkM [x14, (nthA s8 1), (nthA s8 2)] h14 ⟨J8⟩))
 (retW (.v Value.nilIface) h9 Q)⟩
theorem D_impl_Program_fault_eq (a0 : AVal) (h : AHeap) (Q : KA) : adFn Try.prog ⟨fun _ => ⟨[], [], .nil⟩, fun _ => none, fun i => bif Nat.beq i 2 then [18, 16, 17] else [], []⟩ Try.f31 [a0] h Q = D_impl_Program_fault a0 h Q := by kernel_rfl
theorem D_impl_Program_fault_of {a0 : AVal} {h : AHeap} {Q : KA} (hd : D_impl_Program_fault a0 h Q) : callM Try.prog 31 [a0] h Q := callM_of (fn := Try.f31) Try.func31 (Nat.le_of_ble_eq_true (by kernel_rfl)) ((D_impl_Program_fault_eq a0 h Q).symm ▸ hd)
theorem fn_impl_Program_fault : fnT Try.prog 31 = true := by kernel_rfl
/- impl.words; J2: _9 list _7 _8; J6: list _7 _8 _9 _22 -/
def D_impl_words (a0 a1 : AVal) (h : AHeap) (Q : KA) : Prop :=
 lenM Try.prog 45 a1 h fun x1 h1 =>
 @lpM [(i64 0), a0, a1, x1] h1 ⟨fun s2 h2 J2 =>
 binM Try.prog .lss 3 (nthA s2 0) (nthA s2 3) h2 fun x3 h3 =>
 gdM x3
 (ixAddrM Try.prog 45 (nthA s2 2) (nthA s2 0) h3 fun x4 h4 =>
 loadM Try.prog 2 x4 h4 fun x5 h5 =>
 @jnM ⟨fun J6 =>
 binM Try.prog .eql 2 x5 (i64 1) h5 fun x7 h7 =>
 gdM x7
 (ixAddrM Try.prog 28 (nthA s2 1) (nthA s2 0) h7 fun x8 h8 =>
 loadM Try.prog 88 x8 h8 fun x9 h9 =>
 binM Try.prog .gtr 88 x9 (u32 1) h9 fun x10 h10 =>
 @wkM [(nthA s2 1), (nthA s2 2), (nthA s2 3), (nthA s2 0), x10] h10 ⟨J6⟩)
 (@wkM [(nthA s2 1), (nthA s2 2), (nthA s2 3), (nthA s2 0), ff] h7 ⟨J6⟩)⟩
 ⟨fun s6 h6 =>
 gdM (nthA s6 4)
 (retW ff h6 Q)
 (binM Try.prog .add 3 (nthA s6 3) (i64 1) h6 fun x11 h11 =>
 @wkM [x11, (nthA s6 0), (nthA s6 1), (nthA s6 2)] h11 ⟨J2⟩)⟩)
 (retW tt h3 Q)⟩
theorem D_impl_words_eq (a0 a1 : AVal) (h : AHeap) (Q : KA) : adFn Try.prog ⟨fun _ => ⟨[], [], .nil⟩, fun i => bif Nat.beq i 5 then some [0, 7, 8, 9, 22] else none, fun i => bif Nat.beq i 2 then [9, 0, 7, 8] else [], []⟩ Try.f32 [a0, a1] h Q = D_impl_words a0 a1 h Q := by kernel_rfl
theorem D_impl_words_of {a0 a1 : AVal} {h : AHeap} {Q : KA} (hd : D_impl_words a0 a1 h Q) : callM Try.prog 32 [a0, a1] h Q := callM_of (fn := Try.f32) Try.func32 (Nat.le_of_ble_eq_true (by kernel_rfl)) ((D_impl_words_eq a0 a1 h Q).symm ▸ hd)
theorem fn_impl_words : fnT Try.prog 32 = true := by kernel_rfl
/- laws.eqInt64SS; J4: i b a -/
def or_laws_eqInt64SS_6 : DR := ⟨[0, 0, 3, 4, 0, 0, 48, 64, 136, 256], [0, 0, 3, 7, 0, 0, 48, 112, 255, 511], (.one 0 (.one 1 (.one 2 (.one 3 (.one 4 (.one 5 (.one 6 (.one 7 (.one 8 (.one 9 .nil))))))))))⟩
@[simp] theorem dr_laws_eqInt64SS_6 : drawnOK Try.prog (regOps Try.f33 6) or_laws_eqInt64SS_6 = True := eq_true ⟨by kernel_rfl, by kernel_rfl⟩
def D_laws_eqInt64SS (a0 a1 : AVal) (h : AHeap) (Q : KA) : Prop :=
 lenM Try.prog 22 a0 h fun x1 h1 =>
 lenM Try.prog 22 a1 h1 fun x2 h2 =>
 binM Try.prog .neq 3 x1 x2 h2 fun x3 h3 =>
 gdM x3
 (retW ff h3 Q)
 (@lpM [(i64 0), a1, a0] h3 ⟨fun s4 h4 J4 =>
 lenM Try.prog 22 (nthA s4 2) h4 fun x5 h5 =>
 binM Try.prog .lss 3 (nthA s4 0) x5 h5 fun x6 h6 =>
 gdM x6
 (And (drawnOK Try.prog (regOps Try.f33 6) or_laws_eqInt64SS_6) (ixAddrM Try.prog 22 (nthA s4 2) (nthA s4 0) h6 fun x7 h7 =>
 loadM Try.prog 45 x7 h7 fun x8 h8 =>
 ixAddrM Try.prog 22 (nthA s4 1) (nthA s4 0) h8 fun x9 h9 =>
 loadM Try.prog 45 x9 h9 fun x10 h10 =>
 @clM Try.prog 15 [x8, x10] h10 ⟨fun x11 h11 =>
 unM .not x11 h11 fun x12 h12 =>
 gdM x12
 (retW ff h12 Q)
 (binM Try.prog .add 3 (nthA s4 0) (i64 1) h12 fun x13 h13 =>
 @wkM [x13, (nthA s4 1), (nthA s4 2)] h13 ⟨J4⟩)⟩))
 (retW tt h6 Q)⟩)
theorem D_laws_eqInt64SS_eq (a0 a1 : AVal) (h : AHeap) (Q : KA) : adFn Try.prog ⟨fun i => bif Nat.beq i 6 then or_laws_eqInt64SS_6 else ⟨[], [], .nil⟩, fun _ => none, fun i => bif Nat.beq i 4 then [5, 1, 0] else [], []⟩ Try.f33 [a0, a1] h Q = D_laws_eqInt64SS a0 a1 h Q := by kernel_rfl
theorem D_laws_eqInt64SS_of {a0 a1 : AVal} {h : AHeap} {Q : KA} (hd : D_laws_eqInt64SS a0 a1 h Q) : callM Try.prog 33 [a0, a1] h Q := callM_of (fn := Try.f33) Try.func33 (Nat.le_of_ble_eq_true (by kernel_rfl)) ((D_laws_eqInt64SS_eq a0 a1 h Q).symm ▸ hd)
theorem fn_laws_eqInt64SS : fnT Try.prog 33 = true := by kernel_rfl
/- laws.eqConstS; J4: i b a -/
def or_laws_eqConstS_6 : DR := ⟨[0, 0, 3, 4, 0, 0, 48, 64, 136, 256], [0, 0, 3, 7, 0, 0, 48, 112, 255, 511], (.one 0 (.one 1 (.one 2 (.one 3 (.one 4 (.one 5 (.one 6 (.one 7 (.one 8 (.one 9 .nil))))))))))⟩
@[simp] theorem dr_laws_eqConstS_6 : drawnOK Try.prog (regOps Try.f34 6) or_laws_eqConstS_6 = True := eq_true ⟨by kernel_rfl, by kernel_rfl⟩
def D_laws_eqConstS (a0 a1 : AVal) (h : AHeap) (Q : KA) : Prop :=
 lenM Try.prog 34 a0 h fun x1 h1 =>
 lenM Try.prog 34 a1 h1 fun x2 h2 =>
 binM Try.prog .neq 3 x1 x2 h2 fun x3 h3 =>
 gdM x3
 (retW ff h3 Q)
 (@lpM [(i64 0), a1, a0] h3 ⟨fun s4 h4 J4 =>
 lenM Try.prog 34 (nthA s4 2) h4 fun x5 h5 =>
 binM Try.prog .lss 3 (nthA s4 0) x5 h5 fun x6 h6 =>
 gdM x6
 (And (drawnOK Try.prog (regOps Try.f34 6) or_laws_eqConstS_6) (ixAddrM Try.prog 34 (nthA s4 2) (nthA s4 0) h6 fun x7 h7 =>
 loadM Try.prog 91 x7 h7 fun x8 h8 =>
 ixAddrM Try.prog 34 (nthA s4 1) (nthA s4 0) h8 fun x9 h9 =>
 loadM Try.prog 91 x9 h9 fun x10 h10 =>
 @clM Try.prog 58 [x8, x10] h10 ⟨fun x11 h11 =>
 unM .not x11 h11 fun x12 h12 =>
 gdM x12
 (retW ff h12 Q)
 (binM Try.prog .add 3 (nthA s4 0) (i64 1) h12 fun x13 h13 =>
 @wkM [x13, (nthA s4 1), (nthA s4 2)] h13 ⟨J4⟩)⟩))
 (retW tt h6 Q)⟩)
theorem D_laws_eqConstS_eq (a0 a1 : AVal) (h : AHeap) (Q : KA) : adFn Try.prog ⟨fun i => bif Nat.beq i 6 then or_laws_eqConstS_6 else ⟨[], [], .nil⟩, fun _ => none, fun i => bif Nat.beq i 4 then [5, 1, 0] else [], []⟩ Try.f34 [a0, a1] h Q = D_laws_eqConstS a0 a1 h Q := by kernel_rfl
theorem D_laws_eqConstS_of {a0 a1 : AVal} {h : AHeap} {Q : KA} (hd : D_laws_eqConstS a0 a1 h Q) : callM Try.prog 34 [a0, a1] h Q := callM_of (fn := Try.f34) Try.func34 (Nat.le_of_ble_eq_true (by kernel_rfl)) ((D_laws_eqConstS_eq a0 a1 h Q).symm ▸ hd)
theorem fn_laws_eqConstS : fnT Try.prog 34 = true := by kernel_rfl
/- laws.eqFuncS; J4: i b a -/
def or_laws_eqFuncS_6 : DR := ⟨[0, 0, 3, 4, 0, 0, 48, 64, 136, 256], [0, 0, 3, 7, 0, 0, 48, 112, 255, 511], (.one 0 (.one 1 (.one 2 (.one 3 (.one 4 (.one 5 (.one 6 (.one 7 (.one 8 (.one 9 .nil))))))))))⟩
@[simp] theorem dr_laws_eqFuncS_6 : drawnOK Try.prog (regOps Try.f35 6) or_laws_eqFuncS_6 = True := eq_true ⟨by kernel_rfl, by kernel_rfl⟩
def D_laws_eqFuncS (a0 a1 : AVal) (h : AHeap) (Q : KA) : Prop :=
 lenM Try.prog 35 a0 h fun x1 h1 =>
 lenM Try.prog 35 a1 h1 fun x2 h2 =>
 binM Try.prog .neq 3 x1 x2 h2 fun x3 h3 =>
 gdM x3
 (retW ff h3 Q)
 (@lpM [(i64 0), a1, a0] h3 ⟨fun s4 h4 J4 =>
 lenM Try.prog 35 (nthA s4 2) h4 fun x5 h5 =>
 binM Try.prog .lss 3 (nthA s4 0) x5 h5 fun x6 h6 =>
 gdM x6
 (And (drawnOK Try.prog (regOps Try.f35 6) or_laws_eqFuncS_6) (ixAddrM Try.prog 35 (nthA s4 2) (nthA s4 0) h6 fun x7 h7 =>
 loadM Try.prog 74 x7 h7 fun x8 h8 =>
 ixAddrM Try.prog 35 (nthA s4 1) (nthA s4 0) h8 fun x9 h9 =>
 loadM Try.prog 74 x9 h9 fun x10 h10 =>
 @clM Try.prog 59 [x8, x10] h10 ⟨fun x11 h11 =>
 unM .not x11 h11 fun x12 h12 =>
 gdM x12
 (retW ff h12 Q)
 (binM Try.prog .add 3 (nthA s4 0) (i64 1) h12 fun x13 h13 =>
 @wkM [x13, (nthA s4 1), (nthA s4 2)] h13 ⟨J4⟩)⟩))
 (retW tt h6 Q)⟩)
theorem D_laws_eqFuncS_eq (a0 a1 : AVal) (h : AHeap) (Q : KA) : adFn Try.prog ⟨fun i => bif Nat.beq i 6 then or_laws_eqFuncS_6 else ⟨[], [], .nil⟩, fun _ => none, fun i => bif Nat.beq i 4 then [5, 1, 0] else [], []⟩ Try.f35 [a0, a1] h Q = D_laws_eqFuncS a0 a1 h Q := by kernel_rfl
theorem D_laws_eqFuncS_of {a0 a1 : AVal} {h : AHeap} {Q : KA} (hd : D_laws_eqFuncS a0 a1 h Q) : callM Try.prog 35 [a0, a1] h Q := callM_of (fn := Try.f35) Try.func35 (Nat.le_of_ble_eq_true (by kernel_rfl)) ((D_laws_eqFuncS_eq a0 a1 h Q).symm ▸ hd)
theorem fn_laws_eqFuncS : fnT Try.prog 35 = true := by kernel_rfl
/- laws.eqCertS; J4: i b a -/
def or_laws_eqCertS_6 : DR := ⟨[0, 0, 3, 4, 0, 0, 48, 64, 136, 256], [0, 0, 3, 7, 0, 0, 48, 112, 255, 511], (.one 0 (.one 1 (.one 2 (.one 3 (.one 4 (.one 5 (.one 6 (.one 7 (.one 8 (.one 9 .nil))))))))))⟩
@[simp] theorem dr_laws_eqCertS_6 : drawnOK Try.prog (regOps Try.f36 6) or_laws_eqCertS_6 = True := eq_true ⟨by kernel_rfl, by kernel_rfl⟩
def D_laws_eqCertS (a0 a1 : AVal) (h : AHeap) (Q : KA) : Prop :=
 lenM Try.prog 36 a0 h fun x1 h1 =>
 lenM Try.prog 36 a1 h1 fun x2 h2 =>
 binM Try.prog .neq 3 x1 x2 h2 fun x3 h3 =>
 gdM x3
 (retW ff h3 Q)
 (@lpM [(i64 0), a1, a0] h3 ⟨fun s4 h4 J4 =>
 lenM Try.prog 36 (nthA s4 2) h4 fun x5 h5 =>
 binM Try.prog .lss 3 (nthA s4 0) x5 h5 fun x6 h6 =>
 gdM x6
 (And (drawnOK Try.prog (regOps Try.f36 6) or_laws_eqCertS_6) (ixAddrM Try.prog 36 (nthA s4 2) (nthA s4 0) h6 fun x7 h7 =>
 loadM Try.prog 96 x7 h7 fun x8 h8 =>
 ixAddrM Try.prog 36 (nthA s4 1) (nthA s4 0) h8 fun x9 h9 =>
 loadM Try.prog 96 x9 h9 fun x10 h10 =>
 @clM Try.prog 60 [x8, x10] h10 ⟨fun x11 h11 =>
 unM .not x11 h11 fun x12 h12 =>
 gdM x12
 (retW ff h12 Q)
 (binM Try.prog .add 3 (nthA s4 0) (i64 1) h12 fun x13 h13 =>
 @wkM [x13, (nthA s4 1), (nthA s4 2)] h13 ⟨J4⟩)⟩))
 (retW tt h6 Q)⟩)
theorem D_laws_eqCertS_eq (a0 a1 : AVal) (h : AHeap) (Q : KA) : adFn Try.prog ⟨fun i => bif Nat.beq i 6 then or_laws_eqCertS_6 else ⟨[], [], .nil⟩, fun _ => none, fun i => bif Nat.beq i 4 then [5, 1, 0] else [], []⟩ Try.f36 [a0, a1] h Q = D_laws_eqCertS a0 a1 h Q := by kernel_rfl
theorem D_laws_eqCertS_of {a0 a1 : AVal} {h : AHeap} {Q : KA} (hd : D_laws_eqCertS a0 a1 h Q) : callM Try.prog 36 [a0, a1] h Q := callM_of (fn := Try.f36) Try.func36 (Nat.le_of_ble_eq_true (by kernel_rfl)) ((D_laws_eqCertS_eq a0 a1 h Q).symm ▸ hd)
theorem fn_laws_eqCertS : fnT Try.prog 36 = true := by kernel_rfl
/- laws.eqUint32S; J4: i b a -/
def or_laws_eqUint32S_6 : DR := ⟨[0, 0, 3, 4, 0, 0, 48, 64, 136], [0, 0, 3, 7, 0, 0, 48, 112, 255], (.one 0 (.one 1 (.one 2 (.one 3 (.one 4 (.one 5 (.one 6 (.one 7 (.one 8 .nil)))))))))⟩
@[simp] theorem dr_laws_eqUint32S_6 : drawnOK Try.prog (regOps Try.f37 6) or_laws_eqUint32S_6 = True := eq_true ⟨by kernel_rfl, by kernel_rfl⟩
def D_laws_eqUint32S (a0 a1 : AVal) (h : AHeap) (Q : KA) : Prop :=
 lenM Try.prog 28 a0 h fun x1 h1 =>
 lenM Try.prog 28 a1 h1 fun x2 h2 =>
 binM Try.prog .neq 3 x1 x2 h2 fun x3 h3 =>
 gdM x3
 (retW ff h3 Q)
 (@lpM [(i64 0), a1, a0] h3 ⟨fun s4 h4 J4 =>
 lenM Try.prog 28 (nthA s4 2) h4 fun x5 h5 =>
 binM Try.prog .lss 3 (nthA s4 0) x5 h5 fun x6 h6 =>
 gdM x6
 (And (drawnOK Try.prog (regOps Try.f37 6) or_laws_eqUint32S_6) (ixAddrM Try.prog 28 (nthA s4 2) (nthA s4 0) h6 fun x7 h7 =>
 loadM Try.prog 88 x7 h7 fun x8 h8 =>
 ixAddrM Try.prog 28 (nthA s4 1) (nthA s4 0) h8 fun x9 h9 =>
 loadM Try.prog 88 x9 h9 fun x10 h10 =>
 binM Try.prog .neq 88 x8 x10 h10 fun x11 h11 =>
 gdM x11
 (retW ff h11 Q)
 (binM Try.prog .add 3 (nthA s4 0) (i64 1) h11 fun x12 h12 =>
 @wkM [x12, (nthA s4 1), (nthA s4 2)] h12 ⟨J4⟩)))
 (retW tt h6 Q)⟩)
theorem D_laws_eqUint32S_eq (a0 a1 : AVal) (h : AHeap) (Q : KA) : adFn Try.prog ⟨fun i => bif Nat.beq i 6 then or_laws_eqUint32S_6 else ⟨[], [], .nil⟩, fun _ => none, fun i => bif Nat.beq i 4 then [5, 1, 0] else [], []⟩ Try.f37 [a0, a1] h Q = D_laws_eqUint32S a0 a1 h Q := by kernel_rfl
theorem D_laws_eqUint32S_of {a0 a1 : AVal} {h : AHeap} {Q : KA} (hd : D_laws_eqUint32S a0 a1 h Q) : callM Try.prog 37 [a0, a1] h Q := callM_of (fn := Try.f37) Try.func37 (Nat.le_of_ble_eq_true (by kernel_rfl)) ((D_laws_eqUint32S_eq a0 a1 h Q).symm ▸ hd)
theorem fn_laws_eqUint32S : fnT Try.prog 37 = true := by kernel_rfl
/- laws.markInt64SS; J1: k i a -/
def D_laws_markInt64SS (a0 a1 : AVal) (h : AHeap) (Q : KA) : Prop :=
 @lpM [a1, (i64 0), a0] h ⟨fun s1 h1 J1 =>
 lenM Try.prog 22 (nthA s1 2) h1 fun x2 h2 =>
 binM Try.prog .lss 3 (nthA s1 1) x2 h2 fun x3 h3 =>
 gdM x3
 (ixAddrM Try.prog 22 (nthA s1 2) (nthA s1 1) h3 fun x4 h4 =>
 loadM Try.prog 45 x4 h4 fun x5 h5 =>
 @clM Try.prog 17 [x5, (nthA s1 0)] h5 ⟨fun x6 h6 =>
 binM Try.prog .add 3 (nthA s1 1) (i64 1) h6 fun x7 h7 =>
 @wkM [x6, x7, (nthA s1 2)] h7 ⟨J1⟩⟩)
 (retW (nthA s1 0) h3 Q)⟩
theorem D_laws_markInt64SS_eq (a0 a1 : AVal) (h : AHeap) (Q : KA) : adFn Try.prog ⟨fun _ => ⟨[], [], .nil⟩, fun _ => none, fun i => bif Nat.beq i 2 then [1, 5, 0] else [], []⟩ Try.f38 [a0, a1] h Q = D_laws_markInt64SS a0 a1 h Q := by kernel_rfl
theorem D_laws_markInt64SS_of {a0 a1 : AVal} {h : AHeap} {Q : KA} (hd : D_laws_markInt64SS a0 a1 h Q) : callM Try.prog 38 [a0, a1] h Q := callM_of (fn := Try.f38) Try.func38 (Nat.le_of_ble_eq_true (by kernel_rfl)) ((D_laws_markInt64SS_eq a0 a1 h Q).symm ▸ hd)
theorem fn_laws_markInt64SS : fnT Try.prog 38 = true := by kernel_rfl
/- laws.markConstS; J1: k i a -/
def D_laws_markConstS (a0 a1 : AVal) (h : AHeap) (Q : KA) : Prop :=
 @lpM [a1, (i64 0), a0] h ⟨fun s1 h1 J1 =>
 lenM Try.prog 34 (nthA s1 2) h1 fun x2 h2 =>
 binM Try.prog .lss 3 (nthA s1 1) x2 h2 fun x3 h3 =>
 gdM x3
 (ixAddrM Try.prog 34 (nthA s1 2) (nthA s1 1) h3 fun x4 h4 =>
 fldAddrM Try.prog 91 x4 0 h4 fun x5 h5 =>
 storeM Try.prog 2 x5 (nthA s1 0) h5 fun x6 h6 =>
 binM Try.prog .add 3 (nthA s1 0) (i64 1) h6 fun x7 h7 =>
 convM Try.prog 3 88 x7 h7 fun x8 h8 =>
 ixAddrM Try.prog 34 (nthA s1 2) (nthA s1 1) h8 fun x9 h9 =>
 fldAddrM Try.prog 91 x9 1 h9 fun x10 h10 =>
 storeM Try.prog 88 x10 x8 h10 fun x11 h11 =>
 binM Try.prog .add 3 x7 (i64 1) h11 fun x12 h12 =>
 binM Try.prog .add 3 (nthA s1 1) (i64 1) h12 fun x13 h13 =>
 @wkM [x12, x13, (nthA s1 2)] h13 ⟨J1⟩)
 (retW (nthA s1 0) h3 Q)⟩
theorem D_laws_markConstS_eq (a0 a1 : AVal) (h : AHeap) (Q : KA) : adFn Try.prog ⟨fun _ => ⟨[], [], .nil⟩, fun _ => none, fun i => bif Nat.beq i 2 then [1, 5, 0] else [], []⟩ Try.f39 [a0, a1] h Q = D_laws_markConstS a0 a1 h Q := by kernel_rfl
theorem D_laws_markConstS_of {a0 a1 : AVal} {h : AHeap} {Q : KA} (hd : D_laws_markConstS a0 a1 h Q) : callM Try.prog 39 [a0, a1] h Q := callM_of (fn := Try.f39) Try.func39 (Nat.le_of_ble_eq_true (by kernel_rfl)) ((D_laws_markConstS_eq a0 a1 h Q).symm ▸ hd)
theorem fn_laws_markConstS : fnT Try.prog 39 = true := by kernel_rfl
/- laws.markFuncS; J1: k i a -/
def D_laws_markFuncS (a0 a1 : AVal) (h : AHeap) (Q : KA) : Prop :=
 @lpM [a1, (i64 0), a0] h ⟨fun s1 h1 J1 =>
 lenM Try.prog 35 (nthA s1 2) h1 fun x2 h2 =>
 binM Try.prog .lss 3 (nthA s1 1) x2 h2 fun x3 h3 =>
 gdM x3
 (ixAddrM Try.prog 35 (nthA s1 2) (nthA s1 1) h3 fun x4 h4 =>
 fldAddrM Try.prog 74 x4 0 h4 fun x5 h5 =>
 loadM Try.prog 45 x5 h5 fun x6 h6 =>
 @clM Try.prog 17 [x6, (nthA s1 0)] h6 ⟨fun x7 h7 =>
 ixAddrM Try.prog 35 (nthA s1 2) (nthA s1 1) h7 fun x8 h8 =>
 fldAddrM Try.prog 74 x8 1 h8 fun x9 h9 =>
 storeM Try.prog 2 x9 x7 h9 fun x10 h10 =>
 binM Try.prog .add 3 x7 (i64 1) h10 fun x11 h11 =>
 ixAddrM Try.prog 35 (nthA s1 2) (nthA s1 1) h11 fun x12 h12 =>
 fldAddrM Try.prog 74 x12 2 h12 fun x13 h13 =>
 loadM Try.prog 45 x13 h13 fun x14 h14 =>
 @clM Try.prog 17 [x14, x11] h14 ⟨fun x15 h15 =>
 ixAddrM Try.prog 35 (nthA s1 2) (nthA s1 1) h15 fun x16 h16 =>
 fldAddrM Try.prog 74 x16 3 h16 fun x17 h17 =>
 loadM Try.prog 72 x17 h17 fun x18 h18 =>
 @clM Try.prog 61 [x18, x15] h18 ⟨fun x19 h19 =>
 binM Try.prog .add 3 (nthA s1 1) (i64 1) h19 fun x20 h20 =>
 @wkM [x19, x20, (nthA s1 2)] h20 ⟨J1⟩⟩⟩⟩)
 (retW (nthA s1 0) h3 Q)⟩
theorem D_laws_markFuncS_eq (a0 a1 : AVal) (h : AHeap) (Q : KA) : adFn Try.prog ⟨fun _ => ⟨[], [], .nil⟩, fun _ => none, fun i => bif Nat.beq i 2 then [1, 5, 0] else [], []⟩ Try.f40 [a0, a1] h Q = D_laws_markFuncS a0 a1 h Q := by kernel_rfl
theorem D_laws_markFuncS_of {a0 a1 : AVal} {h : AHeap} {Q : KA} (hd : D_laws_markFuncS a0 a1 h Q) : callM Try.prog 40 [a0, a1] h Q := callM_of (fn := Try.f40) Try.func40 (Nat.le_of_ble_eq_true (by kernel_rfl)) ((D_laws_markFuncS_eq a0 a1 h Q).symm ▸ hd)
theorem fn_laws_markFuncS : fnT Try.prog 40 = true := by kernel_rfl
/- laws.markCertS; J1: k i a -/
def D_laws_markCertS (a0 a1 : AVal) (h : AHeap) (Q : KA) : Prop :=
 @lpM [a1, (i64 0), a0] h ⟨fun s1 h1 J1 =>
 lenM Try.prog 36 (nthA s1 2) h1 fun x2 h2 =>
 binM Try.prog .lss 3 (nthA s1 1) x2 h2 fun x3 h3 =>
 gdM x3
 (ixAddrM Try.prog 36 (nthA s1 2) (nthA s1 1) h3 fun x4 h4 =>
 fldAddrM Try.prog 96 x4 0 h4 fun x5 h5 =>
 storeM Try.prog 2 x5 (nthA s1 0) h5 fun x6 h6 =>
 binM Try.prog .add 3 (nthA s1 0) (i64 1) h6 fun x7 h7 =>
 ixAddrM Try.prog 36 (nthA s1 2) (nthA s1 1) h7 fun x8 h8 =>
 fldAddrM Try.prog 96 x8 1 h8 fun x9 h9 =>
 storeM Try.prog 2 x9 x7 h9 fun x10 h10 =>
 binM Try.prog .add 3 x7 (i64 1) h10 fun x11 h11 =>
 ixAddrM Try.prog 36 (nthA s1 2) (nthA s1 1) h11 fun x12 h12 =>
 fldAddrM Try.prog 96 x12 2 h12 fun x13 h13 =>
 storeM Try.prog 2 x13 x11 h13 fun x14 h14 =>
 binM Try.prog .add 3 x11 (i64 1) h14 fun x15 h15 =>
 convM Try.prog 3 88 x15 h15 fun x16 h16 =>
 ixAddrM Try.prog 36 (nthA s1 2) (nthA s1 1) h16 fun x17 h17 =>
 fldAddrM Try.prog 96 x17 3 h17 fun x18 h18 =>
 storeM Try.prog 88 x18 x16 h18 fun x19 h19 =>
 binM Try.prog .add 3 x15 (i64 1) h19 fun x20 h20 =>
 binM Try.prog .add 3 (nthA s1 1) (i64 1) h20 fun x21 h21 =>
 @wkM [x20, x21, (nthA s1 2)] h21 ⟨J1⟩)
 (retW (nthA s1 0) h3 Q)⟩
theorem D_laws_markCertS_eq (a0 a1 : AVal) (h : AHeap) (Q : KA) : adFn Try.prog ⟨fun _ => ⟨[], [], .nil⟩, fun _ => none, fun i => bif Nat.beq i 2 then [1, 5, 0] else [], []⟩ Try.f41 [a0, a1] h Q = D_laws_markCertS a0 a1 h Q := by kernel_rfl
theorem D_laws_markCertS_of {a0 a1 : AVal} {h : AHeap} {Q : KA} (hd : D_laws_markCertS a0 a1 h Q) : callM Try.prog 41 [a0, a1] h Q := callM_of (fn := Try.f41) Try.func41 (Nat.le_of_ble_eq_true (by kernel_rfl)) ((D_laws_markCertS_eq a0 a1 h Q).symm ▸ hd)
theorem fn_laws_markCertS : fnT Try.prog 41 = true := by kernel_rfl
/- laws.szInt64S -/
def D_laws_szInt64S (a0 a1 : AVal) (h : AHeap) (Q : KA) : Prop :=
 lenM Try.prog 45 a0 h fun x1 h1 =>
 binM Try.prog .sub 3 a1 x1 h1 fun x2 h2 =>
 binM Try.prog .lss 3 x2 (i64 0) h2 fun x3 h3 =>
 gdM x3
 (retW (i64 (-1)) h3 Q)
 (retW x2 h3 Q)
theorem D_laws_szInt64S_eq (a0 a1 : AVal) (h : AHeap) (Q : KA) : adFn Try.prog ⟨fun _ => ⟨[], [], .nil⟩, fun _ => none, fun _ => [], []⟩ Try.f42 [a0, a1] h Q = D_laws_szInt64S a0 a1 h Q := by kernel_rfl
theorem D_laws_szInt64S_of {a0 a1 : AVal} {h : AHeap} {Q : KA} (hd : D_laws_szInt64S a0 a1 h Q) : callM Try.prog 42 [a0, a1] h Q := callM_of (fn := Try.f42) Try.func42 (Nat.le_of_ble_eq_true (by kernel_rfl)) ((D_laws_szInt64S_eq a0 a1 h Q).symm ▸ hd)
theorem fn_laws_szInt64S : fnT Try.prog 42 = true := by kernel_rfl
/- laws.szFunc -/
def D_laws_szFunc (a0 a1 : AVal) (h : AHeap) (Q : KA) : Prop :=
 boxFM a0 h fun x1 h1 =>
 fldAddrM Try.prog 83 x1 0 h1 fun x2 h2 =>
 loadM Try.prog 45 x2 h2 fun x3 h3 =>
 @clM Try.prog 42 [x3, a1] h3 ⟨fun x4 h4 =>
 binM Try.prog .lss 3 x4 (i64 0) h4 fun x5 h5 =>
 gdM x5
 (retW (i64 (-1)) h5 Q)
 (fldAddrM Try.prog 83 x1 2 h5 fun x6 h6 =>
 loadM Try.prog 45 x6 h6 fun x7 h7 =>
 @clM Try.prog 42 [x7, x4] h7 ⟨fun x8 h8 =>
 binM Try.prog .lss 3 x8 (i64 0) h8 fun x9 h9 =>
 gdM x9
 (retW (i64 (-1)) h9 Q)
 (fldAddrM Try.prog 83 x1 3 h9 fun x10 h10 =>
 loadM Try.prog 81 x10 h10 fun x11 h11 =>
 @clM Try.prog 62 [x11, x8] h11 ⟨fun x12 h12 =>
 binM Try.prog .lss 3 x12 (i64 0) h12 fun x13 h13 =>
 gdM x13
 (retW (i64 (-1)) h13 Q)
 (retW x12 h13 Q)⟩)⟩)⟩
theorem D_laws_szFunc_eq (a0 a1 : AVal) (h : AHeap) (Q : KA) : adFn Try.prog ⟨fun _ => ⟨[], [], .nil⟩, fun _ => none, fun _ => [], [2]⟩ Try.f43 [a0, a1] h Q = D_laws_szFunc a0 a1 h Q := by kernel_rfl
theorem D_laws_szFunc_of {a0 a1 : AVal} {h : AHeap} {Q : KA} (hd : D_laws_szFunc a0 a1 h Q) : callM Try.prog 43 [a0, a1] h Q := callM_of (fn := Try.f43) Try.func43 (Nat.le_of_ble_eq_true (by kernel_rfl)) ((D_laws_szFunc_eq a0 a1 h Q).symm ▸ hd)
theorem fn_laws_szFunc : fnT Try.prog 43 = true := by kernel_rfl
/- spec.l3Types; J1: i list -/
def D_spec_l3Types (a0 : AVal) (h : AHeap) (Q : KA) : Prop :=
 @lpM [(i64 0), a0] h ⟨fun s1 h1 J1 =>
 lenM Try.prog 45 (nthA s1 1) h1 fun x2 h2 =>
 binM Try.prog .lss 3 (nthA s1 0) x2 h2 fun x3 h3 =>
 gdM x3
 (ixAddrM Try.prog 45 (nthA s1 1) (nthA s1 0) h3 fun x4 h4 =>
 loadM Try.prog 2 x4 h4 fun x5 h5 =>
 @clM Try.prog 63 [x5] h5 ⟨fun x6 h6 =>
 unM .not x6 h6 fun x7 h7 =>
 gdM x7
 (retW ff h7 Q)
 (binM Try.prog .add 3 (nthA s1 0) (i64 1) h7 fun x8 h8 =>
 @wkM [x8, (nthA s1 1)] h8 ⟨J1⟩)⟩)
 (retW tt h3 Q)⟩
theorem D_spec_l3Types_eq (a0 : AVal) (h : AHeap) (Q : KA) : adFn Try.prog ⟨fun _ => ⟨[], [], .nil⟩, fun _ => none, fun i => bif Nat.beq i 2 then [3, 0] else [], []⟩ Try.f44 [a0] h Q = D_spec_l3Types a0 h Q := by kernel_rfl
theorem D_spec_l3Types_of {a0 : AVal} {h : AHeap} {Q : KA} (hd : D_spec_l3Types a0 h Q) : callM Try.prog 44 [a0] h Q := callM_of (fn := Try.f44) Try.func44 (Nat.le_of_ble_eq_true (by kernel_rfl)) ((D_spec_l3Types_eq a0 h Q).symm ▸ hd)
theorem fn_spec_l3Types : fnT Try.prog 44 = true := by kernel_rfl
/- spec.l3Consts; J2: p i; J13: p i _30 -/
def D_spec_l3Consts (a0 : AVal) (h : AHeap) (Q : KA) : Prop :=
 boxFM a0 h fun x1 h1 =>
 @lpM [x1, (i64 0)] h1 ⟨fun s2 h2 J2 =>
 fldAddrM Try.prog 38 (nthA s2 0) 1 h2 fun x3 h3 =>
 loadM Try.prog 34 x3 h3 fun x4 h4 =>
 lenM Try.prog 34 x4 h4 fun x5 h5 =>
 binM Try.prog .lss 3 (nthA s2 1) x5 h5 fun x6 h6 =>
 gdM x6
 (fldAddrM Try.prog 38 (nthA s2 0) 1 h6 fun x7 h7 =>
 loadM Try.prog 34 x7 h7 fun x8 h8 =>
 ixAddrM Try.prog 34 x8 (nthA s2 1) h8 fun x9 h9 =>
 loadM Try.prog 91 x9 h9 fun x10 h10 =>
 allocM Try.prog 91 h10 fun x11 h11 =>
 storeM Try.prog 91 x11 x10 h11 fun x12 h12 =>
 @jnM ⟨fun J13 =>
 fldAddrM Try.prog 91 x11 0 h12 fun x14 h14 =>
 loadM Try.prog 2 x14 h14 fun x15 h15 =>
 @clM Try.prog 63 [x15] h15 ⟨fun x16 h16 =>
 unM .not x16 h16 fun x17 h17 =>
 gdM x17
 (@wkM [(nthA s2 0), (nthA s2 1), tt] h17 ⟨J13⟩)
 (fldAddrM Try.prog 91 x11 0 h17 fun x18 h18 =>
 loadM Try.prog 2 x18 h18 fun x19 h19 =>
 binM Try.prog .eql 2 x19 (i64 1) h19 fun x20 h20 =>
 gdM x20
 (fldAddrM Try.prog 91 x11 1 h20 fun x21 h21 =>
 loadM Try.prog 88 x21 h21 fun x22 h22 =>
 binM Try.prog .gtr 88 x22 (u32 1) h22 fun x23 h23 =>
 @wkM [(nthA s2 0), (nthA s2 1), x23] h23 ⟨J13⟩)
 (@wkM [(nthA s2 0), (nthA s2 1), ff] h20 ⟨J13⟩))⟩⟩
 ⟨fun s13 h13 =>
 gdM (nthA s13 2)
 (retW ff h13 Q)
 (binM Try.prog .add 3 (nthA s13 1) (i64 1) h13 fun x24 h24 =>
 @wkM [(nthA s13 0), x24] h24 ⟨J2⟩)⟩)
 (fldAddrM Try.prog 38 (nthA s2 0) 1 h6 fun x25 h25 =>
 loadM Try.prog 34 x25 h25 fun x26 h26 =>
 lenM Try.prog 34 x26 h26 fun x27 h27 =>
 binM Try.prog .leq 3 x27 (i64 64) h27 fun x28 h28 =>
 retW x28 h28 Q)⟩
theorem D_spec_l3Consts_eq (a0 : AVal) (h : AHeap) (Q : KA) : adFn Try.prog ⟨fun _ => ⟨[], [], .nil⟩, fun i => bif Nat.beq i 6 then some [1, 3, 30] else none, fun i => bif Nat.beq i 2 then [1, 3] else [], [1]⟩ Try.f45 [a0] h Q = D_spec_l3Consts a0 h Q := by kernel_rfl
theorem D_spec_l3Consts_of {a0 : AVal} {h : AHeap} {Q : KA} (hd : D_spec_l3Consts a0 h Q) : callM Try.prog 45 [a0] h Q := callM_of (fn := Try.f45) Try.func45 (Nat.le_of_ble_eq_true (by kernel_rfl)) ((D_spec_l3Consts_eq a0 h Q).symm ▸ hd)
theorem fn_spec_l3Consts : fnT Try.prog 45 = true := by kernel_rfl
/- spec.l3Func; J23: _4; J48: _4; J49: _4; J24: f main _51; J2: f main _30 -/
def D_spec_l3Func (a0 a1 : AVal) (h : AHeap) (Q : KA) : Prop :=
 boxFM a0 h fun x1 h1 =>
 @jnM ⟨fun J2 =>
 fldAddrM Try.prog 74 x1 0 h1 fun x3 h3 =>
 loadM Try.prog 45 x3 h3 fun x4 h4 =>
 lenM Try.prog 45 x4 h4 fun x5 h5 =>
 binM Try.prog .gtr 3 x5 (i64 8) h5 fun x6 h6 =>
 gdM x6
 (@wkM [x1, a1, tt] h6 ⟨J2⟩)
 (fldAddrM Try.prog 74 x1 0 h6 fun x7 h7 =>
 loadM Try.prog 45 x7 h7 fun x8 h8 =>
 lenM Try.prog 45 x8 h8 fun x9 h9 =>
 fldAddrM Try.prog 74 x1 2 h9 fun x10 h10 =>
 loadM Try.prog 45 x10 h10 fun x11 h11 =>
 lenM Try.prog 45 x11 h11 fun x12 h12 =>
 binM Try.prog .add 3 x9 x12 h12 fun x13 h13 =>
 binM Try.prog .gtr 3 x13 (i64 32) h13 fun x14 h14 =>
 gdM x14
 (@wkM [x1, a1, tt] h14 ⟨J2⟩)
 (fldAddrM Try.prog 74 x1 0 h14 fun x15 h15 =>
 loadM Try.prog 45 x15 h15 fun x16 h16 =>
 @clM Try.prog 44 [x16] h16 ⟨fun x17 h17 =>
 unM .not x17 h17 fun x18 h18 =>
 gdM x18
 (@wkM [x1, a1, tt] h18 ⟨J2⟩)
 (fldAddrM Try.prog 74 x1 2 h18 fun x19 h19 =>
 loadM Try.prog 45 x19 h19 fun x20 h20 =>
 @clM Try.prog 44 [x20] h20 ⟨fun x21 h21 =>
 unM .not x21 h21 fun x22 h22 =>
 @wkM [x1, a1, x22] h22 ⟨J2⟩⟩)⟩))⟩
 ⟨fun s2 h2 =>
 gdM (nthA s2 2)
 (@jnM ⟨fun J23 =>
 @wkM [ff] h2 ⟨J23⟩⟩
 ⟨fun s23 h23 =>
 retW (nthA s23 0) h23 Q⟩)
 (@jnM ⟨fun J24 =>
 fldAddrM Try.prog 74 (nthA s2 0) 1 h2 fun x25 h25 =>
 loadM Try.prog 2 x25 h25 fun x26 h26 =>
 binM Try.prog .neq 2 x26 (i64 0) h26 fun x27 h27 =>
 gdM x27
 (fldAddrM Try.prog 74 (nthA s2 0) 1 h27 fun x28 h28 =>
 loadM Try.prog 2 x28 h28 fun x29 h29 =>
 @clM Try.prog 63 [x29] h29 ⟨fun x30 h30 =>
 unM .not x30 h30 fun x31 h31 =>
 gdM x31
 (@wkM [(nthA s2 0), (nthA s2 1), tt] h31 ⟨J24⟩)
 (fldAddrM Try.prog 74 (nthA s2 0) 3 h31 fun x32 h32 =>
 loadM Try.prog 72 x32 h32 fun x33 h33 =>
 lenM Try.prog 72 x33 h33 fun x34 h34 =>
 binM Try.prog .eql 3 x34 (i64 0) h34 fun x35 h35 =>
 gdM x35
 (@wkM [(nthA s2 0), (nthA s2 1), tt] h35 ⟨J24⟩)
 (fldAddrM Try.prog 74 (nthA s2 0) 3 h35 fun x36 h36 =>
 loadM Try.prog 72 x36 h36 fun x37 h37 =>
 lenM Try.prog 72 x37 h37 fun x38 h38 =>
 binM Try.prog .gtr 3 x38 (i64 1024) h38 fun x39 h39 =>
 @wkM [(nthA s2 0), (nthA s2 1), x39] h39 ⟨J24⟩))⟩)
 (fldAddrM Try.prog 74 (nthA s2 0) 3 h27 fun x40 h40 =>
 loadM Try.prog 72 x40 h40 fun x41 h41 =>
 lenM Try.prog 72 x41 h41 fun x42 h42 =>
 binM Try.prog .eql 3 x42 (i64 0) h42 fun x43 h43 =>
 gdM x43
 (@wkM [(nthA s2 0), (nthA s2 1), tt] h43 ⟨J24⟩)
 (fldAddrM Try.prog 74 (nthA s2 0) 3 h43 fun x44 h44 =>
 loadM Try.prog 72 x44 h44 fun x45 h45 =>
 lenM Try.prog 72 x45 h45 fun x46 h46 =>
 binM Try.prog .gtr 3 x46 (i64 1024) h46 fun x47 h47 =>
 @wkM [(nthA s2 0), (nthA s2 1), x47] h47 ⟨J24⟩))⟩
 ⟨fun s24 h24 =>
 gdM (nthA s24 2)
 (@jnM ⟨fun J48 =>
 @wkM [ff] h24 ⟨J48⟩⟩
 ⟨fun s48 h48 =>
 retW (nthA s48 0) h48 Q⟩)
 (@jnM ⟨fun J49 =>
 unM .not (nthA s24 1) h24 fun x50 h50 =>
 gdM x50
 (@wkM [tt] h50 ⟨J49⟩)
 (fldAddrM Try.prog 74 (nthA s24 0) 0 h50 fun x51 h51 =>
 loadM Try.prog 45 x51 h51 fun x52 h52 =>
 lenM Try.prog 45 x52 h52 fun x53 h53 =>
 binM Try.prog .eql 3 x53 (i64 0) h53 fun x54 h54 =>
 gdM x54
 (fldAddrM Try.prog 74 (nthA s24 0) 1 h54 fun x55 h55 =>
 loadM Try.prog 2 x55 h55 fun x56 h56 =>
 binM Try.prog .eql 2 x56 (i64 0) h56 fun x57 h57 =>
 @wkM [x57] h57 ⟨J49⟩)
 (@wkM [ff] h54 ⟨J49⟩))⟩
 ⟨fun s49 h49 =>
 retW (nthA s49 0) h49 Q⟩)⟩)⟩
theorem D_spec_l3Func_eq (a0 a1 : AVal) (h : AHeap) (Q : KA) : adFn Try.prog ⟨fun _ => ⟨[], [], .nil⟩, fun i => bif Nat.beq i 0 then some [4] else bif Nat.beq i 2 then some [2, 1, 30] else bif Nat.beq i 4 then some [2, 1, 51] else none, fun _ => [], [2]⟩ Try.f46 [a0, a1] h Q = D_spec_l3Func a0 a1 h Q := by kernel_rfl
theorem D_spec_l3Func_of {a0 a1 : AVal} {h : AHeap} {Q : KA} (hd : D_spec_l3Func a0 a1 h Q) : callM Try.prog 46 [a0, a1] h Q := callM_of (fn := Try.f46) Try.func46 (Nat.le_of_ble_eq_true (by kernel_rfl)) ((D_spec_l3Func_eq a0 a1 h Q).symm ▸ hd)
theorem fn_spec_l3Func : fnT Try.prog 46 = true := by kernel_rfl
/- spec.l3Instr; J11: _6; J27: _6; J38: _6; J55: _6; J68: _6; J86: _6; J97: _6; J113: _6; J121: _6; J131: _6; J147: _6; J12: x p there f; J4: x p f _16 -/
def D_spec_l3Instr (a0 a1 a2 : AVal) (h : AHeap) (Q : KA) : Prop :=
 boxFM a0 h fun x1 h1 =>
 boxFM a1 h1 fun x2 h2 =>
 boxFM a2 h2 fun x3 h3 =>
 @jnM ⟨fun J4 =>
 fldAddrM Try.prog 76 x3 0 h3 fun x5 h5 =>
 loadM Try.prog 2 x5 h5 fun x6 h6 =>
 binM Try.prog .lss 2 x6 (i64 0) h6 fun x7 h7 =>
 gdM x7
 (@wkM [x3, x1, x2, tt] h7 ⟨J4⟩)
 (fldAddrM Try.prog 76 x3 0 h7 fun x8 h8 =>
 loadM Try.prog 2 x8 h8 fun x9 h9 =>
 binM Try.prog .gtr 2 x9 (i64 29) h9 fun x10 h10 =>
 @wkM [x3, x1, x2, x10] h10 ⟨J4⟩)⟩
 ⟨fun s4 h4 =>
 gdM (nthA s4 3)
 (@jnM ⟨fun J11 =>
 @wkM [ff] h4 ⟨J11⟩⟩
 ⟨fun s11 h11 =>
 retW (nthA s11 0) h11 Q⟩)
 (@jnM ⟨fun J12 =>
 fldAddrM Try.prog 76 (nthA s4 0) 3 h4 fun x13 h13 =>
 loadM Try.prog 2 x13 h13 fun x14 h14 =>
 binM Try.prog .geq 2 x14 (i64 0) h14 fun x15 h15 =>
 gdM x15
 (fldAddrM Try.prog 76 (nthA s4 0) 3 h15 fun x16 h16 =>
 loadM Try.prog 2 x16 h16 fun x17 h17 =>
 fldAddrM Try.prog 74 (nthA s4 2) 3 h17 fun x18 h18 =>
 loadM Try.prog 72 x18 h18 fun x19 h19 =>
 lenM Try.prog 72 x19 h19 fun x20 h20 =>
 binM Try.prog .lss 2 x17 x20 h20 fun x21 h21 =>
 @wkM [(nthA s4 0), (nthA s4 1), x21, (nthA s4 2)] h21 ⟨J12⟩)
 (@wkM [(nthA s4 0), (nthA s4 1), ff, (nthA s4 2)] h15 ⟨J12⟩)⟩
 ⟨fun s12 h12 =>
 fldAddrM Try.prog 76 (nthA s12 0) 0 h12 fun x22 h22 =>
 loadM Try.prog 2 x22 h22 fun x23 h23 =>
 @clM Try.prog 64 [x23] h23 ⟨fun x24 h24 =>
 fieldM Try.prog 108 x24 2 h24 fun x25 h25 =>
 binM Try.prog .eql 2 x25 (i64 0) h25 fun x26 h26 =>
 gdM x26
 (@jnM ⟨fun J27 =>
 fldAddrM Try.prog 76 (nthA s12 0) 1 h26 fun x28 h28 =>
 loadM Try.prog 2 x28 h28 fun x29 h29 =>
 binM Try.prog .eql 2 x29 (i64 0) h29 fun x30 h30 =>
 gdM x30
 (fldAddrM Try.prog 76 (nthA s12 0) 2 h30 fun x31 h31 =>
 loadM Try.prog 2 x31 h31 fun x32 h32 =>
 binM Try.prog .eql 2 x32 (i64 0) h32 fun x33 h33 =>
 gdM x33
 (fldAddrM Try.prog 76 (nthA s12 0) 3 h33 fun x34 h34 =>
 loadM Try.prog 2 x34 h34 fun x35 h35 =>
 binM Try.prog .eql 2 x35 (i64 0) h35 fun x36 h36 =>
 @wkM [x36] h36 ⟨J27⟩)
 (@wkM [ff] h33 ⟨J27⟩))
 (@wkM [ff] h30 ⟨J27⟩)⟩
 ⟨fun s27 h27 =>
 retW (nthA s27 0) h27 Q⟩)
 (binM Try.prog .eql 2 x25 (i64 1) h26 fun x37 h37 =>
 gdM x37
 (@jnM ⟨fun J38 =>
 fldAddrM Try.prog 76 (nthA s12 0) 1 h37 fun x39 h39 =>
 loadM Try.prog 2 x39 h39 fun x40 h40 =>
 binM Try.prog .geq 2 x40 (i64 0) h40 fun x41 h41 =>
 gdM x41
 (fldAddrM Try.prog 76 (nthA s12 0) 1 h41 fun x42 h42 =>
 loadM Try.prog 2 x42 h42 fun x43 h43 =>
 fldAddrM Try.prog 38 (nthA s12 1) 1 h43 fun x44 h44 =>
 loadM Try.prog 34 x44 h44 fun x45 h45 =>
 lenM Try.prog 34 x45 h45 fun x46 h46 =>
 binM Try.prog .lss 2 x43 x46 h46 fun x47 h47 =>
 gdM x47
 (fldAddrM Try.prog 76 (nthA s12 0) 2 h47 fun x48 h48 =>
 loadM Try.prog 2 x48 h48 fun x49 h49 =>
 binM Try.prog .eql 2 x49 (i64 0) h49 fun x50 h50 =>
 gdM x50
 (fldAddrM Try.prog 76 (nthA s12 0) 3 h50 fun x51 h51 =>
 loadM Try.prog 2 x51 h51 fun x52 h52 =>
 binM Try.prog .eql 2 x52 (i64 0) h52 fun x53 h53 =>
 @wkM [x53] h53 ⟨J38⟩)
 (@wkM [ff] h50 ⟨J38⟩))
 (@wkM [ff] h47 ⟨J38⟩))
 (@wkM [ff] h41 ⟨J38⟩)⟩
 ⟨fun s38 h38 =>
 retW (nthA s38 0) h38 Q⟩)
 (binM Try.prog .eql 2 x25 (i64 2) h37 fun x54 h54 =>
 gdM x54
 (@jnM ⟨fun J55 =>
 loadM Try.prog 74 (nthA s12 3) h54 fun x56 h56 =>
 fldAddrM Try.prog 76 (nthA s12 0) 1 h56 fun x57 h57 =>
 loadM Try.prog 2 x57 h57 fun x58 h58 =>
 @clM Try.prog 65 [x56, x58] h58 ⟨fun x59 h59 =>
 binM Try.prog .neq 2 x59 (i64 0) h59 fun x60 h60 =>
 gdM x60
 (fldAddrM Try.prog 76 (nthA s12 0) 2 h60 fun x61 h61 =>
 loadM Try.prog 2 x61 h61 fun x62 h62 =>
 binM Try.prog .eql 2 x62 (i64 0) h62 fun x63 h63 =>
 gdM x63
 (fldAddrM Try.prog 76 (nthA s12 0) 3 h63 fun x64 h64 =>
 loadM Try.prog 2 x64 h64 fun x65 h65 =>
 binM Try.prog .eql 2 x65 (i64 0) h65 fun x66 h66 =>
 @wkM [x66] h66 ⟨J55⟩)
 (@wkM [ff] h63 ⟨J55⟩))
 (@wkM [ff] h60 ⟨J55⟩)⟩⟩
 ⟨fun s55 h55 =>
 retW (nthA s55 0) h55 Q⟩)
 (binM Try.prog .eql 2 x25 (i64 3) h54 fun x67 h67 =>
 gdM x67
 (@jnM ⟨fun J68 =>
 loadM Try.prog 38 (nthA s12 1) h67 fun x69 h69 =>
 fldAddrM Try.prog 76 (nthA s12 0) 1 h69 fun x70 h70 =>
 loadM Try.prog 2 x70 h70 fun x71 h71 =>
 fldAddrM Try.prog 76 (nthA s12 0) 2 h71 fun x72 h72 =>
 loadM Try.prog 2 x72 h72 fun x73 h73 =>
 @clM Try.prog 66 [x69, x71, x73] h73 ⟨fun x74 h74 =>
 binM Try.prog .neq 2 x74 (i64 0) h74 fun x75 h75 =>
 gdM x75
 (fldAddrM Try.prog 76 (nthA s12 0) 3 h75 fun x76 h76 =>
 loadM Try.prog 2 x76 h76 fun x77 h77 =>
 binM Try.prog .eql 2 x77 (i64 0) h77 fun x78 h78 =>
 gdM x78
 (fldAddrM Try.prog 76 (nthA s12 0) 0 h78 fun x79 h79 =>
 loadM Try.prog 2 x79 h79 fun x80 h80 =>
 binM Try.prog .eql 2 x80 (i64 4) h80 fun x81 h81 =>
 gdM x81
 (@wkM [tt] h81 ⟨J68⟩)
 (fldAddrM Try.prog 76 (nthA s12 0) 1 h81 fun x82 h82 =>
 loadM Try.prog 2 x82 h82 fun x83 h83 =>
 binM Try.prog .neq 2 x83 (i64 0) h83 fun x84 h84 =>
 @wkM [x84] h84 ⟨J68⟩))
 (@wkM [ff] h78 ⟨J68⟩))
 (@wkM [ff] h75 ⟨J68⟩)⟩⟩
 ⟨fun s68 h68 =>
 retW (nthA s68 0) h68 Q⟩)
 (binM Try.prog .eql 2 x25 (i64 4) h67 fun x85 h85 =>
 gdM x85
 (@jnM ⟨fun J86 =>
 loadM Try.prog 38 (nthA s12 1) h85 fun x87 h87 =>
 loadM Try.prog 76 (nthA s12 0) h87 fun x88 h88 =>
 @clM Try.prog 67 [x87, x88] h88 ⟨fun x89 h89 =>
 gdM x89
 (fldAddrM Try.prog 76 (nthA s12 0) 0 h89 fun x90 h90 =>
 loadM Try.prog 2 x90 h90 fun x91 h91 =>
 binM Try.prog .eql 2 x91 (i64 6) h91 fun x92 h92 =>
 gdM x92
 (@wkM [tt] h92 ⟨J86⟩)
 (fldAddrM Try.prog 76 (nthA s12 0) 1 h92 fun x93 h93 =>
 loadM Try.prog 2 x93 h93 fun x94 h94 =>
 binM Try.prog .neq 2 x94 (i64 0) h94 fun x95 h95 =>
 @wkM [x95] h95 ⟨J86⟩))
 (@wkM [ff] h89 ⟨J86⟩)⟩⟩
 ⟨fun s86 h86 =>
 retW (nthA s86 0) h86 Q⟩)
 (binM Try.prog .eql 2 x25 (i64 8) h85 fun x96 h96 =>
 gdM x96
 (@jnM ⟨fun J97 =>
 fldAddrM Try.prog 76 (nthA s12 0) 1 h96 fun x98 h98 =>
 loadM Try.prog 2 x98 h98 fun x99 h99 =>
 @clM Try.prog 63 [x99] h99 ⟨fun x100 h100 =>
 gdM x100
 (fldAddrM Try.prog 76 (nthA s12 0) 2 h100 fun x101 h101 =>
 loadM Try.prog 2 x101 h101 fun x102 h102 =>
 @clM Try.prog 63 [x102] h102 ⟨fun x103 h103 =>
 gdM x103
 (fldAddrM Try.prog 76 (nthA s12 0) 1 h103 fun x104 h104 =>
 loadM Try.prog 2 x104 h104 fun x105 h105 =>
 fldAddrM Try.prog 76 (nthA s12 0) 2 h105 fun x106 h106 =>
 loadM Try.prog 2 x106 h106 fun x107 h107 =>
 binM Try.prog .neq 2 x105 x107 h107 fun x108 h108 =>
 gdM x108
 (fldAddrM Try.prog 76 (nthA s12 0) 3 h108 fun x109 h109 =>
 loadM Try.prog 2 x109 h109 fun x110 h110 =>
 binM Try.prog .eql 2 x110 (i64 0) h110 fun x111 h111 =>
 @wkM [x111] h111 ⟨J97⟩)
 (@wkM [ff] h108 ⟨J97⟩))
 (@wkM [ff] h103 ⟨J97⟩)⟩)
 (@wkM [ff] h100 ⟨J97⟩)⟩⟩
 ⟨fun s97 h97 =>
 retW (nthA s97 0) h97 Q⟩)
 (binM Try.prog .eql 2 x25 (i64 9) h96 fun x112 h112 =>
 gdM x112
 (@jnM ⟨fun J113 =>
 fldAddrM Try.prog 76 (nthA s12 0) 1 h112 fun x114 h114 =>
 loadM Try.prog 2 x114 h114 fun x115 h115 =>
 binM Try.prog .eql 2 x115 (i64 0) h115 fun x116 h116 =>
 gdM x116
 (fldAddrM Try.prog 76 (nthA s12 0) 2 h116 fun x117 h117 =>
 loadM Try.prog 2 x117 h117 fun x118 h118 =>
 binM Try.prog .eql 2 x118 (i64 0) h118 fun x119 h119 =>
 gdM x119
 (@wkM [(nthA s12 2)] h119 ⟨J113⟩)
 (@wkM [ff] h119 ⟨J113⟩))
 (@wkM [ff] h116 ⟨J113⟩)⟩
 ⟨fun s113 h113 =>
 retW (nthA s113 0) h113 Q⟩)
 (binM Try.prog .eql 2 x25 (i64 10) h112 fun x120 h120 =>
 gdM x120
 (@jnM ⟨fun J121 =>
 loadM Try.prog 74 (nthA s12 3) h120 fun x122 h122 =>
 fldAddrM Try.prog 76 (nthA s12 0) 1 h122 fun x123 h123 =>
 loadM Try.prog 2 x123 h123 fun x124 h124 =>
 @clM Try.prog 65 [x122, x124] h124 ⟨fun x125 h125 =>
 binM Try.prog .neq 2 x125 (i64 0) h125 fun x126 h126 =>
 gdM x126
 (fldAddrM Try.prog 76 (nthA s12 0) 2 h126 fun x127 h127 =>
 loadM Try.prog 2 x127 h127 fun x128 h128 =>
 binM Try.prog .eql 2 x128 (i64 0) h128 fun x129 h129 =>
 gdM x129
 (@wkM [(nthA s12 2)] h129 ⟨J121⟩)
 (@wkM [ff] h129 ⟨J121⟩))
 (@wkM [ff] h126 ⟨J121⟩)⟩⟩
 ⟨fun s121 h121 =>
 retW (nthA s121 0) h121 Q⟩)
 (binM Try.prog .eql 2 x25 (i64 11) h120 fun x130 h130 =>
 gdM x130
 (@jnM ⟨fun J131 =>
 fldAddrM Try.prog 76 (nthA s12 0) 1 h130 fun x132 h132 =>
 loadM Try.prog 2 x132 h132 fun x133 h133 =>
 binM Try.prog .geq 2 x133 (i64 0) h133 fun x134 h134 =>
 gdM x134
 (fldAddrM Try.prog 76 (nthA s12 0) 1 h134 fun x135 h135 =>
 loadM Try.prog 2 x135 h135 fun x136 h136 =>
 fldAddrM Try.prog 38 (nthA s12 1) 2 h136 fun x137 h137 =>
 loadM Try.prog 35 x137 h137 fun x138 h138 =>
 lenM Try.prog 35 x138 h138 fun x139 h139 =>
 binM Try.prog .lss 2 x136 x139 h139 fun x140 h140 =>
 gdM x140
 (fldAddrM Try.prog 76 (nthA s12 0) 2 h140 fun x141 h141 =>
 loadM Try.prog 2 x141 h141 fun x142 h142 =>
 binM Try.prog .eql 2 x142 (i64 0) h142 fun x143 h143 =>
 gdM x143
 (fldAddrM Try.prog 76 (nthA s12 0) 3 h143 fun x144 h144 =>
 loadM Try.prog 2 x144 h144 fun x145 h145 =>
 binM Try.prog .eql 2 x145 (i64 0) h145 fun x146 h146 =>
 @wkM [x146] h146 ⟨J131⟩)
 (@wkM [ff] h143 ⟨J131⟩))
 (@wkM [ff] h140 ⟨J131⟩))
 (@wkM [ff] h134 ⟨J131⟩)⟩
 ⟨fun s131 h131 =>
 retW (nthA s131 0) h131 Q⟩)
 (@jnM ⟨fun J147 =>
 fldAddrM Try.prog 76 (nthA s12 0) 1 h130 fun x148 h148 =>
 loadM Try.prog 2 x148 h148 fun x149 h149 =>
 @clM Try.prog 68 [x25, x149] h149 ⟨fun x150 h150 =>
 gdM x150
 (fldAddrM Try.prog 76 (nthA s12 0) 2 h150 fun x151 h151 =>
 loadM Try.prog 2 x151 h151 fun x152 h152 =>
 binM Try.prog .eql 2 x152 (i64 0) h152 fun x153 h153 =>
 gdM x153
 (fldAddrM Try.prog 76 (nthA s12 0) 3 h153 fun x154 h154 =>
 loadM Try.prog 2 x154 h154 fun x155 h155 =>
 binM Try.prog .eql 2 x155 (i64 0) h155 fun x156 h156 =>
 @wkM [x156] h156 ⟨J147⟩)
 (@wkM [ff] h153 ⟨J147⟩))
 (@wkM [ff] h150 ⟨J147⟩)⟩⟩
 ⟨fun s147 h147 =>
 retW (nthA s147 0) h147 Q⟩)))))))))⟩⟩)⟩
theorem D_spec_l3Instr_eq (a0 a1 a2 : AVal) (h : AHeap) (Q : KA) : adFn Try.prog ⟨fun _ => ⟨[], [], .nil⟩, fun i => bif Nat.beq i 0 then some [6] else bif Nat.beq i 2 then some [5, 3, 4, 16] else bif Nat.beq i 4 then some [5, 3, 7, 4] else none, fun _ => [], [3, 4, 5]⟩ Try.f47 [a0, a1, a2] h Q = D_spec_l3Instr a0 a1 a2 h Q := by kernel_rfl
theorem D_spec_l3Instr_of {a0 a1 a2 : AVal} {h : AHeap} {Q : KA} (hd : D_spec_l3Instr a0 a1 a2 h Q) : callM Try.prog 47 [a0, a1, a2] h Q := callM_of (fn := Try.f47) Try.func47 (Nat.le_of_ble_eq_true (by kernel_rfl)) ((D_spec_l3Instr_eq a0 a1 a2 h Q).symm ▸ hd)
theorem fn_spec_l3Instr : fnT Try.prog 47 = true := by kernel_rfl
/- spec.l3Certs; J2: p i; J46: p i _90; J31: p i c _52; J13: p i c _28 -/
def or_spec_l3Certs_10 : DR := ⟨[0, 1, 2, 4, 12, 4, 36, 84, 132, 260, 4, 1028, 2564, 4100, 8192, 24576, 8192, 73728, 172032, 270336, 532480, 8192, 2105344, 5251072, 8396800, 16777216, 50331648, 16777216, 150994944, 352321536, 553648128, 1090519040, 16777216, 4311744512, 10754195456, 17196654592, 34359746564, 68719476740], [0, 1, 3, 7, 15, 7, 39, 127, 255, 511, 7, 1031, 4095, 8191, 16383, 32767, 16383, 81919, 262143, 524287, 1048575, 16383, 2113535, 8388607, 16777215, 33554431, 67108863, 33554431, 167772159, 536870911, 1073741823, 2147483647, 33554431, 4328521727, 17179869183, 34359738367, 68719476735, 137438953471], (.one 0 (.one 1 (.one 2 (.one 3 (.one 4 (.one 5 (.one 6 (.one 7 (.one 8 (.one 9 (.one 10 (.one 11 (.one 12 (.one 13 (.one 14 (.one 15 (.one 16 (.one 17 (.one 18 (.one 19 (.one 20 (.one 21 (.one 22 (.one 23 (.one 24 (.one 25 (.one 26 (.one 27 (.one 28 (.one 29 (.one 30 (.one 31 (.one 32 (.one 33 (.one 34 (.one 35 (.one 36 (.one 37 .nil))))))))))))))))))))))))))))))))))))))⟩
@[simp] theorem dr_spec_l3Certs_10 : drawnOK Try.prog (regOps Try.f48 10) or_spec_l3Certs_10 = True := eq_true ⟨by kernel_rfl, by kernel_rfl⟩
def D_spec_l3Certs (a0 : AVal) (h : AHeap) (Q : KA) : Prop :=
 boxFM a0 h fun x1 h1 =>
 @lpM [x1, (i64 0)] h1 ⟨fun s2 h2 J2 =>
 fldAddrM Try.prog 38 (nthA s2 0) 3 h2 fun x3 h3 =>
 loadM Try.prog 36 x3 h3 fun x4 h4 =>
 lenM Try.prog 36 x4 h4 fun x5 h5 =>
 binM Try.prog .lss 3 (nthA s2 1) x5 h5 fun x6 h6 =>
 gdM x6
 (fldAddrM Try.prog 38 (nthA s2 0) 3 h6 fun x7 h7 =>
 loadM Try.prog 36 x7 h7 fun x8 h8 =>
 ixAddrM Try.prog 36 x8 (nthA s2 1) h8 fun x9 h9 =>
 loadM Try.prog 96 x9 h9 fun x10 h10 =>
 allocM Try.prog 96 h10 fun x11 h11 =>
 storeM Try.prog 96 x11 x10 h11 fun x12 h12 =>
 @jnM ⟨fun J13 =>
 fldAddrM Try.prog 96 x11 0 h12 fun x14 h14 =>
 loadM Try.prog 2 x14 h14 fun x15 h15 =>
 binM Try.prog .lss 2 x15 (i64 0) h15 fun x16 h16 =>
 gdM x16
 (@wkM [(nthA s2 0), (nthA s2 1), x11, tt] h16 ⟨J13⟩)
 (fldAddrM Try.prog 96 x11 0 h16 fun x17 h17 =>
 loadM Try.prog 2 x17 h17 fun x18 h18 =>
 fldAddrM Try.prog 38 (nthA s2 0) 2 h18 fun x19 h19 =>
 loadM Try.prog 35 x19 h19 fun x20 h20 =>
 lenM Try.prog 35 x20 h20 fun x21 h21 =>
 binM Try.prog .geq 2 x18 x21 h21 fun x22 h22 =>
 @wkM [(nthA s2 0), (nthA s2 1), x11, x22] h22 ⟨J13⟩)⟩
 ⟨fun s13 h13 =>
 gdM (nthA s13 3)
 (retW ff h13 Q)
 (fldAddrM Try.prog 38 (nthA s13 0) 2 h13 fun x23 h23 =>
 loadM Try.prog 35 x23 h23 fun x24 h24 =>
 fldAddrM Try.prog 96 (nthA s13 2) 0 h24 fun x25 h25 =>
 loadM Try.prog 2 x25 h25 fun x26 h26 =>
 ixAddrM Try.prog 35 x24 x26 h26 fun x27 h27 =>
 loadM Try.prog 74 x27 h27 fun x28 h28 =>
 allocM Try.prog 74 h28 fun x29 h29 =>
 storeM Try.prog 74 x29 x28 h29 fun x30 h30 =>
 @jnM ⟨fun J31 =>
 fldAddrM Try.prog 96 (nthA s13 2) 1 h30 fun x32 h32 =>
 loadM Try.prog 2 x32 h32 fun x33 h33 =>
 binM Try.prog .lss 2 x33 (i64 0) h33 fun x34 h34 =>
 gdM x34
 (@wkM [(nthA s13 0), (nthA s13 1), (nthA s13 2), tt] h34 ⟨J31⟩)
 (fldAddrM Try.prog 96 (nthA s13 2) 1 h34 fun x35 h35 =>
 loadM Try.prog 2 x35 h35 fun x36 h36 =>
 fldAddrM Try.prog 74 x29 3 h36 fun x37 h37 =>
 loadM Try.prog 72 x37 h37 fun x38 h38 =>
 lenM Try.prog 72 x38 h38 fun x39 h39 =>
 binM Try.prog .geq 2 x36 x39 h39 fun x40 h40 =>
 gdM x40
 (@wkM [(nthA s13 0), (nthA s13 1), (nthA s13 2), tt] h40 ⟨J31⟩)
 (loadM Try.prog 74 x29 h40 fun x41 h41 =>
 fldAddrM Try.prog 96 (nthA s13 2) 2 h41 fun x42 h42 =>
 loadM Try.prog 2 x42 h42 fun x43 h43 =>
 @clM Try.prog 65 [x41, x43] h43 ⟨fun x44 h44 =>
 binM Try.prog .neq 2 x44 (i64 3) h44 fun x45 h45 =>
 @wkM [(nthA s13 0), (nthA s13 1), (nthA s13 2), x45] h45 ⟨J31⟩⟩))⟩
 ⟨fun s31 h31 =>
 gdM (nthA s31 3)
 (retW ff h31 Q)
 (@jnM ⟨fun J46 =>
 And (drawnOK Try.prog (regOps Try.f48 10) or_spec_l3Certs_10) (binM Try.prog .gtr 3 (nthA s31 1) (i64 0) h31 fun x47 h47 =>
 gdM x47
 (fldAddrM Try.prog 38 (nthA s31 0) 3 h47 fun x48 h48 =>
 loadM Try.prog 36 x48 h48 fun x49 h49 =>
 binM Try.prog .sub 3 (nthA s31 1) (i64 1) h49 fun x50 h50 =>
 ixAddrM Try.prog 36 x49 x50 h50 fun x51 h51 =>
 fldAddrM Try.prog 96 x51 0 h51 fun x52 h52 =>
 loadM Try.prog 2 x52 h52 fun x53 h53 =>
 fldAddrM Try.prog 96 (nthA s31 2) 0 h53 fun x54 h54 =>
 loadM Try.prog 2 x54 h54 fun x55 h55 =>
 binM Try.prog .gtr 2 x53 x55 h55 fun x56 h56 =>
 gdM x56
 (@wkM [(nthA s31 0), (nthA s31 1), tt] h56 ⟨J46⟩)
 (fldAddrM Try.prog 38 (nthA s31 0) 3 h56 fun x57 h57 =>
 loadM Try.prog 36 x57 h57 fun x58 h58 =>
 binM Try.prog .sub 3 (nthA s31 1) (i64 1) h58 fun x59 h59 =>
 ixAddrM Try.prog 36 x58 x59 h59 fun x60 h60 =>
 fldAddrM Try.prog 96 x60 0 h60 fun x61 h61 =>
 loadM Try.prog 2 x61 h61 fun x62 h62 =>
 fldAddrM Try.prog 96 (nthA s31 2) 0 h62 fun x63 h63 =>
 loadM Try.prog 2 x63 h63 fun x64 h64 =>
 binM Try.prog .eql 2 x62 x64 h64 fun x65 h65 =>
 gdM x65
 (fldAddrM Try.prog 38 (nthA s31 0) 3 h65 fun x66 h66 =>
 loadM Try.prog 36 x66 h66 fun x67 h67 =>
 binM Try.prog .sub 3 (nthA s31 1) (i64 1) h67 fun x68 h68 =>
 ixAddrM Try.prog 36 x67 x68 h68 fun x69 h69 =>
 fldAddrM Try.prog 96 x69 1 h69 fun x70 h70 =>
 loadM Try.prog 2 x70 h70 fun x71 h71 =>
 fldAddrM Try.prog 96 (nthA s31 2) 1 h71 fun x72 h72 =>
 loadM Try.prog 2 x72 h72 fun x73 h73 =>
 binM Try.prog .geq 2 x71 x73 h73 fun x74 h74 =>
 @wkM [(nthA s31 0), (nthA s31 1), x74] h74 ⟨J46⟩)
 (@wkM [(nthA s31 0), (nthA s31 1), ff] h65 ⟨J46⟩)))
 (@wkM [(nthA s31 0), (nthA s31 1), ff] h47 ⟨J46⟩))⟩
 ⟨fun s46 h46 =>
 gdM (nthA s46 2)
 (retW ff h46 Q)
 (binM Try.prog .add 3 (nthA s46 1) (i64 1) h46 fun x75 h75 =>
 @wkM [(nthA s46 0), x75] h75 ⟨J2⟩)⟩)⟩)⟩)
 (fldAddrM Try.prog 38 (nthA s2 0) 3 h6 fun x76 h76 =>
 loadM Try.prog 36 x76 h76 fun x77 h77 =>
 lenM Try.prog 36 x77 h77 fun x78 h78 =>
 binM Try.prog .leq 3 x78 (i64 64) h78 fun x79 h79 =>
 retW x79 h79 Q)⟩
theorem D_spec_l3Certs_eq (a0 : AVal) (h : AHeap) (Q : KA) : adFn Try.prog ⟨fun i => bif Nat.beq i 10 then or_spec_l3Certs_10 else ⟨[], [], .nil⟩, fun i => bif Nat.beq i 6 then some [1, 3, 4, 28] else bif Nat.beq i 9 then some [1, 3, 4, 52] else bif Nat.beq i 11 then some [1, 3, 90] else none, fun i => bif Nat.beq i 2 then [1, 3] else [], [1]⟩ Try.f48 [a0] h Q = D_spec_l3Certs a0 h Q := by kernel_rfl
theorem D_spec_l3Certs_of {a0 : AVal} {h : AHeap} {Q : KA} (hd : D_spec_l3Certs a0 h Q) : callM Try.prog 48 [a0] h Q := callM_of (fn := Try.f48) Try.func48 (Nat.le_of_ble_eq_true (by kernel_rfl)) ((D_spec_l3Certs_eq a0 h Q).symm ▸ hd)
theorem fn_spec_l3Certs : fnT Try.prog 48 = true := by kernel_rfl
/- laws.toInt64S; J3: out i a -/
def D_laws_toInt64S (a0 : AVal) (h : AHeap) (Q : KA) : Prop :=
 lenM Try.prog 45 a0 h fun x1 h1 =>
 makeM Try.prog 45 x1 x1 h1 fun x2 h2 =>
 @lpM [x2, (i64 0), a0] h2 ⟨fun s3 h3 J3 =>
 lenM Try.prog 45 (nthA s3 2) h3 fun x4 h4 =>
 binM Try.prog .lss 3 (nthA s3 1) x4 h4 fun x5 h5 =>
 gdM x5
 (ixAddrM Try.prog 45 (nthA s3 2) (nthA s3 1) h5 fun x6 h6 =>
 loadM Try.prog 2 x6 h6 fun x7 h7 =>
 ixAddrM Try.prog 45 (nthA s3 0) (nthA s3 1) h7 fun x8 h8 =>
 storeM Try.prog 2 x8 x7 h8 fun x9 h9 =>
 binM Try.prog .add 3 (nthA s3 1) (i64 1) h9 fun x10 h10 =>
 @wkM [(nthA s3 0), x10, (nthA s3 2)] h10 ⟨J3⟩)
 (retW (nthA s3 0) h5 Q)⟩
theorem D_laws_toInt64S_eq (a0 : AVal) (h : AHeap) (Q : KA) : adFn Try.prog ⟨fun _ => ⟨[], [], .nil⟩, fun _ => none, fun i => bif Nat.beq i 3 then [3, 4, 0] else [], []⟩ Try.f49 [a0] h Q = D_laws_toInt64S a0 h Q := by kernel_rfl
theorem D_laws_toInt64S_of {a0 : AVal} {h : AHeap} {Q : KA} (hd : D_laws_toInt64S a0 h Q) : callM Try.prog 49 [a0] h Q := callM_of (fn := Try.f49) Try.func49 (Nat.le_of_ble_eq_true (by kernel_rfl)) ((D_laws_toInt64S_eq a0 h Q).symm ▸ hd)
theorem fn_laws_toInt64S : fnT Try.prog 49 = true := by kernel_rfl
/- laws.toConst -/
def D_laws_toConst (a0 : AVal) (h : AHeap) (Q : KA) : Prop :=
 boxFM a0 h fun x1 h1 =>
 allocM Try.prog 91 h1 fun x2 h2 =>
 allocM Try.prog 91 h2 fun x3 h3 =>
 fldAddrM Try.prog 93 x1 0 h3 fun x4 h4 =>
 loadM Try.prog 2 x4 h4 fun x5 h5 =>
 fldAddrM Try.prog 91 x3 0 h5 fun x6 h6 =>
 storeM Try.prog 2 x6 x5 h6 fun x7 h7 =>
 fldAddrM Try.prog 93 x1 1 h7 fun x8 h8 =>
 loadM Try.prog 88 x8 h8 fun x9 h9 =>
 fldAddrM Try.prog 91 x3 1 h9 fun x10 h10 =>
 storeM Try.prog 88 x10 x9 h10 fun x11 h11 =>
 loadM Try.prog 91 x3 h11 fun x12 h12 =>
 storeM Try.prog 91 x2 x12 h12 fun x13 h13 =>
 loadM Try.prog 91 x2 h13 fun x14 h14 =>
 retW x14 h14 Q
theorem D_laws_toConst_eq (a0 : AVal) (h : AHeap) (Q : KA) : adFn Try.prog ⟨fun _ => ⟨[], [], .nil⟩, fun _ => none, fun _ => [], [1]⟩ Try.f50 [a0] h Q = D_laws_toConst a0 h Q := by kernel_rfl
theorem D_laws_toConst_of {a0 : AVal} {h : AHeap} {Q : KA} (hd : D_laws_toConst a0 h Q) : callM Try.prog 50 [a0] h Q := callM_of (fn := Try.f50) Try.func50 (Nat.le_of_ble_eq_true (by kernel_rfl)) ((D_laws_toConst_eq a0 h Q).symm ▸ hd)
theorem fn_laws_toConst : fnT Try.prog 50 = true := by kernel_rfl
/- laws.toFunc -/
def D_laws_toFunc (a0 : AVal) (h : AHeap) (Q : KA) : Prop :=
 boxFM a0 h fun x1 h1 =>
 allocM Try.prog 74 h1 fun x2 h2 =>
 allocM Try.prog 74 h2 fun x3 h3 =>
 fldAddrM Try.prog 83 x1 0 h3 fun x4 h4 =>
 loadM Try.prog 45 x4 h4 fun x5 h5 =>
 @clM Try.prog 49 [x5] h5 ⟨fun x6 h6 =>
 fldAddrM Try.prog 74 x3 0 h6 fun x7 h7 =>
 storeM Try.prog 45 x7 x6 h7 fun x8 h8 =>
 fldAddrM Try.prog 83 x1 1 h8 fun x9 h9 =>
 loadM Try.prog 2 x9 h9 fun x10 h10 =>
 fldAddrM Try.prog 74 x3 1 h10 fun x11 h11 =>
 storeM Try.prog 2 x11 x10 h11 fun x12 h12 =>
 fldAddrM Try.prog 83 x1 2 h12 fun x13 h13 =>
 loadM Try.prog 45 x13 h13 fun x14 h14 =>
 @clM Try.prog 49 [x14] h14 ⟨fun x15 h15 =>
 fldAddrM Try.prog 74 x3 2 h15 fun x16 h16 =>
 storeM Try.prog 45 x16 x15 h16 fun x17 h17 =>
 fldAddrM Try.prog 83 x1 3 h17 fun x18 h18 =>
 loadM Try.prog 81 x18 h18 fun x19 h19 =>
 @clM Try.prog 69 [x19] h19 ⟨fun x20 h20 =>
 fldAddrM Try.prog 74 x3 3 h20 fun x21 h21 =>
 storeM Try.prog 72 x21 x20 h21 fun x22 h22 =>
 loadM Try.prog 74 x3 h22 fun x23 h23 =>
 storeM Try.prog 74 x2 x23 h23 fun x24 h24 =>
 loadM Try.prog 74 x2 h24 fun x25 h25 =>
 retW x25 h25 Q⟩⟩⟩
theorem D_laws_toFunc_eq (a0 : AVal) (h : AHeap) (Q : KA) : adFn Try.prog ⟨fun _ => ⟨[], [], .nil⟩, fun _ => none, fun _ => [], [1]⟩ Try.f51 [a0] h Q = D_laws_toFunc a0 h Q := by kernel_rfl
theorem D_laws_toFunc_of {a0 : AVal} {h : AHeap} {Q : KA} (hd : D_laws_toFunc a0 h Q) : callM Try.prog 51 [a0] h Q := callM_of (fn := Try.f51) Try.func51 (Nat.le_of_ble_eq_true (by kernel_rfl)) ((D_laws_toFunc_eq a0 h Q).symm ▸ hd)
theorem fn_laws_toFunc : fnT Try.prog 51 = true := by kernel_rfl
/- laws.toCert -/
def D_laws_toCert (a0 : AVal) (h : AHeap) (Q : KA) : Prop :=
 boxFM a0 h fun x1 h1 =>
 allocM Try.prog 96 h1 fun x2 h2 =>
 allocM Try.prog 96 h2 fun x3 h3 =>
 fldAddrM Try.prog 98 x1 0 h3 fun x4 h4 =>
 loadM Try.prog 2 x4 h4 fun x5 h5 =>
 fldAddrM Try.prog 96 x3 0 h5 fun x6 h6 =>
 storeM Try.prog 2 x6 x5 h6 fun x7 h7 =>
 fldAddrM Try.prog 98 x1 1 h7 fun x8 h8 =>
 loadM Try.prog 2 x8 h8 fun x9 h9 =>
 fldAddrM Try.prog 96 x3 1 h9 fun x10 h10 =>
 storeM Try.prog 2 x10 x9 h10 fun x11 h11 =>
 fldAddrM Try.prog 98 x1 2 h11 fun x12 h12 =>
 loadM Try.prog 2 x12 h12 fun x13 h13 =>
 fldAddrM Try.prog 96 x3 2 h13 fun x14 h14 =>
 storeM Try.prog 2 x14 x13 h14 fun x15 h15 =>
 fldAddrM Try.prog 98 x1 3 h15 fun x16 h16 =>
 loadM Try.prog 88 x16 h16 fun x17 h17 =>
 fldAddrM Try.prog 96 x3 3 h17 fun x18 h18 =>
 storeM Try.prog 88 x18 x17 h18 fun x19 h19 =>
 loadM Try.prog 96 x3 h19 fun x20 h20 =>
 storeM Try.prog 96 x2 x20 h20 fun x21 h21 =>
 loadM Try.prog 96 x2 h21 fun x22 h22 =>
 retW x22 h22 Q
theorem D_laws_toCert_eq (a0 : AVal) (h : AHeap) (Q : KA) : adFn Try.prog ⟨fun _ => ⟨[], [], .nil⟩, fun _ => none, fun _ => [], [1]⟩ Try.f52 [a0] h Q = D_laws_toCert a0 h Q := by kernel_rfl
theorem D_laws_toCert_of {a0 : AVal} {h : AHeap} {Q : KA} (hd : D_laws_toCert a0 h Q) : callM Try.prog 52 [a0] h Q := callM_of (fn := Try.f52) Try.func52 (Nat.le_of_ble_eq_true (by kernel_rfl)) ((D_laws_toCert_eq a0 h Q).symm ▸ hd)
theorem fn_laws_toCert : fnT Try.prog 52 = true := by kernel_rfl
/- (*impl.Program).regionsFault; J12: _18 _16 _17; J16: _16 _17 _18 _29 -/
def D_impl_Program_regionsFault (a0 : AVal) (h : AHeap) (Q : KA) : Prop :=
 nilChkM a0 h fun x1 h1 =>
 fldAddrM Try.prog 38 x1 0 h1 fun x2 h2 =>
 loadM Try.prog 22 x2 h2 fun x3 h3 =>
 lenM Try.prog 22 x3 h3 fun x4 h4 =>
 binM Try.prog .neq 3 x4 (i64 3) h4 fun x5 h5 =>
 gdM x5
 (buildM Try.prog 116 [(0, (i64 1))] h5 fun x6 h6 =>
 mkIfM Try.prog 116 x6 h6 fun x7 h7 =>
 retW x7 h7 Q)
 (nilChkM a0 h5 fun x8 h8 =>
 fldAddrM Try.prog 38 x8 0 h8 fun x9 h9 =>
 loadM Try.prog 22 x9 h9 fun x10 h10 =>
 lenM Try.prog 22 x10 h10 fun x11 h11 =>
 @lpM [(i64 0), x10, x11] h11 ⟨fun s12 h12 J12 =>
 binM Try.prog .lss 3 (nthA s12 0) (nthA s12 2) h12 fun x13 h13 =>
 gdM x13
 (ixAddrM Try.prog 22 (nthA s12 1) (nthA s12 0) h13 fun x14 h14 =>
 loadM Try.prog 45 x14 h14 fun x15 h15 =>
 @jnM ⟨fun J16 =>
 lenM Try.prog 45 x15 h15 fun x17 h17 =>
 binM Try.prog .gtr 3 x17 (i64 256) h17 fun x18 h18 =>
 gdM x18
 (@wkM [(nthA s12 1), (nthA s12 2), (nthA s12 0), tt] h18 ⟨J16⟩)
 (@clM Try.prog 70 [x15] h18 ⟨fun x19 h19 =>
 unM .not x19 h19 fun x20 h20 =>
 @wkM [(nthA s12 1), (nthA s12 2), (nthA s12 0), x20] h20 ⟨J16⟩⟩)⟩
 ⟨fun s16 h16 =>
 gdM (nthA s16 3)
 (buildM Try.prog 116 [(0, (i64 1))] h16 fun x21 h21 =>
 mkIfM Try.prog 116 x21 h21 fun x22 h22 =>
 retW x22 h22 Q)
 (binM Try.prog .add 3 (nthA s16 2) (i64 1) h16 fun x23 h23 =>
 @wkM [x23, (nthA s16 0), (nthA s16 1)] h23 ⟨J12⟩)⟩)
 (retW (.v Value.nilIface) h13 Q)⟩)
theorem D_impl_Program_regionsFault_eq (a0 : AVal) (h : AHeap) (Q : KA) : adFn Try.prog ⟨fun _ => ⟨[], [], .nil⟩, fun i => bif Nat.beq i 7 then some [16, 17, 18, 29] else none, fun i => bif Nat.beq i 4 then [18, 16, 17] else [], []⟩ Try.f53 [a0] h Q = D_impl_Program_regionsFault a0 h Q := by kernel_rfl
theorem D_impl_Program_regionsFault_of {a0 : AVal} {h : AHeap} {Q : KA} (hd : D_impl_Program_regionsFault a0 h Q) : callM Try.prog 53 [a0] h Q := callM_of (fn := Try.f53) Try.func53 (Nat.le_of_ble_eq_true (by kernel_rfl)) ((D_impl_Program_regionsFault_eq a0 h Q).symm ▸ hd)
theorem fn_impl_Program_regionsFault : fnT Try.prog 53 = true := by kernel_rfl
/- (*impl.Program).constsFault; J12: _18 _16 _17; J18: _16 _17 _18 _35 -/
def D_impl_Program_constsFault (a0 : AVal) (h : AHeap) (Q : KA) : Prop :=
 nilChkM a0 h fun x1 h1 =>
 fldAddrM Try.prog 38 x1 1 h1 fun x2 h2 =>
 loadM Try.prog 34 x2 h2 fun x3 h3 =>
 lenM Try.prog 34 x3 h3 fun x4 h4 =>
 binM Try.prog .gtr 3 x4 (i64 64) h4 fun x5 h5 =>
 gdM x5
 (buildM Try.prog 116 [(0, (i64 2))] h5 fun x6 h6 =>
 mkIfM Try.prog 116 x6 h6 fun x7 h7 =>
 retW x7 h7 Q)
 (nilChkM a0 h5 fun x8 h8 =>
 fldAddrM Try.prog 38 x8 1 h8 fun x9 h9 =>
 loadM Try.prog 34 x9 h9 fun x10 h10 =>
 lenM Try.prog 34 x10 h10 fun x11 h11 =>
 @lpM [(i64 0), x10, x11] h11 ⟨fun s12 h12 J12 =>
 binM Try.prog .lss 3 (nthA s12 0) (nthA s12 2) h12 fun x13 h13 =>
 gdM x13
 (ixAddrM Try.prog 34 (nthA s12 1) (nthA s12 0) h13 fun x14 h14 =>
 loadM Try.prog 91 x14 h14 fun x15 h15 =>
 allocM Try.prog 91 h15 fun x16 h16 =>
 storeM Try.prog 91 x16 x15 h16 fun x17 h17 =>
 @jnM ⟨fun J18 =>
 fldAddrM Try.prog 91 x16 0 h17 fun x19 h19 =>
 loadM Try.prog 2 x19 h19 fun x20 h20 =>
 @clM Try.prog 71 [x20] h20 ⟨fun x21 h21 =>
 unM .not x21 h21 fun x22 h22 =>
 gdM x22
 (@wkM [(nthA s12 1), (nthA s12 2), (nthA s12 0), tt] h22 ⟨J18⟩)
 (fldAddrM Try.prog 91 x16 0 h22 fun x23 h23 =>
 loadM Try.prog 2 x23 h23 fun x24 h24 =>
 binM Try.prog .eql 2 x24 (i64 1) h24 fun x25 h25 =>
 gdM x25
 (fldAddrM Try.prog 91 x16 1 h25 fun x26 h26 =>
 loadM Try.prog 88 x26 h26 fun x27 h27 =>
 binM Try.prog .gtr 88 x27 (u32 1) h27 fun x28 h28 =>
 @wkM [(nthA s12 1), (nthA s12 2), (nthA s12 0), x28] h28 ⟨J18⟩)
 (@wkM [(nthA s12 1), (nthA s12 2), (nthA s12 0), ff] h25 ⟨J18⟩))⟩⟩
 ⟨fun s18 h18 =>
 gdM (nthA s18 3)
 (buildM Try.prog 116 [(0, (i64 2))] h18 fun x29 h29 =>
 mkIfM Try.prog 116 x29 h29 fun x30 h30 =>
 retW x30 h30 Q)
 (binM Try.prog .add 3 (nthA s18 2) (i64 1) h18 fun x31 h31 =>
 @wkM [x31, (nthA s18 0), (nthA s18 1)] h31 ⟨J12⟩)⟩)
 (retW (.v Value.nilIface) h13 Q)⟩)
theorem D_impl_Program_constsFault_eq (a0 : AVal) (h : AHeap) (Q : KA) : adFn Try.prog ⟨fun _ => ⟨[], [], .nil⟩, fun i => bif Nat.beq i 7 then some [16, 17, 18, 35] else none, fun i => bif Nat.beq i 4 then [18, 16, 17] else [], []⟩ Try.f54 [a0] h Q = D_impl_Program_constsFault a0 h Q := by kernel_rfl
theorem D_impl_Program_constsFault_of {a0 : AVal} {h : AHeap} {Q : KA} (hd : D_impl_Program_constsFault a0 h Q) : callM Try.prog 54 [a0] h Q := callM_of (fn := Try.f54) Try.func54 (Nat.le_of_ble_eq_true (by kernel_rfl)) ((D_impl_Program_constsFault_eq a0 h Q).symm ▸ hd)
theorem fn_impl_Program_constsFault : fnT Try.prog 54 = true := by kernel_rfl
/- (*impl.Program).funcsFault; J18: _27 p _26; J72: p _26 _27 _114; J42: p _26 _27 f i bad; J24: p _26 _27 f i bad; J1: p _19 -/
def D_impl_Program_funcsFault (a0 : AVal) (h : AHeap) (Q : KA) : Prop :=
 @jnM ⟨fun J1 =>
 nilChkM a0 h fun x2 h2 =>
 fldAddrM Try.prog 38 x2 2 h2 fun x3 h3 =>
 loadM Try.prog 35 x3 h3 fun x4 h4 =>
 lenM Try.prog 35 x4 h4 fun x5 h5 =>
 binM Try.prog .eql 3 x5 (i64 0) h5 fun x6 h6 =>
 gdM x6
 (@wkM [a0, tt] h6 ⟨J1⟩)
 (nilChkM a0 h6 fun x7 h7 =>
 fldAddrM Try.prog 38 x7 2 h7 fun x8 h8 =>
 loadM Try.prog 35 x8 h8 fun x9 h9 =>
 lenM Try.prog 35 x9 h9 fun x10 h10 =>
 binM Try.prog .gtr 3 x10 (i64 32) h10 fun x11 h11 =>
 @wkM [a0, x11] h11 ⟨J1⟩)⟩
 ⟨fun s1 h1 =>
 gdM (nthA s1 1)
 (buildM Try.prog 116 [(0, (i64 3))] h1 fun x12 h12 =>
 mkIfM Try.prog 116 x12 h12 fun x13 h13 =>
 retW x13 h13 Q)
 (nilChkM (nthA s1 0) h1 fun x14 h14 =>
 fldAddrM Try.prog 38 x14 2 h14 fun x15 h15 =>
 loadM Try.prog 35 x15 h15 fun x16 h16 =>
 lenM Try.prog 35 x16 h16 fun x17 h17 =>
 @lpM [(i64 0), (nthA s1 0), x17] h17 ⟨fun s18 h18 J18 =>
 binM Try.prog .lss 3 (nthA s18 0) (nthA s18 2) h18 fun x19 h19 =>
 gdM x19
 (nilChkM (nthA s18 1) h19 fun x20 h20 =>
 fldAddrM Try.prog 38 x20 2 h20 fun x21 h21 =>
 loadM Try.prog 35 x21 h21 fun x22 h22 =>
 ixAddrM Try.prog 35 x22 (nthA s18 0) h22 fun x23 h23 =>
 @jnM ⟨fun J24 =>
 nilChkM x23 h23 fun x25 h25 =>
 fldAddrM Try.prog 74 x25 0 h25 fun x26 h26 =>
 loadM Try.prog 45 x26 h26 fun x27 h27 =>
 lenM Try.prog 45 x27 h27 fun x28 h28 =>
 binM Try.prog .gtr 3 x28 (i64 8) h28 fun x29 h29 =>
 gdM x29
 (@wkM [(nthA s18 1), (nthA s18 2), (nthA s18 0), x23, (nthA s18 0), tt] h29 ⟨J24⟩)
 (@clM Try.prog 72 [x23] h29 ⟨fun x30 h30 =>
 binM Try.prog .gtr 3 x30 (i64 32) h30 fun x31 h31 =>
 gdM x31
 (@wkM [(nthA s18 1), (nthA s18 2), (nthA s18 0), x23, (nthA s18 0), tt] h31 ⟨J24⟩)
 (nilChkM x23 h31 fun x32 h32 =>
 fldAddrM Try.prog 74 x32 0 h32 fun x33 h33 =>
 loadM Try.prog 45 x33 h33 fun x34 h34 =>
 @clM Try.prog 70 [x34] h34 ⟨fun x35 h35 =>
 unM .not x35 h35 fun x36 h36 =>
 gdM x36
 (@wkM [(nthA s18 1), (nthA s18 2), (nthA s18 0), x23, (nthA s18 0), tt] h36 ⟨J24⟩)
 (nilChkM x23 h36 fun x37 h37 =>
 fldAddrM Try.prog 74 x37 2 h37 fun x38 h38 =>
 loadM Try.prog 45 x38 h38 fun x39 h39 =>
 @clM Try.prog 70 [x39] h39 ⟨fun x40 h40 =>
 unM .not x40 h40 fun x41 h41 =>
 @wkM [(nthA s18 1), (nthA s18 2), (nthA s18 0), x23, (nthA s18 0), x41] h41 ⟨J24⟩⟩)⟩)⟩)⟩
 ⟨fun s24 h24 =>
 @jnM ⟨fun J42 =>
 gdM (nthA s24 5)
 (@wkM [(nthA s24 0), (nthA s24 1), (nthA s24 2), (nthA s24 3), (nthA s24 4), tt] h24 ⟨J42⟩)
 (nilChkM (nthA s24 3) h24 fun x43 h43 =>
 fldAddrM Try.prog 74 x43 1 h43 fun x44 h44 =>
 loadM Try.prog 2 x44 h44 fun x45 h45 =>
 binM Try.prog .neq 2 x45 (i64 0) h45 fun x46 h46 =>
 gdM x46
 (nilChkM (nthA s24 3) h46 fun x47 h47 =>
 fldAddrM Try.prog 74 x47 1 h47 fun x48 h48 =>
 loadM Try.prog 2 x48 h48 fun x49 h49 =>
 @clM Try.prog 71 [x49] h49 ⟨fun x50 h50 =>
 unM .not x50 h50 fun x51 h51 =>
 gdM x51
 (@wkM [(nthA s24 0), (nthA s24 1), (nthA s24 2), (nthA s24 3), (nthA s24 4), tt] h51 ⟨J42⟩)
 (nilChkM (nthA s24 3) h51 fun x52 h52 =>
 fldAddrM Try.prog 74 x52 3 h52 fun x53 h53 =>
 loadM Try.prog 72 x53 h53 fun x54 h54 =>
 lenM Try.prog 72 x54 h54 fun x55 h55 =>
 binM Try.prog .eql 3 x55 (i64 0) h55 fun x56 h56 =>
 gdM x56
 (@wkM [(nthA s24 0), (nthA s24 1), (nthA s24 2), (nthA s24 3), (nthA s24 4), tt] h56 ⟨J42⟩)
 (nilChkM (nthA s24 3) h56 fun x57 h57 =>
 fldAddrM Try.prog 74 x57 3 h57 fun x58 h58 =>
 loadM Try.prog 72 x58 h58 fun x59 h59 =>
 lenM Try.prog 72 x59 h59 fun x60 h60 =>
 binM Try.prog .gtr 3 x60 (i64 1024) h60 fun x61 h61 =>
 @wkM [(nthA s24 0), (nthA s24 1), (nthA s24 2), (nthA s24 3), (nthA s24 4), x61] h61 ⟨J42⟩))⟩)
 (nilChkM (nthA s24 3) h46 fun x62 h62 =>
 fldAddrM Try.prog 74 x62 3 h62 fun x63 h63 =>
 loadM Try.prog 72 x63 h63 fun x64 h64 =>
 lenM Try.prog 72 x64 h64 fun x65 h65 =>
 binM Try.prog .eql 3 x65 (i64 0) h65 fun x66 h66 =>
 gdM x66
 (@wkM [(nthA s24 0), (nthA s24 1), (nthA s24 2), (nthA s24 3), (nthA s24 4), tt] h66 ⟨J42⟩)
 (nilChkM (nthA s24 3) h66 fun x67 h67 =>
 fldAddrM Try.prog 74 x67 3 h67 fun x68 h68 =>
 loadM Try.prog 72 x68 h68 fun x69 h69 =>
 lenM Try.prog 72 x69 h69 fun x70 h70 =>
 binM Try.prog .gtr 3 x70 (i64 1024) h70 fun x71 h71 =>
 @wkM [(nthA s24 0), (nthA s24 1), (nthA s24 2), (nthA s24 3), (nthA s24 4), x71] h71 ⟨J42⟩)))⟩
 ⟨fun s42 h42 =>
 @jnM ⟨fun J72 =>
 gdM (nthA s42 5)
 (@wkM [(nthA s42 0), (nthA s42 1), (nthA s42 2), tt] h42 ⟨J72⟩)
 (binM Try.prog .eql 3 (nthA s42 4) (i64 0) h42 fun x73 h73 =>
 gdM x73
 (nilChkM (nthA s42 3) h73 fun x74 h74 =>
 fldAddrM Try.prog 74 x74 0 h74 fun x75 h75 =>
 loadM Try.prog 45 x75 h75 fun x76 h76 =>
 lenM Try.prog 45 x76 h76 fun x77 h77 =>
 binM Try.prog .gtr 3 x77 (i64 0) h77 fun x78 h78 =>
 gdM x78
 (@wkM [(nthA s42 0), (nthA s42 1), (nthA s42 2), tt] h78 ⟨J72⟩)
 (nilChkM (nthA s42 3) h78 fun x79 h79 =>
 fldAddrM Try.prog 74 x79 1 h79 fun x80 h80 =>
 loadM Try.prog 2 x80 h80 fun x81 h81 =>
 binM Try.prog .neq 2 x81 (i64 0) h81 fun x82 h82 =>
 @wkM [(nthA s42 0), (nthA s42 1), (nthA s42 2), x82] h82 ⟨J72⟩))
 (@wkM [(nthA s42 0), (nthA s42 1), (nthA s42 2), ff] h73 ⟨J72⟩))⟩
 ⟨fun s72 h72 =>
 gdM (nthA s72 3)
 (buildM Try.prog 116 [(0, (i64 3))] h72 fun x83 h83 =>
 mkIfM Try.prog 116 x83 h83 fun x84 h84 =>
 retW x84 h84 Q)
 (binM Try.prog .add 3 (nthA s72 2) (i64 1) h72 fun x85 h85 =>
 @wkM [x85, (nthA s72 0), (nthA s72 1)] h85 ⟨J18⟩)⟩⟩⟩)
 (retW (.v Value.nilIface) h19 Q)⟩)⟩
theorem D_impl_Program_funcsFault_eq (a0 : AVal) (h : AHeap) (Q : KA) : adFn Try.prog ⟨fun _ => ⟨[], [], .nil⟩, fun i => bif Nat.beq i 2 then some [0, 19] else bif Nat.beq i 8 then some [0, 26, 27, 4, 3, 5] else bif Nat.beq i 9 then some [0, 26, 27, 4, 3, 5] else bif Nat.beq i 10 then some [0, 26, 27, 114] else none, fun i => bif Nat.beq i 4 then [27, 0, 26] else [], []⟩ Try.f55 [a0] h Q = D_impl_Program_funcsFault a0 h Q := by kernel_rfl
theorem D_impl_Program_funcsFault_of {a0 : AVal} {h : AHeap} {Q : KA} (hd : D_impl_Program_funcsFault a0 h Q) : callM Try.prog 55 [a0] h Q := callM_of (fn := Try.f55) Try.func55 (Nat.le_of_ble_eq_true (by kernel_rfl)) ((D_impl_Program_funcsFault_eq a0 h Q).symm ▸ hd)
theorem fn_impl_Program_funcsFault : fnT Try.prog 55 = true := by kernel_rfl
/- (*impl.Program).codeFault; J5: _11 p _10; J15: p _10 _11 _25 f _24 -/
def D_impl_Program_codeFault (a0 : AVal) (h : AHeap) (Q : KA) : Prop :=
 nilChkM a0 h fun x1 h1 =>
 fldAddrM Try.prog 38 x1 2 h1 fun x2 h2 =>
 loadM Try.prog 35 x2 h2 fun x3 h3 =>
 lenM Try.prog 35 x3 h3 fun x4 h4 =>
 @lpM [(i64 0), a0, x4] h4 ⟨fun s5 h5 J5 =>
 binM Try.prog .lss 3 (nthA s5 0) (nthA s5 2) h5 fun x6 h6 =>
 gdM x6
 (nilChkM (nthA s5 1) h6 fun x7 h7 =>
 fldAddrM Try.prog 38 x7 2 h7 fun x8 h8 =>
 loadM Try.prog 35 x8 h8 fun x9 h9 =>
 ixAddrM Try.prog 35 x9 (nthA s5 0) h9 fun x10 h10 =>
 nilChkM x10 h10 fun x11 h11 =>
 fldAddrM Try.prog 74 x11 3 h11 fun x12 h12 =>
 loadM Try.prog 72 x12 h12 fun x13 h13 =>
 lenM Try.prog 72 x13 h13 fun x14 h14 =>
 @lpM [(nthA s5 1), (nthA s5 2), (nthA s5 0), (i64 0), x10, x14] h14 ⟨fun s15 h15 J15 =>
 binM Try.prog .lss 3 (nthA s15 3) (nthA s15 5) h15 fun x16 h16 =>
 gdM x16
 (nilChkM (nthA s15 4) h16 fun x17 h17 =>
 fldAddrM Try.prog 74 x17 3 h17 fun x18 h18 =>
 loadM Try.prog 72 x18 h18 fun x19 h19 =>
 ixAddrM Try.prog 72 x19 (nthA s15 3) h19 fun x20 h20 =>
 @clM Try.prog 73 [(nthA s15 0), (nthA s15 4), x20] h20 ⟨fun x21 h21 =>
 unM .not x21 h21 fun x22 h22 =>
 gdM x22
 (buildM Try.prog 116 [(0, (i64 4))] h22 fun x23 h23 =>
 mkIfM Try.prog 116 x23 h23 fun x24 h24 =>
 retW x24 h24 Q)
 (binM Try.prog .add 3 (nthA s15 3) (i64 1) h22 fun x25 h25 =>
 @wkM [(nthA s15 0), (nthA s15 1), (nthA s15 2), x25, (nthA s15 4), (nthA s15 5)] h25 ⟨J15⟩)⟩)
 (binM Try.prog .add 3 (nthA s15 2) (i64 1) h16 fun x26 h26 =>
 @wkM [x26, (nthA s15 0), (nthA s15 1)] h26 ⟨J5⟩)⟩)
 (retW (.v Value.nilIface) h6 Q)⟩
theorem D_impl_Program_codeFault_eq (a0 : AVal) (h : AHeap) (Q : KA) : adFn Try.prog ⟨fun _ => ⟨[], [], .nil⟩, fun _ => none, fun i => bif Nat.beq i 2 then [11, 0, 10] else bif Nat.beq i 6 then [0, 10, 11, 25, 4, 24] else [], []⟩ Try.f56 [a0] h Q = D_impl_Program_codeFault a0 h Q := by kernel_rfl
theorem D_impl_Program_codeFault_of {a0 : AVal} {h : AHeap} {Q : KA} (hd : D_impl_Program_codeFault a0 h Q) : callM Try.prog 56 [a0] h Q := callM_of (fn := Try.f56) Try.func56 (Nat.le_of_ble_eq_true (by kernel_rfl)) ((D_impl_Program_codeFault_eq a0 h Q).symm ▸ hd)
theorem fn_impl_Program_codeFault : fnT Try.prog 56 = true := by kernel_rfl
/- (*impl.Program).certsFault; J12: _20 p _18 _19; J72: p _18 _19 _20 _97; J35: p _18 _19 _20 c i _66; J14: p _18 _19 _20 -/
def or_impl_Program_certsFault_6 : DR := ⟨[0, 1, 0, 4, 8, 16, 32, 66, 128], [0, 1, 0, 4, 12, 28, 60, 127, 255], (.one 0 (.one 1 (.one 2 (.one 3 (.one 4 (.one 5 (.one 6 (.one 7 (.one 8 .nil)))))))))⟩
@[simp] theorem dr_impl_Program_certsFault_6 : drawnOK Try.prog (regOps Try.f57 6) or_impl_Program_certsFault_6 = True := eq_true ⟨by kernel_rfl, by kernel_rfl⟩
def or_impl_Program_certsFault_8 : DR := ⟨[0, 1, 2, 4, 0, 16, 40, 127], [0, 1, 3, 7, 0, 16, 63, 127], (.one 0 (.one 1 (.one 2 (.one 3 (.one 4 (.one 5 (.one 6 (.one 7 .nil))))))))⟩
@[simp] theorem dr_impl_Program_certsFault_8 : drawnOK Try.prog (regOps Try.f57 8) or_impl_Program_certsFault_8 = True := eq_true ⟨by kernel_rfl, by kernel_rfl⟩
def or_impl_Program_certsFault_9 : DR := ⟨[0, 1, 0, 4, 8, 16, 32, 66, 128, 384, 512, 1536, 512, 4608, 10752, 16896, 33280, 81920, 131072, 131072, 655360, 1441792, 2228224, 4325376], [0, 1, 0, 4, 12, 28, 60, 127, 255, 511, 1023, 2047, 1023, 5119, 16383, 32767, 65535, 131071, 262143, 262143, 786431, 2097151, 4194303, 8388607], (.one 0 (.one 1 (.one 2 (.one 3 (.one 4 (.one 5 (.one 6 (.one 7 (.one 8 (.one 9 (.one 10 (.one 12 (.or (.one 11 (.one 13 (.one 14 (.one 15 (.one 16 (.one 17 (.one 18 (.one 19 (.one 20 (.one 21 (.one 22 (.one 23 .nil)))))))))))) (.one 13 (.one 11 (.one 14 (.one 15 (.one 16 (.one 17 (.one 18 (.one 19 (.one 20 (.one 21 (.one 22 (.one 23 .nil)))))))))))))))))))))))))⟩
@[simp] theorem dr_impl_Program_certsFault_9 : drawnOK Try.prog (regOps Try.f57 9) or_impl_Program_certsFault_9 = True := eq_true ⟨by kernel_rfl, by kernel_rfl⟩
def D_impl_Program_certsFault (a0 : AVal) (h : AHeap) (Q : KA) : Prop :=
 nilChkM a0 h fun x1 h1 =>
 fldAddrM Try.prog 38 x1 3 h1 fun x2 h2 =>
 loadM Try.prog 36 x2 h2 fun x3 h3 =>
 lenM Try.prog 36 x3 h3 fun x4 h4 =>
 binM Try.prog .gtr 3 x4 (i64 64) h4 fun x5 h5 =>
 gdM x5
 (buildM Try.prog 116 [(0, (i64 5))] h5 fun x6 h6 =>
 mkIfM Try.prog 116 x6 h6 fun x7 h7 =>
 retW x7 h7 Q)
 (nilChkM a0 h5 fun x8 h8 =>
 fldAddrM Try.prog 38 x8 3 h8 fun x9 h9 =>
 loadM Try.prog 36 x9 h9 fun x10 h10 =>
 lenM Try.prog 36 x10 h10 fun x11 h11 =>
 @lpM [(i64 0), a0, x10, x11] h11 ⟨fun s12 h12 J12 =>
 binM Try.prog .lss 3 (nthA s12 0) (nthA s12 3) h12 fun x13 h13 =>
 gdM x13
 (@jnM ⟨fun J14 =>
 ixAddrM Try.prog 36 (nthA s12 2) (nthA s12 0) h13 fun x15 h15 =>
 loadM Try.prog 96 x15 h15 fun x16 h16 =>
 allocM Try.prog 96 h16 fun x17 h17 =>
 storeM Try.prog 96 x17 x16 h17 fun x18 h18 =>
 And (drawnOK Try.prog (regOps Try.f57 6) or_impl_Program_certsFault_6) (fldAddrM Try.prog 96 x17 0 h18 fun x19 h19 =>
 loadM Try.prog 2 x19 h19 fun x20 h20 =>
 nilChkM (nthA s12 1) h20 fun x21 h21 =>
 fldAddrM Try.prog 38 x21 2 h21 fun x22 h22 =>
 loadM Try.prog 35 x22 h22 fun x23 h23 =>
 lenM Try.prog 35 x23 h23 fun x24 h24 =>
 @clM Try.prog 74 [x20, x24] h24 ⟨fun x25 h25 =>
 unM .not x25 h25 fun x26 h26 =>
 gdM x26
 (buildM Try.prog 116 [(0, (i64 5))] h26 fun x27 h27 =>
 mkIfM Try.prog 116 x27 h27 fun x28 h28 =>
 retW x28 h28 Q)
 (And (drawnOK Try.prog (regOps Try.f57 8) or_impl_Program_certsFault_8) (nilChkM (nthA s12 1) h26 fun x29 h29 =>
 fldAddrM Try.prog 38 x29 2 h29 fun x30 h30 =>
 loadM Try.prog 35 x30 h30 fun x31 h31 =>
 fldAddrM Try.prog 96 x17 0 h31 fun x32 h32 =>
 loadM Try.prog 2 x32 h32 fun x33 h33 =>
 ixAddrM Try.prog 35 x31 x33 h33 fun x34 h34 =>
 @jnM ⟨fun J35 =>
 And (drawnOK Try.prog (regOps Try.f57 9) or_impl_Program_certsFault_9) (fldAddrM Try.prog 96 x17 1 h34 fun x36 h36 =>
 loadM Try.prog 2 x36 h36 fun x37 h37 =>
 nilChkM x34 h37 fun x38 h38 =>
 fldAddrM Try.prog 74 x38 3 h38 fun x39 h39 =>
 loadM Try.prog 72 x39 h39 fun x40 h40 =>
 lenM Try.prog 72 x40 h40 fun x41 h41 =>
 @clM Try.prog 74 [x37, x41] h41 ⟨fun x42 h42 =>
 unM .not x42 h42 fun x43 h43 =>
 gdM x43
 (And (@wkM [(nthA s12 1), (nthA s12 2), (nthA s12 3), (nthA s12 0), x17, (nthA s12 0), tt] h43 ⟨J35⟩)
 (@wkM [(nthA s12 1), (nthA s12 2), (nthA s12 3), (nthA s12 0), x17, (nthA s12 0), tt] h43 ⟨J35⟩))
 (fldAddrM Try.prog 96 x17 2 h43 fun x44 h44 =>
 And (loadM Try.prog 2 x44 h44 fun x45 h45 =>
 @clM Try.prog 72 [x34] h45 ⟨fun x46 h46 =>
 @clM Try.prog 74 [x45, x46] h46 ⟨fun x47 h47 =>
 unM .not x47 h47 fun x48 h48 =>
 gdM x48
 (@wkM [(nthA s12 1), (nthA s12 2), (nthA s12 3), (nthA s12 0), x17, (nthA s12 0), tt] h48 ⟨J35⟩)
 (fldAddrM Try.prog 96 x17 2 h48 fun x49 h49 =>
 loadM Try.prog 2 x49 h49 fun x50 h50 =>
 @clM Try.prog 75 [x34, x50] h50 ⟨fun x51 h51 =>
 binM Try.prog .neq 2 x51 (i64 3) h51 fun x52 h52 =>
 @wkM [(nthA s12 1), (nthA s12 2), (nthA s12 3), (nthA s12 0), x17, (nthA s12 0), x52] h52 ⟨J35⟩⟩)⟩⟩)
 (@clM Try.prog 72 [x34] h44 ⟨fun x53 h53 =>
 loadM Try.prog 2 x44 h53 fun x54 h54 =>
 @clM Try.prog 74 [x54, x53] h54 ⟨fun x55 h55 =>
 unM .not x55 h55 fun x56 h56 =>
 gdM x56
 (@wkM [(nthA s12 1), (nthA s12 2), (nthA s12 3), (nthA s12 0), x17, (nthA s12 0), tt] h56 ⟨J35⟩)
 (fldAddrM Try.prog 96 x17 2 h56 fun x57 h57 =>
 loadM Try.prog 2 x57 h57 fun x58 h58 =>
 @clM Try.prog 75 [x34, x58] h58 ⟨fun x59 h59 =>
 binM Try.prog .neq 2 x59 (i64 3) h59 fun x60 h60 =>
 @wkM [(nthA s12 1), (nthA s12 2), (nthA s12 3), (nthA s12 0), x17, (nthA s12 0), x60] h60 ⟨J35⟩⟩)⟩⟩))⟩)⟩
 ⟨fun s35 h35 =>
 gdM (nthA s35 6)
 (buildM Try.prog 116 [(0, (i64 5))] h35 fun x61 h61 =>
 mkIfM Try.prog 116 x61 h61 fun x62 h62 =>
 retW x62 h62 Q)
 (binM Try.prog .gtr 3 (nthA s35 5) (i64 0) h35 fun x63 h63 =>
 gdM x63
 (nilChkM (nthA s35 0) h63 fun x64 h64 =>
 fldAddrM Try.prog 38 x64 3 h64 fun x65 h65 =>
 loadM Try.prog 36 x65 h65 fun x66 h66 =>
 binM Try.prog .sub 3 (nthA s35 5) (i64 1) h66 fun x67 h67 =>
 ixAddrM Try.prog 36 x66 x67 h67 fun x68 h68 =>
 loadM Try.prog 96 x68 h68 fun x69 h69 =>
 allocM Try.prog 96 h69 fun x70 h70 =>
 storeM Try.prog 96 x70 x69 h70 fun x71 h71 =>
 @jnM ⟨fun J72 =>
 fldAddrM Try.prog 96 x70 0 h71 fun x73 h73 =>
 loadM Try.prog 2 x73 h73 fun x74 h74 =>
 fldAddrM Try.prog 96 (nthA s35 4) 0 h74 fun x75 h75 =>
 loadM Try.prog 2 x75 h75 fun x76 h76 =>
 binM Try.prog .gtr 2 x74 x76 h76 fun x77 h77 =>
 gdM x77
 (@wkM [(nthA s35 0), (nthA s35 1), (nthA s35 2), (nthA s35 3), tt] h77 ⟨J72⟩)
 (fldAddrM Try.prog 96 x70 0 h77 fun x78 h78 =>
 loadM Try.prog 2 x78 h78 fun x79 h79 =>
 fldAddrM Try.prog 96 (nthA s35 4) 0 h79 fun x80 h80 =>
 loadM Try.prog 2 x80 h80 fun x81 h81 =>
 binM Try.prog .eql 2 x79 x81 h81 fun x82 h82 =>
 gdM x82
 (fldAddrM Try.prog 96 x70 1 h82 fun x83 h83 =>
 loadM Try.prog 2 x83 h83 fun x84 h84 =>
 fldAddrM Try.prog 96 (nthA s35 4) 1 h84 fun x85 h85 =>
 loadM Try.prog 2 x85 h85 fun x86 h86 =>
 binM Try.prog .geq 2 x84 x86 h86 fun x87 h87 =>
 @wkM [(nthA s35 0), (nthA s35 1), (nthA s35 2), (nthA s35 3), x87] h87 ⟨J72⟩)
 (@wkM [(nthA s35 0), (nthA s35 1), (nthA s35 2), (nthA s35 3), ff] h82 ⟨J72⟩))⟩
 ⟨fun s72 h72 =>
 gdM (nthA s72 4)
 (buildM Try.prog 116 [(0, (i64 5))] h72 fun x88 h88 =>
 mkIfM Try.prog 116 x88 h88 fun x89 h89 =>
 retW x89 h89 Q)
 (@wkM [(nthA s72 0), (nthA s72 1), (nthA s72 2), (nthA s72 3)] h72 ⟨J14⟩)⟩)
 (@wkM [(nthA s35 0), (nthA s35 1), (nthA s35 2), (nthA s35 3)] h63 ⟨J14⟩))⟩))⟩)⟩
 ⟨fun s14 h14 =>
 binM Try.prog .add 3 (nthA s14 3) (i64 1) h14 fun x90 h90 =>
 @wkM [x90, (nthA s14 0), (nthA s14 1), (nthA s14 2)] h90 ⟨J12⟩⟩)
 (retW (.v Value.nilIface) h13 Q)⟩)
theorem D_impl_Program_certsFault_eq (a0 : AVal) (h : AHeap) (Q : KA) : adFn Try.prog ⟨fun i => bif Nat.beq i 6 then or_impl_Program_certsFault_6 else bif Nat.beq i 8 then or_impl_Program_certsFault_8 else bif Nat.beq i 9 then or_impl_Program_certsFault_9 else ⟨[], [], .nil⟩, fun i => bif Nat.beq i 10 then some [0, 18, 19, 20, 4, 3, 66] else bif Nat.beq i 14 then some [0, 18, 19, 20, 97] else bif Nat.beq i 15 then some [0, 18, 19, 20] else none, fun i => bif Nat.beq i 4 then [20, 0, 18, 19] else [], []⟩ Try.f57 [a0] h Q = D_impl_Program_certsFault a0 h Q := by kernel_rfl
theorem D_impl_Program_certsFault_of {a0 : AVal} {h : AHeap} {Q : KA} (hd : D_impl_Program_certsFault a0 h Q) : callM Try.prog 57 [a0] h Q := callM_of (fn := Try.f57) Try.func57 (Nat.le_of_ble_eq_true (by kernel_rfl)) ((D_impl_Program_certsFault_eq a0 h Q).symm ▸ hd)
theorem fn_impl_Program_certsFault : fnT Try.prog 57 = true := by kernel_rfl
/- laws.eqConst -/
def D_laws_eqConst (a0 a1 : AVal) (h : AHeap) (Q : KA) : Prop :=
 boxFM a0 h fun x1 h1 =>
 boxFM a1 h1 fun x2 h2 =>
 fldAddrM Try.prog 91 x1 0 h2 fun x3 h3 =>
 loadM Try.prog 2 x3 h3 fun x4 h4 =>
 fldAddrM Try.prog 91 x2 0 h4 fun x5 h5 =>
 loadM Try.prog 2 x5 h5 fun x6 h6 =>
 binM Try.prog .neq 2 x4 x6 h6 fun x7 h7 =>
 gdM x7
 (retW ff h7 Q)
 (fldAddrM Try.prog 91 x1 1 h7 fun x8 h8 =>
 loadM Try.prog 88 x8 h8 fun x9 h9 =>
 fldAddrM Try.prog 91 x2 1 h9 fun x10 h10 =>
 loadM Try.prog 88 x10 h10 fun x11 h11 =>
 binM Try.prog .neq 88 x9 x11 h11 fun x12 h12 =>
 gdM x12
 (retW ff h12 Q)
 (retW tt h12 Q))
theorem D_laws_eqConst_eq (a0 a1 : AVal) (h : AHeap) (Q : KA) : adFn Try.prog ⟨fun _ => ⟨[], [], .nil⟩, fun _ => none, fun _ => [], [2, 3]⟩ Try.f58 [a0, a1] h Q = D_laws_eqConst a0 a1 h Q := by kernel_rfl
theorem D_laws_eqConst_of {a0 a1 : AVal} {h : AHeap} {Q : KA} (hd : D_laws_eqConst a0 a1 h Q) : callM Try.prog 58 [a0, a1] h Q := callM_of (fn := Try.f58) Try.func58 (Nat.le_of_ble_eq_true (by kernel_rfl)) ((D_laws_eqConst_eq a0 a1 h Q).symm ▸ hd)
theorem fn_laws_eqConst : fnT Try.prog 58 = true := by kernel_rfl
/- laws.eqFunc -/
def D_laws_eqFunc (a0 a1 : AVal) (h : AHeap) (Q : KA) : Prop :=
 boxFM a0 h fun x1 h1 =>
 boxFM a1 h1 fun x2 h2 =>
 fldAddrM Try.prog 74 x1 0 h2 fun x3 h3 =>
 loadM Try.prog 45 x3 h3 fun x4 h4 =>
 fldAddrM Try.prog 74 x2 0 h4 fun x5 h5 =>
 loadM Try.prog 45 x5 h5 fun x6 h6 =>
 @clM Try.prog 15 [x4, x6] h6 ⟨fun x7 h7 =>
 unM .not x7 h7 fun x8 h8 =>
 gdM x8
 (retW ff h8 Q)
 (fldAddrM Try.prog 74 x1 1 h8 fun x9 h9 =>
 loadM Try.prog 2 x9 h9 fun x10 h10 =>
 fldAddrM Try.prog 74 x2 1 h10 fun x11 h11 =>
 loadM Try.prog 2 x11 h11 fun x12 h12 =>
 binM Try.prog .neq 2 x10 x12 h12 fun x13 h13 =>
 gdM x13
 (retW ff h13 Q)
 (fldAddrM Try.prog 74 x1 2 h13 fun x14 h14 =>
 loadM Try.prog 45 x14 h14 fun x15 h15 =>
 fldAddrM Try.prog 74 x2 2 h15 fun x16 h16 =>
 loadM Try.prog 45 x16 h16 fun x17 h17 =>
 @clM Try.prog 15 [x15, x17] h17 ⟨fun x18 h18 =>
 unM .not x18 h18 fun x19 h19 =>
 gdM x19
 (retW ff h19 Q)
 (fldAddrM Try.prog 74 x1 3 h19 fun x20 h20 =>
 loadM Try.prog 72 x20 h20 fun x21 h21 =>
 fldAddrM Try.prog 74 x2 3 h21 fun x22 h22 =>
 loadM Try.prog 72 x22 h22 fun x23 h23 =>
 @clM Try.prog 76 [x21, x23] h23 ⟨fun x24 h24 =>
 unM .not x24 h24 fun x25 h25 =>
 gdM x25
 (retW ff h25 Q)
 (retW tt h25 Q)⟩)⟩))⟩
theorem D_laws_eqFunc_eq (a0 a1 : AVal) (h : AHeap) (Q : KA) : adFn Try.prog ⟨fun _ => ⟨[], [], .nil⟩, fun _ => none, fun _ => [], [2, 3]⟩ Try.f59 [a0, a1] h Q = D_laws_eqFunc a0 a1 h Q := by kernel_rfl
theorem D_laws_eqFunc_of {a0 a1 : AVal} {h : AHeap} {Q : KA} (hd : D_laws_eqFunc a0 a1 h Q) : callM Try.prog 59 [a0, a1] h Q := callM_of (fn := Try.f59) Try.func59 (Nat.le_of_ble_eq_true (by kernel_rfl)) ((D_laws_eqFunc_eq a0 a1 h Q).symm ▸ hd)
theorem fn_laws_eqFunc : fnT Try.prog 59 = true := by kernel_rfl
/- laws.eqCert -/
def D_laws_eqCert (a0 a1 : AVal) (h : AHeap) (Q : KA) : Prop :=
 boxFM a0 h fun x1 h1 =>
 boxFM a1 h1 fun x2 h2 =>
 fldAddrM Try.prog 96 x1 0 h2 fun x3 h3 =>
 loadM Try.prog 2 x3 h3 fun x4 h4 =>
 fldAddrM Try.prog 96 x2 0 h4 fun x5 h5 =>
 loadM Try.prog 2 x5 h5 fun x6 h6 =>
 binM Try.prog .neq 2 x4 x6 h6 fun x7 h7 =>
 gdM x7
 (retW ff h7 Q)
 (fldAddrM Try.prog 96 x1 1 h7 fun x8 h8 =>
 loadM Try.prog 2 x8 h8 fun x9 h9 =>
 fldAddrM Try.prog 96 x2 1 h9 fun x10 h10 =>
 loadM Try.prog 2 x10 h10 fun x11 h11 =>
 binM Try.prog .neq 2 x9 x11 h11 fun x12 h12 =>
 gdM x12
 (retW ff h12 Q)
 (fldAddrM Try.prog 96 x1 2 h12 fun x13 h13 =>
 loadM Try.prog 2 x13 h13 fun x14 h14 =>
 fldAddrM Try.prog 96 x2 2 h14 fun x15 h15 =>
 loadM Try.prog 2 x15 h15 fun x16 h16 =>
 binM Try.prog .neq 2 x14 x16 h16 fun x17 h17 =>
 gdM x17
 (retW ff h17 Q)
 (fldAddrM Try.prog 96 x1 3 h17 fun x18 h18 =>
 loadM Try.prog 88 x18 h18 fun x19 h19 =>
 fldAddrM Try.prog 96 x2 3 h19 fun x20 h20 =>
 loadM Try.prog 88 x20 h20 fun x21 h21 =>
 binM Try.prog .neq 88 x19 x21 h21 fun x22 h22 =>
 gdM x22
 (retW ff h22 Q)
 (retW tt h22 Q))))
theorem D_laws_eqCert_eq (a0 a1 : AVal) (h : AHeap) (Q : KA) : adFn Try.prog ⟨fun _ => ⟨[], [], .nil⟩, fun _ => none, fun _ => [], [2, 3]⟩ Try.f60 [a0, a1] h Q = D_laws_eqCert a0 a1 h Q := by kernel_rfl
theorem D_laws_eqCert_of {a0 a1 : AVal} {h : AHeap} {Q : KA} (hd : D_laws_eqCert a0 a1 h Q) : callM Try.prog 60 [a0, a1] h Q := callM_of (fn := Try.f60) Try.func60 (Nat.le_of_ble_eq_true (by kernel_rfl)) ((D_laws_eqCert_eq a0 a1 h Q).symm ▸ hd)
theorem fn_laws_eqCert : fnT Try.prog 60 = true := by kernel_rfl
/- laws.markInstrS; J1: k i a -/
def D_laws_markInstrS (a0 a1 : AVal) (h : AHeap) (Q : KA) : Prop :=
 @lpM [a1, (i64 0), a0] h ⟨fun s1 h1 J1 =>
 lenM Try.prog 72 (nthA s1 2) h1 fun x2 h2 =>
 binM Try.prog .lss 3 (nthA s1 1) x2 h2 fun x3 h3 =>
 gdM x3
 (ixAddrM Try.prog 72 (nthA s1 2) (nthA s1 1) h3 fun x4 h4 =>
 fldAddrM Try.prog 76 x4 0 h4 fun x5 h5 =>
 storeM Try.prog 2 x5 (nthA s1 0) h5 fun x6 h6 =>
 binM Try.prog .add 3 (nthA s1 0) (i64 1) h6 fun x7 h7 =>
 ixAddrM Try.prog 72 (nthA s1 2) (nthA s1 1) h7 fun x8 h8 =>
 fldAddrM Try.prog 76 x8 1 h8 fun x9 h9 =>
 storeM Try.prog 2 x9 x7 h9 fun x10 h10 =>
 binM Try.prog .add 3 x7 (i64 1) h10 fun x11 h11 =>
 ixAddrM Try.prog 72 (nthA s1 2) (nthA s1 1) h11 fun x12 h12 =>
 fldAddrM Try.prog 76 x12 2 h12 fun x13 h13 =>
 storeM Try.prog 2 x13 x11 h13 fun x14 h14 =>
 binM Try.prog .add 3 x11 (i64 1) h14 fun x15 h15 =>
 ixAddrM Try.prog 72 (nthA s1 2) (nthA s1 1) h15 fun x16 h16 =>
 fldAddrM Try.prog 76 x16 3 h16 fun x17 h17 =>
 storeM Try.prog 2 x17 x15 h17 fun x18 h18 =>
 binM Try.prog .add 3 x15 (i64 1) h18 fun x19 h19 =>
 binM Try.prog .add 3 (nthA s1 1) (i64 1) h19 fun x20 h20 =>
 @wkM [x19, x20, (nthA s1 2)] h20 ⟨J1⟩)
 (retW (nthA s1 0) h3 Q)⟩
theorem D_laws_markInstrS_eq (a0 a1 : AVal) (h : AHeap) (Q : KA) : adFn Try.prog ⟨fun _ => ⟨[], [], .nil⟩, fun _ => none, fun i => bif Nat.beq i 2 then [1, 5, 0] else [], []⟩ Try.f61 [a0, a1] h Q = D_laws_markInstrS a0 a1 h Q := by kernel_rfl
theorem D_laws_markInstrS_of {a0 a1 : AVal} {h : AHeap} {Q : KA} (hd : D_laws_markInstrS a0 a1 h Q) : callM Try.prog 61 [a0, a1] h Q := callM_of (fn := Try.f61) Try.func61 (Nat.le_of_ble_eq_true (by kernel_rfl)) ((D_laws_markInstrS_eq a0 a1 h Q).symm ▸ hd)
theorem fn_laws_markInstrS : fnT Try.prog 61 = true := by kernel_rfl
/- laws.szInstrS -/
def D_laws_szInstrS (a0 a1 : AVal) (h : AHeap) (Q : KA) : Prop :=
 lenM Try.prog 81 a0 h fun x1 h1 =>
 binM Try.prog .sub 3 a1 x1 h1 fun x2 h2 =>
 binM Try.prog .lss 3 x2 (i64 0) h2 fun x3 h3 =>
 gdM x3
 (retW (i64 (-1)) h3 Q)
 (retW x2 h3 Q)
theorem D_laws_szInstrS_eq (a0 a1 : AVal) (h : AHeap) (Q : KA) : adFn Try.prog ⟨fun _ => ⟨[], [], .nil⟩, fun _ => none, fun _ => [], []⟩ Try.f62 [a0, a1] h Q = D_laws_szInstrS a0 a1 h Q := by kernel_rfl
theorem D_laws_szInstrS_of {a0 a1 : AVal} {h : AHeap} {Q : KA} (hd : D_laws_szInstrS a0 a1 h Q) : callM Try.prog 62 [a0, a1] h Q := callM_of (fn := Try.f62) Try.func62 (Nat.le_of_ble_eq_true (by kernel_rfl)) ((D_laws_szInstrS_eq a0 a1 h Q).symm ▸ hd)
theorem fn_laws_szInstrS : fnT Try.prog 62 = true := by kernel_rfl
/- spec.l2Type; J1: _2 -/
def D_spec_l2Type (a0 : AVal) (h : AHeap) (Q : KA) : Prop :=
 @jnM ⟨fun J1 =>
 binM Try.prog .geq 2 a0 (i64 1) h fun x2 h2 =>
 gdM x2
 (binM Try.prog .leq 2 a0 (i64 3) h2 fun x3 h3 =>
 @wkM [x3] h3 ⟨J1⟩)
 (@wkM [ff] h2 ⟨J1⟩)⟩
 ⟨fun s1 h1 =>
 retW (nthA s1 0) h1 Q⟩
theorem D_spec_l2Type_eq (a0 : AVal) (h : AHeap) (Q : KA) : adFn Try.prog ⟨fun _ => ⟨[], [], .nil⟩, fun i => bif Nat.beq i 0 then some [2] else none, fun _ => [], []⟩ Try.f63 [a0] h Q = D_spec_l2Type a0 h Q := by kernel_rfl
theorem D_spec_l2Type_of {a0 : AVal} {h : AHeap} {Q : KA} (hd : D_spec_l2Type a0 h Q) : callM Try.prog 63 [a0] h Q := callM_of (fn := Try.f63) Try.func63 (Nat.le_of_ble_eq_true (by kernel_rfl)) ((D_spec_l2Type_eq a0 h Q).symm ▸ hd)
theorem fn_spec_l2Type : fnT Try.prog 63 = true := by kernel_rfl
/- spec.Info; J2: _2 op _8 -/
def D_spec_Info (a0 : AVal) (h : AHeap) (Q : KA) : Prop :=
 allocM Try.prog 108 h fun x1 h1 =>
 @jnM ⟨fun J2 =>
 binM Try.prog .lss 2 a0 (i64 0) h1 fun x3 h3 =>
 gdM x3
 (@wkM [x1, a0, tt] h3 ⟨J2⟩)
 (binM Try.prog .gtr 2 a0 (i64 29) h3 fun x4 h4 =>
 @wkM [x1, a0, x4] h4 ⟨J2⟩)⟩
 ⟨fun s2 h2 =>
 gdM (nthA s2 2)
 (buildM Try.prog 108 [] h2 fun x5 h5 =>
 storeM Try.prog 108 (nthA s2 0) x5 h5 fun x6 h6 =>
 loadM Try.prog 108 (nthA s2 0) h6 fun x7 h7 =>
 retW x7 h7 Q)
 (@clM Try.prog 77 [] h2 ⟨fun x8 h8 =>
 ixAddrM Try.prog 124 x8 (nthA s2 1) h8 fun x9 h9 =>
 loadM Try.prog 108 x9 h9 fun x10 h10 =>
 storeM Try.prog 108 (nthA s2 0) x10 h10 fun x11 h11 =>
 loadM Try.prog 108 (nthA s2 0) h11 fun x12 h12 =>
 retW x12 h12 Q⟩)⟩
theorem D_spec_Info_eq (a0 : AVal) (h : AHeap) (Q : KA) : adFn Try.prog ⟨fun _ => ⟨[], [], .nil⟩, fun i => bif Nat.beq i 2 then some [2, 0, 8] else none, fun _ => [], []⟩ Try.f64 [a0] h Q = D_spec_Info a0 h Q := by kernel_rfl
theorem D_spec_Info_of {a0 : AVal} {h : AHeap} {Q : KA} (hd : D_spec_Info a0 h Q) : callM Try.prog 64 [a0] h Q := callM_of (fn := Try.f64) Try.func64 (Nat.le_of_ble_eq_true (by kernel_rfl)) ((D_spec_Info_eq a0 h Q).symm ▸ hd)
theorem fn_spec_Info : fnT Try.prog 64 = true := by kernel_rfl
/- spec.l3Local; J12: n k f _32; J5: n k f _15 -/
def D_spec_l3Local (a0 a1 : AVal) (h : AHeap) (Q : KA) : Prop :=
 boxFM a0 h fun x1 h1 =>
 fldAddrM Try.prog 74 x1 0 h1 fun x2 h2 =>
 loadM Try.prog 45 x2 h2 fun x3 h3 =>
 lenM Try.prog 45 x3 h3 fun x4 h4 =>
 @jnM ⟨fun J5 =>
 binM Try.prog .geq 2 a1 (i64 0) h4 fun x6 h6 =>
 gdM x6
 (binM Try.prog .lss 2 a1 x4 h6 fun x7 h7 =>
 @wkM [x4, a1, x1, x7] h7 ⟨J5⟩)
 (@wkM [x4, a1, x1, ff] h6 ⟨J5⟩)⟩
 ⟨fun s5 h5 =>
 gdM (nthA s5 3)
 (fldAddrM Try.prog 74 (nthA s5 2) 0 h5 fun x8 h8 =>
 loadM Try.prog 45 x8 h8 fun x9 h9 =>
 ixAddrM Try.prog 45 x9 (nthA s5 1) h9 fun x10 h10 =>
 loadM Try.prog 2 x10 h10 fun x11 h11 =>
 retW x11 h11 Q)
 (@jnM ⟨fun J12 =>
 binM Try.prog .geq 2 (nthA s5 1) (nthA s5 0) h5 fun x13 h13 =>
 gdM x13
 (fldAddrM Try.prog 74 (nthA s5 2) 2 h13 fun x14 h14 =>
 loadM Try.prog 45 x14 h14 fun x15 h15 =>
 lenM Try.prog 45 x15 h15 fun x16 h16 =>
 binM Try.prog .add 2 (nthA s5 0) x16 h16 fun x17 h17 =>
 binM Try.prog .lss 2 (nthA s5 1) x17 h17 fun x18 h18 =>
 @wkM [(nthA s5 0), (nthA s5 1), (nthA s5 2), x18] h18 ⟨J12⟩)
 (@wkM [(nthA s5 0), (nthA s5 1), (nthA s5 2), ff] h13 ⟨J12⟩)⟩
 ⟨fun s12 h12 =>
 gdM (nthA s12 3)
 (fldAddrM Try.prog 74 (nthA s12 2) 2 h12 fun x19 h19 =>
 loadM Try.prog 45 x19 h19 fun x20 h20 =>
 binM Try.prog .sub 2 (nthA s12 1) (nthA s12 0) h20 fun x21 h21 =>
 ixAddrM Try.prog 45 x20 x21 h21 fun x22 h22 =>
 loadM Try.prog 2 x22 h22 fun x23 h23 =>
 retW x23 h23 Q)
 (retW (i64 0) h12 Q)⟩)⟩
theorem D_spec_l3Local_eq (a0 a1 : AVal) (h : AHeap) (Q : KA) : adFn Try.prog ⟨fun _ => ⟨[], [], .nil⟩, fun i => bif Nat.beq i 3 then some [5, 1, 2, 15] else bif Nat.beq i 5 then some [5, 1, 2, 32] else none, fun _ => [], [2]⟩ Try.f65 [a0, a1] h Q = D_spec_l3Local a0 a1 h Q := by kernel_rfl
theorem D_spec_l3Local_of {a0 a1 : AVal} {h : AHeap} {Q : KA} (hd : D_spec_l3Local a0 a1 h Q) : callM Try.prog 65 [a0, a1] h Q := callM_of (fn := Try.f65) Try.func65 (Nat.le_of_ble_eq_true (by kernel_rfl)) ((D_spec_l3Local_eq a0 a1 h Q).symm ▸ hd)
theorem fn_spec_l3Local : fnT Try.prog 65 = true := by kernel_rfl
/- spec.l3Cell; J2: cell region p _26 -/
def D_spec_l3Cell (a0 a1 a2 : AVal) (h : AHeap) (Q : KA) : Prop :=
 boxFM a0 h fun x1 h1 =>
 @jnM ⟨fun J2 =>
 binM Try.prog .lss 2 a1 (i64 0) h1 fun x3 h3 =>
 gdM x3
 (@wkM [a2, a1, x1, tt] h3 ⟨J2⟩)
 (binM Try.prog .gtr 2 a1 (i64 2) h3 fun x4 h4 =>
 gdM x4
 (@wkM [a2, a1, x1, tt] h4 ⟨J2⟩)
 (binM Try.prog .lss 2 a2 (i64 0) h4 fun x5 h5 =>
 gdM x5
 (@wkM [a2, a1, x1, tt] h5 ⟨J2⟩)
 (fldAddrM Try.prog 38 x1 0 h5 fun x6 h6 =>
 loadM Try.prog 22 x6 h6 fun x7 h7 =>
 ixAddrM Try.prog 22 x7 a1 h7 fun x8 h8 =>
 loadM Try.prog 45 x8 h8 fun x9 h9 =>
 lenM Try.prog 45 x9 h9 fun x10 h10 =>
 binM Try.prog .geq 2 a2 x10 h10 fun x11 h11 =>
 @wkM [a2, a1, x1, x11] h11 ⟨J2⟩)))⟩
 ⟨fun s2 h2 =>
 gdM (nthA s2 3)
 (retW (i64 0) h2 Q)
 (fldAddrM Try.prog 38 (nthA s2 2) 0 h2 fun x12 h12 =>
 loadM Try.prog 22 x12 h12 fun x13 h13 =>
 ixAddrM Try.prog 22 x13 (nthA s2 1) h13 fun x14 h14 =>
 loadM Try.prog 45 x14 h14 fun x15 h15 =>
 ixAddrM Try.prog 45 x15 (nthA s2 0) h15 fun x16 h16 =>
 loadM Try.prog 2 x16 h16 fun x17 h17 =>
 retW x17 h17 Q)⟩
theorem D_spec_l3Cell_eq (a0 a1 a2 : AVal) (h : AHeap) (Q : KA) : adFn Try.prog ⟨fun _ => ⟨[], [], .nil⟩, fun i => bif Nat.beq i 2 then some [2, 1, 3, 26] else none, fun _ => [], [3]⟩ Try.f66 [a0, a1, a2] h Q = D_spec_l3Cell a0 a1 a2 h Q := by kernel_rfl
theorem D_spec_l3Cell_of {a0 a1 a2 : AVal} {h : AHeap} {Q : KA} (hd : D_spec_l3Cell a0 a1 a2 h Q) : callM Try.prog 66 [a0, a1, a2] h Q := callM_of (fn := Try.f66) Try.func66 (Nat.le_of_ble_eq_true (by kernel_rfl)) ((D_spec_l3Cell_eq a0 a1 a2 h Q).symm ▸ hd)
theorem fn_spec_l3Cell : fnT Try.prog 66 = true := by kernel_rfl
/- spec.l3Mask; J23: k t x p; J27: t x p k _49; J3: x p _23 -/
def D_spec_l3Mask (a0 a1 : AVal) (h : AHeap) (Q : KA) : Prop :=
 boxFM a0 h fun x1 h1 =>
 boxFM a1 h1 fun x2 h2 =>
 @jnM ⟨fun J3 =>
 fldAddrM Try.prog 76 x2 3 h2 fun x4 h4 =>
 loadM Try.prog 2 x4 h4 fun x5 h5 =>
 binM Try.prog .lss 2 x5 (i64 0) h5 fun x6 h6 =>
 gdM x6
 (@wkM [x2, x1, tt] h6 ⟨J3⟩)
 (fldAddrM Try.prog 76 x2 3 h6 fun x7 h7 =>
 loadM Try.prog 2 x7 h7 fun x8 h8 =>
 binM Try.prog .geq 2 x8 (i64 256) h8 fun x9 h9 =>
 gdM x9
 (@wkM [x2, x1, tt] h9 ⟨J3⟩)
 (fldAddrM Try.prog 76 x2 3 h9 fun x10 h10 =>
 loadM Try.prog 2 x10 h10 fun x11 h11 =>
 fldAddrM Try.prog 76 x2 3 h11 fun x12 h12 =>
 loadM Try.prog 2 x12 h12 fun x13 h13 =>
 binM Try.prog .add 2 x13 (i64 1) h13 fun x14 h14 =>
 binM Try.prog .and 2 x11 x14 h14 fun x15 h15 =>
 binM Try.prog .neq 2 x15 (i64 0) h15 fun x16 h16 =>
 @wkM [x2, x1, x16] h16 ⟨J3⟩))⟩
 ⟨fun s3 h3 =>
 gdM (nthA s3 2)
 (retW ff h3 Q)
 (loadM Try.prog 38 (nthA s3 1) h3 fun x17 h17 =>
 fldAddrM Try.prog 76 (nthA s3 0) 1 h17 fun x18 h18 =>
 loadM Try.prog 2 x18 h18 fun x19 h19 =>
 fldAddrM Try.prog 76 (nthA s3 0) 2 h19 fun x20 h20 =>
 loadM Try.prog 2 x20 h20 fun x21 h21 =>
 @clM Try.prog 66 [x17, x19, x21] h21 ⟨fun x22 h22 =>
 @lpM [(i64 0), x22, (nthA s3 0), (nthA s3 1)] h22 ⟨fun s23 h23 J23 =>
 fldAddrM Try.prog 76 (nthA s23 2) 3 h23 fun x24 h24 =>
 loadM Try.prog 2 x24 h24 fun x25 h25 =>
 binM Try.prog .leq 2 (nthA s23 0) x25 h25 fun x26 h26 =>
 gdM x26
 (@jnM ⟨fun J27 =>
 binM Try.prog .eql 2 (nthA s23 1) (i64 0) h26 fun x28 h28 =>
 gdM x28
 (@wkM [(nthA s23 1), (nthA s23 2), (nthA s23 3), (nthA s23 0), tt] h28 ⟨J27⟩)
 (loadM Try.prog 38 (nthA s23 3) h28 fun x29 h29 =>
 fldAddrM Try.prog 76 (nthA s23 2) 1 h29 fun x30 h30 =>
 loadM Try.prog 2 x30 h30 fun x31 h31 =>
 fldAddrM Try.prog 76 (nthA s23 2) 2 h31 fun x32 h32 =>
 loadM Try.prog 2 x32 h32 fun x33 h33 =>
 binM Try.prog .add 2 x33 (nthA s23 0) h33 fun x34 h34 =>
 @clM Try.prog 66 [x29, x31, x34] h34 ⟨fun x35 h35 =>
 binM Try.prog .neq 2 x35 (nthA s23 1) h35 fun x36 h36 =>
 @wkM [(nthA s23 1), (nthA s23 2), (nthA s23 3), (nthA s23 0), x36] h36 ⟨J27⟩⟩)⟩
 ⟨fun s27 h27 =>
 gdM (nthA s27 4)
 (retW ff h27 Q)
 (binM Try.prog .add 2 (nthA s27 3) (i64 1) h27 fun x37 h37 =>
 @wkM [x37, (nthA s27 0), (nthA s27 1), (nthA s27 2)] h37 ⟨J23⟩)⟩)
 (retW tt h26 Q)⟩⟩)⟩
theorem D_spec_l3Mask_eq (a0 a1 : AVal) (h : AHeap) (Q : KA) : adFn Try.prog ⟨fun _ => ⟨[], [], .nil⟩, fun i => bif Nat.beq i 2 then some [3, 2, 23] else bif Nat.beq i 8 then some [5, 3, 2, 6, 49] else none, fun i => bif Nat.beq i 5 then [6, 5, 3, 2] else [], [2, 3]⟩ Try.f67 [a0, a1] h Q = D_spec_l3Mask a0 a1 h Q := by kernel_rfl
theorem D_spec_l3Mask_of {a0 a1 : AVal} {h : AHeap} {Q : KA} (hd : D_spec_l3Mask a0 a1 h Q) : callM Try.prog 67 [a0, a1] h Q := callM_of (fn := Try.f67) Try.func67 (Nat.le_of_ble_eq_true (by kernel_rfl)) ((D_spec_l3Mask_eq a0 a1 h Q).symm ▸ hd)
theorem fn_spec_l3Mask : fnT Try.prog 67 = true := by kernel_rfl
/- spec.l2Takes; J2: _4; J6: _4; J10: _4; J12: _4 -/
def D_spec_l2Takes (a0 a1 : AVal) (h : AHeap) (Q : KA) : Prop :=
 binM Try.prog .eql 2 a0 (i64 5) h fun x1 h1 =>
 gdM x1
 (@jnM ⟨fun J2 =>
 binM Try.prog .eql 2 a1 (i64 2) h1 fun x3 h3 =>
 gdM x3
 (@wkM [tt] h3 ⟨J2⟩)
 (binM Try.prog .eql 2 a1 (i64 3) h3 fun x4 h4 =>
 @wkM [x4] h4 ⟨J2⟩)⟩
 ⟨fun s2 h2 =>
 retW (nthA s2 0) h2 Q⟩)
 (binM Try.prog .eql 2 a0 (i64 6) h1 fun x5 h5 =>
 gdM x5
 (@jnM ⟨fun J6 =>
 binM Try.prog .eql 2 a1 (i64 1) h5 fun x7 h7 =>
 gdM x7
 (@wkM [tt] h7 ⟨J6⟩)
 (binM Try.prog .eql 2 a1 (i64 3) h7 fun x8 h8 =>
 @wkM [x8] h8 ⟨J6⟩)⟩
 ⟨fun s6 h6 =>
 retW (nthA s6 0) h6 Q⟩)
 (binM Try.prog .eql 2 a0 (i64 7) h5 fun x9 h9 =>
 gdM x9
 (@jnM ⟨fun J10 =>
 @clM Try.prog 63 [a1] h9 ⟨fun x11 h11 =>
 @wkM [x11] h11 ⟨J10⟩⟩⟩
 ⟨fun s10 h10 =>
 retW (nthA s10 0) h10 Q⟩)
 (@jnM ⟨fun J12 =>
 @wkM [ff] h9 ⟨J12⟩⟩
 ⟨fun s12 h12 =>
 retW (nthA s12 0) h12 Q⟩)))
theorem D_spec_l2Takes_eq (a0 a1 : AVal) (h : AHeap) (Q : KA) : adFn Try.prog ⟨fun _ => ⟨[], [], .nil⟩, fun i => bif Nat.beq i 0 then some [4] else none, fun _ => [], []⟩ Try.f68 [a0, a1] h Q = D_spec_l2Takes a0 a1 h Q := by kernel_rfl
theorem D_spec_l2Takes_of {a0 a1 : AVal} {h : AHeap} {Q : KA} (hd : D_spec_l2Takes a0 a1 h Q) : callM Try.prog 68 [a0, a1] h Q := callM_of (fn := Try.f68) Try.func68 (Nat.le_of_ble_eq_true (by kernel_rfl)) ((D_spec_l2Takes_eq a0 a1 h Q).symm ▸ hd)
theorem fn_spec_l2Takes : fnT Try.prog 68 = true := by kernel_rfl
/- laws.toInstrS; J3: out i a -/
def D_laws_toInstrS (a0 : AVal) (h : AHeap) (Q : KA) : Prop :=
 lenM Try.prog 81 a0 h fun x1 h1 =>
 makeM Try.prog 72 x1 x1 h1 fun x2 h2 =>
 @lpM [x2, (i64 0), a0] h2 ⟨fun s3 h3 J3 =>
 lenM Try.prog 81 (nthA s3 2) h3 fun x4 h4 =>
 binM Try.prog .lss 3 (nthA s3 1) x4 h4 fun x5 h5 =>
 gdM x5
 (ixAddrM Try.prog 81 (nthA s3 2) (nthA s3 1) h5 fun x6 h6 =>
 loadM Try.prog 127 x6 h6 fun x7 h7 =>
 @clM Try.prog 78 [x7] h7 ⟨fun x8 h8 =>
 ixAddrM Try.prog 72 (nthA s3 0) (nthA s3 1) h8 fun x9 h9 =>
 storeM Try.prog 76 x9 x8 h9 fun x10 h10 =>
 binM Try.prog .add 3 (nthA s3 1) (i64 1) h10 fun x11 h11 =>
 @wkM [(nthA s3 0), x11, (nthA s3 2)] h11 ⟨J3⟩⟩)
 (retW (nthA s3 0) h5 Q)⟩
theorem D_laws_toInstrS_eq (a0 : AVal) (h : AHeap) (Q : KA) : adFn Try.prog ⟨fun _ => ⟨[], [], .nil⟩, fun _ => none, fun i => bif Nat.beq i 3 then [3, 4, 0] else [], []⟩ Try.f69 [a0] h Q = D_laws_toInstrS a0 h Q := by kernel_rfl
theorem D_laws_toInstrS_of {a0 : AVal} {h : AHeap} {Q : KA} (hd : D_laws_toInstrS a0 h Q) : callM Try.prog 69 [a0] h Q := callM_of (fn := Try.f69) Try.func69 (Nat.le_of_ble_eq_true (by kernel_rfl)) ((D_laws_toInstrS_eq a0 h Q).symm ▸ hd)
theorem fn_laws_toInstrS : fnT Try.prog 69 = true := by kernel_rfl
/- impl.allTypes; J2: _7 _5 _6 -/
def D_impl_allTypes (a0 : AVal) (h : AHeap) (Q : KA) : Prop :=
 lenM Try.prog 45 a0 h fun x1 h1 =>
 @lpM [(i64 0), a0, x1] h1 ⟨fun s2 h2 J2 =>
 binM Try.prog .lss 3 (nthA s2 0) (nthA s2 2) h2 fun x3 h3 =>
 gdM x3
 (ixAddrM Try.prog 45 (nthA s2 1) (nthA s2 0) h3 fun x4 h4 =>
 loadM Try.prog 2 x4 h4 fun x5 h5 =>
 @clM Try.prog 71 [x5] h5 ⟨fun x6 h6 =>
 unM .not x6 h6 fun x7 h7 =>
 gdM x7
 (retW ff h7 Q)
 (binM Try.prog .add 3 (nthA s2 0) (i64 1) h7 fun x8 h8 =>
 @wkM [x8, (nthA s2 1), (nthA s2 2)] h8 ⟨J2⟩)⟩)
 (retW tt h3 Q)⟩
theorem D_impl_allTypes_eq (a0 : AVal) (h : AHeap) (Q : KA) : adFn Try.prog ⟨fun _ => ⟨[], [], .nil⟩, fun _ => none, fun i => bif Nat.beq i 2 then [7, 5, 6] else [], []⟩ Try.f70 [a0] h Q = D_impl_allTypes a0 h Q := by kernel_rfl
theorem D_impl_allTypes_of {a0 : AVal} {h : AHeap} {Q : KA} (hd : D_impl_allTypes a0 h Q) : callM Try.prog 70 [a0] h Q := callM_of (fn := Try.f70) Try.func70 (Nat.le_of_ble_eq_true (by kernel_rfl)) ((D_impl_allTypes_eq a0 h Q).symm ▸ hd)
theorem fn_impl_allTypes : fnT Try.prog 70 = true := by kernel_rfl
/- impl.isType; J1: _2 -/
def D_impl_isType (a0 : AVal) (h : AHeap) (Q : KA) : Prop :=
 @jnM ⟨fun J1 =>
 binM Try.prog .geq 2 a0 (i64 1) h fun x2 h2 =>
 gdM x2
 (binM Try.prog .leq 2 a0 (i64 3) h2 fun x3 h3 =>
 @wkM [x3] h3 ⟨J1⟩)
 (@wkM [ff] h2 ⟨J1⟩)⟩
 ⟨fun s1 h1 =>
 retW (nthA s1 0) h1 Q⟩
theorem D_impl_isType_eq (a0 : AVal) (h : AHeap) (Q : KA) : adFn Try.prog ⟨fun _ => ⟨[], [], .nil⟩, fun i => bif Nat.beq i 0 then some [2] else none, fun _ => [], []⟩ Try.f71 [a0] h Q = D_impl_isType a0 h Q := by kernel_rfl
theorem D_impl_isType_of {a0 : AVal} {h : AHeap} {Q : KA} (hd : D_impl_isType a0 h Q) : callM Try.prog 71 [a0] h Q := callM_of (fn := Try.f71) Try.func71 (Nat.le_of_ble_eq_true (by kernel_rfl)) ((D_impl_isType_eq a0 h Q).symm ▸ hd)
theorem fn_impl_isType : fnT Try.prog 71 = true := by kernel_rfl
/- (*impl.Func).locals -/
def or_impl_Func_locals_1 : DR := ⟨[0, 1, 2, 4, 8, 0, 32, 64, 128, 256, 528, 2047], [0, 1, 3, 7, 15, 0, 32, 96, 224, 480, 1023, 2047], (.one 0 (.one 1 (.one 2 (.one 3 (.one 4 (.one 5 (.one 6 (.one 7 (.one 8 (.one 9 (.one 10 (.one 11 .nil))))))))))))⟩
@[simp] theorem dr_impl_Func_locals_1 : drawnOK Try.prog (regOps Try.f72 1) or_impl_Func_locals_1 = True := eq_true ⟨by kernel_rfl, by kernel_rfl⟩
def D_impl_Func_locals (a0 : AVal) (h : AHeap) (Q : KA) : Prop :=
 And (drawnOK Try.prog (regOps Try.f72 1) or_impl_Func_locals_1) (nilChkM a0 h fun x1 h1 =>
 fldAddrM Try.prog 74 x1 0 h1 fun x2 h2 =>
 loadM Try.prog 45 x2 h2 fun x3 h3 =>
 lenM Try.prog 45 x3 h3 fun x4 h4 =>
 nilChkM a0 h4 fun x5 h5 =>
 fldAddrM Try.prog 74 x5 2 h5 fun x6 h6 =>
 loadM Try.prog 45 x6 h6 fun x7 h7 =>
 lenM Try.prog 45 x7 h7 fun x8 h8 =>
 binM Try.prog .add 3 x4 x8 h8 fun x9 h9 =>
 retW x9 h9 Q)
theorem D_impl_Func_locals_eq (a0 : AVal) (h : AHeap) (Q : KA) : adFn Try.prog ⟨fun i => bif Nat.beq i 1 then or_impl_Func_locals_1 else ⟨[], [], .nil⟩, fun _ => none, fun _ => [], []⟩ Try.f72 [a0] h Q = D_impl_Func_locals a0 h Q := by kernel_rfl
theorem D_impl_Func_locals_of {a0 : AVal} {h : AHeap} {Q : KA} (hd : D_impl_Func_locals a0 h Q) : callM Try.prog 72 [a0] h Q := callM_of (fn := Try.f72) Try.func72 (Nat.le_of_ble_eq_true (by kernel_rfl)) ((D_impl_Func_locals_eq a0 h Q).symm ▸ hd)
theorem fn_impl_Func_locals : fnT Try.prog 72 = true := by kernel_rfl
/- (*impl.Program).instrFits; J103: p in _105 _128; J92: p in _105 f _118; J62: p in f form _104; J26: p in f form _85; J22: p in f form usesC usesB usesA; J18: p in f form usesB usesA; J15: p in f form usesA; J1: p in f _22 -/
def or_impl_Program_instrFits_9 : DR := ⟨[0, 1, 2, 4, 12, 20, 36, 64, 192, 320, 576, 64, 2112, 4160, 8256, 16448, 33856, 65600, 131136], [0, 1, 3, 7, 15, 31, 63, 127, 255, 511, 1023, 127, 2175, 6271, 14463, 30847, 65535, 131071, 262143], (.one 0 (.one 1 (.one 2 (.one 3 (.one 4 (.one 5 (.one 6 (.one 7 (.one 8 (.one 9 (.one 10 (.one 11 (.one 12 (.one 13 (.one 14 (.one 15 (.one 16 (.one 17 (.one 18 .nil)))))))))))))))))))⟩
@[simp] theorem dr_impl_Program_instrFits_9 : drawnOK Try.prog (regOps Try.f73 9) or_impl_Program_instrFits_9 = True := eq_true ⟨by kernel_rfl, by kernel_rfl⟩
def or_impl_Program_instrFits_13 : DR := ⟨[0, 1, 2, 4, 0, 16, 32, 64, 128, 264, 1023], [0, 1, 3, 7, 0, 16, 48, 112, 240, 511, 1023], (.one 0 (.one 1 (.one 2 (.one 3 (.one 4 (.one 5 (.one 6 (.one 7 (.one 8 (.one 9 (.one 10 .nil)))))))))))⟩
@[simp] theorem dr_impl_Program_instrFits_13 : drawnOK Try.prog (regOps Try.f73 13) or_impl_Program_instrFits_13 = True := eq_true ⟨by kernel_rfl, by kernel_rfl⟩
def or_impl_Program_instrFits_16 : DR := ⟨[0, 1, 2, 4, 0, 16, 40, 127], [0, 1, 3, 7, 0, 16, 63, 127], (.one 0 (.one 1 (.one 2 (.one 4 (.or (.one 3 (.one 5 (.one 6 (.one 7 .nil)))) (.one 5 (.one 3 (.one 6 (.one 7 .nil)))))))))⟩
@[simp] theorem dr_impl_Program_instrFits_16 : drawnOK Try.prog (regOps Try.f73 16) or_impl_Program_instrFits_16 = True := eq_true ⟨by kernel_rfl, by kernel_rfl⟩
def or_impl_Program_instrFits_27 : DR := ⟨[0, 1, 2, 4, 8, 16, 32, 96, 160, 288, 544, 1056, 3072, 4096, 12288, 20480, 36864, 4096, 135168, 266240, 528384, 1118208, 2101248, 8388607], [0, 1, 3, 7, 15, 31, 63, 127, 255, 511, 1023, 2047, 4095, 8191, 16383, 32767, 65535, 8191, 139263, 401407, 925695, 2097151, 4194303, 8388607], (.one 0 (.one 1 (.one 2 (.one 3 (.one 4 (.one 5 (.one 6 (.one 7 (.one 8 (.one 9 (.one 10 (.one 11 (.one 12 (.one 13 (.one 14 (.one 15 (.one 16 (.one 17 (.one 18 (.one 19 (.one 20 (.one 21 (.one 22 (.one 23 .nil))))))))))))))))))))))))⟩
@[simp] theorem dr_impl_Program_instrFits_27 : drawnOK Try.prog (regOps Try.f73 27) or_impl_Program_instrFits_27 = True := eq_true ⟨by kernel_rfl, by kernel_rfl⟩
def or_impl_Program_instrFits_29 : DR := ⟨[0, 1, 2, 4, 0, 16, 32, 64, 128, 264, 1023], [0, 1, 3, 7, 0, 16, 48, 112, 240, 511, 1023], (.one 0 (.one 1 (.one 2 (.one 3 (.one 4 (.one 5 (.one 6 (.one 7 (.one 8 (.one 9 (.one 10 .nil)))))))))))⟩
@[simp] theorem dr_impl_Program_instrFits_29 : drawnOK Try.prog (regOps Try.f73 29) or_impl_Program_instrFits_29 = True := eq_true ⟨by kernel_rfl, by kernel_rfl⟩
def D_impl_Program_instrFits (a0 a1 a2 : AVal) (h : AHeap) (Q : KA) : Prop :=
 @jnM ⟨fun J1 =>
 nilChkM a2 h fun x2 h2 =>
 fldAddrM Try.prog 76 x2 0 h2 fun x3 h3 =>
 loadM Try.prog 2 x3 h3 fun x4 h4 =>
 binM Try.prog .lss 2 x4 (i64 0) h4 fun x5 h5 =>
 gdM x5
 (@wkM [a0, a2, a1, tt] h5 ⟨J1⟩)
 (nilChkM a2 h5 fun x6 h6 =>
 fldAddrM Try.prog 76 x6 0 h6 fun x7 h7 =>
 loadM Try.prog 2 x7 h7 fun x8 h8 =>
 binM Try.prog .gtr 2 x8 (i64 29) h8 fun x9 h9 =>
 @wkM [a0, a2, a1, x9] h9 ⟨J1⟩)⟩
 ⟨fun s1 h1 =>
 gdM (nthA s1 3)
 (retW ff h1 Q)
 (nilChkM (nthA s1 1) h1 fun x10 h10 =>
 fldAddrM Try.prog 76 x10 0 h10 fun x11 h11 =>
 loadM Try.prog 2 x11 h11 fun x12 h12 =>
 @clM Try.prog 79 [x12] h12 ⟨fun x13 h13 =>
 fieldM Try.prog 108 x13 2 h13 fun x14 h14 =>
 @jnM ⟨fun J15 =>
 binM Try.prog .neq 2 x14 (i64 0) h14 fun x16 h16 =>
 gdM x16
 (binM Try.prog .neq 2 x14 (i64 9) h16 fun x17 h17 =>
 @wkM [(nthA s1 0), (nthA s1 1), (nthA s1 2), x14, x17] h17 ⟨J15⟩)
 (@wkM [(nthA s1 0), (nthA s1 1), (nthA s1 2), x14, ff] h16 ⟨J15⟩)⟩
 ⟨fun s15 h15 =>
 @jnM ⟨fun J18 =>
 binM Try.prog .eql 2 (nthA s15 3) (i64 3) h15 fun x19 h19 =>
 gdM x19
 (@wkM [(nthA s15 0), (nthA s15 1), (nthA s15 2), (nthA s15 3), tt, (nthA s15 4)] h19 ⟨J18⟩)
 (binM Try.prog .eql 2 (nthA s15 3) (i64 4) h19 fun x20 h20 =>
 gdM x20
 (@wkM [(nthA s15 0), (nthA s15 1), (nthA s15 2), (nthA s15 3), tt, (nthA s15 4)] h20 ⟨J18⟩)
 (binM Try.prog .eql 2 (nthA s15 3) (i64 8) h20 fun x21 h21 =>
 @wkM [(nthA s15 0), (nthA s15 1), (nthA s15 2), (nthA s15 3), x21, (nthA s15 4)] h21 ⟨J18⟩))⟩
 ⟨fun s18 h18 =>
 @jnM ⟨fun J22 =>
 binM Try.prog .eql 2 (nthA s18 3) (i64 4) h18 fun x23 h23 =>
 gdM x23
 (@wkM [(nthA s18 0), (nthA s18 1), (nthA s18 2), (nthA s18 3), tt, (nthA s18 4), (nthA s18 5)] h23 ⟨J22⟩)
 (binM Try.prog .eql 2 (nthA s18 3) (i64 9) h23 fun x24 h24 =>
 gdM x24
 (@wkM [(nthA s18 0), (nthA s18 1), (nthA s18 2), (nthA s18 3), tt, (nthA s18 4), (nthA s18 5)] h24 ⟨J22⟩)
 (binM Try.prog .eql 2 (nthA s18 3) (i64 10) h24 fun x25 h25 =>
 @wkM [(nthA s18 0), (nthA s18 1), (nthA s18 2), (nthA s18 3), x25, (nthA s18 4), (nthA s18 5)] h25 ⟨J22⟩))⟩
 ⟨fun s22 h22 =>
 @jnM ⟨fun J26 =>
 unM .not (nthA s22 6) h22 fun x27 h27 =>
 gdM x27
 (nilChkM (nthA s22 1) h27 fun x28 h28 =>
 fldAddrM Try.prog 76 x28 1 h28 fun x29 h29 =>
 loadM Try.prog 2 x29 h29 fun x30 h30 =>
 binM Try.prog .neq 2 x30 (i64 0) h30 fun x31 h31 =>
 gdM x31
 (@wkM [(nthA s22 0), (nthA s22 1), (nthA s22 2), (nthA s22 3), tt] h31 ⟨J26⟩)
 (unM .not (nthA s22 5) h31 fun x32 h32 =>
 gdM x32
 (nilChkM (nthA s22 1) h32 fun x33 h33 =>
 fldAddrM Try.prog 76 x33 2 h33 fun x34 h34 =>
 loadM Try.prog 2 x34 h34 fun x35 h35 =>
 binM Try.prog .neq 2 x35 (i64 0) h35 fun x36 h36 =>
 gdM x36
 (@wkM [(nthA s22 0), (nthA s22 1), (nthA s22 2), (nthA s22 3), tt] h36 ⟨J26⟩)
 (unM .not (nthA s22 4) h36 fun x37 h37 =>
 gdM x37
 (nilChkM (nthA s22 1) h37 fun x38 h38 =>
 fldAddrM Try.prog 76 x38 3 h38 fun x39 h39 =>
 loadM Try.prog 2 x39 h39 fun x40 h40 =>
 binM Try.prog .neq 2 x40 (i64 0) h40 fun x41 h41 =>
 @wkM [(nthA s22 0), (nthA s22 1), (nthA s22 2), (nthA s22 3), x41] h41 ⟨J26⟩)
 (@wkM [(nthA s22 0), (nthA s22 1), (nthA s22 2), (nthA s22 3), ff] h37 ⟨J26⟩)))
 (unM .not (nthA s22 4) h32 fun x42 h42 =>
 gdM x42
 (nilChkM (nthA s22 1) h42 fun x43 h43 =>
 fldAddrM Try.prog 76 x43 3 h43 fun x44 h44 =>
 loadM Try.prog 2 x44 h44 fun x45 h45 =>
 binM Try.prog .neq 2 x45 (i64 0) h45 fun x46 h46 =>
 @wkM [(nthA s22 0), (nthA s22 1), (nthA s22 2), (nthA s22 3), x46] h46 ⟨J26⟩)
 (@wkM [(nthA s22 0), (nthA s22 1), (nthA s22 2), (nthA s22 3), ff] h42 ⟨J26⟩))))
 (unM .not (nthA s22 5) h27 fun x47 h47 =>
 gdM x47
 (nilChkM (nthA s22 1) h47 fun x48 h48 =>
 fldAddrM Try.prog 76 x48 2 h48 fun x49 h49 =>
 loadM Try.prog 2 x49 h49 fun x50 h50 =>
 binM Try.prog .neq 2 x50 (i64 0) h50 fun x51 h51 =>
 gdM x51
 (@wkM [(nthA s22 0), (nthA s22 1), (nthA s22 2), (nthA s22 3), tt] h51 ⟨J26⟩)
 (unM .not (nthA s22 4) h51 fun x52 h52 =>
 gdM x52
 (nilChkM (nthA s22 1) h52 fun x53 h53 =>
 fldAddrM Try.prog 76 x53 3 h53 fun x54 h54 =>
 loadM Try.prog 2 x54 h54 fun x55 h55 =>
 binM Try.prog .neq 2 x55 (i64 0) h55 fun x56 h56 =>
 @wkM [(nthA s22 0), (nthA s22 1), (nthA s22 2), (nthA s22 3), x56] h56 ⟨J26⟩)
 (@wkM [(nthA s22 0), (nthA s22 1), (nthA s22 2), (nthA s22 3), ff] h52 ⟨J26⟩)))
 (unM .not (nthA s22 4) h47 fun x57 h57 =>
 gdM x57
 (nilChkM (nthA s22 1) h57 fun x58 h58 =>
 fldAddrM Try.prog 76 x58 3 h58 fun x59 h59 =>
 loadM Try.prog 2 x59 h59 fun x60 h60 =>
 binM Try.prog .neq 2 x60 (i64 0) h60 fun x61 h61 =>
 @wkM [(nthA s22 0), (nthA s22 1), (nthA s22 2), (nthA s22 3), x61] h61 ⟨J26⟩)
 (@wkM [(nthA s22 0), (nthA s22 1), (nthA s22 2), (nthA s22 3), ff] h57 ⟨J26⟩)))⟩
 ⟨fun s26 h26 =>
 gdM (nthA s26 4)
 (retW ff h26 Q)
 (@jnM ⟨fun J62 =>
 And (drawnOK Try.prog (regOps Try.f73 9) or_impl_Program_instrFits_9) (binM Try.prog .eql 2 (nthA s26 3) (i64 9) h26 fun x63 h63 =>
 gdM x63
 (nilChkM (nthA s26 1) h63 fun x64 h64 =>
 fldAddrM Try.prog 76 x64 3 h64 fun x65 h65 =>
 loadM Try.prog 2 x65 h65 fun x66 h66 =>
 nilChkM (nthA s26 2) h66 fun x67 h67 =>
 fldAddrM Try.prog 74 x67 3 h67 fun x68 h68 =>
 loadM Try.prog 72 x68 h68 fun x69 h69 =>
 lenM Try.prog 72 x69 h69 fun x70 h70 =>
 @clM Try.prog 74 [x66, x70] h70 ⟨fun x71 h71 =>
 unM .not x71 h71 fun x72 h72 =>
 @wkM [(nthA s26 0), (nthA s26 1), (nthA s26 2), (nthA s26 3), x72] h72 ⟨J62⟩⟩)
 (binM Try.prog .eql 2 (nthA s26 3) (i64 10) h63 fun x73 h73 =>
 gdM x73
 (nilChkM (nthA s26 1) h73 fun x74 h74 =>
 fldAddrM Try.prog 76 x74 3 h74 fun x75 h75 =>
 loadM Try.prog 2 x75 h75 fun x76 h76 =>
 nilChkM (nthA s26 2) h76 fun x77 h77 =>
 fldAddrM Try.prog 74 x77 3 h77 fun x78 h78 =>
 loadM Try.prog 72 x78 h78 fun x79 h79 =>
 lenM Try.prog 72 x79 h79 fun x80 h80 =>
 @clM Try.prog 74 [x76, x80] h80 ⟨fun x81 h81 =>
 unM .not x81 h81 fun x82 h82 =>
 @wkM [(nthA s26 0), (nthA s26 1), (nthA s26 2), (nthA s26 3), x82] h82 ⟨J62⟩⟩)
 (@wkM [(nthA s26 0), (nthA s26 1), (nthA s26 2), (nthA s26 3), ff] h73 ⟨J62⟩)))⟩
 ⟨fun s62 h62 =>
 gdM (nthA s62 4)
 (retW ff h62 Q)
 (binM Try.prog .eql 2 (nthA s62 3) (i64 1) h62 fun x83 h83 =>
 gdM x83
 (And (drawnOK Try.prog (regOps Try.f73 13) or_impl_Program_instrFits_13) (nilChkM (nthA s62 1) h83 fun x84 h84 =>
 fldAddrM Try.prog 76 x84 1 h84 fun x85 h85 =>
 loadM Try.prog 2 x85 h85 fun x86 h86 =>
 nilChkM (nthA s62 0) h86 fun x87 h87 =>
 fldAddrM Try.prog 38 x87 1 h87 fun x88 h88 =>
 loadM Try.prog 34 x88 h88 fun x89 h89 =>
 lenM Try.prog 34 x89 h89 fun x90 h90 =>
 @clM Try.prog 74 [x86, x90] h90 ⟨fun x91 h91 =>
 retW x91 h91 Q⟩))
 (@jnM ⟨fun J92 =>
 binM Try.prog .eql 2 (nthA s62 3) (i64 2) h83 fun x93 h93 =>
 gdM x93
 (@wkM [(nthA s62 0), (nthA s62 1), (nthA s62 3), (nthA s62 2), x93] h93 ⟨J92⟩)
 (binM Try.prog .eql 2 (nthA s62 3) (i64 10) h93 fun x94 h94 =>
 @wkM [(nthA s62 0), (nthA s62 1), (nthA s62 3), (nthA s62 2), x94] h94 ⟨J92⟩)⟩
 ⟨fun s92 h92 =>
 gdM (nthA s92 4)
 (And (drawnOK Try.prog (regOps Try.f73 16) or_impl_Program_instrFits_16) (nilChkM (nthA s92 1) h92 fun x95 h95 =>
 fldAddrM Try.prog 76 x95 1 h95 fun x96 h96 =>
 And (loadM Try.prog 2 x96 h96 fun x97 h97 =>
 @clM Try.prog 72 [(nthA s92 3)] h97 ⟨fun x98 h98 =>
 @clM Try.prog 74 [x97, x98] h98 ⟨fun x99 h99 =>
 retW x99 h99 Q⟩⟩)
 (@clM Try.prog 72 [(nthA s92 3)] h96 ⟨fun x100 h100 =>
 loadM Try.prog 2 x96 h100 fun x101 h101 =>
 @clM Try.prog 74 [x101, x100] h101 ⟨fun x102 h102 =>
 retW x102 h102 Q⟩⟩)))
 (@jnM ⟨fun J103 =>
 binM Try.prog .eql 2 (nthA s92 2) (i64 3) h92 fun x104 h104 =>
 gdM x104
 (@wkM [(nthA s92 0), (nthA s92 1), (nthA s92 2), x104] h104 ⟨J103⟩)
 (binM Try.prog .eql 2 (nthA s92 2) (i64 4) h104 fun x105 h105 =>
 @wkM [(nthA s92 0), (nthA s92 1), (nthA s92 2), x105] h105 ⟨J103⟩)⟩
 ⟨fun s103 h103 =>
 gdM (nthA s103 3)
 (@clM Try.prog 80 [(nthA s103 0), (nthA s103 1)] h103 ⟨fun x106 h106 =>
 retW x106 h106 Q⟩)
 (binM Try.prog .eql 2 (nthA s103 2) (i64 5) h103 fun x107 h107 =>
 gdM x107
 (nilChkM (nthA s103 1) h107 fun x108 h108 =>
 fldAddrM Try.prog 76 x108 1 h108 fun x109 h109 =>
 loadM Try.prog 2 x109 h109 fun x110 h110 =>
 @clM Try.prog 81 [x110] h110 ⟨fun x111 h111 =>
 retW x111 h111 Q⟩)
 (binM Try.prog .eql 2 (nthA s103 2) (i64 6) h107 fun x112 h112 =>
 gdM x112
 (nilChkM (nthA s103 1) h112 fun x113 h113 =>
 fldAddrM Try.prog 76 x113 1 h113 fun x114 h114 =>
 loadM Try.prog 2 x114 h114 fun x115 h115 =>
 @clM Try.prog 82 [x115] h115 ⟨fun x116 h116 =>
 retW x116 h116 Q⟩)
 (binM Try.prog .eql 2 (nthA s103 2) (i64 7) h112 fun x117 h117 =>
 gdM x117
 (nilChkM (nthA s103 1) h117 fun x118 h118 =>
 fldAddrM Try.prog 76 x118 1 h118 fun x119 h119 =>
 loadM Try.prog 2 x119 h119 fun x120 h120 =>
 @clM Try.prog 71 [x120] h120 ⟨fun x121 h121 =>
 retW x121 h121 Q⟩)
 (binM Try.prog .eql 2 (nthA s103 2) (i64 8) h117 fun x122 h122 =>
 gdM x122
 (And (drawnOK Try.prog (regOps Try.f73 27) or_impl_Program_instrFits_27) (nilChkM (nthA s103 1) h122 fun x123 h123 =>
 fldAddrM Try.prog 76 x123 1 h123 fun x124 h124 =>
 loadM Try.prog 2 x124 h124 fun x125 h125 =>
 @clM Try.prog 71 [x125] h125 ⟨fun x126 h126 =>
 gdM x126
 (nilChkM (nthA s103 1) h126 fun x127 h127 =>
 fldAddrM Try.prog 76 x127 2 h127 fun x128 h128 =>
 loadM Try.prog 2 x128 h128 fun x129 h129 =>
 @clM Try.prog 71 [x129] h129 ⟨fun x130 h130 =>
 gdM x130
 (nilChkM (nthA s103 1) h130 fun x131 h131 =>
 fldAddrM Try.prog 76 x131 1 h131 fun x132 h132 =>
 loadM Try.prog 2 x132 h132 fun x133 h133 =>
 nilChkM (nthA s103 1) h133 fun x134 h134 =>
 fldAddrM Try.prog 76 x134 2 h134 fun x135 h135 =>
 loadM Try.prog 2 x135 h135 fun x136 h136 =>
 binM Try.prog .neq 2 x133 x136 h136 fun x137 h137 =>
 retW x137 h137 Q)
 (retW ff h130 Q)⟩)
 (retW ff h126 Q)⟩))
 (binM Try.prog .eql 2 (nthA s103 2) (i64 11) h122 fun x138 h138 =>
 gdM x138
 (And (drawnOK Try.prog (regOps Try.f73 29) or_impl_Program_instrFits_29) (nilChkM (nthA s103 1) h138 fun x139 h139 =>
 fldAddrM Try.prog 76 x139 1 h139 fun x140 h140 =>
 loadM Try.prog 2 x140 h140 fun x141 h141 =>
 nilChkM (nthA s103 0) h141 fun x142 h142 =>
 fldAddrM Try.prog 38 x142 2 h142 fun x143 h143 =>
 loadM Try.prog 35 x143 h143 fun x144 h144 =>
 lenM Try.prog 35 x144 h144 fun x145 h145 =>
 @clM Try.prog 74 [x141, x145] h145 ⟨fun x146 h146 =>
 retW x146 h146 Q⟩))
 (retW tt h138 Q))))))⟩)⟩))⟩)⟩⟩⟩⟩⟩)⟩
theorem D_impl_Program_instrFits_eq (a0 a1 a2 : AVal) (h : AHeap) (Q : KA) : adFn Try.prog ⟨fun i => bif Nat.beq i 9 then or_impl_Program_instrFits_9 else bif Nat.beq i 13 then or_impl_Program_instrFits_13 else bif Nat.beq i 16 then or_impl_Program_instrFits_16 else bif Nat.beq i 27 then or_impl_Program_instrFits_27 else bif Nat.beq i 29 then or_impl_Program_instrFits_29 else ⟨[], [], .nil⟩, fun i => bif Nat.beq i 2 then some [0, 2, 1, 22] else bif Nat.beq i 5 then some [0, 2, 1, 7, 8] else bif Nat.beq i 6 then some [0, 2, 1, 7, 9, 8] else bif Nat.beq i 7 then some [0, 2, 1, 7, 10, 9, 8] else bif Nat.beq i 8 then some [0, 2, 1, 7, 85] else bif Nat.beq i 10 then some [0, 2, 1, 7, 104] else bif Nat.beq i 16 then some [0, 2, 105, 1, 118] else bif Nat.beq i 19 then some [0, 2, 105, 128] else none, fun _ => [], []⟩ Try.f73 [a0, a1, a2] h Q = D_impl_Program_instrFits a0 a1 a2 h Q := by kernel_rfl
theorem D_impl_Program_instrFits_of {a0 a1 a2 : AVal} {h : AHeap} {Q : KA} (hd : D_impl_Program_instrFits a0 a1 a2 h Q) : callM Try.prog 73 [a0, a1, a2] h Q := callM_of (fn := Try.f73) Try.func73 (Nat.le_of_ble_eq_true (by kernel_rfl)) ((D_impl_Program_instrFits_eq a0 a1 a2 h Q).symm ▸ hd)
theorem fn_impl_Program_instrFits : fnT Try.prog 73 = true := by kernel_rfl
/- impl.below; J1: _4 -/
def D_impl_below (a0 a1 : AVal) (h : AHeap) (Q : KA) : Prop :=
 @jnM ⟨fun J1 =>
 binM Try.prog .geq 2 a0 (i64 0) h fun x2 h2 =>
 gdM x2
 (binM Try.prog .lss 2 a0 a1 h2 fun x3 h3 =>
 @wkM [x3] h3 ⟨J1⟩)
 (@wkM [ff] h2 ⟨J1⟩)⟩
 ⟨fun s1 h1 =>
 retW (nthA s1 0) h1 Q⟩
theorem D_impl_below_eq (a0 a1 : AVal) (h : AHeap) (Q : KA) : adFn Try.prog ⟨fun _ => ⟨[], [], .nil⟩, fun i => bif Nat.beq i 0 then some [4] else none, fun _ => [], []⟩ Try.f74 [a0, a1] h Q = D_impl_below a0 a1 h Q := by kernel_rfl
theorem D_impl_below_of {a0 a1 : AVal} {h : AHeap} {Q : KA} (hd : D_impl_below a0 a1 h Q) : callM Try.prog 74 [a0, a1] h Q := callM_of (fn := Try.f74) Try.func74 (Nat.le_of_ble_eq_true (by kernel_rfl)) ((D_impl_below_eq a0 a1 h Q).symm ▸ hd)
theorem fn_impl_below : fnT Try.prog 74 = true := by kernel_rfl
/- (*impl.Func).localType -/
def or_impl_Func_localType_3 : DR := ⟨[0, 1, 2, 4, 0, 0, 32, 64, 128, 256, 528, 1032, 2048, 8191], [0, 1, 3, 7, 0, 0, 32, 96, 224, 480, 1008, 2047, 4095, 8191], (.one 0 (.one 1 (.one 2 (.one 3 (.one 4 (.one 5 (.one 6 (.one 7 (.one 8 (.one 9 (.one 10 (.one 11 (.one 12 (.one 13 .nil))))))))))))))⟩
@[simp] theorem dr_impl_Func_localType_3 : drawnOK Try.prog (regOps Try.f75 3) or_impl_Func_localType_3 = True := eq_true ⟨by kernel_rfl, by kernel_rfl⟩
def D_impl_Func_localType (a0 a1 : AVal) (h : AHeap) (Q : KA) : Prop :=
 nilChkM a0 h fun x1 h1 =>
 fldAddrM Try.prog 74 x1 0 h1 fun x2 h2 =>
 loadM Try.prog 45 x2 h2 fun x3 h3 =>
 lenM Try.prog 45 x3 h3 fun x4 h4 =>
 binM Try.prog .lss 2 a1 x4 h4 fun x5 h5 =>
 gdM x5
 (nilChkM a0 h5 fun x6 h6 =>
 fldAddrM Try.prog 74 x6 0 h6 fun x7 h7 =>
 loadM Try.prog 45 x7 h7 fun x8 h8 =>
 ixAddrM Try.prog 45 x8 a1 h8 fun x9 h9 =>
 loadM Try.prog 2 x9 h9 fun x10 h10 =>
 retW x10 h10 Q)
 (And (drawnOK Try.prog (regOps Try.f75 3) or_impl_Func_localType_3) (nilChkM a0 h5 fun x11 h11 =>
 fldAddrM Try.prog 74 x11 2 h11 fun x12 h12 =>
 loadM Try.prog 45 x12 h12 fun x13 h13 =>
 nilChkM a0 h13 fun x14 h14 =>
 fldAddrM Try.prog 74 x14 0 h14 fun x15 h15 =>
 loadM Try.prog 45 x15 h15 fun x16 h16 =>
 lenM Try.prog 45 x16 h16 fun x17 h17 =>
 binM Try.prog .sub 2 a1 x17 h17 fun x18 h18 =>
 ixAddrM Try.prog 45 x13 x18 h18 fun x19 h19 =>
 loadM Try.prog 2 x19 h19 fun x20 h20 =>
 retW x20 h20 Q))
theorem D_impl_Func_localType_eq (a0 a1 : AVal) (h : AHeap) (Q : KA) : adFn Try.prog ⟨fun i => bif Nat.beq i 3 then or_impl_Func_localType_3 else ⟨[], [], .nil⟩, fun _ => none, fun _ => [], []⟩ Try.f75 [a0, a1] h Q = D_impl_Func_localType a0 a1 h Q := by kernel_rfl
theorem D_impl_Func_localType_of {a0 a1 : AVal} {h : AHeap} {Q : KA} (hd : D_impl_Func_localType a0 a1 h Q) : callM Try.prog 75 [a0, a1] h Q := callM_of (fn := Try.f75) Try.func75 (Nat.le_of_ble_eq_true (by kernel_rfl)) ((D_impl_Func_localType_eq a0 a1 h Q).symm ▸ hd)
theorem fn_impl_Func_localType : fnT Try.prog 75 = true := by kernel_rfl
/- laws.eqInstrS; J4: i b a -/
def or_laws_eqInstrS_6 : DR := ⟨[0, 0, 3, 4, 0, 0, 48, 64, 136, 256], [0, 0, 3, 7, 0, 0, 48, 112, 255, 511], (.one 0 (.one 1 (.one 2 (.one 3 (.one 4 (.one 5 (.one 6 (.one 7 (.one 8 (.one 9 .nil))))))))))⟩
@[simp] theorem dr_laws_eqInstrS_6 : drawnOK Try.prog (regOps Try.f76 6) or_laws_eqInstrS_6 = True := eq_true ⟨by kernel_rfl, by kernel_rfl⟩
def D_laws_eqInstrS (a0 a1 : AVal) (h : AHeap) (Q : KA) : Prop :=
 lenM Try.prog 72 a0 h fun x1 h1 =>
 lenM Try.prog 72 a1 h1 fun x2 h2 =>
 binM Try.prog .neq 3 x1 x2 h2 fun x3 h3 =>
 gdM x3
 (retW ff h3 Q)
 (@lpM [(i64 0), a1, a0] h3 ⟨fun s4 h4 J4 =>
 lenM Try.prog 72 (nthA s4 2) h4 fun x5 h5 =>
 binM Try.prog .lss 3 (nthA s4 0) x5 h5 fun x6 h6 =>
 gdM x6
 (And (drawnOK Try.prog (regOps Try.f76 6) or_laws_eqInstrS_6) (ixAddrM Try.prog 72 (nthA s4 2) (nthA s4 0) h6 fun x7 h7 =>
 loadM Try.prog 76 x7 h7 fun x8 h8 =>
 ixAddrM Try.prog 72 (nthA s4 1) (nthA s4 0) h8 fun x9 h9 =>
 loadM Try.prog 76 x9 h9 fun x10 h10 =>
 @clM Try.prog 83 [x8, x10] h10 ⟨fun x11 h11 =>
 unM .not x11 h11 fun x12 h12 =>
 gdM x12
 (retW ff h12 Q)
 (binM Try.prog .add 3 (nthA s4 0) (i64 1) h12 fun x13 h13 =>
 @wkM [x13, (nthA s4 1), (nthA s4 2)] h13 ⟨J4⟩)⟩))
 (retW tt h6 Q)⟩)
theorem D_laws_eqInstrS_eq (a0 a1 : AVal) (h : AHeap) (Q : KA) : adFn Try.prog ⟨fun i => bif Nat.beq i 6 then or_laws_eqInstrS_6 else ⟨[], [], .nil⟩, fun _ => none, fun i => bif Nat.beq i 4 then [5, 1, 0] else [], []⟩ Try.f76 [a0, a1] h Q = D_laws_eqInstrS a0 a1 h Q := by kernel_rfl
theorem D_laws_eqInstrS_of {a0 a1 : AVal} {h : AHeap} {Q : KA} (hd : D_laws_eqInstrS a0 a1 h Q) : callM Try.prog 76 [a0, a1] h Q := callM_of (fn := Try.f76) Try.func76 (Nat.le_of_ble_eq_true (by kernel_rfl)) ((D_laws_eqInstrS_eq a0 a1 h Q).symm ▸ hd)
theorem fn_laws_eqInstrS : fnT Try.prog 76 = true := by kernel_rfl
/- spec.l2Infos -/
def D_spec_l2Infos (h : AHeap) (Q : KA) : Prop :=
 buildM Try.prog 108 [(0, (.v (Value.string ⟨#[110, 111, 112]⟩))), (1, (i64 1))] h fun x1 h1 =>
 buildM Try.prog 108 [(0, (.v (Value.string ⟨#[99, 111, 110, 115, 116]⟩))), (1, (i64 1)), (2, (i64 1))] h1 fun x2 h2 =>
 buildM Try.prog 108 [(0, (.v (Value.string ⟨#[108, 111, 97, 100, 108, 111, 99, 97, 108]⟩))), (1, (i64 1)), (2, (i64 2))] h2 fun x3 h3 =>
 buildM Try.prog 108 [(0, (.v (Value.string ⟨#[115, 116, 111, 114, 101, 108, 111, 99, 97, 108]⟩))), (1, (i64 1)), (2, (i64 2))] h3 fun x4 h4 =>
 buildM Try.prog 108 [(0, (.v (Value.string ⟨#[108, 111, 97, 100]⟩))), (1, (i64 2)), (2, (i64 3))] h4 fun x5 h5 =>
 buildM Try.prog 108 [(0, (.v (Value.string ⟨#[115, 116, 111, 114, 101]⟩))), (1, (i64 2)), (2, (i64 3))] h5 fun x6 h6 =>
 buildM Try.prog 108 [(0, (.v (Value.string ⟨#[108, 111, 97, 100, 97, 116]⟩))), (1, (i64 3)), (2, (i64 4))] h6 fun x7 h7 =>
 buildM Try.prog 108 [(0, (.v (Value.string ⟨#[115, 116, 111, 114, 101, 97, 116]⟩))), (1, (i64 3)), (2, (i64 4))] h7 fun x8 h8 =>
 buildM Try.prog 108 [(0, (.v (Value.string ⟨#[97, 100, 100]⟩))), (1, (i64 1)), (2, (i64 5))] h8 fun x9 h9 =>
 buildM Try.prog 108 [(0, (.v (Value.string ⟨#[115, 117, 98]⟩))), (1, (i64 1)), (2, (i64 5))] h9 fun x10 h10 =>
 buildM Try.prog 108 [(0, (.v (Value.string ⟨#[109, 117, 108]⟩))), (1, (i64 3)), (2, (i64 5))] h10 fun x11 h11 =>
 buildM Try.prog 108 [(0, (.v (Value.string ⟨#[100, 105, 118]⟩))), (1, (i64 8)), (2, (i64 5))] h11 fun x12 h12 =>
 buildM Try.prog 108 [(0, (.v (Value.string ⟨#[109, 111, 100]⟩))), (1, (i64 8)), (2, (i64 5))] h12 fun x13 h13 =>
 buildM Try.prog 108 [(0, (.v (Value.string ⟨#[97, 110, 100]⟩))), (1, (i64 1)), (2, (i64 6))] h13 fun x14 h14 =>
 buildM Try.prog 108 [(0, (.v (Value.string ⟨#[111, 114]⟩))), (1, (i64 1)), (2, (i64 6))] h14 fun x15 h15 =>
 buildM Try.prog 108 [(0, (.v (Value.string ⟨#[120, 111, 114]⟩))), (1, (i64 1)), (2, (i64 6))] h15 fun x16 h16 =>
 buildM Try.prog 108 [(0, (.v (Value.string ⟨#[110, 111, 116]⟩))), (1, (i64 1)), (2, (i64 6))] h16 fun x17 h17 =>
 buildM Try.prog 108 [(0, (.v (Value.string ⟨#[115, 104, 108]⟩))), (1, (i64 1))] h17 fun x18 h18 =>
 buildM Try.prog 108 [(0, (.v (Value.string ⟨#[115, 104, 114]⟩))), (1, (i64 1))] h18 fun x19 h19 =>
 buildM Try.prog 108 [(0, (.v (Value.string ⟨#[110, 101, 103]⟩))), (1, (i64 1))] h19 fun x20 h20 =>
 buildM Try.prog 108 [(0, (.v (Value.string ⟨#[101, 113]⟩))), (1, (i64 1)), (2, (i64 7))] h20 fun x21 h21 =>
 buildM Try.prog 108 [(0, (.v (Value.string ⟨#[108, 101, 115, 115]⟩))), (1, (i64 1)), (2, (i64 5))] h21 fun x22 h22 =>
 buildM Try.prog 108 [(0, (.v (Value.string ⟨#[99, 111, 110, 118]⟩))), (1, (i64 1)), (2, (i64 8))] h22 fun x23 h23 =>
 buildM Try.prog 108 [(0, (.v (Value.string ⟨#[100, 117, 112]⟩))), (1, (i64 1))] h23 fun x24 h24 =>
 buildM Try.prog 108 [(0, (.v (Value.string ⟨#[100, 114, 111, 112]⟩))), (1, (i64 1))] h24 fun x25 h25 =>
 buildM Try.prog 108 [(0, (.v (Value.string ⟨#[106, 117, 109, 112]⟩))), (1, (i64 2)), (2, (i64 9))] h25 fun x26 h26 =>
 buildM Try.prog 108 [(0, (.v (Value.string ⟨#[106, 117, 109, 112, 122, 101, 114, 111]⟩))), (1, (i64 2)), (2, (i64 9))] h26 fun x27 h27 =>
 buildM Try.prog 108 [(0, (.v (Value.string ⟨#[103, 117, 97, 114, 100]⟩))), (1, (i64 2)), (2, (i64 10))] h27 fun x28 h28 =>
 buildM Try.prog 108 [(0, (.v (Value.string ⟨#[99, 97, 108, 108]⟩))), (1, (i64 4)), (2, (i64 11))] h28 fun x29 h29 =>
 buildM Try.prog 108 [(0, (.v (Value.string ⟨#[114, 101, 116, 117, 114, 110]⟩))), (1, (i64 2))] h29 fun x30 h30 =>
 buildSliceM Try.prog 124 30 [(0, x1), (1, x2), (2, x3), (3, x4), (4, x5), (5, x6), (6, x7), (7, x8), (8, x9), (9, x10), (10, x11), (11, x12), (12, x13), (13, x14), (14, x15), (15, x16), (16, x17), (17, x18), (18, x19), (19, x20), (20, x21), (21, x22), (22, x23), (23, x24), (24, x25), (25, x26), (26, x27), (27, x28), (28, x29), (29, x30)] h30 fun x31 h31 =>
 retW x31 h31 Q
theorem D_spec_l2Infos_eq (h : AHeap) (Q : KA) : adFn Try.prog ⟨fun _ => ⟨[], [], .nil⟩, fun _ => none, fun _ => [], []⟩ Try.f77 [] h Q = D_spec_l2Infos  h Q := by kernel_rfl
theorem D_spec_l2Infos_of {h : AHeap} {Q : KA} (hd : D_spec_l2Infos  h Q) : callM Try.prog 77 [] h Q := callM_of (fn := Try.f77) Try.func77 (Nat.le_of_ble_eq_true (by kernel_rfl)) ((D_spec_l2Infos_eq  h Q).symm ▸ hd)
theorem fn_spec_l2Infos : fnT Try.prog 77 = true := by kernel_rfl
/- laws.toInstr -/
def D_laws_toInstr (a0 : AVal) (h : AHeap) (Q : KA) : Prop :=
 boxFM a0 h fun x1 h1 =>
 allocM Try.prog 76 h1 fun x2 h2 =>
 allocM Try.prog 76 h2 fun x3 h3 =>
 fldAddrM Try.prog 127 x1 0 h3 fun x4 h4 =>
 loadM Try.prog 2 x4 h4 fun x5 h5 =>
 fldAddrM Try.prog 76 x3 0 h5 fun x6 h6 =>
 storeM Try.prog 2 x6 x5 h6 fun x7 h7 =>
 fldAddrM Try.prog 127 x1 1 h7 fun x8 h8 =>
 loadM Try.prog 2 x8 h8 fun x9 h9 =>
 fldAddrM Try.prog 76 x3 1 h9 fun x10 h10 =>
 storeM Try.prog 2 x10 x9 h10 fun x11 h11 =>
 fldAddrM Try.prog 127 x1 2 h11 fun x12 h12 =>
 loadM Try.prog 2 x12 h12 fun x13 h13 =>
 fldAddrM Try.prog 76 x3 2 h13 fun x14 h14 =>
 storeM Try.prog 2 x14 x13 h14 fun x15 h15 =>
 fldAddrM Try.prog 127 x1 3 h15 fun x16 h16 =>
 loadM Try.prog 2 x16 h16 fun x17 h17 =>
 fldAddrM Try.prog 76 x3 3 h17 fun x18 h18 =>
 storeM Try.prog 2 x18 x17 h18 fun x19 h19 =>
 loadM Try.prog 76 x3 h19 fun x20 h20 =>
 storeM Try.prog 76 x2 x20 h20 fun x21 h21 =>
 loadM Try.prog 76 x2 h21 fun x22 h22 =>
 retW x22 h22 Q
theorem D_laws_toInstr_eq (a0 : AVal) (h : AHeap) (Q : KA) : adFn Try.prog ⟨fun _ => ⟨[], [], .nil⟩, fun _ => none, fun _ => [], [1]⟩ Try.f78 [a0] h Q = D_laws_toInstr a0 h Q := by kernel_rfl
theorem D_laws_toInstr_of {a0 : AVal} {h : AHeap} {Q : KA} (hd : D_laws_toInstr a0 h Q) : callM Try.prog 78 [a0] h Q := callM_of (fn := Try.f78) Try.func78 (Nat.le_of_ble_eq_true (by kernel_rfl)) ((D_laws_toInstr_eq a0 h Q).symm ▸ hd)
theorem fn_laws_toInstr : fnT Try.prog 78 = true := by kernel_rfl
/- impl.Info; J2: _2 op _8 -/
def D_impl_Info (a0 : AVal) (h : AHeap) (Q : KA) : Prop :=
 allocM Try.prog 108 h fun x1 h1 =>
 @jnM ⟨fun J2 =>
 binM Try.prog .lss 2 a0 (i64 0) h1 fun x3 h3 =>
 gdM x3
 (@wkM [x1, a0, tt] h3 ⟨J2⟩)
 (binM Try.prog .gtr 2 a0 (i64 29) h3 fun x4 h4 =>
 @wkM [x1, a0, x4] h4 ⟨J2⟩)⟩
 ⟨fun s2 h2 =>
 gdM (nthA s2 2)
 (buildM Try.prog 108 [] h2 fun x5 h5 =>
 storeM Try.prog 108 (nthA s2 0) x5 h5 fun x6 h6 =>
 loadM Try.prog 108 (nthA s2 0) h6 fun x7 h7 =>
 retW x7 h7 Q)
 (@clM Try.prog 84 [] h2 ⟨fun x8 h8 =>
 ixAddrM Try.prog 133 x8 (nthA s2 1) h8 fun x9 h9 =>
 fldAddrM Try.prog 132 x9 0 h9 fun x10 h10 =>
 loadM Try.prog 108 x10 h10 fun x11 h11 =>
 storeM Try.prog 108 (nthA s2 0) x11 h11 fun x12 h12 =>
 loadM Try.prog 108 (nthA s2 0) h12 fun x13 h13 =>
 retW x13 h13 Q⟩)⟩
theorem D_impl_Info_eq (a0 : AVal) (h : AHeap) (Q : KA) : adFn Try.prog ⟨fun _ => ⟨[], [], .nil⟩, fun i => bif Nat.beq i 2 then some [2, 0, 8] else none, fun _ => [], []⟩ Try.f79 [a0] h Q = D_impl_Info a0 h Q := by kernel_rfl
theorem D_impl_Info_of {a0 : AVal} {h : AHeap} {Q : KA} (hd : D_impl_Info a0 h Q) : callM Try.prog 79 [a0] h Q := callM_of (fn := Try.f79) Try.func79 (Nat.le_of_ble_eq_true (by kernel_rfl)) ((D_impl_Info_eq a0 h Q).symm ▸ hd)
theorem fn_impl_Info : fnT Try.prog 79 = true := by kernel_rfl
/- (*impl.Program).cellsAre; J87: _119 in r _117 _118; J46: in r _101; J21: in p _51; J1: in p _32 -/
def or_impl_Program_cellsAre_1 : DR := ⟨[0, 1, 2, 4, 8, 16, 48, 64, 192, 320, 576, 64, 2112, 4160, 8256, 64, 32832, 65600, 131136, 278592, 524352, 1048640, 2098240, 4194368, 8388672], [0, 1, 3, 7, 15, 31, 63, 127, 255, 511, 1023, 127, 2175, 6271, 14463, 127, 32895, 98431, 229503, 522367, 1046655, 2095231, 4194303, 8388607, 16777215], (.one 0 (.one 1 (.one 2 (.one 3 (.one 4 (.one 5 (.one 6 (.one 7 (.one 8 (.one 9 (.one 10 (.one 11 (.one 12 (.one 13 (.one 14 (.one 15 (.one 16 (.one 17 (.one 18 (.one 19 (.one 20 (.one 21 (.one 22 (.one 23 (.one 24 .nil)))))))))))))))))))))))))⟩
@[simp] theorem dr_impl_Program_cellsAre_1 : drawnOK Try.prog (regOps Try.f80 1) or_impl_Program_cellsAre_1 = True := eq_true ⟨by kernel_rfl, by kernel_rfl⟩
def or_impl_Program_cellsAre_5 : DR := ⟨[0, 1, 2, 4, 0, 16, 32, 64, 136, 256, 1023], [0, 1, 3, 7, 0, 16, 48, 112, 255, 511, 1023], (.one 0 (.one 1 (.one 2 (.one 3 (.one 4 (.one 5 (.one 6 (.one 7 (.one 8 (.one 9 (.one 10 .nil)))))))))))⟩
@[simp] theorem dr_impl_Program_cellsAre_5 : drawnOK Try.prog (regOps Try.f80 5) or_impl_Program_cellsAre_5 = True := eq_true ⟨by kernel_rfl, by kernel_rfl⟩
def or_impl_Program_cellsAre_6 : DR := ⟨[0, 1, 2, 4, 8, 16, 32, 96, 160, 288, 544, 1056, 2080, 4096, 12288, 20480, 36864, 4096, 135168, 266240, 528384, 1052672, 2166784, 4198400, 8392704, 16781312, 33554432, 100663296, 167772160, 301989888, 33554432, 1107296256, 2181038080, 4328521728, 9160359936, 33554432, 34393292800, 85932900352, 137472507904, 274911461376], [0, 1, 3, 7, 15, 31, 63, 127, 255, 511, 1023, 2047, 4095, 8191, 16383, 32767, 65535, 8191, 139263, 401407, 925695, 1974271, 4194303, 8388607, 16777215, 33554431, 67108863, 134217727, 268435455, 536870911, 67108863, 1140850687, 3288334335, 7583301631, 17179869183, 67108863, 34426847231, 137438953471, 274877906943, 549755813887], (.one 0 (.one 1 (.one 2 (.one 3 (.one 4 (.one 5 (.one 6 (.one 7 (.one 8 (.one 9 (.one 10 (.one 11 (.one 12 (.one 13 (.one 14 (.one 15 (.one 16 (.one 17 (.one 18 (.one 19 (.one 20 (.one 21 (.one 22 (.one 23 (.one 24 (.one 25 (.one 26 (.one 27 (.one 28 (.one 29 (.one 30 (.one 31 (.one 32 (.one 33 (.one 34 (.one 35 (.one 36 (.one 37 (.one 38 (.one 39 .nil))))))))))))))))))))))))))))))))))))))))⟩
@[simp] theorem dr_impl_Program_cellsAre_6 : drawnOK Try.prog (regOps Try.f80 6) or_impl_Program_cellsAre_6 = True := eq_true ⟨by kernel_rfl, by kernel_rfl⟩
def or_impl_Program_cellsAre_8 : DR := ⟨[0, 0, 2, 4, 8, 0, 32, 64, 128, 0, 512, 1024, 2048, 4352, 8192, 16401, 32768, 0], [0, 0, 2, 6, 14, 0, 32, 96, 224, 0, 512, 1536, 3584, 8160, 16352, 32767, 65535, 0], (.one 0 (.one 1 (.one 2 (.one 3 (.one 4 (.one 5 (.one 6 (.one 7 (.one 8 (.one 9 (.one 10 (.one 11 (.one 12 (.one 13 (.one 14 (.one 15 (.one 16 (.one 17 .nil))))))))))))))))))⟩
@[simp] theorem dr_impl_Program_cellsAre_8 : drawnOK Try.prog (regOps Try.f80 8) or_impl_Program_cellsAre_8 = True := eq_true ⟨by kernel_rfl, by kernel_rfl⟩
def D_impl_Program_cellsAre (a0 a1 : AVal) (h : AHeap) (Q : KA) : Prop :=
 @jnM ⟨fun J1 =>
 And (drawnOK Try.prog (regOps Try.f80 1) or_impl_Program_cellsAre_1) (nilChkM a1 h fun x2 h2 =>
 fldAddrM Try.prog 76 x2 1 h2 fun x3 h3 =>
 loadM Try.prog 2 x3 h3 fun x4 h4 =>
 @clM Try.prog 74 [x4, (i64 3)] h4 ⟨fun x5 h5 =>
 unM .not x5 h5 fun x6 h6 =>
 gdM x6
 (@wkM [a1, a0, tt] h6 ⟨J1⟩)
 (nilChkM a1 h6 fun x7 h7 =>
 fldAddrM Try.prog 76 x7 2 h7 fun x8 h8 =>
 loadM Try.prog 2 x8 h8 fun x9 h9 =>
 nilChkM a0 h9 fun x10 h10 =>
 fldAddrM Try.prog 38 x10 0 h10 fun x11 h11 =>
 loadM Try.prog 22 x11 h11 fun x12 h12 =>
 nilChkM a1 h12 fun x13 h13 =>
 fldAddrM Try.prog 76 x13 1 h13 fun x14 h14 =>
 loadM Try.prog 2 x14 h14 fun x15 h15 =>
 ixAddrM Try.prog 22 x12 x15 h15 fun x16 h16 =>
 loadM Try.prog 45 x16 h16 fun x17 h17 =>
 lenM Try.prog 45 x17 h17 fun x18 h18 =>
 @clM Try.prog 74 [x9, x18] h18 ⟨fun x19 h19 =>
 unM .not x19 h19 fun x20 h20 =>
 @wkM [a1, a0, x20] h20 ⟨J1⟩⟩)⟩)⟩
 ⟨fun s1 h1 =>
 gdM (nthA s1 2)
 (retW ff h1 Q)
 (@jnM ⟨fun J21 =>
 nilChkM (nthA s1 0) h1 fun x22 h22 =>
 fldAddrM Try.prog 76 x22 0 h22 fun x23 h23 =>
 loadM Try.prog 2 x23 h23 fun x24 h24 =>
 binM Try.prog .eql 2 x24 (i64 5) h24 fun x25 h25 =>
 gdM x25
 (nilChkM (nthA s1 0) h25 fun x26 h26 =>
 fldAddrM Try.prog 76 x26 1 h26 fun x27 h27 =>
 loadM Try.prog 2 x27 h27 fun x28 h28 =>
 binM Try.prog .eql 2 x28 (i64 0) h28 fun x29 h29 =>
 @wkM [(nthA s1 0), (nthA s1 1), x29] h29 ⟨J21⟩)
 (nilChkM (nthA s1 0) h25 fun x30 h30 =>
 fldAddrM Try.prog 76 x30 0 h30 fun x31 h31 =>
 loadM Try.prog 2 x31 h31 fun x32 h32 =>
 binM Try.prog .eql 2 x32 (i64 7) h32 fun x33 h33 =>
 gdM x33
 (nilChkM (nthA s1 0) h33 fun x34 h34 =>
 fldAddrM Try.prog 76 x34 1 h34 fun x35 h35 =>
 loadM Try.prog 2 x35 h35 fun x36 h36 =>
 binM Try.prog .eql 2 x36 (i64 0) h36 fun x37 h37 =>
 @wkM [(nthA s1 0), (nthA s1 1), x37] h37 ⟨J21⟩)
 (@wkM [(nthA s1 0), (nthA s1 1), ff] h33 ⟨J21⟩))⟩
 ⟨fun s21 h21 =>
 gdM (nthA s21 2)
 (retW ff h21 Q)
 (And (drawnOK Try.prog (regOps Try.f80 5) or_impl_Program_cellsAre_5) (nilChkM (nthA s21 1) h21 fun x38 h38 =>
 fldAddrM Try.prog 38 x38 0 h38 fun x39 h39 =>
 loadM Try.prog 22 x39 h39 fun x40 h40 =>
 nilChkM (nthA s21 0) h40 fun x41 h41 =>
 fldAddrM Try.prog 76 x41 1 h41 fun x42 h42 =>
 loadM Try.prog 2 x42 h42 fun x43 h43 =>
 ixAddrM Try.prog 22 x40 x43 h43 fun x44 h44 =>
 loadM Try.prog 45 x44 h44 fun x45 h45 =>
 @jnM ⟨fun J46 =>
 And (drawnOK Try.prog (regOps Try.f80 6) or_impl_Program_cellsAre_6) (nilChkM (nthA s21 0) h45 fun x47 h47 =>
 fldAddrM Try.prog 76 x47 3 h47 fun x48 h48 =>
 loadM Try.prog 2 x48 h48 fun x49 h49 =>
 binM Try.prog .lss 2 x49 (i64 0) h49 fun x50 h50 =>
 gdM x50
 (@wkM [(nthA s21 0), x45, tt] h50 ⟨J46⟩)
 (nilChkM (nthA s21 0) h50 fun x51 h51 =>
 fldAddrM Try.prog 76 x51 3 h51 fun x52 h52 =>
 loadM Try.prog 2 x52 h52 fun x53 h53 =>
 binM Try.prog .geq 2 x53 (i64 256) h53 fun x54 h54 =>
 gdM x54
 (@wkM [(nthA s21 0), x45, tt] h54 ⟨J46⟩)
 (nilChkM (nthA s21 0) h54 fun x55 h55 =>
 fldAddrM Try.prog 76 x55 3 h55 fun x56 h56 =>
 loadM Try.prog 2 x56 h56 fun x57 h57 =>
 nilChkM (nthA s21 0) h57 fun x58 h58 =>
 fldAddrM Try.prog 76 x58 3 h58 fun x59 h59 =>
 loadM Try.prog 2 x59 h59 fun x60 h60 =>
 binM Try.prog .add 2 x60 (i64 1) h60 fun x61 h61 =>
 binM Try.prog .and 2 x57 x61 h61 fun x62 h62 =>
 binM Try.prog .neq 2 x62 (i64 0) h62 fun x63 h63 =>
 gdM x63
 (@wkM [(nthA s21 0), x45, tt] h63 ⟨J46⟩)
 (nilChkM (nthA s21 0) h63 fun x64 h64 =>
 fldAddrM Try.prog 76 x64 2 h64 fun x65 h65 =>
 loadM Try.prog 2 x65 h65 fun x66 h66 =>
 nilChkM (nthA s21 0) h66 fun x67 h67 =>
 fldAddrM Try.prog 76 x67 3 h67 fun x68 h68 =>
 loadM Try.prog 2 x68 h68 fun x69 h69 =>
 binM Try.prog .add 2 x66 x69 h69 fun x70 h70 =>
 lenM Try.prog 45 x45 h70 fun x71 h71 =>
 @clM Try.prog 74 [x70, x71] h71 ⟨fun x72 h72 =>
 unM .not x72 h72 fun x73 h73 =>
 @wkM [(nthA s21 0), x45, x73] h73 ⟨J46⟩⟩))))⟩
 ⟨fun s46 h46 =>
 gdM (nthA s46 2)
 (retW ff h46 Q)
 (And (drawnOK Try.prog (regOps Try.f80 8) or_impl_Program_cellsAre_8) (nilChkM (nthA s46 0) h46 fun x74 h74 =>
 fldAddrM Try.prog 76 x74 2 h74 fun x75 h75 =>
 loadM Try.prog 2 x75 h75 fun x76 h76 =>
 nilChkM (nthA s46 0) h76 fun x77 h77 =>
 fldAddrM Try.prog 76 x77 2 h77 fun x78 h78 =>
 loadM Try.prog 2 x78 h78 fun x79 h79 =>
 nilChkM (nthA s46 0) h79 fun x80 h80 =>
 fldAddrM Try.prog 76 x80 3 h80 fun x81 h81 =>
 loadM Try.prog 2 x81 h81 fun x82 h82 =>
 binM Try.prog .add 2 x79 x82 h82 fun x83 h83 =>
 binM Try.prog .add 2 x83 (i64 1) h83 fun x84 h84 =>
 sliceM Try.prog 45 (nthA s46 1) (some x76) (some x84) none h84 fun x85 h85 =>
 lenM Try.prog 45 x85 h85 fun x86 h86 =>
 @lpM [(i64 0), (nthA s46 0), (nthA s46 1), x85, x86] h86 ⟨fun s87 h87 J87 =>
 binM Try.prog .lss 3 (nthA s87 0) (nthA s87 4) h87 fun x88 h88 =>
 gdM x88
 (ixAddrM Try.prog 45 (nthA s87 3) (nthA s87 0) h88 fun x89 h89 =>
 loadM Try.prog 2 x89 h89 fun x90 h90 =>
 nilChkM (nthA s87 1) h90 fun x91 h91 =>
 fldAddrM Try.prog 76 x91 2 h91 fun x92 h92 =>
 loadM Try.prog 2 x92 h92 fun x93 h93 =>
 ixAddrM Try.prog 45 (nthA s87 2) x93 h93 fun x94 h94 =>
 loadM Try.prog 2 x94 h94 fun x95 h95 =>
 binM Try.prog .neq 2 x90 x95 h95 fun x96 h96 =>
 gdM x96
 (retW ff h96 Q)
 (binM Try.prog .add 3 (nthA s87 0) (i64 1) h96 fun x97 h97 =>
 @wkM [x97, (nthA s87 1), (nthA s87 2), (nthA s87 3), (nthA s87 4)] h97 ⟨J87⟩))
 (retW tt h88 Q)⟩))⟩))⟩)⟩
theorem D_impl_Program_cellsAre_eq (a0 a1 : AVal) (h : AHeap) (Q : KA) : adFn Try.prog ⟨fun i => bif Nat.beq i 1 then or_impl_Program_cellsAre_1 else bif Nat.beq i 5 then or_impl_Program_cellsAre_5 else bif Nat.beq i 6 then or_impl_Program_cellsAre_6 else bif Nat.beq i 8 then or_impl_Program_cellsAre_8 else ⟨[], [], .nil⟩, fun i => bif Nat.beq i 2 then some [1, 0, 32] else bif Nat.beq i 4 then some [1, 0, 51] else bif Nat.beq i 7 then some [1, 5, 101] else none, fun i => bif Nat.beq i 9 then [119, 1, 5, 117, 118] else [], []⟩ Try.f80 [a0, a1] h Q = D_impl_Program_cellsAre a0 a1 h Q := by kernel_rfl
theorem D_impl_Program_cellsAre_of {a0 a1 : AVal} {h : AHeap} {Q : KA} (hd : D_impl_Program_cellsAre a0 a1 h Q) : callM Try.prog 80 [a0, a1] h Q := callM_of (fn := Try.f80) Try.func80 (Nat.le_of_ble_eq_true (by kernel_rfl)) ((D_impl_Program_cellsAre_eq a0 a1 h Q).symm ▸ hd)
theorem fn_impl_Program_cellsAre : fnT Try.prog 80 = true := by kernel_rfl
/- impl.isNumber; J1: _2 -/
def D_impl_isNumber (a0 : AVal) (h : AHeap) (Q : KA) : Prop :=
 @jnM ⟨fun J1 =>
 binM Try.prog .eql 2 a0 (i64 2) h fun x2 h2 =>
 gdM x2
 (@wkM [tt] h2 ⟨J1⟩)
 (binM Try.prog .eql 2 a0 (i64 3) h2 fun x3 h3 =>
 @wkM [x3] h3 ⟨J1⟩)⟩
 ⟨fun s1 h1 =>
 retW (nthA s1 0) h1 Q⟩
theorem D_impl_isNumber_eq (a0 : AVal) (h : AHeap) (Q : KA) : adFn Try.prog ⟨fun _ => ⟨[], [], .nil⟩, fun i => bif Nat.beq i 0 then some [2] else none, fun _ => [], []⟩ Try.f81 [a0] h Q = D_impl_isNumber a0 h Q := by kernel_rfl
theorem D_impl_isNumber_of {a0 : AVal} {h : AHeap} {Q : KA} (hd : D_impl_isNumber a0 h Q) : callM Try.prog 81 [a0] h Q := callM_of (fn := Try.f81) Try.func81 (Nat.le_of_ble_eq_true (by kernel_rfl)) ((D_impl_isNumber_eq a0 h Q).symm ▸ hd)
theorem fn_impl_isNumber : fnT Try.prog 81 = true := by kernel_rfl
/- impl.isBits; J1: _2 -/
def D_impl_isBits (a0 : AVal) (h : AHeap) (Q : KA) : Prop :=
 @jnM ⟨fun J1 =>
 binM Try.prog .eql 2 a0 (i64 1) h fun x2 h2 =>
 gdM x2
 (@wkM [tt] h2 ⟨J1⟩)
 (binM Try.prog .eql 2 a0 (i64 3) h2 fun x3 h3 =>
 @wkM [x3] h3 ⟨J1⟩)⟩
 ⟨fun s1 h1 =>
 retW (nthA s1 0) h1 Q⟩
theorem D_impl_isBits_eq (a0 : AVal) (h : AHeap) (Q : KA) : adFn Try.prog ⟨fun _ => ⟨[], [], .nil⟩, fun i => bif Nat.beq i 0 then some [2] else none, fun _ => [], []⟩ Try.f82 [a0] h Q = D_impl_isBits a0 h Q := by kernel_rfl
theorem D_impl_isBits_of {a0 : AVal} {h : AHeap} {Q : KA} (hd : D_impl_isBits a0 h Q) : callM Try.prog 82 [a0] h Q := callM_of (fn := Try.f82) Try.func82 (Nat.le_of_ble_eq_true (by kernel_rfl)) ((D_impl_isBits_eq a0 h Q).symm ▸ hd)
theorem fn_impl_isBits : fnT Try.prog 82 = true := by kernel_rfl
/- laws.eqInstr -/
def D_laws_eqInstr (a0 a1 : AVal) (h : AHeap) (Q : KA) : Prop :=
 boxFM a0 h fun x1 h1 =>
 boxFM a1 h1 fun x2 h2 =>
 fldAddrM Try.prog 76 x1 0 h2 fun x3 h3 =>
 loadM Try.prog 2 x3 h3 fun x4 h4 =>
 fldAddrM Try.prog 76 x2 0 h4 fun x5 h5 =>
 loadM Try.prog 2 x5 h5 fun x6 h6 =>
 binM Try.prog .neq 2 x4 x6 h6 fun x7 h7 =>
 gdM x7
 (retW ff h7 Q)
 (fldAddrM Try.prog 76 x1 1 h7 fun x8 h8 =>
 loadM Try.prog 2 x8 h8 fun x9 h9 =>
 fldAddrM Try.prog 76 x2 1 h9 fun x10 h10 =>
 loadM Try.prog 2 x10 h10 fun x11 h11 =>
 binM Try.prog .neq 2 x9 x11 h11 fun x12 h12 =>
 gdM x12
 (retW ff h12 Q)
 (fldAddrM Try.prog 76 x1 2 h12 fun x13 h13 =>
 loadM Try.prog 2 x13 h13 fun x14 h14 =>
 fldAddrM Try.prog 76 x2 2 h14 fun x15 h15 =>
 loadM Try.prog 2 x15 h15 fun x16 h16 =>
 binM Try.prog .neq 2 x14 x16 h16 fun x17 h17 =>
 gdM x17
 (retW ff h17 Q)
 (fldAddrM Try.prog 76 x1 3 h17 fun x18 h18 =>
 loadM Try.prog 2 x18 h18 fun x19 h19 =>
 fldAddrM Try.prog 76 x2 3 h19 fun x20 h20 =>
 loadM Try.prog 2 x20 h20 fun x21 h21 =>
 binM Try.prog .neq 2 x19 x21 h21 fun x22 h22 =>
 gdM x22
 (retW ff h22 Q)
 (retW tt h22 Q))))
theorem D_laws_eqInstr_eq (a0 a1 : AVal) (h : AHeap) (Q : KA) : adFn Try.prog ⟨fun _ => ⟨[], [], .nil⟩, fun _ => none, fun _ => [], [2, 3]⟩ Try.f83 [a0, a1] h Q = D_laws_eqInstr a0 a1 h Q := by kernel_rfl
theorem D_laws_eqInstr_of {a0 a1 : AVal} {h : AHeap} {Q : KA} (hd : D_laws_eqInstr a0 a1 h Q) : callM Try.prog 83 [a0, a1] h Q := callM_of (fn := Try.f83) Try.func83 (Nat.le_of_ble_eq_true (by kernel_rfl)) ((D_laws_eqInstr_eq a0 a1 h Q).symm ▸ hd)
theorem fn_laws_eqInstr : fnT Try.prog 83 = true := by kernel_rfl
/- impl.opRows -/
def D_impl_opRows (h : AHeap) (Q : KA) : Prop :=
 @clM Try.prog 85 [(.v (Value.string ⟨#[110, 111, 112]⟩)), (i64 1), (i64 0)] h ⟨fun x1 h1 =>
 @clM Try.prog 85 [(.v (Value.string ⟨#[99, 111, 110, 115, 116]⟩)), (i64 1), (i64 1)] h1 ⟨fun x2 h2 =>
 @clM Try.prog 85 [(.v (Value.string ⟨#[108, 111, 97, 100, 108, 111, 99, 97, 108]⟩)), (i64 1), (i64 2)] h2 ⟨fun x3 h3 =>
 @clM Try.prog 85 [(.v (Value.string ⟨#[115, 116, 111, 114, 101, 108, 111, 99, 97, 108]⟩)), (i64 1), (i64 2)] h3 ⟨fun x4 h4 =>
 @clM Try.prog 85 [(.v (Value.string ⟨#[108, 111, 97, 100]⟩)), (i64 2), (i64 3)] h4 ⟨fun x5 h5 =>
 @clM Try.prog 85 [(.v (Value.string ⟨#[115, 116, 111, 114, 101]⟩)), (i64 2), (i64 3)] h5 ⟨fun x6 h6 =>
 @clM Try.prog 85 [(.v (Value.string ⟨#[108, 111, 97, 100, 97, 116]⟩)), (i64 3), (i64 4)] h6 ⟨fun x7 h7 =>
 @clM Try.prog 85 [(.v (Value.string ⟨#[115, 116, 111, 114, 101, 97, 116]⟩)), (i64 3), (i64 4)] h7 ⟨fun x8 h8 =>
 @clM Try.prog 87 [(.fn 88 [] [])] h8 ⟨fun x9 h9 =>
 @clM Try.prog 86 [(.v (Value.string ⟨#[97, 100, 100]⟩)), (i64 1), (i64 5), x9] h9 ⟨fun x10 h10 =>
 @clM Try.prog 87 [(.fn 89 [] [])] h10 ⟨fun x11 h11 =>
 @clM Try.prog 86 [(.v (Value.string ⟨#[115, 117, 98]⟩)), (i64 1), (i64 5), x11] h11 ⟨fun x12 h12 =>
 @clM Try.prog 87 [(.fn 90 [] [])] h12 ⟨fun x13 h13 =>
 @clM Try.prog 86 [(.v (Value.string ⟨#[109, 117, 108]⟩)), (i64 3), (i64 5), x13] h13 ⟨fun x14 h14 =>
 @clM Try.prog 86 [(.v (Value.string ⟨#[100, 105, 118]⟩)), (i64 8), (i64 5), (.fn 91 [] [])] h14 ⟨fun x15 h15 =>
 @clM Try.prog 86 [(.v (Value.string ⟨#[109, 111, 100]⟩)), (i64 8), (i64 5), (.fn 92 [] [])] h15 ⟨fun x16 h16 =>
 @clM Try.prog 93 [(.fn 94 [] [])] h16 ⟨fun x17 h17 =>
 @clM Try.prog 86 [(.v (Value.string ⟨#[97, 110, 100]⟩)), (i64 1), (i64 6), x17] h17 ⟨fun x18 h18 =>
 @clM Try.prog 93 [(.fn 95 [] [])] h18 ⟨fun x19 h19 =>
 @clM Try.prog 86 [(.v (Value.string ⟨#[111, 114]⟩)), (i64 1), (i64 6), x19] h19 ⟨fun x20 h20 =>
 @clM Try.prog 93 [(.fn 96 [] [])] h20 ⟨fun x21 h21 =>
 @clM Try.prog 86 [(.v (Value.string ⟨#[120, 111, 114]⟩)), (i64 1), (i64 6), x21] h21 ⟨fun x22 h22 =>
 @clM Try.prog 86 [(.v (Value.string ⟨#[110, 111, 116]⟩)), (i64 1), (i64 6), (.fn 97 [] [])] h22 ⟨fun x23 h23 =>
 @clM Try.prog 86 [(.v (Value.string ⟨#[115, 104, 108]⟩)), (i64 1), (i64 0), (.fn 98 [] [])] h23 ⟨fun x24 h24 =>
 @clM Try.prog 86 [(.v (Value.string ⟨#[115, 104, 114]⟩)), (i64 1), (i64 0), (.fn 99 [] [])] h24 ⟨fun x25 h25 =>
 @clM Try.prog 86 [(.v (Value.string ⟨#[110, 101, 103]⟩)), (i64 1), (i64 0), (.fn 100 [] [])] h25 ⟨fun x26 h26 =>
 @clM Try.prog 86 [(.v (Value.string ⟨#[101, 113]⟩)), (i64 1), (i64 7), (.fn 101 [] [])] h26 ⟨fun x27 h27 =>
 @clM Try.prog 86 [(.v (Value.string ⟨#[108, 101, 115, 115]⟩)), (i64 1), (i64 5), (.fn 102 [] [])] h27 ⟨fun x28 h28 =>
 @clM Try.prog 85 [(.v (Value.string ⟨#[99, 111, 110, 118]⟩)), (i64 1), (i64 8)] h28 ⟨fun x29 h29 =>
 @clM Try.prog 85 [(.v (Value.string ⟨#[100, 117, 112]⟩)), (i64 1), (i64 0)] h29 ⟨fun x30 h30 =>
 @clM Try.prog 85 [(.v (Value.string ⟨#[100, 114, 111, 112]⟩)), (i64 1), (i64 0)] h30 ⟨fun x31 h31 =>
 @clM Try.prog 85 [(.v (Value.string ⟨#[106, 117, 109, 112]⟩)), (i64 2), (i64 9)] h31 ⟨fun x32 h32 =>
 @clM Try.prog 85 [(.v (Value.string ⟨#[106, 117, 109, 112, 122, 101, 114, 111]⟩)), (i64 2), (i64 9)] h32 ⟨fun x33 h33 =>
 @clM Try.prog 85 [(.v (Value.string ⟨#[103, 117, 97, 114, 100]⟩)), (i64 2), (i64 10)] h33 ⟨fun x34 h34 =>
 @clM Try.prog 85 [(.v (Value.string ⟨#[99, 97, 108, 108]⟩)), (i64 4), (i64 11)] h34 ⟨fun x35 h35 =>
 @clM Try.prog 85 [(.v (Value.string ⟨#[114, 101, 116, 117, 114, 110]⟩)), (i64 2), (i64 0)] h35 ⟨fun x36 h36 =>
 buildSliceM Try.prog 133 30 [(0, x1), (1, x2), (2, x3), (3, x4), (4, x5), (5, x6), (6, x7), (7, x8), (8, x10), (9, x12), (10, x14), (11, x15), (12, x16), (13, x18), (14, x20), (15, x22), (16, x23), (17, x24), (18, x25), (19, x26), (20, x27), (21, x28), (22, x29), (23, x30), (24, x31), (25, x32), (26, x33), (27, x34), (28, x35), (29, x36)] h36 fun x37 h37 =>
 retW x37 h37 Q⟩⟩⟩⟩⟩⟩⟩⟩⟩⟩⟩⟩⟩⟩⟩⟩⟩⟩⟩⟩⟩⟩⟩⟩⟩⟩⟩⟩⟩⟩⟩⟩⟩⟩⟩⟩
theorem D_impl_opRows_eq (h : AHeap) (Q : KA) : adFn Try.prog ⟨fun _ => ⟨[], [], .nil⟩, fun _ => none, fun _ => [], []⟩ Try.f84 [] h Q = D_impl_opRows  h Q := by kernel_rfl
theorem D_impl_opRows_of {h : AHeap} {Q : KA} (hd : D_impl_opRows  h Q) : callM Try.prog 84 [] h Q := callM_of (fn := Try.f84) Try.func84 (Nat.le_of_ble_eq_true (by kernel_rfl)) ((D_impl_opRows_eq  h Q).symm ▸ hd)
theorem fn_impl_opRows : fnT Try.prog 84 = true := by kernel_rfl
/- impl.opRows$1 -/
def D_impl_opRows_1 (a0 a1 a2 : AVal) (h : AHeap) (Q : KA) : Prop :=
 allocM Try.prog 132 h fun x1 h1 =>
 buildM Try.prog 108 [(0, a0), (1, a1), (2, a2)] h1 fun x2 h2 =>
 buildM Try.prog 132 [(0, x2)] h2 fun x3 h3 =>
 storeM Try.prog 132 x1 x3 h3 fun x4 h4 =>
 loadM Try.prog 132 x1 h4 fun x5 h5 =>
 retW x5 h5 Q
theorem D_impl_opRows_1_eq (a0 a1 a2 : AVal) (h : AHeap) (Q : KA) : adFn Try.prog ⟨fun _ => ⟨[], [], .nil⟩, fun _ => none, fun _ => [], []⟩ Try.f85 [a0, a1, a2] h Q = D_impl_opRows_1 a0 a1 a2 h Q := by kernel_rfl
theorem D_impl_opRows_1_of {a0 a1 a2 : AVal} {h : AHeap} {Q : KA} (hd : D_impl_opRows_1 a0 a1 a2 h Q) : callM Try.prog 85 [a0, a1, a2] h Q := callM_of (fn := Try.f85) Try.func85 (Nat.le_of_ble_eq_true (by kernel_rfl)) ((D_impl_opRows_1_eq a0 a1 a2 h Q).symm ▸ hd)
theorem fn_impl_opRows_1 : fnT Try.prog 85 = true := by kernel_rfl
/- impl.opRows$2 -/
def D_impl_opRows_2 (a0 a1 a2 a3 : AVal) (h : AHeap) (Q : KA) : Prop :=
 allocM Try.prog 132 h fun x1 h1 =>
 buildM Try.prog 108 [(0, a0), (1, a1), (2, a2)] h1 fun x2 h2 =>
 buildM Try.prog 132 [(0, x2), (1, a3)] h2 fun x3 h3 =>
 storeM Try.prog 132 x1 x3 h3 fun x4 h4 =>
 loadM Try.prog 132 x1 h4 fun x5 h5 =>
 retW x5 h5 Q
theorem D_impl_opRows_2_eq (a0 a1 a2 a3 : AVal) (h : AHeap) (Q : KA) : adFn Try.prog ⟨fun _ => ⟨[], [], .nil⟩, fun _ => none, fun _ => [], []⟩ Try.f86 [a0, a1, a2, a3] h Q = D_impl_opRows_2 a0 a1 a2 a3 h Q := by kernel_rfl
theorem D_impl_opRows_2_of {a0 a1 a2 a3 : AVal} {h : AHeap} {Q : KA} (hd : D_impl_opRows_2 a0 a1 a2 a3 h Q) : callM Try.prog 86 [a0, a1, a2, a3] h Q := callM_of (fn := Try.f86) Try.func86 (Nat.le_of_ble_eq_true (by kernel_rfl)) ((D_impl_opRows_2_eq a0 a1 a2 a3 h Q).symm ▸ hd)
theorem fn_impl_opRows_2 : fnT Try.prog 86 = true := by kernel_rfl
/- impl.onNumbers -/
def D_impl_onNumbers (a0 : AVal) (h : AHeap) (Q : KA) : Prop :=
 boxFM a0 h fun x1 h1 =>
 mkFnM (.func 103) [] [x1] h1 fun x2 h2 =>
 retW x2 h2 Q
theorem D_impl_onNumbers_eq (a0 : AVal) (h : AHeap) (Q : KA) : adFn Try.prog ⟨fun _ => ⟨[], [], .nil⟩, fun _ => none, fun _ => [], [1]⟩ Try.f87 [a0] h Q = D_impl_onNumbers a0 h Q := by kernel_rfl
theorem D_impl_onNumbers_of {a0 : AVal} {h : AHeap} {Q : KA} (hd : D_impl_onNumbers a0 h Q) : callM Try.prog 87 [a0] h Q := callM_of (fn := Try.f87) Try.func87 (Nat.le_of_ble_eq_true (by kernel_rfl)) ((D_impl_onNumbers_eq a0 h Q).symm ▸ hd)
theorem fn_impl_onNumbers : fnT Try.prog 87 = true := by kernel_rfl
/- impl.opRows$3 -/
def D_impl_opRows_3 (a0 a1 : AVal) (h : AHeap) (Q : KA) : Prop :=
 binM Try.prog .add 88 a0 a1 h fun x1 h1 =>
 retW x1 h1 Q
theorem D_impl_opRows_3_eq (a0 a1 : AVal) (h : AHeap) (Q : KA) : adFn Try.prog ⟨fun _ => ⟨[], [], .nil⟩, fun _ => none, fun _ => [], []⟩ Try.f88 [a0, a1] h Q = D_impl_opRows_3 a0 a1 h Q := by kernel_rfl
theorem D_impl_opRows_3_of {a0 a1 : AVal} {h : AHeap} {Q : KA} (hd : D_impl_opRows_3 a0 a1 h Q) : callM Try.prog 88 [a0, a1] h Q := callM_of (fn := Try.f88) Try.func88 (Nat.le_of_ble_eq_true (by kernel_rfl)) ((D_impl_opRows_3_eq a0 a1 h Q).symm ▸ hd)
theorem fn_impl_opRows_3 : fnT Try.prog 88 = true := by kernel_rfl
/- impl.opRows$4 -/
def D_impl_opRows_4 (a0 a1 : AVal) (h : AHeap) (Q : KA) : Prop :=
 binM Try.prog .sub 88 a0 a1 h fun x1 h1 =>
 retW x1 h1 Q
theorem D_impl_opRows_4_eq (a0 a1 : AVal) (h : AHeap) (Q : KA) : adFn Try.prog ⟨fun _ => ⟨[], [], .nil⟩, fun _ => none, fun _ => [], []⟩ Try.f89 [a0, a1] h Q = D_impl_opRows_4 a0 a1 h Q := by kernel_rfl
theorem D_impl_opRows_4_of {a0 a1 : AVal} {h : AHeap} {Q : KA} (hd : D_impl_opRows_4 a0 a1 h Q) : callM Try.prog 89 [a0, a1] h Q := callM_of (fn := Try.f89) Try.func89 (Nat.le_of_ble_eq_true (by kernel_rfl)) ((D_impl_opRows_4_eq a0 a1 h Q).symm ▸ hd)
theorem fn_impl_opRows_4 : fnT Try.prog 89 = true := by kernel_rfl
/- impl.opRows$5 -/
def D_impl_opRows_5 (a0 a1 : AVal) (h : AHeap) (Q : KA) : Prop :=
 binM Try.prog .mul 88 a0 a1 h fun x1 h1 =>
 retW x1 h1 Q
theorem D_impl_opRows_5_eq (a0 a1 : AVal) (h : AHeap) (Q : KA) : adFn Try.prog ⟨fun _ => ⟨[], [], .nil⟩, fun _ => none, fun _ => [], []⟩ Try.f90 [a0, a1] h Q = D_impl_opRows_5 a0 a1 h Q := by kernel_rfl
theorem D_impl_opRows_5_of {a0 a1 : AVal} {h : AHeap} {Q : KA} (hd : D_impl_opRows_5 a0 a1 h Q) : callM Try.prog 90 [a0, a1] h Q := callM_of (fn := Try.f90) Try.func90 (Nat.le_of_ble_eq_true (by kernel_rfl)) ((D_impl_opRows_5_eq a0 a1 h Q).symm ▸ hd)
theorem fn_impl_opRows_5 : fnT Try.prog 90 = true := by kernel_rfl
/- impl.divided -/
def D_impl_divided (a0 a1 a2 : AVal) (h : AHeap) (Q : KA) : Prop :=
 boxFM a1 h fun x1 h1 =>
 boxFM a2 h1 fun x2 h2 =>
 mkFnM (.func 105) [] [x2, x1] h2 fun x3 h3 =>
 mkFnM (.func 106) [] [x2, x1] h3 fun x4 h4 =>
 @clM Try.prog 104 [a0, x3, x4] h4 ⟨fun x5 h5 =>
 retW x5 h5 Q⟩
theorem D_impl_divided_eq (a0 a1 a2 : AVal) (h : AHeap) (Q : KA) : adFn Try.prog ⟨fun _ => ⟨[], [], .nil⟩, fun _ => none, fun _ => [], [4, 5]⟩ Try.f91 [a0, a1, a2] h Q = D_impl_divided a0 a1 a2 h Q := by kernel_rfl
theorem D_impl_divided_of {a0 a1 a2 : AVal} {h : AHeap} {Q : KA} (hd : D_impl_divided a0 a1 a2 h Q) : callM Try.prog 91 [a0, a1, a2] h Q := callM_of (fn := Try.f91) Try.func91 (Nat.le_of_ble_eq_true (by kernel_rfl)) ((D_impl_divided_eq a0 a1 a2 h Q).symm ▸ hd)
theorem fn_impl_divided : fnT Try.prog 91 = true := by kernel_rfl
/- impl.remainder -/
def D_impl_remainder (a0 a1 a2 : AVal) (h : AHeap) (Q : KA) : Prop :=
 boxFM a1 h fun x1 h1 =>
 boxFM a2 h1 fun x2 h2 =>
 mkFnM (.func 107) [] [x2, x1] h2 fun x3 h3 =>
 mkFnM (.func 108) [] [x2, x1] h3 fun x4 h4 =>
 @clM Try.prog 104 [a0, x3, x4] h4 ⟨fun x5 h5 =>
 retW x5 h5 Q⟩
theorem D_impl_remainder_eq (a0 a1 a2 : AVal) (h : AHeap) (Q : KA) : adFn Try.prog ⟨fun _ => ⟨[], [], .nil⟩, fun _ => none, fun _ => [], [4, 5]⟩ Try.f92 [a0, a1, a2] h Q = D_impl_remainder a0 a1 a2 h Q := by kernel_rfl
theorem D_impl_remainder_of {a0 a1 a2 : AVal} {h : AHeap} {Q : KA} (hd : D_impl_remainder a0 a1 a2 h Q) : callM Try.prog 92 [a0, a1, a2] h Q := callM_of (fn := Try.f92) Try.func92 (Nat.le_of_ble_eq_true (by kernel_rfl)) ((D_impl_remainder_eq a0 a1 a2 h Q).symm ▸ hd)
theorem fn_impl_remainder : fnT Try.prog 92 = true := by kernel_rfl
/- impl.onBits -/
def D_impl_onBits (a0 : AVal) (h : AHeap) (Q : KA) : Prop :=
 boxFM a0 h fun x1 h1 =>
 mkFnM (.func 109) [] [x1] h1 fun x2 h2 =>
 retW x2 h2 Q
theorem D_impl_onBits_eq (a0 : AVal) (h : AHeap) (Q : KA) : adFn Try.prog ⟨fun _ => ⟨[], [], .nil⟩, fun _ => none, fun _ => [], [1]⟩ Try.f93 [a0] h Q = D_impl_onBits a0 h Q := by kernel_rfl
theorem D_impl_onBits_of {a0 : AVal} {h : AHeap} {Q : KA} (hd : D_impl_onBits a0 h Q) : callM Try.prog 93 [a0] h Q := callM_of (fn := Try.f93) Try.func93 (Nat.le_of_ble_eq_true (by kernel_rfl)) ((D_impl_onBits_eq a0 h Q).symm ▸ hd)
theorem fn_impl_onBits : fnT Try.prog 93 = true := by kernel_rfl
/- impl.opRows$6 -/
def D_impl_opRows_6 (a0 a1 : AVal) (h : AHeap) (Q : KA) : Prop :=
 binM Try.prog .and 88 a0 a1 h fun x1 h1 =>
 retW x1 h1 Q
theorem D_impl_opRows_6_eq (a0 a1 : AVal) (h : AHeap) (Q : KA) : adFn Try.prog ⟨fun _ => ⟨[], [], .nil⟩, fun _ => none, fun _ => [], []⟩ Try.f94 [a0, a1] h Q = D_impl_opRows_6 a0 a1 h Q := by kernel_rfl
theorem D_impl_opRows_6_of {a0 a1 : AVal} {h : AHeap} {Q : KA} (hd : D_impl_opRows_6 a0 a1 h Q) : callM Try.prog 94 [a0, a1] h Q := callM_of (fn := Try.f94) Try.func94 (Nat.le_of_ble_eq_true (by kernel_rfl)) ((D_impl_opRows_6_eq a0 a1 h Q).symm ▸ hd)
theorem fn_impl_opRows_6 : fnT Try.prog 94 = true := by kernel_rfl
/- impl.opRows$7 -/
def D_impl_opRows_7 (a0 a1 : AVal) (h : AHeap) (Q : KA) : Prop :=
 binM Try.prog .or 88 a0 a1 h fun x1 h1 =>
 retW x1 h1 Q
theorem D_impl_opRows_7_eq (a0 a1 : AVal) (h : AHeap) (Q : KA) : adFn Try.prog ⟨fun _ => ⟨[], [], .nil⟩, fun _ => none, fun _ => [], []⟩ Try.f95 [a0, a1] h Q = D_impl_opRows_7 a0 a1 h Q := by kernel_rfl
theorem D_impl_opRows_7_of {a0 a1 : AVal} {h : AHeap} {Q : KA} (hd : D_impl_opRows_7 a0 a1 h Q) : callM Try.prog 95 [a0, a1] h Q := callM_of (fn := Try.f95) Try.func95 (Nat.le_of_ble_eq_true (by kernel_rfl)) ((D_impl_opRows_7_eq a0 a1 h Q).symm ▸ hd)
theorem fn_impl_opRows_7 : fnT Try.prog 95 = true := by kernel_rfl
/- impl.opRows$8 -/
def D_impl_opRows_8 (a0 a1 : AVal) (h : AHeap) (Q : KA) : Prop :=
 binM Try.prog .xor 88 a0 a1 h fun x1 h1 =>
 retW x1 h1 Q
theorem D_impl_opRows_8_eq (a0 a1 : AVal) (h : AHeap) (Q : KA) : adFn Try.prog ⟨fun _ => ⟨[], [], .nil⟩, fun _ => none, fun _ => [], []⟩ Try.f96 [a0, a1] h Q = D_impl_opRows_8 a0 a1 h Q := by kernel_rfl
theorem D_impl_opRows_8_of {a0 a1 : AVal} {h : AHeap} {Q : KA} (hd : D_impl_opRows_8 a0 a1 h Q) : callM Try.prog 96 [a0, a1] h Q := callM_of (fn := Try.f96) Try.func96 (Nat.le_of_ble_eq_true (by kernel_rfl)) ((D_impl_opRows_8_eq a0 a1 h Q).symm ▸ hd)
theorem fn_impl_opRows_8 : fnT Try.prog 96 = true := by kernel_rfl
/- impl.turned -/
def D_impl_turned (a0 a1 a2 : AVal) (h : AHeap) (Q : KA) : Prop :=
 binM Try.prog .eql 2 a0 (i64 1) h fun x1 h1 =>
 gdM x1
 (binM Try.prog .eql 88 a1 (u32 0) h1 fun x2 h2 =>
 @clM Try.prog 110 [x2] h2 ⟨fun x3 h3 =>
 retW x3 h3 Q⟩)
 (binM Try.prog .eql 2 a0 (i64 3) h1 fun x4 h4 =>
 gdM x4
 (unM .xor a1 h4 fun x5 h5 =>
 retW x5 h5 Q)
 (retW (u32 0) h4 Q))
theorem D_impl_turned_eq (a0 a1 a2 : AVal) (h : AHeap) (Q : KA) : adFn Try.prog ⟨fun _ => ⟨[], [], .nil⟩, fun _ => none, fun _ => [], []⟩ Try.f97 [a0, a1, a2] h Q = D_impl_turned a0 a1 a2 h Q := by kernel_rfl
theorem D_impl_turned_of {a0 a1 a2 : AVal} {h : AHeap} {Q : KA} (hd : D_impl_turned a0 a1 a2 h Q) : callM Try.prog 97 [a0, a1, a2] h Q := callM_of (fn := Try.f97) Try.func97 (Nat.le_of_ble_eq_true (by kernel_rfl)) ((D_impl_turned_eq a0 a1 a2 h Q).symm ▸ hd)
theorem fn_impl_turned : fnT Try.prog 97 = true := by kernel_rfl
/- impl.opRows$9 -/
def D_impl_opRows_9 (a0 a1 a2 : AVal) (h : AHeap) (Q : KA) : Prop :=
 binM Try.prog .and 88 a2 (u32 31) h fun x1 h1 =>
 binM Try.prog .shl 88 a1 x1 h1 fun x2 h2 =>
 retW x2 h2 Q
theorem D_impl_opRows_9_eq (a0 a1 a2 : AVal) (h : AHeap) (Q : KA) : adFn Try.prog ⟨fun _ => ⟨[], [], .nil⟩, fun _ => none, fun _ => [], []⟩ Try.f98 [a0, a1, a2] h Q = D_impl_opRows_9 a0 a1 a2 h Q := by kernel_rfl
theorem D_impl_opRows_9_of {a0 a1 a2 : AVal} {h : AHeap} {Q : KA} (hd : D_impl_opRows_9 a0 a1 a2 h Q) : callM Try.prog 98 [a0, a1, a2] h Q := callM_of (fn := Try.f98) Try.func98 (Nat.le_of_ble_eq_true (by kernel_rfl)) ((D_impl_opRows_9_eq a0 a1 a2 h Q).symm ▸ hd)
theorem fn_impl_opRows_9 : fnT Try.prog 98 = true := by kernel_rfl
/- impl.opRows$10 -/
def D_impl_opRows_10 (a0 a1 a2 : AVal) (h : AHeap) (Q : KA) : Prop :=
 binM Try.prog .and 88 a2 (u32 31) h fun x1 h1 =>
 binM Try.prog .shr 88 a1 x1 h1 fun x2 h2 =>
 retW x2 h2 Q
theorem D_impl_opRows_10_eq (a0 a1 a2 : AVal) (h : AHeap) (Q : KA) : adFn Try.prog ⟨fun _ => ⟨[], [], .nil⟩, fun _ => none, fun _ => [], []⟩ Try.f99 [a0, a1, a2] h Q = D_impl_opRows_10 a0 a1 a2 h Q := by kernel_rfl
theorem D_impl_opRows_10_of {a0 a1 a2 : AVal} {h : AHeap} {Q : KA} (hd : D_impl_opRows_10 a0 a1 a2 h Q) : callM Try.prog 99 [a0, a1, a2] h Q := callM_of (fn := Try.f99) Try.func99 (Nat.le_of_ble_eq_true (by kernel_rfl)) ((D_impl_opRows_10_eq a0 a1 a2 h Q).symm ▸ hd)
theorem fn_impl_opRows_10 : fnT Try.prog 99 = true := by kernel_rfl
/- impl.opRows$11 -/
def D_impl_opRows_11 (a0 a1 a2 : AVal) (h : AHeap) (Q : KA) : Prop :=
 unM .neg a1 h fun x1 h1 =>
 retW x1 h1 Q
theorem D_impl_opRows_11_eq (a0 a1 a2 : AVal) (h : AHeap) (Q : KA) : adFn Try.prog ⟨fun _ => ⟨[], [], .nil⟩, fun _ => none, fun _ => [], []⟩ Try.f100 [a0, a1, a2] h Q = D_impl_opRows_11 a0 a1 a2 h Q := by kernel_rfl
theorem D_impl_opRows_11_of {a0 a1 a2 : AVal} {h : AHeap} {Q : KA} (hd : D_impl_opRows_11 a0 a1 a2 h Q) : callM Try.prog 100 [a0, a1, a2] h Q := callM_of (fn := Try.f100) Try.func100 (Nat.le_of_ble_eq_true (by kernel_rfl)) ((D_impl_opRows_11_eq a0 a1 a2 h Q).symm ▸ hd)
theorem fn_impl_opRows_11 : fnT Try.prog 100 = true := by kernel_rfl
/- impl.equal; J1: _6 -/
def D_impl_equal (a0 a1 a2 : AVal) (h : AHeap) (Q : KA) : Prop :=
 @jnM ⟨fun J1 =>
 @clM Try.prog 71 [a0] h ⟨fun x2 h2 =>
 gdM x2
 (binM Try.prog .eql 88 a1 a2 h2 fun x3 h3 =>
 @clM Try.prog 110 [x3] h3 ⟨fun x4 h4 =>
 @wkM [x4] h4 ⟨J1⟩⟩)
 (@clM Try.prog 110 [ff] h2 ⟨fun x5 h5 =>
 @wkM [x5] h5 ⟨J1⟩⟩)⟩⟩
 ⟨fun s1 h1 =>
 retW (nthA s1 0) h1 Q⟩
theorem D_impl_equal_eq (a0 a1 a2 : AVal) (h : AHeap) (Q : KA) : adFn Try.prog ⟨fun _ => ⟨[], [], .nil⟩, fun i => bif Nat.beq i 0 then some [6] else none, fun _ => [], []⟩ Try.f101 [a0, a1, a2] h Q = D_impl_equal a0 a1 a2 h Q := by kernel_rfl
theorem D_impl_equal_of {a0 a1 a2 : AVal} {h : AHeap} {Q : KA} (hd : D_impl_equal a0 a1 a2 h Q) : callM Try.prog 101 [a0, a1, a2] h Q := callM_of (fn := Try.f101) Try.func101 (Nat.le_of_ble_eq_true (by kernel_rfl)) ((D_impl_equal_eq a0 a1 a2 h Q).symm ▸ hd)
theorem fn_impl_equal : fnT Try.prog 101 = true := by kernel_rfl
/- impl.lesser -/
def D_impl_lesser (a0 a1 a2 : AVal) (h : AHeap) (Q : KA) : Prop :=
 binM Try.prog .eql 2 a0 (i64 2) h fun x1 h1 =>
 gdM x1
 (convM Try.prog 88 21 a1 h1 fun x2 h2 =>
 convM Try.prog 88 21 a2 h2 fun x3 h3 =>
 binM Try.prog .lss 21 x2 x3 h3 fun x4 h4 =>
 @clM Try.prog 110 [x4] h4 ⟨fun x5 h5 =>
 retW x5 h5 Q⟩)
 (binM Try.prog .eql 2 a0 (i64 3) h1 fun x6 h6 =>
 gdM x6
 (binM Try.prog .lss 88 a1 a2 h6 fun x7 h7 =>
 @clM Try.prog 110 [x7] h7 ⟨fun x8 h8 =>
 retW x8 h8 Q⟩)
 (retW (u32 0) h6 Q))
theorem D_impl_lesser_eq (a0 a1 a2 : AVal) (h : AHeap) (Q : KA) : adFn Try.prog ⟨fun _ => ⟨[], [], .nil⟩, fun _ => none, fun _ => [], []⟩ Try.f102 [a0, a1, a2] h Q = D_impl_lesser a0 a1 a2 h Q := by kernel_rfl
theorem D_impl_lesser_of {a0 a1 a2 : AVal} {h : AHeap} {Q : KA} (hd : D_impl_lesser a0 a1 a2 h Q) : callM Try.prog 102 [a0, a1, a2] h Q := callM_of (fn := Try.f102) Try.func102 (Nat.le_of_ble_eq_true (by kernel_rfl)) ((D_impl_lesser_eq a0 a1 a2 h Q).symm ▸ hd)
theorem fn_impl_lesser : fnT Try.prog 102 = true := by kernel_rfl
/- impl.onNumbers$1 -/
def D_impl_onNumbers_1 (a0 a1 a2 a3 : AVal) (h : AHeap) (Q : KA) : Prop :=
 @clM Try.prog 81 [a0] h ⟨fun x1 h1 =>
 unM .not x1 h1 fun x2 h2 =>
 gdM x2
 (retW (u32 0) h2 Q)
 (loadM Try.prog 138 a3 h2 fun x3 h3 =>
 callV Try.prog x3 [a1, a2] h3 fun x4 h4 =>
 retW x4 h4 Q)⟩
theorem D_impl_onNumbers_1_eq (a0 a1 a2 a3 : AVal) (h : AHeap) (Q : KA) : adFn Try.prog ⟨fun _ => ⟨[], [], .nil⟩, fun _ => none, fun _ => [], []⟩ Try.f103 [a0, a1, a2, a3] h Q = D_impl_onNumbers_1 a0 a1 a2 a3 h Q := by kernel_rfl
theorem D_impl_onNumbers_1_of {a0 a1 a2 a3 : AVal} {h : AHeap} {Q : KA} (hd : D_impl_onNumbers_1 a0 a1 a2 a3 h Q) : callM Try.prog 103 [a0, a1, a2, a3] h Q := callM_of (fn := Try.f103) Try.func103 (Nat.le_of_ble_eq_true (by kernel_rfl)) ((D_impl_onNumbers_1_eq a0 a1 a2 a3 h Q).symm ▸ hd)
theorem fn_impl_onNumbers_1 : fnT Try.prog 103 = true := by kernel_rfl
/- impl.numbers -/
def D_impl_numbers (a0 a1 a2 : AVal) (h : AHeap) (Q : KA) : Prop :=
 binM Try.prog .eql 2 a0 (i64 2) h fun x1 h1 =>
 gdM x1
 (callV Try.prog a1 [] h1 fun x2 h2 =>
 convM Try.prog 21 88 x2 h2 fun x3 h3 =>
 retW x3 h3 Q)
 (binM Try.prog .eql 2 a0 (i64 3) h1 fun x4 h4 =>
 gdM x4
 (callV Try.prog a2 [] h4 fun x5 h5 =>
 retW x5 h5 Q)
 (retW (u32 0) h4 Q))
theorem D_impl_numbers_eq (a0 a1 a2 : AVal) (h : AHeap) (Q : KA) : adFn Try.prog ⟨fun _ => ⟨[], [], .nil⟩, fun _ => none, fun _ => [], []⟩ Try.f104 [a0, a1, a2] h Q = D_impl_numbers a0 a1 a2 h Q := by kernel_rfl
theorem D_impl_numbers_of {a0 a1 a2 : AVal} {h : AHeap} {Q : KA} (hd : D_impl_numbers a0 a1 a2 h Q) : callM Try.prog 104 [a0, a1, a2] h Q := callM_of (fn := Try.f104) Try.func104 (Nat.le_of_ble_eq_true (by kernel_rfl)) ((D_impl_numbers_eq a0 a1 a2 h Q).symm ▸ hd)
theorem fn_impl_numbers : fnT Try.prog 104 = true := by kernel_rfl
/- impl.divided$1 -/
def D_impl_divided_1 (a0 a1 : AVal) (h : AHeap) (Q : KA) : Prop :=
 loadM Try.prog 88 a0 h fun x1 h1 =>
 convM Try.prog 88 21 x1 h1 fun x2 h2 =>
 binM Try.prog .eql 21 x2 (i32 0) h2 fun x3 h3 =>
 gdM x3
 (retW (i32 0) h3 Q)
 (binM Try.prog .eql 21 x2 (i32 (-1)) h3 fun x4 h4 =>
 gdM x4
 (loadM Try.prog 88 a1 h4 fun x5 h5 =>
 convM Try.prog 88 21 x5 h5 fun x6 h6 =>
 unM .neg x6 h6 fun x7 h7 =>
 retW x7 h7 Q)
 (loadM Try.prog 88 a1 h4 fun x8 h8 =>
 convM Try.prog 88 21 x8 h8 fun x9 h9 =>
 loadM Try.prog 88 a0 h9 fun x10 h10 =>
 convM Try.prog 88 21 x10 h10 fun x11 h11 =>
 binM Try.prog .quo 21 x9 x11 h11 fun x12 h12 =>
 retW x12 h12 Q))
theorem D_impl_divided_1_eq (a0 a1 : AVal) (h : AHeap) (Q : KA) : adFn Try.prog ⟨fun _ => ⟨[], [], .nil⟩, fun _ => none, fun _ => [], []⟩ Try.f105 [a0, a1] h Q = D_impl_divided_1 a0 a1 h Q := by kernel_rfl
theorem D_impl_divided_1_of {a0 a1 : AVal} {h : AHeap} {Q : KA} (hd : D_impl_divided_1 a0 a1 h Q) : callM Try.prog 105 [a0, a1] h Q := callM_of (fn := Try.f105) Try.func105 (Nat.le_of_ble_eq_true (by kernel_rfl)) ((D_impl_divided_1_eq a0 a1 h Q).symm ▸ hd)
theorem fn_impl_divided_1 : fnT Try.prog 105 = true := by kernel_rfl
/- impl.divided$2 -/
def D_impl_divided_2 (a0 a1 : AVal) (h : AHeap) (Q : KA) : Prop :=
 loadM Try.prog 88 a0 h fun x1 h1 =>
 binM Try.prog .eql 88 x1 (u32 0) h1 fun x2 h2 =>
 gdM x2
 (retW (u32 0) h2 Q)
 (loadM Try.prog 88 a1 h2 fun x3 h3 =>
 loadM Try.prog 88 a0 h3 fun x4 h4 =>
 binM Try.prog .quo 88 x3 x4 h4 fun x5 h5 =>
 retW x5 h5 Q)
theorem D_impl_divided_2_eq (a0 a1 : AVal) (h : AHeap) (Q : KA) : adFn Try.prog ⟨fun _ => ⟨[], [], .nil⟩, fun _ => none, fun _ => [], []⟩ Try.f106 [a0, a1] h Q = D_impl_divided_2 a0 a1 h Q := by kernel_rfl
theorem D_impl_divided_2_of {a0 a1 : AVal} {h : AHeap} {Q : KA} (hd : D_impl_divided_2 a0 a1 h Q) : callM Try.prog 106 [a0, a1] h Q := callM_of (fn := Try.f106) Try.func106 (Nat.le_of_ble_eq_true (by kernel_rfl)) ((D_impl_divided_2_eq a0 a1 h Q).symm ▸ hd)
theorem fn_impl_divided_2 : fnT Try.prog 106 = true := by kernel_rfl
/- impl.remainder$1; J3: _0 _1 _5 -/
def D_impl_remainder_1 (a0 a1 : AVal) (h : AHeap) (Q : KA) : Prop :=
 loadM Try.prog 88 a0 h fun x1 h1 =>
 convM Try.prog 88 21 x1 h1 fun x2 h2 =>
 @jnM ⟨fun J3 =>
 binM Try.prog .eql 21 x2 (i32 0) h2 fun x4 h4 =>
 gdM x4
 (@wkM [a0, a1, x4] h4 ⟨J3⟩)
 (binM Try.prog .eql 21 x2 (i32 (-1)) h4 fun x5 h5 =>
 @wkM [a0, a1, x5] h5 ⟨J3⟩)⟩
 ⟨fun s3 h3 =>
 gdM (nthA s3 2)
 (retW (i32 0) h3 Q)
 (loadM Try.prog 88 (nthA s3 1) h3 fun x6 h6 =>
 convM Try.prog 88 21 x6 h6 fun x7 h7 =>
 loadM Try.prog 88 (nthA s3 0) h7 fun x8 h8 =>
 convM Try.prog 88 21 x8 h8 fun x9 h9 =>
 binM Try.prog .rem 21 x7 x9 h9 fun x10 h10 =>
 retW x10 h10 Q)⟩
theorem D_impl_remainder_1_eq (a0 a1 : AVal) (h : AHeap) (Q : KA) : adFn Try.prog ⟨fun _ => ⟨[], [], .nil⟩, fun i => bif Nat.beq i 4 then some [0, 1, 5] else none, fun _ => [], []⟩ Try.f107 [a0, a1] h Q = D_impl_remainder_1 a0 a1 h Q := by kernel_rfl
theorem D_impl_remainder_1_of {a0 a1 : AVal} {h : AHeap} {Q : KA} (hd : D_impl_remainder_1 a0 a1 h Q) : callM Try.prog 107 [a0, a1] h Q := callM_of (fn := Try.f107) Try.func107 (Nat.le_of_ble_eq_true (by kernel_rfl)) ((D_impl_remainder_1_eq a0 a1 h Q).symm ▸ hd)
theorem fn_impl_remainder_1 : fnT Try.prog 107 = true := by kernel_rfl
/- impl.remainder$2 -/
def D_impl_remainder_2 (a0 a1 : AVal) (h : AHeap) (Q : KA) : Prop :=
 loadM Try.prog 88 a0 h fun x1 h1 =>
 binM Try.prog .eql 88 x1 (u32 0) h1 fun x2 h2 =>
 gdM x2
 (retW (u32 0) h2 Q)
 (loadM Try.prog 88 a1 h2 fun x3 h3 =>
 loadM Try.prog 88 a0 h3 fun x4 h4 =>
 binM Try.prog .rem 88 x3 x4 h4 fun x5 h5 =>
 retW x5 h5 Q)
theorem D_impl_remainder_2_eq (a0 a1 : AVal) (h : AHeap) (Q : KA) : adFn Try.prog ⟨fun _ => ⟨[], [], .nil⟩, fun _ => none, fun _ => [], []⟩ Try.f108 [a0, a1] h Q = D_impl_remainder_2 a0 a1 h Q := by kernel_rfl
theorem D_impl_remainder_2_of {a0 a1 : AVal} {h : AHeap} {Q : KA} (hd : D_impl_remainder_2 a0 a1 h Q) : callM Try.prog 108 [a0, a1] h Q := callM_of (fn := Try.f108) Try.func108 (Nat.le_of_ble_eq_true (by kernel_rfl)) ((D_impl_remainder_2_eq a0 a1 h Q).symm ▸ hd)
theorem fn_impl_remainder_2 : fnT Try.prog 108 = true := by kernel_rfl
/- impl.onBits$1 -/
def D_impl_onBits_1 (a0 a1 a2 a3 : AVal) (h : AHeap) (Q : KA) : Prop :=
 @clM Try.prog 82 [a0] h ⟨fun x1 h1 =>
 unM .not x1 h1 fun x2 h2 =>
 gdM x2
 (retW (u32 0) h2 Q)
 (loadM Try.prog 138 a3 h2 fun x3 h3 =>
 callV Try.prog x3 [a1, a2] h3 fun x4 h4 =>
 retW x4 h4 Q)⟩
theorem D_impl_onBits_1_eq (a0 a1 a2 a3 : AVal) (h : AHeap) (Q : KA) : adFn Try.prog ⟨fun _ => ⟨[], [], .nil⟩, fun _ => none, fun _ => [], []⟩ Try.f109 [a0, a1, a2, a3] h Q = D_impl_onBits_1 a0 a1 a2 a3 h Q := by kernel_rfl
theorem D_impl_onBits_1_of {a0 a1 a2 a3 : AVal} {h : AHeap} {Q : KA} (hd : D_impl_onBits_1 a0 a1 a2 a3 h Q) : callM Try.prog 109 [a0, a1, a2, a3] h Q := callM_of (fn := Try.f109) Try.func109 (Nat.le_of_ble_eq_true (by kernel_rfl)) ((D_impl_onBits_1_eq a0 a1 a2 a3 h Q).symm ▸ hd)
theorem fn_impl_onBits_1 : fnT Try.prog 109 = true := by kernel_rfl
/- impl.flag -/
def D_impl_flag (a0 : AVal) (h : AHeap) (Q : KA) : Prop :=
 gdM a0
 (retW (u32 1) h Q)
 (retW (u32 0) h Q)
theorem D_impl_flag_eq (a0 : AVal) (h : AHeap) (Q : KA) : adFn Try.prog ⟨fun _ => ⟨[], [], .nil⟩, fun _ => none, fun _ => [], []⟩ Try.f110 [a0] h Q = D_impl_flag a0 h Q := by kernel_rfl
theorem D_impl_flag_of {a0 : AVal} {h : AHeap} {Q : KA} (hd : D_impl_flag a0 h Q) : callM Try.prog 110 [a0] h Q := callM_of (fn := Try.f110) Try.func110 (Nat.le_of_ble_eq_true (by kernel_rfl)) ((D_impl_flag_eq a0 h Q).symm ▸ hd)
theorem fn_impl_flag : fnT Try.prog 110 = true := by kernel_rfl
end Go.Proofs.Ytkfpoagnchahkaa.A
