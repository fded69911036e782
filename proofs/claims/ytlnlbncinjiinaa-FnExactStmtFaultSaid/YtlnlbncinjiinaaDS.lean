/- Of this session: what the functions mean, printed; each equal to its code's meaning by the kernel. -/
import Derived.Test.YtlnlbncinjiinaaProg
import Derived.Test.YtlnlbncinjiinaaA
namespace Go.Proofs.Ytlnlbncinjiinaa.A
open Go Go.RowKit
set_option linter.unusedVariables false
set_option linter.unusedSimpArgs false
set_option maxRecDepth 100000
@[simp] theorem slT_29 : slT Try.prog 29 = some 65 := by kernel_rfl
@[simp] theorem okT_65 : okT Try.prog 65 = true := by kernel_rfl
@[simp] theorem szT_65 : szT Try.prog 65 = 5 := by kernel_rfl
@[simp] theorem agT_65 : agT Try.prog 65 = true := by kernel_rfl
@[simp] theorem okT_29 : okT Try.prog 29 = true := by kernel_rfl
@[simp] theorem szT_29 : szT Try.prog 29 = 1 := by kernel_rfl
@[simp] theorem agT_29 : agT Try.prog 29 = false := by kernel_rfl
@[simp] theorem slT_32 : slT Try.prog 32 = some 69 := by kernel_rfl
@[simp] theorem okT_69 : okT Try.prog 69 = true := by kernel_rfl
@[simp] theorem szT_69 : szT Try.prog 69 = 5 := by kernel_rfl
@[simp] theorem agT_69 : agT Try.prog 69 = true := by kernel_rfl
@[simp] theorem zrT_69 : zrT Try.prog 69 = some (AVal.agg [AVal.v (Value.int IntKind.i64 (0)), AVal.v (Value.int IntKind.i64 (0)), AVal.v (Value.int IntKind.i64 (0)), AVal.v (Value.slice none 0 0), AVal.v (Value.slice none 0 0)]) := by kernel_rfl
@[simp] theorem byT_69 : byT Try.prog 69 = 72 := by kernel_rfl
@[simp] theorem okT_2 : okT Try.prog 2 = true := by kernel_rfl
@[simp] theorem szT_2 : szT Try.prog 2 = 1 := by kernel_rfl
@[simp] theorem agT_2 : agT Try.prog 2 = false := by kernel_rfl
@[simp] theorem okT_32 : okT Try.prog 32 = true := by kernel_rfl
@[simp] theorem szT_32 : szT Try.prog 32 = 1 := by kernel_rfl
@[simp] theorem agT_32 : agT Try.prog 32 = false := by kernel_rfl
@[simp] theorem zrT_2 : zrT Try.prog 2 = some (AVal.v (Value.int IntKind.i64 (0))) := by kernel_rfl
@[simp] theorem okT_3 : okT Try.prog 3 = true := by kernel_rfl
@[simp] theorem szT_3 : szT Try.prog 3 = 1 := by kernel_rfl
@[simp] theorem agT_3 : agT Try.prog 3 = false := by kernel_rfl
@[simp] theorem zrT_3 : zrT Try.prog 3 = some (AVal.v (Value.int IntKind.i64 (0))) := by kernel_rfl
@[simp] theorem fdT_65_3 : fdT Try.prog 65 3 = some (3, 29) := by kernel_rfl
@[simp] theorem fdT_65_4 : fdT Try.prog 65 4 = some (4, 29) := by kernel_rfl
@[simp] theorem fdT_65_0 : fdT Try.prog 65 0 = some (0, 2) := by kernel_rfl
@[simp] theorem fdT_69_0 : fdT Try.prog 69 0 = some (0, 2) := by kernel_rfl
@[simp] theorem fdT_65_1 : fdT Try.prog 65 1 = some (1, 2) := by kernel_rfl
@[simp] theorem fdT_69_1 : fdT Try.prog 69 1 = some (1, 2) := by kernel_rfl
@[simp] theorem fdT_65_2 : fdT Try.prog 65 2 = some (2, 2) := by kernel_rfl
@[simp] theorem fdT_69_2 : fdT Try.prog 69 2 = some (2, 2) := by kernel_rfl
@[simp] theorem fdT_69_3 : fdT Try.prog 69 3 = some (3, 32) := by kernel_rfl
@[simp] theorem fdT_69_4 : fdT Try.prog 69 4 = some (4, 32) := by kernel_rfl
/- laws.FnExactStmtFault -/
def D_laws_FnExactStmtFault (a0 : AVal) (h : AHeap) (Q : KA) : Prop :=
 @clM Try.prog 14 [a0, (i64 1048576)] h ⟨fun x1 h1 =>
 binM Try.prog .lss 3 x1 (i64 0) h1 fun x2 h2 =>
 gdM x2
 (retW tt h2 Q)
 (@clM Try.prog 16 [a0] h2 ⟨fun x3 h3 =>
 @clM Try.prog 15 [x3] h3 ⟨fun x4 h4 =>
 @clM Try.prog 16 [a0] h4 ⟨fun x5 h5 =>
 @clM Try.prog 17 [x5] h5 ⟨fun x6 h6 =>
 binM Try.prog .neq 2 x6 x4 h6 fun x7 h7 =>
 gdM x7
 (retW ff h7 Q)
 (@clM Try.prog 16 [a0] h7 ⟨fun x8 h8 =>
 @clM Try.prog 18 [x5, x8] h8 ⟨fun x9 h9 =>
 unM .not x9 h9 fun x10 h10 =>
 gdM x10
 (retW ff h10 Q)
 (retW tt h10 Q)⟩⟩)⟩⟩⟩⟩)⟩
theorem D_laws_FnExactStmtFault_eq (a0 : AVal) (h : AHeap) (Q : KA) : adFn Try.prog ⟨fun _ => [], fun _ => none, fun _ => []⟩ Try.f5 [a0] h Q = D_laws_FnExactStmtFault a0 h Q := by kernel_rfl
theorem D_laws_FnExactStmtFault_of {a0 : AVal} {h : AHeap} {Q : KA} (hd : D_laws_FnExactStmtFault a0 h Q) : callM Try.prog 5 [a0] h Q := callM_of (fn := Try.f5) Try.func5 (Nat.le_of_ble_eq_true (by kernel_rfl)) ((D_laws_FnExactStmtFault_eq a0 h Q).symm ▸ hd)
theorem fn_laws_FnExactStmtFault : fnT Try.prog 5 = true := by kernel_rfl
/- laws.szStmtS; J4: left i a -/
def D_laws_szStmtS (a0 a1 : AVal) (h : AHeap) (Q : KA) : Prop :=
 lenM Try.prog 29 a0 h fun x1 h1 =>
 binM Try.prog .sub 3 a1 x1 h1 fun x2 h2 =>
 binM Try.prog .lss 3 x2 (i64 0) h2 fun x3 h3 =>
 gdM x3
 (retW (i64 (-1)) h3 Q)
 (@lpM [x2, (i64 0), a0] h3 ⟨fun s4 h4 J4 =>
 lenM Try.prog 29 (nthA s4 2) h4 fun x5 h5 =>
 binM Try.prog .lss 3 (nthA s4 1) x5 h5 fun x6 h6 =>
 gdM x6
 (ixAddrM Try.prog 29 (nthA s4 2) (nthA s4 1) h6 fun x7 h7 =>
 loadM Try.prog 65 x7 h7 fun x8 h8 =>
 @clM Try.prog 34 [x8, (nthA s4 0)] h8 ⟨fun x9 h9 =>
 binM Try.prog .lss 3 x9 (i64 0) h9 fun x10 h10 =>
 gdM x10
 (retW (i64 (-1)) h10 Q)
 (binM Try.prog .add 3 (nthA s4 1) (i64 1) h10 fun x11 h11 =>
 @wkM [x9, x11, (nthA s4 2)] h11 ⟨J4⟩)⟩)
 (retW (nthA s4 0) h6 Q)⟩)
theorem D_laws_szStmtS_eq (a0 a1 : AVal) (h : AHeap) (Q : KA) : adFn Try.prog ⟨fun _ => [], fun _ => none, fun i => bif Nat.beq i 5 then [1, 5, 0] else []⟩ Try.f14 [a0, a1] h Q = D_laws_szStmtS a0 a1 h Q := by kernel_rfl
theorem D_laws_szStmtS_of {a0 a1 : AVal} {h : AHeap} {Q : KA} (hd : D_laws_szStmtS a0 a1 h Q) : callM Try.prog 14 [a0, a1] h Q := callM_of (fn := Try.f14) Try.func14 (Nat.le_of_ble_eq_true (by kernel_rfl)) ((D_laws_szStmtS_eq a0 a1 h Q).symm ▸ hd)
theorem fn_laws_szStmtS : fnT Try.prog 14 = true := by kernel_rfl
/- laws.szStmt -/
def D_laws_szStmt (a0 a1 : AVal) (h : AHeap) (Q : KA) : Prop :=
 boxM 65 a0 h fun x1 h1 =>
 fldAddrM Try.prog 65 x1 3 h1 fun x2 h2 =>
 loadM Try.prog 29 x2 h2 fun x3 h3 =>
 @clM Try.prog 14 [x3, a1] h3 ⟨fun x4 h4 =>
 binM Try.prog .lss 3 x4 (i64 0) h4 fun x5 h5 =>
 gdM x5
 (retW (i64 (-1)) h5 Q)
 (fldAddrM Try.prog 65 x1 4 h5 fun x6 h6 =>
 loadM Try.prog 29 x6 h6 fun x7 h7 =>
 @clM Try.prog 14 [x7, x4] h7 ⟨fun x8 h8 =>
 binM Try.prog .lss 3 x8 (i64 0) h8 fun x9 h9 =>
 gdM x9
 (retW (i64 (-1)) h9 Q)
 (retW x8 h9 Q)⟩)⟩
theorem D_laws_szStmt_eq (a0 a1 : AVal) (h : AHeap) (Q : KA) : adFn Try.prog ⟨fun _ => [], fun _ => none, fun _ => []⟩ Try.f34 [a0, a1] h Q = D_laws_szStmt a0 a1 h Q := by kernel_rfl
theorem D_laws_szStmt_of {a0 a1 : AVal} {h : AHeap} {Q : KA} (hd : D_laws_szStmt a0 a1 h Q) : callM Try.prog 34 [a0, a1] h Q := callM_of (fn := Try.f34) Try.func34 (Nat.le_of_ble_eq_true (by kernel_rfl)) ((D_laws_szStmt_eq a0 a1 h Q).symm ▸ hd)
theorem fn_laws_szStmt : fnT Try.prog 34 = true := by kernel_rfl
/- laws.toStmtS; J3: out i a -/
def D_laws_toStmtS (a0 : AVal) (h : AHeap) (Q : KA) : Prop :=
 lenM Try.prog 29 a0 h fun x1 h1 =>
 makeM Try.prog 32 x1 x1 h1 fun x2 h2 =>
 @lpM [x2, (i64 0), a0] h2 ⟨fun s3 h3 J3 =>
 lenM Try.prog 29 (nthA s3 2) h3 fun x4 h4 =>
 binM Try.prog .lss 3 (nthA s3 1) x4 h4 fun x5 h5 =>
 gdM x5
 (ixAddrM Try.prog 29 (nthA s3 2) (nthA s3 1) h5 fun x6 h6 =>
 loadM Try.prog 65 x6 h6 fun x7 h7 =>
 @clM Try.prog 37 [x7] h7 ⟨fun x8 h8 =>
 ixAddrM Try.prog 32 (nthA s3 0) (nthA s3 1) h8 fun x9 h9 =>
 storeM Try.prog 69 x9 x8 h9 fun x10 h10 =>
 binM Try.prog .add 3 (nthA s3 1) (i64 1) h10 fun x11 h11 =>
 @wkM [(nthA s3 0), x11, (nthA s3 2)] h11 ⟨J3⟩⟩)
 (retW (nthA s3 0) h5 Q)⟩
theorem D_laws_toStmtS_eq (a0 : AVal) (h : AHeap) (Q : KA) : adFn Try.prog ⟨fun _ => [], fun _ => none, fun i => bif Nat.beq i 3 then [3, 4, 0] else []⟩ Try.f16 [a0] h Q = D_laws_toStmtS a0 h Q := by kernel_rfl
theorem D_laws_toStmtS_of {a0 : AVal} {h : AHeap} {Q : KA} (hd : D_laws_toStmtS a0 h Q) : callM Try.prog 16 [a0] h Q := callM_of (fn := Try.f16) Try.func16 (Nat.le_of_ble_eq_true (by kernel_rfl)) ((D_laws_toStmtS_eq a0 h Q).symm ▸ hd)
theorem fn_laws_toStmtS : fnT Try.prog 16 = true := by kernel_rfl
/- laws.toStmt -/
def D_laws_toStmt (a0 : AVal) (h : AHeap) (Q : KA) : Prop :=
 boxM 65 a0 h fun x1 h1 =>
 allocM Try.prog 69 h1 fun x2 h2 =>
 allocM Try.prog 69 h2 fun x3 h3 =>
 fldAddrM Try.prog 65 x1 0 h3 fun x4 h4 =>
 loadM Try.prog 2 x4 h4 fun x5 h5 =>
 fldAddrM Try.prog 69 x3 0 h5 fun x6 h6 =>
 storeM Try.prog 2 x6 x5 h6 fun x7 h7 =>
 fldAddrM Try.prog 65 x1 1 h7 fun x8 h8 =>
 loadM Try.prog 2 x8 h8 fun x9 h9 =>
 fldAddrM Try.prog 69 x3 1 h9 fun x10 h10 =>
 storeM Try.prog 2 x10 x9 h10 fun x11 h11 =>
 fldAddrM Try.prog 65 x1 2 h11 fun x12 h12 =>
 loadM Try.prog 2 x12 h12 fun x13 h13 =>
 fldAddrM Try.prog 69 x3 2 h13 fun x14 h14 =>
 storeM Try.prog 2 x14 x13 h14 fun x15 h15 =>
 fldAddrM Try.prog 65 x1 3 h15 fun x16 h16 =>
 loadM Try.prog 29 x16 h16 fun x17 h17 =>
 @clM Try.prog 16 [x17] h17 ⟨fun x18 h18 =>
 fldAddrM Try.prog 69 x3 3 h18 fun x19 h19 =>
 storeM Try.prog 32 x19 x18 h19 fun x20 h20 =>
 fldAddrM Try.prog 65 x1 4 h20 fun x21 h21 =>
 loadM Try.prog 29 x21 h21 fun x22 h22 =>
 @clM Try.prog 16 [x22] h22 ⟨fun x23 h23 =>
 fldAddrM Try.prog 69 x3 4 h23 fun x24 h24 =>
 storeM Try.prog 32 x24 x23 h24 fun x25 h25 =>
 loadM Try.prog 69 x3 h25 fun x26 h26 =>
 storeM Try.prog 69 x2 x26 h26 fun x27 h27 =>
 loadM Try.prog 69 x2 h27 fun x28 h28 =>
 retW x28 h28 Q⟩⟩
theorem D_laws_toStmt_eq (a0 : AVal) (h : AHeap) (Q : KA) : adFn Try.prog ⟨fun _ => [], fun _ => none, fun _ => []⟩ Try.f37 [a0] h Q = D_laws_toStmt a0 h Q := by kernel_rfl
theorem D_laws_toStmt_of {a0 : AVal} {h : AHeap} {Q : KA} (hd : D_laws_toStmt a0 h Q) : callM Try.prog 37 [a0] h Q := callM_of (fn := Try.f37) Try.func37 (Nat.le_of_ble_eq_true (by kernel_rfl)) ((D_laws_toStmt_eq a0 h Q).symm ▸ hd)
theorem fn_laws_toStmt : fnT Try.prog 37 = true := by kernel_rfl
/- laws.eqStmtS; J4: i b a -/
@[simp] theorem dr_laws_eqStmtS_6 : drawnOK Try.prog (regOps Try.f18 6) [0, 1, 2, 3, 4, 5, 6, 7, 8, 9] = True := eq_true ⟨by kernel_rfl, by kernel_rfl⟩
def D_laws_eqStmtS (a0 a1 : AVal) (h : AHeap) (Q : KA) : Prop :=
 lenM Try.prog 32 a0 h fun x1 h1 =>
 lenM Try.prog 32 a1 h1 fun x2 h2 =>
 binM Try.prog .neq 3 x1 x2 h2 fun x3 h3 =>
 gdM x3
 (retW ff h3 Q)
 (@lpM [(i64 0), a1, a0] h3 ⟨fun s4 h4 J4 =>
 lenM Try.prog 32 (nthA s4 2) h4 fun x5 h5 =>
 binM Try.prog .lss 3 (nthA s4 0) x5 h5 fun x6 h6 =>
 gdM x6
 (And (drawnOK Try.prog (regOps Try.f18 6) [0, 1, 2, 3, 4, 5, 6, 7, 8, 9]) (ixAddrM Try.prog 32 (nthA s4 2) (nthA s4 0) h6 fun x7 h7 =>
 loadM Try.prog 69 x7 h7 fun x8 h8 =>
 ixAddrM Try.prog 32 (nthA s4 1) (nthA s4 0) h8 fun x9 h9 =>
 loadM Try.prog 69 x9 h9 fun x10 h10 =>
 @clM Try.prog 39 [x8, x10] h10 ⟨fun x11 h11 =>
 unM .not x11 h11 fun x12 h12 =>
 gdM x12
 (retW ff h12 Q)
 (binM Try.prog .add 3 (nthA s4 0) (i64 1) h12 fun x13 h13 =>
 @wkM [x13, (nthA s4 1), (nthA s4 2)] h13 ⟨J4⟩)⟩))
 (retW tt h6 Q)⟩)
theorem D_laws_eqStmtS_eq (a0 a1 : AVal) (h : AHeap) (Q : KA) : adFn Try.prog ⟨fun i => bif Nat.beq i 6 then [0, 1, 2, 3, 4, 5, 6, 7, 8, 9] else [], fun _ => none, fun i => bif Nat.beq i 4 then [5, 1, 0] else []⟩ Try.f18 [a0, a1] h Q = D_laws_eqStmtS a0 a1 h Q := by kernel_rfl
theorem D_laws_eqStmtS_of {a0 a1 : AVal} {h : AHeap} {Q : KA} (hd : D_laws_eqStmtS a0 a1 h Q) : callM Try.prog 18 [a0, a1] h Q := callM_of (fn := Try.f18) Try.func18 (Nat.le_of_ble_eq_true (by kernel_rfl)) ((D_laws_eqStmtS_eq a0 a1 h Q).symm ▸ hd)
theorem fn_laws_eqStmtS : fnT Try.prog 18 = true := by kernel_rfl
/- laws.eqStmt -/
def D_laws_eqStmt (a0 a1 : AVal) (h : AHeap) (Q : KA) : Prop :=
 boxM 69 a0 h fun x1 h1 =>
 boxM 69 a1 h1 fun x2 h2 =>
 fldAddrM Try.prog 69 x1 0 h2 fun x3 h3 =>
 loadM Try.prog 2 x3 h3 fun x4 h4 =>
 fldAddrM Try.prog 69 x2 0 h4 fun x5 h5 =>
 loadM Try.prog 2 x5 h5 fun x6 h6 =>
 binM Try.prog .neq 2 x4 x6 h6 fun x7 h7 =>
 gdM x7
 (retW ff h7 Q)
 (fldAddrM Try.prog 69 x1 1 h7 fun x8 h8 =>
 loadM Try.prog 2 x8 h8 fun x9 h9 =>
 fldAddrM Try.prog 69 x2 1 h9 fun x10 h10 =>
 loadM Try.prog 2 x10 h10 fun x11 h11 =>
 binM Try.prog .neq 2 x9 x11 h11 fun x12 h12 =>
 gdM x12
 (retW ff h12 Q)
 (fldAddrM Try.prog 69 x1 2 h12 fun x13 h13 =>
 loadM Try.prog 2 x13 h13 fun x14 h14 =>
 fldAddrM Try.prog 69 x2 2 h14 fun x15 h15 =>
 loadM Try.prog 2 x15 h15 fun x16 h16 =>
 binM Try.prog .neq 2 x14 x16 h16 fun x17 h17 =>
 gdM x17
 (retW ff h17 Q)
 (fldAddrM Try.prog 69 x1 3 h17 fun x18 h18 =>
 loadM Try.prog 32 x18 h18 fun x19 h19 =>
 fldAddrM Try.prog 69 x2 3 h19 fun x20 h20 =>
 loadM Try.prog 32 x20 h20 fun x21 h21 =>
 @clM Try.prog 18 [x19, x21] h21 ⟨fun x22 h22 =>
 unM .not x22 h22 fun x23 h23 =>
 gdM x23
 (retW ff h23 Q)
 (fldAddrM Try.prog 69 x1 4 h23 fun x24 h24 =>
 loadM Try.prog 32 x24 h24 fun x25 h25 =>
 fldAddrM Try.prog 69 x2 4 h25 fun x26 h26 =>
 loadM Try.prog 32 x26 h26 fun x27 h27 =>
 @clM Try.prog 18 [x25, x27] h27 ⟨fun x28 h28 =>
 unM .not x28 h28 fun x29 h29 =>
 gdM x29
 (retW ff h29 Q)
 (retW tt h29 Q)⟩)⟩)))
theorem D_laws_eqStmt_eq (a0 a1 : AVal) (h : AHeap) (Q : KA) : adFn Try.prog ⟨fun _ => [], fun _ => none, fun _ => []⟩ Try.f39 [a0, a1] h Q = D_laws_eqStmt a0 a1 h Q := by kernel_rfl
theorem D_laws_eqStmt_of {a0 a1 : AVal} {h : AHeap} {Q : KA} (hd : D_laws_eqStmt a0 a1 h Q) : callM Try.prog 39 [a0, a1] h Q := callM_of (fn := Try.f39) Try.func39 (Nat.le_of_ble_eq_true (by kernel_rfl)) ((D_laws_eqStmt_eq a0 a1 h Q).symm ▸ hd)
theorem fn_laws_eqStmt : fnT Try.prog 39 = true := by kernel_rfl
/- spec.StmtFault -/
def D_spec_StmtFault (a0 : AVal) (h : AHeap) (Q : KA) : Prop :=
 allocM Try.prog 2 h fun x1 h1 =>
 storeM Try.prog 2 x1 (i64 60) h1 fun x2 h2 =>
 @clM Try.prog 35 [a0, x1] h2 ⟨fun x3 h3 =>
 unM .not x3 h3 fun x4 h4 =>
 gdM x4
 (retW (i64 1) h4 Q)
 (loadM Try.prog 2 x1 h4 fun x5 h5 =>
 binM Try.prog .lss 2 x5 (i64 0) h5 fun x6 h6 =>
 gdM x6
 (retW (i64 2) h6 Q)
 (@clM Try.prog 36 [a0] h6 ⟨fun x7 h7 =>
 binM Try.prog .gtr 2 x7 (i64 8) h7 fun x8 h8 =>
 gdM x8
 (retW (i64 3) h8 Q)
 (retW (i64 0) h8 Q)⟩))⟩
theorem D_spec_StmtFault_eq (a0 : AVal) (h : AHeap) (Q : KA) : adFn Try.prog ⟨fun _ => [], fun _ => none, fun _ => []⟩ Try.f15 [a0] h Q = D_spec_StmtFault a0 h Q := by kernel_rfl
theorem D_spec_StmtFault_of {a0 : AVal} {h : AHeap} {Q : KA} (hd : D_spec_StmtFault a0 h Q) : callM Try.prog 15 [a0] h Q := callM_of (fn := Try.f15) Try.func15 (Nat.le_of_ble_eq_true (by kernel_rfl)) ((D_spec_StmtFault_eq a0 h Q).symm ▸ hd)
theorem fn_spec_StmtFault : fnT Try.prog 15 = true := by kernel_rfl
/- spec.l10Walk; J1: i left list; J82: left list i _141; J13: left list i x ok -/
def D_spec_l10Walk (a0 a1 : AVal) (h : AHeap) (Q : KA) : Prop :=
 @lpM [(i64 0), a1, a0] h ⟨fun s1 h1 J1 =>
 lenM Try.prog 32 (nthA s1 2) h1 fun x2 h2 =>
 binM Try.prog .lss 3 (nthA s1 0) x2 h2 fun x3 h3 =>
 gdM x3
 (ixAddrM Try.prog 32 (nthA s1 2) (nthA s1 0) h3 fun x4 h4 =>
 loadM Try.prog 69 x4 h4 fun x5 h5 =>
 allocM Try.prog 69 h5 fun x6 h6 =>
 storeM Try.prog 69 x6 x5 h6 fun x7 h7 =>
 nilChkM (nthA s1 1) h7 fun x8 h8 =>
 loadM Try.prog 2 x8 h8 fun x9 h9 =>
 binM Try.prog .sub 2 x9 (i64 1) h9 fun x10 h10 =>
 nilChkM (nthA s1 1) h10 fun x11 h11 =>
 storeM Try.prog 2 x11 x10 h11 fun x12 h12 =>
 @jnM ⟨fun J13 =>
 fldAddrM Try.prog 69 x6 0 h12 fun x14 h14 =>
 loadM Try.prog 2 x14 h14 fun x15 h15 =>
 binM Try.prog .eql 2 x15 (i64 1) h15 fun x16 h16 =>
 gdM x16
 (fldAddrM Try.prog 69 x6 1 h16 fun x17 h17 =>
 loadM Try.prog 2 x17 h17 fun x18 h18 =>
 binM Try.prog .geq 2 x18 (i64 0) h18 fun x19 h19 =>
 gdM x19
 (fldAddrM Try.prog 69 x6 1 h19 fun x20 h20 =>
 loadM Try.prog 2 x20 h20 fun x21 h21 =>
 binM Try.prog .lss 2 x21 (i64 8) h21 fun x22 h22 =>
 gdM x22
 (fldAddrM Try.prog 69 x6 2 h22 fun x23 h23 =>
 loadM Try.prog 2 x23 h23 fun x24 h24 =>
 binM Try.prog .geq 2 x24 (i64 0) h24 fun x25 h25 =>
 gdM x25
 (fldAddrM Try.prog 69 x6 2 h25 fun x26 h26 =>
 loadM Try.prog 2 x26 h26 fun x27 h27 =>
 binM Try.prog .lss 2 x27 (i64 8) h27 fun x28 h28 =>
 gdM x28
 (fldAddrM Try.prog 69 x6 3 h28 fun x29 h29 =>
 loadM Try.prog 32 x29 h29 fun x30 h30 =>
 lenM Try.prog 32 x30 h30 fun x31 h31 =>
 binM Try.prog .eql 3 x31 (i64 0) h31 fun x32 h32 =>
 gdM x32
 (fldAddrM Try.prog 69 x6 4 h32 fun x33 h33 =>
 loadM Try.prog 32 x33 h33 fun x34 h34 =>
 lenM Try.prog 32 x34 h34 fun x35 h35 =>
 binM Try.prog .eql 3 x35 (i64 0) h35 fun x36 h36 =>
 @wkM [(nthA s1 1), (nthA s1 2), (nthA s1 0), x6, x36] h36 ⟨J13⟩)
 (@wkM [(nthA s1 1), (nthA s1 2), (nthA s1 0), x6, ff] h32 ⟨J13⟩))
 (@wkM [(nthA s1 1), (nthA s1 2), (nthA s1 0), x6, ff] h28 ⟨J13⟩))
 (@wkM [(nthA s1 1), (nthA s1 2), (nthA s1 0), x6, ff] h25 ⟨J13⟩))
 (@wkM [(nthA s1 1), (nthA s1 2), (nthA s1 0), x6, ff] h22 ⟨J13⟩))
 (@wkM [(nthA s1 1), (nthA s1 2), (nthA s1 0), x6, ff] h19 ⟨J13⟩))
 (binM Try.prog .eql 2 x15 (i64 2) h16 fun x37 h37 =>
 gdM x37
 (fldAddrM Try.prog 69 x6 1 h37 fun x38 h38 =>
 loadM Try.prog 2 x38 h38 fun x39 h39 =>
 binM Try.prog .geq 2 x39 (i64 0) h39 fun x40 h40 =>
 gdM x40
 (fldAddrM Try.prog 69 x6 1 h40 fun x41 h41 =>
 loadM Try.prog 2 x41 h41 fun x42 h42 =>
 binM Try.prog .lss 2 x42 (i64 8) h42 fun x43 h43 =>
 gdM x43
 (fldAddrM Try.prog 69 x6 2 h43 fun x44 h44 =>
 loadM Try.prog 2 x44 h44 fun x45 h45 =>
 binM Try.prog .geq 2 x45 (i64 0) h45 fun x46 h46 =>
 gdM x46
 (fldAddrM Try.prog 69 x6 2 h46 fun x47 h47 =>
 loadM Try.prog 2 x47 h47 fun x48 h48 =>
 binM Try.prog .lss 2 x48 (i64 8) h48 fun x49 h49 =>
 @wkM [(nthA s1 1), (nthA s1 2), (nthA s1 0), x6, x49] h49 ⟨J13⟩)
 (@wkM [(nthA s1 1), (nthA s1 2), (nthA s1 0), x6, ff] h46 ⟨J13⟩))
 (@wkM [(nthA s1 1), (nthA s1 2), (nthA s1 0), x6, ff] h43 ⟨J13⟩))
 (@wkM [(nthA s1 1), (nthA s1 2), (nthA s1 0), x6, ff] h40 ⟨J13⟩))
 (binM Try.prog .eql 2 x15 (i64 3) h37 fun x50 h50 =>
 gdM x50
 (fldAddrM Try.prog 69 x6 1 h50 fun x51 h51 =>
 loadM Try.prog 2 x51 h51 fun x52 h52 =>
 binM Try.prog .eql 2 x52 (i64 0) h52 fun x53 h53 =>
 gdM x53
 (fldAddrM Try.prog 69 x6 2 h53 fun x54 h54 =>
 loadM Try.prog 2 x54 h54 fun x55 h55 =>
 binM Try.prog .geq 2 x55 (i64 0) h55 fun x56 h56 =>
 gdM x56
 (fldAddrM Try.prog 69 x6 2 h56 fun x57 h57 =>
 loadM Try.prog 2 x57 h57 fun x58 h58 =>
 binM Try.prog .lss 2 x58 (i64 256) h58 fun x59 h59 =>
 gdM x59
 (fldAddrM Try.prog 69 x6 4 h59 fun x60 h60 =>
 loadM Try.prog 32 x60 h60 fun x61 h61 =>
 lenM Try.prog 32 x61 h61 fun x62 h62 =>
 binM Try.prog .eql 3 x62 (i64 0) h62 fun x63 h63 =>
 @wkM [(nthA s1 1), (nthA s1 2), (nthA s1 0), x6, x63] h63 ⟨J13⟩)
 (@wkM [(nthA s1 1), (nthA s1 2), (nthA s1 0), x6, ff] h59 ⟨J13⟩))
 (@wkM [(nthA s1 1), (nthA s1 2), (nthA s1 0), x6, ff] h56 ⟨J13⟩))
 (@wkM [(nthA s1 1), (nthA s1 2), (nthA s1 0), x6, ff] h53 ⟨J13⟩))
 (binM Try.prog .eql 2 x15 (i64 4) h50 fun x64 h64 =>
 gdM x64
 (fldAddrM Try.prog 69 x6 1 h64 fun x65 h65 =>
 loadM Try.prog 2 x65 h65 fun x66 h66 =>
 binM Try.prog .geq 2 x66 (i64 0) h66 fun x67 h67 =>
 gdM x67
 (fldAddrM Try.prog 69 x6 1 h67 fun x68 h68 =>
 loadM Try.prog 2 x68 h68 fun x69 h69 =>
 binM Try.prog .lss 2 x69 (i64 8) h69 fun x70 h70 =>
 gdM x70
 (fldAddrM Try.prog 69 x6 2 h70 fun x71 h71 =>
 loadM Try.prog 2 x71 h71 fun x72 h72 =>
 binM Try.prog .eql 2 x72 (i64 0) h72 fun x73 h73 =>
 gdM x73
 (fldAddrM Try.prog 69 x6 3 h73 fun x74 h74 =>
 loadM Try.prog 32 x74 h74 fun x75 h75 =>
 lenM Try.prog 32 x75 h75 fun x76 h76 =>
 binM Try.prog .eql 3 x76 (i64 0) h76 fun x77 h77 =>
 gdM x77
 (fldAddrM Try.prog 69 x6 4 h77 fun x78 h78 =>
 loadM Try.prog 32 x78 h78 fun x79 h79 =>
 lenM Try.prog 32 x79 h79 fun x80 h80 =>
 binM Try.prog .eql 3 x80 (i64 0) h80 fun x81 h81 =>
 @wkM [(nthA s1 1), (nthA s1 2), (nthA s1 0), x6, x81] h81 ⟨J13⟩)
 (@wkM [(nthA s1 1), (nthA s1 2), (nthA s1 0), x6, ff] h77 ⟨J13⟩))
 (@wkM [(nthA s1 1), (nthA s1 2), (nthA s1 0), x6, ff] h73 ⟨J13⟩))
 (@wkM [(nthA s1 1), (nthA s1 2), (nthA s1 0), x6, ff] h70 ⟨J13⟩))
 (@wkM [(nthA s1 1), (nthA s1 2), (nthA s1 0), x6, ff] h67 ⟨J13⟩))
 (@wkM [(nthA s1 1), (nthA s1 2), (nthA s1 0), x6, ff] h64 ⟨J13⟩))))⟩
 ⟨fun s13 h13 =>
 @jnM ⟨fun J82 =>
 unM .not (nthA s13 4) h13 fun x83 h83 =>
 gdM x83
 (@wkM [(nthA s13 0), (nthA s13 1), (nthA s13 2), tt] h83 ⟨J82⟩)
 (fldAddrM Try.prog 69 (nthA s13 3) 3 h83 fun x84 h84 =>
 loadM Try.prog 32 x84 h84 fun x85 h85 =>
 @clM Try.prog 35 [x85, (nthA s13 0)] h85 ⟨fun x86 h86 =>
 unM .not x86 h86 fun x87 h87 =>
 gdM x87
 (@wkM [(nthA s13 0), (nthA s13 1), (nthA s13 2), tt] h87 ⟨J82⟩)
 (fldAddrM Try.prog 69 (nthA s13 3) 4 h87 fun x88 h88 =>
 loadM Try.prog 32 x88 h88 fun x89 h89 =>
 @clM Try.prog 35 [x89, (nthA s13 0)] h89 ⟨fun x90 h90 =>
 unM .not x90 h90 fun x91 h91 =>
 @wkM [(nthA s13 0), (nthA s13 1), (nthA s13 2), x91] h91 ⟨J82⟩⟩)⟩)⟩
 ⟨fun s82 h82 =>
 gdM (nthA s82 3)
 (retW ff h82 Q)
 (binM Try.prog .add 3 (nthA s82 2) (i64 1) h82 fun x92 h92 =>
 @wkM [x92, (nthA s82 0), (nthA s82 1)] h92 ⟨J1⟩)⟩⟩)
 (retW tt h3 Q)⟩
theorem D_spec_l10Walk_eq (a0 a1 : AVal) (h : AHeap) (Q : KA) : adFn Try.prog ⟨fun _ => [], fun i => bif Nat.beq i 16 then some [1, 0, 5, 6, 7] else bif Nat.beq i 17 then some [1, 0, 5, 141] else none, fun i => bif Nat.beq i 2 then [5, 1, 0] else []⟩ Try.f35 [a0, a1] h Q = D_spec_l10Walk a0 a1 h Q := by kernel_rfl
theorem D_spec_l10Walk_of {a0 a1 : AVal} {h : AHeap} {Q : KA} (hd : D_spec_l10Walk a0 a1 h Q) : callM Try.prog 35 [a0, a1] h Q := callM_of (fn := Try.f35) Try.func35 (Nat.le_of_ble_eq_true (by kernel_rfl)) ((D_spec_l10Walk_eq a0 a1 h Q).symm ▸ hd)
theorem fn_spec_l10Walk : fnT Try.prog 35 = true := by kernel_rfl
/- spec.l10Levels; J1: most i list; J15: most list i n; J9: most list i n; J4: most list i -/
def D_spec_l10Levels (a0 : AVal) (h : AHeap) (Q : KA) : Prop :=
 @lpM [(i64 0), (i64 0), a0] h ⟨fun s1 h1 J1 =>
 lenM Try.prog 32 (nthA s1 2) h1 fun x2 h2 =>
 binM Try.prog .lss 3 (nthA s1 1) x2 h2 fun x3 h3 =>
 gdM x3
 (@jnM ⟨fun J4 =>
 ixAddrM Try.prog 32 (nthA s1 2) (nthA s1 1) h3 fun x5 h5 =>
 fldAddrM Try.prog 69 x5 3 h5 fun x6 h6 =>
 loadM Try.prog 32 x6 h6 fun x7 h7 =>
 @clM Try.prog 36 [x7] h7 ⟨fun x8 h8 =>
 @jnM ⟨fun J9 =>
 ixAddrM Try.prog 32 (nthA s1 2) (nthA s1 1) h8 fun x10 h10 =>
 fldAddrM Try.prog 69 x10 0 h10 fun x11 h11 =>
 loadM Try.prog 2 x11 h11 fun x12 h12 =>
 binM Try.prog .eql 2 x12 (i64 3) h12 fun x13 h13 =>
 gdM x13
 (binM Try.prog .add 2 x8 (i64 1) h13 fun x14 h14 =>
 @wkM [(nthA s1 0), (nthA s1 2), (nthA s1 1), x14] h14 ⟨J9⟩)
 (@wkM [(nthA s1 0), (nthA s1 2), (nthA s1 1), x8] h13 ⟨J9⟩)⟩
 ⟨fun s9 h9 =>
 @jnM ⟨fun J15 =>
 ixAddrM Try.prog 32 (nthA s9 1) (nthA s9 2) h9 fun x16 h16 =>
 fldAddrM Try.prog 69 x16 4 h16 fun x17 h17 =>
 loadM Try.prog 32 x17 h17 fun x18 h18 =>
 @clM Try.prog 36 [x18] h18 ⟨fun x19 h19 =>
 binM Try.prog .gtr 2 x19 (nthA s9 3) h19 fun x20 h20 =>
 gdM x20
 (@wkM [(nthA s9 0), (nthA s9 1), (nthA s9 2), x19] h20 ⟨J15⟩)
 (@wkM [(nthA s9 0), (nthA s9 1), (nthA s9 2), (nthA s9 3)] h20 ⟨J15⟩)⟩⟩
 ⟨fun s15 h15 =>
 binM Try.prog .gtr 2 (nthA s15 3) (nthA s15 0) h15 fun x21 h21 =>
 gdM x21
 (@wkM [(nthA s15 3), (nthA s15 1), (nthA s15 2)] h21 ⟨J4⟩)
 (@wkM [(nthA s15 0), (nthA s15 1), (nthA s15 2)] h21 ⟨J4⟩)⟩⟩⟩⟩
 ⟨fun s4 h4 =>
 binM Try.prog .add 3 (nthA s4 2) (i64 1) h4 fun x22 h22 =>
 @wkM [(nthA s4 0), x22, (nthA s4 1)] h22 ⟨J1⟩⟩)
 (retW (nthA s1 0) h3 Q)⟩
theorem D_spec_l10Levels_eq (a0 : AVal) (h : AHeap) (Q : KA) : adFn Try.prog ⟨fun _ => [], fun i => bif Nat.beq i 4 then some [3, 0, 4] else bif Nat.beq i 8 then some [3, 0, 4, 5] else bif Nat.beq i 11 then some [3, 0, 4, 5] else none, fun i => bif Nat.beq i 3 then [3, 4, 0] else []⟩ Try.f36 [a0] h Q = D_spec_l10Levels a0 h Q := by kernel_rfl
theorem D_spec_l10Levels_of {a0 : AVal} {h : AHeap} {Q : KA} (hd : D_spec_l10Levels a0 h Q) : callM Try.prog 36 [a0] h Q := callM_of (fn := Try.f36) Try.func36 (Nat.le_of_ble_eq_true (by kernel_rfl)) ((D_spec_l10Levels_eq a0 h Q).symm ▸ hd)
theorem fn_spec_l10Levels : fnT Try.prog 36 = true := by kernel_rfl
/- impl.StmtFault -/
def D_impl_StmtFault (a0 : AVal) (h : AHeap) (Q : KA) : Prop :=
 allocM Try.prog 3 h fun x1 h1 =>
 allocM Try.prog 3 h1 fun x2 h2 =>
 storeM Try.prog 3 x1 (i64 0) h2 fun x3 h3 =>
 storeM Try.prog 3 x2 (i64 0) h3 fun x4 h4 =>
 @clM Try.prog 38 [a0, (i64 0), x1, x2] h4 ⟨fun x5 h5 =>
 unM .not x5 h5 fun x6 h6 =>
 gdM x6
 (retW (i64 1) h6 Q)
 (loadM Try.prog 3 x1 h6 fun x7 h7 =>
 binM Try.prog .gtr 3 x7 (i64 60) h7 fun x8 h8 =>
 gdM x8
 (retW (i64 2) h8 Q)
 (loadM Try.prog 3 x2 h8 fun x9 h9 =>
 binM Try.prog .gtr 3 x9 (i64 8) h9 fun x10 h10 =>
 gdM x10
 (retW (i64 3) h10 Q)
 (retW (i64 0) h10 Q)))⟩
theorem D_impl_StmtFault_eq (a0 : AVal) (h : AHeap) (Q : KA) : adFn Try.prog ⟨fun _ => [], fun _ => none, fun _ => []⟩ Try.f17 [a0] h Q = D_impl_StmtFault a0 h Q := by kernel_rfl
theorem D_impl_StmtFault_of {a0 : AVal} {h : AHeap} {Q : KA} (hd : D_impl_StmtFault a0 h Q) : callM Try.prog 17 [a0] h Q := callM_of (fn := Try.f17) Try.func17 (Nat.le_of_ble_eq_true (by kernel_rfl)) ((D_impl_StmtFault_eq a0 h Q).symm ▸ hd)
theorem fn_impl_StmtFault : fnT Try.prog 17 = true := by kernel_rfl
/- impl.measure; J2: _14 deepest count loops list _13; J21: deepest count loops list _13 _14 _64; J10: deepest count loops list _13 _14 inner s -/
def D_impl_measure (a0 a1 a2 a3 : AVal) (h : AHeap) (Q : KA) : Prop :=
 lenM Try.prog 32 a0 h fun x1 h1 =>
 @lpM [(i64 0), a3, a2, a1, a0, x1] h1 ⟨fun s2 h2 J2 =>
 binM Try.prog .lss 3 (nthA s2 0) (nthA s2 5) h2 fun x3 h3 =>
 gdM x3
 (ixAddrM Try.prog 32 (nthA s2 4) (nthA s2 0) h3 fun x4 h4 =>
 nilChkM (nthA s2 2) h4 fun x5 h5 =>
 loadM Try.prog 3 x5 h5 fun x6 h6 =>
 binM Try.prog .add 3 x6 (i64 1) h6 fun x7 h7 =>
 nilChkM (nthA s2 2) h7 fun x8 h8 =>
 storeM Try.prog 3 x8 x7 h8 fun x9 h9 =>
 @jnM ⟨fun J10 =>
 nilChkM x4 h9 fun x11 h11 =>
 fldAddrM Try.prog 69 x11 0 h11 fun x12 h12 =>
 loadM Try.prog 2 x12 h12 fun x13 h13 =>
 binM Try.prog .eql 2 x13 (i64 3) h13 fun x14 h14 =>
 gdM x14
 (binM Try.prog .add 3 (nthA s2 3) (i64 1) h14 fun x15 h15 =>
 nilChkM (nthA s2 1) h15 fun x16 h16 =>
 loadM Try.prog 3 x16 h16 fun x17 h17 =>
 maxM x17 x15 h17 fun x18 h18 =>
 nilChkM (nthA s2 1) h18 fun x19 h19 =>
 storeM Try.prog 3 x19 x18 h19 fun x20 h20 =>
 @wkM [(nthA s2 1), (nthA s2 2), (nthA s2 3), (nthA s2 4), (nthA s2 5), (nthA s2 0), x15, x4] h20 ⟨J10⟩)
 (@wkM [(nthA s2 1), (nthA s2 2), (nthA s2 3), (nthA s2 4), (nthA s2 5), (nthA s2 0), (nthA s2 3), x4] h14 ⟨J10⟩)⟩
 ⟨fun s10 h10 =>
 @jnM ⟨fun J21 =>
 @clM Try.prog 76 [(nthA s10 7)] h10 ⟨fun x22 h22 =>
 unM .not x22 h22 fun x23 h23 =>
 gdM x23
 (@wkM [(nthA s10 0), (nthA s10 1), (nthA s10 2), (nthA s10 3), (nthA s10 4), (nthA s10 5), tt] h23 ⟨J21⟩)
 (nilChkM (nthA s10 7) h23 fun x24 h24 =>
 fldAddrM Try.prog 69 x24 3 h24 fun x25 h25 =>
 loadM Try.prog 32 x25 h25 fun x26 h26 =>
 @clM Try.prog 38 [x26, (nthA s10 6), (nthA s10 1), (nthA s10 0)] h26 ⟨fun x27 h27 =>
 unM .not x27 h27 fun x28 h28 =>
 gdM x28
 (@wkM [(nthA s10 0), (nthA s10 1), (nthA s10 2), (nthA s10 3), (nthA s10 4), (nthA s10 5), tt] h28 ⟨J21⟩)
 (nilChkM (nthA s10 7) h28 fun x29 h29 =>
 fldAddrM Try.prog 69 x29 4 h29 fun x30 h30 =>
 loadM Try.prog 32 x30 h30 fun x31 h31 =>
 @clM Try.prog 38 [x31, (nthA s10 6), (nthA s10 1), (nthA s10 0)] h31 ⟨fun x32 h32 =>
 unM .not x32 h32 fun x33 h33 =>
 @wkM [(nthA s10 0), (nthA s10 1), (nthA s10 2), (nthA s10 3), (nthA s10 4), (nthA s10 5), x33] h33 ⟨J21⟩⟩)⟩)⟩⟩
 ⟨fun s21 h21 =>
 gdM (nthA s21 6)
 (retW ff h21 Q)
 (binM Try.prog .add 3 (nthA s21 5) (i64 1) h21 fun x34 h34 =>
 @wkM [x34, (nthA s21 0), (nthA s21 1), (nthA s21 2), (nthA s21 3), (nthA s21 4)] h34 ⟨J2⟩)⟩⟩)
 (retW tt h3 Q)⟩
theorem D_impl_measure_eq (a0 a1 a2 a3 : AVal) (h : AHeap) (Q : KA) : adFn Try.prog ⟨fun _ => [], fun i => bif Nat.beq i 10 then some [3, 2, 1, 0, 13, 14, 11, 10] else bif Nat.beq i 11 then some [3, 2, 1, 0, 13, 14, 64] else none, fun i => bif Nat.beq i 2 then [14, 3, 2, 1, 0, 13] else []⟩ Try.f38 [a0, a1, a2, a3] h Q = D_impl_measure a0 a1 a2 a3 h Q := by kernel_rfl
theorem D_impl_measure_of {a0 a1 a2 a3 : AVal} {h : AHeap} {Q : KA} (hd : D_impl_measure a0 a1 a2 a3 h Q) : callM Try.prog 38 [a0, a1, a2, a3] h Q := callM_of (fn := Try.f38) Try.func38 (Nat.le_of_ble_eq_true (by kernel_rfl)) ((D_impl_measure_eq a0 a1 a2 a3 h Q).symm ▸ hd)
theorem fn_impl_measure : fnT Try.prog 38 = true := by kernel_rfl
/- (*impl.Stmt).fits; J5: _2; J25: _2; J35: _2; J54: _2; J73: _2 -/
def D_impl_Stmt_fits (a0 : AVal) (h : AHeap) (Q : KA) : Prop :=
 nilChkM a0 h fun x1 h1 =>
 fldAddrM Try.prog 69 x1 0 h1 fun x2 h2 =>
 loadM Try.prog 2 x2 h2 fun x3 h3 =>
 binM Try.prog .eql 2 x3 (i64 1) h3 fun x4 h4 =>
 gdM x4
 (@jnM ⟨fun J5 =>
 nilChkM a0 h4 fun x6 h6 =>
 fldAddrM Try.prog 69 x6 1 h6 fun x7 h7 =>
 loadM Try.prog 2 x7 h7 fun x8 h8 =>
 @clM Try.prog 88 [x8] h8 ⟨fun x9 h9 =>
 gdM x9
 (nilChkM a0 h9 fun x10 h10 =>
 fldAddrM Try.prog 69 x10 2 h10 fun x11 h11 =>
 loadM Try.prog 2 x11 h11 fun x12 h12 =>
 @clM Try.prog 88 [x12] h12 ⟨fun x13 h13 =>
 gdM x13
 (nilChkM a0 h13 fun x14 h14 =>
 fldAddrM Try.prog 69 x14 3 h14 fun x15 h15 =>
 loadM Try.prog 32 x15 h15 fun x16 h16 =>
 lenM Try.prog 32 x16 h16 fun x17 h17 =>
 binM Try.prog .eql 3 x17 (i64 0) h17 fun x18 h18 =>
 gdM x18
 (nilChkM a0 h18 fun x19 h19 =>
 fldAddrM Try.prog 69 x19 4 h19 fun x20 h20 =>
 loadM Try.prog 32 x20 h20 fun x21 h21 =>
 lenM Try.prog 32 x21 h21 fun x22 h22 =>
 binM Try.prog .eql 3 x22 (i64 0) h22 fun x23 h23 =>
 @wkM [x23] h23 ⟨J5⟩)
 (@wkM [ff] h18 ⟨J5⟩))
 (@wkM [ff] h13 ⟨J5⟩)⟩)
 (@wkM [ff] h9 ⟨J5⟩)⟩⟩
 ⟨fun s5 h5 =>
 retW (nthA s5 0) h5 Q⟩)
 (binM Try.prog .eql 2 x3 (i64 2) h4 fun x24 h24 =>
 gdM x24
 (@jnM ⟨fun J25 =>
 nilChkM a0 h24 fun x26 h26 =>
 fldAddrM Try.prog 69 x26 1 h26 fun x27 h27 =>
 loadM Try.prog 2 x27 h27 fun x28 h28 =>
 @clM Try.prog 88 [x28] h28 ⟨fun x29 h29 =>
 gdM x29
 (nilChkM a0 h29 fun x30 h30 =>
 fldAddrM Try.prog 69 x30 2 h30 fun x31 h31 =>
 loadM Try.prog 2 x31 h31 fun x32 h32 =>
 @clM Try.prog 88 [x32] h32 ⟨fun x33 h33 =>
 @wkM [x33] h33 ⟨J25⟩⟩)
 (@wkM [ff] h29 ⟨J25⟩)⟩⟩
 ⟨fun s25 h25 =>
 retW (nthA s25 0) h25 Q⟩)
 (binM Try.prog .eql 2 x3 (i64 3) h24 fun x34 h34 =>
 gdM x34
 (@jnM ⟨fun J35 =>
 nilChkM a0 h34 fun x36 h36 =>
 fldAddrM Try.prog 69 x36 1 h36 fun x37 h37 =>
 loadM Try.prog 2 x37 h37 fun x38 h38 =>
 binM Try.prog .eql 2 x38 (i64 0) h38 fun x39 h39 =>
 gdM x39
 (nilChkM a0 h39 fun x40 h40 =>
 fldAddrM Try.prog 69 x40 2 h40 fun x41 h41 =>
 loadM Try.prog 2 x41 h41 fun x42 h42 =>
 binM Try.prog .geq 2 x42 (i64 0) h42 fun x43 h43 =>
 gdM x43
 (nilChkM a0 h43 fun x44 h44 =>
 fldAddrM Try.prog 69 x44 2 h44 fun x45 h45 =>
 loadM Try.prog 2 x45 h45 fun x46 h46 =>
 binM Try.prog .leq 2 x46 (i64 255) h46 fun x47 h47 =>
 gdM x47
 (nilChkM a0 h47 fun x48 h48 =>
 fldAddrM Try.prog 69 x48 4 h48 fun x49 h49 =>
 loadM Try.prog 32 x49 h49 fun x50 h50 =>
 lenM Try.prog 32 x50 h50 fun x51 h51 =>
 binM Try.prog .eql 3 x51 (i64 0) h51 fun x52 h52 =>
 @wkM [x52] h52 ⟨J35⟩)
 (@wkM [ff] h47 ⟨J35⟩))
 (@wkM [ff] h43 ⟨J35⟩))
 (@wkM [ff] h39 ⟨J35⟩)⟩
 ⟨fun s35 h35 =>
 retW (nthA s35 0) h35 Q⟩)
 (binM Try.prog .eql 2 x3 (i64 4) h34 fun x53 h53 =>
 gdM x53
 (@jnM ⟨fun J54 =>
 nilChkM a0 h53 fun x55 h55 =>
 fldAddrM Try.prog 69 x55 1 h55 fun x56 h56 =>
 loadM Try.prog 2 x56 h56 fun x57 h57 =>
 @clM Try.prog 88 [x57] h57 ⟨fun x58 h58 =>
 gdM x58
 (nilChkM a0 h58 fun x59 h59 =>
 fldAddrM Try.prog 69 x59 2 h59 fun x60 h60 =>
 loadM Try.prog 2 x60 h60 fun x61 h61 =>
 binM Try.prog .eql 2 x61 (i64 0) h61 fun x62 h62 =>
 gdM x62
 (nilChkM a0 h62 fun x63 h63 =>
 fldAddrM Try.prog 69 x63 3 h63 fun x64 h64 =>
 loadM Try.prog 32 x64 h64 fun x65 h65 =>
 lenM Try.prog 32 x65 h65 fun x66 h66 =>
 binM Try.prog .eql 3 x66 (i64 0) h66 fun x67 h67 =>
 gdM x67
 (nilChkM a0 h67 fun x68 h68 =>
 fldAddrM Try.prog 69 x68 4 h68 fun x69 h69 =>
 loadM Try.prog 32 x69 h69 fun x70 h70 =>
 lenM Try.prog 32 x70 h70 fun x71 h71 =>
 binM Try.prog .eql 3 x71 (i64 0) h71 fun x72 h72 =>
 @wkM [x72] h72 ⟨J54⟩)
 (@wkM [ff] h67 ⟨J54⟩))
 (@wkM [ff] h62 ⟨J54⟩))
 (@wkM [ff] h58 ⟨J54⟩)⟩⟩
 ⟨fun s54 h54 =>
 retW (nthA s54 0) h54 Q⟩)
 (@jnM ⟨fun J73 =>
 @wkM [ff] h53 ⟨J73⟩⟩
 ⟨fun s73 h73 =>
 retW (nthA s73 0) h73 Q⟩))))
theorem D_impl_Stmt_fits_eq (a0 : AVal) (h : AHeap) (Q : KA) : adFn Try.prog ⟨fun _ => [], fun i => bif Nat.beq i 0 then some [2] else none, fun _ => []⟩ Try.f76 [a0] h Q = D_impl_Stmt_fits a0 h Q := by kernel_rfl
theorem D_impl_Stmt_fits_of {a0 : AVal} {h : AHeap} {Q : KA} (hd : D_impl_Stmt_fits a0 h Q) : callM Try.prog 76 [a0] h Q := callM_of (fn := Try.f76) Try.func76 (Nat.le_of_ble_eq_true (by kernel_rfl)) ((D_impl_Stmt_fits_eq a0 h Q).symm ▸ hd)
theorem fn_impl_Stmt_fits : fnT Try.prog 76 = true := by kernel_rfl
/- (*impl.Stmt).fits$1; J1: _2 -/
def D_impl_Stmt_fits_1 (a0 : AVal) (h : AHeap) (Q : KA) : Prop :=
 @jnM ⟨fun J1 =>
 binM Try.prog .geq 2 a0 (i64 0) h fun x2 h2 =>
 gdM x2
 (binM Try.prog .lss 2 a0 (i64 8) h2 fun x3 h3 =>
 @wkM [x3] h3 ⟨J1⟩)
 (@wkM [ff] h2 ⟨J1⟩)⟩
 ⟨fun s1 h1 =>
 retW (nthA s1 0) h1 Q⟩
theorem D_impl_Stmt_fits_1_eq (a0 : AVal) (h : AHeap) (Q : KA) : adFn Try.prog ⟨fun _ => [], fun i => bif Nat.beq i 0 then some [2] else none, fun _ => []⟩ Try.f88 [a0] h Q = D_impl_Stmt_fits_1 a0 h Q := by kernel_rfl
theorem D_impl_Stmt_fits_1_of {a0 : AVal} {h : AHeap} {Q : KA} (hd : D_impl_Stmt_fits_1 a0 h Q) : callM Try.prog 88 [a0] h Q := callM_of (fn := Try.f88) Try.func88 (Nat.le_of_ble_eq_true (by kernel_rfl)) ((D_impl_Stmt_fits_1_eq a0 h Q).symm ▸ hd)
theorem fn_impl_Stmt_fits_1 : fnT Try.prog 88 = true := by kernel_rfl
end Go.Proofs.Ytlnlbncinjiinaa.A
