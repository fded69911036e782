/- Of this session: what the functions mean, printed; each equal to its code's meaning by the kernel. -/
import Derived.Test.YtlnlbncinjiinaaProg
import Derived.Test.YtlnlbncinjiinaaA
namespace Go.Proofs.Ytlnlbncinjiinaa.A
open Go Go.RowKit
set_option linter.unusedVariables false
set_option linter.unusedSimpArgs false
set_option maxRecDepth 100000
@[simp] theorem slT_44 : slT Try.prog 44 = some 91 := by kernel_rfl
@[simp] theorem slT_46 : slT Try.prog 46 = some 89 := by kernel_rfl
@[simp] theorem okT_89 : okT Try.prog 89 = true := by kernel_rfl
@[simp] theorem szT_89 : szT Try.prog 89 = 3 := by kernel_rfl
@[simp] theorem agT_89 : agT Try.prog 89 = true := by kernel_rfl
@[simp] theorem zrT_89 : zrT Try.prog 89 = some (AVal.agg [AVal.v (Value.int IntKind.i64 (0)), AVal.v (Value.int IntKind.i64 (0)), AVal.v (Value.slice none 0 0)]) := by kernel_rfl
@[simp] theorem byT_89 : byT Try.prog 89 = 40 := by kernel_rfl
@[simp] theorem slT_48 : slT Try.prog 48 = some 87 := by kernel_rfl
@[simp] theorem slT_85 : slT Try.prog 85 = some 4 := by kernel_rfl
@[simp] theorem okT_4 : okT Try.prog 4 = true := by kernel_rfl
@[simp] theorem szT_4 : szT Try.prog 4 = 1 := by kernel_rfl
@[simp] theorem agT_4 : agT Try.prog 4 = false := by kernel_rfl
@[simp] theorem zrT_4 : zrT Try.prog 4 = some (AVal.v (Value.bool false)) := by kernel_rfl
@[simp] theorem byT_4 : byT Try.prog 4 = 1 := by kernel_rfl
@[simp] theorem okT_87 : okT Try.prog 87 = true := by kernel_rfl
@[simp] theorem szT_87 : szT Try.prog 87 = 4 := by kernel_rfl
@[simp] theorem agT_87 : agT Try.prog 87 = true := by kernel_rfl
@[simp] theorem okT_2 : okT Try.prog 2 = true := by kernel_rfl
@[simp] theorem szT_2 : szT Try.prog 2 = 1 := by kernel_rfl
@[simp] theorem agT_2 : agT Try.prog 2 = false := by kernel_rfl
@[simp] theorem slT_78 : slT Try.prog 78 = some 2 := by kernel_rfl
@[simp] theorem zrT_2 : zrT Try.prog 2 = some (AVal.v (Value.int IntKind.i64 (0))) := by kernel_rfl
@[simp] theorem byT_2 : byT Try.prog 2 = 8 := by kernel_rfl
@[simp] theorem plT_89 : plT Try.prog 89 = some [(0, 1), (1, 1), (2, 1)] := by kernel_rfl
@[simp] theorem zrT_87 : zrT Try.prog 87 = some (AVal.agg [AVal.v (Value.int IntKind.i64 (0)), AVal.v (Value.int IntKind.i64 (0)), AVal.v (Value.int IntKind.i64 (0)), AVal.v (Value.int IntKind.i64 (0))]) := by kernel_rfl
@[simp] theorem okT_78 : okT Try.prog 78 = true := by kernel_rfl
@[simp] theorem szT_78 : szT Try.prog 78 = 1 := by kernel_rfl
@[simp] theorem agT_78 : agT Try.prog 78 = false := by kernel_rfl
@[simp] theorem byT_87 : byT Try.prog 87 = 32 := by kernel_rfl
@[simp] theorem okT_91 : okT Try.prog 91 = true := by kernel_rfl
@[simp] theorem szT_91 : szT Try.prog 91 = 4 := by kernel_rfl
@[simp] theorem agT_91 : agT Try.prog 91 = true := by kernel_rfl
@[simp] theorem zokT_89 : zokT Try.prog 89 = true := by kernel_rfl
@[simp] theorem zokT_2 : zokT Try.prog 2 = true := by kernel_rfl
@[simp] theorem fdT_87_0 : fdT Try.prog 87 0 = some (0, 2) := by kernel_rfl
@[simp] theorem fdT_87_3 : fdT Try.prog 87 3 = some (3, 2) := by kernel_rfl
@[simp] theorem fdT_89_1 : fdT Try.prog 89 1 = some (1, 2) := by kernel_rfl
@[simp] theorem fdT_89_2 : fdT Try.prog 89 2 = some (2, 78) := by kernel_rfl
@[simp] theorem fdT_87_1 : fdT Try.prog 87 1 = some (1, 2) := by kernel_rfl
@[simp] theorem fdT_87_2 : fdT Try.prog 87 2 = some (2, 2) := by kernel_rfl
@[simp] theorem fdT_89_0 : fdT Try.prog 89 0 = some (0, 2) := by kernel_rfl
@[simp] theorem fdT_91_0 : fdT Try.prog 91 0 = some (0, 2) := by kernel_rfl
@[simp] theorem fdT_91_1 : fdT Try.prog 91 1 = some (1, 2) := by kernel_rfl
@[simp] theorem fdT_91_2 : fdT Try.prog 91 2 = some (2, 2) := by kernel_rfl
@[simp] theorem fdT_91_3 : fdT Try.prog 91 3 = some (3, 2) := by kernel_rfl
/- laws.FnExactBlocksOf; J13: g0 w0 aCode _42 -/
def D_laws_FnExactBlocksOf (a0 : AVal) (h : AHeap) (Q : KA) : Prop :=
 @clM Try.prog 23 [a0, (i64 1048576)] h ⟨fun x1 h1 =>
 binM Try.prog .lss 3 x1 (i64 0) h1 fun x2 h2 =>
 gdM x2
 (retW tt h2 Q)
 (@clM Try.prog 25 [a0] h2 ⟨fun x3 h3 =>
 @clM Try.prog 24 [x3] h3 ⟨fun x4 h4 =>
 @clM Try.prog 25 [a0] h4 ⟨fun x5 h5 =>
 @clM Try.prog 26 [x5] h5 ⟨fun x6 h6 =>
 @clM Try.prog 27 [x6, x4] h6 ⟨fun x7 h7 =>
 unM .not x7 h7 fun x8 h8 =>
 gdM x8
 (retW ff h8 Q)
 (@clM Try.prog 25 [a0] h8 ⟨fun x9 h9 =>
 @clM Try.prog 28 [x5, x9] h9 ⟨fun x10 h10 =>
 unM .not x10 h10 fun x11 h11 =>
 gdM x11
 (retW ff h11 Q)
 (@clM Try.prog 29 [x5, (i64 1)] h11 ⟨fun x12 h12 =>
 @jnM ⟨fun J13 =>
 binM Try.prog .lss 3 x12 (i64 0) h12 fun x14 h14 =>
 gdM x14
 (@wkM [x6, x4, a0, tt] h14 ⟨J13⟩)
 (@clM Try.prog 27 [x6, x4] h14 ⟨fun x15 h15 =>
 unM .not x15 h15 fun x16 h16 =>
 @wkM [x6, x4, a0, x16] h16 ⟨J13⟩⟩)⟩
 ⟨fun s13 h13 =>
 gdM (nthA s13 3)
 (retW ff h13 Q)
 (@clM Try.prog 30 [(nthA s13 0), (i64 1)] h13 ⟨fun x17 h17 =>
 @clM Try.prog 31 [(nthA s13 0), (i64 1)] h17 ⟨fun x18 h18 =>
 binM Try.prog .lss 3 x18 (i64 0) h18 fun x19 h19 =>
 gdM x19
 (retW ff h19 Q)
 (binM Try.prog .neq 3 x18 x17 h19 fun x20 h20 =>
 gdM x20
 (retW ff h20 Q)
 (@clM Try.prog 25 [(nthA s13 2)] h20 ⟨fun x21 h21 =>
 @clM Try.prog 26 [x21] h21 ⟨fun x22 h22 =>
 @clM Try.prog 27 [x22, (nthA s13 1)] h22 ⟨fun x23 h23 =>
 unM .not x23 h23 fun x24 h24 =>
 gdM x24
 (retW ff h24 Q)
 (@clM Try.prog 31 [(nthA s13 0), (i64 1)] h24 ⟨fun x25 h25 =>
 binM Try.prog .lss 3 x25 (i64 0) h25 fun x26 h26 =>
 gdM x26
 (retW ff h26 Q)
 (binM Try.prog .neq 3 x25 x17 h26 fun x27 h27 =>
 gdM x27
 (retW ff h27 Q)
 (retW tt h27 Q))⟩)⟩⟩⟩))⟩⟩)⟩⟩)⟩⟩)⟩⟩⟩⟩⟩)⟩
theorem D_laws_FnExactBlocksOf_eq (a0 : AVal) (h : AHeap) (Q : KA) : adFn Try.prog ⟨fun _ => ⟨[], [], .nil⟩, fun i => bif Nat.beq i 15 then some [6, 4, 0, 42] else none, fun _ => [], []⟩ Try.f8 [a0] h Q = D_laws_FnExactBlocksOf a0 h Q := by kernel_rfl
theorem D_laws_FnExactBlocksOf_of {a0 : AVal} {h : AHeap} {Q : KA} (hd : D_laws_FnExactBlocksOf a0 h Q) : callM Try.prog 8 [a0] h Q := callM_of (fn := Try.f8) Try.func8 (Nat.le_of_ble_eq_true (by kernel_rfl)) ((D_laws_FnExactBlocksOf_eq a0 h Q).symm ▸ hd)
theorem fn_laws_FnExactBlocksOf : fnT Try.prog 8 = true := by kernel_rfl
/- laws.szInstrS -/
def D_laws_szInstrS (a0 a1 : AVal) (h : AHeap) (Q : KA) : Prop :=
 lenM Try.prog 44 a0 h fun x1 h1 =>
 binM Try.prog .sub 3 a1 x1 h1 fun x2 h2 =>
 binM Try.prog .lss 3 x2 (i64 0) h2 fun x3 h3 =>
 gdM x3
 (retW (i64 (-1)) h3 Q)
 (retW x2 h3 Q)
theorem D_laws_szInstrS_eq (a0 a1 : AVal) (h : AHeap) (Q : KA) : adFn Try.prog ⟨fun _ => ⟨[], [], .nil⟩, fun _ => none, fun _ => [], []⟩ Try.f23 [a0, a1] h Q = D_laws_szInstrS a0 a1 h Q := by kernel_rfl
theorem D_laws_szInstrS_of {a0 a1 : AVal} {h : AHeap} {Q : KA} (hd : D_laws_szInstrS a0 a1 h Q) : callM Try.prog 23 [a0, a1] h Q := callM_of (fn := Try.f23) Try.func23 (Nat.le_of_ble_eq_true (by kernel_rfl)) ((D_laws_szInstrS_eq a0 a1 h Q).symm ▸ hd)
theorem fn_laws_szInstrS : fnT Try.prog 23 = true := by kernel_rfl
/- spec.BlocksOf; J9: out n code lead i; J22: out n code lead i _55; J12: out n code lead i; J11: out n code lead i; J36: out number n code i lead; J38: out number n code lead i; J54: out b number n code; J66: out number n code b next x _122; J87: out number n code b next x _153; J86: out number n code b next; J65: out number n code b next x -/
def or_spec_BlocksOf_29 : DR := ⟨[0, 1, 2, 4, 8, 24, 40, 72, 128, 384, 640, 128, 128, 4224, 10368, 16512, 33920, 65672, 131080], [0, 1, 3, 7, 15, 31, 63, 127, 255, 511, 1023, 255, 255, 4351, 14591, 30975, 65535, 131071, 262143], (.one 0 (.one 1 (.one 2 (.one 3 (.one 4 (.one 5 (.one 6 (.one 7 (.one 8 (.one 9 (.one 10 (.one 11 (.one 12 (.one 13 (.one 14 (.one 15 (.one 16 (.one 17 (.one 18 .nil)))))))))))))))))))⟩
@[simp] theorem dr_spec_BlocksOf_29 : drawnOK Try.prog (regOps Try.f24 29) or_spec_BlocksOf_29 = True := eq_true ⟨by kernel_rfl, by kernel_rfl⟩
def D_spec_BlocksOf (a0 : AVal) (h : AHeap) (Q : KA) : Prop :=
 buildSliceM Try.prog 46 0 [] h fun x1 h1 =>
 @clM Try.prog 49 [a0] h1 ⟨fun x2 h2 =>
 unM .not x2 h2 fun x3 h3 =>
 gdM x3
 (retW x1 h3 Q)
 (lenM Try.prog 48 a0 h3 fun x4 h4 =>
 binM Try.prog .add 2 x4 (i64 1) h4 fun x5 h5 =>
 makeM Try.prog 85 x5 x5 h5 fun x6 h6 =>
 ixAddrM Try.prog 85 x6 (i64 0) h6 fun x7 h7 =>
 storeM Try.prog 4 x7 tt h7 fun x8 h8 =>
 @lpM [x1, x4, a0, x6, (i64 0)] h8 ⟨fun s9 h9 J9 =>
 binM Try.prog .lss 2 (nthA s9 4) (nthA s9 1) h9 fun x10 h10 =>
 gdM x10
 (@jnM ⟨fun J11 =>
 @jnM ⟨fun J12 =>
 ixAddrM Try.prog 48 (nthA s9 2) (nthA s9 4) h10 fun x13 h13 =>
 fldAddrM Try.prog 87 x13 0 h13 fun x14 h14 =>
 loadM Try.prog 2 x14 h14 fun x15 h15 =>
 @clM Try.prog 50 [x15] h15 ⟨fun x16 h16 =>
 gdM x16
 (ixAddrM Try.prog 48 (nthA s9 2) (nthA s9 4) h16 fun x17 h17 =>
 fldAddrM Try.prog 87 x17 3 h17 fun x18 h18 =>
 loadM Try.prog 2 x18 h18 fun x19 h19 =>
 ixAddrM Try.prog 85 (nthA s9 3) x19 h19 fun x20 h20 =>
 storeM Try.prog 4 x20 tt h20 fun x21 h21 =>
 @wkM [(nthA s9 0), (nthA s9 1), (nthA s9 2), (nthA s9 3), (nthA s9 4)] h21 ⟨J12⟩)
 (@wkM [(nthA s9 0), (nthA s9 1), (nthA s9 2), (nthA s9 3), (nthA s9 4)] h16 ⟨J12⟩)⟩⟩
 ⟨fun s12 h12 =>
 @jnM ⟨fun J22 =>
 ixAddrM Try.prog 48 (nthA s12 2) (nthA s12 4) h12 fun x23 h23 =>
 fldAddrM Try.prog 87 x23 0 h23 fun x24 h24 =>
 loadM Try.prog 2 x24 h24 fun x25 h25 =>
 @clM Try.prog 50 [x25] h25 ⟨fun x26 h26 =>
 gdM x26
 (@wkM [(nthA s12 0), (nthA s12 1), (nthA s12 2), (nthA s12 3), (nthA s12 4), tt] h26 ⟨J22⟩)
 (ixAddrM Try.prog 48 (nthA s12 2) (nthA s12 4) h26 fun x27 h27 =>
 fldAddrM Try.prog 87 x27 0 h27 fun x28 h28 =>
 loadM Try.prog 2 x28 h28 fun x29 h29 =>
 binM Try.prog .eql 2 x29 (i64 29) h29 fun x30 h30 =>
 @wkM [(nthA s12 0), (nthA s12 1), (nthA s12 2), (nthA s12 3), (nthA s12 4), x30] h30 ⟨J22⟩)⟩⟩
 ⟨fun s22 h22 =>
 gdM (nthA s22 5)
 (binM Try.prog .add 2 (nthA s22 4) (i64 1) h22 fun x31 h31 =>
 ixAddrM Try.prog 85 (nthA s22 3) x31 h31 fun x32 h32 =>
 storeM Try.prog 4 x32 tt h32 fun x33 h33 =>
 @wkM [(nthA s22 0), (nthA s22 1), (nthA s22 2), (nthA s22 3), (nthA s22 4)] h33 ⟨J11⟩)
 (@wkM [(nthA s22 0), (nthA s22 1), (nthA s22 2), (nthA s22 3), (nthA s22 4)] h22 ⟨J11⟩)⟩⟩⟩
 ⟨fun s11 h11 =>
 binM Try.prog .add 2 (nthA s11 4) (i64 1) h11 fun x34 h34 =>
 @wkM [(nthA s11 0), (nthA s11 1), (nthA s11 2), (nthA s11 3), x34] h34 ⟨J9⟩⟩)
 (makeM Try.prog 78 (nthA s9 1) (nthA s9 1) h10 fun x35 h35 =>
 @lpM [(nthA s9 0), x35, (nthA s9 1), (nthA s9 2), (i64 0), (nthA s9 3)] h35 ⟨fun s36 h36 J36 =>
 binM Try.prog .lss 2 (nthA s36 4) (nthA s36 2) h36 fun x37 h37 =>
 gdM x37
 (@jnM ⟨fun J38 =>
 ixAddrM Try.prog 85 (nthA s36 5) (nthA s36 4) h37 fun x39 h39 =>
 loadM Try.prog 4 x39 h39 fun x40 h40 =>
 gdM x40
 (buildM Try.prog 89 [(0, (nthA s36 4))] h40 fun x41 h41 =>
 buildSliceM Try.prog 46 1 [(0, x41)] h41 fun x42 h42 =>
 appendM Try.prog 46 46 (nthA s36 0) x42 h42 fun x43 h43 =>
 @wkM [x43, (nthA s36 1), (nthA s36 2), (nthA s36 3), (nthA s36 5), (nthA s36 4)] h43 ⟨J38⟩)
 (@wkM [(nthA s36 0), (nthA s36 1), (nthA s36 2), (nthA s36 3), (nthA s36 5), (nthA s36 4)] h40 ⟨J38⟩)⟩
 ⟨fun s38 h38 =>
 lenM Try.prog 46 (nthA s38 0) h38 fun x44 h44 =>
 binM Try.prog .sub 2 x44 (i64 1) h44 fun x45 h45 =>
 ixAddrM Try.prog 78 (nthA s38 1) (nthA s38 5) h45 fun x46 h46 =>
 storeM Try.prog 2 x46 x45 h46 fun x47 h47 =>
 ixAddrM Try.prog 78 (nthA s38 1) (nthA s38 5) h47 fun x48 h48 =>
 loadM Try.prog 2 x48 h48 fun x49 h49 =>
 ixAddrM Try.prog 46 (nthA s38 0) x49 h49 fun x50 h50 =>
 fldAddrM Try.prog 89 x50 1 h50 fun x51 h51 =>
 storeM Try.prog 2 x51 (nthA s38 5) h51 fun x52 h52 =>
 binM Try.prog .add 2 (nthA s38 5) (i64 1) h52 fun x53 h53 =>
 @wkM [(nthA s38 0), (nthA s38 1), (nthA s38 2), (nthA s38 3), x53, (nthA s38 4)] h53 ⟨J36⟩⟩)
 (@lpM [(nthA s36 0), (i64 0), (nthA s36 1), (nthA s36 2), (nthA s36 3)] h37 ⟨fun s54 h54 J54 =>
 lenM Try.prog 46 (nthA s54 0) h54 fun x55 h55 =>
 binM Try.prog .lss 3 (nthA s54 1) x55 h55 fun x56 h56 =>
 gdM x56
 (ixAddrM Try.prog 46 (nthA s54 0) (nthA s54 1) h56 fun x57 h57 =>
 fldAddrM Try.prog 89 x57 1 h57 fun x58 h58 =>
 loadM Try.prog 2 x58 h58 fun x59 h59 =>
 ixAddrM Try.prog 48 (nthA s54 4) x59 h59 fun x60 h60 =>
 loadM Try.prog 87 x60 h60 fun x61 h61 =>
 allocM Try.prog 87 h61 fun x62 h62 =>
 storeM Try.prog 87 x62 x61 h62 fun x63 h63 =>
 buildSliceM Try.prog 78 0 [] h63 fun x64 h64 =>
 @jnM ⟨fun J65 =>
 @jnM ⟨fun J66 =>
 fldAddrM Try.prog 87 x62 0 h64 fun x67 h67 =>
 loadM Try.prog 2 x67 h67 fun x68 h68 =>
 binM Try.prog .neq 2 x68 (i64 25) h68 fun x69 h69 =>
 gdM x69
 (fldAddrM Try.prog 87 x62 0 h69 fun x70 h70 =>
 loadM Try.prog 2 x70 h70 fun x71 h71 =>
 binM Try.prog .neq 2 x71 (i64 29) h71 fun x72 h72 =>
 gdM x72
 (ixAddrM Try.prog 46 (nthA s54 0) (nthA s54 1) h72 fun x73 h73 =>
 fldAddrM Try.prog 89 x73 1 h73 fun x74 h74 =>
 loadM Try.prog 2 x74 h74 fun x75 h75 =>
 binM Try.prog .add 2 x75 (i64 1) h75 fun x76 h76 =>
 binM Try.prog .lss 2 x76 (nthA s54 3) h76 fun x77 h77 =>
 @wkM [(nthA s54 0), (nthA s54 2), (nthA s54 3), (nthA s54 4), (nthA s54 1), x64, x62, x77] h77 ⟨J66⟩)
 (@wkM [(nthA s54 0), (nthA s54 2), (nthA s54 3), (nthA s54 4), (nthA s54 1), x64, x62, ff] h72 ⟨J66⟩))
 (@wkM [(nthA s54 0), (nthA s54 2), (nthA s54 3), (nthA s54 4), (nthA s54 1), x64, x62, ff] h69 ⟨J66⟩)⟩
 ⟨fun s66 h66 =>
 gdM (nthA s66 7)
 (ixAddrM Try.prog 46 (nthA s66 0) (nthA s66 4) h66 fun x78 h78 =>
 fldAddrM Try.prog 89 x78 1 h78 fun x79 h79 =>
 loadM Try.prog 2 x79 h79 fun x80 h80 =>
 binM Try.prog .add 2 x80 (i64 1) h80 fun x81 h81 =>
 ixAddrM Try.prog 78 (nthA s66 1) x81 h81 fun x82 h82 =>
 loadM Try.prog 2 x82 h82 fun x83 h83 =>
 buildSliceM Try.prog 78 1 [(0, x83)] h83 fun x84 h84 =>
 appendM Try.prog 78 78 (nthA s66 5) x84 h84 fun x85 h85 =>
 @wkM [(nthA s66 0), (nthA s66 1), (nthA s66 2), (nthA s66 3), (nthA s66 4), x85, (nthA s66 6)] h85 ⟨J65⟩)
 (@wkM [(nthA s66 0), (nthA s66 1), (nthA s66 2), (nthA s66 3), (nthA s66 4), (nthA s66 5), (nthA s66 6)] h66 ⟨J65⟩)⟩⟩
 ⟨fun s65 h65 =>
 @jnM ⟨fun J86 =>
 @jnM ⟨fun J87 =>
 And (drawnOK Try.prog (regOps Try.f24 29) or_spec_BlocksOf_29) (fldAddrM Try.prog 87 (nthA s65 6) 0 h65 fun x88 h88 =>
 loadM Try.prog 2 x88 h88 fun x89 h89 =>
 @clM Try.prog 50 [x89] h89 ⟨fun x90 h90 =>
 gdM x90
 (lenM Try.prog 78 (nthA s65 5) h90 fun x91 h91 =>
 binM Try.prog .eql 3 x91 (i64 0) h91 fun x92 h92 =>
 gdM x92
 (@wkM [(nthA s65 0), (nthA s65 1), (nthA s65 2), (nthA s65 3), (nthA s65 4), (nthA s65 5), (nthA s65 6), tt] h92 ⟨J87⟩)
 (ixAddrM Try.prog 78 (nthA s65 5) (i64 0) h92 fun x93 h93 =>
 loadM Try.prog 2 x93 h93 fun x94 h94 =>
 fldAddrM Try.prog 87 (nthA s65 6) 3 h94 fun x95 h95 =>
 loadM Try.prog 2 x95 h95 fun x96 h96 =>
 ixAddrM Try.prog 78 (nthA s65 1) x96 h96 fun x97 h97 =>
 loadM Try.prog 2 x97 h97 fun x98 h98 =>
 binM Try.prog .neq 2 x94 x98 h98 fun x99 h99 =>
 @wkM [(nthA s65 0), (nthA s65 1), (nthA s65 2), (nthA s65 3), (nthA s65 4), (nthA s65 5), (nthA s65 6), x99] h99 ⟨J87⟩))
 (@wkM [(nthA s65 0), (nthA s65 1), (nthA s65 2), (nthA s65 3), (nthA s65 4), (nthA s65 5), (nthA s65 6), ff] h90 ⟨J87⟩)⟩)⟩
 ⟨fun s87 h87 =>
 gdM (nthA s87 7)
 (fldAddrM Try.prog 87 (nthA s87 6) 3 h87 fun x100 h100 =>
 loadM Try.prog 2 x100 h100 fun x101 h101 =>
 ixAddrM Try.prog 78 (nthA s87 1) x101 h101 fun x102 h102 =>
 loadM Try.prog 2 x102 h102 fun x103 h103 =>
 buildSliceM Try.prog 78 1 [(0, x103)] h103 fun x104 h104 =>
 appendM Try.prog 78 78 (nthA s87 5) x104 h104 fun x105 h105 =>
 @wkM [(nthA s87 0), (nthA s87 1), (nthA s87 2), (nthA s87 3), (nthA s87 4), x105] h105 ⟨J86⟩)
 (@wkM [(nthA s87 0), (nthA s87 1), (nthA s87 2), (nthA s87 3), (nthA s87 4), (nthA s87 5)] h87 ⟨J86⟩)⟩⟩
 ⟨fun s86 h86 =>
 ixAddrM Try.prog 46 (nthA s86 0) (nthA s86 4) h86 fun x106 h106 =>
 fldAddrM Try.prog 89 x106 2 h106 fun x107 h107 =>
 storeM Try.prog 78 x107 (nthA s86 5) h107 fun x108 h108 =>
 binM Try.prog .add 3 (nthA s86 4) (i64 1) h108 fun x109 h109 =>
 @wkM [(nthA s86 0), x109, (nthA s86 1), (nthA s86 2), (nthA s86 3)] h109 ⟨J54⟩⟩⟩)
 (retW (nthA s54 0) h56 Q)⟩)⟩)⟩)⟩
theorem D_spec_BlocksOf_eq (a0 : AVal) (h : AHeap) (Q : KA) : adFn Try.prog ⟨fun i => bif Nat.beq i 29 then or_spec_BlocksOf_29 else ⟨[], [], .nil⟩, fun i => bif Nat.beq i 9 then some [3, 4, 0, 5, 6] else bif Nat.beq i 12 then some [3, 4, 0, 5, 6] else bif Nat.beq i 13 then some [3, 4, 0, 5, 6, 55] else bif Nat.beq i 20 then some [3, 7, 4, 0, 5, 8] else bif Nat.beq i 28 then some [3, 7, 4, 0, 9, 11, 10, 122] else bif Nat.beq i 29 then some [3, 7, 4, 0, 9, 11, 10] else bif Nat.beq i 30 then some [3, 7, 4, 0, 9, 11, 10, 153] else bif Nat.beq i 31 then some [3, 7, 4, 0, 9, 11] else none, fun i => bif Nat.beq i 8 then [3, 4, 0, 5, 6] else bif Nat.beq i 16 then [3, 7, 4, 0, 8, 5] else bif Nat.beq i 23 then [3, 9, 7, 4, 0] else [], []⟩ Try.f24 [a0] h Q = D_spec_BlocksOf a0 h Q := by kernel_rfl
theorem D_spec_BlocksOf_of {a0 : AVal} {h : AHeap} {Q : KA} (hd : D_spec_BlocksOf a0 h Q) : callM Try.prog 24 [a0] h Q := callM_of (fn := Try.f24) Try.func24 (Nat.le_of_ble_eq_true (by kernel_rfl)) ((D_spec_BlocksOf_eq a0 h Q).symm ▸ hd)
theorem fn_spec_BlocksOf : fnT Try.prog 24 = true := by kernel_rfl
/- laws.toInstrS; J3: out i a -/
def D_laws_toInstrS (a0 : AVal) (h : AHeap) (Q : KA) : Prop :=
 lenM Try.prog 44 a0 h fun x1 h1 =>
 makeM Try.prog 48 x1 x1 h1 fun x2 h2 =>
 @lpM [x2, (i64 0), a0] h2 ⟨fun s3 h3 J3 =>
 lenM Try.prog 44 (nthA s3 2) h3 fun x4 h4 =>
 binM Try.prog .lss 3 (nthA s3 1) x4 h4 fun x5 h5 =>
 gdM x5
 (ixAddrM Try.prog 44 (nthA s3 2) (nthA s3 1) h5 fun x6 h6 =>
 loadM Try.prog 91 x6 h6 fun x7 h7 =>
 @clM Try.prog 51 [x7] h7 ⟨fun x8 h8 =>
 ixAddrM Try.prog 48 (nthA s3 0) (nthA s3 1) h8 fun x9 h9 =>
 storeM Try.prog 87 x9 x8 h9 fun x10 h10 =>
 binM Try.prog .add 3 (nthA s3 1) (i64 1) h10 fun x11 h11 =>
 @wkM [(nthA s3 0), x11, (nthA s3 2)] h11 ⟨J3⟩⟩)
 (retW (nthA s3 0) h5 Q)⟩
theorem D_laws_toInstrS_eq (a0 : AVal) (h : AHeap) (Q : KA) : adFn Try.prog ⟨fun _ => ⟨[], [], .nil⟩, fun _ => none, fun i => bif Nat.beq i 3 then [3, 4, 0] else [], []⟩ Try.f25 [a0] h Q = D_laws_toInstrS a0 h Q := by kernel_rfl
theorem D_laws_toInstrS_of {a0 : AVal} {h : AHeap} {Q : KA} (hd : D_laws_toInstrS a0 h Q) : callM Try.prog 25 [a0] h Q := callM_of (fn := Try.f25) Try.func25 (Nat.le_of_ble_eq_true (by kernel_rfl)) ((D_laws_toInstrS_eq a0 h Q).symm ▸ hd)
theorem fn_laws_toInstrS : fnT Try.prog 25 = true := by kernel_rfl
/- impl.BlocksOf; J10: code leader n _27 _26; J26: code leader n _26 _27 i _56; J14: code leader n _26 _27 i in; J12: code leader n _26 _27; J38: out at code i leader n; J40: out at code leader n i; J57: out _94 at code _93; J65: out at code _93 _94 last i _122; J86: out at code _93 _94 last i _163; J64: out at code _93 _94 last i; J59: out at code _93 _94; J2: code n _19 -/
def or_impl_BlocksOf_32 : DR := ⟨[0, 1, 2, 4, 4, 28, 36, 68, 132, 260, 516, 1024, 1024, 7168, 9216, 17408, 33792, 66560, 1024, 1024, 525312, 1049600, 2098176, 4457472, 8389632, 16909312, 33555460, 67108868], [0, 1, 3, 7, 7, 31, 63, 127, 255, 511, 1023, 2047, 2047, 8191, 16383, 32767, 65535, 131071, 2047, 2047, 526335, 1574911, 3672063, 8128511, 16517119, 33554431, 67108863, 134217727], (.one 0 (.one 1 (.one 2 (.one 3 (.one 4 (.one 5 (.one 6 (.one 7 (.one 8 (.one 9 (.one 10 (.one 11 (.one 12 (.one 13 (.one 14 (.one 15 (.one 16 (.one 17 (.one 18 (.one 19 (.one 20 (.one 21 (.one 22 (.one 23 (.one 24 (.one 25 (.one 26 (.one 27 .nil))))))))))))))))))))))))))))⟩
@[simp] theorem dr_impl_BlocksOf_32 : drawnOK Try.prog (regOps Try.f26 32) or_impl_BlocksOf_32 = True := eq_true ⟨by kernel_rfl, by kernel_rfl⟩
def or_impl_BlocksOf_33 : DR := ⟨[0, 0, 0, 0, 12, 16, 32, 0, 0, 256, 512, 1024, 2176, 4096, 8192, 16448, 65535, 131071, 196607], [0, 0, 0, 0, 12, 28, 60, 0, 0, 256, 768, 1792, 3968, 8064, 16256, 32764, 65535, 131071, 262143], (.one 0 (.one 1 (.one 2 (.one 3 (.one 4 (.one 5 (.one 6 (.one 7 (.one 8 (.one 9 (.one 10 (.one 11 (.one 12 (.one 13 (.one 14 (.one 15 (.one 16 (.one 17 (.one 18 .nil)))))))))))))))))))⟩
@[simp] theorem dr_impl_BlocksOf_33 : drawnOK Try.prog (regOps Try.f26 33) or_impl_BlocksOf_33 = True := eq_true ⟨by kernel_rfl, by kernel_rfl⟩
def D_impl_BlocksOf (a0 : AVal) (h : AHeap) (Q : KA) : Prop :=
 lenM Try.prog 48 a0 h fun x1 h1 =>
 @jnM ⟨fun J2 =>
 binM Try.prog .lss 3 x1 (i64 1) h1 fun x3 h3 =>
 gdM x3
 (@wkM [a0, x1, tt] h3 ⟨J2⟩)
 (binM Try.prog .gtr 3 x1 (i64 1024) h3 fun x4 h4 =>
 @wkM [a0, x1, x4] h4 ⟨J2⟩)⟩
 ⟨fun s2 h2 =>
 gdM (nthA s2 2)
 (retW nilS h2 Q)
 (binM Try.prog .add 3 (nthA s2 1) (i64 1) h2 fun x5 h5 =>
 makeM Try.prog 85 x5 x5 h5 fun x6 h6 =>
 ixAddrM Try.prog 85 x6 (i64 0) h6 fun x7 h7 =>
 storeM Try.prog 4 x7 tt h7 fun x8 h8 =>
 lenM Try.prog 48 (nthA s2 0) h8 fun x9 h9 =>
 @lpM [(nthA s2 0), x6, (nthA s2 1), (i64 0), x9] h9 ⟨fun s10 h10 J10 =>
 binM Try.prog .lss 3 (nthA s10 3) (nthA s10 4) h10 fun x11 h11 =>
 gdM x11
 (@jnM ⟨fun J12 =>
 ixAddrM Try.prog 48 (nthA s10 0) (nthA s10 3) h11 fun x13 h13 =>
 @jnM ⟨fun J14 =>
 @clM Try.prog 52 [x13] h13 ⟨fun x15 h15 =>
 gdM x15
 (nilChkM x13 h15 fun x16 h16 =>
 fldAddrM Try.prog 87 x16 3 h16 fun x17 h17 =>
 loadM Try.prog 2 x17 h17 fun x18 h18 =>
 @clM Try.prog 53 [x18, (nthA s10 2)] h18 ⟨fun x19 h19 =>
 unM .not x19 h19 fun x20 h20 =>
 gdM x20
 (retW nilS h20 Q)
 (nilChkM x13 h20 fun x21 h21 =>
 fldAddrM Try.prog 87 x21 3 h21 fun x22 h22 =>
 loadM Try.prog 2 x22 h22 fun x23 h23 =>
 ixAddrM Try.prog 85 (nthA s10 1) x23 h23 fun x24 h24 =>
 storeM Try.prog 4 x24 tt h24 fun x25 h25 =>
 @wkM [(nthA s10 0), (nthA s10 1), (nthA s10 2), (nthA s10 4), (nthA s10 3), (nthA s10 3), x13] h25 ⟨J14⟩)⟩)
 (@wkM [(nthA s10 0), (nthA s10 1), (nthA s10 2), (nthA s10 4), (nthA s10 3), (nthA s10 3), x13] h15 ⟨J14⟩)⟩⟩
 ⟨fun s14 h14 =>
 @jnM ⟨fun J26 =>
 @clM Try.prog 52 [(nthA s14 6)] h14 ⟨fun x27 h27 =>
 gdM x27
 (@wkM [(nthA s14 0), (nthA s14 1), (nthA s14 2), (nthA s14 3), (nthA s14 4), (nthA s14 5), tt] h27 ⟨J26⟩)
 (nilChkM (nthA s14 6) h27 fun x28 h28 =>
 fldAddrM Try.prog 87 x28 0 h28 fun x29 h29 =>
 loadM Try.prog 2 x29 h29 fun x30 h30 =>
 binM Try.prog .eql 2 x30 (i64 29) h30 fun x31 h31 =>
 @wkM [(nthA s14 0), (nthA s14 1), (nthA s14 2), (nthA s14 3), (nthA s14 4), (nthA s14 5), x31] h31 ⟨J26⟩)⟩⟩
 ⟨fun s26 h26 =>
 gdM (nthA s26 6)
 (binM Try.prog .add 3 (nthA s26 5) (i64 1) h26 fun x32 h32 =>
 ixAddrM Try.prog 85 (nthA s26 1) x32 h32 fun x33 h33 =>
 storeM Try.prog 4 x33 tt h33 fun x34 h34 =>
 @wkM [(nthA s26 0), (nthA s26 1), (nthA s26 2), (nthA s26 3), (nthA s26 4)] h34 ⟨J12⟩)
 (@wkM [(nthA s26 0), (nthA s26 1), (nthA s26 2), (nthA s26 3), (nthA s26 4)] h26 ⟨J12⟩)⟩⟩⟩
 ⟨fun s12 h12 =>
 binM Try.prog .add 3 (nthA s12 4) (i64 1) h12 fun x35 h35 =>
 @wkM [(nthA s12 0), (nthA s12 1), (nthA s12 2), x35, (nthA s12 3)] h35 ⟨J10⟩⟩)
 (buildSliceM Try.prog 46 0 [] h11 fun x36 h36 =>
 makeM Try.prog 78 (nthA s10 2) (nthA s10 2) h36 fun x37 h37 =>
 @lpM [x36, x37, (nthA s10 0), (i64 0), (nthA s10 1), (nthA s10 2)] h37 ⟨fun s38 h38 J38 =>
 binM Try.prog .lss 3 (nthA s38 3) (nthA s38 5) h38 fun x39 h39 =>
 gdM x39
 (@jnM ⟨fun J40 =>
 ixAddrM Try.prog 85 (nthA s38 4) (nthA s38 3) h39 fun x41 h41 =>
 loadM Try.prog 4 x41 h41 fun x42 h42 =>
 gdM x42
 (buildM Try.prog 89 [(0, (nthA s38 3))] h42 fun x43 h43 =>
 buildSliceM Try.prog 46 1 [(0, x43)] h43 fun x44 h44 =>
 appendM Try.prog 46 46 (nthA s38 0) x44 h44 fun x45 h45 =>
 @wkM [x45, (nthA s38 1), (nthA s38 2), (nthA s38 4), (nthA s38 5), (nthA s38 3)] h45 ⟨J40⟩)
 (@wkM [(nthA s38 0), (nthA s38 1), (nthA s38 2), (nthA s38 4), (nthA s38 5), (nthA s38 3)] h42 ⟨J40⟩)⟩
 ⟨fun s40 h40 =>
 lenM Try.prog 46 (nthA s40 0) h40 fun x46 h46 =>
 binM Try.prog .sub 3 x46 (i64 1) h46 fun x47 h47 =>
 ixAddrM Try.prog 78 (nthA s40 1) (nthA s40 5) h47 fun x48 h48 =>
 storeM Try.prog 2 x48 x47 h48 fun x49 h49 =>
 lenM Try.prog 46 (nthA s40 0) h49 fun x50 h50 =>
 binM Try.prog .sub 3 x50 (i64 1) h50 fun x51 h51 =>
 ixAddrM Try.prog 46 (nthA s40 0) x51 h51 fun x52 h52 =>
 fldAddrM Try.prog 89 x52 1 h52 fun x53 h53 =>
 storeM Try.prog 2 x53 (nthA s40 5) h53 fun x54 h54 =>
 binM Try.prog .add 3 (nthA s40 5) (i64 1) h54 fun x55 h55 =>
 @wkM [(nthA s40 0), (nthA s40 1), (nthA s40 2), x55, (nthA s40 3), (nthA s40 4)] h55 ⟨J38⟩⟩)
 (lenM Try.prog 46 (nthA s38 0) h39 fun x56 h56 =>
 @lpM [(nthA s38 0), (i64 0), (nthA s38 1), (nthA s38 2), x56] h56 ⟨fun s57 h57 J57 =>
 binM Try.prog .lss 3 (nthA s57 1) (nthA s57 4) h57 fun x58 h58 =>
 gdM x58
 (@jnM ⟨fun J59 =>
 ixAddrM Try.prog 46 (nthA s57 0) (nthA s57 1) h58 fun x60 h60 =>
 fldAddrM Try.prog 89 x60 1 h60 fun x61 h61 =>
 loadM Try.prog 2 x61 h61 fun x62 h62 =>
 ixAddrM Try.prog 48 (nthA s57 3) x62 h62 fun x63 h63 =>
 @jnM ⟨fun J64 =>
 @jnM ⟨fun J65 =>
 nilChkM x63 h63 fun x66 h66 =>
 fldAddrM Try.prog 87 x66 0 h66 fun x67 h67 =>
 loadM Try.prog 2 x67 h67 fun x68 h68 =>
 binM Try.prog .neq 2 x68 (i64 25) h68 fun x69 h69 =>
 gdM x69
 (nilChkM x63 h69 fun x70 h70 =>
 fldAddrM Try.prog 87 x70 0 h70 fun x71 h71 =>
 loadM Try.prog 2 x71 h71 fun x72 h72 =>
 binM Try.prog .neq 2 x72 (i64 29) h72 fun x73 h73 =>
 gdM x73
 (binM Try.prog .add 3 (nthA s57 1) (i64 1) h73 fun x74 h74 =>
 lenM Try.prog 46 (nthA s57 0) h74 fun x75 h75 =>
 binM Try.prog .lss 3 x74 x75 h75 fun x76 h76 =>
 @wkM [(nthA s57 0), (nthA s57 2), (nthA s57 3), (nthA s57 4), (nthA s57 1), x63, (nthA s57 1), x76] h76 ⟨J65⟩)
 (@wkM [(nthA s57 0), (nthA s57 2), (nthA s57 3), (nthA s57 4), (nthA s57 1), x63, (nthA s57 1), ff] h73 ⟨J65⟩))
 (@wkM [(nthA s57 0), (nthA s57 2), (nthA s57 3), (nthA s57 4), (nthA s57 1), x63, (nthA s57 1), ff] h69 ⟨J65⟩)⟩
 ⟨fun s65 h65 =>
 gdM (nthA s65 7)
 (ixAddrM Try.prog 46 (nthA s65 0) (nthA s65 6) h65 fun x77 h77 =>
 fldAddrM Try.prog 89 x77 2 h77 fun x78 h78 =>
 loadM Try.prog 78 x78 h78 fun x79 h79 =>
 binM Try.prog .add 3 (nthA s65 6) (i64 1) h79 fun x80 h80 =>
 buildSliceM Try.prog 78 1 [(0, x80)] h80 fun x81 h81 =>
 appendM Try.prog 78 78 x79 x81 h81 fun x82 h82 =>
 ixAddrM Try.prog 46 (nthA s65 0) (nthA s65 6) h82 fun x83 h83 =>
 fldAddrM Try.prog 89 x83 2 h83 fun x84 h84 =>
 storeM Try.prog 78 x84 x82 h84 fun x85 h85 =>
 @wkM [(nthA s65 0), (nthA s65 1), (nthA s65 2), (nthA s65 3), (nthA s65 4), (nthA s65 5), (nthA s65 6)] h85 ⟨J64⟩)
 (@wkM [(nthA s65 0), (nthA s65 1), (nthA s65 2), (nthA s65 3), (nthA s65 4), (nthA s65 5), (nthA s65 6)] h65 ⟨J64⟩)⟩⟩
 ⟨fun s64 h64 =>
 @jnM ⟨fun J86 =>
 And (drawnOK Try.prog (regOps Try.f26 32) or_impl_BlocksOf_32) (@clM Try.prog 52 [(nthA s64 5)] h64 ⟨fun x87 h87 =>
 gdM x87
 (ixAddrM Try.prog 46 (nthA s64 0) (nthA s64 6) h87 fun x88 h88 =>
 fldAddrM Try.prog 89 x88 2 h88 fun x89 h89 =>
 loadM Try.prog 78 x89 h89 fun x90 h90 =>
 lenM Try.prog 78 x90 h90 fun x91 h91 =>
 binM Try.prog .eql 3 x91 (i64 0) h91 fun x92 h92 =>
 gdM x92
 (@wkM [(nthA s64 0), (nthA s64 1), (nthA s64 2), (nthA s64 3), (nthA s64 4), (nthA s64 5), (nthA s64 6), tt] h92 ⟨J86⟩)
 (ixAddrM Try.prog 46 (nthA s64 0) (nthA s64 6) h92 fun x93 h93 =>
 fldAddrM Try.prog 89 x93 2 h93 fun x94 h94 =>
 loadM Try.prog 78 x94 h94 fun x95 h95 =>
 ixAddrM Try.prog 78 x95 (i64 0) h95 fun x96 h96 =>
 loadM Try.prog 2 x96 h96 fun x97 h97 =>
 nilChkM (nthA s64 5) h97 fun x98 h98 =>
 fldAddrM Try.prog 87 x98 3 h98 fun x99 h99 =>
 loadM Try.prog 2 x99 h99 fun x100 h100 =>
 ixAddrM Try.prog 78 (nthA s64 1) x100 h100 fun x101 h101 =>
 loadM Try.prog 2 x101 h101 fun x102 h102 =>
 binM Try.prog .neq 2 x97 x102 h102 fun x103 h103 =>
 @wkM [(nthA s64 0), (nthA s64 1), (nthA s64 2), (nthA s64 3), (nthA s64 4), (nthA s64 5), (nthA s64 6), x103] h103 ⟨J86⟩))
 (@wkM [(nthA s64 0), (nthA s64 1), (nthA s64 2), (nthA s64 3), (nthA s64 4), (nthA s64 5), (nthA s64 6), ff] h87 ⟨J86⟩)⟩)⟩
 ⟨fun s86 h86 =>
 gdM (nthA s86 7)
 (And (drawnOK Try.prog (regOps Try.f26 33) or_impl_BlocksOf_33) (ixAddrM Try.prog 46 (nthA s86 0) (nthA s86 6) h86 fun x104 h104 =>
 fldAddrM Try.prog 89 x104 2 h104 fun x105 h105 =>
 loadM Try.prog 78 x105 h105 fun x106 h106 =>
 nilChkM (nthA s86 5) h106 fun x107 h107 =>
 fldAddrM Try.prog 87 x107 3 h107 fun x108 h108 =>
 loadM Try.prog 2 x108 h108 fun x109 h109 =>
 ixAddrM Try.prog 78 (nthA s86 1) x109 h109 fun x110 h110 =>
 loadM Try.prog 2 x110 h110 fun x111 h111 =>
 buildSliceM Try.prog 78 1 [(0, x111)] h111 fun x112 h112 =>
 appendM Try.prog 78 78 x106 x112 h112 fun x113 h113 =>
 ixAddrM Try.prog 46 (nthA s86 0) (nthA s86 6) h113 fun x114 h114 =>
 fldAddrM Try.prog 89 x114 2 h114 fun x115 h115 =>
 storeM Try.prog 78 x115 x113 h115 fun x116 h116 =>
 @wkM [(nthA s86 0), (nthA s86 1), (nthA s86 2), (nthA s86 3), (nthA s86 4)] h116 ⟨J59⟩))
 (@wkM [(nthA s86 0), (nthA s86 1), (nthA s86 2), (nthA s86 3), (nthA s86 4)] h86 ⟨J59⟩)⟩⟩⟩
 ⟨fun s59 h59 =>
 binM Try.prog .add 3 (nthA s59 4) (i64 1) h59 fun x117 h117 =>
 @wkM [(nthA s59 0), x117, (nthA s59 1), (nthA s59 2), (nthA s59 3)] h117 ⟨J57⟩⟩)
 (retW (nthA s57 0) h58 Q)⟩)⟩)⟩)⟩
theorem D_impl_BlocksOf_eq (a0 : AVal) (h : AHeap) (Q : KA) : adFn Try.prog ⟨fun i => bif Nat.beq i 32 then or_impl_BlocksOf_32 else bif Nat.beq i 33 then or_impl_BlocksOf_33 else ⟨[], [], .nil⟩, fun i => bif Nat.beq i 3 then some [0, 3, 19] else bif Nat.beq i 14 then some [0, 4, 3, 26, 27, 5, 6] else bif Nat.beq i 15 then some [0, 4, 3, 26, 27, 5, 56] else bif Nat.beq i 16 then some [0, 4, 3, 26, 27] else bif Nat.beq i 24 then some [7, 8, 0, 4, 3, 9] else bif Nat.beq i 31 then some [7, 8, 0, 93, 94, 11, 10, 122] else bif Nat.beq i 32 then some [7, 8, 0, 93, 94, 11, 10] else bif Nat.beq i 33 then some [7, 8, 0, 93, 94, 11, 10, 163] else bif Nat.beq i 34 then some [7, 8, 0, 93, 94] else none, fun i => bif Nat.beq i 7 then [0, 4, 3, 27, 26] else bif Nat.beq i 20 then [7, 8, 0, 9, 4, 3] else bif Nat.beq i 27 then [7, 94, 8, 0, 93] else [], []⟩ Try.f26 [a0] h Q = D_impl_BlocksOf a0 h Q := by kernel_rfl
theorem D_impl_BlocksOf_of {a0 : AVal} {h : AHeap} {Q : KA} (hd : D_impl_BlocksOf a0 h Q) : callM Try.prog 26 [a0] h Q := callM_of (fn := Try.f26) Try.func26 (Nat.le_of_ble_eq_true (by kernel_rfl)) ((D_impl_BlocksOf_eq a0 h Q).symm ▸ hd)
theorem fn_impl_BlocksOf : fnT Try.prog 26 = true := by kernel_rfl
/- laws.eqBlockS; J4: i b a -/
def or_laws_eqBlockS_6 : DR := ⟨[0, 0, 3, 4, 0, 0, 48, 64, 136, 256], [0, 0, 3, 7, 0, 0, 48, 112, 255, 511], (.one 0 (.one 1 (.one 2 (.one 3 (.one 4 (.one 5 (.one 6 (.one 7 (.one 8 (.one 9 .nil))))))))))⟩
@[simp] theorem dr_laws_eqBlockS_6 : drawnOK Try.prog (regOps Try.f27 6) or_laws_eqBlockS_6 = True := eq_true ⟨by kernel_rfl, by kernel_rfl⟩
def D_laws_eqBlockS (a0 a1 : AVal) (h : AHeap) (Q : KA) : Prop :=
 lenM Try.prog 46 a0 h fun x1 h1 =>
 lenM Try.prog 46 a1 h1 fun x2 h2 =>
 binM Try.prog .neq 3 x1 x2 h2 fun x3 h3 =>
 gdM x3
 (retW ff h3 Q)
 (@lpM [(i64 0), a1, a0] h3 ⟨fun s4 h4 J4 =>
 lenM Try.prog 46 (nthA s4 2) h4 fun x5 h5 =>
 binM Try.prog .lss 3 (nthA s4 0) x5 h5 fun x6 h6 =>
 gdM x6
 (And (drawnOK Try.prog (regOps Try.f27 6) or_laws_eqBlockS_6) (ixAddrM Try.prog 46 (nthA s4 2) (nthA s4 0) h6 fun x7 h7 =>
 loadM Try.prog 89 x7 h7 fun x8 h8 =>
 ixAddrM Try.prog 46 (nthA s4 1) (nthA s4 0) h8 fun x9 h9 =>
 loadM Try.prog 89 x9 h9 fun x10 h10 =>
 @clM Try.prog 54 [x8, x10] h10 ⟨fun x11 h11 =>
 unM .not x11 h11 fun x12 h12 =>
 gdM x12
 (retW ff h12 Q)
 (binM Try.prog .add 3 (nthA s4 0) (i64 1) h12 fun x13 h13 =>
 @wkM [x13, (nthA s4 1), (nthA s4 2)] h13 ⟨J4⟩)⟩))
 (retW tt h6 Q)⟩)
theorem D_laws_eqBlockS_eq (a0 a1 : AVal) (h : AHeap) (Q : KA) : adFn Try.prog ⟨fun i => bif Nat.beq i 6 then or_laws_eqBlockS_6 else ⟨[], [], .nil⟩, fun _ => none, fun i => bif Nat.beq i 4 then [5, 1, 0] else [], []⟩ Try.f27 [a0, a1] h Q = D_laws_eqBlockS a0 a1 h Q := by kernel_rfl
theorem D_laws_eqBlockS_of {a0 a1 : AVal} {h : AHeap} {Q : KA} (hd : D_laws_eqBlockS a0 a1 h Q) : callM Try.prog 27 [a0, a1] h Q := callM_of (fn := Try.f27) Try.func27 (Nat.le_of_ble_eq_true (by kernel_rfl)) ((D_laws_eqBlockS_eq a0 a1 h Q).symm ▸ hd)
theorem fn_laws_eqBlockS : fnT Try.prog 27 = true := by kernel_rfl
/- laws.eqInstrS; J4: i b a -/
def or_laws_eqInstrS_6 : DR := ⟨[0, 0, 3, 4, 0, 0, 48, 64, 136, 256], [0, 0, 3, 7, 0, 0, 48, 112, 255, 511], (.one 0 (.one 1 (.one 2 (.one 3 (.one 4 (.one 5 (.one 6 (.one 7 (.one 8 (.one 9 .nil))))))))))⟩
@[simp] theorem dr_laws_eqInstrS_6 : drawnOK Try.prog (regOps Try.f28 6) or_laws_eqInstrS_6 = True := eq_true ⟨by kernel_rfl, by kernel_rfl⟩
def D_laws_eqInstrS (a0 a1 : AVal) (h : AHeap) (Q : KA) : Prop :=
 lenM Try.prog 48 a0 h fun x1 h1 =>
 lenM Try.prog 48 a1 h1 fun x2 h2 =>
 binM Try.prog .neq 3 x1 x2 h2 fun x3 h3 =>
 gdM x3
 (retW ff h3 Q)
 (@lpM [(i64 0), a1, a0] h3 ⟨fun s4 h4 J4 =>
 lenM Try.prog 48 (nthA s4 2) h4 fun x5 h5 =>
 binM Try.prog .lss 3 (nthA s4 0) x5 h5 fun x6 h6 =>
 gdM x6
 (And (drawnOK Try.prog (regOps Try.f28 6) or_laws_eqInstrS_6) (ixAddrM Try.prog 48 (nthA s4 2) (nthA s4 0) h6 fun x7 h7 =>
 loadM Try.prog 87 x7 h7 fun x8 h8 =>
 ixAddrM Try.prog 48 (nthA s4 1) (nthA s4 0) h8 fun x9 h9 =>
 loadM Try.prog 87 x9 h9 fun x10 h10 =>
 @clM Try.prog 55 [x8, x10] h10 ⟨fun x11 h11 =>
 unM .not x11 h11 fun x12 h12 =>
 gdM x12
 (retW ff h12 Q)
 (binM Try.prog .add 3 (nthA s4 0) (i64 1) h12 fun x13 h13 =>
 @wkM [x13, (nthA s4 1), (nthA s4 2)] h13 ⟨J4⟩)⟩))
 (retW tt h6 Q)⟩)
theorem D_laws_eqInstrS_eq (a0 a1 : AVal) (h : AHeap) (Q : KA) : adFn Try.prog ⟨fun i => bif Nat.beq i 6 then or_laws_eqInstrS_6 else ⟨[], [], .nil⟩, fun _ => none, fun i => bif Nat.beq i 4 then [5, 1, 0] else [], []⟩ Try.f28 [a0, a1] h Q = D_laws_eqInstrS a0 a1 h Q := by kernel_rfl
theorem D_laws_eqInstrS_of {a0 a1 : AVal} {h : AHeap} {Q : KA} (hd : D_laws_eqInstrS a0 a1 h Q) : callM Try.prog 28 [a0, a1] h Q := callM_of (fn := Try.f28) Try.func28 (Nat.le_of_ble_eq_true (by kernel_rfl)) ((D_laws_eqInstrS_eq a0 a1 h Q).symm ▸ hd)
theorem fn_laws_eqInstrS : fnT Try.prog 28 = true := by kernel_rfl
/- laws.markInstrS; J1: k i a -/
def D_laws_markInstrS (a0 a1 : AVal) (h : AHeap) (Q : KA) : Prop :=
 @lpM [a1, (i64 0), a0] h ⟨fun s1 h1 J1 =>
 lenM Try.prog 48 (nthA s1 2) h1 fun x2 h2 =>
 binM Try.prog .lss 3 (nthA s1 1) x2 h2 fun x3 h3 =>
 gdM x3
 (ixAddrM Try.prog 48 (nthA s1 2) (nthA s1 1) h3 fun x4 h4 =>
 fldAddrM Try.prog 87 x4 0 h4 fun x5 h5 =>
 storeM Try.prog 2 x5 (nthA s1 0) h5 fun x6 h6 =>
 binM Try.prog .add 3 (nthA s1 0) (i64 1) h6 fun x7 h7 =>
 ixAddrM Try.prog 48 (nthA s1 2) (nthA s1 1) h7 fun x8 h8 =>
 fldAddrM Try.prog 87 x8 1 h8 fun x9 h9 =>
 storeM Try.prog 2 x9 x7 h9 fun x10 h10 =>
 binM Try.prog .add 3 x7 (i64 1) h10 fun x11 h11 =>
 ixAddrM Try.prog 48 (nthA s1 2) (nthA s1 1) h11 fun x12 h12 =>
 fldAddrM Try.prog 87 x12 2 h12 fun x13 h13 =>
 storeM Try.prog 2 x13 x11 h13 fun x14 h14 =>
 binM Try.prog .add 3 x11 (i64 1) h14 fun x15 h15 =>
 ixAddrM Try.prog 48 (nthA s1 2) (nthA s1 1) h15 fun x16 h16 =>
 fldAddrM Try.prog 87 x16 3 h16 fun x17 h17 =>
 storeM Try.prog 2 x17 x15 h17 fun x18 h18 =>
 binM Try.prog .add 3 x15 (i64 1) h18 fun x19 h19 =>
 binM Try.prog .add 3 (nthA s1 1) (i64 1) h19 fun x20 h20 =>
 @wkM [x19, x20, (nthA s1 2)] h20 ⟨J1⟩)
 (retW (nthA s1 0) h3 Q)⟩
theorem D_laws_markInstrS_eq (a0 a1 : AVal) (h : AHeap) (Q : KA) : adFn Try.prog ⟨fun _ => ⟨[], [], .nil⟩, fun _ => none, fun i => bif Nat.beq i 2 then [1, 5, 0] else [], []⟩ Try.f29 [a0, a1] h Q = D_laws_markInstrS a0 a1 h Q := by kernel_rfl
theorem D_laws_markInstrS_of {a0 a1 : AVal} {h : AHeap} {Q : KA} (hd : D_laws_markInstrS a0 a1 h Q) : callM Try.prog 29 [a0, a1] h Q := callM_of (fn := Try.f29) Try.func29 (Nat.le_of_ble_eq_true (by kernel_rfl)) ((D_laws_markInstrS_eq a0 a1 h Q).symm ▸ hd)
theorem fn_laws_markInstrS : fnT Try.prog 29 = true := by kernel_rfl
/- laws.markBlockS; J1: k i a -/
def D_laws_markBlockS (a0 a1 : AVal) (h : AHeap) (Q : KA) : Prop :=
 @lpM [a1, (i64 0), a0] h ⟨fun s1 h1 J1 =>
 lenM Try.prog 46 (nthA s1 2) h1 fun x2 h2 =>
 binM Try.prog .lss 3 (nthA s1 1) x2 h2 fun x3 h3 =>
 gdM x3
 (ixAddrM Try.prog 46 (nthA s1 2) (nthA s1 1) h3 fun x4 h4 =>
 fldAddrM Try.prog 89 x4 0 h4 fun x5 h5 =>
 storeM Try.prog 2 x5 (nthA s1 0) h5 fun x6 h6 =>
 binM Try.prog .add 3 (nthA s1 0) (i64 1) h6 fun x7 h7 =>
 ixAddrM Try.prog 46 (nthA s1 2) (nthA s1 1) h7 fun x8 h8 =>
 fldAddrM Try.prog 89 x8 1 h8 fun x9 h9 =>
 storeM Try.prog 2 x9 x7 h9 fun x10 h10 =>
 binM Try.prog .add 3 x7 (i64 1) h10 fun x11 h11 =>
 ixAddrM Try.prog 46 (nthA s1 2) (nthA s1 1) h11 fun x12 h12 =>
 fldAddrM Try.prog 89 x12 2 h12 fun x13 h13 =>
 loadM Try.prog 78 x13 h13 fun x14 h14 =>
 @clM Try.prog 56 [x14, x11] h14 ⟨fun x15 h15 =>
 binM Try.prog .add 3 (nthA s1 1) (i64 1) h15 fun x16 h16 =>
 @wkM [x15, x16, (nthA s1 2)] h16 ⟨J1⟩⟩)
 (retW (nthA s1 0) h3 Q)⟩
theorem D_laws_markBlockS_eq (a0 a1 : AVal) (h : AHeap) (Q : KA) : adFn Try.prog ⟨fun _ => ⟨[], [], .nil⟩, fun _ => none, fun i => bif Nat.beq i 2 then [1, 5, 0] else [], []⟩ Try.f30 [a0, a1] h Q = D_laws_markBlockS a0 a1 h Q := by kernel_rfl
theorem D_laws_markBlockS_of {a0 a1 : AVal} {h : AHeap} {Q : KA} (hd : D_laws_markBlockS a0 a1 h Q) : callM Try.prog 30 [a0, a1] h Q := callM_of (fn := Try.f30) Try.func30 (Nat.le_of_ble_eq_true (by kernel_rfl)) ((D_laws_markBlockS_eq a0 a1 h Q).symm ▸ hd)
theorem fn_laws_markBlockS : fnT Try.prog 30 = true := by kernel_rfl
/- laws.heldBlockS; J1: k i a -/
def D_laws_heldBlockS (a0 a1 : AVal) (h : AHeap) (Q : KA) : Prop :=
 @lpM [a1, (i64 0), a0] h ⟨fun s1 h1 J1 =>
 lenM Try.prog 46 (nthA s1 2) h1 fun x2 h2 =>
 binM Try.prog .lss 3 (nthA s1 1) x2 h2 fun x3 h3 =>
 gdM x3
 (ixAddrM Try.prog 46 (nthA s1 2) (nthA s1 1) h3 fun x4 h4 =>
 fldAddrM Try.prog 89 x4 0 h4 fun x5 h5 =>
 loadM Try.prog 2 x5 h5 fun x6 h6 =>
 binM Try.prog .neq 2 x6 (nthA s1 0) h6 fun x7 h7 =>
 gdM x7
 (retW (i64 (-1)) h7 Q)
 (binM Try.prog .add 3 (nthA s1 0) (i64 1) h7 fun x8 h8 =>
 ixAddrM Try.prog 46 (nthA s1 2) (nthA s1 1) h8 fun x9 h9 =>
 fldAddrM Try.prog 89 x9 1 h9 fun x10 h10 =>
 loadM Try.prog 2 x10 h10 fun x11 h11 =>
 binM Try.prog .neq 2 x11 x8 h11 fun x12 h12 =>
 gdM x12
 (retW (i64 (-1)) h12 Q)
 (binM Try.prog .add 3 x8 (i64 1) h12 fun x13 h13 =>
 ixAddrM Try.prog 46 (nthA s1 2) (nthA s1 1) h13 fun x14 h14 =>
 fldAddrM Try.prog 89 x14 2 h14 fun x15 h15 =>
 loadM Try.prog 78 x15 h15 fun x16 h16 =>
 @clM Try.prog 57 [x16, x13] h16 ⟨fun x17 h17 =>
 binM Try.prog .lss 3 x17 (i64 0) h17 fun x18 h18 =>
 gdM x18
 (retW (i64 (-1)) h18 Q)
 (binM Try.prog .add 3 (nthA s1 1) (i64 1) h18 fun x19 h19 =>
 @wkM [x17, x19, (nthA s1 2)] h19 ⟨J1⟩)⟩)))
 (retW (nthA s1 0) h3 Q)⟩
theorem D_laws_heldBlockS_eq (a0 a1 : AVal) (h : AHeap) (Q : KA) : adFn Try.prog ⟨fun _ => ⟨[], [], .nil⟩, fun _ => none, fun i => bif Nat.beq i 2 then [1, 5, 0] else [], []⟩ Try.f31 [a0, a1] h Q = D_laws_heldBlockS a0 a1 h Q := by kernel_rfl
theorem D_laws_heldBlockS_of {a0 a1 : AVal} {h : AHeap} {Q : KA} (hd : D_laws_heldBlockS a0 a1 h Q) : callM Try.prog 31 [a0, a1] h Q := callM_of (fn := Try.f31) Try.func31 (Nat.le_of_ble_eq_true (by kernel_rfl)) ((D_laws_heldBlockS_eq a0 a1 h Q).symm ▸ hd)
theorem fn_laws_heldBlockS : fnT Try.prog 31 = true := by kernel_rfl
/- spec.l5Good; J5: i n code; J7: n code i _40; J2: n code _12 -/
def D_spec_l5Good (a0 : AVal) (h : AHeap) (Q : KA) : Prop :=
 lenM Try.prog 48 a0 h fun x1 h1 =>
 @jnM ⟨fun J2 =>
 binM Try.prog .lss 2 x1 (i64 1) h1 fun x3 h3 =>
 gdM x3
 (@wkM [x1, a0, tt] h3 ⟨J2⟩)
 (binM Try.prog .gtr 2 x1 (i64 1024) h3 fun x4 h4 =>
 @wkM [x1, a0, x4] h4 ⟨J2⟩)⟩
 ⟨fun s2 h2 =>
 gdM (nthA s2 2)
 (retW ff h2 Q)
 (@lpM [(i64 0), (nthA s2 0), (nthA s2 1)] h2 ⟨fun s5 h5 J5 =>
 binM Try.prog .lss 2 (nthA s5 0) (nthA s5 1) h5 fun x6 h6 =>
 gdM x6
 (@jnM ⟨fun J7 =>
 ixAddrM Try.prog 48 (nthA s5 2) (nthA s5 0) h6 fun x8 h8 =>
 fldAddrM Try.prog 87 x8 0 h8 fun x9 h9 =>
 loadM Try.prog 2 x9 h9 fun x10 h10 =>
 @clM Try.prog 50 [x10] h10 ⟨fun x11 h11 =>
 gdM x11
 (ixAddrM Try.prog 48 (nthA s5 2) (nthA s5 0) h11 fun x12 h12 =>
 fldAddrM Try.prog 87 x12 3 h12 fun x13 h13 =>
 loadM Try.prog 2 x13 h13 fun x14 h14 =>
 binM Try.prog .lss 2 x14 (i64 0) h14 fun x15 h15 =>
 gdM x15
 (@wkM [(nthA s5 1), (nthA s5 2), (nthA s5 0), tt] h15 ⟨J7⟩)
 (ixAddrM Try.prog 48 (nthA s5 2) (nthA s5 0) h15 fun x16 h16 =>
 fldAddrM Try.prog 87 x16 3 h16 fun x17 h17 =>
 loadM Try.prog 2 x17 h17 fun x18 h18 =>
 binM Try.prog .geq 2 x18 (nthA s5 1) h18 fun x19 h19 =>
 @wkM [(nthA s5 1), (nthA s5 2), (nthA s5 0), x19] h19 ⟨J7⟩))
 (@wkM [(nthA s5 1), (nthA s5 2), (nthA s5 0), ff] h11 ⟨J7⟩)⟩⟩
 ⟨fun s7 h7 =>
 gdM (nthA s7 3)
 (retW ff h7 Q)
 (binM Try.prog .add 2 (nthA s7 2) (i64 1) h7 fun x20 h20 =>
 @wkM [x20, (nthA s7 0), (nthA s7 1)] h20 ⟨J5⟩)⟩)
 (retW tt h6 Q)⟩)⟩
theorem D_spec_l5Good_eq (a0 : AVal) (h : AHeap) (Q : KA) : adFn Try.prog ⟨fun _ => ⟨[], [], .nil⟩, fun i => bif Nat.beq i 3 then some [3, 0, 12] else bif Nat.beq i 8 then some [3, 0, 4, 40] else none, fun i => bif Nat.beq i 5 then [4, 3, 0] else [], []⟩ Try.f49 [a0] h Q = D_spec_l5Good a0 h Q := by kernel_rfl
theorem D_spec_l5Good_of {a0 : AVal} {h : AHeap} {Q : KA} (hd : D_spec_l5Good a0 h Q) : callM Try.prog 49 [a0] h Q := callM_of (fn := Try.f49) Try.func49 (Nat.le_of_ble_eq_true (by kernel_rfl)) ((D_spec_l5Good_eq a0 h Q).symm ▸ hd)
theorem fn_spec_l5Good : fnT Try.prog 49 = true := by kernel_rfl
/- spec.l5Goes; J1: _2 -/
def D_spec_l5Goes (a0 : AVal) (h : AHeap) (Q : KA) : Prop :=
 @jnM ⟨fun J1 =>
 binM Try.prog .eql 2 a0 (i64 25) h fun x2 h2 =>
 gdM x2
 (@wkM [tt] h2 ⟨J1⟩)
 (binM Try.prog .eql 2 a0 (i64 26) h2 fun x3 h3 =>
 gdM x3
 (@wkM [tt] h3 ⟨J1⟩)
 (binM Try.prog .eql 2 a0 (i64 27) h3 fun x4 h4 =>
 @wkM [x4] h4 ⟨J1⟩))⟩
 ⟨fun s1 h1 =>
 retW (nthA s1 0) h1 Q⟩
theorem D_spec_l5Goes_eq (a0 : AVal) (h : AHeap) (Q : KA) : adFn Try.prog ⟨fun _ => ⟨[], [], .nil⟩, fun i => bif Nat.beq i 0 then some [2] else none, fun _ => [], []⟩ Try.f50 [a0] h Q = D_spec_l5Goes a0 h Q := by kernel_rfl
theorem D_spec_l5Goes_of {a0 : AVal} {h : AHeap} {Q : KA} (hd : D_spec_l5Goes a0 h Q) : callM Try.prog 50 [a0] h Q := callM_of (fn := Try.f50) Try.func50 (Nat.le_of_ble_eq_true (by kernel_rfl)) ((D_spec_l5Goes_eq a0 h Q).symm ▸ hd)
theorem fn_spec_l5Goes : fnT Try.prog 50 = true := by kernel_rfl
/- laws.toInstr -/
def D_laws_toInstr (a0 : AVal) (h : AHeap) (Q : KA) : Prop :=
 boxFM a0 h fun x1 h1 =>
 allocM Try.prog 87 h1 fun x2 h2 =>
 allocM Try.prog 87 h2 fun x3 h3 =>
 fldAddrM Try.prog 91 x1 0 h3 fun x4 h4 =>
 loadM Try.prog 2 x4 h4 fun x5 h5 =>
 fldAddrM Try.prog 87 x3 0 h5 fun x6 h6 =>
 storeM Try.prog 2 x6 x5 h6 fun x7 h7 =>
 fldAddrM Try.prog 91 x1 1 h7 fun x8 h8 =>
 loadM Try.prog 2 x8 h8 fun x9 h9 =>
 fldAddrM Try.prog 87 x3 1 h9 fun x10 h10 =>
 storeM Try.prog 2 x10 x9 h10 fun x11 h11 =>
 fldAddrM Try.prog 91 x1 2 h11 fun x12 h12 =>
 loadM Try.prog 2 x12 h12 fun x13 h13 =>
 fldAddrM Try.prog 87 x3 2 h13 fun x14 h14 =>
 storeM Try.prog 2 x14 x13 h14 fun x15 h15 =>
 fldAddrM Try.prog 91 x1 3 h15 fun x16 h16 =>
 loadM Try.prog 2 x16 h16 fun x17 h17 =>
 fldAddrM Try.prog 87 x3 3 h17 fun x18 h18 =>
 storeM Try.prog 2 x18 x17 h18 fun x19 h19 =>
 loadM Try.prog 87 x3 h19 fun x20 h20 =>
 storeM Try.prog 87 x2 x20 h20 fun x21 h21 =>
 loadM Try.prog 87 x2 h21 fun x22 h22 =>
 retW x22 h22 Q
theorem D_laws_toInstr_eq (a0 : AVal) (h : AHeap) (Q : KA) : adFn Try.prog ⟨fun _ => ⟨[], [], .nil⟩, fun _ => none, fun _ => [], [1]⟩ Try.f51 [a0] h Q = D_laws_toInstr a0 h Q := by kernel_rfl
theorem D_laws_toInstr_of {a0 : AVal} {h : AHeap} {Q : KA} (hd : D_laws_toInstr a0 h Q) : callM Try.prog 51 [a0] h Q := callM_of (fn := Try.f51) Try.func51 (Nat.le_of_ble_eq_true (by kernel_rfl)) ((D_laws_toInstr_eq a0 h Q).symm ▸ hd)
theorem fn_laws_toInstr : fnT Try.prog 51 = true := by kernel_rfl
/- impl.names; J1: _2 -/
def D_impl_names (a0 : AVal) (h : AHeap) (Q : KA) : Prop :=
 @jnM ⟨fun J1 =>
 nilChkM a0 h fun x2 h2 =>
 fldAddrM Try.prog 87 x2 0 h2 fun x3 h3 =>
 loadM Try.prog 2 x3 h3 fun x4 h4 =>
 binM Try.prog .eql 2 x4 (i64 25) h4 fun x5 h5 =>
 gdM x5
 (@wkM [tt] h5 ⟨J1⟩)
 (nilChkM a0 h5 fun x6 h6 =>
 fldAddrM Try.prog 87 x6 0 h6 fun x7 h7 =>
 loadM Try.prog 2 x7 h7 fun x8 h8 =>
 binM Try.prog .eql 2 x8 (i64 26) h8 fun x9 h9 =>
 gdM x9
 (@wkM [tt] h9 ⟨J1⟩)
 (nilChkM a0 h9 fun x10 h10 =>
 fldAddrM Try.prog 87 x10 0 h10 fun x11 h11 =>
 loadM Try.prog 2 x11 h11 fun x12 h12 =>
 binM Try.prog .eql 2 x12 (i64 27) h12 fun x13 h13 =>
 @wkM [x13] h13 ⟨J1⟩))⟩
 ⟨fun s1 h1 =>
 retW (nthA s1 0) h1 Q⟩
theorem D_impl_names_eq (a0 : AVal) (h : AHeap) (Q : KA) : adFn Try.prog ⟨fun _ => ⟨[], [], .nil⟩, fun i => bif Nat.beq i 0 then some [2] else none, fun _ => [], []⟩ Try.f52 [a0] h Q = D_impl_names a0 h Q := by kernel_rfl
theorem D_impl_names_of {a0 : AVal} {h : AHeap} {Q : KA} (hd : D_impl_names a0 h Q) : callM Try.prog 52 [a0] h Q := callM_of (fn := Try.f52) Try.func52 (Nat.le_of_ble_eq_true (by kernel_rfl)) ((D_impl_names_eq a0 h Q).symm ▸ hd)
theorem fn_impl_names : fnT Try.prog 52 = true := by kernel_rfl
/- impl.below; J1: _4 -/
def D_impl_below (a0 a1 : AVal) (h : AHeap) (Q : KA) : Prop :=
 @jnM ⟨fun J1 =>
 binM Try.prog .geq 2 a0 (i64 0) h fun x2 h2 =>
 gdM x2
 (binM Try.prog .lss 2 a0 a1 h2 fun x3 h3 =>
 @wkM [x3] h3 ⟨J1⟩)
 (@wkM [ff] h2 ⟨J1⟩)⟩
 ⟨fun s1 h1 =>
 retW (nthA s1 0) h1 Q⟩
theorem D_impl_below_eq (a0 a1 : AVal) (h : AHeap) (Q : KA) : adFn Try.prog ⟨fun _ => ⟨[], [], .nil⟩, fun i => bif Nat.beq i 0 then some [4] else none, fun _ => [], []⟩ Try.f53 [a0, a1] h Q = D_impl_below a0 a1 h Q := by kernel_rfl
theorem D_impl_below_of {a0 a1 : AVal} {h : AHeap} {Q : KA} (hd : D_impl_below a0 a1 h Q) : callM Try.prog 53 [a0, a1] h Q := callM_of (fn := Try.f53) Try.func53 (Nat.le_of_ble_eq_true (by kernel_rfl)) ((D_impl_below_eq a0 a1 h Q).symm ▸ hd)
theorem fn_impl_below : fnT Try.prog 53 = true := by kernel_rfl
/- laws.eqBlock -/
def D_laws_eqBlock (a0 a1 : AVal) (h : AHeap) (Q : KA) : Prop :=
 boxFM a0 h fun x1 h1 =>
 boxFM a1 h1 fun x2 h2 =>
 fldAddrM Try.prog 89 x1 0 h2 fun x3 h3 =>
 loadM Try.prog 2 x3 h3 fun x4 h4 =>
 fldAddrM Try.prog 89 x2 0 h4 fun x5 h5 =>
 loadM Try.prog 2 x5 h5 fun x6 h6 =>
 binM Try.prog .neq 2 x4 x6 h6 fun x7 h7 =>
 gdM x7
 (retW ff h7 Q)
 (fldAddrM Try.prog 89 x1 1 h7 fun x8 h8 =>
 loadM Try.prog 2 x8 h8 fun x9 h9 =>
 fldAddrM Try.prog 89 x2 1 h9 fun x10 h10 =>
 loadM Try.prog 2 x10 h10 fun x11 h11 =>
 binM Try.prog .neq 2 x9 x11 h11 fun x12 h12 =>
 gdM x12
 (retW ff h12 Q)
 (fldAddrM Try.prog 89 x1 2 h12 fun x13 h13 =>
 loadM Try.prog 78 x13 h13 fun x14 h14 =>
 fldAddrM Try.prog 89 x2 2 h14 fun x15 h15 =>
 loadM Try.prog 78 x15 h15 fun x16 h16 =>
 @clM Try.prog 78 [x14, x16] h16 ⟨fun x17 h17 =>
 unM .not x17 h17 fun x18 h18 =>
 gdM x18
 (retW ff h18 Q)
 (retW tt h18 Q)⟩))
theorem D_laws_eqBlock_eq (a0 a1 : AVal) (h : AHeap) (Q : KA) : adFn Try.prog ⟨fun _ => ⟨[], [], .nil⟩, fun _ => none, fun _ => [], [2, 3]⟩ Try.f54 [a0, a1] h Q = D_laws_eqBlock a0 a1 h Q := by kernel_rfl
theorem D_laws_eqBlock_of {a0 a1 : AVal} {h : AHeap} {Q : KA} (hd : D_laws_eqBlock a0 a1 h Q) : callM Try.prog 54 [a0, a1] h Q := callM_of (fn := Try.f54) Try.func54 (Nat.le_of_ble_eq_true (by kernel_rfl)) ((D_laws_eqBlock_eq a0 a1 h Q).symm ▸ hd)
theorem fn_laws_eqBlock : fnT Try.prog 54 = true := by kernel_rfl
/- laws.eqInstr -/
def D_laws_eqInstr (a0 a1 : AVal) (h : AHeap) (Q : KA) : Prop :=
 boxFM a0 h fun x1 h1 =>
 boxFM a1 h1 fun x2 h2 =>
 fldAddrM Try.prog 87 x1 0 h2 fun x3 h3 =>
 loadM Try.prog 2 x3 h3 fun x4 h4 =>
 fldAddrM Try.prog 87 x2 0 h4 fun x5 h5 =>
 loadM Try.prog 2 x5 h5 fun x6 h6 =>
 binM Try.prog .neq 2 x4 x6 h6 fun x7 h7 =>
 gdM x7
 (retW ff h7 Q)
 (fldAddrM Try.prog 87 x1 1 h7 fun x8 h8 =>
 loadM Try.prog 2 x8 h8 fun x9 h9 =>
 fldAddrM Try.prog 87 x2 1 h9 fun x10 h10 =>
 loadM Try.prog 2 x10 h10 fun x11 h11 =>
 binM Try.prog .neq 2 x9 x11 h11 fun x12 h12 =>
 gdM x12
 (retW ff h12 Q)
 (fldAddrM Try.prog 87 x1 2 h12 fun x13 h13 =>
 loadM Try.prog 2 x13 h13 fun x14 h14 =>
 fldAddrM Try.prog 87 x2 2 h14 fun x15 h15 =>
 loadM Try.prog 2 x15 h15 fun x16 h16 =>
 binM Try.prog .neq 2 x14 x16 h16 fun x17 h17 =>
 gdM x17
 (retW ff h17 Q)
 (fldAddrM Try.prog 87 x1 3 h17 fun x18 h18 =>
 loadM Try.prog 2 x18 h18 fun x19 h19 =>
 fldAddrM Try.prog 87 x2 3 h19 fun x20 h20 =>
 loadM Try.prog 2 x20 h20 fun x21 h21 =>
 binM Try.prog .neq 2 x19 x21 h21 fun x22 h22 =>
 gdM x22
 (retW ff h22 Q)
 (retW tt h22 Q))))
theorem D_laws_eqInstr_eq (a0 a1 : AVal) (h : AHeap) (Q : KA) : adFn Try.prog ⟨fun _ => ⟨[], [], .nil⟩, fun _ => none, fun _ => [], [2, 3]⟩ Try.f55 [a0, a1] h Q = D_laws_eqInstr a0 a1 h Q := by kernel_rfl
theorem D_laws_eqInstr_of {a0 a1 : AVal} {h : AHeap} {Q : KA} (hd : D_laws_eqInstr a0 a1 h Q) : callM Try.prog 55 [a0, a1] h Q := callM_of (fn := Try.f55) Try.func55 (Nat.le_of_ble_eq_true (by kernel_rfl)) ((D_laws_eqInstr_eq a0 a1 h Q).symm ▸ hd)
theorem fn_laws_eqInstr : fnT Try.prog 55 = true := by kernel_rfl
/- laws.markInt64S; J1: k i a -/
def D_laws_markInt64S (a0 a1 : AVal) (h : AHeap) (Q : KA) : Prop :=
 @lpM [a1, (i64 0), a0] h ⟨fun s1 h1 J1 =>
 lenM Try.prog 78 (nthA s1 2) h1 fun x2 h2 =>
 binM Try.prog .lss 3 (nthA s1 1) x2 h2 fun x3 h3 =>
 gdM x3
 (ixAddrM Try.prog 78 (nthA s1 2) (nthA s1 1) h3 fun x4 h4 =>
 storeM Try.prog 2 x4 (nthA s1 0) h4 fun x5 h5 =>
 binM Try.prog .add 3 (nthA s1 0) (i64 1) h5 fun x6 h6 =>
 binM Try.prog .add 3 (nthA s1 1) (i64 1) h6 fun x7 h7 =>
 @wkM [x6, x7, (nthA s1 2)] h7 ⟨J1⟩)
 (retW (nthA s1 0) h3 Q)⟩
theorem D_laws_markInt64S_eq (a0 a1 : AVal) (h : AHeap) (Q : KA) : adFn Try.prog ⟨fun _ => ⟨[], [], .nil⟩, fun _ => none, fun i => bif Nat.beq i 2 then [1, 5, 0] else [], []⟩ Try.f56 [a0, a1] h Q = D_laws_markInt64S a0 a1 h Q := by kernel_rfl
theorem D_laws_markInt64S_of {a0 a1 : AVal} {h : AHeap} {Q : KA} (hd : D_laws_markInt64S a0 a1 h Q) : callM Try.prog 56 [a0, a1] h Q := callM_of (fn := Try.f56) Try.func56 (Nat.le_of_ble_eq_true (by kernel_rfl)) ((D_laws_markInt64S_eq a0 a1 h Q).symm ▸ hd)
theorem fn_laws_markInt64S : fnT Try.prog 56 = true := by kernel_rfl
/- laws.heldInt64S; J1: k i a -/
def D_laws_heldInt64S (a0 a1 : AVal) (h : AHeap) (Q : KA) : Prop :=
 @lpM [a1, (i64 0), a0] h ⟨fun s1 h1 J1 =>
 lenM Try.prog 78 (nthA s1 2) h1 fun x2 h2 =>
 binM Try.prog .lss 3 (nthA s1 1) x2 h2 fun x3 h3 =>
 gdM x3
 (ixAddrM Try.prog 78 (nthA s1 2) (nthA s1 1) h3 fun x4 h4 =>
 loadM Try.prog 2 x4 h4 fun x5 h5 =>
 binM Try.prog .neq 2 x5 (nthA s1 0) h5 fun x6 h6 =>
 gdM x6
 (retW (i64 (-1)) h6 Q)
 (binM Try.prog .add 3 (nthA s1 0) (i64 1) h6 fun x7 h7 =>
 binM Try.prog .add 3 (nthA s1 1) (i64 1) h7 fun x8 h8 =>
 @wkM [x7, x8, (nthA s1 2)] h8 ⟨J1⟩))
 (retW (nthA s1 0) h3 Q)⟩
theorem D_laws_heldInt64S_eq (a0 a1 : AVal) (h : AHeap) (Q : KA) : adFn Try.prog ⟨fun _ => ⟨[], [], .nil⟩, fun _ => none, fun i => bif Nat.beq i 2 then [1, 5, 0] else [], []⟩ Try.f57 [a0, a1] h Q = D_laws_heldInt64S a0 a1 h Q := by kernel_rfl
theorem D_laws_heldInt64S_of {a0 a1 : AVal} {h : AHeap} {Q : KA} (hd : D_laws_heldInt64S a0 a1 h Q) : callM Try.prog 57 [a0, a1] h Q := callM_of (fn := Try.f57) Try.func57 (Nat.le_of_ble_eq_true (by kernel_rfl)) ((D_laws_heldInt64S_eq a0 a1 h Q).symm ▸ hd)
theorem fn_laws_heldInt64S : fnT Try.prog 57 = true := by kernel_rfl
/- laws.eqInt64S; J4: i b a -/
def or_laws_eqInt64S_6 : DR := ⟨[0, 0, 3, 4, 0, 0, 48, 64, 136], [0, 0, 3, 7, 0, 0, 48, 112, 255], (.one 0 (.one 1 (.one 2 (.one 3 (.one 4 (.one 5 (.one 6 (.one 7 (.one 8 .nil)))))))))⟩
@[simp] theorem dr_laws_eqInt64S_6 : drawnOK Try.prog (regOps Try.f78 6) or_laws_eqInt64S_6 = True := eq_true ⟨by kernel_rfl, by kernel_rfl⟩
def D_laws_eqInt64S (a0 a1 : AVal) (h : AHeap) (Q : KA) : Prop :=
 lenM Try.prog 78 a0 h fun x1 h1 =>
 lenM Try.prog 78 a1 h1 fun x2 h2 =>
 binM Try.prog .neq 3 x1 x2 h2 fun x3 h3 =>
 gdM x3
 (retW ff h3 Q)
 (@lpM [(i64 0), a1, a0] h3 ⟨fun s4 h4 J4 =>
 lenM Try.prog 78 (nthA s4 2) h4 fun x5 h5 =>
 binM Try.prog .lss 3 (nthA s4 0) x5 h5 fun x6 h6 =>
 gdM x6
 (And (drawnOK Try.prog (regOps Try.f78 6) or_laws_eqInt64S_6) (ixAddrM Try.prog 78 (nthA s4 2) (nthA s4 0) h6 fun x7 h7 =>
 loadM Try.prog 2 x7 h7 fun x8 h8 =>
 ixAddrM Try.prog 78 (nthA s4 1) (nthA s4 0) h8 fun x9 h9 =>
 loadM Try.prog 2 x9 h9 fun x10 h10 =>
 binM Try.prog .neq 2 x8 x10 h10 fun x11 h11 =>
 gdM x11
 (retW ff h11 Q)
 (binM Try.prog .add 3 (nthA s4 0) (i64 1) h11 fun x12 h12 =>
 @wkM [x12, (nthA s4 1), (nthA s4 2)] h12 ⟨J4⟩)))
 (retW tt h6 Q)⟩)
theorem D_laws_eqInt64S_eq (a0 a1 : AVal) (h : AHeap) (Q : KA) : adFn Try.prog ⟨fun i => bif Nat.beq i 6 then or_laws_eqInt64S_6 else ⟨[], [], .nil⟩, fun _ => none, fun i => bif Nat.beq i 4 then [5, 1, 0] else [], []⟩ Try.f78 [a0, a1] h Q = D_laws_eqInt64S a0 a1 h Q := by kernel_rfl
theorem D_laws_eqInt64S_of {a0 a1 : AVal} {h : AHeap} {Q : KA} (hd : D_laws_eqInt64S a0 a1 h Q) : callM Try.prog 78 [a0, a1] h Q := callM_of (fn := Try.f78) Try.func78 (Nat.le_of_ble_eq_true (by kernel_rfl)) ((D_laws_eqInt64S_eq a0 a1 h Q).symm ▸ hd)
theorem fn_laws_eqInt64S : fnT Try.prog 78 = true := by kernel_rfl
end Go.Proofs.Ytlnlbncinjiinaa.A
