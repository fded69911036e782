/- Of this session: contracts of functions that the print does not take. -/
import Derived.Test.YtlnlbncinjiinaaM0
import Derived.Test.YtlnlbncinjiinaaGvOpRows
import Derived.Laws.EntriesVeiled
namespace Go.Proofs.Ytlnlbncinjiinaa.M
open Go.RowKit Go.Proofs.YtlnlbncinjiinaaW.PrintWords Go.Proofs.YtlnlbncinjiinaaW.PrintLast Go.Proofs.YtlnlbncinjiinaaW.PrintMore
attribute [local go_sem] Go.Proofs.YtlnlbncinjiinaaZ.u32_signed Go.Proofs.YtlnlbncinjiinaaZ.u32_max
set_option linter.unusedVariables false
set_option linter.unusedSimpArgs false
theorem wrap_u32_eqC (a : Int) : IntKind.u32.wrap a = a % 4294967296 := by simp [IntKind.wrap, IntKind.bits, IntKind.signed]
theorem cl_add (x y : Int) (w : World) : Calls Try.prog 61 #[.int .u32 x, .int .u32 y] w fun e w' => e = .returned (.int .u32 ((x + y) % 4294967296)) ∧ w' = w := by
  go_enter Try.func61, Try.ntmps61
  go_wp2
  go_ret
  exact ⟨by first | rfl | simp [wrap_u32_eqC], rfl⟩
theorem cl_sub (x y : Int) (w : World) : Calls Try.prog 62 #[.int .u32 x, .int .u32 y] w fun e w' => e = .returned (.int .u32 ((x - y) % 4294967296)) ∧ w' = w := by
  go_enter Try.func62, Try.ntmps62
  go_wp2
  go_ret
  exact ⟨by first | rfl | simp [wrap_u32_eqC], rfl⟩
theorem cl_mul (x y : Int) (w : World) : Calls Try.prog 63 #[.int .u32 x, .int .u32 y] w fun e w' => e = .returned (.int .u32 ((x * y) % 4294967296)) ∧ w' = w := by
  go_enter Try.func63, Try.ntmps63
  go_wp2
  go_ret
  exact ⟨by first | rfl | simp [wrap_u32_eqC], rfl⟩
theorem cl_and (x y : Int) (w : World) : Calls Try.prog 67 #[.int .u32 x, .int .u32 y] w fun e w' => e = .returned (.int .u32 (Go.bits .and .u32 x y)) ∧ w' = w := by
  go_enter Try.func67, Try.ntmps67
  go_wp2
  go_ret
  exact ⟨by first | rfl | simp [wrap_u32_eqC], rfl⟩
theorem cl_or (x y : Int) (w : World) : Calls Try.prog 68 #[.int .u32 x, .int .u32 y] w fun e w' => e = .returned (.int .u32 (Go.bits .or .u32 x y)) ∧ w' = w := by
  go_enter Try.func68, Try.ntmps68
  go_wp2
  go_ret
  exact ⟨by first | rfl | simp [wrap_u32_eqC], rfl⟩
theorem cl_xor (x y : Int) (w : World) : Calls Try.prog 69 #[.int .u32 x, .int .u32 y] w fun e w' => e = .returned (.int .u32 (Go.bits .xor .u32 x y)) ∧ w' = w := by
  go_enter Try.func69, Try.ntmps69
  go_wp2
  go_ret
  exact ⟨by first | rfl | simp [wrap_u32_eqC], rfl⟩
theorem cl_shl (t x y n : Int) (h : Go.bits .and .u32 y 31 = n) (h0 : 0 ≤ n) (h1 : n ≤ 31) (w : World) : Calls Try.prog 71 #[.int .i64 t, .int .u32 x, .int .u32 y] w fun e w' => e = .returned (.int .u32 ((x * 2 ^ n.toNat) % 4294967296)) ∧ w' = w := by
  go_enter Try.func71, Try.ntmps71
  go_wp2
  go_ret
  exact ⟨by first | rfl | simp [wrap_u32_eqC], rfl⟩
theorem cl_shr (t x y n : Int) (h : Go.bits .and .u32 y 31 = n) (h0 : 0 ≤ n) (h1 : n ≤ 31) (w : World) : Calls Try.prog 72 #[.int .i64 t, .int .u32 x, .int .u32 y] w fun e w' => e = .returned (.int .u32 (x / 2 ^ n.toNat)) ∧ w' = w := by
  go_enter Try.func72, Try.ntmps72
  go_wp2
  go_ret
  exact ⟨by first | rfl | simp [wrap_u32_eqC], rfl⟩
theorem cl_neg (t x y : Int) (w : World) : Calls Try.prog 73 #[.int .i64 t, .int .u32 x, .int .u32 y] w fun e w' => e = .returned (.int .u32 ((-x) % 4294967296)) ∧ w' = w := by
  go_enter Try.func73, Try.ntmps73
  go_wp2
  go_ret
  exact ⟨by first | rfl | simp [wrap_u32_eqC], rfl⟩
theorem isnum_a (w : World) : Calls Try.prog 80 #[.int .i64 2] w fun e w' => e = .returned (.bool true) ∧ w' = w := by
  go_enter Try.func80, Try.ntmps80
  go_wp2
  go_ret
  exact ⟨rfl, rfl⟩
theorem isnum_b (w : World) : Calls Try.prog 80 #[.int .i64 3] w fun e w' => e = .returned (.bool true) ∧ w' = w := by
  go_enter Try.func80, Try.ntmps80
  go_wp2
  go_ret
  exact ⟨rfl, rfl⟩
theorem isbits_a (w : World) : Calls Try.prog 87 #[.int .i64 1] w fun e w' => e = .returned (.bool true) ∧ w' = w := by
  go_enter Try.func87, Try.ntmps87
  go_wp2
  go_ret
  exact ⟨rfl, rfl⟩
theorem isbits_b (w : World) : Calls Try.prog 87 #[.int .i64 3] w fun e w' => e = .returned (.bool true) ∧ w' = w := by
  go_enter Try.func87, Try.ntmps87
  go_wp2
  go_ret
  exact ⟨rfl, rfl⟩
theorem on_add_a (t x y : Int) (g : Nat) (w : World) (ht : t = 2) (hc : w.cell? ⟨g, 0, none⟩ = some (.func (.func 61) #[] #[])) : Calls Try.prog 79 #[.int .i64 t, .int .u32 x, .int .u32 y, .pointer (some ⟨g, 0, none⟩)] w fun e w' => e = .returned (.int .u32 ((x + y) % 4294967296)) ∧ w' = w := by
  subst ht
  go_enter Try.func79, Try.ntmps79
  go_wp2_with (first | (go_at_call 80; refine (isnum_a _).mono ?_; rintro e w' ⟨rfl, rfl⟩) | (go_at_call 61; refine (cl_add _ _ _).mono ?_; rintro e w' ⟨rfl, rfl⟩))
  go_ret
  exact ⟨rfl, rfl⟩
theorem on_add_b (t x y : Int) (g : Nat) (w : World) (ht : t = 3) (hc : w.cell? ⟨g, 0, none⟩ = some (.func (.func 61) #[] #[])) : Calls Try.prog 79 #[.int .i64 t, .int .u32 x, .int .u32 y, .pointer (some ⟨g, 0, none⟩)] w fun e w' => e = .returned (.int .u32 ((x + y) % 4294967296)) ∧ w' = w := by
  subst ht
  go_enter Try.func79, Try.ntmps79
  go_wp2_with (first | (go_at_call 80; refine (isnum_b _).mono ?_; rintro e w' ⟨rfl, rfl⟩) | (go_at_call 61; refine (cl_add _ _ _).mono ?_; rintro e w' ⟨rfl, rfl⟩))
  go_ret
  exact ⟨rfl, rfl⟩
theorem on_add_no (t x y : Int) (g : Nat) (w : World) (h1 : (t == 2) = false) (h2 : (t == 3) = false) (hc : w.cell? ⟨g, 0, none⟩ = some (.func (.func 61) #[] #[])) : Calls Try.prog 79 #[.int .i64 t, .int .u32 x, .int .u32 y, .pointer (some ⟨g, 0, none⟩)] w fun e w' => e = .returned (.int .u32 (0)) ∧ w' = w := by
  skip
  go_enter Try.func79, Try.ntmps79
  go_wp2
  go_ret
  exact ⟨rfl, rfl⟩
theorem on_sub_a (t x y : Int) (g : Nat) (w : World) (ht : t = 2) (hc : w.cell? ⟨g, 0, none⟩ = some (.func (.func 62) #[] #[])) : Calls Try.prog 79 #[.int .i64 t, .int .u32 x, .int .u32 y, .pointer (some ⟨g, 0, none⟩)] w fun e w' => e = .returned (.int .u32 ((x - y) % 4294967296)) ∧ w' = w := by
  subst ht
  go_enter Try.func79, Try.ntmps79
  go_wp2_with (first | (go_at_call 80; refine (isnum_a _).mono ?_; rintro e w' ⟨rfl, rfl⟩) | (go_at_call 62; refine (cl_sub _ _ _).mono ?_; rintro e w' ⟨rfl, rfl⟩))
  go_ret
  exact ⟨rfl, rfl⟩
theorem on_sub_b (t x y : Int) (g : Nat) (w : World) (ht : t = 3) (hc : w.cell? ⟨g, 0, none⟩ = some (.func (.func 62) #[] #[])) : Calls Try.prog 79 #[.int .i64 t, .int .u32 x, .int .u32 y, .pointer (some ⟨g, 0, none⟩)] w fun e w' => e = .returned (.int .u32 ((x - y) % 4294967296)) ∧ w' = w := by
  subst ht
  go_enter Try.func79, Try.ntmps79
  go_wp2_with (first | (go_at_call 80; refine (isnum_b _).mono ?_; rintro e w' ⟨rfl, rfl⟩) | (go_at_call 62; refine (cl_sub _ _ _).mono ?_; rintro e w' ⟨rfl, rfl⟩))
  go_ret
  exact ⟨rfl, rfl⟩
theorem on_sub_no (t x y : Int) (g : Nat) (w : World) (h1 : (t == 2) = false) (h2 : (t == 3) = false) (hc : w.cell? ⟨g, 0, none⟩ = some (.func (.func 62) #[] #[])) : Calls Try.prog 79 #[.int .i64 t, .int .u32 x, .int .u32 y, .pointer (some ⟨g, 0, none⟩)] w fun e w' => e = .returned (.int .u32 (0)) ∧ w' = w := by
  skip
  go_enter Try.func79, Try.ntmps79
  go_wp2
  go_ret
  exact ⟨rfl, rfl⟩
theorem on_mul_a (t x y : Int) (g : Nat) (w : World) (ht : t = 2) (hc : w.cell? ⟨g, 0, none⟩ = some (.func (.func 63) #[] #[])) : Calls Try.prog 79 #[.int .i64 t, .int .u32 x, .int .u32 y, .pointer (some ⟨g, 0, none⟩)] w fun e w' => e = .returned (.int .u32 ((x * y) % 4294967296)) ∧ w' = w := by
  subst ht
  go_enter Try.func79, Try.ntmps79
  go_wp2_with (first | (go_at_call 80; refine (isnum_a _).mono ?_; rintro e w' ⟨rfl, rfl⟩) | (go_at_call 63; refine (cl_mul _ _ _).mono ?_; rintro e w' ⟨rfl, rfl⟩))
  go_ret
  exact ⟨rfl, rfl⟩
theorem on_mul_b (t x y : Int) (g : Nat) (w : World) (ht : t = 3) (hc : w.cell? ⟨g, 0, none⟩ = some (.func (.func 63) #[] #[])) : Calls Try.prog 79 #[.int .i64 t, .int .u32 x, .int .u32 y, .pointer (some ⟨g, 0, none⟩)] w fun e w' => e = .returned (.int .u32 ((x * y) % 4294967296)) ∧ w' = w := by
  subst ht
  go_enter Try.func79, Try.ntmps79
  go_wp2_with (first | (go_at_call 80; refine (isnum_b _).mono ?_; rintro e w' ⟨rfl, rfl⟩) | (go_at_call 63; refine (cl_mul _ _ _).mono ?_; rintro e w' ⟨rfl, rfl⟩))
  go_ret
  exact ⟨rfl, rfl⟩
theorem on_mul_no (t x y : Int) (g : Nat) (w : World) (h1 : (t == 2) = false) (h2 : (t == 3) = false) (hc : w.cell? ⟨g, 0, none⟩ = some (.func (.func 63) #[] #[])) : Calls Try.prog 79 #[.int .i64 t, .int .u32 x, .int .u32 y, .pointer (some ⟨g, 0, none⟩)] w fun e w' => e = .returned (.int .u32 (0)) ∧ w' = w := by
  skip
  go_enter Try.func79, Try.ntmps79
  go_wp2
  go_ret
  exact ⟨rfl, rfl⟩
theorem on_and_a (t x y : Int) (g : Nat) (w : World) (ht : t = 1) (hc : w.cell? ⟨g, 0, none⟩ = some (.func (.func 67) #[] #[])) : Calls Try.prog 86 #[.int .i64 t, .int .u32 x, .int .u32 y, .pointer (some ⟨g, 0, none⟩)] w fun e w' => e = .returned (.int .u32 (Go.bits .and .u32 x y)) ∧ w' = w := by
  subst ht
  go_enter Try.func86, Try.ntmps86
  go_wp2_with (first | (go_at_call 87; refine (isbits_a _).mono ?_; rintro e w' ⟨rfl, rfl⟩) | (go_at_call 67; refine (cl_and _ _ _).mono ?_; rintro e w' ⟨rfl, rfl⟩))
  go_ret
  exact ⟨rfl, rfl⟩
theorem on_and_b (t x y : Int) (g : Nat) (w : World) (ht : t = 3) (hc : w.cell? ⟨g, 0, none⟩ = some (.func (.func 67) #[] #[])) : Calls Try.prog 86 #[.int .i64 t, .int .u32 x, .int .u32 y, .pointer (some ⟨g, 0, none⟩)] w fun e w' => e = .returned (.int .u32 (Go.bits .and .u32 x y)) ∧ w' = w := by
  subst ht
  go_enter Try.func86, Try.ntmps86
  go_wp2_with (first | (go_at_call 87; refine (isbits_b _).mono ?_; rintro e w' ⟨rfl, rfl⟩) | (go_at_call 67; refine (cl_and _ _ _).mono ?_; rintro e w' ⟨rfl, rfl⟩))
  go_ret
  exact ⟨rfl, rfl⟩
theorem on_and_no (t x y : Int) (g : Nat) (w : World) (h1 : (t == 1) = false) (h2 : (t == 3) = false) (hc : w.cell? ⟨g, 0, none⟩ = some (.func (.func 67) #[] #[])) : Calls Try.prog 86 #[.int .i64 t, .int .u32 x, .int .u32 y, .pointer (some ⟨g, 0, none⟩)] w fun e w' => e = .returned (.int .u32 (0)) ∧ w' = w := by
  skip
  go_enter Try.func86, Try.ntmps86
  go_wp2
  go_ret
  exact ⟨rfl, rfl⟩
theorem on_or_a (t x y : Int) (g : Nat) (w : World) (ht : t = 1) (hc : w.cell? ⟨g, 0, none⟩ = some (.func (.func 68) #[] #[])) : Calls Try.prog 86 #[.int .i64 t, .int .u32 x, .int .u32 y, .pointer (some ⟨g, 0, none⟩)] w fun e w' => e = .returned (.int .u32 (Go.bits .or .u32 x y)) ∧ w' = w := by
  subst ht
  go_enter Try.func86, Try.ntmps86
  go_wp2_with (first | (go_at_call 87; refine (isbits_a _).mono ?_; rintro e w' ⟨rfl, rfl⟩) | (go_at_call 68; refine (cl_or _ _ _).mono ?_; rintro e w' ⟨rfl, rfl⟩))
  go_ret
  exact ⟨rfl, rfl⟩
theorem on_or_b (t x y : Int) (g : Nat) (w : World) (ht : t = 3) (hc : w.cell? ⟨g, 0, none⟩ = some (.func (.func 68) #[] #[])) : Calls Try.prog 86 #[.int .i64 t, .int .u32 x, .int .u32 y, .pointer (some ⟨g, 0, none⟩)] w fun e w' => e = .returned (.int .u32 (Go.bits .or .u32 x y)) ∧ w' = w := by
  subst ht
  go_enter Try.func86, Try.ntmps86
  go_wp2_with (first | (go_at_call 87; refine (isbits_b _).mono ?_; rintro e w' ⟨rfl, rfl⟩) | (go_at_call 68; refine (cl_or _ _ _).mono ?_; rintro e w' ⟨rfl, rfl⟩))
  go_ret
  exact ⟨rfl, rfl⟩
theorem on_or_no (t x y : Int) (g : Nat) (w : World) (h1 : (t == 1) = false) (h2 : (t == 3) = false) (hc : w.cell? ⟨g, 0, none⟩ = some (.func (.func 68) #[] #[])) : Calls Try.prog 86 #[.int .i64 t, .int .u32 x, .int .u32 y, .pointer (some ⟨g, 0, none⟩)] w fun e w' => e = .returned (.int .u32 (0)) ∧ w' = w := by
  skip
  go_enter Try.func86, Try.ntmps86
  go_wp2
  go_ret
  exact ⟨rfl, rfl⟩
theorem on_xor_a (t x y : Int) (g : Nat) (w : World) (ht : t = 1) (hc : w.cell? ⟨g, 0, none⟩ = some (.func (.func 69) #[] #[])) : Calls Try.prog 86 #[.int .i64 t, .int .u32 x, .int .u32 y, .pointer (some ⟨g, 0, none⟩)] w fun e w' => e = .returned (.int .u32 (Go.bits .xor .u32 x y)) ∧ w' = w := by
  subst ht
  go_enter Try.func86, Try.ntmps86
  go_wp2_with (first | (go_at_call 87; refine (isbits_a _).mono ?_; rintro e w' ⟨rfl, rfl⟩) | (go_at_call 69; refine (cl_xor _ _ _).mono ?_; rintro e w' ⟨rfl, rfl⟩))
  go_ret
  exact ⟨rfl, rfl⟩
theorem on_xor_b (t x y : Int) (g : Nat) (w : World) (ht : t = 3) (hc : w.cell? ⟨g, 0, none⟩ = some (.func (.func 69) #[] #[])) : Calls Try.prog 86 #[.int .i64 t, .int .u32 x, .int .u32 y, .pointer (some ⟨g, 0, none⟩)] w fun e w' => e = .returned (.int .u32 (Go.bits .xor .u32 x y)) ∧ w' = w := by
  subst ht
  go_enter Try.func86, Try.ntmps86
  go_wp2_with (first | (go_at_call 87; refine (isbits_b _).mono ?_; rintro e w' ⟨rfl, rfl⟩) | (go_at_call 69; refine (cl_xor _ _ _).mono ?_; rintro e w' ⟨rfl, rfl⟩))
  go_ret
  exact ⟨rfl, rfl⟩
theorem on_xor_no (t x y : Int) (g : Nat) (w : World) (h1 : (t == 1) = false) (h2 : (t == 3) = false) (hc : w.cell? ⟨g, 0, none⟩ = some (.func (.func 69) #[] #[])) : Calls Try.prog 86 #[.int .i64 t, .int .u32 x, .int .u32 y, .pointer (some ⟨g, 0, none⟩)] w fun e w' => e = .returned (.int .u32 (0)) ∧ w' = w := by
  skip
  go_enter Try.func86, Try.ntmps86
  go_wp2
  go_ret
  exact ⟨rfl, rfl⟩
end Go.Proofs.Ytlnlbncinjiinaa.M
