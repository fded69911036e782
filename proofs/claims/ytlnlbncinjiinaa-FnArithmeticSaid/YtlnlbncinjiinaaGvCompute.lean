/- Of this session: contracts of functions that the print does not take. -/
import Derived.Test.YtlnlbncinjiinaaM0
import Derived.Test.YtlnlbncinjiinaaGvDivided
namespace Go.Proofs.Ytlnlbncinjiinaa.M
open Go.RowKit Go.Proofs.YtlnlbncinjiinaaW.PrintWords Go.Proofs.YtlnlbncinjiinaaW.PrintLast Go.Proofs.YtlnlbncinjiinaaW.PrintMore
attribute [local go_sem] Go.Proofs.YtlnlbncinjiinaaZ.u32_signed Go.Proofs.YtlnlbncinjiinaaZ.u32_max
set_option linter.unusedVariables false
set_option linter.unusedSimpArgs false
theorem eql_nilFunc (w : World) : (binOp .eql 60 .nilFunc .nilFunc).run Try.prog w = .ok (.bool true) w := by kernel_rfl
theorem eql_func (f : Fn) (c : Array Value) (w : World) : (binOp .eql 60 (.func f #[] c) .nilFunc).run Try.prog w = .ok (.bool false) w := by kernel_rfl
theorem wrap_u32_bvC (R : BitVec 32) : IntKind.u32.wrap (R.toNat : Int) = (R.toNat : Int) := by rw [wrap_u32_eqC]; have := R.isLt; omega
theorem bits_and_bvC (x y : Int) : Go.bits .and .u32 x y = ((BitVec.ofInt 32 x &&& BitVec.ofInt 32 y).toNat : Int) := by
  have := wrap_u32_bvC (BitVec.ofInt 32 x &&& BitVec.ofInt 32 y)
  unfold Go.bits; exact this
theorem and31_lo (y : Int) : 0 ≤ Go.bits .and .u32 y 31 := by rw [bits_and_bvC]; exact Int.natCast_nonneg _
theorem and31_hi (y : Int) : Go.bits .and .u32 y 31 ≤ 31 := by
  rw [bits_and_bvC, BitVec.toNat_and]
  have : (BitVec.ofInt 32 31).toNat = 31 := by decide
  rw [this]
  have := Nat.and_le_right (n := (BitVec.ofInt 32 y).toNat) (m := 31)
  omega
def onNumbersT (t v : Int) : Int := if t = 2 ∨ t = 3 then v else 0
def onBitsT (t v : Int) : Int := if t = 1 ∨ t = 3 then v else 0
def flagT (b : Bool) : Int := if b = true then 1 else 0
def turnT (t x : Int) : Int := if t = 1 then flagT (x == 0) else if t = 3 then Go.bits .xor .u32 4294967295 x else 0
def lessT (t x y : Int) : Int := if t = 2 then flagT (decide (wrap32 x < wrap32 y)) else if t = 3 then flagT (decide (x < y)) else 0
def eqT (t x y : Int) : Int := if 1 ≤ t ∧ t ≤ 3 then flagT (x == y) else 0
theorem flag_f (b : Bool) : impl_flag.f b = some (flagT b) := by cases b <;> rfl
theorem turn_f (t x y : Int) : impl_turned.f t x y = some (turnT t x) := by
  unfold impl_turned.f turnT
  repeat' split
  all_goals first | rfl | simp [flag_f]
theorem less_f (t x y : Int) : impl_lesser.f t x y = some (lessT t x y) := by
  unfold impl_lesser.f lessT
  repeat' split
  all_goals first | rfl | simp [flag_f]
theorem eq_f (t x y : Int) : impl_equal.f t x y = some (eqT t x y) := by
  unfold impl_equal.f impl_isType.f eqT
  by_cases h : 1 ≤ t
  · rw [if_pos h]
    by_cases h3 : t ≤ 3
    · simp [h, h3, flag_f]
    · simp [h, h3, flag_f, flagT]
  · rw [if_neg h]
    simp [h, flag_f, flagT]
theorem on_add (t x y : Int) (g : Nat) (w : World) (hc : w.cell? ⟨g, 0, none⟩ = some (.func (.func 61) #[] #[])) : Calls Try.prog 79 #[.int .i64 t, .int .u32 x, .int .u32 y, .pointer (some ⟨g, 0, none⟩)] w fun e w' => e = .returned (.int .u32 (onNumbersT t ((x + y) % 4294967296))) ∧ w' = w := by
  unfold onNumbersT
  by_cases h1 : t = 2
  · rw [if_pos (Or.inl h1)]; exact on_add_a t x y g w h1 hc
  · by_cases h2 : t = 3
    · rw [if_pos (Or.inr h2)]; exact on_add_b t x y g w h2 hc
    · rw [if_neg (by omega)]; exact on_add_no t x y g w (by simp [h1]) (by simp [h2]) hc
theorem on_sub (t x y : Int) (g : Nat) (w : World) (hc : w.cell? ⟨g, 0, none⟩ = some (.func (.func 62) #[] #[])) : Calls Try.prog 79 #[.int .i64 t, .int .u32 x, .int .u32 y, .pointer (some ⟨g, 0, none⟩)] w fun e w' => e = .returned (.int .u32 (onNumbersT t ((x - y) % 4294967296))) ∧ w' = w := by
  unfold onNumbersT
  by_cases h1 : t = 2
  · rw [if_pos (Or.inl h1)]; exact on_sub_a t x y g w h1 hc
  · by_cases h2 : t = 3
    · rw [if_pos (Or.inr h2)]; exact on_sub_b t x y g w h2 hc
    · rw [if_neg (by omega)]; exact on_sub_no t x y g w (by simp [h1]) (by simp [h2]) hc
theorem on_mul (t x y : Int) (g : Nat) (w : World) (hc : w.cell? ⟨g, 0, none⟩ = some (.func (.func 63) #[] #[])) : Calls Try.prog 79 #[.int .i64 t, .int .u32 x, .int .u32 y, .pointer (some ⟨g, 0, none⟩)] w fun e w' => e = .returned (.int .u32 (onNumbersT t ((x * y) % 4294967296))) ∧ w' = w := by
  unfold onNumbersT
  by_cases h1 : t = 2
  · rw [if_pos (Or.inl h1)]; exact on_mul_a t x y g w h1 hc
  · by_cases h2 : t = 3
    · rw [if_pos (Or.inr h2)]; exact on_mul_b t x y g w h2 hc
    · rw [if_neg (by omega)]; exact on_mul_no t x y g w (by simp [h1]) (by simp [h2]) hc
theorem on_and (t x y : Int) (g : Nat) (w : World) (hc : w.cell? ⟨g, 0, none⟩ = some (.func (.func 67) #[] #[])) : Calls Try.prog 86 #[.int .i64 t, .int .u32 x, .int .u32 y, .pointer (some ⟨g, 0, none⟩)] w fun e w' => e = .returned (.int .u32 (onBitsT t (Go.bits .and .u32 x y))) ∧ w' = w := by
  unfold onBitsT
  by_cases h1 : t = 1
  · rw [if_pos (Or.inl h1)]; exact on_and_a t x y g w h1 hc
  · by_cases h2 : t = 3
    · rw [if_pos (Or.inr h2)]; exact on_and_b t x y g w h2 hc
    · rw [if_neg (by omega)]; exact on_and_no t x y g w (by simp [h1]) (by simp [h2]) hc
theorem on_or (t x y : Int) (g : Nat) (w : World) (hc : w.cell? ⟨g, 0, none⟩ = some (.func (.func 68) #[] #[])) : Calls Try.prog 86 #[.int .i64 t, .int .u32 x, .int .u32 y, .pointer (some ⟨g, 0, none⟩)] w fun e w' => e = .returned (.int .u32 (onBitsT t (Go.bits .or .u32 x y))) ∧ w' = w := by
  unfold onBitsT
  by_cases h1 : t = 1
  · rw [if_pos (Or.inl h1)]; exact on_or_a t x y g w h1 hc
  · by_cases h2 : t = 3
    · rw [if_pos (Or.inr h2)]; exact on_or_b t x y g w h2 hc
    · rw [if_neg (by omega)]; exact on_or_no t x y g w (by simp [h1]) (by simp [h2]) hc
theorem on_xor (t x y : Int) (g : Nat) (w : World) (hc : w.cell? ⟨g, 0, none⟩ = some (.func (.func 69) #[] #[])) : Calls Try.prog 86 #[.int .i64 t, .int .u32 x, .int .u32 y, .pointer (some ⟨g, 0, none⟩)] w fun e w' => e = .returned (.int .u32 (onBitsT t (Go.bits .xor .u32 x y))) ∧ w' = w := by
  unfold onBitsT
  by_cases h1 : t = 1
  · rw [if_pos (Or.inl h1)]; exact on_xor_a t x y g w h1 hc
  · by_cases h2 : t = 3
    · rw [if_pos (Or.inr h2)]; exact on_xor_b t x y g w h2 hc
    · rw [if_neg (by omega)]; exact on_xor_no t x y g w (by simp [h1]) (by simp [h2]) hc
set_option maxHeartbeats 1000000 in
set_option maxRecDepth 100000 in
theorem comp_0 (t x y : Int) (w : World) : Calls Try.prog 20 #[.int .i64 0, .int .i64 t, .int .u32 x, .int .u32 y] w fun e w' => e = .returned (.int .u32 (0)) ∧ Below w.heap.size w w' := by
  have HB := Aside0.mk (Below.refl w.heap.size w)
  have eqn := eql_nilFunc
  have eqf := eql_func
  go_enter Try.func20, Try.ntmps20
  go_wp2_with (first | (go_at_call 33; refine (opRows_calls _).mono ?_; rintro e w1 ⟨g, b0, b1, b2, b3, b4, b5, rfl, hg, hI, hb⟩; have hc0 : w1.cell? ⟨g, 3, none⟩ = some (.nilFunc) := (cell_of_row _ _ _ _ _ _ hg).trans rfl; have HB1 := Aside0.mk (below_step HB.out hb); clear hg hI hb))
  go_ret
  exact ⟨rfl, HB1.out⟩
set_option maxHeartbeats 1000000 in
set_option maxRecDepth 100000 in
theorem comp_1 (t x y : Int) (w : World) : Calls Try.prog 20 #[.int .i64 1, .int .i64 t, .int .u32 x, .int .u32 y] w fun e w' => e = .returned (.int .u32 (0)) ∧ Below w.heap.size w w' := by
  have HB := Aside0.mk (Below.refl w.heap.size w)
  have eqn := eql_nilFunc
  have eqf := eql_func
  go_enter Try.func20, Try.ntmps20
  go_wp2_with (first | (go_at_call 33; refine (opRows_calls _).mono ?_; rintro e w1 ⟨g, b0, b1, b2, b3, b4, b5, rfl, hg, hI, hb⟩; have hc0 : w1.cell? ⟨g, 7, none⟩ = some (.nilFunc) := (cell_of_row _ _ _ _ _ _ hg).trans rfl; have HB1 := Aside0.mk (below_step HB.out hb); clear hg hI hb))
  go_ret
  exact ⟨rfl, HB1.out⟩
set_option maxHeartbeats 1000000 in
set_option maxRecDepth 100000 in
theorem comp_2 (t x y : Int) (w : World) : Calls Try.prog 20 #[.int .i64 2, .int .i64 t, .int .u32 x, .int .u32 y] w fun e w' => e = .returned (.int .u32 (0)) ∧ Below w.heap.size w w' := by
  have HB := Aside0.mk (Below.refl w.heap.size w)
  have eqn := eql_nilFunc
  have eqf := eql_func
  go_enter Try.func20, Try.ntmps20
  go_wp2_with (first | (go_at_call 33; refine (opRows_calls _).mono ?_; rintro e w1 ⟨g, b0, b1, b2, b3, b4, b5, rfl, hg, hI, hb⟩; have hc0 : w1.cell? ⟨g, 11, none⟩ = some (.nilFunc) := (cell_of_row _ _ _ _ _ _ hg).trans rfl; have HB1 := Aside0.mk (below_step HB.out hb); clear hg hI hb))
  go_ret
  exact ⟨rfl, HB1.out⟩
set_option maxHeartbeats 1000000 in
set_option maxRecDepth 100000 in
theorem comp_3 (t x y : Int) (w : World) : Calls Try.prog 20 #[.int .i64 3, .int .i64 t, .int .u32 x, .int .u32 y] w fun e w' => e = .returned (.int .u32 (0)) ∧ Below w.heap.size w w' := by
  have HB := Aside0.mk (Below.refl w.heap.size w)
  have eqn := eql_nilFunc
  have eqf := eql_func
  go_enter Try.func20, Try.ntmps20
  go_wp2_with (first | (go_at_call 33; refine (opRows_calls _).mono ?_; rintro e w1 ⟨g, b0, b1, b2, b3, b4, b5, rfl, hg, hI, hb⟩; have hc0 : w1.cell? ⟨g, 15, none⟩ = some (.nilFunc) := (cell_of_row _ _ _ _ _ _ hg).trans rfl; have HB1 := Aside0.mk (below_step HB.out hb); clear hg hI hb))
  go_ret
  exact ⟨rfl, HB1.out⟩
set_option maxHeartbeats 1000000 in
set_option maxRecDepth 100000 in
theorem comp_4 (t x y : Int) (w : World) : Calls Try.prog 20 #[.int .i64 4, .int .i64 t, .int .u32 x, .int .u32 y] w fun e w' => e = .returned (.int .u32 (0)) ∧ Below w.heap.size w w' := by
  have HB := Aside0.mk (Below.refl w.heap.size w)
  have eqn := eql_nilFunc
  have eqf := eql_func
  go_enter Try.func20, Try.ntmps20
  go_wp2_with (first | (go_at_call 33; refine (opRows_calls _).mono ?_; rintro e w1 ⟨g, b0, b1, b2, b3, b4, b5, rfl, hg, hI, hb⟩; have hc0 : w1.cell? ⟨g, 19, none⟩ = some (.nilFunc) := (cell_of_row _ _ _ _ _ _ hg).trans rfl; have HB1 := Aside0.mk (below_step HB.out hb); clear hg hI hb))
  go_ret
  exact ⟨rfl, HB1.out⟩
set_option maxHeartbeats 1000000 in
set_option maxRecDepth 100000 in
theorem comp_5 (t x y : Int) (w : World) : Calls Try.prog 20 #[.int .i64 5, .int .i64 t, .int .u32 x, .int .u32 y] w fun e w' => e = .returned (.int .u32 (0)) ∧ Below w.heap.size w w' := by
  have HB := Aside0.mk (Below.refl w.heap.size w)
  have eqn := eql_nilFunc
  have eqf := eql_func
  go_enter Try.func20, Try.ntmps20
  go_wp2_with (first | (go_at_call 33; refine (opRows_calls _).mono ?_; rintro e w1 ⟨g, b0, b1, b2, b3, b4, b5, rfl, hg, hI, hb⟩; have hc0 : w1.cell? ⟨g, 23, none⟩ = some (.nilFunc) := (cell_of_row _ _ _ _ _ _ hg).trans rfl; have HB1 := Aside0.mk (below_step HB.out hb); clear hg hI hb))
  go_ret
  exact ⟨rfl, HB1.out⟩
set_option maxHeartbeats 1000000 in
set_option maxRecDepth 100000 in
theorem comp_6 (t x y : Int) (w : World) : Calls Try.prog 20 #[.int .i64 6, .int .i64 t, .int .u32 x, .int .u32 y] w fun e w' => e = .returned (.int .u32 (0)) ∧ Below w.heap.size w w' := by
  have HB := Aside0.mk (Below.refl w.heap.size w)
  have eqn := eql_nilFunc
  have eqf := eql_func
  go_enter Try.func20, Try.ntmps20
  go_wp2_with (first | (go_at_call 33; refine (opRows_calls _).mono ?_; rintro e w1 ⟨g, b0, b1, b2, b3, b4, b5, rfl, hg, hI, hb⟩; have hc0 : w1.cell? ⟨g, 27, none⟩ = some (.nilFunc) := (cell_of_row _ _ _ _ _ _ hg).trans rfl; have HB1 := Aside0.mk (below_step HB.out hb); clear hg hI hb))
  go_ret
  exact ⟨rfl, HB1.out⟩
set_option maxHeartbeats 1000000 in
set_option maxRecDepth 100000 in
theorem comp_7 (t x y : Int) (w : World) : Calls Try.prog 20 #[.int .i64 7, .int .i64 t, .int .u32 x, .int .u32 y] w fun e w' => e = .returned (.int .u32 (0)) ∧ Below w.heap.size w w' := by
  have HB := Aside0.mk (Below.refl w.heap.size w)
  have eqn := eql_nilFunc
  have eqf := eql_func
  go_enter Try.func20, Try.ntmps20
  go_wp2_with (first | (go_at_call 33; refine (opRows_calls _).mono ?_; rintro e w1 ⟨g, b0, b1, b2, b3, b4, b5, rfl, hg, hI, hb⟩; have hc0 : w1.cell? ⟨g, 31, none⟩ = some (.nilFunc) := (cell_of_row _ _ _ _ _ _ hg).trans rfl; have HB1 := Aside0.mk (below_step HB.out hb); clear hg hI hb))
  go_ret
  exact ⟨rfl, HB1.out⟩
set_option maxHeartbeats 1000000 in
set_option maxRecDepth 100000 in
theorem comp_8 (t x y : Int) (w : World) : Calls Try.prog 20 #[.int .i64 8, .int .i64 t, .int .u32 x, .int .u32 y] w fun e w' => e = .returned (.int .u32 (onNumbersT t ((x + y) % 4294967296))) ∧ Below w.heap.size w w' := by
  have HB := Aside0.mk (Below.refl w.heap.size w)
  have eqn := eql_nilFunc
  have eqf := eql_func
  go_enter Try.func20, Try.ntmps20
  go_wp2_with (first | (go_at_call 33; refine (opRows_calls _).mono ?_; rintro e w1 ⟨g, b0, b1, b2, b3, b4, b5, rfl, hg, hI, hb⟩; have hc0 : w1.cell? ⟨g, 35, none⟩ = some (.func (.func 79) #[] #[.pointer (some ⟨b0, 0, none⟩)]) := (cell_of_row _ _ _ _ _ _ hg).trans rfl; have hbx : w1.cell? ⟨b0, 0, none⟩ = some (.func (.func 61) #[] #[]) := (cell_of_row _ _ _ _ _ _ (hI (b0, 61) (by simp))).trans rfl; have HB1 := Aside0.mk (below_step HB.out hb); clear hg hI hb) | (go_at_call 79; refine (on_add _ _ _ _ _ (by assumption)).mono ?_; rintro e w' ⟨rfl, rfl⟩))
  go_ret
  exact ⟨rfl, HB1.out⟩
set_option maxHeartbeats 1000000 in
set_option maxRecDepth 100000 in
theorem comp_9 (t x y : Int) (w : World) : Calls Try.prog 20 #[.int .i64 9, .int .i64 t, .int .u32 x, .int .u32 y] w fun e w' => e = .returned (.int .u32 (onNumbersT t ((x - y) % 4294967296))) ∧ Below w.heap.size w w' := by
  have HB := Aside0.mk (Below.refl w.heap.size w)
  have eqn := eql_nilFunc
  have eqf := eql_func
  go_enter Try.func20, Try.ntmps20
  go_wp2_with (first | (go_at_call 33; refine (opRows_calls _).mono ?_; rintro e w1 ⟨g, b0, b1, b2, b3, b4, b5, rfl, hg, hI, hb⟩; have hc0 : w1.cell? ⟨g, 39, none⟩ = some (.func (.func 79) #[] #[.pointer (some ⟨b1, 0, none⟩)]) := (cell_of_row _ _ _ _ _ _ hg).trans rfl; have hbx : w1.cell? ⟨b1, 0, none⟩ = some (.func (.func 62) #[] #[]) := (cell_of_row _ _ _ _ _ _ (hI (b1, 62) (by simp))).trans rfl; have HB1 := Aside0.mk (below_step HB.out hb); clear hg hI hb) | (go_at_call 79; refine (on_sub _ _ _ _ _ (by assumption)).mono ?_; rintro e w' ⟨rfl, rfl⟩))
  go_ret
  exact ⟨rfl, HB1.out⟩
set_option maxHeartbeats 1000000 in
set_option maxRecDepth 100000 in
theorem comp_10 (t x y : Int) (w : World) : Calls Try.prog 20 #[.int .i64 10, .int .i64 t, .int .u32 x, .int .u32 y] w fun e w' => e = .returned (.int .u32 (onNumbersT t ((x * y) % 4294967296))) ∧ Below w.heap.size w w' := by
  have HB := Aside0.mk (Below.refl w.heap.size w)
  have eqn := eql_nilFunc
  have eqf := eql_func
  go_enter Try.func20, Try.ntmps20
  go_wp2_with (first | (go_at_call 33; refine (opRows_calls _).mono ?_; rintro e w1 ⟨g, b0, b1, b2, b3, b4, b5, rfl, hg, hI, hb⟩; have hc0 : w1.cell? ⟨g, 43, none⟩ = some (.func (.func 79) #[] #[.pointer (some ⟨b2, 0, none⟩)]) := (cell_of_row _ _ _ _ _ _ hg).trans rfl; have hbx : w1.cell? ⟨b2, 0, none⟩ = some (.func (.func 63) #[] #[]) := (cell_of_row _ _ _ _ _ _ (hI (b2, 63) (by simp))).trans rfl; have HB1 := Aside0.mk (below_step HB.out hb); clear hg hI hb) | (go_at_call 79; refine (on_mul _ _ _ _ _ (by assumption)).mono ?_; rintro e w' ⟨rfl, rfl⟩))
  go_ret
  exact ⟨rfl, HB1.out⟩
set_option maxHeartbeats 1000000 in
set_option maxRecDepth 100000 in
theorem comp_11 (t x y : Int) (w : World) : Calls Try.prog 20 #[.int .i64 11, .int .i64 t, .int .u32 x, .int .u32 y] w fun e w' => e = .returned (.int .u32 (divT t x y)) ∧ Below w.heap.size w w' := by
  have HB := Aside0.mk (Below.refl w.heap.size w)
  have eqn := eql_nilFunc
  have eqf := eql_func
  go_enter Try.func20, Try.ntmps20
  go_wp2_with (first | (go_at_call 33; refine (opRows_calls _).mono ?_; rintro e w1 ⟨g, b0, b1, b2, b3, b4, b5, rfl, hg, hI, hb⟩; have hc0 : w1.cell? ⟨g, 47, none⟩ = some (.func (.func 64) #[] #[]) := (cell_of_row _ _ _ _ _ _ hg).trans rfl; have HB1 := Aside0.mk (below_step HB.out hb); clear hg hI hb) | (go_at_call 64; refine (div_calls _ _ _ _).mono ?_; rintro e w' ⟨rfl, hb⟩; have HB2 := Aside0.mk (below_step HB1.out hb); clear hb))
  go_ret
  exact ⟨rfl, HB2.out⟩
set_option maxHeartbeats 1000000 in
set_option maxRecDepth 100000 in
theorem comp_12 (t x y : Int) (w : World) : Calls Try.prog 20 #[.int .i64 12, .int .i64 t, .int .u32 x, .int .u32 y] w fun e w' => e = .returned (.int .u32 (remT t x y)) ∧ Below w.heap.size w w' := by
  have HB := Aside0.mk (Below.refl w.heap.size w)
  have eqn := eql_nilFunc
  have eqf := eql_func
  go_enter Try.func20, Try.ntmps20
  go_wp2_with (first | (go_at_call 33; refine (opRows_calls _).mono ?_; rintro e w1 ⟨g, b0, b1, b2, b3, b4, b5, rfl, hg, hI, hb⟩; have hc0 : w1.cell? ⟨g, 51, none⟩ = some (.func (.func 65) #[] #[]) := (cell_of_row _ _ _ _ _ _ hg).trans rfl; have HB1 := Aside0.mk (below_step HB.out hb); clear hg hI hb) | (go_at_call 65; refine (rem_calls _ _ _ _).mono ?_; rintro e w' ⟨rfl, hb⟩; have HB2 := Aside0.mk (below_step HB1.out hb); clear hb))
  go_ret
  exact ⟨rfl, HB2.out⟩
set_option maxHeartbeats 1000000 in
set_option maxRecDepth 100000 in
theorem comp_13 (t x y : Int) (w : World) : Calls Try.prog 20 #[.int .i64 13, .int .i64 t, .int .u32 x, .int .u32 y] w fun e w' => e = .returned (.int .u32 (onBitsT t (Go.bits .and .u32 x y))) ∧ Below w.heap.size w w' := by
  have HB := Aside0.mk (Below.refl w.heap.size w)
  have eqn := eql_nilFunc
  have eqf := eql_func
  go_enter Try.func20, Try.ntmps20
  go_wp2_with (first | (go_at_call 33; refine (opRows_calls _).mono ?_; rintro e w1 ⟨g, b0, b1, b2, b3, b4, b5, rfl, hg, hI, hb⟩; have hc0 : w1.cell? ⟨g, 55, none⟩ = some (.func (.func 86) #[] #[.pointer (some ⟨b3, 0, none⟩)]) := (cell_of_row _ _ _ _ _ _ hg).trans rfl; have hbx : w1.cell? ⟨b3, 0, none⟩ = some (.func (.func 67) #[] #[]) := (cell_of_row _ _ _ _ _ _ (hI (b3, 67) (by simp))).trans rfl; have HB1 := Aside0.mk (below_step HB.out hb); clear hg hI hb) | (go_at_call 86; refine (on_and _ _ _ _ _ (by assumption)).mono ?_; rintro e w' ⟨rfl, rfl⟩))
  go_ret
  exact ⟨rfl, HB1.out⟩
set_option maxHeartbeats 1000000 in
set_option maxRecDepth 100000 in
theorem comp_14 (t x y : Int) (w : World) : Calls Try.prog 20 #[.int .i64 14, .int .i64 t, .int .u32 x, .int .u32 y] w fun e w' => e = .returned (.int .u32 (onBitsT t (Go.bits .or .u32 x y))) ∧ Below w.heap.size w w' := by
  have HB := Aside0.mk (Below.refl w.heap.size w)
  have eqn := eql_nilFunc
  have eqf := eql_func
  go_enter Try.func20, Try.ntmps20
  go_wp2_with (first | (go_at_call 33; refine (opRows_calls _).mono ?_; rintro e w1 ⟨g, b0, b1, b2, b3, b4, b5, rfl, hg, hI, hb⟩; have hc0 : w1.cell? ⟨g, 59, none⟩ = some (.func (.func 86) #[] #[.pointer (some ⟨b4, 0, none⟩)]) := (cell_of_row _ _ _ _ _ _ hg).trans rfl; have hbx : w1.cell? ⟨b4, 0, none⟩ = some (.func (.func 68) #[] #[]) := (cell_of_row _ _ _ _ _ _ (hI (b4, 68) (by simp))).trans rfl; have HB1 := Aside0.mk (below_step HB.out hb); clear hg hI hb) | (go_at_call 86; refine (on_or _ _ _ _ _ (by assumption)).mono ?_; rintro e w' ⟨rfl, rfl⟩))
  go_ret
  exact ⟨rfl, HB1.out⟩
set_option maxHeartbeats 1000000 in
set_option maxRecDepth 100000 in
theorem comp_15 (t x y : Int) (w : World) : Calls Try.prog 20 #[.int .i64 15, .int .i64 t, .int .u32 x, .int .u32 y] w fun e w' => e = .returned (.int .u32 (onBitsT t (Go.bits .xor .u32 x y))) ∧ Below w.heap.size w w' := by
  have HB := Aside0.mk (Below.refl w.heap.size w)
  have eqn := eql_nilFunc
  have eqf := eql_func
  go_enter Try.func20, Try.ntmps20
  go_wp2_with (first | (go_at_call 33; refine (opRows_calls _).mono ?_; rintro e w1 ⟨g, b0, b1, b2, b3, b4, b5, rfl, hg, hI, hb⟩; have hc0 : w1.cell? ⟨g, 63, none⟩ = some (.func (.func 86) #[] #[.pointer (some ⟨b5, 0, none⟩)]) := (cell_of_row _ _ _ _ _ _ hg).trans rfl; have hbx : w1.cell? ⟨b5, 0, none⟩ = some (.func (.func 69) #[] #[]) := (cell_of_row _ _ _ _ _ _ (hI (b5, 69) (by simp))).trans rfl; have HB1 := Aside0.mk (below_step HB.out hb); clear hg hI hb) | (go_at_call 86; refine (on_xor _ _ _ _ _ (by assumption)).mono ?_; rintro e w' ⟨rfl, rfl⟩))
  go_ret
  exact ⟨rfl, HB1.out⟩
set_option maxHeartbeats 1000000 in
set_option maxRecDepth 100000 in
theorem comp_16 (t x y : Int) (w : World) : Calls Try.prog 20 #[.int .i64 16, .int .i64 t, .int .u32 x, .int .u32 y] w fun e w' => e = .returned (.int .u32 (turnT t x)) ∧ Below w.heap.size w w' := by
  have HB := Aside0.mk (Below.refl w.heap.size w)
  have eqn := eql_nilFunc
  have eqf := eql_func
  go_enter Try.func20, Try.ntmps20
  go_wp2_with (first | (go_at_call 33; refine (opRows_calls _).mono ?_; rintro e w1 ⟨g, b0, b1, b2, b3, b4, b5, rfl, hg, hI, hb⟩; have hc0 : w1.cell? ⟨g, 67, none⟩ = some (.func (.func 70) #[] #[]) := (cell_of_row _ _ _ _ _ _ hg).trans rfl; have HB1 := Aside0.mk (below_step HB.out hb); clear hg hI hb) | (go_at_call 70; refine (impl_turned.calls _ _ _ _ _ (turn_f _ _ _)).mono ?_; rintro e w' ⟨rfl, ⟨⟨nd, rfl⟩⟩⟩; have HB2 := Aside0.mk (pw_below_drewN HB1.out nd)))
  go_ret
  exact ⟨rfl, HB2.out⟩
set_option maxHeartbeats 1000000 in
set_option maxRecDepth 100000 in
theorem comp_17 (t x y : Int) (w : World) : Calls Try.prog 20 #[.int .i64 17, .int .i64 t, .int .u32 x, .int .u32 y] w fun e w' => e = .returned (.int .u32 ((x * 2 ^ (Go.bits .and .u32 y 31).toNat) % 4294967296)) ∧ Below w.heap.size w w' := by
  have HB := Aside0.mk (Below.refl w.heap.size w)
  have eqn := eql_nilFunc
  have eqf := eql_func
  go_enter Try.func20, Try.ntmps20
  go_wp2_with (first | (go_at_call 33; refine (opRows_calls _).mono ?_; rintro e w1 ⟨g, b0, b1, b2, b3, b4, b5, rfl, hg, hI, hb⟩; have hc0 : w1.cell? ⟨g, 71, none⟩ = some (.func (.func 71) #[] #[]) := (cell_of_row _ _ _ _ _ _ hg).trans rfl; have HB1 := Aside0.mk (below_step HB.out hb); clear hg hI hb) | (go_at_call 71; refine (cl_shl _ _ _ _ rfl (and31_lo _) (and31_hi _) _).mono ?_; rintro e w' ⟨rfl, rfl⟩))
  go_ret
  exact ⟨rfl, HB1.out⟩
set_option maxHeartbeats 1000000 in
set_option maxRecDepth 100000 in
theorem comp_18 (t x y : Int) (w : World) : Calls Try.prog 20 #[.int .i64 18, .int .i64 t, .int .u32 x, .int .u32 y] w fun e w' => e = .returned (.int .u32 (x / 2 ^ (Go.bits .and .u32 y 31).toNat)) ∧ Below w.heap.size w w' := by
  have HB := Aside0.mk (Below.refl w.heap.size w)
  have eqn := eql_nilFunc
  have eqf := eql_func
  go_enter Try.func20, Try.ntmps20
  go_wp2_with (first | (go_at_call 33; refine (opRows_calls _).mono ?_; rintro e w1 ⟨g, b0, b1, b2, b3, b4, b5, rfl, hg, hI, hb⟩; have hc0 : w1.cell? ⟨g, 75, none⟩ = some (.func (.func 72) #[] #[]) := (cell_of_row _ _ _ _ _ _ hg).trans rfl; have HB1 := Aside0.mk (below_step HB.out hb); clear hg hI hb) | (go_at_call 72; refine (cl_shr _ _ _ _ rfl (and31_lo _) (and31_hi _) _).mono ?_; rintro e w' ⟨rfl, rfl⟩))
  go_ret
  exact ⟨rfl, HB1.out⟩
set_option maxHeartbeats 1000000 in
set_option maxRecDepth 100000 in
theorem comp_19 (t x y : Int) (w : World) : Calls Try.prog 20 #[.int .i64 19, .int .i64 t, .int .u32 x, .int .u32 y] w fun e w' => e = .returned (.int .u32 ((-x) % 4294967296)) ∧ Below w.heap.size w w' := by
  have HB := Aside0.mk (Below.refl w.heap.size w)
  have eqn := eql_nilFunc
  have eqf := eql_func
  go_enter Try.func20, Try.ntmps20
  go_wp2_with (first | (go_at_call 33; refine (opRows_calls _).mono ?_; rintro e w1 ⟨g, b0, b1, b2, b3, b4, b5, rfl, hg, hI, hb⟩; have hc0 : w1.cell? ⟨g, 79, none⟩ = some (.func (.func 73) #[] #[]) := (cell_of_row _ _ _ _ _ _ hg).trans rfl; have HB1 := Aside0.mk (below_step HB.out hb); clear hg hI hb) | (go_at_call 73; refine (cl_neg _ _ _ _).mono ?_; rintro e w' ⟨rfl, rfl⟩))
  go_ret
  exact ⟨rfl, HB1.out⟩
set_option maxHeartbeats 1000000 in
set_option maxRecDepth 100000 in
theorem comp_20 (t x y : Int) (w : World) : Calls Try.prog 20 #[.int .i64 20, .int .i64 t, .int .u32 x, .int .u32 y] w fun e w' => e = .returned (.int .u32 (eqT t x y)) ∧ Below w.heap.size w w' := by
  have HB := Aside0.mk (Below.refl w.heap.size w)
  have eqn := eql_nilFunc
  have eqf := eql_func
  go_enter Try.func20, Try.ntmps20
  go_wp2_with (first | (go_at_call 33; refine (opRows_calls _).mono ?_; rintro e w1 ⟨g, b0, b1, b2, b3, b4, b5, rfl, hg, hI, hb⟩; have hc0 : w1.cell? ⟨g, 83, none⟩ = some (.func (.func 74) #[] #[]) := (cell_of_row _ _ _ _ _ _ hg).trans rfl; have HB1 := Aside0.mk (below_step HB.out hb); clear hg hI hb) | (go_at_call 74; refine (impl_equal.calls _ _ _ _ _ (eq_f _ _ _)).mono ?_; rintro e w' ⟨rfl, ⟨⟨nd, rfl⟩⟩⟩; have HB2 := Aside0.mk (pw_below_drewN HB1.out nd)))
  go_ret
  exact ⟨rfl, HB2.out⟩
set_option maxHeartbeats 1000000 in
set_option maxRecDepth 100000 in
theorem comp_21 (t x y : Int) (w : World) : Calls Try.prog 20 #[.int .i64 21, .int .i64 t, .int .u32 x, .int .u32 y] w fun e w' => e = .returned (.int .u32 (lessT t x y)) ∧ Below w.heap.size w w' := by
  have HB := Aside0.mk (Below.refl w.heap.size w)
  have eqn := eql_nilFunc
  have eqf := eql_func
  go_enter Try.func20, Try.ntmps20
  go_wp2_with (first | (go_at_call 33; refine (opRows_calls _).mono ?_; rintro e w1 ⟨g, b0, b1, b2, b3, b4, b5, rfl, hg, hI, hb⟩; have hc0 : w1.cell? ⟨g, 87, none⟩ = some (.func (.func 75) #[] #[]) := (cell_of_row _ _ _ _ _ _ hg).trans rfl; have HB1 := Aside0.mk (below_step HB.out hb); clear hg hI hb) | (go_at_call 75; refine (impl_lesser.calls _ _ _ _ _ (less_f _ _ _)).mono ?_; rintro e w' ⟨rfl, ⟨⟨nd, rfl⟩⟩⟩; have HB2 := Aside0.mk (pw_below_drewN HB1.out nd)))
  go_ret
  exact ⟨rfl, HB2.out⟩
set_option maxHeartbeats 1000000 in
set_option maxRecDepth 100000 in
theorem comp_22 (t x y : Int) (w : World) : Calls Try.prog 20 #[.int .i64 22, .int .i64 t, .int .u32 x, .int .u32 y] w fun e w' => e = .returned (.int .u32 (0)) ∧ Below w.heap.size w w' := by
  have HB := Aside0.mk (Below.refl w.heap.size w)
  have eqn := eql_nilFunc
  have eqf := eql_func
  go_enter Try.func20, Try.ntmps20
  go_wp2_with (first | (go_at_call 33; refine (opRows_calls _).mono ?_; rintro e w1 ⟨g, b0, b1, b2, b3, b4, b5, rfl, hg, hI, hb⟩; have hc0 : w1.cell? ⟨g, 91, none⟩ = some (.nilFunc) := (cell_of_row _ _ _ _ _ _ hg).trans rfl; have HB1 := Aside0.mk (below_step HB.out hb); clear hg hI hb))
  go_ret
  exact ⟨rfl, HB1.out⟩
set_option maxHeartbeats 1000000 in
set_option maxRecDepth 100000 in
theorem comp_23 (t x y : Int) (w : World) : Calls Try.prog 20 #[.int .i64 23, .int .i64 t, .int .u32 x, .int .u32 y] w fun e w' => e = .returned (.int .u32 (0)) ∧ Below w.heap.size w w' := by
  have HB := Aside0.mk (Below.refl w.heap.size w)
  have eqn := eql_nilFunc
  have eqf := eql_func
  go_enter Try.func20, Try.ntmps20
  go_wp2_with (first | (go_at_call 33; refine (opRows_calls _).mono ?_; rintro e w1 ⟨g, b0, b1, b2, b3, b4, b5, rfl, hg, hI, hb⟩; have hc0 : w1.cell? ⟨g, 95, none⟩ = some (.nilFunc) := (cell_of_row _ _ _ _ _ _ hg).trans rfl; have HB1 := Aside0.mk (below_step HB.out hb); clear hg hI hb))
  go_ret
  exact ⟨rfl, HB1.out⟩
set_option maxHeartbeats 1000000 in
set_option maxRecDepth 100000 in
theorem comp_24 (t x y : Int) (w : World) : Calls Try.prog 20 #[.int .i64 24, .int .i64 t, .int .u32 x, .int .u32 y] w fun e w' => e = .returned (.int .u32 (0)) ∧ Below w.heap.size w w' := by
  have HB := Aside0.mk (Below.refl w.heap.size w)
  have eqn := eql_nilFunc
  have eqf := eql_func
  go_enter Try.func20, Try.ntmps20
  go_wp2_with (first | (go_at_call 33; refine (opRows_calls _).mono ?_; rintro e w1 ⟨g, b0, b1, b2, b3, b4, b5, rfl, hg, hI, hb⟩; have hc0 : w1.cell? ⟨g, 99, none⟩ = some (.nilFunc) := (cell_of_row _ _ _ _ _ _ hg).trans rfl; have HB1 := Aside0.mk (below_step HB.out hb); clear hg hI hb))
  go_ret
  exact ⟨rfl, HB1.out⟩
set_option maxHeartbeats 1000000 in
set_option maxRecDepth 100000 in
theorem comp_25 (t x y : Int) (w : World) : Calls Try.prog 20 #[.int .i64 25, .int .i64 t, .int .u32 x, .int .u32 y] w fun e w' => e = .returned (.int .u32 (0)) ∧ Below w.heap.size w w' := by
  have HB := Aside0.mk (Below.refl w.heap.size w)
  have eqn := eql_nilFunc
  have eqf := eql_func
  go_enter Try.func20, Try.ntmps20
  go_wp2_with (first | (go_at_call 33; refine (opRows_calls _).mono ?_; rintro e w1 ⟨g, b0, b1, b2, b3, b4, b5, rfl, hg, hI, hb⟩; have hc0 : w1.cell? ⟨g, 103, none⟩ = some (.nilFunc) := (cell_of_row _ _ _ _ _ _ hg).trans rfl; have HB1 := Aside0.mk (below_step HB.out hb); clear hg hI hb))
  go_ret
  exact ⟨rfl, HB1.out⟩
set_option maxHeartbeats 1000000 in
set_option maxRecDepth 100000 in
theorem comp_26 (t x y : Int) (w : World) : Calls Try.prog 20 #[.int .i64 26, .int .i64 t, .int .u32 x, .int .u32 y] w fun e w' => e = .returned (.int .u32 (0)) ∧ Below w.heap.size w w' := by
  have HB := Aside0.mk (Below.refl w.heap.size w)
  have eqn := eql_nilFunc
  have eqf := eql_func
  go_enter Try.func20, Try.ntmps20
  go_wp2_with (first | (go_at_call 33; refine (opRows_calls _).mono ?_; rintro e w1 ⟨g, b0, b1, b2, b3, b4, b5, rfl, hg, hI, hb⟩; have hc0 : w1.cell? ⟨g, 107, none⟩ = some (.nilFunc) := (cell_of_row _ _ _ _ _ _ hg).trans rfl; have HB1 := Aside0.mk (below_step HB.out hb); clear hg hI hb))
  go_ret
  exact ⟨rfl, HB1.out⟩
set_option maxHeartbeats 1000000 in
set_option maxRecDepth 100000 in
theorem comp_27 (t x y : Int) (w : World) : Calls Try.prog 20 #[.int .i64 27, .int .i64 t, .int .u32 x, .int .u32 y] w fun e w' => e = .returned (.int .u32 (0)) ∧ Below w.heap.size w w' := by
  have HB := Aside0.mk (Below.refl w.heap.size w)
  have eqn := eql_nilFunc
  have eqf := eql_func
  go_enter Try.func20, Try.ntmps20
  go_wp2_with (first | (go_at_call 33; refine (opRows_calls _).mono ?_; rintro e w1 ⟨g, b0, b1, b2, b3, b4, b5, rfl, hg, hI, hb⟩; have hc0 : w1.cell? ⟨g, 111, none⟩ = some (.nilFunc) := (cell_of_row _ _ _ _ _ _ hg).trans rfl; have HB1 := Aside0.mk (below_step HB.out hb); clear hg hI hb))
  go_ret
  exact ⟨rfl, HB1.out⟩
set_option maxHeartbeats 1000000 in
set_option maxRecDepth 100000 in
theorem comp_28 (t x y : Int) (w : World) : Calls Try.prog 20 #[.int .i64 28, .int .i64 t, .int .u32 x, .int .u32 y] w fun e w' => e = .returned (.int .u32 (0)) ∧ Below w.heap.size w w' := by
  have HB := Aside0.mk (Below.refl w.heap.size w)
  have eqn := eql_nilFunc
  have eqf := eql_func
  go_enter Try.func20, Try.ntmps20
  go_wp2_with (first | (go_at_call 33; refine (opRows_calls _).mono ?_; rintro e w1 ⟨g, b0, b1, b2, b3, b4, b5, rfl, hg, hI, hb⟩; have hc0 : w1.cell? ⟨g, 115, none⟩ = some (.nilFunc) := (cell_of_row _ _ _ _ _ _ hg).trans rfl; have HB1 := Aside0.mk (below_step HB.out hb); clear hg hI hb))
  go_ret
  exact ⟨rfl, HB1.out⟩
set_option maxHeartbeats 1000000 in
set_option maxRecDepth 100000 in
theorem comp_29 (t x y : Int) (w : World) : Calls Try.prog 20 #[.int .i64 29, .int .i64 t, .int .u32 x, .int .u32 y] w fun e w' => e = .returned (.int .u32 (0)) ∧ Below w.heap.size w w' := by
  have HB := Aside0.mk (Below.refl w.heap.size w)
  have eqn := eql_nilFunc
  have eqf := eql_func
  go_enter Try.func20, Try.ntmps20
  go_wp2_with (first | (go_at_call 33; refine (opRows_calls _).mono ?_; rintro e w1 ⟨g, b0, b1, b2, b3, b4, b5, rfl, hg, hI, hb⟩; have hc0 : w1.cell? ⟨g, 119, none⟩ = some (.nilFunc) := (cell_of_row _ _ _ _ _ _ hg).trans rfl; have HB1 := Aside0.mk (below_step HB.out hb); clear hg hI hb))
  go_ret
  exact ⟨rfl, HB1.out⟩
set_option maxHeartbeats 1000000 in
set_option maxRecDepth 100000 in
theorem comp_out (a0 t x y : Int) (h : a0 < 0 ∨ 29 < a0) (w : World) : Calls Try.prog 20 #[.int .i64 a0, .int .i64 t, .int .u32 x, .int .u32 y] w fun e w' => e = .returned (.int .u32 0) ∧ Below w.heap.size w w' := by
  have HB := Aside0.mk (Below.refl w.heap.size w)
  rcases h with h | h
  · have b1 : decide (a0 < 0) = true := decide_eq_true h
    go_enter Try.func20, Try.ntmps20
    go_wp2
    go_ret
    exact ⟨rfl, HB.out⟩
  · have b1 : decide (a0 < 0) = false := decide_eq_false (by omega)
    have b2 : decide (29 < a0) = true := decide_eq_true h
    go_enter Try.func20, Try.ntmps20
    go_wp2
    go_ret
    exact ⟨rfl, HB.out⟩
def compT (a t x y : Int) : Int :=
  if a = 8 then (onNumbersT t ((x + y) % 4294967296)) else
  if a = 9 then (onNumbersT t ((x - y) % 4294967296)) else
  if a = 10 then (onNumbersT t ((x * y) % 4294967296)) else
  if a = 11 then (divT t x y) else
  if a = 12 then (remT t x y) else
  if a = 13 then (onBitsT t (Go.bits .and .u32 x y)) else
  if a = 14 then (onBitsT t (Go.bits .or .u32 x y)) else
  if a = 15 then (onBitsT t (Go.bits .xor .u32 x y)) else
  if a = 16 then (turnT t x) else
  if a = 17 then ((x * 2 ^ (Go.bits .and .u32 y 31).toNat) % 4294967296) else
  if a = 18 then (x / 2 ^ (Go.bits .and .u32 y 31).toNat) else
  if a = 19 then ((-x) % 4294967296) else
  if a = 20 then (eqT t x y) else
  if a = 21 then (lessT t x y) else
  0
def impl_Compute.f (a0 a1 a2 a3 : Int) : Option (Int) := some (compT a0 a1 a2 a3)
theorem impl_Compute.calls (a0 a1 a2 a3 : Int) (r : Int) (w : World) (h : impl_Compute.f a0 a1 a2 a3 = some r) :
    Calls Try.prog 20 #[.int .i64 a0, .int .i64 a1, .int .u32 a2, .int .u32 a3] w fun e w' => e = .returned (.int .u32 r) ∧ Below w.heap.size w w' := by
  obtain rfl : compT a0 a1 a2 a3 = r := Option.some.inj h
  clear h
  by_cases out : a0 < 0 ∨ 29 < a0
  · have e : compT a0 a1 a2 a3 = 0 := by
      unfold compT
      repeat rw [if_neg (by omega)]
    rw [e]
    exact comp_out a0 a1 a2 a3 out w
  · have hc : a0 = 0 ∨ a0 = 1 ∨ a0 = 2 ∨ a0 = 3 ∨ a0 = 4 ∨ a0 = 5 ∨ a0 = 6 ∨ a0 = 7 ∨ a0 = 8 ∨ a0 = 9 ∨ a0 = 10 ∨ a0 = 11 ∨ a0 = 12 ∨ a0 = 13 ∨ a0 = 14 ∨ a0 = 15 ∨ a0 = 16 ∨ a0 = 17 ∨ a0 = 18 ∨ a0 = 19 ∨ a0 = 20 ∨ a0 = 21 ∨ a0 = 22 ∨ a0 = 23 ∨ a0 = 24 ∨ a0 = 25 ∨ a0 = 26 ∨ a0 = 27 ∨ a0 = 28 ∨ a0 = 29 := by omega
    rcases hc with rfl | rfl | rfl | rfl | rfl | rfl | rfl | rfl | rfl | rfl | rfl | rfl | rfl | rfl | rfl | rfl | rfl | rfl | rfl | rfl | rfl | rfl | rfl | rfl | rfl | rfl | rfl | rfl | rfl | rfl
    · exact comp_0 a1 a2 a3 w
    · exact comp_1 a1 a2 a3 w
    · exact comp_2 a1 a2 a3 w
    · exact comp_3 a1 a2 a3 w
    · exact comp_4 a1 a2 a3 w
    · exact comp_5 a1 a2 a3 w
    · exact comp_6 a1 a2 a3 w
    · exact comp_7 a1 a2 a3 w
    · exact comp_8 a1 a2 a3 w
    · exact comp_9 a1 a2 a3 w
    · exact comp_10 a1 a2 a3 w
    · exact comp_11 a1 a2 a3 w
    · exact comp_12 a1 a2 a3 w
    · exact comp_13 a1 a2 a3 w
    · exact comp_14 a1 a2 a3 w
    · exact comp_15 a1 a2 a3 w
    · exact comp_16 a1 a2 a3 w
    · exact comp_17 a1 a2 a3 w
    · exact comp_18 a1 a2 a3 w
    · exact comp_19 a1 a2 a3 w
    · exact comp_20 a1 a2 a3 w
    · exact comp_21 a1 a2 a3 w
    · exact comp_22 a1 a2 a3 w
    · exact comp_23 a1 a2 a3 w
    · exact comp_24 a1 a2 a3 w
    · exact comp_25 a1 a2 a3 w
    · exact comp_26 a1 a2 a3 w
    · exact comp_27 a1 a2 a3 w
    · exact comp_28 a1 a2 a3 w
    · exact comp_29 a1 a2 a3 w
end Go.Proofs.Ytlnlbncinjiinaa.M
