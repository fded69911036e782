/- Of this session: contracts of functions that the print does not take. -/
import Derived.Test.YtlnlbncinjiinaaM0
import Derived.Test.YtlnlbncinjiinaaM1
import Derived.Test.YtlnlbncinjiinaaGvClosures
namespace Go.Proofs.Ytlnlbncinjiinaa.M
open Go.RowKit Go.Proofs.YtlnlbncinjiinaaW.PrintWords Go.Proofs.YtlnlbncinjiinaaW.PrintLast Go.Proofs.YtlnlbncinjiinaaW.PrintMore
attribute [local go_sem] Go.Proofs.YtlnlbncinjiinaaZ.u32_signed Go.Proofs.YtlnlbncinjiinaaZ.u32_max
set_option linter.unusedVariables false
set_option linter.unusedSimpArgs false
theorem div_s0 (gx gy : Nat) (x y : Int) (w : World) (hx : w.cell? ⟨gx, 0, none⟩ = some (.int .u32 x)) (hy : w.cell? ⟨gy, 0, none⟩ = some (.int .u32 y)) (h : (wrap32 y == 0) = true) : Calls Try.prog 82 #[.pointer (some ⟨gy, 0, none⟩), .pointer (some ⟨gx, 0, none⟩)] w fun e w' => e = .returned (.int .i32 (0)) ∧ w' = w := by
  go_enter Try.func82, Try.ntmps82
  go_wp2
  go_ret
  exact ⟨rfl, rfl⟩
theorem div_sm (gx gy : Nat) (x y : Int) (w : World) (hx : w.cell? ⟨gx, 0, none⟩ = some (.int .u32 x)) (hy : w.cell? ⟨gy, 0, none⟩ = some (.int .u32 y)) (h : (wrap32 y == 0) = false) (h2 : (wrap32 y == -1) = true) : Calls Try.prog 82 #[.pointer (some ⟨gy, 0, none⟩), .pointer (some ⟨gx, 0, none⟩)] w fun e w' => e = .returned (.int .i32 (wrap32 (-(wrap32 x)))) ∧ w' = w := by
  go_enter Try.func82, Try.ntmps82
  go_wp2
  go_ret
  exact ⟨rfl, rfl⟩
theorem div_sd (gx gy : Nat) (x y : Int) (w : World) (hx : w.cell? ⟨gx, 0, none⟩ = some (.int .u32 x)) (hy : w.cell? ⟨gy, 0, none⟩ = some (.int .u32 y)) (h : (wrap32 y == 0) = false) (h2 : (wrap32 y == -1) = false) (hn : ¬ wrap32 y = 0) : Calls Try.prog 82 #[.pointer (some ⟨gy, 0, none⟩), .pointer (some ⟨gx, 0, none⟩)] w fun e w' => e = .returned (.int .i32 (wrap32 (Int.tdiv (wrap32 x) (wrap32 y)))) ∧ w' = w := by
  go_enter Try.func82, Try.ntmps82
  go_wp2
  go_ret
  exact ⟨rfl, rfl⟩
theorem div_u0 (gx gy : Nat) (x y : Int) (w : World) (hx : w.cell? ⟨gx, 0, none⟩ = some (.int .u32 x)) (hy : w.cell? ⟨gy, 0, none⟩ = some (.int .u32 y)) (h : (y == 0) = true) : Calls Try.prog 83 #[.pointer (some ⟨gy, 0, none⟩), .pointer (some ⟨gx, 0, none⟩)] w fun e w' => e = .returned (.int .u32 (0)) ∧ w' = w := by
  go_enter Try.func83, Try.ntmps83
  go_wp2
  go_ret
  exact ⟨rfl, rfl⟩
theorem div_ud (gx gy : Nat) (x y : Int) (w : World) (hx : w.cell? ⟨gx, 0, none⟩ = some (.int .u32 x)) (hy : w.cell? ⟨gy, 0, none⟩ = some (.int .u32 y)) (h : (y == 0) = false) (hn : ¬ y = 0) : Calls Try.prog 83 #[.pointer (some ⟨gy, 0, none⟩), .pointer (some ⟨gx, 0, none⟩)] w fun e w' => e = .returned (.int .u32 ((Int.tdiv x y) % 4294967296)) ∧ w' = w := by
  go_enter Try.func83, Try.ntmps83
  go_wp2
  go_ret
  exact ⟨rfl, rfl⟩
theorem num_div_s0 (gx gy : Nat) (x y : Int) (w : World) (hx : w.cell? ⟨gx, 0, none⟩ = some (.int .u32 x)) (hy : w.cell? ⟨gy, 0, none⟩ = some (.int .u32 y)) (h : (wrap32 y == 0) = true) : Calls Try.prog 81 #[.int .i64 2, .func (.func 82) #[] #[.pointer (some ⟨gy, 0, none⟩), .pointer (some ⟨gx, 0, none⟩)], .func (.func 83) #[] #[.pointer (some ⟨gy, 0, none⟩), .pointer (some ⟨gx, 0, none⟩)]] w fun e w' => e = .returned (.int .u32 (0)) ∧ w' = w := by
  go_enter Try.func81, Try.ntmps81
  go_wp2_with (go_at_call 82; refine (div_s0 gx gy x y _ (by go_simp) (by go_simp) h).mono ?_; rintro e w' ⟨rfl, rfl⟩)
  go_ret
  exact ⟨rfl, rfl⟩
theorem div_ts0 (x y : Int) (w : World) (h : (wrap32 y == 0) = true) : Calls Try.prog 64 #[.int .i64 2, .int .u32 x, .int .u32 y] w fun e w' => e = .returned (.int .u32 (0)) ∧ Below w.heap.size w w' := by
  have HB := Aside0.mk (Below.refl w.heap.size w)
  go_enter Try.func64, Try.ntmps64
  go_wp2_with (go_at_call 81; refine (num_div_s0 _ _ x y _ (by go_simp) (by go_simp) h).mono ?_; rintro e w' ⟨rfl, rfl⟩)
  go_ret
  exact ⟨rfl, below_alloc (below_alloc HB.out _) _⟩
theorem num_div_sm (gx gy : Nat) (x y : Int) (w : World) (hx : w.cell? ⟨gx, 0, none⟩ = some (.int .u32 x)) (hy : w.cell? ⟨gy, 0, none⟩ = some (.int .u32 y)) (h : (wrap32 y == 0) = false) (h2 : (wrap32 y == -1) = true) : Calls Try.prog 81 #[.int .i64 2, .func (.func 82) #[] #[.pointer (some ⟨gy, 0, none⟩), .pointer (some ⟨gx, 0, none⟩)], .func (.func 83) #[] #[.pointer (some ⟨gy, 0, none⟩), .pointer (some ⟨gx, 0, none⟩)]] w fun e w' => e = .returned (.int .u32 ((wrap32 (-(wrap32 x))) % 4294967296)) ∧ w' = w := by
  go_enter Try.func81, Try.ntmps81
  go_wp2_with (go_at_call 82; refine (div_sm gx gy x y _ (by go_simp) (by go_simp) h h2).mono ?_; rintro e w' ⟨rfl, rfl⟩)
  go_ret
  exact ⟨rfl, rfl⟩
theorem div_tsm (x y : Int) (w : World) (h : (wrap32 y == 0) = false) (h2 : (wrap32 y == -1) = true) : Calls Try.prog 64 #[.int .i64 2, .int .u32 x, .int .u32 y] w fun e w' => e = .returned (.int .u32 ((wrap32 (-(wrap32 x))) % 4294967296)) ∧ Below w.heap.size w w' := by
  have HB := Aside0.mk (Below.refl w.heap.size w)
  go_enter Try.func64, Try.ntmps64
  go_wp2_with (go_at_call 81; refine (num_div_sm _ _ x y _ (by go_simp) (by go_simp) h h2).mono ?_; rintro e w' ⟨rfl, rfl⟩)
  go_ret
  exact ⟨rfl, below_alloc (below_alloc HB.out _) _⟩
theorem num_div_sd (gx gy : Nat) (x y : Int) (w : World) (hx : w.cell? ⟨gx, 0, none⟩ = some (.int .u32 x)) (hy : w.cell? ⟨gy, 0, none⟩ = some (.int .u32 y)) (h : (wrap32 y == 0) = false) (h2 : (wrap32 y == -1) = false) (hn : ¬ wrap32 y = 0) : Calls Try.prog 81 #[.int .i64 2, .func (.func 82) #[] #[.pointer (some ⟨gy, 0, none⟩), .pointer (some ⟨gx, 0, none⟩)], .func (.func 83) #[] #[.pointer (some ⟨gy, 0, none⟩), .pointer (some ⟨gx, 0, none⟩)]] w fun e w' => e = .returned (.int .u32 ((wrap32 (Int.tdiv (wrap32 x) (wrap32 y))) % 4294967296)) ∧ w' = w := by
  go_enter Try.func81, Try.ntmps81
  go_wp2_with (go_at_call 82; refine (div_sd gx gy x y _ (by go_simp) (by go_simp) h h2 hn).mono ?_; rintro e w' ⟨rfl, rfl⟩)
  go_ret
  exact ⟨rfl, rfl⟩
theorem div_tsd (x y : Int) (w : World) (h : (wrap32 y == 0) = false) (h2 : (wrap32 y == -1) = false) (hn : ¬ wrap32 y = 0) : Calls Try.prog 64 #[.int .i64 2, .int .u32 x, .int .u32 y] w fun e w' => e = .returned (.int .u32 ((wrap32 (Int.tdiv (wrap32 x) (wrap32 y))) % 4294967296)) ∧ Below w.heap.size w w' := by
  have HB := Aside0.mk (Below.refl w.heap.size w)
  go_enter Try.func64, Try.ntmps64
  go_wp2_with (go_at_call 81; refine (num_div_sd _ _ x y _ (by go_simp) (by go_simp) h h2 hn).mono ?_; rintro e w' ⟨rfl, rfl⟩)
  go_ret
  exact ⟨rfl, below_alloc (below_alloc HB.out _) _⟩
theorem num_div_u0 (gx gy : Nat) (x y : Int) (w : World) (hx : w.cell? ⟨gx, 0, none⟩ = some (.int .u32 x)) (hy : w.cell? ⟨gy, 0, none⟩ = some (.int .u32 y)) (h : (y == 0) = true) : Calls Try.prog 81 #[.int .i64 3, .func (.func 82) #[] #[.pointer (some ⟨gy, 0, none⟩), .pointer (some ⟨gx, 0, none⟩)], .func (.func 83) #[] #[.pointer (some ⟨gy, 0, none⟩), .pointer (some ⟨gx, 0, none⟩)]] w fun e w' => e = .returned (.int .u32 (0)) ∧ w' = w := by
  go_enter Try.func81, Try.ntmps81
  go_wp2_with (go_at_call 83; refine (div_u0 gx gy x y _ (by go_simp) (by go_simp) h).mono ?_; rintro e w' ⟨rfl, rfl⟩)
  go_ret
  exact ⟨rfl, rfl⟩
theorem div_tu0 (x y : Int) (w : World) (h : (y == 0) = true) : Calls Try.prog 64 #[.int .i64 3, .int .u32 x, .int .u32 y] w fun e w' => e = .returned (.int .u32 (0)) ∧ Below w.heap.size w w' := by
  have HB := Aside0.mk (Below.refl w.heap.size w)
  go_enter Try.func64, Try.ntmps64
  go_wp2_with (go_at_call 81; refine (num_div_u0 _ _ x y _ (by go_simp) (by go_simp) h).mono ?_; rintro e w' ⟨rfl, rfl⟩)
  go_ret
  exact ⟨rfl, below_alloc (below_alloc HB.out _) _⟩
theorem num_div_ud (gx gy : Nat) (x y : Int) (w : World) (hx : w.cell? ⟨gx, 0, none⟩ = some (.int .u32 x)) (hy : w.cell? ⟨gy, 0, none⟩ = some (.int .u32 y)) (h : (y == 0) = false) (hn : ¬ y = 0) : Calls Try.prog 81 #[.int .i64 3, .func (.func 82) #[] #[.pointer (some ⟨gy, 0, none⟩), .pointer (some ⟨gx, 0, none⟩)], .func (.func 83) #[] #[.pointer (some ⟨gy, 0, none⟩), .pointer (some ⟨gx, 0, none⟩)]] w fun e w' => e = .returned (.int .u32 ((Int.tdiv x y) % 4294967296)) ∧ w' = w := by
  go_enter Try.func81, Try.ntmps81
  go_wp2_with (go_at_call 83; refine (div_ud gx gy x y _ (by go_simp) (by go_simp) h hn).mono ?_; rintro e w' ⟨rfl, rfl⟩)
  go_ret
  exact ⟨rfl, rfl⟩
theorem div_tud (x y : Int) (w : World) (h : (y == 0) = false) (hn : ¬ y = 0) : Calls Try.prog 64 #[.int .i64 3, .int .u32 x, .int .u32 y] w fun e w' => e = .returned (.int .u32 ((Int.tdiv x y) % 4294967296)) ∧ Below w.heap.size w w' := by
  have HB := Aside0.mk (Below.refl w.heap.size w)
  go_enter Try.func64, Try.ntmps64
  go_wp2_with (go_at_call 81; refine (num_div_ud _ _ x y _ (by go_simp) (by go_simp) h hn).mono ?_; rintro e w' ⟨rfl, rfl⟩)
  go_ret
  exact ⟨rfl, below_alloc (below_alloc HB.out _) _⟩
theorem num_div_no (t : Int) (f1 f2 : Value) (w : World) (h1 : (t == 2) = false) (h2 : (t == 3) = false) : Calls Try.prog 81 #[.int .i64 t, f1, f2] w fun e w' => e = .returned (.int .u32 0) ∧ w' = w := by
  go_enter Try.func81, Try.ntmps81
  go_wp2
  go_ret
  exact ⟨rfl, rfl⟩
theorem div_tno (t x y : Int) (w : World) (h1 : (t == 2) = false) (h2 : (t == 3) = false) : Calls Try.prog 64 #[.int .i64 t, .int .u32 x, .int .u32 y] w fun e w' => e = .returned (.int .u32 0) ∧ Below w.heap.size w w' := by
  have HB := Aside0.mk (Below.refl w.heap.size w)
  go_enter Try.func64, Try.ntmps64
  go_wp2_with (go_at_call 81; refine (num_div_no _ _ _ _ h1 h2).mono ?_; rintro e w' ⟨rfl, rfl⟩)
  go_ret
  exact ⟨rfl, below_alloc (below_alloc HB.out _) _⟩
def divT (t x y : Int) : Int := if t = 2 then (if wrap32 y = 0 then 0 else if wrap32 y = -1 then (wrap32 (-(wrap32 x))) % 4294967296 else (wrap32 (Int.tdiv (wrap32 x) (wrap32 y))) % 4294967296) else if t = 3 then (if y = 0 then 0 else (Int.tdiv x y) % 4294967296) else 0
theorem div_calls (t x y : Int) (w : World) : Calls Try.prog 64 #[.int .i64 t, .int .u32 x, .int .u32 y] w fun e w' => e = .returned (.int .u32 (divT t x y)) ∧ Below w.heap.size w w' := by
  unfold divT
  by_cases h2 : t = 2
  · subst h2
    rw [if_pos rfl]
    by_cases hy : wrap32 y = 0
    · rw [if_pos hy]; exact div_ts0 x y w (by simp [hy])
    · rw [if_neg hy]
      by_cases hm : wrap32 y = -1
      · rw [if_pos hm]; exact div_tsm x y w (by simp [hy]) (by simp [hm])
      · rw [if_neg hm]; exact div_tsd x y w (by simp [hy]) (by simp [hm]) hy
  · rw [if_neg h2]
    by_cases h3 : t = 3
    · subst h3
      rw [if_pos rfl]
      by_cases hy : y = 0
      · rw [if_pos hy]; exact div_tu0 x y w (by simp [hy])
      · rw [if_neg hy]; exact div_tud x y w (by simp [hy]) hy
    · rw [if_neg h3]; exact div_tno t x y w (by simp [h2]) (by simp [h3])
theorem rem_s0 (gx gy : Nat) (x y : Int) (w : World) (hx : w.cell? ⟨gx, 0, none⟩ = some (.int .u32 x)) (hy : w.cell? ⟨gy, 0, none⟩ = some (.int .u32 y)) (h : (wrap32 y == 0) = true) : Calls Try.prog 84 #[.pointer (some ⟨gy, 0, none⟩), .pointer (some ⟨gx, 0, none⟩)] w fun e w' => e = .returned (.int .i32 (0)) ∧ w' = w := by
  go_enter Try.func84, Try.ntmps84
  go_wp2
  go_ret
  exact ⟨rfl, rfl⟩
theorem rem_sm (gx gy : Nat) (x y : Int) (w : World) (hx : w.cell? ⟨gx, 0, none⟩ = some (.int .u32 x)) (hy : w.cell? ⟨gy, 0, none⟩ = some (.int .u32 y)) (h : (wrap32 y == 0) = false) (h2 : (wrap32 y == -1) = true) : Calls Try.prog 84 #[.pointer (some ⟨gy, 0, none⟩), .pointer (some ⟨gx, 0, none⟩)] w fun e w' => e = .returned (.int .i32 (0)) ∧ w' = w := by
  go_enter Try.func84, Try.ntmps84
  go_wp2
  go_ret
  exact ⟨rfl, rfl⟩
theorem rem_sd (gx gy : Nat) (x y : Int) (w : World) (hx : w.cell? ⟨gx, 0, none⟩ = some (.int .u32 x)) (hy : w.cell? ⟨gy, 0, none⟩ = some (.int .u32 y)) (h : (wrap32 y == 0) = false) (h2 : (wrap32 y == -1) = false) (hn : ¬ wrap32 y = 0) : Calls Try.prog 84 #[.pointer (some ⟨gy, 0, none⟩), .pointer (some ⟨gx, 0, none⟩)] w fun e w' => e = .returned (.int .i32 (Int.tmod (wrap32 x) (wrap32 y))) ∧ w' = w := by
  go_enter Try.func84, Try.ntmps84
  go_wp2
  go_ret
  exact ⟨rfl, rfl⟩
theorem rem_u0 (gx gy : Nat) (x y : Int) (w : World) (hx : w.cell? ⟨gx, 0, none⟩ = some (.int .u32 x)) (hy : w.cell? ⟨gy, 0, none⟩ = some (.int .u32 y)) (h : (y == 0) = true) : Calls Try.prog 85 #[.pointer (some ⟨gy, 0, none⟩), .pointer (some ⟨gx, 0, none⟩)] w fun e w' => e = .returned (.int .u32 (0)) ∧ w' = w := by
  go_enter Try.func85, Try.ntmps85
  go_wp2
  go_ret
  exact ⟨rfl, rfl⟩
theorem rem_ud (gx gy : Nat) (x y : Int) (w : World) (hx : w.cell? ⟨gx, 0, none⟩ = some (.int .u32 x)) (hy : w.cell? ⟨gy, 0, none⟩ = some (.int .u32 y)) (h : (y == 0) = false) (hn : ¬ y = 0) : Calls Try.prog 85 #[.pointer (some ⟨gy, 0, none⟩), .pointer (some ⟨gx, 0, none⟩)] w fun e w' => e = .returned (.int .u32 (Int.tmod x y)) ∧ w' = w := by
  go_enter Try.func85, Try.ntmps85
  go_wp2
  go_ret
  exact ⟨rfl, rfl⟩
theorem num_rem_s0 (gx gy : Nat) (x y : Int) (w : World) (hx : w.cell? ⟨gx, 0, none⟩ = some (.int .u32 x)) (hy : w.cell? ⟨gy, 0, none⟩ = some (.int .u32 y)) (h : (wrap32 y == 0) = true) : Calls Try.prog 81 #[.int .i64 2, .func (.func 84) #[] #[.pointer (some ⟨gy, 0, none⟩), .pointer (some ⟨gx, 0, none⟩)], .func (.func 85) #[] #[.pointer (some ⟨gy, 0, none⟩), .pointer (some ⟨gx, 0, none⟩)]] w fun e w' => e = .returned (.int .u32 (0)) ∧ w' = w := by
  go_enter Try.func81, Try.ntmps81
  go_wp2_with (go_at_call 84; refine (rem_s0 gx gy x y _ (by go_simp) (by go_simp) h).mono ?_; rintro e w' ⟨rfl, rfl⟩)
  go_ret
  exact ⟨rfl, rfl⟩
theorem rem_ts0 (x y : Int) (w : World) (h : (wrap32 y == 0) = true) : Calls Try.prog 65 #[.int .i64 2, .int .u32 x, .int .u32 y] w fun e w' => e = .returned (.int .u32 (0)) ∧ Below w.heap.size w w' := by
  have HB := Aside0.mk (Below.refl w.heap.size w)
  go_enter Try.func65, Try.ntmps65
  go_wp2_with (go_at_call 81; refine (num_rem_s0 _ _ x y _ (by go_simp) (by go_simp) h).mono ?_; rintro e w' ⟨rfl, rfl⟩)
  go_ret
  exact ⟨rfl, below_alloc (below_alloc HB.out _) _⟩
theorem num_rem_sm (gx gy : Nat) (x y : Int) (w : World) (hx : w.cell? ⟨gx, 0, none⟩ = some (.int .u32 x)) (hy : w.cell? ⟨gy, 0, none⟩ = some (.int .u32 y)) (h : (wrap32 y == 0) = false) (h2 : (wrap32 y == -1) = true) : Calls Try.prog 81 #[.int .i64 2, .func (.func 84) #[] #[.pointer (some ⟨gy, 0, none⟩), .pointer (some ⟨gx, 0, none⟩)], .func (.func 85) #[] #[.pointer (some ⟨gy, 0, none⟩), .pointer (some ⟨gx, 0, none⟩)]] w fun e w' => e = .returned (.int .u32 (0)) ∧ w' = w := by
  go_enter Try.func81, Try.ntmps81
  go_wp2_with (go_at_call 84; refine (rem_sm gx gy x y _ (by go_simp) (by go_simp) h h2).mono ?_; rintro e w' ⟨rfl, rfl⟩)
  go_ret
  exact ⟨rfl, rfl⟩
theorem rem_tsm (x y : Int) (w : World) (h : (wrap32 y == 0) = false) (h2 : (wrap32 y == -1) = true) : Calls Try.prog 65 #[.int .i64 2, .int .u32 x, .int .u32 y] w fun e w' => e = .returned (.int .u32 (0)) ∧ Below w.heap.size w w' := by
  have HB := Aside0.mk (Below.refl w.heap.size w)
  go_enter Try.func65, Try.ntmps65
  go_wp2_with (go_at_call 81; refine (num_rem_sm _ _ x y _ (by go_simp) (by go_simp) h h2).mono ?_; rintro e w' ⟨rfl, rfl⟩)
  go_ret
  exact ⟨rfl, below_alloc (below_alloc HB.out _) _⟩
theorem num_rem_sd (gx gy : Nat) (x y : Int) (w : World) (hx : w.cell? ⟨gx, 0, none⟩ = some (.int .u32 x)) (hy : w.cell? ⟨gy, 0, none⟩ = some (.int .u32 y)) (h : (wrap32 y == 0) = false) (h2 : (wrap32 y == -1) = false) (hn : ¬ wrap32 y = 0) : Calls Try.prog 81 #[.int .i64 2, .func (.func 84) #[] #[.pointer (some ⟨gy, 0, none⟩), .pointer (some ⟨gx, 0, none⟩)], .func (.func 85) #[] #[.pointer (some ⟨gy, 0, none⟩), .pointer (some ⟨gx, 0, none⟩)]] w fun e w' => e = .returned (.int .u32 ((Int.tmod (wrap32 x) (wrap32 y)) % 4294967296)) ∧ w' = w := by
  go_enter Try.func81, Try.ntmps81
  go_wp2_with (go_at_call 84; refine (rem_sd gx gy x y _ (by go_simp) (by go_simp) h h2 hn).mono ?_; rintro e w' ⟨rfl, rfl⟩)
  go_ret
  exact ⟨rfl, rfl⟩
theorem rem_tsd (x y : Int) (w : World) (h : (wrap32 y == 0) = false) (h2 : (wrap32 y == -1) = false) (hn : ¬ wrap32 y = 0) : Calls Try.prog 65 #[.int .i64 2, .int .u32 x, .int .u32 y] w fun e w' => e = .returned (.int .u32 ((Int.tmod (wrap32 x) (wrap32 y)) % 4294967296)) ∧ Below w.heap.size w w' := by
  have HB := Aside0.mk (Below.refl w.heap.size w)
  go_enter Try.func65, Try.ntmps65
  go_wp2_with (go_at_call 81; refine (num_rem_sd _ _ x y _ (by go_simp) (by go_simp) h h2 hn).mono ?_; rintro e w' ⟨rfl, rfl⟩)
  go_ret
  exact ⟨rfl, below_alloc (below_alloc HB.out _) _⟩
theorem num_rem_u0 (gx gy : Nat) (x y : Int) (w : World) (hx : w.cell? ⟨gx, 0, none⟩ = some (.int .u32 x)) (hy : w.cell? ⟨gy, 0, none⟩ = some (.int .u32 y)) (h : (y == 0) = true) : Calls Try.prog 81 #[.int .i64 3, .func (.func 84) #[] #[.pointer (some ⟨gy, 0, none⟩), .pointer (some ⟨gx, 0, none⟩)], .func (.func 85) #[] #[.pointer (some ⟨gy, 0, none⟩), .pointer (some ⟨gx, 0, none⟩)]] w fun e w' => e = .returned (.int .u32 (0)) ∧ w' = w := by
  go_enter Try.func81, Try.ntmps81
  go_wp2_with (go_at_call 85; refine (rem_u0 gx gy x y _ (by go_simp) (by go_simp) h).mono ?_; rintro e w' ⟨rfl, rfl⟩)
  go_ret
  exact ⟨rfl, rfl⟩
theorem rem_tu0 (x y : Int) (w : World) (h : (y == 0) = true) : Calls Try.prog 65 #[.int .i64 3, .int .u32 x, .int .u32 y] w fun e w' => e = .returned (.int .u32 (0)) ∧ Below w.heap.size w w' := by
  have HB := Aside0.mk (Below.refl w.heap.size w)
  go_enter Try.func65, Try.ntmps65
  go_wp2_with (go_at_call 81; refine (num_rem_u0 _ _ x y _ (by go_simp) (by go_simp) h).mono ?_; rintro e w' ⟨rfl, rfl⟩)
  go_ret
  exact ⟨rfl, below_alloc (below_alloc HB.out _) _⟩
theorem num_rem_ud (gx gy : Nat) (x y : Int) (w : World) (hx : w.cell? ⟨gx, 0, none⟩ = some (.int .u32 x)) (hy : w.cell? ⟨gy, 0, none⟩ = some (.int .u32 y)) (h : (y == 0) = false) (hn : ¬ y = 0) : Calls Try.prog 81 #[.int .i64 3, .func (.func 84) #[] #[.pointer (some ⟨gy, 0, none⟩), .pointer (some ⟨gx, 0, none⟩)], .func (.func 85) #[] #[.pointer (some ⟨gy, 0, none⟩), .pointer (some ⟨gx, 0, none⟩)]] w fun e w' => e = .returned (.int .u32 (Int.tmod x y)) ∧ w' = w := by
  go_enter Try.func81, Try.ntmps81
  go_wp2_with (go_at_call 85; refine (rem_ud gx gy x y _ (by go_simp) (by go_simp) h hn).mono ?_; rintro e w' ⟨rfl, rfl⟩)
  go_ret
  exact ⟨rfl, rfl⟩
theorem rem_tud (x y : Int) (w : World) (h : (y == 0) = false) (hn : ¬ y = 0) : Calls Try.prog 65 #[.int .i64 3, .int .u32 x, .int .u32 y] w fun e w' => e = .returned (.int .u32 (Int.tmod x y)) ∧ Below w.heap.size w w' := by
  have HB := Aside0.mk (Below.refl w.heap.size w)
  go_enter Try.func65, Try.ntmps65
  go_wp2_with (go_at_call 81; refine (num_rem_ud _ _ x y _ (by go_simp) (by go_simp) h hn).mono ?_; rintro e w' ⟨rfl, rfl⟩)
  go_ret
  exact ⟨rfl, below_alloc (below_alloc HB.out _) _⟩
theorem num_rem_no (t : Int) (f1 f2 : Value) (w : World) (h1 : (t == 2) = false) (h2 : (t == 3) = false) : Calls Try.prog 81 #[.int .i64 t, f1, f2] w fun e w' => e = .returned (.int .u32 0) ∧ w' = w := by
  go_enter Try.func81, Try.ntmps81
  go_wp2
  go_ret
  exact ⟨rfl, rfl⟩
theorem rem_tno (t x y : Int) (w : World) (h1 : (t == 2) = false) (h2 : (t == 3) = false) : Calls Try.prog 65 #[.int .i64 t, .int .u32 x, .int .u32 y] w fun e w' => e = .returned (.int .u32 0) ∧ Below w.heap.size w w' := by
  have HB := Aside0.mk (Below.refl w.heap.size w)
  go_enter Try.func65, Try.ntmps65
  go_wp2_with (go_at_call 81; refine (num_rem_no _ _ _ _ h1 h2).mono ?_; rintro e w' ⟨rfl, rfl⟩)
  go_ret
  exact ⟨rfl, below_alloc (below_alloc HB.out _) _⟩
def remT (t x y : Int) : Int := if t = 2 then (if wrap32 y = 0 then 0 else if wrap32 y = -1 then 0 else (Int.tmod (wrap32 x) (wrap32 y)) % 4294967296) else if t = 3 then (if y = 0 then 0 else Int.tmod x y) else 0
theorem rem_calls (t x y : Int) (w : World) : Calls Try.prog 65 #[.int .i64 t, .int .u32 x, .int .u32 y] w fun e w' => e = .returned (.int .u32 (remT t x y)) ∧ Below w.heap.size w w' := by
  unfold remT
  by_cases h2 : t = 2
  · subst h2
    rw [if_pos rfl]
    by_cases hy : wrap32 y = 0
    · rw [if_pos hy]; exact rem_ts0 x y w (by simp [hy])
    · rw [if_neg hy]
      by_cases hm : wrap32 y = -1
      · rw [if_pos hm]; exact rem_tsm x y w (by simp [hy]) (by simp [hm])
      · rw [if_neg hm]; exact rem_tsd x y w (by simp [hy]) (by simp [hm]) hy
  · rw [if_neg h2]
    by_cases h3 : t = 3
    · subst h3
      rw [if_pos rfl]
      by_cases hy : y = 0
      · rw [if_pos hy]; exact rem_tu0 x y w (by simp [hy])
      · rw [if_neg hy]; exact rem_tud x y w (by simp [hy]) hy
    · rw [if_neg h3]; exact rem_tno t x y w (by simp [h2]) (by simp [h3])
end Go.Proofs.Ytlnlbncinjiinaa.M
