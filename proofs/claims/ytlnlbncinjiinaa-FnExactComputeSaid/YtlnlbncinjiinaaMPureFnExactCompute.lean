/- Proved: the pure statement of the law FnExactCompute (over numbers and lists); no condition beside those of the statement. -/
import Derived.Test.YtlnlbncinjiinaaGvCompute
import Derived.Test.YtlnlbncinjiinaaM2
namespace Go.Proofs.Ytlnlbncinjiinaa.Pure
open Go.RowKit Go.Proofs.Ytlnlbncinjiinaa.M Go.Proofs.YtlnlbncinjiinaaW.PrintWords Go.Proofs.YtlnlbncinjiinaaW.PrintLast
-- BODY
set_option linter.unusedVariables false
set_option linter.unusedSimpArgs false
theorem spec_info_same (a0 : Int) : spec_Info.f a0 = some (infoT a0) := by
  by_cases out : a0 < 0 ∨ 29 < a0
  · have e : infoT a0 = ((⟨#[]⟩ : ByteArray), 0, 0) := by
      unfold infoT
      repeat rw [if_neg (by omega)]
    rw [e]
    unfold spec_Info.f
    rcases out with h | h
    · rw [if_pos h]
    · rw [if_neg (by omega), if_pos h]
  · have hc : ∃ n : Nat, n < 30 ∧ a0 = n := ⟨a0.toNat, by omega, by omega⟩
    obtain ⟨n, hn, rfl⟩ := hc
    match n, hn with
    | 0, _ | 1, _ | 2, _ | 3, _ | 4, _ | 5, _ | 6, _ | 7, _ | 8, _ | 9, _ | 10, _ | 11, _ | 12, _ | 13, _ | 14, _ | 15, _ | 16, _ | 17, _ | 18, _ | 19, _ | 20, _ | 21, _ | 22, _ | 23, _ | 24, _ | 25, _ | 26, _ | 27, _ | 28, _ | 29, _ => rfl
    | n + 30, h => omega
theorem u32_range {x : Int} (h : (Lit.int .u32 x).wf = true) : 0 ≤ x ∧ x ≤ 4294967295 := by
  simpa [Lit.wf, IntKind.min, IntKind.max, IntKind.signed, IntKind.bits] using h
theorem truth_f (b : Bool) : spec_l2Truth.f b = some (flagT b) := by cases b <;> rfl
theorem takes0 (t : Int) : spec_l2Takes.f 0 t = some false := rfl
theorem takes5 (t : Int) : spec_l2Takes.f 5 t = some (decide (t = 2 ∨ t = 3)) := by
  unfold spec_l2Takes.f
  rw [if_pos rfl]
  by_cases h : t = 2
  · simp [h]
  · by_cases h3 : t = 3 <;> simp [h, h3]
theorem takes6 (t : Int) : spec_l2Takes.f 6 t = some (decide (t = 1 ∨ t = 3)) := by
  unfold spec_l2Takes.f
  rw [if_neg (by omega), if_pos rfl]
  by_cases h : t = 1
  · simp [h]
  · by_cases h3 : t = 3 <;> simp [h, h3]
theorem takes7 (t : Int) : spec_l2Takes.f 7 t = some (decide (1 ≤ t ∧ t ≤ 3)) := by
  unfold spec_l2Takes.f spec_l2Type.f
  rw [if_neg (by omega), if_neg (by omega), if_pos rfl]
  by_cases h : 1 ≤ t
  · by_cases h3 : t ≤ 3
    · simp [h, h3]
    · simp [h, h3]
  · simp [h]
theorem takes_no (f t : Int) (h5 : f ≠ 5) (h6 : f ≠ 6) (h7 : f ≠ 7) : spec_l2Takes.f f t = some false := by
  unfold spec_l2Takes.f
  rw [if_neg h5, if_neg h6, if_neg h7]
theorem w32_mod (z : Int) : wrap32 z % 4294967296 = z % 4294967296 := by unfold wrap32; omega
theorem w64_mod (z : Int) : wrap64 z % 4294967296 = z % 4294967296 := by unfold wrap64; omega
theorem w32_0 {y : Int} (h0 : 0 ≤ y) (h1 : y ≤ 4294967295) : wrap32 y = 0 ↔ y = 0 := by unfold wrap32; omega
theorem w64_32 (y : Int) : wrap64 (wrap32 y) = wrap32 y := by unfold wrap64 wrap32; omega
theorem w32_id {z : Int} (h : -2147483648 ≤ z ∧ z ≤ 2147483647) : wrap32 z = z := by unfold wrap32; omega
theorem l2div_q {t x y : Int} (ht : t = 2 ∨ t = 3) (y0 : 0 ≤ y) (y1 : y ≤ 4294967295) : ∃ m, spec_l2Div.f t x y = some (divT t x y, m) := by
  unfold spec_l2Div.f divT
  by_cases hy : y = 0
  · subst hy
    rw [if_pos rfl]
    have : wrap32 0 = 0 := by unfold wrap32; omega
    rcases ht with rfl | rfl <;> simp [this]
  · rw [if_neg hy]
    rcases ht with rfl | rfl
    · rw [if_neg (by omega), w64_32, if_neg (fun h => hy ((w32_0 y0 y1).1 h)), if_pos rfl, if_neg (fun h => hy ((w32_0 y0 y1).1 h))]
      refine ⟨(Int.tmod (wrap32 x) (wrap32 y)) % 4294967296, ?_⟩
      rw [w64_32, w64_mod]
      by_cases hm : wrap32 y = -1
      · rw [if_pos hm, hm, w32_mod]
        have : (wrap32 x).tdiv (-1) = -(wrap32 x) := by rw [Int.tdiv_neg, Int.tdiv_one]
        rw [this]
      · rw [if_neg hm, w32_mod]
    · rw [if_pos rfl, if_neg (by omega), if_pos rfl, if_neg hy]
      exact ⟨_, rfl⟩
theorem l2div_m {t x y : Int} (ht : t = 2 ∨ t = 3) (y0 : 0 ≤ y) (y1 : y ≤ 4294967295) : ∃ q, spec_l2Div.f t x y = some (q, remT t x y) := by
  unfold spec_l2Div.f remT
  by_cases hy : y = 0
  · subst hy
    rw [if_pos rfl]
    have : wrap32 0 = 0 := by unfold wrap32; omega
    rcases ht with rfl | rfl <;> simp [this]
  · rw [if_neg hy]
    rcases ht with rfl | rfl
    · rw [if_neg (by omega), w64_32, if_neg (fun h => hy ((w32_0 y0 y1).1 h)), if_pos rfl, if_neg (fun h => hy ((w32_0 y0 y1).1 h))]
      refine ⟨(wrap64 (Int.tdiv (wrap32 x) (wrap32 y))) % 4294967296, ?_⟩
      rw [w64_32]
      by_cases hm : wrap32 y = -1
      · rw [if_pos hm, hm]
        have : (wrap32 x).tmod (-1) = 0 := by rw [Int.tmod_neg, Int.tmod_one]
        rw [this]; rfl
      · rw [if_neg hm]
    · rw [if_pos rfl, if_neg (by omega), if_pos rfl, if_neg hy]
      exact ⟨_, rfl⟩
theorem shl_31 (x y : Int) : shl .u32 x (Go.bits .and .u32 y 31) = (x * 2 ^ (Go.bits .and .u32 y 31).toNat) % 4294967296 := by
  unfold shl
  have h : (Go.bits .and .u32 y 31) ≤ 31 := and31_hi y
  rw [Nat.min_eq_left (by simp [IntKind.bits]; omega), wrap_u32_eqC]
theorem shr_31 (x y : Int) : shr .u32 x (Go.bits .and .u32 y 31) = x / 2 ^ (Go.bits .and .u32 y 31).toNat := by
  unfold shr
  have h : (Go.bits .and .u32 y 31) ≤ 31 := and31_hi y
  rw [Nat.min_eq_left (by simp [IntKind.bits]; omega)]
set_option maxHeartbeats 4000000 in
theorem spec_compute_same (a t x y : Int) (x0 : 0 ≤ x) (x1 : x ≤ 4294967295) (y0 : 0 ≤ y) (y1 : y ≤ 4294967295) : spec_Compute.f a t x y = some (compT a t x y) := by
  unfold spec_Compute.f
  by_cases h17 : a = 17
  · subst h17; rw [if_pos rfl, if_pos (and31_lo y), shl_31]; rfl
  by_cases h18 : a = 18
  · subst h18; rw [if_neg h17, if_pos rfl, if_pos (and31_lo y), shr_31]; rfl
  by_cases h19 : a = 19
  · subst h19; rw [if_neg h17, if_neg h18, if_pos rfl]; rfl
  rw [if_neg h17, if_neg h18, if_neg h19, spec_info_same]
  simp only [Option.bind_some]
  by_cases out : a < 0 ∨ 29 < a
  · have e : infoT a = ((⟨#[]⟩ : ByteArray), 0, 0) := by
      unfold infoT
      repeat rw [if_neg (by omega)]
    have e2 : compT a t x y = 0 := by
      unfold compT
      repeat rw [if_neg (by omega)]
    rw [e, e2, takes0]; rfl
  · have hc : ∃ n : Nat, n < 30 ∧ a = n := ⟨a.toNat, by omega, by omega⟩
    obtain ⟨n, hn, rfl⟩ := hc
    have num : ∀ v : Int, (if decide (t = 2 ∨ t = 3) = true then some v else some 0) = some (onNumbersT t v) := fun v => by unfold onNumbersT; by_cases h : t = 2 ∨ t = 3 <;> simp [h]
    have bit : ∀ v : Int, (if decide (t = 1 ∨ t = 3) = true then some v else some 0) = some (onBitsT t v) := fun v => by unfold onBitsT; by_cases h : t = 1 ∨ t = 3 <;> simp [h]
    match n, hn with
    | 0, _ | 1, _ | 2, _ | 3, _ | 4, _ | 5, _ | 6, _ | 7, _ | 22, _ | 23, _ | 24, _ | 25, _ | 26, _ | 27, _ | 28, _ | 29, _ =>
      rw [show (infoT _).2.2 = _ from rfl, takes_no _ _ (by decide) (by decide) (by decide)]; rfl
    | 8, _ => exact (congrArg (Option.bind · _) (takes5 t)).trans (num _)
    | 9, _ => exact (congrArg (Option.bind · _) (takes5 t)).trans (num _)
    | 10, _ => exact (congrArg (Option.bind · _) (takes5 t)).trans (num _)
    | 13, _ => exact (congrArg (Option.bind · _) (takes6 t)).trans (bit _)
    | 14, _ => exact (congrArg (Option.bind · _) (takes6 t)).trans (bit _)
    | 15, _ => exact (congrArg (Option.bind · _) (takes6 t)).trans (bit _)
    | 11, _ =>
      refine (congrArg (Option.bind · _) (takes5 t)).trans ?_
      show (if decide (t = 2 ∨ t = 3) = true then (spec_l2Div.f t x y).bind fun b => some b.1 else some 0) = some (divT t x y)
      by_cases ht : t = 2 ∨ t = 3
      · obtain ⟨m, e⟩ := l2div_q (x := x) ht y0 y1
        rw [e, if_pos (by simpa using ht)]; rfl
      · rw [if_neg (by simpa using ht)]; unfold divT; rw [if_neg (by omega), if_neg (by omega)]
    | 12, _ =>
      refine (congrArg (Option.bind · _) (takes5 t)).trans ?_
      show (if decide (t = 2 ∨ t = 3) = true then (spec_l2Div.f t x y).bind fun b => some b.2 else some 0) = some (remT t x y)
      by_cases ht : t = 2 ∨ t = 3
      · obtain ⟨m, e⟩ := l2div_m (x := x) ht y0 y1
        rw [e, if_pos (by simpa using ht)]; rfl
      · rw [if_neg (by simpa using ht)]; unfold remT; rw [if_neg (by omega), if_neg (by omega)]
    | 16, _ =>
      refine (congrArg (Option.bind · _) (takes6 t)).trans ?_
      show (if decide (t = 1 ∨ t = 3) = true then (if t = 1 then ((spec_l2Truth.f (x == 0)).bind fun t140 => (some t140)) else (some (Go.bits .xor .u32 4294967295 x))) else some 0) = some (turnT t x)
      unfold turnT
      by_cases h1 : t = 1
      · simp [h1, truth_f]
      · by_cases h3 : t = 3 <;> simp [h1, h3]
    | 20, _ =>
      refine (congrArg (Option.bind · _) (takes7 t)).trans ?_
      show (if decide (1 ≤ t ∧ t ≤ 3) = true then ((spec_l2Truth.f (x == y)).bind fun t141 => (some t141)) else some 0) = some (eqT t x y)
      unfold eqT
      by_cases h : 1 ≤ t ∧ t ≤ 3 <;> simp [h, truth_f]
    | 21, _ =>
      refine (congrArg (Option.bind · _) (takes5 t)).trans ?_
      show (if decide (t = 2 ∨ t = 3) = true then (if t = 2 then ((spec_l2Truth.f (decide ((wrap32 (x)) < (wrap32 (y))))).bind fun t142 => (some t142)) else ((spec_l2Truth.f (decide (x < y))).bind fun t143 => (some t143))) else some 0) = some (lessT t x y)
      unfold lessT
      by_cases h1 : t = 2
      · simp [h1, truth_f]
      · by_cases h3 : t = 3 <;> simp [h1, h3, truth_f]
    | 17, _ => exact absurd rfl h17
    | 18, _ => exact absurd rfl h18
    | 19, _ => exact absurd rfl h19
    | n + 30, h => omega
theorem FnExactCompute : laws_FnExactCompute.Pure := by
  intro a0 a1 a2 a3 _ _ h2 h3
  obtain ⟨x0, x1⟩ := u32_range h2
  obtain ⟨y0, y1⟩ := u32_range h3
  unfold laws_FnExactCompute.f
  rw [spec_compute_same a0 a1 a2 a3 x0 x1 y0 y1]
  simp [impl_Compute.f]

end Go.Proofs.Ytlnlbncinjiinaa.Pure
