/- Of this session: made by a program (wip/mprint.py) out of the translation; Lean checks it. -/
import Derived.Test.YtlnlbncinjiinaaM0
import Derived.Test.YtlnlbncinjiinaaGvCompute
import Derived.Test.YtlnlbncinjiinaaM1
import Derived.Test.YtlnlbncinjiinaaM2
namespace Go.Proofs.Ytlnlbncinjiinaa.M
open Go.RowKit Go.Proofs.YtlnlbncinjiinaaW.PrintWords Go.Proofs.YtlnlbncinjiinaaW.PrintLast Go.Proofs.YtlnlbncinjiinaaW.PrintMore
attribute [local go_sem] max2_int min2_int max_two min_two max_three min_three max_four min_four   -- for this text's walks alone
attribute [local go_sem] Go.Proofs.YtlnlbncinjiinaaZ.u32_signed Go.Proofs.YtlnlbncinjiinaaZ.u32_max
set_option linter.unusedVariables false
set_option linter.unusedSimpArgs false

/-! ### impl_Convert: function 21 -/
def impl_Convert.j0 : Nat → Int → Int → Bool → Option (Int)
  | 0, _, _, _ => none
  | k + 1, x1, x2, x19 => if x19 = true then (some 0) else (if x1 = 1 then ((impl_flag.f (x2 != 0)).bind fun t217 => (some t217)) else (some x2))
def impl_Convert.f (k : Nat) (a0 : Int) (a1 : Int) (a2 : Int) : Option (Int) := (impl_isType.f a0).bind fun t215 => (if t215 = true then ((impl_isType.f a1).bind fun t216 => (if t216 = true then (impl_Convert.j0 k a1 a2 (a0 == a1)) else (impl_Convert.j0 k a1 a2 true))) else (impl_Convert.j0 k a1 a2 true))
theorem impl_Convert.mono_l : ∀ k, (∀ y0 y1 y2, LeO (impl_Convert.j0 k y0 y1 y2) (impl_Convert.j0 (k + 1) y0 y1 y2))
  | 0 => fun _ _ _ r h => by simp [impl_Convert.j0] at h
  | k + 1 => by
    have ih0 := impl_Convert.mono_l k
    · intro y0 y1 y2
      unfold impl_Convert.j0
      repeat' first
      | (with_reducible exact ih0 _ _ _)
      | (with_reducible exact LeO.refl _)
      | (with_reducible exact LeO.none _)
      | (with_reducible refine LeO.ite ?_ ?_)
      | (with_reducible refine LeO.bind ?_ (fun _ => ?_))
      | exact ih0 _ _ _
      | exact LeO.none _
      | refine LeO.ite ?_ ?_
      | refine LeO.bind ?_ (fun _ => ?_)
theorem impl_Convert.mono : ∀ a0 a1 a2 k, LeO (impl_Convert.f k a0 a1 a2) (impl_Convert.f (k + 1) a0 a1 a2) := by
  intro a0 a1 a2 k
  have ih0 := impl_Convert.mono_l k
  unfold impl_Convert.f
  repeat' first
      | (with_reducible exact ih0 _ _ _)
      | (with_reducible exact LeO.refl _)
      | (with_reducible exact LeO.none _)
      | (with_reducible refine LeO.ite ?_ ?_)
      | (with_reducible refine LeO.bind ?_ (fun _ => ?_))
      | exact ih0 _ _ _
      | exact LeO.none _
      | refine LeO.ite ?_ ?_
      | refine LeO.bind ?_ (fun _ => ?_)
set_option maxHeartbeats 8000000 in
set_option maxRecDepth 100000 in
theorem impl_Convert.calls (k : Nat) (a0 : Int) (a1 : Int) (a2 : Int) (r : Int) (w : World) (h : impl_Convert.f k a0 a1 a2 = some r) :
    Calls Try.prog 21 #[.int .i64 a0, .int .i64 a1, .int .u32 a2] w fun e w' => e = .returned (.int .u32 r) ∧ Drawn0 w w' := by
  have H : ((impl_isType.f a0).bind fun t215 => (if t215 = true then ((impl_isType.f a1).bind fun t216 => (if t216 = true then (impl_Convert.j0 k a1 a2 (a0 == a1)) else (impl_Convert.j0 k a1 a2 true))) else (impl_Convert.j0 k a1 a2 true))) = some r := h
  clear h
  have HC4 := Aside0.mk H
  clear H
  go_enter Try.func21, Try.ntmps21
  go_upto_region 1 with (fail)
  go_cut [19] (fun v19 wc => ∃ (kq : Nat) (x19_3 : Bool), v19 = .bool x19_3 ∧ Aside0 (impl_Convert.j0 kq a1 a2 x19_3 = some r) ∧ Aside0 (kq ≤ k) ∧ Drawn0 w wc)
  case first =>
    have H := HC4.out
    clear HC4
    replace H := Option.bind_eq_some_iff.mp H
    obtain ⟨t215, A50, H⟩ := H
    replace H : (if t215 = true then ((impl_isType.f a1).bind fun t216 => (if t216 = true then (impl_Convert.j0 k a1 a2 (a0 == a1)) else (impl_Convert.j0 k a1 a2 true))) else (impl_Convert.j0 k a1 a2 true)) = some r := H
    have A5 := Aside0.mk A50
    clear A50
    by_cases c6 : t215 = true
    · subst c6
      have H1 : ((impl_isType.f a1).bind fun t216 => (if t216 = true then (impl_Convert.j0 k a1 a2 (a0 == a1)) else (impl_Convert.j0 k a1 a2 true))) = some r := by rw [if_pos rfl] at H; exact H
      clear H
      have H := H1
      clear H1
      replace H := Option.bind_eq_some_iff.mp H
      obtain ⟨t216, A70, H⟩ := H
      replace H : (if t216 = true then (impl_Convert.j0 k a1 a2 (a0 == a1)) else (impl_Convert.j0 k a1 a2 true)) = some r := H
      have A7 := Aside0.mk A70
      clear A70
      by_cases c8 : t216 = true
      · subst c8
        have H1 : (impl_Convert.j0 k a1 a2 (a0 == a1)) = some r := by rw [if_pos rfl] at H; exact H
        clear H
        have H := H1
        clear H1
        have H' := Aside0.mk H
        clear H
        go_wp2_with (first | ((with_reducible refine gate_callee (f := 44) rfl ?_); refine goesL_ (some 8) rfl rfl Try.func44 (by kernel_rfl) rfl #[.int .i64 a0] rfl (by (try simp only [List.map_toArray, List.map_cons, List.map_nil]); first | done | rfl | (simp only [List.length_drop, List.length_take]; rfl)) ?_; (with_reducible refine (impl_isType.calls a0 true _ A5.out).mono ?_); rintro e w' ⟨rfl, ⟨nd, rfl⟩⟩; refine ⟨_, rfl, ?_⟩) | (go_at_call 44; (with_reducible refine (impl_isType.calls a1 true _ A7.out).mono ?_); rintro e w' ⟨rfl, ⟨nd, rfl⟩⟩))
        go_meet
        case rel => exact ⟨_, ((a0 == a1)), (by first | rfl | (simp; done) | (simp [*]; done)), H', ⟨by first | omega | exact Nat.le_refl _⟩, by repeat (first | exact Drawn0.refl _ | apply Drawn0.step)⟩
      · replace c8 := Bool.eq_false_iff.mpr c8
        subst c8
        have H1 : (impl_Convert.j0 k a1 a2 true) = some r := by rw [if_neg (show ¬ (false = true) by decide)] at H; exact H
        clear H
        have H := H1
        clear H1
        have H' := Aside0.mk H
        clear H
        go_wp2_with (first | ((with_reducible refine gate_callee (f := 44) rfl ?_); refine goesL_ (some 8) rfl rfl Try.func44 (by kernel_rfl) rfl #[.int .i64 a0] rfl (by (try simp only [List.map_toArray, List.map_cons, List.map_nil]); first | done | rfl | (simp only [List.length_drop, List.length_take]; rfl)) ?_; (with_reducible refine (impl_isType.calls a0 true _ A5.out).mono ?_); rintro e w' ⟨rfl, ⟨nd, rfl⟩⟩; refine ⟨_, rfl, ?_⟩) | (go_at_call 44; (with_reducible refine (impl_isType.calls a1 false _ A7.out).mono ?_); rintro e w' ⟨rfl, ⟨nd, rfl⟩⟩))
        go_meet
        case rel => exact ⟨_, (true), (by first | rfl | (simp; done) | (simp [*]; done)), H', ⟨by first | omega | exact Nat.le_refl _⟩, by repeat (first | exact Drawn0.refl _ | apply Drawn0.step)⟩
    · replace c6 := Bool.eq_false_iff.mpr c6
      subst c6
      have H1 : (impl_Convert.j0 k a1 a2 true) = some r := by rw [if_neg (show ¬ (false = true) by decide)] at H; exact H
      clear H
      have H := H1
      clear H1
      have H' := Aside0.mk H
      clear H
      go_wp2_with (first | ((with_reducible refine gate_callee (f := 44) rfl ?_); refine goesL_ (some 8) rfl rfl Try.func44 (by kernel_rfl) rfl #[.int .i64 a0] rfl (by (try simp only [List.map_toArray, List.map_cons, List.map_nil]); first | done | rfl | (simp only [List.length_drop, List.length_take]; rfl)) ?_; (with_reducible refine (impl_isType.calls a0 false _ A5.out).mono ?_); rintro e w' ⟨rfl, ⟨nd, rfl⟩⟩; refine ⟨_, rfl, ?_⟩))
      go_meet
      case rel => exact ⟨_, (true), (by first | rfl | (simp; done) | (simp [*]; done)), H', ⟨by first | omega | exact Nat.le_refl _⟩, by repeat (first | exact Drawn0.refl _ | apply Drawn0.step)⟩
  case rest =>
    clear HC4
    try clear c2
    try clear p2
    try clear c4
    try clear c6
    try clear c8
    obtain ⟨kq, x19_3, rfl, HA, HJ3, ⟨mc3, rfl⟩⟩ := hcut
    cases kq with
    | zero => exact absurd HA.out (by simp [impl_Convert.j0])
    | succ kj3 =>
      have H := HA.out
      clear HA
      simp only [impl_Convert.j0] at H
      by_cases c9 : x19_3 = true
      · subst c9
        have H1 : (some 0) = some r := by rw [if_pos rfl] at H; exact H
        clear H
        have H := H1
        clear H1
        obtain rfl := Option.some.inj H
        go_wp2
        go_ret
        exact ⟨by first | rfl | (simp; done) | (simp [*]; done), by repeat (first | exact Drawn0.refl _ | apply Drawn0.step)⟩
      · replace c9 := Bool.eq_false_iff.mpr c9
        subst c9
        have H1 : (if a1 = 1 then ((impl_flag.f (a2 != 0)).bind fun t217 => (some t217)) else (some a2)) = some r := by rw [if_neg (show ¬ (false = true) by decide)] at H; exact H
        clear H
        have H := H1
        clear H1
        by_cases c10 : a1 = 1
        · rw [if_pos c10] at H
          have c10b0 : (a1 == 1) = true := beq_iff_eq.mpr c10
          have c10b1 : (a1 != 1) = false := bne_eq_false_iff_eq.mpr c10
          clear c10
          replace H := Option.bind_eq_some_iff.mp H
          obtain ⟨t217, A110, H⟩ := H
          replace H : (some t217) = some r := H
          have A11 := Aside0.mk A110
          clear A110
          obtain rfl := Option.some.inj H
          go_wp2_with (first | ((with_reducible refine gate_callee (f := 45) rfl ?_); refine goesL_ (some 24) rfl rfl Try.func45 (by kernel_rfl) rfl #[.bool (a2 != 0)] rfl (by (try simp only [List.map_toArray, List.map_cons, List.map_nil]); first | done | rfl | (simp only [List.length_drop, List.length_take]; rfl)) ?_; (with_reducible refine (impl_flag.calls (a2 != 0) t217 _ A11.out).mono ?_); rintro e w' ⟨rfl, ⟨nd, rfl⟩⟩; refine ⟨_, rfl, ?_⟩))
          go_ret
          exact ⟨by first | rfl | (simp; done) | (simp [*]; done), by repeat (first | exact Drawn0.refl _ | apply Drawn0.step)⟩
        · rw [if_neg c10] at H
          have c10b0 : (a1 == 1) = false := beq_eq_false_iff_ne.mpr c10
          have c10b1 : (a1 != 1) = true := bne_iff_ne.mpr c10
          obtain rfl := Option.some.inj H
          go_wp2
          go_ret
          exact ⟨by first | rfl | (simp; done) | (simp [*]; done), by repeat (first | exact Drawn0.refl _ | apply Drawn0.step)⟩

/-! ### laws_FnArithmetic: function 6 -/
mutual
def laws_FnArithmetic.l0 : Nat → Int → Int → Int → Option (Bool)
  | 0, _, _, _ => none
  | k + 1, x5, x6, x7 => if x7 ≤ 3 then ((impl_Compute.f 8 x7 x5 x6).bind fun t222 => ((impl_Compute.f 11 x7 x5 x6).bind fun t223 => ((impl_Compute.f 12 x7 x5 x6).bind fun t224 => ((impl_Compute.f 9 x7 t222 x6).bind fun t225 => (if t225 = x5 then (if x6 = 0 then (if t223 = 0 then (laws_FnArithmetic.j1 k x5 x6 x7 (t224 != 0)) else (laws_FnArithmetic.j1 k x5 x6 x7 true)) else ((impl_Compute.f 10 x7 t223 x6).bind fun t226 => ((impl_Compute.f 8 x7 t226 t224).bind fun t227 => (if t227 = x5 then (laws_FnArithmetic.j1 k x5 x6 x7 false) else (laws_FnArithmetic.j1 k x5 x6 x7 true))))) else (laws_FnArithmetic.j1 k x5 x6 x7 true)))))) else ((impl_Compute.f 13 3 x5 x6).bind fun t231 => ((impl_Compute.f 14 3 x5 x6).bind fun t232 => ((impl_Compute.f 15 3 t231 t232).bind fun t233 => ((impl_Compute.f 15 3 x5 x6).bind fun t234 => (if t233 = t234 then ((impl_Compute.f 16 3 x5 0).bind fun t235 => ((impl_Compute.f 16 3 t235 0).bind fun t236 => (if t236 = x5 then ((impl_Compute.f 17 3 x5 32).bind fun t237 => (if t237 = x5 then ((impl_Compute.f 19 0 x5 0).bind fun t238 => ((impl_Compute.f 9 3 0 x5).bind fun t239 => (if t238 = t239 then ((impl_Compute.f 16 1 1 0).bind fun t240 => (if t240 = 0 then ((impl_Convert.f k 2 1 x5).bind fun t241 => ((impl_Compute.f 20 3 x5 0).bind fun t242 => ((impl_Compute.f 16 1 t242 0).bind fun t243 => (some (t241 == t243))))) else (some false))) else (some false)))) else (some false))) else (some false)))) else (some false))))))
def laws_FnArithmetic.j1 : Nat → Int → Int → Int → Bool → Option (Bool)
  | 0, _, _, _, _ => none
  | k + 1, x5, x6, x7, x74 => if x74 = true then (some false) else ((impl_Compute.f 21 x7 x5 x6).bind fun t228 => ((impl_Compute.f 21 x7 x6 x5).bind fun t229 => ((impl_Compute.f 20 x7 x5 x6).bind fun t230 => (if ((((t228 + t229) % 4294967296) + t230) % 4294967296) = 1 then (laws_FnArithmetic.l0 k x5 x6 (wrap64 (x7 + 1))) else (some false)))))
end
def laws_FnArithmetic.f (k : Nat) (l0 : List Int) : Option (Bool) := if (l0.length : Int) > 1048576 then (some true) else ((spec_DrawCompute.f l0).bind fun bt218 => (laws_FnArithmetic.l0 k bt218.2.2.1 bt218.2.2.2 2))
theorem laws_FnArithmetic.mono_l : ∀ k, (∀ y0 y1 y2, LeO (laws_FnArithmetic.l0 k y0 y1 y2) (laws_FnArithmetic.l0 (k + 1) y0 y1 y2)) ∧ (∀ y0 y1 y2 y3, LeO (laws_FnArithmetic.j1 k y0 y1 y2 y3) (laws_FnArithmetic.j1 (k + 1) y0 y1 y2 y3))
  | 0 => ⟨fun _ _ _ r h => by simp [laws_FnArithmetic.l0] at h, fun _ _ _ _ r h => by simp [laws_FnArithmetic.j1] at h⟩
  | k + 1 => by
    obtain ⟨ih0, ih1⟩ := laws_FnArithmetic.mono_l k
    refine ⟨?_, ?_⟩
    · intro y0 y1 y2
      unfold laws_FnArithmetic.l0
      repeat' first
      | (with_reducible exact ih0 _ _ _)
      | (with_reducible exact ih1 _ _ _ _)
      | (with_reducible exact impl_Convert.mono _ _ _ _)
      | (with_reducible exact LeO.refl _)
      | (with_reducible exact LeO.none _)
      | (with_reducible refine LeO.ite ?_ ?_)
      | (with_reducible refine LeO.bind ?_ (fun _ => ?_))
      | exact ih0 _ _ _
      | exact ih1 _ _ _ _
      | exact impl_Convert.mono _ _ _ _
      | exact LeO.none _
      | refine LeO.ite ?_ ?_
      | refine LeO.bind ?_ (fun _ => ?_)
    · intro y0 y1 y2 y3
      unfold laws_FnArithmetic.j1
      repeat' first
      | (with_reducible exact ih0 _ _ _)
      | (with_reducible exact ih1 _ _ _ _)
      | (with_reducible exact impl_Convert.mono _ _ _ _)
      | (with_reducible exact LeO.refl _)
      | (with_reducible exact LeO.none _)
      | (with_reducible refine LeO.ite ?_ ?_)
      | (with_reducible refine LeO.bind ?_ (fun _ => ?_))
      | exact ih0 _ _ _
      | exact ih1 _ _ _ _
      | exact impl_Convert.mono _ _ _ _
      | exact LeO.none _
      | refine LeO.ite ?_ ?_
      | refine LeO.bind ?_ (fun _ => ?_)
theorem laws_FnArithmetic.mono : ∀ a0 k, LeO (laws_FnArithmetic.f k a0) (laws_FnArithmetic.f (k + 1) a0) := by
  intro a0 k
  obtain ⟨ih0, ih1⟩ := laws_FnArithmetic.mono_l k
  unfold laws_FnArithmetic.f
  repeat' first
      | (with_reducible exact ih0 _ _ _)
      | (with_reducible exact ih1 _ _ _ _)
      | (with_reducible exact impl_Convert.mono _ _ _ _)
      | (with_reducible exact LeO.refl _)
      | (with_reducible exact LeO.none _)
      | (with_reducible refine LeO.ite ?_ ?_)
      | (with_reducible refine LeO.bind ?_ (fun _ => ?_))
      | exact ih0 _ _ _
      | exact ih1 _ _ _ _
      | exact impl_Convert.mono _ _ _ _
      | exact LeO.none _
      | refine LeO.ite ?_ ?_
      | refine LeO.bind ?_ (fun _ => ?_)
set_option maxHeartbeats 8000000 in
set_option maxRecDepth 100000 in
theorem laws_FnArithmetic.calls (k : Nat) (A0 : Option Addr) (c0 : Nat) (l0 : List Int) (r : Bool) (w : World) (hr0 : Kd.C (Kd.int .u8) w A0 l0.length l0) (hc0 : l0.length ≤ c0) (h : laws_FnArithmetic.f k l0 = some r) :
    Calls Try.prog 6 #[.slice A0 l0.length c0] w fun e w' => e = .returned (.bool r) ∧ Below w.heap.size w w' := by
  have HR0 := Aside0.mk hr0
  have HC0 := Aside0.mk hc0
  clear hr0 hc0
  have HB := Aside0.mk (Below.refl w.heap.size w)
  have H : (if (l0.length : Int) > 1048576 then (some true) else ((spec_DrawCompute.f l0).bind fun bt218 => (laws_FnArithmetic.l0 k bt218.2.2.1 bt218.2.2.2 2))) = some r := h
  clear h
  by_cases c2 : (l0.length : Int) > 1048576
  · rw [if_pos c2] at H
    have c2b0 : decide (1048576 < (l0.length : Int)) = true := decide_eq_true c2
    have c2b1 : decide (1048576 < l0.length) = true := decide_eq_true (by omega)
    clear c2
    obtain rfl := Option.some.inj H
    go_enter Try.func6, Try.ntmps6
    go_wp2
    go_ret
    exact ⟨by first | rfl | (simp [errW_none, errW_some] <;> rfl) | (simp [*, errW_none, errW_some] <;> rfl), by repeat (first | (with_reducible first | exact HB.out | apply below_alloc | apply pw_below_drewN | apply below_drew1) | exact HB.out)⟩
  · rw [if_neg c2] at H
    have c2b0 : decide (1048576 < (l0.length : Int)) = false := decide_eq_false c2
    have c2b1 : decide (1048576 < l0.length) = false := decide_eq_false (by omega)
    clear c2
    replace H := Option.bind_eq_some_iff.mp H
    obtain ⟨⟨t218, t219, t220, t221⟩, A30, H⟩ := H
    replace H : (laws_FnArithmetic.l0 k t220 t221 2) = some r := H
    have A3 := Aside0.mk A30
    clear A30
    have H' := Aside0.mk H
    clear H
    go_enter Try.func6, Try.ntmps6
    go_wp2_with (first | ((with_reducible refine gate_callee (f := 19) rfl ?_); refine goesL_ (some 21) rfl rfl Try.func19 (by kernel_rfl) rfl #[.slice A0 l0.length c0] rfl (by (try simp only [List.map_toArray, List.map_cons, List.map_nil]); first | done | rfl | (simp only [List.length_drop, List.length_take]; rfl)) ?_; (with_reducible refine (spec_DrawCompute.calls _ _ l0 t218 t219 t220 t221 _ ?side1 ?side2 A3.out).mono ?_); (case side1 => repeat (first | exact HR0.out | (with_reducible refine Kd.C_alloc ?_ _) | (with_reducible refine Kd.C_drewN ?_ _) | (with_reducible refine Kd.C_drew ?_))); (case side2 => exact HC0.out); rintro e w4 ⟨rfl, hb⟩; refine ⟨_, rfl, ?_⟩; have n0_ := Aside0.mk (below_step (by repeat (first | (with_reducible first | exact HB.out | apply below_alloc | apply pw_below_drewN | apply below_drew1) | exact HB.out)) hb); clear HB; have HB := n0_; clear n0_; (try clear hb); (try clear hb2); (try clear hk); (try clear hi)))
    go_loopg [7] k (fun kq v7 w' => ∃ (x7_1 : Int), v7 = .int .i64 x7_1 ∧ Aside0 (laws_FnArithmetic.l0 kq t220 t221 x7_1 = some r) ∧ Aside0 (kq ≤ k) ∧ Aside0 (Below w.heap.size w w'))
    case atStart => exact ⟨(2), (by first | rfl | (simp; done) | (simp [*]; done)), H', ⟨Nat.le_refl _⟩, ⟨by repeat (first | (with_reducible first | exact HB.out | apply below_alloc | apply pw_below_drewN | apply below_drew1) | exact HB.out)⟩⟩
    case round =>
      clear H'
      try clear c1
      try clear c2
      try clear c2b0
      try clear c2b1
      try clear p2
      obtain ⟨x7_1, rfl, HA, HK1, HB⟩ := hrel
      cases gk with
      | zero => exact absurd HA.out (by simp [laws_FnArithmetic.l0])
      | succ k1 =>
        have H := HA.out
        clear HA
        simp only [laws_FnArithmetic.l0] at H
        by_cases c5 : x7_1 ≤ 3
        · rw [if_pos c5] at H
          have c5b0 : decide (x7_1 ≤ 3) = true := decide_eq_true c5
          clear c5
          replace H := Option.bind_eq_some_iff.mp H
          obtain ⟨t222, A60, H⟩ := H
          replace H : ((impl_Compute.f 11 x7_1 t220 t221).bind fun t223 => ((impl_Compute.f 12 x7_1 t220 t221).bind fun t224 => ((impl_Compute.f 9 x7_1 t222 t221).bind fun t225 => (if t225 = t220 then (if t221 = 0 then (if t223 = 0 then (laws_FnArithmetic.j1 k1 t220 t221 x7_1 (t224 != 0)) else (laws_FnArithmetic.j1 k1 t220 t221 x7_1 true)) else ((impl_Compute.f 10 x7_1 t223 t221).bind fun t226 => ((impl_Compute.f 8 x7_1 t226 t224).bind fun t227 => (if t227 = t220 then (laws_FnArithmetic.j1 k1 t220 t221 x7_1 false) else (laws_FnArithmetic.j1 k1 t220 t221 x7_1 true))))) else (laws_FnArithmetic.j1 k1 t220 t221 x7_1 true))))) = some r := H
          have A6 := Aside0.mk A60
          clear A60
          replace H := Option.bind_eq_some_iff.mp H
          obtain ⟨t223, A70, H⟩ := H
          replace H : ((impl_Compute.f 12 x7_1 t220 t221).bind fun t224 => ((impl_Compute.f 9 x7_1 t222 t221).bind fun t225 => (if t225 = t220 then (if t221 = 0 then (if t223 = 0 then (laws_FnArithmetic.j1 k1 t220 t221 x7_1 (t224 != 0)) else (laws_FnArithmetic.j1 k1 t220 t221 x7_1 true)) else ((impl_Compute.f 10 x7_1 t223 t221).bind fun t226 => ((impl_Compute.f 8 x7_1 t226 t224).bind fun t227 => (if t227 = t220 then (laws_FnArithmetic.j1 k1 t220 t221 x7_1 false) else (laws_FnArithmetic.j1 k1 t220 t221 x7_1 true))))) else (laws_FnArithmetic.j1 k1 t220 t221 x7_1 true)))) = some r := H
          have A7 := Aside0.mk A70
          clear A70
          replace H := Option.bind_eq_some_iff.mp H
          obtain ⟨t224, A80, H⟩ := H
          replace H : ((impl_Compute.f 9 x7_1 t222 t221).bind fun t225 => (if t225 = t220 then (if t221 = 0 then (if t223 = 0 then (laws_FnArithmetic.j1 k1 t220 t221 x7_1 (t224 != 0)) else (laws_FnArithmetic.j1 k1 t220 t221 x7_1 true)) else ((impl_Compute.f 10 x7_1 t223 t221).bind fun t226 => ((impl_Compute.f 8 x7_1 t226 t224).bind fun t227 => (if t227 = t220 then (laws_FnArithmetic.j1 k1 t220 t221 x7_1 false) else (laws_FnArithmetic.j1 k1 t220 t221 x7_1 true))))) else (laws_FnArithmetic.j1 k1 t220 t221 x7_1 true))) = some r := H
          have A8 := Aside0.mk A80
          clear A80
          have HC9 := Aside0.mk H
          clear H
          go_upto_region 10 with (first | ((with_reducible refine gate_callee (f := 20) rfl ?_); refine goesL_ (some 33) rfl rfl Try.func20 (by kernel_rfl) rfl #[.int .i64 8, .int .i64 x7_1, .int .u32 t220, .int .u32 t221] rfl (by (try simp only [List.map_toArray, List.map_cons, List.map_nil]); first | done | rfl | (simp only [List.length_drop, List.length_take]; rfl)) ?_; (with_reducible refine (impl_Compute.calls 8 x7_1 t220 t221 t222 _ A6.out).mono ?_); rintro e w10 ⟨rfl, hb⟩; refine ⟨_, rfl, ?_⟩; have n0_ := Aside0.mk (below_step (by repeat (first | (with_reducible first | exact HB.out | apply below_alloc | apply pw_below_drewN | apply below_drew1) | exact HB.out)) hb); clear HB; have HB := n0_; clear n0_; (try clear hb); (try clear hb2); (try clear hk); (try clear hi)) | ((with_reducible refine gate_callee (f := 20) rfl ?_); refine goesL_ (some 37) rfl rfl Try.func20 (by kernel_rfl) rfl #[.int .i64 11, .int .i64 x7_1, .int .u32 t220, .int .u32 t221] rfl (by (try simp only [List.map_toArray, List.map_cons, List.map_nil]); first | done | rfl | (simp only [List.length_drop, List.length_take]; rfl)) ?_; (with_reducible refine (impl_Compute.calls 11 x7_1 t220 t221 t223 _ A7.out).mono ?_); rintro e w11 ⟨rfl, hb⟩; refine ⟨_, rfl, ?_⟩; have n0_ := Aside0.mk (below_step (by repeat (first | (with_reducible first | exact HB.out | apply below_alloc | apply pw_below_drewN | apply below_drew1) | exact HB.out)) hb); clear HB; have HB := n0_; clear n0_; (try clear hb); (try clear hb2); (try clear hk); (try clear hi)) | ((with_reducible refine gate_callee (f := 20) rfl ?_); refine goesL_ (some 41) rfl rfl Try.func20 (by kernel_rfl) rfl #[.int .i64 12, .int .i64 x7_1, .int .u32 t220, .int .u32 t221] rfl (by (try simp only [List.map_toArray, List.map_cons, List.map_nil]); first | done | rfl | (simp only [List.length_drop, List.length_take]; rfl)) ?_; (with_reducible refine (impl_Compute.calls 12 x7_1 t220 t221 t224 _ A8.out).mono ?_); rintro e w12 ⟨rfl, hb⟩; refine ⟨_, rfl, ?_⟩; have n0_ := Aside0.mk (below_step (by repeat (first | (with_reducible first | exact HB.out | apply below_alloc | apply pw_below_drewN | apply below_drew1) | exact HB.out)) hb); clear HB; have HB := n0_; clear n0_; (try clear hb); (try clear hb2); (try clear hk); (try clear hi)))
          (try simp only [Act.put, List.setIfInBounds_toArray, List.set_cons_zero, List.set_cons_succ])
          go_cut [74] (fun v74 wc => ∃ (kq : Nat) (x74_8 : Bool), v74 = .bool x74_8 ∧ Aside0 (laws_FnArithmetic.j1 kq t220 t221 x7_1 x74_8 = some r) ∧ Aside0 (kq ≤ k1) ∧ Aside0 (Below w.heap.size w wc))
          case first =>
            have H := HC9.out
            clear HC9
            replace H := Option.bind_eq_some_iff.mp H
            obtain ⟨t225, A130, H⟩ := H
            replace H : (if t225 = t220 then (if t221 = 0 then (if t223 = 0 then (laws_FnArithmetic.j1 k1 t220 t221 x7_1 (t224 != 0)) else (laws_FnArithmetic.j1 k1 t220 t221 x7_1 true)) else ((impl_Compute.f 10 x7_1 t223 t221).bind fun t226 => ((impl_Compute.f 8 x7_1 t226 t224).bind fun t227 => (if t227 = t220 then (laws_FnArithmetic.j1 k1 t220 t221 x7_1 false) else (laws_FnArithmetic.j1 k1 t220 t221 x7_1 true))))) else (laws_FnArithmetic.j1 k1 t220 t221 x7_1 true)) = some r := H
            have A13 := Aside0.mk A130
            clear A130
            by_cases c14 : t225 = t220
            · rw [if_pos c14] at H
              have c14b0 : (t225 == t220) = true := beq_iff_eq.mpr c14
              have c14b1 : (t225 != t220) = false := bne_eq_false_iff_eq.mpr c14
              clear c14
              (first | rw [c14b0] | (simp only [i64_w, i32_w]; rw [c14b0]) | skip)
              by_cases c15 : t221 = 0
              · rw [if_pos c15] at H
                have c15b0 : (t221 == 0) = true := beq_iff_eq.mpr c15
                have c15b1 : (t221 != 0) = false := bne_eq_false_iff_eq.mpr c15
                clear c15
                by_cases c16 : t223 = 0
                · rw [if_pos c16] at H
                  have c16b0 : (t223 == 0) = true := beq_iff_eq.mpr c16
                  have c16b1 : (t223 != 0) = false := bne_eq_false_iff_eq.mpr c16
                  clear c16
                  have H' := Aside0.mk H
                  clear H
                  go_wp2_with (first | ((with_reducible refine gate_callee (f := 20) rfl ?_); refine goesL_ (some 45) rfl rfl Try.func20 (by kernel_rfl) rfl #[.int .i64 9, .int .i64 x7_1, .int .u32 t222, .int .u32 t221] rfl (by (try simp only [List.map_toArray, List.map_cons, List.map_nil]); first | done | rfl | (simp only [List.length_drop, List.length_take]; rfl)) ?_; (with_reducible refine (impl_Compute.calls 9 x7_1 t222 t221 t225 _ A13.out).mono ?_); rintro e w17 ⟨rfl, hb⟩; refine ⟨_, rfl, ?_⟩; have n0_ := Aside0.mk (below_step (by repeat (first | (with_reducible first | exact HB.out | apply below_alloc | apply pw_below_drewN | apply below_drew1) | exact HB.out)) hb); clear HB; have HB := n0_; clear n0_; (try clear hb); (try clear hb2); (try clear hk); (try clear hi)))
                  go_meet
                  case rel => exact ⟨_, ((t224 != 0)), (by first | rfl | (simp; done) | (simp [*]; done)), H', ⟨by have := HK1.out; first | omega | exact Nat.le_refl _⟩, ⟨by repeat (first | (with_reducible first | exact HB.out | apply below_alloc | apply pw_below_drewN | apply below_drew1) | exact HB.out)⟩⟩
                · rw [if_neg c16] at H
                  have c16b0 : (t223 == 0) = false := beq_eq_false_iff_ne.mpr c16
                  have c16b1 : (t223 != 0) = true := bne_iff_ne.mpr c16
                  have H' := Aside0.mk H
                  clear H
                  go_wp2_with (first | ((with_reducible refine gate_callee (f := 20) rfl ?_); refine goesL_ (some 45) rfl rfl Try.func20 (by kernel_rfl) rfl #[.int .i64 9, .int .i64 x7_1, .int .u32 t222, .int .u32 t221] rfl (by (try simp only [List.map_toArray, List.map_cons, List.map_nil]); first | done | rfl | (simp only [List.length_drop, List.length_take]; rfl)) ?_; (with_reducible refine (impl_Compute.calls 9 x7_1 t222 t221 t225 _ A13.out).mono ?_); rintro e w18 ⟨rfl, hb⟩; refine ⟨_, rfl, ?_⟩; have n0_ := Aside0.mk (below_step (by repeat (first | (with_reducible first | exact HB.out | apply below_alloc | apply pw_below_drewN | apply below_drew1) | exact HB.out)) hb); clear HB; have HB := n0_; clear n0_; (try clear hb); (try clear hb2); (try clear hk); (try clear hi)))
                  go_meet
                  case rel => exact ⟨_, (true), (by first | rfl | (simp; done) | (simp [*]; done)), H', ⟨by have := HK1.out; first | omega | exact Nat.le_refl _⟩, ⟨by repeat (first | (with_reducible first | exact HB.out | apply below_alloc | apply pw_below_drewN | apply below_drew1) | exact HB.out)⟩⟩
              · rw [if_neg c15] at H
                have c15b0 : (t221 == 0) = false := beq_eq_false_iff_ne.mpr c15
                have c15b1 : (t221 != 0) = true := bne_iff_ne.mpr c15
                replace H := Option.bind_eq_some_iff.mp H
                obtain ⟨t226, A190, H⟩ := H
                replace H : ((impl_Compute.f 8 x7_1 t226 t224).bind fun t227 => (if t227 = t220 then (laws_FnArithmetic.j1 k1 t220 t221 x7_1 false) else (laws_FnArithmetic.j1 k1 t220 t221 x7_1 true))) = some r := H
                have A19 := Aside0.mk A190
                clear A190
                replace H := Option.bind_eq_some_iff.mp H
                obtain ⟨t227, A200, H⟩ := H
                replace H : (if t227 = t220 then (laws_FnArithmetic.j1 k1 t220 t221 x7_1 false) else (laws_FnArithmetic.j1 k1 t220 t221 x7_1 true)) = some r := H
                have A20 := Aside0.mk A200
                clear A200
                by_cases c21 : t227 = t220
                · rw [if_pos c21] at H
                  have c21b0 : (t227 == t220) = true := beq_iff_eq.mpr c21
                  have c21b1 : (t227 != t220) = false := bne_eq_false_iff_eq.mpr c21
                  clear c21
                  have H' := Aside0.mk H
                  clear H
                  go_wp2_with (first | ((with_reducible refine gate_callee (f := 20) rfl ?_); refine goesL_ (some 45) rfl rfl Try.func20 (by kernel_rfl) rfl #[.int .i64 9, .int .i64 x7_1, .int .u32 t222, .int .u32 t221] rfl (by (try simp only [List.map_toArray, List.map_cons, List.map_nil]); first | done | rfl | (simp only [List.length_drop, List.length_take]; rfl)) ?_; (with_reducible refine (impl_Compute.calls 9 x7_1 t222 t221 t225 _ A13.out).mono ?_); rintro e w22 ⟨rfl, hb⟩; refine ⟨_, rfl, ?_⟩; have n0_ := Aside0.mk (below_step (by repeat (first | (with_reducible first | exact HB.out | apply below_alloc | apply pw_below_drewN | apply below_drew1) | exact HB.out)) hb); clear HB; have HB := n0_; clear n0_; (try clear hb); (try clear hb2); (try clear hk); (try clear hi)) | (go_at_call 20; (with_reducible refine (impl_Compute.calls 10 x7_1 t223 t221 t226 _ A19.out).mono ?_); rintro e w23 ⟨rfl, hb⟩; have n0_ := Aside0.mk (below_step (by repeat (first | (with_reducible first | exact HB.out | apply below_alloc | apply pw_below_drewN | apply below_drew1) | exact HB.out)) hb); clear HB; have HB := n0_; clear n0_; (try clear hb); (try clear hb2); (try clear hk); (try clear hi)) | (go_at_call 20; (with_reducible refine (impl_Compute.calls 8 x7_1 t226 t224 t227 _ A20.out).mono ?_); rintro e w24 ⟨rfl, hb⟩; have n0_ := Aside0.mk (below_step (by repeat (first | (with_reducible first | exact HB.out | apply below_alloc | apply pw_below_drewN | apply below_drew1) | exact HB.out)) hb); clear HB; have HB := n0_; clear n0_; (try clear hb); (try clear hb2); (try clear hk); (try clear hi)))
                  go_meet
                  case rel => exact ⟨_, (false), (by first | rfl | (simp; done) | (simp [*]; done)), H', ⟨by have := HK1.out; first | omega | exact Nat.le_refl _⟩, ⟨by repeat (first | (with_reducible first | exact HB.out | apply below_alloc | apply pw_below_drewN | apply below_drew1) | exact HB.out)⟩⟩
                · rw [if_neg c21] at H
                  have c21b0 : (t227 == t220) = false := beq_eq_false_iff_ne.mpr c21
                  have c21b1 : (t227 != t220) = true := bne_iff_ne.mpr c21
                  have H' := Aside0.mk H
                  clear H
                  go_wp2_with (first | ((with_reducible refine gate_callee (f := 20) rfl ?_); refine goesL_ (some 45) rfl rfl Try.func20 (by kernel_rfl) rfl #[.int .i64 9, .int .i64 x7_1, .int .u32 t222, .int .u32 t221] rfl (by (try simp only [List.map_toArray, List.map_cons, List.map_nil]); first | done | rfl | (simp only [List.length_drop, List.length_take]; rfl)) ?_; (with_reducible refine (impl_Compute.calls 9 x7_1 t222 t221 t225 _ A13.out).mono ?_); rintro e w25 ⟨rfl, hb⟩; refine ⟨_, rfl, ?_⟩; have n0_ := Aside0.mk (below_step (by repeat (first | (with_reducible first | exact HB.out | apply below_alloc | apply pw_below_drewN | apply below_drew1) | exact HB.out)) hb); clear HB; have HB := n0_; clear n0_; (try clear hb); (try clear hb2); (try clear hk); (try clear hi)) | (go_at_call 20; (with_reducible refine (impl_Compute.calls 10 x7_1 t223 t221 t226 _ A19.out).mono ?_); rintro e w26 ⟨rfl, hb⟩; have n0_ := Aside0.mk (below_step (by repeat (first | (with_reducible first | exact HB.out | apply below_alloc | apply pw_below_drewN | apply below_drew1) | exact HB.out)) hb); clear HB; have HB := n0_; clear n0_; (try clear hb); (try clear hb2); (try clear hk); (try clear hi)) | (go_at_call 20; (with_reducible refine (impl_Compute.calls 8 x7_1 t226 t224 t227 _ A20.out).mono ?_); rintro e w27 ⟨rfl, hb⟩; have n0_ := Aside0.mk (below_step (by repeat (first | (with_reducible first | exact HB.out | apply below_alloc | apply pw_below_drewN | apply below_drew1) | exact HB.out)) hb); clear HB; have HB := n0_; clear n0_; (try clear hb); (try clear hb2); (try clear hk); (try clear hi)))
                  go_meet
                  case rel => exact ⟨_, (true), (by first | rfl | (simp; done) | (simp [*]; done)), H', ⟨by have := HK1.out; first | omega | exact Nat.le_refl _⟩, ⟨by repeat (first | (with_reducible first | exact HB.out | apply below_alloc | apply pw_below_drewN | apply below_drew1) | exact HB.out)⟩⟩
            · rw [if_neg c14] at H
              have c14b0 : (t225 == t220) = false := beq_eq_false_iff_ne.mpr c14
              have c14b1 : (t225 != t220) = true := bne_iff_ne.mpr c14
              (first | rw [c14b0] | (simp only [i64_w, i32_w]; rw [c14b0]) | skip)
              have H' := Aside0.mk H
              clear H
              go_wp2_with (first | ((with_reducible refine gate_callee (f := 20) rfl ?_); refine goesL_ (some 45) rfl rfl Try.func20 (by kernel_rfl) rfl #[.int .i64 9, .int .i64 x7_1, .int .u32 t222, .int .u32 t221] rfl (by (try simp only [List.map_toArray, List.map_cons, List.map_nil]); first | done | rfl | (simp only [List.length_drop, List.length_take]; rfl)) ?_; (with_reducible refine (impl_Compute.calls 9 x7_1 t222 t221 t225 _ A13.out).mono ?_); rintro e w28 ⟨rfl, hb⟩; refine ⟨_, rfl, ?_⟩; have n0_ := Aside0.mk (below_step (by repeat (first | (with_reducible first | exact HB.out | apply below_alloc | apply pw_below_drewN | apply below_drew1) | exact HB.out)) hb); clear HB; have HB := n0_; clear n0_; (try clear hb); (try clear hb2); (try clear hk); (try clear hi)))
              go_meet
              case rel => exact ⟨_, (true), (by first | rfl | (simp; done) | (simp [*]; done)), H', ⟨by have := HK1.out; first | omega | exact Nat.le_refl _⟩, ⟨by repeat (first | (with_reducible first | exact HB.out | apply below_alloc | apply pw_below_drewN | apply below_drew1) | exact HB.out)⟩⟩
          case rest =>
            clear HC9
            try clear c1
            try clear c2
            try clear c2b0
            try clear c2b1
            try clear p2
            try clear c5
            try clear c5b0
            try clear c6
            try clear c14
            try clear c14b0
            try clear c14b1
            try clear c15
            try clear c15b0
            try clear c15b1
            try clear c16
            try clear c16b0
            try clear c16b1
            try clear c19
            try clear c20
            try clear c21
            try clear c21b0
            try clear c21b1
            try clear p2
            obtain ⟨kq, x74_8, rfl, HA, HJ8, HB⟩ := hcut
            cases kq with
            | zero => exact absurd HA.out (by simp [laws_FnArithmetic.j1])
            | succ kj8 =>
              have H := HA.out
              clear HA
              simp only [laws_FnArithmetic.j1] at H
              by_cases c29 : x74_8 = true
              · subst c29
                have H1 : (some false) = some r := by rw [if_pos rfl] at H; exact H
                clear H
                have H := H1
                clear H1
                obtain rfl := Option.some.inj H
                go_wp2
                go_ret
                exact ⟨by first | rfl | (simp [errW_none, errW_some] <;> rfl) | (simp [*, errW_none, errW_some] <;> rfl), by repeat (first | (with_reducible first | exact HB.out | apply below_alloc | apply pw_below_drewN | apply below_drew1) | exact HB.out)⟩
              · replace c29 := Bool.eq_false_iff.mpr c29
                subst c29
                have H1 : ((impl_Compute.f 21 x7_1 t220 t221).bind fun t228 => ((impl_Compute.f 21 x7_1 t221 t220).bind fun t229 => ((impl_Compute.f 20 x7_1 t220 t221).bind fun t230 => (if ((((t228 + t229) % 4294967296) + t230) % 4294967296) = 1 then (laws_FnArithmetic.l0 kj8 t220 t221 (wrap64 (x7_1 + 1))) else (some false))))) = some r := by rw [if_neg (show ¬ (false = true) by decide)] at H; exact H
                clear H
                have H := H1
                clear H1
                replace H := Option.bind_eq_some_iff.mp H
                obtain ⟨t228, A300, H⟩ := H
                replace H : ((impl_Compute.f 21 x7_1 t221 t220).bind fun t229 => ((impl_Compute.f 20 x7_1 t220 t221).bind fun t230 => (if ((((t228 + t229) % 4294967296) + t230) % 4294967296) = 1 then (laws_FnArithmetic.l0 kj8 t220 t221 (wrap64 (x7_1 + 1))) else (some false)))) = some r := H
                have A30 := Aside0.mk A300
                clear A300
                replace H := Option.bind_eq_some_iff.mp H
                obtain ⟨t229, A310, H⟩ := H
                replace H : ((impl_Compute.f 20 x7_1 t220 t221).bind fun t230 => (if ((((t228 + t229) % 4294967296) + t230) % 4294967296) = 1 then (laws_FnArithmetic.l0 kj8 t220 t221 (wrap64 (x7_1 + 1))) else (some false))) = some r := H
                have A31 := Aside0.mk A310
                clear A310
                replace H := Option.bind_eq_some_iff.mp H
                obtain ⟨t230, A320, H⟩ := H
                replace H : (if ((((t228 + t229) % 4294967296) + t230) % 4294967296) = 1 then (laws_FnArithmetic.l0 kj8 t220 t221 (wrap64 (x7_1 + 1))) else (some false)) = some r := H
                have A32 := Aside0.mk A320
                clear A320
                by_cases c33 : ((((t228 + t229) % 4294967296) + t230) % 4294967296) = 1
                · rw [if_pos c33] at H
                  have c33b0 : (((((t228 + t229) % 4294967296) + t230) % 4294967296) == 1) = true := beq_iff_eq.mpr c33
                  have c33b1 : (((((t228 + t229) % 4294967296) + t230) % 4294967296) != 1) = false := bne_eq_false_iff_eq.mpr c33
                  clear c33
                  have H' := Aside0.mk H
                  clear H
                  go_wp2_with (first | ((with_reducible refine gate_callee (f := 20) rfl ?_); refine goesL_ (some 78) rfl rfl Try.func20 (by kernel_rfl) rfl #[.int .i64 21, .int .i64 x7_1, .int .u32 t220, .int .u32 t221] rfl (by (try simp only [List.map_toArray, List.map_cons, List.map_nil]); first | done | rfl | (simp only [List.length_drop, List.length_take]; rfl)) ?_; (with_reducible refine (impl_Compute.calls 21 x7_1 t220 t221 t228 _ A30.out).mono ?_); rintro e w34 ⟨rfl, hb⟩; refine ⟨_, rfl, ?_⟩; have n0_ := Aside0.mk (below_step (by repeat (first | (with_reducible first | exact HB.out | apply below_alloc | apply pw_below_drewN | apply below_drew1) | exact HB.out)) hb); clear HB; have HB := n0_; clear n0_; (try clear hb); (try clear hb2); (try clear hk); (try clear hi)) | ((with_reducible refine gate_callee (f := 20) rfl ?_); refine goesL_ (some 82) rfl rfl Try.func20 (by kernel_rfl) rfl #[.int .i64 21, .int .i64 x7_1, .int .u32 t221, .int .u32 t220] rfl (by (try simp only [List.map_toArray, List.map_cons, List.map_nil]); first | done | rfl | (simp only [List.length_drop, List.length_take]; rfl)) ?_; (with_reducible refine (impl_Compute.calls 21 x7_1 t221 t220 t229 _ A31.out).mono ?_); rintro e w35 ⟨rfl, hb⟩; refine ⟨_, rfl, ?_⟩; have n0_ := Aside0.mk (below_step (by repeat (first | (with_reducible first | exact HB.out | apply below_alloc | apply pw_below_drewN | apply below_drew1) | exact HB.out)) hb); clear HB; have HB := n0_; clear n0_; (try clear hb); (try clear hb2); (try clear hk); (try clear hi)) | ((with_reducible refine gate_callee (f := 20) rfl ?_); refine goesL_ (some 86) rfl rfl Try.func20 (by kernel_rfl) rfl #[.int .i64 20, .int .i64 x7_1, .int .u32 t220, .int .u32 t221] rfl (by (try simp only [List.map_toArray, List.map_cons, List.map_nil]); first | done | rfl | (simp only [List.length_drop, List.length_take]; rfl)) ?_; (with_reducible refine (impl_Compute.calls 20 x7_1 t220 t221 t230 _ A32.out).mono ?_); rintro e w36 ⟨rfl, hb⟩; refine ⟨_, rfl, ?_⟩; have n0_ := Aside0.mk (below_step (by repeat (first | (with_reducible first | exact HB.out | apply below_alloc | apply pw_below_drewN | apply below_drew1) | exact HB.out)) hb); clear HB; have HB := n0_; clear n0_; (try clear hb); (try clear hb2); (try clear hk); (try clear hi)))
                  go_roundg kj8
                  case measure => have := HK1.out; have := HJ8.out; omega
                  case rel => exact ⟨(wrap64 (x7_1 + 1)), (by first | rfl | (simp; done) | (simp [*]; done)), H', ⟨by have := HK1.out; have := HJ8.out; omega⟩, ⟨by repeat (first | (with_reducible first | exact HB.out | apply below_alloc | apply pw_below_drewN | apply below_drew1) | exact HB.out)⟩⟩
                · rw [if_neg c33] at H
                  have c33b0 : (((((t228 + t229) % 4294967296) + t230) % 4294967296) == 1) = false := beq_eq_false_iff_ne.mpr c33
                  have c33b1 : (((((t228 + t229) % 4294967296) + t230) % 4294967296) != 1) = true := bne_iff_ne.mpr c33
                  obtain rfl := Option.some.inj H
                  go_wp2_with (first | ((with_reducible refine gate_callee (f := 20) rfl ?_); refine goesL_ (some 78) rfl rfl Try.func20 (by kernel_rfl) rfl #[.int .i64 21, .int .i64 x7_1, .int .u32 t220, .int .u32 t221] rfl (by (try simp only [List.map_toArray, List.map_cons, List.map_nil]); first | done | rfl | (simp only [List.length_drop, List.length_take]; rfl)) ?_; (with_reducible refine (impl_Compute.calls 21 x7_1 t220 t221 t228 _ A30.out).mono ?_); rintro e w37 ⟨rfl, hb⟩; refine ⟨_, rfl, ?_⟩; have n0_ := Aside0.mk (below_step (by repeat (first | (with_reducible first | exact HB.out | apply below_alloc | apply pw_below_drewN | apply below_drew1) | exact HB.out)) hb); clear HB; have HB := n0_; clear n0_; (try clear hb); (try clear hb2); (try clear hk); (try clear hi)) | ((with_reducible refine gate_callee (f := 20) rfl ?_); refine goesL_ (some 82) rfl rfl Try.func20 (by kernel_rfl) rfl #[.int .i64 21, .int .i64 x7_1, .int .u32 t221, .int .u32 t220] rfl (by (try simp only [List.map_toArray, List.map_cons, List.map_nil]); first | done | rfl | (simp only [List.length_drop, List.length_take]; rfl)) ?_; (with_reducible refine (impl_Compute.calls 21 x7_1 t221 t220 t229 _ A31.out).mono ?_); rintro e w38 ⟨rfl, hb⟩; refine ⟨_, rfl, ?_⟩; have n0_ := Aside0.mk (below_step (by repeat (first | (with_reducible first | exact HB.out | apply below_alloc | apply pw_below_drewN | apply below_drew1) | exact HB.out)) hb); clear HB; have HB := n0_; clear n0_; (try clear hb); (try clear hb2); (try clear hk); (try clear hi)) | ((with_reducible refine gate_callee (f := 20) rfl ?_); refine goesL_ (some 86) rfl rfl Try.func20 (by kernel_rfl) rfl #[.int .i64 20, .int .i64 x7_1, .int .u32 t220, .int .u32 t221] rfl (by (try simp only [List.map_toArray, List.map_cons, List.map_nil]); first | done | rfl | (simp only [List.length_drop, List.length_take]; rfl)) ?_; (with_reducible refine (impl_Compute.calls 20 x7_1 t220 t221 t230 _ A32.out).mono ?_); rintro e w39 ⟨rfl, hb⟩; refine ⟨_, rfl, ?_⟩; have n0_ := Aside0.mk (below_step (by repeat (first | (with_reducible first | exact HB.out | apply below_alloc | apply pw_below_drewN | apply below_drew1) | exact HB.out)) hb); clear HB; have HB := n0_; clear n0_; (try clear hb); (try clear hb2); (try clear hk); (try clear hi)))
                  go_ret
                  exact ⟨by first | rfl | (simp [errW_none, errW_some] <;> rfl) | (simp [*, errW_none, errW_some] <;> rfl), by repeat (first | (with_reducible first | exact HB.out | apply below_alloc | apply pw_below_drewN | apply below_drew1) | exact HB.out)⟩
        · rw [if_neg c5] at H
          have c5b0 : decide (x7_1 ≤ 3) = false := decide_eq_false c5
          clear c5
          replace H := Option.bind_eq_some_iff.mp H
          obtain ⟨t231, A400, H⟩ := H
          replace H : ((impl_Compute.f 14 3 t220 t221).bind fun t232 => ((impl_Compute.f 15 3 t231 t232).bind fun t233 => ((impl_Compute.f 15 3 t220 t221).bind fun t234 => (if t233 = t234 then ((impl_Compute.f 16 3 t220 0).bind fun t235 => ((impl_Compute.f 16 3 t235 0).bind fun t236 => (if t236 = t220 then ((impl_Compute.f 17 3 t220 32).bind fun t237 => (if t237 = t220 then ((impl_Compute.f 19 0 t220 0).bind fun t238 => ((impl_Compute.f 9 3 0 t220).bind fun t239 => (if t238 = t239 then ((impl_Compute.f 16 1 1 0).bind fun t240 => (if t240 = 0 then ((impl_Convert.f k1 2 1 t220).bind fun t241 => ((impl_Compute.f 20 3 t220 0).bind fun t242 => ((impl_Compute.f 16 1 t242 0).bind fun t243 => (some (t241 == t243))))) else (some false))) else (some false)))) else (some false))) else (some false)))) else (some false))))) = some r := H
          have A40 := Aside0.mk A400
          clear A400
          replace H := Option.bind_eq_some_iff.mp H
          obtain ⟨t232, A410, H⟩ := H
          replace H : ((impl_Compute.f 15 3 t231 t232).bind fun t233 => ((impl_Compute.f 15 3 t220 t221).bind fun t234 => (if t233 = t234 then ((impl_Compute.f 16 3 t220 0).bind fun t235 => ((impl_Compute.f 16 3 t235 0).bind fun t236 => (if t236 = t220 then ((impl_Compute.f 17 3 t220 32).bind fun t237 => (if t237 = t220 then ((impl_Compute.f 19 0 t220 0).bind fun t238 => ((impl_Compute.f 9 3 0 t220).bind fun t239 => (if t238 = t239 then ((impl_Compute.f 16 1 1 0).bind fun t240 => (if t240 = 0 then ((impl_Convert.f k1 2 1 t220).bind fun t241 => ((impl_Compute.f 20 3 t220 0).bind fun t242 => ((impl_Compute.f 16 1 t242 0).bind fun t243 => (some (t241 == t243))))) else (some false))) else (some false)))) else (some false))) else (some false)))) else (some false)))) = some r := H
          have A41 := Aside0.mk A410
          clear A410
          replace H := Option.bind_eq_some_iff.mp H
          obtain ⟨t233, A420, H⟩ := H
          replace H : ((impl_Compute.f 15 3 t220 t221).bind fun t234 => (if t233 = t234 then ((impl_Compute.f 16 3 t220 0).bind fun t235 => ((impl_Compute.f 16 3 t235 0).bind fun t236 => (if t236 = t220 then ((impl_Compute.f 17 3 t220 32).bind fun t237 => (if t237 = t220 then ((impl_Compute.f 19 0 t220 0).bind fun t238 => ((impl_Compute.f 9 3 0 t220).bind fun t239 => (if t238 = t239 then ((impl_Compute.f 16 1 1 0).bind fun t240 => (if t240 = 0 then ((impl_Convert.f k1 2 1 t220).bind fun t241 => ((impl_Compute.f 20 3 t220 0).bind fun t242 => ((impl_Compute.f 16 1 t242 0).bind fun t243 => (some (t241 == t243))))) else (some false))) else (some false)))) else (some false))) else (some false)))) else (some false))) = some r := H
          have A42 := Aside0.mk A420
          clear A420
          replace H := Option.bind_eq_some_iff.mp H
          obtain ⟨t234, A430, H⟩ := H
          replace H : (if t233 = t234 then ((impl_Compute.f 16 3 t220 0).bind fun t235 => ((impl_Compute.f 16 3 t235 0).bind fun t236 => (if t236 = t220 then ((impl_Compute.f 17 3 t220 32).bind fun t237 => (if t237 = t220 then ((impl_Compute.f 19 0 t220 0).bind fun t238 => ((impl_Compute.f 9 3 0 t220).bind fun t239 => (if t238 = t239 then ((impl_Compute.f 16 1 1 0).bind fun t240 => (if t240 = 0 then ((impl_Convert.f k1 2 1 t220).bind fun t241 => ((impl_Compute.f 20 3 t220 0).bind fun t242 => ((impl_Compute.f 16 1 t242 0).bind fun t243 => (some (t241 == t243))))) else (some false))) else (some false)))) else (some false))) else (some false)))) else (some false)) = some r := H
          have A43 := Aside0.mk A430
          clear A430
          by_cases c44 : t233 = t234
          · rw [if_pos c44] at H
            have c44b0 : (t233 == t234) = true := beq_iff_eq.mpr c44
            have c44b1 : (t233 != t234) = false := bne_eq_false_iff_eq.mpr c44
            clear c44
            replace H := Option.bind_eq_some_iff.mp H
            obtain ⟨t235, A450, H⟩ := H
            replace H : ((impl_Compute.f 16 3 t235 0).bind fun t236 => (if t236 = t220 then ((impl_Compute.f 17 3 t220 32).bind fun t237 => (if t237 = t220 then ((impl_Compute.f 19 0 t220 0).bind fun t238 => ((impl_Compute.f 9 3 0 t220).bind fun t239 => (if t238 = t239 then ((impl_Compute.f 16 1 1 0).bind fun t240 => (if t240 = 0 then ((impl_Convert.f k1 2 1 t220).bind fun t241 => ((impl_Compute.f 20 3 t220 0).bind fun t242 => ((impl_Compute.f 16 1 t242 0).bind fun t243 => (some (t241 == t243))))) else (some false))) else (some false)))) else (some false))) else (some false))) = some r := H
            have A45 := Aside0.mk A450
            clear A450
            replace H := Option.bind_eq_some_iff.mp H
            obtain ⟨t236, A460, H⟩ := H
            replace H : (if t236 = t220 then ((impl_Compute.f 17 3 t220 32).bind fun t237 => (if t237 = t220 then ((impl_Compute.f 19 0 t220 0).bind fun t238 => ((impl_Compute.f 9 3 0 t220).bind fun t239 => (if t238 = t239 then ((impl_Compute.f 16 1 1 0).bind fun t240 => (if t240 = 0 then ((impl_Convert.f k1 2 1 t220).bind fun t241 => ((impl_Compute.f 20 3 t220 0).bind fun t242 => ((impl_Compute.f 16 1 t242 0).bind fun t243 => (some (t241 == t243))))) else (some false))) else (some false)))) else (some false))) else (some false)) = some r := H
            have A46 := Aside0.mk A460
            clear A460
            by_cases c47 : t236 = t220
            · rw [if_pos c47] at H
              have c47b0 : (t236 == t220) = true := beq_iff_eq.mpr c47
              have c47b1 : (t236 != t220) = false := bne_eq_false_iff_eq.mpr c47
              clear c47
              replace H := Option.bind_eq_some_iff.mp H
              obtain ⟨t237, A480, H⟩ := H
              replace H : (if t237 = t220 then ((impl_Compute.f 19 0 t220 0).bind fun t238 => ((impl_Compute.f 9 3 0 t220).bind fun t239 => (if t238 = t239 then ((impl_Compute.f 16 1 1 0).bind fun t240 => (if t240 = 0 then ((impl_Convert.f k1 2 1 t220).bind fun t241 => ((impl_Compute.f 20 3 t220 0).bind fun t242 => ((impl_Compute.f 16 1 t242 0).bind fun t243 => (some (t241 == t243))))) else (some false))) else (some false)))) else (some false)) = some r := H
              have A48 := Aside0.mk A480
              clear A480
              by_cases c49 : t237 = t220
              · rw [if_pos c49] at H
                have c49b0 : (t237 == t220) = true := beq_iff_eq.mpr c49
                have c49b1 : (t237 != t220) = false := bne_eq_false_iff_eq.mpr c49
                clear c49
                replace H := Option.bind_eq_some_iff.mp H
                obtain ⟨t238, A500, H⟩ := H
                replace H : ((impl_Compute.f 9 3 0 t220).bind fun t239 => (if t238 = t239 then ((impl_Compute.f 16 1 1 0).bind fun t240 => (if t240 = 0 then ((impl_Convert.f k1 2 1 t220).bind fun t241 => ((impl_Compute.f 20 3 t220 0).bind fun t242 => ((impl_Compute.f 16 1 t242 0).bind fun t243 => (some (t241 == t243))))) else (some false))) else (some false))) = some r := H
                have A50 := Aside0.mk A500
                clear A500
                replace H := Option.bind_eq_some_iff.mp H
                obtain ⟨t239, A510, H⟩ := H
                replace H : (if t238 = t239 then ((impl_Compute.f 16 1 1 0).bind fun t240 => (if t240 = 0 then ((impl_Convert.f k1 2 1 t220).bind fun t241 => ((impl_Compute.f 20 3 t220 0).bind fun t242 => ((impl_Compute.f 16 1 t242 0).bind fun t243 => (some (t241 == t243))))) else (some false))) else (some false)) = some r := H
                have A51 := Aside0.mk A510
                clear A510
                by_cases c52 : t238 = t239
                · rw [if_pos c52] at H
                  have c52b0 : (t238 == t239) = true := beq_iff_eq.mpr c52
                  have c52b1 : (t238 != t239) = false := bne_eq_false_iff_eq.mpr c52
                  clear c52
                  replace H := Option.bind_eq_some_iff.mp H
                  obtain ⟨t240, A530, H⟩ := H
                  replace H : (if t240 = 0 then ((impl_Convert.f k1 2 1 t220).bind fun t241 => ((impl_Compute.f 20 3 t220 0).bind fun t242 => ((impl_Compute.f 16 1 t242 0).bind fun t243 => (some (t241 == t243))))) else (some false)) = some r := H
                  have A53 := Aside0.mk A530
                  clear A530
                  by_cases c54 : t240 = 0
                  · rw [if_pos c54] at H
                    have c54b0 : (t240 == 0) = true := beq_iff_eq.mpr c54
                    have c54b1 : (t240 != 0) = false := bne_eq_false_iff_eq.mpr c54
                    clear c54
                    replace H := Option.bind_eq_some_iff.mp H
                    obtain ⟨t241, A550, H⟩ := H
                    replace H : ((impl_Compute.f 20 3 t220 0).bind fun t242 => ((impl_Compute.f 16 1 t242 0).bind fun t243 => (some (t241 == t243)))) = some r := H
                    have A55 := Aside0.mk A550
                    clear A550
                    replace H := Option.bind_eq_some_iff.mp H
                    obtain ⟨t242, A560, H⟩ := H
                    replace H : ((impl_Compute.f 16 1 t242 0).bind fun t243 => (some (t241 == t243))) = some r := H
                    have A56 := Aside0.mk A560
                    clear A560
                    replace H := Option.bind_eq_some_iff.mp H
                    obtain ⟨t243, A570, H⟩ := H
                    replace H : (some (t241 == t243)) = some r := H
                    have A57 := Aside0.mk A570
                    clear A570
                    obtain rfl := Option.some.inj H
                    go_wp2_with (first | ((with_reducible refine gate_callee (f := 20) rfl ?_); refine goesL_ (some 97) rfl rfl Try.func20 (by kernel_rfl) rfl #[.int .i64 13, .int .i64 3, .int .u32 t220, .int .u32 t221] rfl (by (try simp only [List.map_toArray, List.map_cons, List.map_nil]); first | done | rfl | (simp only [List.length_drop, List.length_take]; rfl)) ?_; (with_reducible refine (impl_Compute.calls 13 3 t220 t221 t231 _ A40.out).mono ?_); rintro e w58 ⟨rfl, hb⟩; refine ⟨_, rfl, ?_⟩; have n0_ := Aside0.mk (below_step (by repeat (first | (with_reducible first | exact HB.out | apply below_alloc | apply pw_below_drewN | apply below_drew1) | exact HB.out)) hb); clear HB; have HB := n0_; clear n0_; (try clear hb); (try clear hb2); (try clear hk); (try clear hi)) | ((with_reducible refine gate_callee (f := 20) rfl ?_); refine goesL_ (some 101) rfl rfl Try.func20 (by kernel_rfl) rfl #[.int .i64 14, .int .i64 3, .int .u32 t220, .int .u32 t221] rfl (by (try simp only [List.map_toArray, List.map_cons, List.map_nil]); first | done | rfl | (simp only [List.length_drop, List.length_take]; rfl)) ?_; (with_reducible refine (impl_Compute.calls 14 3 t220 t221 t232 _ A41.out).mono ?_); rintro e w59 ⟨rfl, hb⟩; refine ⟨_, rfl, ?_⟩; have n0_ := Aside0.mk (below_step (by repeat (first | (with_reducible first | exact HB.out | apply below_alloc | apply pw_below_drewN | apply below_drew1) | exact HB.out)) hb); clear HB; have HB := n0_; clear n0_; (try clear hb); (try clear hb2); (try clear hk); (try clear hi)) | ((with_reducible refine gate_callee (f := 20) rfl ?_); refine goesL_ (some 102) rfl rfl Try.func20 (by kernel_rfl) rfl #[.int .i64 15, .int .i64 3, .int .u32 t231, .int .u32 t232] rfl (by (try simp only [List.map_toArray, List.map_cons, List.map_nil]); first | done | rfl | (simp only [List.length_drop, List.length_take]; rfl)) ?_; (with_reducible refine (impl_Compute.calls 15 3 t231 t232 t233 _ A42.out).mono ?_); rintro e w60 ⟨rfl, hb⟩; refine ⟨_, rfl, ?_⟩; have n0_ := Aside0.mk (below_step (by repeat (first | (with_reducible first | exact HB.out | apply below_alloc | apply pw_below_drewN | apply below_drew1) | exact HB.out)) hb); clear HB; have HB := n0_; clear n0_; (try clear hb); (try clear hb2); (try clear hk); (try clear hi)) | ((with_reducible refine gate_callee (f := 20) rfl ?_); refine goesL_ (some 107) rfl rfl Try.func20 (by kernel_rfl) rfl #[.int .i64 15, .int .i64 3, .int .u32 t220, .int .u32 t221] rfl (by (try simp only [List.map_toArray, List.map_cons, List.map_nil]); first | done | rfl | (simp only [List.length_drop, List.length_take]; rfl)) ?_; (with_reducible refine (impl_Compute.calls 15 3 t220 t221 t234 _ A43.out).mono ?_); rintro e w61 ⟨rfl, hb⟩; refine ⟨_, rfl, ?_⟩; have n0_ := Aside0.mk (below_step (by repeat (first | (with_reducible first | exact HB.out | apply below_alloc | apply pw_below_drewN | apply below_drew1) | exact HB.out)) hb); clear HB; have HB := n0_; clear n0_; (try clear hb); (try clear hb2); (try clear hk); (try clear hi)) | (go_at_call 20; (with_reducible refine (impl_Compute.calls 16 3 t220 0 t235 _ A45.out).mono ?_); rintro e w62 ⟨rfl, hb⟩; have n0_ := Aside0.mk (below_step (by repeat (first | (with_reducible first | exact HB.out | apply below_alloc | apply pw_below_drewN | apply below_drew1) | exact HB.out)) hb); clear HB; have HB := n0_; clear n0_; (try clear hb); (try clear hb2); (try clear hk); (try clear hi)) | (go_at_call 20; (with_reducible refine (impl_Compute.calls 16 3 t235 0 t236 _ A46.out).mono ?_); rintro e w63 ⟨rfl, hb⟩; have n0_ := Aside0.mk (below_step (by repeat (first | (with_reducible first | exact HB.out | apply below_alloc | apply pw_below_drewN | apply below_drew1) | exact HB.out)) hb); clear HB; have HB := n0_; clear n0_; (try clear hb); (try clear hb2); (try clear hk); (try clear hi)) | (go_at_call 20; (with_reducible refine (impl_Compute.calls 17 3 t220 32 t237 _ A48.out).mono ?_); rintro e w64 ⟨rfl, hb⟩; have n0_ := Aside0.mk (below_step (by repeat (first | (with_reducible first | exact HB.out | apply below_alloc | apply pw_below_drewN | apply below_drew1) | exact HB.out)) hb); clear HB; have HB := n0_; clear n0_; (try clear hb); (try clear hb2); (try clear hk); (try clear hi)) | (go_at_call 20; (with_reducible refine (impl_Compute.calls 19 0 t220 0 t238 _ A50.out).mono ?_); rintro e w65 ⟨rfl, hb⟩; have n0_ := Aside0.mk (below_step (by repeat (first | (with_reducible first | exact HB.out | apply below_alloc | apply pw_below_drewN | apply below_drew1) | exact HB.out)) hb); clear HB; have HB := n0_; clear n0_; (try clear hb); (try clear hb2); (try clear hk); (try clear hi)) | (go_at_call 20; (with_reducible refine (impl_Compute.calls 9 3 0 t220 t239 _ A51.out).mono ?_); rintro e w66 ⟨rfl, hb⟩; have n0_ := Aside0.mk (below_step (by repeat (first | (with_reducible first | exact HB.out | apply below_alloc | apply pw_below_drewN | apply below_drew1) | exact HB.out)) hb); clear HB; have HB := n0_; clear n0_; (try clear hb); (try clear hb2); (try clear hk); (try clear hi)) | (go_at_call 20; (with_reducible refine (impl_Compute.calls 16 1 1 0 t240 _ A53.out).mono ?_); rintro e w67 ⟨rfl, hb⟩; have n0_ := Aside0.mk (below_step (by repeat (first | (with_reducible first | exact HB.out | apply below_alloc | apply pw_below_drewN | apply below_drew1) | exact HB.out)) hb); clear HB; have HB := n0_; clear n0_; (try clear hb); (try clear hb2); (try clear hk); (try clear hi)) | (go_at_call 21; (with_reducible refine (impl_Convert.calls k1 2 1 t220 t241 _ A55.out).mono ?_); rintro e w' ⟨rfl, ⟨nd, rfl⟩⟩) | (go_at_call 20; (with_reducible refine (impl_Compute.calls 20 3 t220 0 t242 _ A56.out).mono ?_); rintro e w68 ⟨rfl, hb⟩; have n0_ := Aside0.mk (below_step (by repeat (first | (with_reducible first | exact HB.out | apply below_alloc | apply pw_below_drewN | apply below_drew1) | exact HB.out)) hb); clear HB; have HB := n0_; clear n0_; (try clear hb); (try clear hb2); (try clear hk); (try clear hi)) | (go_at_call 20; (with_reducible refine (impl_Compute.calls 16 1 t242 0 t243 _ A57.out).mono ?_); rintro e w69 ⟨rfl, hb⟩; have n0_ := Aside0.mk (below_step (by repeat (first | (with_reducible first | exact HB.out | apply below_alloc | apply pw_below_drewN | apply below_drew1) | exact HB.out)) hb); clear HB; have HB := n0_; clear n0_; (try clear hb); (try clear hb2); (try clear hk); (try clear hi)))
                    go_ret
                    exact ⟨by first | rfl | (simp [errW_none, errW_some] <;> rfl) | (simp [*, errW_none, errW_some] <;> rfl), by repeat (first | (with_reducible first | exact HB.out | apply below_alloc | apply pw_below_drewN | apply below_drew1) | exact HB.out)⟩
                  · rw [if_neg c54] at H
                    have c54b0 : (t240 == 0) = false := beq_eq_false_iff_ne.mpr c54
                    have c54b1 : (t240 != 0) = true := bne_iff_ne.mpr c54
                    obtain rfl := Option.some.inj H
                    go_wp2_with (first | ((with_reducible refine gate_callee (f := 20) rfl ?_); refine goesL_ (some 97) rfl rfl Try.func20 (by kernel_rfl) rfl #[.int .i64 13, .int .i64 3, .int .u32 t220, .int .u32 t221] rfl (by (try simp only [List.map_toArray, List.map_cons, List.map_nil]); first | done | rfl | (simp only [List.length_drop, List.length_take]; rfl)) ?_; (with_reducible refine (impl_Compute.calls 13 3 t220 t221 t231 _ A40.out).mono ?_); rintro e w70 ⟨rfl, hb⟩; refine ⟨_, rfl, ?_⟩; have n0_ := Aside0.mk (below_step (by repeat (first | (with_reducible first | exact HB.out | apply below_alloc | apply pw_below_drewN | apply below_drew1) | exact HB.out)) hb); clear HB; have HB := n0_; clear n0_; (try clear hb); (try clear hb2); (try clear hk); (try clear hi)) | ((with_reducible refine gate_callee (f := 20) rfl ?_); refine goesL_ (some 101) rfl rfl Try.func20 (by kernel_rfl) rfl #[.int .i64 14, .int .i64 3, .int .u32 t220, .int .u32 t221] rfl (by (try simp only [List.map_toArray, List.map_cons, List.map_nil]); first | done | rfl | (simp only [List.length_drop, List.length_take]; rfl)) ?_; (with_reducible refine (impl_Compute.calls 14 3 t220 t221 t232 _ A41.out).mono ?_); rintro e w71 ⟨rfl, hb⟩; refine ⟨_, rfl, ?_⟩; have n0_ := Aside0.mk (below_step (by repeat (first | (with_reducible first | exact HB.out | apply below_alloc | apply pw_below_drewN | apply below_drew1) | exact HB.out)) hb); clear HB; have HB := n0_; clear n0_; (try clear hb); (try clear hb2); (try clear hk); (try clear hi)) | ((with_reducible refine gate_callee (f := 20) rfl ?_); refine goesL_ (some 102) rfl rfl Try.func20 (by kernel_rfl) rfl #[.int .i64 15, .int .i64 3, .int .u32 t231, .int .u32 t232] rfl (by (try simp only [List.map_toArray, List.map_cons, List.map_nil]); first | done | rfl | (simp only [List.length_drop, List.length_take]; rfl)) ?_; (with_reducible refine (impl_Compute.calls 15 3 t231 t232 t233 _ A42.out).mono ?_); rintro e w72 ⟨rfl, hb⟩; refine ⟨_, rfl, ?_⟩; have n0_ := Aside0.mk (below_step (by repeat (first | (with_reducible first | exact HB.out | apply below_alloc | apply pw_below_drewN | apply below_drew1) | exact HB.out)) hb); clear HB; have HB := n0_; clear n0_; (try clear hb); (try clear hb2); (try clear hk); (try clear hi)) | ((with_reducible refine gate_callee (f := 20) rfl ?_); refine goesL_ (some 107) rfl rfl Try.func20 (by kernel_rfl) rfl #[.int .i64 15, .int .i64 3, .int .u32 t220, .int .u32 t221] rfl (by (try simp only [List.map_toArray, List.map_cons, List.map_nil]); first | done | rfl | (simp only [List.length_drop, List.length_take]; rfl)) ?_; (with_reducible refine (impl_Compute.calls 15 3 t220 t221 t234 _ A43.out).mono ?_); rintro e w73 ⟨rfl, hb⟩; refine ⟨_, rfl, ?_⟩; have n0_ := Aside0.mk (below_step (by repeat (first | (with_reducible first | exact HB.out | apply below_alloc | apply pw_below_drewN | apply below_drew1) | exact HB.out)) hb); clear HB; have HB := n0_; clear n0_; (try clear hb); (try clear hb2); (try clear hk); (try clear hi)) | (go_at_call 20; (with_reducible refine (impl_Compute.calls 16 3 t220 0 t235 _ A45.out).mono ?_); rintro e w74 ⟨rfl, hb⟩; have n0_ := Aside0.mk (below_step (by repeat (first | (with_reducible first | exact HB.out | apply below_alloc | apply pw_below_drewN | apply below_drew1) | exact HB.out)) hb); clear HB; have HB := n0_; clear n0_; (try clear hb); (try clear hb2); (try clear hk); (try clear hi)) | (go_at_call 20; (with_reducible refine (impl_Compute.calls 16 3 t235 0 t236 _ A46.out).mono ?_); rintro e w75 ⟨rfl, hb⟩; have n0_ := Aside0.mk (below_step (by repeat (first | (with_reducible first | exact HB.out | apply below_alloc | apply pw_below_drewN | apply below_drew1) | exact HB.out)) hb); clear HB; have HB := n0_; clear n0_; (try clear hb); (try clear hb2); (try clear hk); (try clear hi)) | (go_at_call 20; (with_reducible refine (impl_Compute.calls 17 3 t220 32 t237 _ A48.out).mono ?_); rintro e w76 ⟨rfl, hb⟩; have n0_ := Aside0.mk (below_step (by repeat (first | (with_reducible first | exact HB.out | apply below_alloc | apply pw_below_drewN | apply below_drew1) | exact HB.out)) hb); clear HB; have HB := n0_; clear n0_; (try clear hb); (try clear hb2); (try clear hk); (try clear hi)) | (go_at_call 20; (with_reducible refine (impl_Compute.calls 19 0 t220 0 t238 _ A50.out).mono ?_); rintro e w77 ⟨rfl, hb⟩; have n0_ := Aside0.mk (below_step (by repeat (first | (with_reducible first | exact HB.out | apply below_alloc | apply pw_below_drewN | apply below_drew1) | exact HB.out)) hb); clear HB; have HB := n0_; clear n0_; (try clear hb); (try clear hb2); (try clear hk); (try clear hi)) | (go_at_call 20; (with_reducible refine (impl_Compute.calls 9 3 0 t220 t239 _ A51.out).mono ?_); rintro e w78 ⟨rfl, hb⟩; have n0_ := Aside0.mk (below_step (by repeat (first | (with_reducible first | exact HB.out | apply below_alloc | apply pw_below_drewN | apply below_drew1) | exact HB.out)) hb); clear HB; have HB := n0_; clear n0_; (try clear hb); (try clear hb2); (try clear hk); (try clear hi)) | (go_at_call 20; (with_reducible refine (impl_Compute.calls 16 1 1 0 t240 _ A53.out).mono ?_); rintro e w79 ⟨rfl, hb⟩; have n0_ := Aside0.mk (below_step (by repeat (first | (with_reducible first | exact HB.out | apply below_alloc | apply pw_below_drewN | apply below_drew1) | exact HB.out)) hb); clear HB; have HB := n0_; clear n0_; (try clear hb); (try clear hb2); (try clear hk); (try clear hi)))
                    go_ret
                    exact ⟨by first | rfl | (simp [errW_none, errW_some] <;> rfl) | (simp [*, errW_none, errW_some] <;> rfl), by repeat (first | (with_reducible first | exact HB.out | apply below_alloc | apply pw_below_drewN | apply below_drew1) | exact HB.out)⟩
                · rw [if_neg c52] at H
                  have c52b0 : (t238 == t239) = false := beq_eq_false_iff_ne.mpr c52
                  have c52b1 : (t238 != t239) = true := bne_iff_ne.mpr c52
                  obtain rfl := Option.some.inj H
                  go_wp2_with (first | ((with_reducible refine gate_callee (f := 20) rfl ?_); refine goesL_ (some 97) rfl rfl Try.func20 (by kernel_rfl) rfl #[.int .i64 13, .int .i64 3, .int .u32 t220, .int .u32 t221] rfl (by (try simp only [List.map_toArray, List.map_cons, List.map_nil]); first | done | rfl | (simp only [List.length_drop, List.length_take]; rfl)) ?_; (with_reducible refine (impl_Compute.calls 13 3 t220 t221 t231 _ A40.out).mono ?_); rintro e w80 ⟨rfl, hb⟩; refine ⟨_, rfl, ?_⟩; have n0_ := Aside0.mk (below_step (by repeat (first | (with_reducible first | exact HB.out | apply below_alloc | apply pw_below_drewN | apply below_drew1) | exact HB.out)) hb); clear HB; have HB := n0_; clear n0_; (try clear hb); (try clear hb2); (try clear hk); (try clear hi)) | ((with_reducible refine gate_callee (f := 20) rfl ?_); refine goesL_ (some 101) rfl rfl Try.func20 (by kernel_rfl) rfl #[.int .i64 14, .int .i64 3, .int .u32 t220, .int .u32 t221] rfl (by (try simp only [List.map_toArray, List.map_cons, List.map_nil]); first | done | rfl | (simp only [List.length_drop, List.length_take]; rfl)) ?_; (with_reducible refine (impl_Compute.calls 14 3 t220 t221 t232 _ A41.out).mono ?_); rintro e w81 ⟨rfl, hb⟩; refine ⟨_, rfl, ?_⟩; have n0_ := Aside0.mk (below_step (by repeat (first | (with_reducible first | exact HB.out | apply below_alloc | apply pw_below_drewN | apply below_drew1) | exact HB.out)) hb); clear HB; have HB := n0_; clear n0_; (try clear hb); (try clear hb2); (try clear hk); (try clear hi)) | ((with_reducible refine gate_callee (f := 20) rfl ?_); refine goesL_ (some 102) rfl rfl Try.func20 (by kernel_rfl) rfl #[.int .i64 15, .int .i64 3, .int .u32 t231, .int .u32 t232] rfl (by (try simp only [List.map_toArray, List.map_cons, List.map_nil]); first | done | rfl | (simp only [List.length_drop, List.length_take]; rfl)) ?_; (with_reducible refine (impl_Compute.calls 15 3 t231 t232 t233 _ A42.out).mono ?_); rintro e w82 ⟨rfl, hb⟩; refine ⟨_, rfl, ?_⟩; have n0_ := Aside0.mk (below_step (by repeat (first | (with_reducible first | exact HB.out | apply below_alloc | apply pw_below_drewN | apply below_drew1) | exact HB.out)) hb); clear HB; have HB := n0_; clear n0_; (try clear hb); (try clear hb2); (try clear hk); (try clear hi)) | ((with_reducible refine gate_callee (f := 20) rfl ?_); refine goesL_ (some 107) rfl rfl Try.func20 (by kernel_rfl) rfl #[.int .i64 15, .int .i64 3, .int .u32 t220, .int .u32 t221] rfl (by (try simp only [List.map_toArray, List.map_cons, List.map_nil]); first | done | rfl | (simp only [List.length_drop, List.length_take]; rfl)) ?_; (with_reducible refine (impl_Compute.calls 15 3 t220 t221 t234 _ A43.out).mono ?_); rintro e w83 ⟨rfl, hb⟩; refine ⟨_, rfl, ?_⟩; have n0_ := Aside0.mk (below_step (by repeat (first | (with_reducible first | exact HB.out | apply below_alloc | apply pw_below_drewN | apply below_drew1) | exact HB.out)) hb); clear HB; have HB := n0_; clear n0_; (try clear hb); (try clear hb2); (try clear hk); (try clear hi)) | (go_at_call 20; (with_reducible refine (impl_Compute.calls 16 3 t220 0 t235 _ A45.out).mono ?_); rintro e w84 ⟨rfl, hb⟩; have n0_ := Aside0.mk (below_step (by repeat (first | (with_reducible first | exact HB.out | apply below_alloc | apply pw_below_drewN | apply below_drew1) | exact HB.out)) hb); clear HB; have HB := n0_; clear n0_; (try clear hb); (try clear hb2); (try clear hk); (try clear hi)) | (go_at_call 20; (with_reducible refine (impl_Compute.calls 16 3 t235 0 t236 _ A46.out).mono ?_); rintro e w85 ⟨rfl, hb⟩; have n0_ := Aside0.mk (below_step (by repeat (first | (with_reducible first | exact HB.out | apply below_alloc | apply pw_below_drewN | apply below_drew1) | exact HB.out)) hb); clear HB; have HB := n0_; clear n0_; (try clear hb); (try clear hb2); (try clear hk); (try clear hi)) | (go_at_call 20; (with_reducible refine (impl_Compute.calls 17 3 t220 32 t237 _ A48.out).mono ?_); rintro e w86 ⟨rfl, hb⟩; have n0_ := Aside0.mk (below_step (by repeat (first | (with_reducible first | exact HB.out | apply below_alloc | apply pw_below_drewN | apply below_drew1) | exact HB.out)) hb); clear HB; have HB := n0_; clear n0_; (try clear hb); (try clear hb2); (try clear hk); (try clear hi)) | (go_at_call 20; (with_reducible refine (impl_Compute.calls 19 0 t220 0 t238 _ A50.out).mono ?_); rintro e w87 ⟨rfl, hb⟩; have n0_ := Aside0.mk (below_step (by repeat (first | (with_reducible first | exact HB.out | apply below_alloc | apply pw_below_drewN | apply below_drew1) | exact HB.out)) hb); clear HB; have HB := n0_; clear n0_; (try clear hb); (try clear hb2); (try clear hk); (try clear hi)) | (go_at_call 20; (with_reducible refine (impl_Compute.calls 9 3 0 t220 t239 _ A51.out).mono ?_); rintro e w88 ⟨rfl, hb⟩; have n0_ := Aside0.mk (below_step (by repeat (first | (with_reducible first | exact HB.out | apply below_alloc | apply pw_below_drewN | apply below_drew1) | exact HB.out)) hb); clear HB; have HB := n0_; clear n0_; (try clear hb); (try clear hb2); (try clear hk); (try clear hi)))
                  go_ret
                  exact ⟨by first | rfl | (simp [errW_none, errW_some] <;> rfl) | (simp [*, errW_none, errW_some] <;> rfl), by repeat (first | (with_reducible first | exact HB.out | apply below_alloc | apply pw_below_drewN | apply below_drew1) | exact HB.out)⟩
              · rw [if_neg c49] at H
                have c49b0 : (t237 == t220) = false := beq_eq_false_iff_ne.mpr c49
                have c49b1 : (t237 != t220) = true := bne_iff_ne.mpr c49
                obtain rfl := Option.some.inj H
                go_wp2_with (first | ((with_reducible refine gate_callee (f := 20) rfl ?_); refine goesL_ (some 97) rfl rfl Try.func20 (by kernel_rfl) rfl #[.int .i64 13, .int .i64 3, .int .u32 t220, .int .u32 t221] rfl (by (try simp only [List.map_toArray, List.map_cons, List.map_nil]); first | done | rfl | (simp only [List.length_drop, List.length_take]; rfl)) ?_; (with_reducible refine (impl_Compute.calls 13 3 t220 t221 t231 _ A40.out).mono ?_); rintro e w89 ⟨rfl, hb⟩; refine ⟨_, rfl, ?_⟩; have n0_ := Aside0.mk (below_step (by repeat (first | (with_reducible first | exact HB.out | apply below_alloc | apply pw_below_drewN | apply below_drew1) | exact HB.out)) hb); clear HB; have HB := n0_; clear n0_; (try clear hb); (try clear hb2); (try clear hk); (try clear hi)) | ((with_reducible refine gate_callee (f := 20) rfl ?_); refine goesL_ (some 101) rfl rfl Try.func20 (by kernel_rfl) rfl #[.int .i64 14, .int .i64 3, .int .u32 t220, .int .u32 t221] rfl (by (try simp only [List.map_toArray, List.map_cons, List.map_nil]); first | done | rfl | (simp only [List.length_drop, List.length_take]; rfl)) ?_; (with_reducible refine (impl_Compute.calls 14 3 t220 t221 t232 _ A41.out).mono ?_); rintro e w90 ⟨rfl, hb⟩; refine ⟨_, rfl, ?_⟩; have n0_ := Aside0.mk (below_step (by repeat (first | (with_reducible first | exact HB.out | apply below_alloc | apply pw_below_drewN | apply below_drew1) | exact HB.out)) hb); clear HB; have HB := n0_; clear n0_; (try clear hb); (try clear hb2); (try clear hk); (try clear hi)) | ((with_reducible refine gate_callee (f := 20) rfl ?_); refine goesL_ (some 102) rfl rfl Try.func20 (by kernel_rfl) rfl #[.int .i64 15, .int .i64 3, .int .u32 t231, .int .u32 t232] rfl (by (try simp only [List.map_toArray, List.map_cons, List.map_nil]); first | done | rfl | (simp only [List.length_drop, List.length_take]; rfl)) ?_; (with_reducible refine (impl_Compute.calls 15 3 t231 t232 t233 _ A42.out).mono ?_); rintro e w91 ⟨rfl, hb⟩; refine ⟨_, rfl, ?_⟩; have n0_ := Aside0.mk (below_step (by repeat (first | (with_reducible first | exact HB.out | apply below_alloc | apply pw_below_drewN | apply below_drew1) | exact HB.out)) hb); clear HB; have HB := n0_; clear n0_; (try clear hb); (try clear hb2); (try clear hk); (try clear hi)) | ((with_reducible refine gate_callee (f := 20) rfl ?_); refine goesL_ (some 107) rfl rfl Try.func20 (by kernel_rfl) rfl #[.int .i64 15, .int .i64 3, .int .u32 t220, .int .u32 t221] rfl (by (try simp only [List.map_toArray, List.map_cons, List.map_nil]); first | done | rfl | (simp only [List.length_drop, List.length_take]; rfl)) ?_; (with_reducible refine (impl_Compute.calls 15 3 t220 t221 t234 _ A43.out).mono ?_); rintro e w92 ⟨rfl, hb⟩; refine ⟨_, rfl, ?_⟩; have n0_ := Aside0.mk (below_step (by repeat (first | (with_reducible first | exact HB.out | apply below_alloc | apply pw_below_drewN | apply below_drew1) | exact HB.out)) hb); clear HB; have HB := n0_; clear n0_; (try clear hb); (try clear hb2); (try clear hk); (try clear hi)) | (go_at_call 20; (with_reducible refine (impl_Compute.calls 16 3 t220 0 t235 _ A45.out).mono ?_); rintro e w93 ⟨rfl, hb⟩; have n0_ := Aside0.mk (below_step (by repeat (first | (with_reducible first | exact HB.out | apply below_alloc | apply pw_below_drewN | apply below_drew1) | exact HB.out)) hb); clear HB; have HB := n0_; clear n0_; (try clear hb); (try clear hb2); (try clear hk); (try clear hi)) | (go_at_call 20; (with_reducible refine (impl_Compute.calls 16 3 t235 0 t236 _ A46.out).mono ?_); rintro e w94 ⟨rfl, hb⟩; have n0_ := Aside0.mk (below_step (by repeat (first | (with_reducible first | exact HB.out | apply below_alloc | apply pw_below_drewN | apply below_drew1) | exact HB.out)) hb); clear HB; have HB := n0_; clear n0_; (try clear hb); (try clear hb2); (try clear hk); (try clear hi)) | (go_at_call 20; (with_reducible refine (impl_Compute.calls 17 3 t220 32 t237 _ A48.out).mono ?_); rintro e w95 ⟨rfl, hb⟩; have n0_ := Aside0.mk (below_step (by repeat (first | (with_reducible first | exact HB.out | apply below_alloc | apply pw_below_drewN | apply below_drew1) | exact HB.out)) hb); clear HB; have HB := n0_; clear n0_; (try clear hb); (try clear hb2); (try clear hk); (try clear hi)))
                go_ret
                exact ⟨by first | rfl | (simp [errW_none, errW_some] <;> rfl) | (simp [*, errW_none, errW_some] <;> rfl), by repeat (first | (with_reducible first | exact HB.out | apply below_alloc | apply pw_below_drewN | apply below_drew1) | exact HB.out)⟩
            · rw [if_neg c47] at H
              have c47b0 : (t236 == t220) = false := beq_eq_false_iff_ne.mpr c47
              have c47b1 : (t236 != t220) = true := bne_iff_ne.mpr c47
              obtain rfl := Option.some.inj H
              go_wp2_with (first | ((with_reducible refine gate_callee (f := 20) rfl ?_); refine goesL_ (some 97) rfl rfl Try.func20 (by kernel_rfl) rfl #[.int .i64 13, .int .i64 3, .int .u32 t220, .int .u32 t221] rfl (by (try simp only [List.map_toArray, List.map_cons, List.map_nil]); first | done | rfl | (simp only [List.length_drop, List.length_take]; rfl)) ?_; (with_reducible refine (impl_Compute.calls 13 3 t220 t221 t231 _ A40.out).mono ?_); rintro e w96 ⟨rfl, hb⟩; refine ⟨_, rfl, ?_⟩; have n0_ := Aside0.mk (below_step (by repeat (first | (with_reducible first | exact HB.out | apply below_alloc | apply pw_below_drewN | apply below_drew1) | exact HB.out)) hb); clear HB; have HB := n0_; clear n0_; (try clear hb); (try clear hb2); (try clear hk); (try clear hi)) | ((with_reducible refine gate_callee (f := 20) rfl ?_); refine goesL_ (some 101) rfl rfl Try.func20 (by kernel_rfl) rfl #[.int .i64 14, .int .i64 3, .int .u32 t220, .int .u32 t221] rfl (by (try simp only [List.map_toArray, List.map_cons, List.map_nil]); first | done | rfl | (simp only [List.length_drop, List.length_take]; rfl)) ?_; (with_reducible refine (impl_Compute.calls 14 3 t220 t221 t232 _ A41.out).mono ?_); rintro e w97 ⟨rfl, hb⟩; refine ⟨_, rfl, ?_⟩; have n0_ := Aside0.mk (below_step (by repeat (first | (with_reducible first | exact HB.out | apply below_alloc | apply pw_below_drewN | apply below_drew1) | exact HB.out)) hb); clear HB; have HB := n0_; clear n0_; (try clear hb); (try clear hb2); (try clear hk); (try clear hi)) | ((with_reducible refine gate_callee (f := 20) rfl ?_); refine goesL_ (some 102) rfl rfl Try.func20 (by kernel_rfl) rfl #[.int .i64 15, .int .i64 3, .int .u32 t231, .int .u32 t232] rfl (by (try simp only [List.map_toArray, List.map_cons, List.map_nil]); first | done | rfl | (simp only [List.length_drop, List.length_take]; rfl)) ?_; (with_reducible refine (impl_Compute.calls 15 3 t231 t232 t233 _ A42.out).mono ?_); rintro e w98 ⟨rfl, hb⟩; refine ⟨_, rfl, ?_⟩; have n0_ := Aside0.mk (below_step (by repeat (first | (with_reducible first | exact HB.out | apply below_alloc | apply pw_below_drewN | apply below_drew1) | exact HB.out)) hb); clear HB; have HB := n0_; clear n0_; (try clear hb); (try clear hb2); (try clear hk); (try clear hi)) | ((with_reducible refine gate_callee (f := 20) rfl ?_); refine goesL_ (some 107) rfl rfl Try.func20 (by kernel_rfl) rfl #[.int .i64 15, .int .i64 3, .int .u32 t220, .int .u32 t221] rfl (by (try simp only [List.map_toArray, List.map_cons, List.map_nil]); first | done | rfl | (simp only [List.length_drop, List.length_take]; rfl)) ?_; (with_reducible refine (impl_Compute.calls 15 3 t220 t221 t234 _ A43.out).mono ?_); rintro e w99 ⟨rfl, hb⟩; refine ⟨_, rfl, ?_⟩; have n0_ := Aside0.mk (below_step (by repeat (first | (with_reducible first | exact HB.out | apply below_alloc | apply pw_below_drewN | apply below_drew1) | exact HB.out)) hb); clear HB; have HB := n0_; clear n0_; (try clear hb); (try clear hb2); (try clear hk); (try clear hi)) | (go_at_call 20; (with_reducible refine (impl_Compute.calls 16 3 t220 0 t235 _ A45.out).mono ?_); rintro e w100 ⟨rfl, hb⟩; have n0_ := Aside0.mk (below_step (by repeat (first | (with_reducible first | exact HB.out | apply below_alloc | apply pw_below_drewN | apply below_drew1) | exact HB.out)) hb); clear HB; have HB := n0_; clear n0_; (try clear hb); (try clear hb2); (try clear hk); (try clear hi)) | (go_at_call 20; (with_reducible refine (impl_Compute.calls 16 3 t235 0 t236 _ A46.out).mono ?_); rintro e w101 ⟨rfl, hb⟩; have n0_ := Aside0.mk (below_step (by repeat (first | (with_reducible first | exact HB.out | apply below_alloc | apply pw_below_drewN | apply below_drew1) | exact HB.out)) hb); clear HB; have HB := n0_; clear n0_; (try clear hb); (try clear hb2); (try clear hk); (try clear hi)))
              go_ret
              exact ⟨by first | rfl | (simp [errW_none, errW_some] <;> rfl) | (simp [*, errW_none, errW_some] <;> rfl), by repeat (first | (with_reducible first | exact HB.out | apply below_alloc | apply pw_below_drewN | apply below_drew1) | exact HB.out)⟩
          · rw [if_neg c44] at H
            have c44b0 : (t233 == t234) = false := beq_eq_false_iff_ne.mpr c44
            have c44b1 : (t233 != t234) = true := bne_iff_ne.mpr c44
            obtain rfl := Option.some.inj H
            go_wp2_with (first | ((with_reducible refine gate_callee (f := 20) rfl ?_); refine goesL_ (some 97) rfl rfl Try.func20 (by kernel_rfl) rfl #[.int .i64 13, .int .i64 3, .int .u32 t220, .int .u32 t221] rfl (by (try simp only [List.map_toArray, List.map_cons, List.map_nil]); first | done | rfl | (simp only [List.length_drop, List.length_take]; rfl)) ?_; (with_reducible refine (impl_Compute.calls 13 3 t220 t221 t231 _ A40.out).mono ?_); rintro e w102 ⟨rfl, hb⟩; refine ⟨_, rfl, ?_⟩; have n0_ := Aside0.mk (below_step (by repeat (first | (with_reducible first | exact HB.out | apply below_alloc | apply pw_below_drewN | apply below_drew1) | exact HB.out)) hb); clear HB; have HB := n0_; clear n0_; (try clear hb); (try clear hb2); (try clear hk); (try clear hi)) | ((with_reducible refine gate_callee (f := 20) rfl ?_); refine goesL_ (some 101) rfl rfl Try.func20 (by kernel_rfl) rfl #[.int .i64 14, .int .i64 3, .int .u32 t220, .int .u32 t221] rfl (by (try simp only [List.map_toArray, List.map_cons, List.map_nil]); first | done | rfl | (simp only [List.length_drop, List.length_take]; rfl)) ?_; (with_reducible refine (impl_Compute.calls 14 3 t220 t221 t232 _ A41.out).mono ?_); rintro e w103 ⟨rfl, hb⟩; refine ⟨_, rfl, ?_⟩; have n0_ := Aside0.mk (below_step (by repeat (first | (with_reducible first | exact HB.out | apply below_alloc | apply pw_below_drewN | apply below_drew1) | exact HB.out)) hb); clear HB; have HB := n0_; clear n0_; (try clear hb); (try clear hb2); (try clear hk); (try clear hi)) | ((with_reducible refine gate_callee (f := 20) rfl ?_); refine goesL_ (some 102) rfl rfl Try.func20 (by kernel_rfl) rfl #[.int .i64 15, .int .i64 3, .int .u32 t231, .int .u32 t232] rfl (by (try simp only [List.map_toArray, List.map_cons, List.map_nil]); first | done | rfl | (simp only [List.length_drop, List.length_take]; rfl)) ?_; (with_reducible refine (impl_Compute.calls 15 3 t231 t232 t233 _ A42.out).mono ?_); rintro e w104 ⟨rfl, hb⟩; refine ⟨_, rfl, ?_⟩; have n0_ := Aside0.mk (below_step (by repeat (first | (with_reducible first | exact HB.out | apply below_alloc | apply pw_below_drewN | apply below_drew1) | exact HB.out)) hb); clear HB; have HB := n0_; clear n0_; (try clear hb); (try clear hb2); (try clear hk); (try clear hi)) | ((with_reducible refine gate_callee (f := 20) rfl ?_); refine goesL_ (some 107) rfl rfl Try.func20 (by kernel_rfl) rfl #[.int .i64 15, .int .i64 3, .int .u32 t220, .int .u32 t221] rfl (by (try simp only [List.map_toArray, List.map_cons, List.map_nil]); first | done | rfl | (simp only [List.length_drop, List.length_take]; rfl)) ?_; (with_reducible refine (impl_Compute.calls 15 3 t220 t221 t234 _ A43.out).mono ?_); rintro e w105 ⟨rfl, hb⟩; refine ⟨_, rfl, ?_⟩; have n0_ := Aside0.mk (below_step (by repeat (first | (with_reducible first | exact HB.out | apply below_alloc | apply pw_below_drewN | apply below_drew1) | exact HB.out)) hb); clear HB; have HB := n0_; clear n0_; (try clear hb); (try clear hb2); (try clear hk); (try clear hi)))
            go_ret
            exact ⟨by first | rfl | (simp [errW_none, errW_some] <;> rfl) | (simp [*, errW_none, errW_some] <;> rfl), by repeat (first | (with_reducible first | exact HB.out | apply below_alloc | apply pw_below_drewN | apply below_drew1) | exact HB.out)⟩

/-- THE ONE PURE STATEMENT of laws_FnArithmetic: yours. -/
def laws_FnArithmetic.Pure : Prop := ∀ (l0 : List Int), l0.length ≤ maxLen → l0.length * 1 ≤ 140737488351232 → (∀ x ∈ l0, (Lit.int .u8 x).wf = true) → ∃ k, laws_FnArithmetic.f k l0 = some true
theorem laws_FnArithmetic.walk (P : laws_FnArithmetic.Pure) (a0 : Option Addr) (len0 cap0 : Nat) (z0 : List Int) (w : World) (w0 : (a0 = none ∧ len0 = 0 ∧ cap0 = 0 ∧ z0 = []) ∨ ∃ x, a0 = some x ∧ len0 ≤ cap0 ∧ cap0 ≤ maxLen ∧ z0.length = cap0 ∧ (∀ i, i < z0.length → w.cell? (x.add i) = some (.int .u8 (z0.getD i 0))) ∧ ∀ n ∈ z0, (Lit.int .u8 n).wf = true) (y0 : len0 * 1 ≤ 140737488351232) :
    Calls Try.prog 6 #[.slice a0 len0 cap0] w fun e w' => e = .returned (.bool true) ∧ Below w.heap.size w w' := by
  obtain ⟨l0, rfl, hr0, hm0, hw0, hc0⟩ := ReadsInt.ofRowC w0
  obtain ⟨k, h⟩ := P l0 hm0 y0 hw0
  refine (laws_FnArithmetic.calls k _ _ l0 true w (Kd.C_of_reads (d := (0 : Int)) (h1 := fun _ => rfl) hr0) hc0 h).mono ?_
  rintro e w' ⟨rfl, hd⟩
  exact ⟨rfl, hd⟩

end Go.Proofs.Ytlnlbncinjiinaa.M
