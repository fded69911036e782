/- Of this session: made by a program (wip/mprint.py) out of the translation; Lean checks it. -/
import Derived.Test.YtfhlicffjpiobabM0
import Derived.Test.YtfhlicffjpiobabGvCrc
import Derived.Test.YtfhlicffjpiobabGvDrawCrc
import Derived.Test.YtfhlicffjpiobabM1
import Derived.Test.YtfhlicffjpiobabM2
namespace Go.Proofs.Ytfhlicffjpiobab.M
open Go.RowKit Go.Proofs.YtfhlicffjpiobabW.PrintWords Go.Proofs.YtfhlicffjpiobabW.PrintLast Go.Proofs.YtfhlicffjpiobabW.PrintMore
attribute [local go_sem] max2_int min2_int max_two min_two max_three min_three max_four min_four   -- for this text's walks alone
attribute [local go_sem] Go.Proofs.YtfhlicffjpiobabZ.u32_signed Go.Proofs.YtfhlicffjpiobabZ.u32_max
set_option linter.unusedVariables false
set_option linter.unusedSimpArgs false

/-! ### laws_FnNumbers: function 3 -/
mutual
def laws_FnNumbers.j0 : Nat → List Int → Int → Int → List Int → Bool → Option (Bool)
  | 0, _, _, _, _, _ => none
  | k + 1, x0, x3, x4, x5, x27 => if x27 = true then (some ((x5.length : Int) == 0)) else ((laws_lwAt.f x0 0 4).bind fun t167 => (if 0 ≤ t167 then (if (t167 : Int).toNat ≤ 281474976710656 then ((some (List.replicate (t167 : Int).toNat 0 : List Int)).bind fun y168 => (if y168.length + x5.length < 140737488355328 then ((some (y168 ++ x5 : List Int)).bind fun y171 => (if y171.length < 140737488355328 then ((impl_GetNumber.f k (y171 ++ [7]) t167 x4).bind fun bt177 => (if (x5.length : Int) = x4 then (if bt177.1 = true then (if x4 < 8 then (if 0 ≤ (IntKind.u64.wrap (8 * (IntKind.u64.wrap (x4)))) then (if (IntKind.u64.wrap (bt177.2)) = (Go.bits .and .u64 (IntKind.u64.wrap (x3)) (IntKind.u64.wrap ((shl .u64 1 (IntKind.u64.wrap (8 * (IntKind.u64.wrap (x4))))) - 1))) then (if x4 = 8 then (laws_FnNumbers.j1 k x0 (bt177.2 != x3)) else (laws_FnNumbers.j1 k x0 false)) else (laws_FnNumbers.j1 k x0 true)) else (none)) else (if x4 = 8 then (laws_FnNumbers.j1 k x0 (bt177.2 != x3)) else (laws_FnNumbers.j1 k x0 false))) else (laws_FnNumbers.j1 k x0 true)) else (laws_FnNumbers.j1 k x0 true))) else (none))) else (none))) else (none)) else (none)))
def laws_FnNumbers.j1 : Nat → List Int → Bool → Option (Bool)
  | 0, _, _ => none
  | k + 1, x0, x78 => if x78 = true then (some false) else ((spec_DrawCrc.f k x0).bind fun t180 => (if (t180.length : Int) = 0 then ((impl_Crc.f t180).bind fun t183 => (some (t183 == 0))) else ((some (([] : List Int) : List Int)).bind fun y184 => (if y184.length + t180.length < 140737488355328 then ((some (y184 ++ t180 : List Int)).bind fun y187 => ((laws_lwAt.f x0 3 (y187.length : Int)).bind fun t190 => (if 0 ≤ t190 then (if t190 < (y187.length : Int) then ((laws_lwAt.f x0 4 8).bind fun t192 => (if 0 ≤ (IntKind.u64.wrap (t192)) then ((impl_Crc.f t180).bind fun t194 => ((impl_Crc.f (y187.set (t190 : Int).toNat (Go.bits .xor .u8 (rd y187 t190) (shl .u8 1 (IntKind.u64.wrap (t192)))))).bind fun t195 => (if t194 = t195 then (some false) else ((impl_Crc.f (([49, 50, 51, 52, 53, 54, 55, 56, 57] : List Int))).bind fun t199 => (some (t199 == 3421780262)))))) else (none))) else (none)) else (none)))) else (none)))))
end
def laws_FnNumbers.f (k : Nat) (l0 : List Int) : Option (Bool) := if (l0.length : Int) > 1048576 then (some true) else ((spec_DrawPutNumber.f l0).bind fun bt162 => ((impl_PutNumber.f k bt162.1 bt162.2).bind fun t164 => (if bt162.2 < 1 then (laws_FnNumbers.j0 k l0 bt162.1 bt162.2 t164 true) else (laws_FnNumbers.j0 k l0 bt162.1 bt162.2 t164 (decide (bt162.2 > 8))))))
theorem laws_FnNumbers.mono_l : ∀ k, (∀ y0 y1 y2 y3 y4, LeO (laws_FnNumbers.j0 k y0 y1 y2 y3 y4) (laws_FnNumbers.j0 (k + 1) y0 y1 y2 y3 y4)) ∧ (∀ y0 y1, LeO (laws_FnNumbers.j1 k y0 y1) (laws_FnNumbers.j1 (k + 1) y0 y1))
  | 0 => ⟨fun _ _ _ _ _ r h => by simp [laws_FnNumbers.j0] at h, fun _ _ r h => by simp [laws_FnNumbers.j1] at h⟩
  | k + 1 => by
    obtain ⟨ih0, ih1⟩ := laws_FnNumbers.mono_l k
    refine ⟨?_, ?_⟩
    · intro y0 y1 y2 y3 y4
      unfold laws_FnNumbers.j0
      repeat' first
      | (with_reducible exact ih0 _ _ _ _ _)
      | (with_reducible exact ih1 _ _)
      | (with_reducible exact impl_GetNumber.mono _ _ _ _)
      | (with_reducible exact impl_PutNumber.mono _ _ _)
      | (with_reducible exact spec_DrawCrc.mono _ _)
      | (with_reducible exact LeO.refl _)
      | (with_reducible exact LeO.none _)
      | (with_reducible refine LeO.ite ?_ ?_)
      | (with_reducible refine LeO.bind ?_ (fun _ => ?_))
      | exact ih0 _ _ _ _ _
      | exact ih1 _ _
      | exact impl_GetNumber.mono _ _ _ _
      | exact impl_PutNumber.mono _ _ _
      | exact spec_DrawCrc.mono _ _
      | exact LeO.none _
      | refine LeO.ite ?_ ?_
      | refine LeO.bind ?_ (fun _ => ?_)
    · intro y0 y1
      unfold laws_FnNumbers.j1
      repeat' first
      | (with_reducible exact ih0 _ _ _ _ _)
      | (with_reducible exact ih1 _ _)
      | (with_reducible exact impl_GetNumber.mono _ _ _ _)
      | (with_reducible exact impl_PutNumber.mono _ _ _)
      | (with_reducible exact spec_DrawCrc.mono _ _)
      | (with_reducible exact LeO.refl _)
      | (with_reducible exact LeO.none _)
      | (with_reducible refine LeO.ite ?_ ?_)
      | (with_reducible refine LeO.bind ?_ (fun _ => ?_))
      | exact ih0 _ _ _ _ _
      | exact ih1 _ _
      | exact impl_GetNumber.mono _ _ _ _
      | exact impl_PutNumber.mono _ _ _
      | exact spec_DrawCrc.mono _ _
      | exact LeO.none _
      | refine LeO.ite ?_ ?_
      | refine LeO.bind ?_ (fun _ => ?_)
theorem laws_FnNumbers.mono : ∀ a0 k, LeO (laws_FnNumbers.f k a0) (laws_FnNumbers.f (k + 1) a0) := by
  intro a0 k
  obtain ⟨ih0, ih1⟩ := laws_FnNumbers.mono_l k
  unfold laws_FnNumbers.f
  repeat' first
      | (with_reducible exact ih0 _ _ _ _ _)
      | (with_reducible exact ih1 _ _)
      | (with_reducible exact impl_GetNumber.mono _ _ _ _)
      | (with_reducible exact impl_PutNumber.mono _ _ _)
      | (with_reducible exact spec_DrawCrc.mono _ _)
      | (with_reducible exact LeO.refl _)
      | (with_reducible exact LeO.none _)
      | (with_reducible refine LeO.ite ?_ ?_)
      | (with_reducible refine LeO.bind ?_ (fun _ => ?_))
      | exact ih0 _ _ _ _ _
      | exact ih1 _ _
      | exact impl_GetNumber.mono _ _ _ _
      | exact impl_PutNumber.mono _ _ _
      | exact spec_DrawCrc.mono _ _
      | exact LeO.none _
      | refine LeO.ite ?_ ?_
      | refine LeO.bind ?_ (fun _ => ?_)
def laws_FnNumbers.T16 : Bool × List (List Nat × List Nat) := (true, [([], []), ([], []), ([], []), ([], []), ([2, 3], [2, 3]), ([4], [4]), ([], []), ([6], [6]), ([7], [7]), ([8], [8]), ([5, 9], [5, 9]), ([0, 1, 0, 1, 2, 3, 4, 5, 6, 7, 8, 9, 10], [0, 1]), ([11, 10, 7, 0, 1, 2, 3, 4, 5, 6, 7, 8, 9, 10], [10, 11])])
def laws_FnNumbers.B16 : List Nat := [0, 0, 0, 0, 12, 28, 0, 64, 192, 448, 1020, 2047, 4095]
theorem laws_FnNumbers.tab16 : rtab .any (opsOf Try.f3 16) = laws_FnNumbers.T16 := by kernel_rfl
theorem laws_FnNumbers.bits16 : waitsOk laws_FnNumbers.T16.2 laws_FnNumbers.B16 = true := by kernel_rfl
set_option maxHeartbeats 8000000 in
set_option maxRecDepth 100000 in
theorem laws_FnNumbers.calls (k : Nat) (A0 : Option Addr) (c0 : Nat) (l0 : List Int) (r : Bool) (w : World) (hr0 : Kd.C (Kd.int .u8) w A0 l0.length l0) (hc0 : l0.length ≤ c0) (h : laws_FnNumbers.f k l0 = some r) :
    Calls Try.prog 3 #[.slice A0 l0.length c0] w fun e w' => e = .returned (.bool r) ∧ Below w.heap.size w w' := by
  have hu28 := Try.underlying28
  have HR0 := Aside0.mk hr0
  have HC0 := Aside0.mk hc0
  clear hr0 hc0
  have HB := Aside0.mk (Below.refl w.heap.size w)
  have H : (if (l0.length : Int) > 1048576 then (some true) else ((spec_DrawPutNumber.f l0).bind fun bt162 => ((impl_PutNumber.f k bt162.1 bt162.2).bind fun t164 => (if bt162.2 < 1 then (laws_FnNumbers.j0 k l0 bt162.1 bt162.2 t164 true) else (laws_FnNumbers.j0 k l0 bt162.1 bt162.2 t164 (decide (bt162.2 > 8))))))) = some r := h
  clear h
  by_cases c2 : (l0.length : Int) > 1048576
  · rw [if_pos c2] at H
    have c2b0 : decide (1048576 < (l0.length : Int)) = true := decide_eq_true c2
    have c2b1 : decide (1048576 < l0.length) = true := decide_eq_true (by omega)
    clear c2
    obtain rfl := Option.some.inj H
    go_enter Try.func3, Try.ntmps3
    go_wp2
    go_ret
    exact ⟨by first | rfl | (simp [errW_none, errW_some] <;> rfl) | (simp [*, errW_none, errW_some] <;> rfl), by repeat (first | (with_reducible first | exact HB.out | apply below_alloc | apply pw_below_drewN | apply below_drew1) | exact HB.out)⟩
  · rw [if_neg c2] at H
    have c2b0 : decide (1048576 < (l0.length : Int)) = false := decide_eq_false c2
    have c2b1 : decide (1048576 < l0.length) = false := decide_eq_false (by omega)
    clear c2
    replace H := Option.bind_eq_some_iff.mp H
    obtain ⟨⟨t162, t163⟩, A30, H⟩ := H
    replace H : ((impl_PutNumber.f k t162 t163).bind fun t164 => (if t163 < 1 then (laws_FnNumbers.j0 k l0 t162 t163 t164 true) else (laws_FnNumbers.j0 k l0 t162 t163 t164 (decide (t163 > 8))))) = some r := H
    have A3 := Aside0.mk A30
    clear A30
    replace H := Option.bind_eq_some_iff.mp H
    obtain ⟨t164, A40, H⟩ := H
    replace H : (if t163 < 1 then (laws_FnNumbers.j0 k l0 t162 t163 t164 true) else (laws_FnNumbers.j0 k l0 t162 t163 t164 (decide (t163 > 8)))) = some r := H
    have A4 := Aside0.mk A40
    clear A40
    have HC5 := Aside0.mk H
    clear H
    go_enter Try.func3, Try.ntmps3
    go_upto_region 5 with (first | ((with_reducible refine gate_callee (f := 4) rfl ?_); refine goesL_ (some 16) rfl rfl Try.func4 (by kernel_rfl) rfl #[.slice A0 l0.length c0] rfl (by (try simp only [List.map_toArray, List.map_cons, List.map_nil]); first | done | rfl | (simp only [List.length_drop, List.length_take]; rfl)) ?_; (with_reducible refine (spec_DrawPutNumber.calls _ _ l0 t162 t163 _ ?side1 ?side2 A3.out).mono ?_); (case side1 => repeat (first | exact HR0.out | (with_reducible refine Kd.C_alloc ?_ _) | (with_reducible refine Kd.C_drewN ?_ _) | (with_reducible refine Kd.C_drew ?_))); (case side2 => exact HC0.out); rintro e w6 ⟨rfl, hb⟩; refine ⟨_, rfl, ?_⟩; have n0_ := Aside0.mk (below_step (by repeat (first | (with_reducible first | exact HB.out | apply below_alloc | apply pw_below_drewN | apply below_drew1) | exact HB.out)) hb); clear HB; have HB := n0_; clear n0_; (try clear hb); (try clear hb2); (try clear hk); (try clear hi)) | ((with_reducible refine gate_callee (f := 5) rfl ?_); refine goesL_ (some 21) rfl rfl Try.func5 (by kernel_rfl) rfl #[.int .i64 t162, .int .i64 t163] rfl (by (try simp only [List.map_toArray, List.map_cons, List.map_nil]); first | done | rfl | (simp only [List.length_drop, List.length_take]; rfl)) ?_; (with_reducible refine (impl_PutNumber.calls k t162 t163 t164 _ A4.out).mono ?_); rintro e w7 ⟨v165, rfl, ho0, hb⟩; refine ⟨_, rfl, ?_⟩; have n0_ := Aside0.mk (Kd.R_lower ho0 (below_size (by repeat (first | (with_reducible first | exact HB.out | apply below_alloc | apply pw_below_drewN | apply below_drew1) | exact HB.out)))); have n1_ := Aside0.mk (below_step (by repeat (first | (with_reducible first | exact HB.out | apply below_alloc | apply pw_below_drewN | apply below_drew1) | exact HB.out)) hb); clear HB; have HO166 := n0_; have HB := n1_; clear n0_ n1_; (try clear hb); (try clear hb2); (try clear hk); (try clear hi); (try clear ho0)))
    (try simp only [Act.put, List.setIfInBounds_toArray, List.set_cons_zero, List.set_cons_succ])
    go_cut [27] (fun v27 wc => ∃ (kq : Nat) (x27_4 : Bool), v27 = .bool x27_4 ∧ Aside0 (laws_FnNumbers.j0 kq l0 t162 t163 t164 x27_4 = some r) ∧ Aside0 (kq ≤ k) ∧ Aside0 (Kd.R (Kd.int .u8) 5 wc w.heap.size (fun _ => True) v165 t164) ∧ Aside0 (Below w.heap.size w wc))
    case first =>
      have H := HC5.out
      clear HC5
      by_cases c8 : t163 < 1
      · rw [if_pos c8] at H
        have c8b0 : decide (t163 < 1) = true := decide_eq_true c8
        clear c8
        (first | rw [c8b0] | (simp only [i64_w, i32_w]; rw [c8b0]) | skip)
        have H' := Aside0.mk H
        clear H
        go_wp2
        go_meet
        case rel => exact ⟨_, (true), (by first | rfl | (simp; done) | (simp [*]; done)), H', ⟨by first | omega | exact Nat.le_refl _⟩, ⟨by (with_reducible repeat (first | apply Kd.R_alloc | apply Kd.R_drewN | apply Kd.R_drew)); exact HO166.out⟩, ⟨by repeat (first | (with_reducible first | exact HB.out | apply below_alloc | apply pw_below_drewN | apply below_drew1) | exact HB.out)⟩⟩
      · rw [if_neg c8] at H
        have c8b0 : decide (t163 < 1) = false := decide_eq_false c8
        clear c8
        (first | rw [c8b0] | (simp only [i64_w, i32_w]; rw [c8b0]) | skip)
        have H' := Aside0.mk H
        clear H
        go_wp2
        go_meet
        case rel => exact ⟨_, (decide (t163 > 8)), (by first | rfl | (simp; done) | (simp [*]; done)), H', ⟨by first | omega | exact Nat.le_refl _⟩, ⟨by (with_reducible repeat (first | apply Kd.R_alloc | apply Kd.R_drewN | apply Kd.R_drew)); exact HO166.out⟩, ⟨by repeat (first | (with_reducible first | exact HB.out | apply below_alloc | apply pw_below_drewN | apply below_drew1) | exact HB.out)⟩⟩
    case rest =>
      clear HC5
      try clear c2
      try clear c2b0
      try clear c2b1
      try clear p2
      try clear c3
      try clear c4
      try clear c5
      try clear c8
      try clear c8b0
      obtain ⟨kq, x27_4, rfl, HA, HJ4, HO_5, HB⟩ := hcut
      cases kq with
      | zero => exact absurd HA.out (by simp [laws_FnNumbers.j0])
      | succ kj4 =>
        have H := HA.out
        clear HA
        simp only [laws_FnNumbers.j0] at H
        by_cases c9 : x27_4 = true
        · subst c9
          have H1 : (some ((t164.length : Int) == 0)) = some r := by rw [if_pos rfl] at H; exact H
          clear H
          have H := H1
          clear H1
          obtain rfl := Option.some.inj H
          obtain ⟨Ao10, co10, eo10⟩ := Kd.R_slice HO_5.out
          subst eo10
          go_wp2
          go_ret
          exact ⟨by first | rfl | (simp [errW_none, errW_some] <;> rfl) | (simp [*, errW_none, errW_some] <;> rfl), by repeat (first | (with_reducible first | exact HB.out | apply below_alloc | apply pw_below_drewN | apply below_drew1) | exact HB.out)⟩
        · replace c9 := Bool.eq_false_iff.mpr c9
          subst c9
          have H1 : ((laws_lwAt.f l0 0 4).bind fun t167 => (if 0 ≤ t167 then (if (t167 : Int).toNat ≤ 281474976710656 then ((some (List.replicate (t167 : Int).toNat 0 : List Int)).bind fun y168 => (if y168.length + t164.length < 140737488355328 then ((some (y168 ++ t164 : List Int)).bind fun y171 => (if y171.length < 140737488355328 then ((impl_GetNumber.f kj4 (y171 ++ [7]) t167 t163).bind fun bt177 => (if (t164.length : Int) = t163 then (if bt177.1 = true then (if t163 < 8 then (if 0 ≤ (IntKind.u64.wrap (8 * (IntKind.u64.wrap (t163)))) then (if (IntKind.u64.wrap (bt177.2)) = (Go.bits .and .u64 (IntKind.u64.wrap (t162)) (IntKind.u64.wrap ((shl .u64 1 (IntKind.u64.wrap (8 * (IntKind.u64.wrap (t163))))) - 1))) then (if t163 = 8 then (laws_FnNumbers.j1 kj4 l0 (bt177.2 != t162)) else (laws_FnNumbers.j1 kj4 l0 false)) else (laws_FnNumbers.j1 kj4 l0 true)) else (none)) else (if t163 = 8 then (laws_FnNumbers.j1 kj4 l0 (bt177.2 != t162)) else (laws_FnNumbers.j1 kj4 l0 false))) else (laws_FnNumbers.j1 kj4 l0 true)) else (laws_FnNumbers.j1 kj4 l0 true))) else (none))) else (none))) else (none)) else (none))) = some r := by rw [if_neg (show ¬ (false = true) by decide)] at H; exact H
          clear H
          have H := H1
          clear H1
          replace H := Option.bind_eq_some_iff.mp H
          obtain ⟨t167, A110, H⟩ := H
          replace H : (if 0 ≤ t167 then (if (t167 : Int).toNat ≤ 281474976710656 then ((some (List.replicate (t167 : Int).toNat 0 : List Int)).bind fun y168 => (if y168.length + t164.length < 140737488355328 then ((some (y168 ++ t164 : List Int)).bind fun y171 => (if y171.length < 140737488355328 then ((impl_GetNumber.f kj4 (y171 ++ [7]) t167 t163).bind fun bt177 => (if (t164.length : Int) = t163 then (if bt177.1 = true then (if t163 < 8 then (if 0 ≤ (IntKind.u64.wrap (8 * (IntKind.u64.wrap (t163)))) then (if (IntKind.u64.wrap (bt177.2)) = (Go.bits .and .u64 (IntKind.u64.wrap (t162)) (IntKind.u64.wrap ((shl .u64 1 (IntKind.u64.wrap (8 * (IntKind.u64.wrap (t163))))) - 1))) then (if t163 = 8 then (laws_FnNumbers.j1 kj4 l0 (bt177.2 != t162)) else (laws_FnNumbers.j1 kj4 l0 false)) else (laws_FnNumbers.j1 kj4 l0 true)) else (none)) else (if t163 = 8 then (laws_FnNumbers.j1 kj4 l0 (bt177.2 != t162)) else (laws_FnNumbers.j1 kj4 l0 false))) else (laws_FnNumbers.j1 kj4 l0 true)) else (laws_FnNumbers.j1 kj4 l0 true))) else (none))) else (none))) else (none)) else (none)) = some r := H
          have A11 := Aside0.mk A110
          clear A110
          by_cases c12 : 0 ≤ t167
          · rw [if_pos c12] at H
            have c12b0 := eq_true c12
            have c12b1 : decide (0 ≤ t167) = true := decide_eq_true c12
            clear c12
            by_cases c13 : (t167 : Int).toNat ≤ 281474976710656
            · rw [if_pos c13] at H
              have c13b0 := eq_true c13
              have c13b1 : decide ((t167 : Int).toNat ≤ 281474976710656) = true := decide_eq_true c13
              clear c13
              obtain ⟨y168, hy168⟩ : ∃ y_ : List Int, y_ = (List.replicate (t167 : Int).toNat 0) := ⟨_, rfl⟩
              replace H : (if y168.length + t164.length < 140737488355328 then ((some (y168 ++ t164 : List Int)).bind fun y171 => (if y171.length < 140737488355328 then ((impl_GetNumber.f kj4 (y171 ++ [7]) t167 t163).bind fun bt177 => (if (t164.length : Int) = t163 then (if bt177.1 = true then (if t163 < 8 then (if 0 ≤ (IntKind.u64.wrap (8 * (IntKind.u64.wrap (t163)))) then (if (IntKind.u64.wrap (bt177.2)) = (Go.bits .and .u64 (IntKind.u64.wrap (t162)) (IntKind.u64.wrap ((shl .u64 1 (IntKind.u64.wrap (8 * (IntKind.u64.wrap (t163))))) - 1))) then (if t163 = 8 then (laws_FnNumbers.j1 kj4 l0 (bt177.2 != t162)) else (laws_FnNumbers.j1 kj4 l0 false)) else (laws_FnNumbers.j1 kj4 l0 true)) else (none)) else (if t163 = 8 then (laws_FnNumbers.j1 kj4 l0 (bt177.2 != t162)) else (laws_FnNumbers.j1 kj4 l0 false))) else (laws_FnNumbers.j1 kj4 l0 true)) else (laws_FnNumbers.j1 kj4 l0 true))) else (none))) else (none)) = some r := by first | (rw [hy168]; with_reducible exact H) | (have H2_ := (Option.bind_some _ _).symm.trans H; rw [hy168]; with_reducible exact H2_) | (have H2_ := (Option.bind_some _ _).symm.trans H; with_reducible exact H2_) | with_reducible exact H | (rw [hy168]; exact H) | exact H
              have Ny168 := Aside0.mk hy168
              clear hy168
              by_cases c14 : y168.length + t164.length < 140737488355328
              · rw [if_pos c14] at H
                have LMc14 := Aside0.mk c14
                clear c14
                obtain ⟨y171, hy171⟩ : ∃ y_ : List Int, y_ = (y168 ++ t164) := ⟨_, rfl⟩
                replace H : (if y171.length < 140737488355328 then ((impl_GetNumber.f kj4 (y171 ++ [7]) t167 t163).bind fun bt177 => (if (t164.length : Int) = t163 then (if bt177.1 = true then (if t163 < 8 then (if 0 ≤ (IntKind.u64.wrap (8 * (IntKind.u64.wrap (t163)))) then (if (IntKind.u64.wrap (bt177.2)) = (Go.bits .and .u64 (IntKind.u64.wrap (t162)) (IntKind.u64.wrap ((shl .u64 1 (IntKind.u64.wrap (8 * (IntKind.u64.wrap (t163))))) - 1))) then (if t163 = 8 then (laws_FnNumbers.j1 kj4 l0 (bt177.2 != t162)) else (laws_FnNumbers.j1 kj4 l0 false)) else (laws_FnNumbers.j1 kj4 l0 true)) else (none)) else (if t163 = 8 then (laws_FnNumbers.j1 kj4 l0 (bt177.2 != t162)) else (laws_FnNumbers.j1 kj4 l0 false))) else (laws_FnNumbers.j1 kj4 l0 true)) else (laws_FnNumbers.j1 kj4 l0 true))) else (none)) = some r := by first | (rw [hy171]; with_reducible exact H) | (have H2_ := (Option.bind_some _ _).symm.trans H; rw [hy171]; with_reducible exact H2_) | (have H2_ := (Option.bind_some _ _).symm.trans H; with_reducible exact H2_) | with_reducible exact H | (rw [hy171]; exact H) | exact H
                have Ny171 := Aside0.mk hy171
                clear hy171
                by_cases c15 : y171.length < 140737488355328
                · rw [if_pos c15] at H
                  have LMc15 := Aside0.mk c15
                  clear c15
                  obtain ⟨y174, hy174⟩ : ∃ y_ : List Int, y_ = (y171 ++ [7]) := ⟨_, rfl⟩
                  replace H : ((impl_GetNumber.f kj4 y174 t167 t163).bind fun bt177 => (if (t164.length : Int) = t163 then (if bt177.1 = true then (if t163 < 8 then (if 0 ≤ (IntKind.u64.wrap (8 * (IntKind.u64.wrap (t163)))) then (if (IntKind.u64.wrap (bt177.2)) = (Go.bits .and .u64 (IntKind.u64.wrap (t162)) (IntKind.u64.wrap ((shl .u64 1 (IntKind.u64.wrap (8 * (IntKind.u64.wrap (t163))))) - 1))) then (if t163 = 8 then (laws_FnNumbers.j1 kj4 l0 (bt177.2 != t162)) else (laws_FnNumbers.j1 kj4 l0 false)) else (laws_FnNumbers.j1 kj4 l0 true)) else (none)) else (if t163 = 8 then (laws_FnNumbers.j1 kj4 l0 (bt177.2 != t162)) else (laws_FnNumbers.j1 kj4 l0 false))) else (laws_FnNumbers.j1 kj4 l0 true)) else (laws_FnNumbers.j1 kj4 l0 true))) = some r := by first | (rw [hy174]; with_reducible exact H) | (have H2_ := (Option.bind_some _ _).symm.trans H; rw [hy174]; with_reducible exact H2_) | (have H2_ := (Option.bind_some _ _).symm.trans H; with_reducible exact H2_) | with_reducible exact H | (rw [hy174]; exact H) | exact H
                  have Ny174 := Aside0.mk hy174
                  clear hy174
                  replace H := Option.bind_eq_some_iff.mp H
                  obtain ⟨⟨t177, t178⟩, A160, H⟩ := H
                  replace H : (if (t164.length : Int) = t163 then (if t177 = true then (if t163 < 8 then (if 0 ≤ (IntKind.u64.wrap (8 * (IntKind.u64.wrap (t163)))) then (if (IntKind.u64.wrap (t178)) = (Go.bits .and .u64 (IntKind.u64.wrap (t162)) (IntKind.u64.wrap ((shl .u64 1 (IntKind.u64.wrap (8 * (IntKind.u64.wrap (t163))))) - 1))) then (if t163 = 8 then (laws_FnNumbers.j1 kj4 l0 (t178 != t162)) else (laws_FnNumbers.j1 kj4 l0 false)) else (laws_FnNumbers.j1 kj4 l0 true)) else (none)) else (if t163 = 8 then (laws_FnNumbers.j1 kj4 l0 (t178 != t162)) else (laws_FnNumbers.j1 kj4 l0 false))) else (laws_FnNumbers.j1 kj4 l0 true)) else (laws_FnNumbers.j1 kj4 l0 true)) = some r := H
                  have A16 := Aside0.mk A160
                  clear A160
                  have HC17 := Aside0.mk H
                  clear H
                  go_upto_region 9 with (first | ((with_reducible refine gate_callee (f := 6) rfl ?_); refine goesL_ (some 32) rfl rfl Try.func6 (by kernel_rfl) rfl #[.slice A0 l0.length c0, .int .i64 0, .int .i64 4] rfl (by (try simp only [List.map_toArray, List.map_cons, List.map_nil]); first | done | rfl | (simp only [List.length_drop, List.length_take]; rfl)) ?_; (with_reducible refine (laws_lwAt.calls _ _ l0 0 4 t167 _ ?side1 ?side2 A11.out).mono ?_); (case side1 => repeat (first | exact (Kd.C_below HR0.out HB.out) | (with_reducible refine Kd.C_alloc ?_ _) | (with_reducible refine Kd.C_drewN ?_ _) | (with_reducible refine Kd.C_drew ?_))); (case side2 => exact HC0.out); rintro e w' ⟨rfl, ⟨nd, rfl⟩⟩; refine ⟨_, rfl, ?_⟩; (try (rw [drewN_self wc]; generalize hq_ : World.drewN wc _ = wc; have n0_ : Aside0 (Kd.R (Kd.int .u8) 5 wc w.heap.size (fun _ => True) v165 t164) := ⟨by rw [← hq_]; exact (by (with_reducible repeat (first | apply Kd.R_alloc | apply Kd.R_drewN | apply Kd.R_drew)); exact HO_5.out)⟩; have n1_ : Aside0 (Below w.heap.size w wc) := ⟨by rw [← hq_]; exact (by repeat (first | (with_reducible first | exact HB.out | apply below_alloc | apply pw_below_drewN | apply below_drew1) | exact HB.out))⟩; clear HO_5 HB hq_; have HO_5 := n0_; have HB := n1_; clear n0_ n1_))) | ((with_reducible refine gate_dst (N := 34) rfl ?_); (try (refine gate_guard (by rfl) ?_; dsimp only)); refine Kd.R_make (Kd.int .u8) _ 5 rfl (N := 34) rfl 22 _ _ rfl t167 rfl rfl Try.underlying22 (.int .u8 0) 1 info5 rfl (by decide) (by omega) 0 (ok := fun _ => True) (okp := fun _ => True) rfl (fun _ hk => hk) trivial (of_decide_eq_true (by first | (with_reducible assumption) | assumption)) (Nat.le_trans (Nat.mul_le_mul_right _ (of_decide_eq_true (by first | (with_reducible assumption) | assumption) : t167.toNat ≤ 281474976710656)) (by omega)) (Below.refl _ _) (Nat.le_refl _) ?_; intro v169 w18 ho19 hb hg_ hnew_; clear hg_ hnew_; (first | rw [← Ny168.out] at ho19 | (simp only [Int.reduceToNat] at ho19; rw [← Ny168.out] at ho19)); have n0_ := Aside0.mk (Kd.R_elder' (by (with_reducible repeat (first | apply Kd.R_alloc | apply Kd.R_drewN | apply Kd.R_drew)); exact HO_5.out) (Kd.R_base ho19) hb); have n1_ := Aside0.mk (Kd.R_lower (Kd.R_new' ho19 (Kd.R_lt (by (with_reducible repeat (first | apply Kd.R_alloc | apply Kd.R_drewN | apply Kd.R_drew)); exact HO_5.out))) (below_size (by repeat (first | (with_reducible first | exact HB.out | apply below_alloc | apply pw_below_drewN | apply below_drew1) | exact HB.out)))); have n2_ := Aside0.mk (below_step (by repeat (first | (with_reducible first | exact HB.out | apply below_alloc | apply pw_below_drewN | apply below_drew1) | exact HB.out)) hb); clear HO_5; clear HB; have HO_5 := n0_; have HO170 := n1_; have HB := n2_; clear n0_ n1_ n2_; clear hb ho19; obtain ⟨Ao21, co21, eo21⟩ := Kd.R_slice HO_5.out; subst eo21) | ((with_reducible refine gate_builtin (b := .append) (xs := #[.tmp 34, .tmp 35]) rfl ?_); (try (refine gate_guard (by rfl) ?_; dsimp only)); at_builtin; refine Kd.R_append_rows (Kd.int .u8) (w0 := w) w.heap.size rfl (.tmp 34) (.tmp 35) 22 5 (.int .u8 0) 1 rfl Try.underlying22 info5 rfl (by decide) (by omega) v169 y168 t164 _ _ _ (fun k_ => some k_ ≠ (.slice Ao21 t164.length co21 : Value).ownBlock) (fun _ => False) rfl rfl ?aO ?aR (fun _ _ h => h) (fun _ h => h.elim) ?aF ?aB ?aS ?aL ?_; (case aR => repeat (first | exact (Kd.R_reads' HO_5.out).2.2 | (with_reducible refine Kd.C_alloc ?_ _) | (with_reducible refine Kd.C_drewN ?_ _) | (with_reducible refine Kd.C_drew ?_))); (case aB => exact (by repeat (first | (with_reducible first | exact HB.out | apply below_alloc | apply pw_below_drewN | apply below_drew1) | exact HB.out))); (case aF => exact (fun k_ hk => Kd.fresh' (Kd.R_lt (by (with_reducible repeat (first | apply Kd.R_alloc | apply Kd.R_drewN | apply Kd.R_drew)); exact HO_5.out)) k_ hk)); (case aO => exact (by (with_reducible repeat (first | apply Kd.R_alloc | apply Kd.R_drewN | apply Kd.R_drew)); exact Kd.R_mono HO170.out (fun _ hk => hk.2))); (case aS => exact (below_size (by repeat (first | (with_reducible first | exact HB.out | apply below_alloc | apply pw_below_drewN | apply below_drew1) | exact HB.out)))); (case aL => have := LMc14.out; omega); intro v172 w20 ho hb hg hat; rw [← Ny171.out] at ho; have n0_ := Aside0.mk (Kd.R_after (ok := (fun _ => True)) (by (with_reducible repeat (first | apply Kd.R_alloc | apply Kd.R_drewN | apply Kd.R_drew)); exact HO_5.out) hg hat); have n1_ := Aside0.mk (hb); have n2_ := Aside0.mk (ho); clear HO_5; clear HB; clear HO170; have HO_5 := n0_; have HB := n1_; have HO173 := n2_; clear n0_ n1_ n2_; clear ho hb hg hat) | ((with_reducible refine gate_builtin (b := .append) (xs := #[.tmp 36, .tmp 37]) rfl ?_); (try (refine gate_guard (by rfl) ?_; dsimp only)); at_builtin; refine Kd.R_append (Kd.int .u8) (w0 := w) w.heap.size rfl (.tmp 36) (.tmp 37) 22 5 (.int .u8 0) 1 rfl Try.underlying22 info5 rfl (by decide) (by omega) v172 y171 7 [.int .u8 7] (fun k_ => some k_ ≠ (.slice Ao21 t164.length co21 : Value).ownBlock) (fun _ => False) rfl rfl ?aP (fun _ hk => hk.elim) ?aF ?aO ?aB ?aS ?aL ?_; (case aP => exact rfl); (case aB => exact (by repeat (first | (with_reducible first | exact HB.out | apply below_alloc | apply pw_below_drewN | apply below_drew1) | exact HB.out))); (case aF => exact (fun k_ hk => Kd.fresh' (Kd.R_lt (by (with_reducible repeat (first | apply Kd.R_alloc | apply Kd.R_drewN | apply Kd.R_drew)); exact HO_5.out)) k_ hk)); (case aO => exact (by (with_reducible repeat (first | apply Kd.R_alloc | apply Kd.R_drewN | apply Kd.R_drew)); exact HO173.out)); (case aS => exact (below_size (by repeat (first | (with_reducible first | exact HB.out | apply below_alloc | apply pw_below_drewN | apply below_drew1) | exact HB.out)))); (case aL => have := LMc15.out; omega); intro v175 w22 ho hb hg hat; rw [← Ny174.out] at ho; have n0_ := Aside0.mk (Kd.R_after (ok := (fun _ => True)) (by (with_reducible repeat (first | apply Kd.R_alloc | apply Kd.R_drewN | apply Kd.R_drew)); exact HO_5.out) hg hat); have n1_ := Aside0.mk (hb); have n2_ := Aside0.mk (ho); clear HO_5; clear HB; clear HO173; have HO_5 := n0_; have HB := n1_; have HO176 := n2_; clear n0_ n1_ n2_; clear ho hb hg hat; obtain ⟨Ao23, co23, eo23⟩ := Kd.R_slice HO176.out; subst eo23) | ((with_reducible refine gate_callee (f := 7) rfl ?_); refine goesL_ (some 41) rfl rfl Try.func7 (by kernel_rfl) rfl #[.slice Ao23 y174.length co23, .int .i64 t167, .int .i64 t163] rfl (by (try simp only [List.map_toArray, List.map_cons, List.map_nil]); first | done | rfl | (simp only [List.length_drop, List.length_take]; rfl)) ?_; (with_reducible refine (impl_GetNumber.calls kj4 _ _ y174 t167 t163 t177 t178 _ ?side1 ?side2 A16.out).mono ?_); (case side1 => repeat (first | exact (Kd.R_reads' HO176.out).2.2 | (with_reducible refine Kd.C_alloc ?_ _) | (with_reducible refine Kd.C_drewN ?_ _) | (with_reducible refine Kd.C_drew ?_))); (case side2 => exact (Kd.R_reads' HO176.out).2.1); rintro e w24 ⟨rfl, hb⟩; refine ⟨_, rfl, ?_⟩; have n0_ := Aside0.mk (Kd.R_below (by (with_reducible repeat (first | apply Kd.R_alloc | apply Kd.R_drewN | apply Kd.R_drew)); exact HO_5.out) hb); have n1_ := Aside0.mk (Kd.R_below (by (with_reducible repeat (first | apply Kd.R_alloc | apply Kd.R_drewN | apply Kd.R_drew)); exact HO176.out) hb); have n2_ := Aside0.mk (below_step (by repeat (first | (with_reducible first | exact HB.out | apply below_alloc | apply pw_below_drewN | apply below_drew1) | exact HB.out)) hb); clear HO_5; clear HO176; clear HB; have HO_5 := n0_; have HO176 := n1_; have HB := n2_; clear n0_ n1_ n2_; (try clear hb); (try clear hb2); (try clear hk); (try clear hi)) | ((with_reducible refine gate_dst (N := 7) rfl ?_); (try (refine gate_guard (by rfl) ?_; dsimp only)); refine box_event ?hg (N := 7) ?hd (cs := #[.bool false, .int .i64 0]) (t := 28) ?hr ?_; (case hd => rfl); (case hg => rfl); (case hr => first | (go_simp; done) | (go_simp; rfl)); intro gb179 hg w25 hbox hb; have n0_ := Aside0.mk (Kd.R_below (by (with_reducible repeat (first | apply Kd.R_alloc | apply Kd.R_drewN | apply Kd.R_drew)); exact HO_5.out) hb); have n1_ := Aside0.mk (Kd.R_below (by (with_reducible repeat (first | apply Kd.R_alloc | apply Kd.R_drewN | apply Kd.R_drew)); exact HO176.out) hb); have n2_ := Aside0.mk (below_step (by repeat (first | (with_reducible first | exact HB.out | apply below_alloc | apply pw_below_drewN | apply below_drew1) | exact HB.out)) hb); have n3_ := Aside0.mk (hbox); have n4_ := Aside0.mk ((by rw [hg]; exact (below_size (by repeat (first | (with_reducible first | exact HB.out | apply below_alloc | apply pw_below_drewN | apply below_drew1) | exact HB.out))) : w.heap.size ≤ gb179)); have n5_ := Aside0.mk ((by rw [hg]; exact (below_size (by repeat (first | (with_reducible first | exact HB.out | apply below_alloc | apply pw_below_drewN | apply below_drew1) | exact HB.out))) : w.heap.size ≤ gb179)); clear HO_5; clear HO176; clear HB; have HO_5 := n0_; have HO176 := n1_; have HB := n2_; have BK179 := n3_; have GW179 := n4_; have GE179 := n5_; clear n0_ n1_ n2_ n3_ n4_ n5_; clear hb hbox hg; have hcz26_0 : w25.cell? ⟨gb179, 0, none⟩ = some (.bool false) := (blk_cell BK179.out 0).trans rfl; have hcz26_1 : w25.cell? ⟨gb179, 1, none⟩ = some (.int .i64 0) := (blk_cell BK179.out 1).trans rfl; have hfz26_0 := blk_frozen BK179.out 0; have hfz26_1 := blk_frozen BK179.out 1))
                  (try simp only [Act.put, List.setIfInBounds_toArray, List.set_cons_zero, List.set_cons_succ])
                  go_cut [78] (fun v78 wc => ∃ (kq : Nat) (x78_16 : Bool), v78 = .bool x78_16 ∧ Aside0 (laws_FnNumbers.j1 kq l0 x78_16 = some r) ∧ Aside0 (kq ≤ kj4) ∧ Aside0 (wc.heap[gb179]? = some (.cells #[.bool t177, .int .i64 t178] 28 (0, 0))) ∧ Aside0 (Below w.heap.size w wc))
                  case first =>
                    have H := HC17.out
                    clear HC17
                    by_cases c27 : (t164.length : Int) = t163
                    · rw [if_pos c27] at H
                      have c27b0 : ((t164.length : Int) == t163) = true := beq_iff_eq.mpr c27
                      have c27b1 : ((t164.length : Int) != t163) = false := bne_eq_false_iff_eq.mpr c27
                      clear c27
                      (first | rw [c27b0] | (simp only [i64_w, i32_w]; rw [c27b0]) | skip)
                      by_cases c28 : t177 = true
                      · subst c28
                        have H1 : (if t163 < 8 then (if 0 ≤ (IntKind.u64.wrap (8 * (IntKind.u64.wrap (t163)))) then (if (IntKind.u64.wrap (t178)) = (Go.bits .and .u64 (IntKind.u64.wrap (t162)) (IntKind.u64.wrap ((shl .u64 1 (IntKind.u64.wrap (8 * (IntKind.u64.wrap (t163))))) - 1))) then (if t163 = 8 then (laws_FnNumbers.j1 kj4 l0 (t178 != t162)) else (laws_FnNumbers.j1 kj4 l0 false)) else (laws_FnNumbers.j1 kj4 l0 true)) else (none)) else (if t163 = 8 then (laws_FnNumbers.j1 kj4 l0 (t178 != t162)) else (laws_FnNumbers.j1 kj4 l0 false))) = some r := by rw [if_pos rfl] at H; exact H
                        clear H
                        have H := H1
                        clear H1
                        by_cases c29 : t163 < 8
                        · rw [if_pos c29] at H
                          have c29b0 : decide (t163 < 8) = true := decide_eq_true c29
                          clear c29
                          obtain ⟨ji30, hji30⟩ : ∃ j_ : Int, (IntKind.u64.wrap (8 * (IntKind.u64.wrap (t163)))) = j_ := ⟨_, rfl⟩
                          replace H : (if 0 ≤ (ji30) then (if (IntKind.u64.wrap (t178)) = (Go.bits .and .u64 (IntKind.u64.wrap (t162)) (IntKind.u64.wrap ((shl .u64 1 (ji30)) - 1))) then (if t163 = 8 then (laws_FnNumbers.j1 kj4 l0 (t178 != t162)) else (laws_FnNumbers.j1 kj4 l0 false)) else (laws_FnNumbers.j1 kj4 l0 true)) else (none)) = some r := by first | (rw [hji30] at H; exact H) | (simp only [hji30] at H ⊢; exact H)
                          by_cases c31 : 0 ≤ (ji30)
                          · rw [if_pos c31] at H
                            have c31b0 := eq_true c31
                            have c31b1 : decide (0 ≤ (ji30)) = true := decide_eq_true c31
                            clear c31
                            obtain ⟨ji32, hji32⟩ : ∃ j_ : Int, (shl .u64 1 (ji30)) = j_ := ⟨_, rfl⟩
                            replace H : (if (IntKind.u64.wrap (t178)) = (Go.bits .and .u64 (IntKind.u64.wrap (t162)) (IntKind.u64.wrap ((ji32) - 1))) then (if t163 = 8 then (laws_FnNumbers.j1 kj4 l0 (t178 != t162)) else (laws_FnNumbers.j1 kj4 l0 false)) else (laws_FnNumbers.j1 kj4 l0 true)) = some r := by first | (rw [hji32] at H; exact H) | (simp only [hji32] at H ⊢; exact H)
                            have hji32_ : (IntKind.u64.wrap (1 * 2 ^ min (ji30).toNat 64)) = ji32 := hji32
                            have hji32z : (ji30) ≤ 64 → (IntKind.u64.wrap (1 * 2 ^ (ji30).toNat)) = ji32 := shl_small hji32
                            have hji32u : (IntKind.u64.wrap (2 ^ min (ji30).toNat 64)) = ji32 := by have h_ := hji32_; rw [Int.one_mul] at h_; exact h_
                            have hji32v : (ji30) ≤ 64 → (IntKind.u64.wrap (2 ^ (ji30).toNat)) = ji32 := fun hle_ => by have h_ := hji32z hle_; rw [Int.one_mul] at h_; exact h_
                            by_cases c33 : (IntKind.u64.wrap (t178)) = (Go.bits .and .u64 (IntKind.u64.wrap (t162)) (IntKind.u64.wrap ((ji32) - 1)))
                            · rw [if_pos c33] at H
                              have c33b0 : ((IntKind.u64.wrap (t178)) == (Go.bits .and .u64 (IntKind.u64.wrap (t162)) (IntKind.u64.wrap ((ji32) - 1)))) = true := beq_iff_eq.mpr c33
                              have c33b1 : ((IntKind.u64.wrap (t178)) != (Go.bits .and .u64 (IntKind.u64.wrap (t162)) (IntKind.u64.wrap ((ji32) - 1)))) = false := bne_eq_false_iff_eq.mpr c33
                              clear c33
                              by_cases c34 : t163 = 8
                              · rw [if_pos c34] at H
                                have c34b0 : (t163 == 8) = true := beq_iff_eq.mpr c34
                                have c34b1 : (t163 != 8) = false := bne_eq_false_iff_eq.mpr c34
                                clear c34
                                have H' := Aside0.mk H
                                clear H
                                have hcz35_0 : w25.cell? ⟨gb179, 0, none⟩ = some (.bool false) := (blk_cell BK179.out 0).trans rfl
                                have hcz35_1 : w25.cell? ⟨gb179, 1, none⟩ = some (.int .i64 0) := (blk_cell BK179.out 1).trans rfl
                                have hfz35_0 := blk_frozen BK179.out 0
                                have hfz35_1 := blk_frozen BK179.out 1
                                go_wp2
                                go_meet
                                case rel => exact ⟨_, ((t178 != t162)), (by first | rfl | (simp; done) | (simp [*]; done)), H', ⟨by have := HJ4.out; first | omega | exact Nat.le_refl _⟩, ⟨by (with_reducible repeat (first | refine blk_drewN ?_ _ | refine blk_drew ?_ | refine blk_alloc ?_ _)); refine blk_put (cs := #[.bool true, .int .i64 0]) ?_ 1 _ rfl; (with_reducible repeat (first | refine blk_drewN ?_ _ | refine blk_drew ?_ | refine blk_alloc ?_ _)); refine blk_put (cs := #[.bool false, .int .i64 0]) ?_ 0 _ rfl; (with_reducible repeat (first | refine blk_drewN ?_ _ | refine blk_drew ?_ | refine blk_alloc ?_ _)); exact BK179.out⟩, ⟨by repeat (first | (with_reducible first | exact HB.out | apply below_alloc | apply pw_below_drewN | apply below_drew1 | refine below_set ?_ GE179.out) | exact HB.out)⟩⟩
                              · rw [if_neg c34] at H
                                have c34b0 : (t163 == 8) = false := beq_eq_false_iff_ne.mpr c34
                                have c34b1 : (t163 != 8) = true := bne_iff_ne.mpr c34
                                have H' := Aside0.mk H
                                clear H
                                have hcz36_0 : w25.cell? ⟨gb179, 0, none⟩ = some (.bool false) := (blk_cell BK179.out 0).trans rfl
                                have hcz36_1 : w25.cell? ⟨gb179, 1, none⟩ = some (.int .i64 0) := (blk_cell BK179.out 1).trans rfl
                                have hfz36_0 := blk_frozen BK179.out 0
                                have hfz36_1 := blk_frozen BK179.out 1
                                go_wp2
                                go_meet
                                case rel => exact ⟨_, (false), (by first | rfl | (simp; done) | (simp [*]; done)), H', ⟨by have := HJ4.out; first | omega | exact Nat.le_refl _⟩, ⟨by (with_reducible repeat (first | refine blk_drewN ?_ _ | refine blk_drew ?_ | refine blk_alloc ?_ _)); refine blk_put (cs := #[.bool true, .int .i64 0]) ?_ 1 _ rfl; (with_reducible repeat (first | refine blk_drewN ?_ _ | refine blk_drew ?_ | refine blk_alloc ?_ _)); refine blk_put (cs := #[.bool false, .int .i64 0]) ?_ 0 _ rfl; (with_reducible repeat (first | refine blk_drewN ?_ _ | refine blk_drew ?_ | refine blk_alloc ?_ _)); exact BK179.out⟩, ⟨by repeat (first | (with_reducible first | exact HB.out | apply below_alloc | apply pw_below_drewN | apply below_drew1 | refine below_set ?_ GE179.out) | exact HB.out)⟩⟩
                            · rw [if_neg c33] at H
                              have c33b0 : ((IntKind.u64.wrap (t178)) == (Go.bits .and .u64 (IntKind.u64.wrap (t162)) (IntKind.u64.wrap ((ji32) - 1)))) = false := beq_eq_false_iff_ne.mpr c33
                              have c33b1 : ((IntKind.u64.wrap (t178)) != (Go.bits .and .u64 (IntKind.u64.wrap (t162)) (IntKind.u64.wrap ((ji32) - 1)))) = true := bne_iff_ne.mpr c33
                              have H' := Aside0.mk H
                              clear H
                              have hcz37_0 : w25.cell? ⟨gb179, 0, none⟩ = some (.bool false) := (blk_cell BK179.out 0).trans rfl
                              have hcz37_1 : w25.cell? ⟨gb179, 1, none⟩ = some (.int .i64 0) := (blk_cell BK179.out 1).trans rfl
                              have hfz37_0 := blk_frozen BK179.out 0
                              have hfz37_1 := blk_frozen BK179.out 1
                              go_wp2
                              go_meet
                              case rel => exact ⟨_, (true), (by first | rfl | (simp; done) | (simp [*]; done)), H', ⟨by have := HJ4.out; first | omega | exact Nat.le_refl _⟩, ⟨by (with_reducible repeat (first | refine blk_drewN ?_ _ | refine blk_drew ?_ | refine blk_alloc ?_ _)); refine blk_put (cs := #[.bool true, .int .i64 0]) ?_ 1 _ rfl; (with_reducible repeat (first | refine blk_drewN ?_ _ | refine blk_drew ?_ | refine blk_alloc ?_ _)); refine blk_put (cs := #[.bool false, .int .i64 0]) ?_ 0 _ rfl; (with_reducible repeat (first | refine blk_drewN ?_ _ | refine blk_drew ?_ | refine blk_alloc ?_ _)); exact BK179.out⟩, ⟨by repeat (first | (with_reducible first | exact HB.out | apply below_alloc | apply pw_below_drewN | apply below_drew1 | refine below_set ?_ GE179.out) | exact HB.out)⟩⟩
                          · rw [if_neg c31] at H
                            exact absurd H (by simp)
                        · rw [if_neg c29] at H
                          have c29b0 : decide (t163 < 8) = false := decide_eq_false c29
                          clear c29
                          by_cases c38 : t163 = 8
                          · rw [if_pos c38] at H
                            have c38b0 : (t163 == 8) = true := beq_iff_eq.mpr c38
                            have c38b1 : (t163 != 8) = false := bne_eq_false_iff_eq.mpr c38
                            clear c38
                            have H' := Aside0.mk H
                            clear H
                            have hcz39_0 : w25.cell? ⟨gb179, 0, none⟩ = some (.bool false) := (blk_cell BK179.out 0).trans rfl
                            have hcz39_1 : w25.cell? ⟨gb179, 1, none⟩ = some (.int .i64 0) := (blk_cell BK179.out 1).trans rfl
                            have hfz39_0 := blk_frozen BK179.out 0
                            have hfz39_1 := blk_frozen BK179.out 1
                            go_wp2
                            go_meet
                            case rel => exact ⟨_, ((t178 != t162)), (by first | rfl | (simp; done) | (simp [*]; done)), H', ⟨by have := HJ4.out; first | omega | exact Nat.le_refl _⟩, ⟨by (with_reducible repeat (first | refine blk_drewN ?_ _ | refine blk_drew ?_ | refine blk_alloc ?_ _)); refine blk_put (cs := #[.bool true, .int .i64 0]) ?_ 1 _ rfl; (with_reducible repeat (first | refine blk_drewN ?_ _ | refine blk_drew ?_ | refine blk_alloc ?_ _)); refine blk_put (cs := #[.bool false, .int .i64 0]) ?_ 0 _ rfl; (with_reducible repeat (first | refine blk_drewN ?_ _ | refine blk_drew ?_ | refine blk_alloc ?_ _)); exact BK179.out⟩, ⟨by repeat (first | (with_reducible first | exact HB.out | apply below_alloc | apply pw_below_drewN | apply below_drew1 | refine below_set ?_ GE179.out) | exact HB.out)⟩⟩
                          · rw [if_neg c38] at H
                            have c38b0 : (t163 == 8) = false := beq_eq_false_iff_ne.mpr c38
                            have c38b1 : (t163 != 8) = true := bne_iff_ne.mpr c38
                            have H' := Aside0.mk H
                            clear H
                            have hcz40_0 : w25.cell? ⟨gb179, 0, none⟩ = some (.bool false) := (blk_cell BK179.out 0).trans rfl
                            have hcz40_1 : w25.cell? ⟨gb179, 1, none⟩ = some (.int .i64 0) := (blk_cell BK179.out 1).trans rfl
                            have hfz40_0 := blk_frozen BK179.out 0
                            have hfz40_1 := blk_frozen BK179.out 1
                            go_wp2
                            go_meet
                            case rel => exact ⟨_, (false), (by first | rfl | (simp; done) | (simp [*]; done)), H', ⟨by have := HJ4.out; first | omega | exact Nat.le_refl _⟩, ⟨by (with_reducible repeat (first | refine blk_drewN ?_ _ | refine blk_drew ?_ | refine blk_alloc ?_ _)); refine blk_put (cs := #[.bool true, .int .i64 0]) ?_ 1 _ rfl; (with_reducible repeat (first | refine blk_drewN ?_ _ | refine blk_drew ?_ | refine blk_alloc ?_ _)); refine blk_put (cs := #[.bool false, .int .i64 0]) ?_ 0 _ rfl; (with_reducible repeat (first | refine blk_drewN ?_ _ | refine blk_drew ?_ | refine blk_alloc ?_ _)); exact BK179.out⟩, ⟨by repeat (first | (with_reducible first | exact HB.out | apply below_alloc | apply pw_below_drewN | apply below_drew1 | refine below_set ?_ GE179.out) | exact HB.out)⟩⟩
                      · replace c28 := Bool.eq_false_iff.mpr c28
                        subst c28
                        have H1 : (laws_FnNumbers.j1 kj4 l0 true) = some r := by rw [if_neg (show ¬ (false = true) by decide)] at H; exact H
                        clear H
                        have H := H1
                        clear H1
                        have H' := Aside0.mk H
                        clear H
                        have hcz41_0 : w25.cell? ⟨gb179, 0, none⟩ = some (.bool false) := (blk_cell BK179.out 0).trans rfl
                        have hcz41_1 : w25.cell? ⟨gb179, 1, none⟩ = some (.int .i64 0) := (blk_cell BK179.out 1).trans rfl
                        have hfz41_0 := blk_frozen BK179.out 0
                        have hfz41_1 := blk_frozen BK179.out 1
                        go_wp2
                        go_meet
                        case rel => exact ⟨_, (true), (by first | rfl | (simp; done) | (simp [*]; done)), H', ⟨by have := HJ4.out; first | omega | exact Nat.le_refl _⟩, ⟨by (with_reducible repeat (first | refine blk_drewN ?_ _ | refine blk_drew ?_ | refine blk_alloc ?_ _)); refine blk_put (cs := #[.bool false, .int .i64 0]) ?_ 1 _ rfl; (with_reducible repeat (first | refine blk_drewN ?_ _ | refine blk_drew ?_ | refine blk_alloc ?_ _)); refine blk_put (cs := #[.bool false, .int .i64 0]) ?_ 0 _ rfl; (with_reducible repeat (first | refine blk_drewN ?_ _ | refine blk_drew ?_ | refine blk_alloc ?_ _)); exact BK179.out⟩, ⟨by repeat (first | (with_reducible first | exact HB.out | apply below_alloc | apply pw_below_drewN | apply below_drew1 | refine below_set ?_ GE179.out) | exact HB.out)⟩⟩
                    · rw [if_neg c27] at H
                      have c27b0 : ((t164.length : Int) == t163) = false := beq_eq_false_iff_ne.mpr c27
                      have c27b1 : ((t164.length : Int) != t163) = true := bne_iff_ne.mpr c27
                      (first | rw [c27b0] | (simp only [i64_w, i32_w]; rw [c27b0]) | skip)
                      have H' := Aside0.mk H
                      clear H
                      go_wp2
                      go_meet
                      case rel => exact ⟨_, (true), (by first | rfl | (simp; done) | (simp [*]; done)), H', ⟨by have := HJ4.out; first | omega | exact Nat.le_refl _⟩, ⟨by (with_reducible repeat (first | refine blk_drewN ?_ _ | refine blk_drew ?_ | refine blk_alloc ?_ _)); refine blk_put (cs := #[.bool t177, .int .i64 0]) ?_ 1 _ rfl; (with_reducible repeat (first | refine blk_drewN ?_ _ | refine blk_drew ?_ | refine blk_alloc ?_ _)); refine blk_put (cs := #[.bool false, .int .i64 0]) ?_ 0 _ rfl; (with_reducible repeat (first | refine blk_drewN ?_ _ | refine blk_drew ?_ | refine blk_alloc ?_ _)); exact BK179.out⟩, ⟨by repeat (first | (with_reducible first | exact HB.out | apply below_alloc | apply pw_below_drewN | apply below_drew1 | refine below_set ?_ GE179.out) | exact HB.out)⟩⟩
                  case rest =>
                    clear HC17
                    try clear c1
                    try clear c2
                    try clear c2b0
                    try clear c2b1
                    try clear p2
                    try clear c3
                    try clear c4
                    try clear c5
                    try clear c6
                    try clear c7
                    try clear c8
                    try clear c8b0
                    try clear c9
                    try clear c12
                    try clear c12b0
                    try clear c12b1
                    try clear c13
                    try clear c13b0
                    try clear c13b1
                    try clear c14
                    try clear c15
                    try clear c27
                    try clear c27b0
                    try clear c27b1
                    try clear c28
                    try clear c29
                    try clear c29b0
                    try clear c31
                    try clear c31b0
                    try clear c31b1
                    try clear c33
                    try clear c33b0
                    try clear c33b1
                    try clear c34
                    try clear c34b0
                    try clear c34b1
                    try clear c38
                    try clear c38b0
                    try clear c38b1
                    try clear hcz26_0
                    try clear hcz26_1
                    try clear hcz35_0
                    try clear hcz35_1
                    try clear hcz36_0
                    try clear hcz36_1
                    try clear hcz37_0
                    try clear hcz37_1
                    try clear hcz39_0
                    try clear hcz39_1
                    try clear hcz40_0
                    try clear hcz40_1
                    try clear hcz41_0
                    try clear hcz41_1
                    try clear hfz26_0
                    try clear hfz26_1
                    try clear hfz35_0
                    try clear hfz35_1
                    try clear hfz36_0
                    try clear hfz36_1
                    try clear hfz37_0
                    try clear hfz37_1
                    try clear hfz39_0
                    try clear hfz39_1
                    try clear hfz40_0
                    try clear hfz40_1
                    try clear hfz41_0
                    try clear hfz41_1
                    try clear p2
                    obtain ⟨kq, x78_16, rfl, HA, HJ16, BK179, HB⟩ := hcut
                    cases kq with
                    | zero => exact absurd HA.out (by simp [laws_FnNumbers.j1])
                    | succ kj16 =>
                      have H := HA.out
                      clear HA
                      simp only [laws_FnNumbers.j1] at H
                      by_cases c42 : x78_16 = true
                      · subst c42
                        have H1 : (some false) = some r := by rw [if_pos rfl] at H; exact H
                        clear H
                        have H := H1
                        clear H1
                        obtain rfl := Option.some.inj H
                        go_wp2
                        go_ret
                        exact ⟨by first | rfl | (simp [errW_none, errW_some] <;> rfl) | (simp [*, errW_none, errW_some] <;> rfl), by repeat (first | (with_reducible first | exact HB.out | apply below_alloc | apply pw_below_drewN | apply below_drew1 | refine below_set ?_ GE179.out) | exact HB.out)⟩
                      · replace c42 := Bool.eq_false_iff.mpr c42
                        subst c42
                        have H1 : ((spec_DrawCrc.f kj16 l0).bind fun t180 => (if (t180.length : Int) = 0 then ((impl_Crc.f t180).bind fun t183 => (some (t183 == 0))) else ((some (([] : List Int) : List Int)).bind fun y184 => (if y184.length + t180.length < 140737488355328 then ((some (y184 ++ t180 : List Int)).bind fun y187 => ((laws_lwAt.f l0 3 (y187.length : Int)).bind fun t190 => (if 0 ≤ t190 then (if t190 < (y187.length : Int) then ((laws_lwAt.f l0 4 8).bind fun t192 => (if 0 ≤ (IntKind.u64.wrap (t192)) then ((impl_Crc.f t180).bind fun t194 => ((impl_Crc.f (y187.set (t190 : Int).toNat (Go.bits .xor .u8 (rd y187 t190) (shl .u8 1 (IntKind.u64.wrap (t192)))))).bind fun t195 => (if t194 = t195 then (some false) else ((impl_Crc.f (([49, 50, 51, 52, 53, 54, 55, 56, 57] : List Int))).bind fun t199 => (some (t199 == 3421780262)))))) else (none))) else (none)) else (none)))) else (none))))) = some r := by rw [if_neg (show ¬ (false = true) by decide)] at H; exact H
                        clear H
                        have H := H1
                        clear H1
                        replace H := Option.bind_eq_some_iff.mp H
                        obtain ⟨t180, A430, H⟩ := H
                        replace H : (if (t180.length : Int) = 0 then ((impl_Crc.f t180).bind fun t183 => (some (t183 == 0))) else ((some (([] : List Int) : List Int)).bind fun y184 => (if y184.length + t180.length < 140737488355328 then ((some (y184 ++ t180 : List Int)).bind fun y187 => ((laws_lwAt.f l0 3 (y187.length : Int)).bind fun t190 => (if 0 ≤ t190 then (if t190 < (y187.length : Int) then ((laws_lwAt.f l0 4 8).bind fun t192 => (if 0 ≤ (IntKind.u64.wrap (t192)) then ((impl_Crc.f t180).bind fun t194 => ((impl_Crc.f (y187.set (t190 : Int).toNat (Go.bits .xor .u8 (rd y187 t190) (shl .u8 1 (IntKind.u64.wrap (t192)))))).bind fun t195 => (if t194 = t195 then (some false) else ((impl_Crc.f (([49, 50, 51, 52, 53, 54, 55, 56, 57] : List Int))).bind fun t199 => (some (t199 == 3421780262)))))) else (none))) else (none)) else (none)))) else (none)))) = some r := H
                        have A43 := Aside0.mk A430
                        clear A430
                        by_cases c44 : (t180.length : Int) = 0
                        · rw [if_pos c44] at H
                          have c44b0 : ((t180.length : Int) == 0) = true := beq_iff_eq.mpr c44
                          have c44b1 : ((t180.length : Int) != 0) = false := bne_eq_false_iff_eq.mpr c44
                          clear c44
                          replace H := Option.bind_eq_some_iff.mp H
                          obtain ⟨t183, A450, H⟩ := H
                          replace H : (some (t183 == 0)) = some r := H
                          have A45 := Aside0.mk A450
                          clear A450
                          obtain rfl := Option.some.inj H
                          go_wp2_with (first | ((with_reducible refine gate_callee (f := 8) rfl ?_); refine goesL_ (some 80) rfl rfl Try.func8 (by kernel_rfl) rfl #[.slice A0 l0.length c0] rfl (by (try simp only [List.map_toArray, List.map_cons, List.map_nil]); first | done | rfl | (simp only [List.length_drop, List.length_take]; rfl)) ?_; (with_reducible refine (spec_DrawCrc.calls kj16 _ _ l0 t180 _ ?side1 ?side2 A43.out).mono ?_); (case side1 => repeat (first | exact (Kd.C_below HR0.out HB.out) | (with_reducible refine Kd.C_alloc ?_ _) | (with_reducible refine Kd.C_drewN ?_ _) | (with_reducible refine Kd.C_drew ?_))); (case side2 => exact HC0.out); rintro e w46 ⟨v181, rfl, ho0, hb⟩; refine ⟨_, rfl, ?_⟩; have n0_ := Aside0.mk (Kd.V_lower (Kd.V_mono (ok' := fun k_ => k_ ≠ gb179) ho0 (fun k_ hk_ => (Kd.freshB (g := gb179) (o := .cells #[.bool t177, .int .i64 t178] 28 (0, 0)) (by (with_reducible repeat (first | refine blk_drewN ?_ _ | refine blk_drew ?_ | refine blk_alloc ?_ _)); exact BK179.out) k_ hk_))) (below_size (by repeat (first | (with_reducible first | exact HB.out | apply below_alloc | apply pw_below_drewN | apply below_drew1 | refine below_set ?_ GE179.out) | exact HB.out)))); have n1_ := Aside0.mk (blk_below (g := gb179) (o := .cells #[.bool t177, .int .i64 t178] 28 (0, 0)) (by (with_reducible repeat (first | refine blk_drewN ?_ _ | refine blk_drew ?_ | refine blk_alloc ?_ _)); exact BK179.out) hb); have n2_ := Aside0.mk (below_step (by repeat (first | (with_reducible first | exact HB.out | apply below_alloc | apply pw_below_drewN | apply below_drew1 | refine below_set ?_ GE179.out) | exact HB.out)) hb); clear BK179; clear HB; have HO182 := n0_; have BK179 := n1_; have HB := n2_; clear n0_ n1_ n2_; (try clear hb); (try clear hb2); (try clear hk); (try clear hi); (try clear ho0); obtain ⟨Ao47, co47, eo47⟩ := Kd.V_slice HO182.out; subst eo47) | ((with_reducible refine gate_callee (f := 9) rfl ?_); refine goesL_ (some 85) rfl rfl Try.func9 (by kernel_rfl) rfl #[.slice Ao47 t180.length co47] rfl (by (try simp only [List.map_toArray, List.map_cons, List.map_nil]); first | done | rfl | (simp only [List.length_drop, List.length_take]; rfl)) ?_; (with_reducible refine (impl_Crc.calls _ _ t180 t183 _ ?side1 ?side2 A45.out).mono ?_); (case side1 => repeat (first | exact (Kd.V_reads' HO182.out).2.2 | (with_reducible refine Kd.C_alloc ?_ _) | (with_reducible refine Kd.C_drewN ?_ _) | (with_reducible refine Kd.C_drew ?_))); (case side2 => exact (Kd.V_reads' HO182.out).2.1); rintro e w48 ⟨rfl, hb⟩; refine ⟨_, rfl, ?_⟩; have n0_ := Aside0.mk (Kd.V_below (by (with_reducible repeat (first | apply Kd.V_alloc | apply Kd.V_drewN | apply Kd.V_drew)); exact HO182.out) hb); have n1_ := Aside0.mk (blk_below (g := gb179) (o := .cells #[.bool t177, .int .i64 t178] 28 (0, 0)) (by (with_reducible repeat (first | refine blk_drewN ?_ _ | refine blk_drew ?_ | refine blk_alloc ?_ _)); exact BK179.out) hb); have n2_ := Aside0.mk (below_step (by repeat (first | (with_reducible first | exact HB.out | apply below_alloc | apply pw_below_drewN | apply below_drew1 | refine below_set ?_ GE179.out) | exact HB.out)) hb); clear HO182; clear BK179; clear HB; have HO182 := n0_; have BK179 := n1_; have HB := n2_; clear n0_ n1_ n2_; (try clear hb); (try clear hb2); (try clear hk); (try clear hi)))
                          go_ret
                          exact ⟨by first | rfl | (simp [errW_none, errW_some] <;> rfl) | (simp [*, errW_none, errW_some] <;> rfl), by repeat (first | (with_reducible first | exact HB.out | apply below_alloc | apply pw_below_drewN | apply below_drew1 | refine below_set ?_ GE179.out) | exact HB.out)⟩
                        · rw [if_neg c44] at H
                          have c44b0 : ((t180.length : Int) == 0) = false := beq_eq_false_iff_ne.mpr c44
                          have c44b1 : ((t180.length : Int) != 0) = true := bne_iff_ne.mpr c44
                          have c44b2 : ¬ (t180 = []) := fun h_ => c44 (by rw [h_]; rfl)
                          obtain ⟨y184, hy184⟩ : ∃ y_ : List Int, y_ = (([] : List Int)) := ⟨_, rfl⟩
                          replace H : (if y184.length + t180.length < 140737488355328 then ((some (y184 ++ t180 : List Int)).bind fun y187 => ((laws_lwAt.f l0 3 (y187.length : Int)).bind fun t190 => (if 0 ≤ t190 then (if t190 < (y187.length : Int) then ((laws_lwAt.f l0 4 8).bind fun t192 => (if 0 ≤ (IntKind.u64.wrap (t192)) then ((impl_Crc.f t180).bind fun t194 => ((impl_Crc.f (y187.set (t190 : Int).toNat (Go.bits .xor .u8 (rd y187 t190) (shl .u8 1 (IntKind.u64.wrap (t192)))))).bind fun t195 => (if t194 = t195 then (some false) else ((impl_Crc.f (([49, 50, 51, 52, 53, 54, 55, 56, 57] : List Int))).bind fun t199 => (some (t199 == 3421780262)))))) else (none))) else (none)) else (none)))) else (none)) = some r := by first | (rw [hy184]; with_reducible exact H) | (have H2_ := (Option.bind_some _ _).symm.trans H; rw [hy184]; with_reducible exact H2_) | (have H2_ := (Option.bind_some _ _).symm.trans H; with_reducible exact H2_) | with_reducible exact H | (rw [hy184]; exact H) | exact H
                          have Ny184 := Aside0.mk hy184
                          clear hy184
                          by_cases c49 : y184.length + t180.length < 140737488355328
                          · rw [if_pos c49] at H
                            have LMc49 := Aside0.mk c49
                            clear c49
                            obtain ⟨y187, hy187⟩ : ∃ y_ : List Int, y_ = (y184 ++ t180) := ⟨_, rfl⟩
                            replace H : ((laws_lwAt.f l0 3 (y187.length : Int)).bind fun t190 => (if 0 ≤ t190 then (if t190 < (y187.length : Int) then ((laws_lwAt.f l0 4 8).bind fun t192 => (if 0 ≤ (IntKind.u64.wrap (t192)) then ((impl_Crc.f t180).bind fun t194 => ((impl_Crc.f (y187.set (t190 : Int).toNat (Go.bits .xor .u8 (rd y187 t190) (shl .u8 1 (IntKind.u64.wrap (t192)))))).bind fun t195 => (if t194 = t195 then (some false) else ((impl_Crc.f (([49, 50, 51, 52, 53, 54, 55, 56, 57] : List Int))).bind fun t199 => (some (t199 == 3421780262)))))) else (none))) else (none)) else (none))) = some r := by first | (rw [hy187]; with_reducible exact H) | (have H2_ := (Option.bind_some _ _).symm.trans H; rw [hy187]; with_reducible exact H2_) | (have H2_ := (Option.bind_some _ _).symm.trans H; with_reducible exact H2_) | with_reducible exact H | (rw [hy187]; exact H) | exact H
                            have Ny187 := Aside0.mk hy187
                            clear hy187
                            replace H := Option.bind_eq_some_iff.mp H
                            obtain ⟨t190, A500, H⟩ := H
                            replace H : (if 0 ≤ t190 then (if t190 < (y187.length : Int) then ((laws_lwAt.f l0 4 8).bind fun t192 => (if 0 ≤ (IntKind.u64.wrap (t192)) then ((impl_Crc.f t180).bind fun t194 => ((impl_Crc.f (y187.set (t190 : Int).toNat (Go.bits .xor .u8 (rd y187 t190) (shl .u8 1 (IntKind.u64.wrap (t192)))))).bind fun t195 => (if t194 = t195 then (some false) else ((impl_Crc.f (([49, 50, 51, 52, 53, 54, 55, 56, 57] : List Int))).bind fun t199 => (some (t199 == 3421780262)))))) else (none))) else (none)) else (none)) = some r := H
                            have A50 := Aside0.mk A500
                            clear A500
                            by_cases c51 : 0 ≤ t190
                            · rw [if_pos c51] at H
                              have c51b0 : decide (0 ≤ t190) = true := decide_eq_true c51
                              clear c51
                              by_cases c52 : t190 < (y187.length : Int)
                              · rw [if_pos c52] at H
                                have c52b0 : decide (t190 < (y187.length : Int)) = true := decide_eq_true c52
                                clear c52
                                replace H := Option.bind_eq_some_iff.mp H
                                obtain ⟨t192, A530, H⟩ := H
                                replace H : (if 0 ≤ (IntKind.u64.wrap (t192)) then ((impl_Crc.f t180).bind fun t194 => ((impl_Crc.f (y187.set (t190 : Int).toNat (Go.bits .xor .u8 (rd y187 t190) (shl .u8 1 (IntKind.u64.wrap (t192)))))).bind fun t195 => (if t194 = t195 then (some false) else ((impl_Crc.f (([49, 50, 51, 52, 53, 54, 55, 56, 57] : List Int))).bind fun t199 => (some (t199 == 3421780262)))))) else (none)) = some r := H
                                have A53 := Aside0.mk A530
                                clear A530
                                obtain ⟨ji54, hji54⟩ : ∃ j_ : Int, (IntKind.u64.wrap (t192)) = j_ := ⟨_, rfl⟩
                                replace H : (if 0 ≤ (ji54) then ((impl_Crc.f t180).bind fun t194 => ((impl_Crc.f (y187.set (t190 : Int).toNat (Go.bits .xor .u8 (rd y187 t190) (shl .u8 1 (ji54))))).bind fun t195 => (if t194 = t195 then (some false) else ((impl_Crc.f (([49, 50, 51, 52, 53, 54, 55, 56, 57] : List Int))).bind fun t199 => (some (t199 == 3421780262)))))) else (none)) = some r := by first | (rw [hji54] at H; exact H) | (simp only [hji54] at H ⊢; exact H)
                                (try rw [hji54] at A43)
                                (try rw [hji54] at A50)
                                (try rw [hji54] at A53)
                                by_cases c55 : 0 ≤ (ji54)
                                · rw [if_pos c55] at H
                                  have c55b0 := eq_true c55
                                  have c55b1 : decide (0 ≤ (ji54)) = true := decide_eq_true c55
                                  clear c55
                                  obtain ⟨ji56, hji56⟩ : ∃ j_ : Int, (shl .u8 1 (ji54)) = j_ := ⟨_, rfl⟩
                                  replace H : ((impl_Crc.f t180).bind fun t194 => ((impl_Crc.f (y187.set (t190 : Int).toNat (Go.bits .xor .u8 (rd y187 t190) (ji56)))).bind fun t195 => (if t194 = t195 then (some false) else ((impl_Crc.f (([49, 50, 51, 52, 53, 54, 55, 56, 57] : List Int))).bind fun t199 => (some (t199 == 3421780262)))))) = some r := by first | (rw [hji56] at H; exact H) | (simp only [hji56] at H ⊢; exact H)
                                  (try rw [hji56] at A43)
                                  (try rw [hji56] at A50)
                                  (try rw [hji56] at A53)
                                  have hji56_ : (IntKind.u8.wrap (1 * 2 ^ min (ji54).toNat 8)) = ji56 := hji56
                                  have hji56z : (ji54) ≤ 8 → (IntKind.u8.wrap (1 * 2 ^ (ji54).toNat)) = ji56 := shl_small hji56
                                  have hji56u : (IntKind.u8.wrap (2 ^ min (ji54).toNat 8)) = ji56 := by have h_ := hji56_; rw [Int.one_mul] at h_; exact h_
                                  have hji56v : (ji54) ≤ 8 → (IntKind.u8.wrap (2 ^ (ji54).toNat)) = ji56 := fun hle_ => by have h_ := hji56z hle_; rw [Int.one_mul] at h_; exact h_
                                  obtain ⟨y193, hy193⟩ : ∃ y_ : List Int, y_ = (y187.set (t190 : Int).toNat (Go.bits .xor .u8 (rd y187 t190) (ji56))) := ⟨_, rfl⟩
                                  replace H : ((impl_Crc.f t180).bind fun t194 => ((impl_Crc.f y193).bind fun t195 => (if t194 = t195 then (some false) else ((impl_Crc.f (([49, 50, 51, 52, 53, 54, 55, 56, 57] : List Int))).bind fun t199 => (some (t199 == 3421780262)))))) = some r := by first | (rw [hy193]; with_reducible exact H) | (have H2_ := (Option.bind_some _ _).symm.trans H; rw [hy193]; with_reducible exact H2_) | (have H2_ := (Option.bind_some _ _).symm.trans H; with_reducible exact H2_) | with_reducible exact H | (rw [hy193]; exact H) | exact H
                                  have Ny193 := Aside0.mk hy193
                                  clear hy193
                                  replace H := Option.bind_eq_some_iff.mp H
                                  obtain ⟨t194, A580, H⟩ := H
                                  replace H : ((impl_Crc.f y193).bind fun t195 => (if t194 = t195 then (some false) else ((impl_Crc.f (([49, 50, 51, 52, 53, 54, 55, 56, 57] : List Int))).bind fun t199 => (some (t199 == 3421780262))))) = some r := H
                                  have A58 := Aside0.mk A580
                                  clear A580
                                  replace H := Option.bind_eq_some_iff.mp H
                                  obtain ⟨t195, A590, H⟩ := H
                                  replace H : (if t194 = t195 then (some false) else ((impl_Crc.f (([49, 50, 51, 52, 53, 54, 55, 56, 57] : List Int))).bind fun t199 => (some (t199 == 3421780262)))) = some r := H
                                  have A59 := Aside0.mk A590
                                  clear A590
                                  by_cases c60 : t194 = t195
                                  · rw [if_pos c60] at H
                                    have c60b0 : (t194 == t195) = true := beq_iff_eq.mpr c60
                                    have c60b1 : (t194 != t195) = false := bne_eq_false_iff_eq.mpr c60
                                    clear c60
                                    obtain rfl := Option.some.inj H
                                    try go_wp2_with (first | ((with_reducible refine gate_callee (f := 8) rfl ?_); refine goesL_ (some 80) rfl rfl Try.func8 (by kernel_rfl) rfl #[.slice A0 l0.length c0] rfl (by (try simp only [List.map_toArray, List.map_cons, List.map_nil]); first | done | rfl | (simp only [List.length_drop, List.length_take]; rfl)) ?_; (with_reducible refine (spec_DrawCrc.calls kj16 _ _ l0 t180 _ ?side1 ?side2 A43.out).mono ?_); (case side1 => repeat (first | exact (Kd.C_below HR0.out HB.out) | (with_reducible refine Kd.C_alloc ?_ _) | (with_reducible refine Kd.C_drewN ?_ _) | (with_reducible refine Kd.C_drew ?_))); (case side2 => exact HC0.out); rintro e w61 ⟨v181, rfl, ho0, hb⟩; refine ⟨_, rfl, ?_⟩; have n0_ := Aside0.mk (Kd.V_lower (Kd.V_mono (ok' := fun k_ => k_ ≠ gb179) ho0 (fun k_ hk_ => (Kd.freshB (g := gb179) (o := .cells #[.bool t177, .int .i64 t178] 28 (0, 0)) (by (with_reducible repeat (first | refine blk_drewN ?_ _ | refine blk_drew ?_ | refine blk_alloc ?_ _)); exact BK179.out) k_ hk_))) (below_size (by repeat (first | (with_reducible first | exact HB.out | apply below_alloc | apply pw_below_drewN | apply below_drew1 | refine below_set ?_ GE179.out) | exact HB.out)))); have n1_ := Aside0.mk (blk_below (g := gb179) (o := .cells #[.bool t177, .int .i64 t178] 28 (0, 0)) (by (with_reducible repeat (first | refine blk_drewN ?_ _ | refine blk_drew ?_ | refine blk_alloc ?_ _)); exact BK179.out) hb); have n2_ := Aside0.mk (below_step (by repeat (first | (with_reducible first | exact HB.out | apply below_alloc | apply pw_below_drewN | apply below_drew1 | refine below_set ?_ GE179.out) | exact HB.out)) hb); clear BK179; clear HB; have HO182 := n0_; have BK179 := n1_; have HB := n2_; clear n0_ n1_ n2_; (try clear hb); (try clear hb2); (try clear hk); (try clear hi); (try clear ho0); obtain ⟨Ao62, co62, eo62⟩ := Kd.V_slice HO182.out; subst eo62) | ((with_reducible refine gate_dst (N := 87) rfl ?_); (try (refine gate_guard (by rfl) ?_; dsimp only)); refine Kd.R_lit (Kd.int .u8) _ 5 ?hg (N := 87) ?hd (xs := ([] : List Int)) (inner := []) (ok := fun _ => True) (okp := fun _ => True) ?hr ?hp (fun _ hk => hk) trivial (Below.refl _ _) (Nat.le_refl _) (by simp) ?_; (case hd => rfl); (case hg => rfl); (case hr => first | (go_simp; done) | (go_simp; rfl)); (case hp => exact (Reps.none _ _)); intro v185 w63 ho64 hb hg_ hnew_; clear hg_ hnew_; (first | rw [← Ny184.out] at ho64 | (simp only [Int.reduceToNat] at ho64; rw [← Ny184.out] at ho64)); have n0_ := Aside0.mk (Kd.V_elder' (by (with_reducible repeat (first | apply Kd.V_alloc | apply Kd.V_drewN | apply Kd.V_drew)); exact HO182.out) (Kd.R_base ho64) hb); have n1_ := Aside0.mk (Kd.R_lower ho64 (below_size (by repeat (first | (with_reducible first | exact HB.out | apply below_alloc | apply pw_below_drewN | apply below_drew1 | refine below_set ?_ GE179.out) | exact HB.out)))); have n2_ := Aside0.mk (blk_below (g := gb179) (o := .cells #[.bool t177, .int .i64 t178] 28 (0, 0)) (by (with_reducible repeat (first | refine blk_drewN ?_ _ | refine blk_drew ?_ | refine blk_alloc ?_ _)); exact BK179.out) hb); have n3_ := Aside0.mk (below_step (by repeat (first | (with_reducible first | exact HB.out | apply below_alloc | apply pw_below_drewN | apply below_drew1 | refine below_set ?_ GE179.out) | exact HB.out)) hb); clear HO182; clear BK179; clear HB; have HO182 := n0_; have HO186 := n1_; have BK179 := n2_; have HB := n3_; clear n0_ n1_ n2_ n3_; clear hb ho64) | ((with_reducible refine gate_builtin (b := .append) (xs := #[.tmp 87, .tmp 88]) rfl ?_); (try (refine gate_guard (by rfl) ?_; dsimp only)); at_builtin; refine Kd.R_append_rows (Kd.int .u8) (w0 := w) w.heap.size rfl (.tmp 87) (.tmp 88) 22 5 (.int .u8 0) 1 rfl Try.underlying22 info5 rfl (by decide) (by omega) v185 y184 t180 _ _ _ (fun _ => True) (fun _ => False) rfl rfl ?aO ?aR (fun _ _ h => h) (fun _ h => h.elim) ?aF ?aB ?aS ?aL ?_; (case aR => repeat (first | exact (Kd.V_reads' HO182.out).2.2 | (with_reducible refine Kd.C_alloc ?_ _) | (with_reducible refine Kd.C_drewN ?_ _) | (with_reducible refine Kd.C_drew ?_))); (case aB => exact (by repeat (first | (with_reducible first | exact HB.out | apply below_alloc | apply pw_below_drewN | apply below_drew1 | refine below_set ?_ GE179.out) | exact HB.out))); (case aF => exact (fun _ _ => trivial)); (case aO => exact (by (with_reducible repeat (first | apply Kd.R_alloc | apply Kd.R_drewN | apply Kd.R_drew)); exact HO186.out)); (case aS => exact (below_size (by repeat (first | (with_reducible first | exact HB.out | apply below_alloc | apply pw_below_drewN | apply below_drew1 | refine below_set ?_ GE179.out) | exact HB.out)))); (case aL => have := LMc49.out; omega); intro v188 w65 ho hb hg hat; rw [← Ny187.out] at ho; have n0_ := Aside0.mk (blk_grown (g := gb179) (o := .cells #[.bool t177, .int .i64 t178] 28 (0, 0)) (by (with_reducible repeat (first | refine blk_drewN ?_ _ | refine blk_drew ?_ | refine blk_alloc ?_ _)); exact BK179.out) hg (Kd.R_ne HO186.out BK179.out (by decide))); have n1_ := Aside0.mk (Kd.V_afterv (ok := (fun k_ => k_ ≠ gb179)) (by (with_reducible repeat (first | apply Kd.V_alloc | apply Kd.V_drewN | apply Kd.V_drew)); exact HO182.out) hg hat); have n2_ := Aside0.mk (hb); have n3_ := Aside0.mk (ho); clear BK179; clear HO182; clear HB; clear HO186; have BK179 := n0_; have HO182 := n1_; have HB := n2_; have HO189 := n3_; clear n0_ n1_ n2_ n3_; clear ho hb hg hat; obtain ⟨Ao66, co66, eo66⟩ := Kd.R_slice HO189.out; subst eo66) | ((with_reducible refine gate_callee (f := 6) rfl ?_); refine goesL_ (some 93) rfl rfl Try.func6 (by kernel_rfl) rfl #[.slice A0 l0.length c0, .int .i64 3, .int .i64 (y187.length : Int)] rfl (by (try simp only [List.map_toArray, List.map_cons, List.map_nil]); first | done | rfl | (simp only [List.length_drop, List.length_take]; rfl)) ?_; (with_reducible refine (laws_lwAt.calls _ _ l0 3 (y187.length : Int) t190 _ ?side1 ?side2 A50.out).mono ?_); (case side1 => repeat (first | exact (Kd.C_below HR0.out HB.out) | (with_reducible refine Kd.C_alloc ?_ _) | (with_reducible refine Kd.C_drewN ?_ _) | (with_reducible refine Kd.C_drew ?_))); (case side2 => exact HC0.out); rintro e w' ⟨rfl, ⟨nd, rfl⟩⟩; refine ⟨_, rfl, ?_⟩; (try (rw [drewN_self w65]; generalize hq_ : World.drewN w65 _ = w65; have n0_ : Aside0 (Kd.V (Kd.int .u8) 5 w65 w.heap.size (fun k_ => some k_ ≠ (.slice Ao66 y187.length co66 : Value).ownBlock ∧ k_ ≠ gb179) (.slice Ao62 t180.length co62) t180) := ⟨by rw [← hq_]; exact (by (with_reducible repeat (first | apply Kd.V_alloc | apply Kd.V_drewN | apply Kd.V_drew)); exact Kd.V_mono HO182.out (fun _ hk => ⟨hk.2, hk.1⟩))⟩; have n1_ : Aside0 (Kd.R (Kd.int .u8) 5 w65 w.heap.size (fun _ => True) (.slice Ao66 y187.length co66) y187) := ⟨by rw [← hq_]; exact (by (with_reducible repeat (first | apply Kd.R_alloc | apply Kd.R_drewN | apply Kd.R_drew)); exact HO189.out)⟩; have n2_ : Aside0 (w65.heap[gb179]? = some (.cells #[.bool t177, .int .i64 t178] 28 (0, 0))) := ⟨by rw [← hq_]; exact (by (with_reducible repeat (first | refine blk_drewN ?_ _ | refine blk_drew ?_ | refine blk_alloc ?_ _)); exact BK179.out)⟩; have n3_ : Aside0 (Below w.heap.size w w65) := ⟨by rw [← hq_]; exact (by repeat (first | (with_reducible first | exact HB.out | apply below_alloc | apply pw_below_drewN | apply below_drew1 | refine below_set ?_ GE179.out) | exact HB.out))⟩; clear HO182 HO189 BK179 HB hq_; have HO182 := n0_; have HO189 := n1_; have BK179 := n2_; have HB := n3_; clear n0_ n1_ n2_ n3_))))
                                    have n0_ := Aside0.mk (Kd.V_drew HO182.out)
                                    have n1_ := Aside0.mk (Kd.R_drew HO189.out)
                                    have n2_ := Aside0.mk (blk_drew BK179.out)
                                    have n3_ := Aside0.mk (below_drew1 HB.out)
                                    clear HO182
                                    clear HO189
                                    clear BK179
                                    clear HB
                                    have HO182 := n0_
                                    have HO189 := n1_
                                    have BK179 := n2_
                                    have HB := n3_
                                    clear n0_ n1_ n2_ n3_
                                    have p191 : 0 ≤ (t190 : Int) := of_decide_eq_true (by first | (with_reducible assumption) | assumption)
                                    have q191 : t190 < (y187.length : Int) := of_decide_eq_true (by first | (with_reducible assumption) | assumption)
                                    obtain ⟨ad191, e191, hx191_0⟩ := Kd.at_int (Kd.R_reads' HO189.out).2.2 t190 p191 q191
                                    cases e191
                                    replace p191 := eq_true p191
                                    replace q191 := eq_true q191
                                    refine start_ (n := 13) (S := fun w' => w'.cell? (ad191.add (t190).toNat) = some (.int .u8 (rd y187 t190))) (ds := [12]) #[false, false, false, false, false, false, false, false, false, false, false, false, false] (by kernel_rfl) rfl rfl (hx191_0) (fun hHeld => ?_); refine with_tabW laws_FnNumbers.tab16 laws_FnNumbers.bits16 (fun HT_ HW_ => ?_)
                                    generalize w65.drew = w67 at HO182 HO189 BK179 HB hx191_0 hHeld ⊢
                                    refine pure_ (i := 0) (N := some 94) (v := ?_) (a' := ?_) #[true, false, false, false, false, false, false, false, false, false, false, false, false] rfl rfl (any_of HT_.out (by kernel_rfl)) (fun _ _ _ h => h) (Or.inl ⟨by rfl, ?_⟩) ?_ ?_
                                    rotate_left
                                    · intro w'
                                      go_simp
                                      with_reducible rfl
                                    rotate_left
                                    · simp only [Act.put, List.setIfInBounds_toArray, List.set_cons_zero, List.set_cons_succ, i64_w, i32_w]
                                      rfl
                                    refine pure_ (i := 1) (N := some 95) (v := ?_) (a' := ?_) #[true, true, false, false, false, false, false, false, false, false, false, false, false] rfl rfl (any_of HT_.out (by kernel_rfl)) (fun _ _ _ h => h) (Or.inl ⟨by rfl, ?_⟩) ?_ ?_
                                    rotate_left
                                    · intro w'
                                      go_simp
                                      with_reducible rfl
                                    rotate_left
                                    · simp only [Act.put, List.setIfInBounds_toArray, List.set_cons_zero, List.set_cons_succ, i64_w, i32_w]
                                      rfl
                                    refine pure_ (i := 2) (N := some 96) (v := ?_) (a' := ?_) #[true, true, true, false, false, false, false, false, false, false, false, false, false] rfl rfl (any_of HT_.out (by kernel_rfl)) (fun _ _ _ h => h) (Or.inl ⟨by rfl, ?_⟩) ?_ ?_
                                    rotate_left
                                    · intro w'
                                      go_simp
                                      with_reducible rfl
                                    rotate_left
                                    · simp only [Act.put, List.setIfInBounds_toArray, List.set_cons_zero, List.set_cons_succ, i64_w, i32_w]
                                      rfl
                                    refine pure_ (i := 3) (N := some 97) (v := ?_) (a' := ?_) #[true, true, true, true, false, false, false, false, false, false, false, false, false] rfl rfl (any_of HT_.out (by kernel_rfl)) (fun _ _ _ h => h) (Or.inl ⟨by rfl, ?_⟩) ?_ ?_
                                    rotate_left
                                    · intro w'
                                      go_simp
                                      with_reducible rfl
                                    rotate_left
                                    · simp only [Act.put, List.setIfInBounds_toArray, List.set_cons_zero, List.set_cons_succ, i64_w, i32_w]
                                      rfl
                                    refine pure_ (i := 4) (N := some 98) (v := ?_) (a' := ?_) #[true, true, true, true, true, false, false, false, false, false, false, false, false] rfl rfl (any_of HT_.out (by kernel_rfl)) (fun _ _ _ h => h) (Or.inl ⟨by rfl, ?_⟩) ?_ ?_
                                    rotate_left
                                    · intro w'
                                      go_simp
                                      with_reducible rfl
                                    rotate_left
                                    · simp only [Act.put, List.setIfInBounds_toArray, List.set_cons_zero, List.set_cons_succ, i64_w, i32_w]
                                      rfl
                                    refine pure_ (i := 6) (N := some 100) (v := ?_) (a' := ?_) #[true, true, true, true, true, false, true, false, false, false, false, false, false] rfl rfl (any_of HT_.out (by kernel_rfl)) (fun _ _ _ h => h) (Or.inl ⟨by rfl, ?_⟩) ?_ ?_
                                    rotate_left
                                    · intro w'
                                      go_simp
                                      with_reducible rfl
                                    rotate_left
                                    · simp only [Act.put, List.setIfInBounds_toArray, List.set_cons_zero, List.set_cons_succ, i64_w, i32_w]
                                      rfl
                                    refine take_ (i := 5) (N := some 99) (v := ?_) (a' := ?_) #[true, true, true, true, true, true, true, false, false, false, false, false, false] rfl rfl (take_ofW HT_.out HW_.out (by kernel_rfl)) (fun _ _ _ h => h) (Or.inl ⟨by rfl, ?_⟩) hHeld ?_ ?_
                                    rotate_left
                                    · intro w' s0
                                      go_simp
                                      with_reducible rfl
                                    rotate_left
                                    · simp only [Act.put, List.setIfInBounds_toArray, List.set_cons_zero, List.set_cons_succ, i64_w, i32_w]
                                      rfl
                                    refine one_ (i := 7) (N := some 101) #[true, true, true, true, true, true, true, true, false, false, false, false, false] rfl rfl (one_of HT_.out (by kernel_rfl)) (by decide) (fun K hK => ?_)
                                    refine goes_ Try.func6 (by kernel_rfl) rfl #[.slice A0 l0.length c0, .int .i64 4, .int .i64 8] (by rfl) rfl rfl (by (try simp only [List.map_toArray, List.map_cons, List.map_nil]); first | done | rfl | (simp only [List.length_drop, List.length_take]; rfl)) ?_
                                    with_reducible refine (laws_lwAt.calls _ _ l0 4 8 t192 _ ?side1 ?side2 A53.out).mono ?_
                                    (case side1 => repeat (first | exact (Kd.C_below HR0.out HB.out) | (with_reducible refine Kd.C_alloc ?_ _) | (with_reducible refine Kd.C_drewN ?_ _) | (with_reducible refine Kd.C_drew ?_)))
                                    (case side2 => exact HC0.out)
                                    rintro e w' ⟨rfl, ⟨nd, rfl⟩⟩
                                    refine ⟨_, rfl, ?_⟩
                                    have p57 : 0 ≤ (t190 : Int) := of_decide_eq_true (by first | (with_reducible assumption) | assumption)
                                    have q57 : (t190 : Int) < ((y187.length : Int) : Int) := of_decide_eq_true (by first | (with_reducible assumption) | assumption)
                                    obtain ⟨go57, co57, eo57, gb57, gl57, cl57, HG57⟩ := Kd.R_form HO189.out (by omega)
                                    (first | cases eo57 | (injection eo57 with ea_ en_ ec_; (first | subst ea_ | (injection ea_ with ea_; subst ea_)); subst ec_; clear en_))
                                    have GB57 := Aside0.mk gb57
                                    have GG57 := Aside0.mk HG57
                                    clear gb57 gl57 HG57
                                    (first | simp only [add_plain] at hx191_0 | skip)
                                    obtain ⟨hx57_0, hf57_0⟩ := Kd.R_celln 0 HO189.out (t190 : Int) p57 q57
                                    replace p57 := eq_true p57
                                    replace q57 := eq_true q57
                                    have HP68 := Kd.R_putn HO189.out (t190 : Int) (Go.bits .xor .u8 (rd y187 t190) (ji56))
                                    rw [← Ny193.out] at HP68
                                    have HQ68 := Aside0.mk HP68
                                    clear HP68
                                    refine hK.out _ _ (hHeld) (fun hHeld => ?_)
                                    clear hK K
                                    refine norm_ (a' := ?_) ?_ ?_
                                    rotate_left
                                    · show Act.put _ (some 101) _ = _
                                      simp only [Act.put, List.setIfInBounds_toArray, List.set_cons_zero, List.set_cons_succ, i64_w, i32_w]
                                      rfl
                                    refine pure_ (i := 8) (N := some 102) (v := ?_) (a' := ?_) #[true, true, true, true, true, true, true, true, true, false, false, false, false] rfl rfl (any_of HT_.out (by kernel_rfl)) (fun _ _ _ h => h) (Or.inl ⟨by rfl, ?_⟩) ?_ ?_
                                    rotate_left
                                    · intro w'
                                      go_simp
                                      with_reducible rfl
                                    rotate_left
                                    · simp only [Act.put, List.setIfInBounds_toArray, List.set_cons_zero, List.set_cons_succ, i64_w, i32_w]
                                      rfl
                                    refine pure_ (i := 9) (N := some 103) (v := ?_) (a' := ?_) #[true, true, true, true, true, true, true, true, true, true, false, false, false] rfl rfl (any_of HT_.out (by kernel_rfl)) (fun _ _ _ h => h) (Or.inl ⟨by rfl, ?_⟩) ?_ ?_
                                    rotate_left
                                    · intro w'
                                      go_simp
                                      with_reducible rfl
                                    rotate_left
                                    · simp only [Act.put, List.setIfInBounds_toArray, List.set_cons_zero, List.set_cons_succ, i64_w, i32_w]
                                      rfl
                                    refine pure_ (i := 10) (N := some 104) (v := ?_) (a' := ?_) #[true, true, true, true, true, true, true, true, true, true, true, false, false] rfl rfl (any_of HT_.out (by kernel_rfl)) (fun _ _ _ h => h) (Or.inl ⟨by rfl, ?_⟩) ?_ ?_
                                    rotate_left
                                    · intro w'
                                      go_simp
                                      with_reducible rfl
                                    rotate_left
                                    · simp only [Act.put, List.setIfInBounds_toArray, List.set_cons_zero, List.set_cons_succ, i64_w, i32_w]
                                      rfl
                                    refine pure_ (i := 11) (N := some 105) (v := ?_) (a' := ?_) #[true, true, true, true, true, true, true, true, true, true, true, true, false] rfl rfl (any_of HT_.out (by kernel_rfl)) (fun _ _ _ h => h) (Or.inl ⟨by rfl, ?_⟩) ?_ ?_
                                    rotate_left
                                    · intro w'
                                      go_simp
                                      with_reducible rfl
                                    rotate_left
                                    · simp only [Act.put, List.setIfInBounds_toArray, List.set_cons_zero, List.set_cons_succ, i64_w, i32_w]
                                      rfl
                                    refine last_ (i := 12) (N := none) #[true, true, true, true, true, true, true, true, true, true, true, true, true] rfl rfl (one_of HT_.out (by kernel_rfl)) (by decide) (fun K hK => ?_)
                                    refine skip_ (w1 := ?_) (by rfl) rfl ?_ ?_
                                    rotate_left
                                    · go_simp
                                      rfl
                                    refine hK.out _ _ ?_
                                    clear hK K
                                    refine done_ (done_of HT_.out (by kernel_rfl)) ?_
                                    try go_wp2_with (first | ((with_reducible refine gate_callee (f := 9) rfl ?_); refine goesL_ (some 107) rfl rfl Try.func9 (by kernel_rfl) rfl #[.slice Ao62 t180.length co62] rfl (by (try simp only [List.map_toArray, List.map_cons, List.map_nil]); first | done | rfl | (simp only [List.length_drop, List.length_take]; rfl)) ?_; (with_reducible refine (impl_Crc.calls _ _ t180 t194 _ ?side1 ?side2 A58.out).mono ?_); (case side1 => refine (Kd.V_reads' (e := 5) (base := w.heap.size) (ok := fun k_ => (some k_ ≠ (.slice (some ⟨go57, 0, none⟩) y187.length co66 : Value).ownBlock ∧ k_ ≠ gb179)) (n := t180.length) (c := co62) ?_).2.2; exact (by (with_reducible repeat (first | apply Kd.V_alloc | apply Kd.V_drewN | apply Kd.V_drew)); exact (Kd.V_mono (Kd.V_far (p := ⟨go57, (t190 : Int).toNat, none⟩) (Kd.V_mono (Kd.V_drewN HO182.out _) (fun k_ hk => (⟨hk, fun e_ => hk.1 (by rw [e_]; rfl)⟩ : _ ∧ k_ ≠ go57))) (fun _ hk => hk.2) (.int .u8 (Go.bits .xor .u8 (rd y187 t190) (ji56)))) (fun _ h_ => h_.1)))); (case side2 => exact (Kd.V_reads' HO182.out).2.1); rintro e w69 ⟨rfl, hb⟩; refine ⟨_, rfl, ?_⟩; have n0_ := Aside0.mk (Kd.V_below (by (with_reducible repeat (first | apply Kd.V_alloc | apply Kd.V_drewN | apply Kd.V_drew)); exact (Kd.V_mono (Kd.V_far (p := ⟨go57, (t190 : Int).toNat, none⟩) (Kd.V_mono (Kd.V_drewN HO182.out _) (fun k_ hk => (⟨hk, fun e_ => hk.1 (by rw [e_]; rfl)⟩ : _ ∧ k_ ≠ go57))) (fun _ hk => hk.2) (.int .u8 (Go.bits .xor .u8 (rd y187 t190) (ji56)))) (fun _ h_ => h_.1))) hb); have n1_ := Aside0.mk (Kd.R_below (by (with_reducible repeat (first | apply Kd.R_alloc | apply Kd.R_drewN | apply Kd.R_drew)); exact HQ68.out) hb); have n2_ := Aside0.mk (blk_below (g := gb179) (o := .cells #[.bool t177, .int .i64 t178] 28 (0, 0)) (by (with_reducible repeat (first | refine blk_drewN ?_ _ | refine blk_drew ?_ | refine blk_alloc ?_ _)); refine blk_far ?_ (by have h_ := Kd.R_ne HO189.out BK179.out (by decide); intro e_; exact h_ (by rw [e_]; rfl)) _; (with_reducible repeat (first | refine blk_drewN ?_ _ | refine blk_drew ?_ | refine blk_alloc ?_ _)); exact BK179.out) hb); have n3_ := Aside0.mk (below_step (by repeat (first | (with_reducible first | exact HB.out | apply below_alloc | apply pw_below_drewN | apply below_drew1 | refine below_set ?_ GB57.out | refine below_set ?_ GE179.out) | exact HB.out)) hb); clear HO182; clear HO189; clear BK179; clear HB; have HO182 := n0_; have HO189 := n1_; have BK179 := n2_; have HB := n3_; clear n0_ n1_ n2_ n3_; (try clear hb); (try clear hb2); (try clear hk); (try clear hi)) | ((with_reducible refine gate_callee (f := 9) rfl ?_); refine goesL_ (some 109) rfl rfl Try.func9 (by kernel_rfl) rfl #[.slice (some ⟨go57, 0, none⟩) y193.length co66] rfl (by (try simp only [List.map_toArray, List.map_cons, List.map_nil]); first | done | (rw [show y193.length = y187.length from (Kd.R_reads' HO189.out).1.symm] <;> rfl) | rfl | (simp only [List.length_drop, List.length_take]; rfl)) ?_; (with_reducible refine (impl_Crc.calls _ _ y193 t195 _ ?side1 ?side2 A59.out).mono ?_); (case side1 => repeat (first | exact (Kd.R_reads' HO189.out).2.2 | (with_reducible refine Kd.C_alloc ?_ _) | (with_reducible refine Kd.C_drewN ?_ _) | (with_reducible refine Kd.C_drew ?_))); (case side2 => rw [show y193.length = y187.length from (Kd.R_reads' HO189.out).1.symm]; exact (Kd.R_reads' HO189.out).2.1); rintro e w70 ⟨rfl, hb⟩; refine ⟨_, rfl, ?_⟩; have n0_ := Aside0.mk (Kd.V_below (by (with_reducible repeat (first | apply Kd.V_alloc | apply Kd.V_drewN | apply Kd.V_drew)); exact HO182.out) hb); have n1_ := Aside0.mk (Kd.R_below (by (with_reducible repeat (first | apply Kd.R_alloc | apply Kd.R_drewN | apply Kd.R_drew)); exact HO189.out) hb); have n2_ := Aside0.mk (blk_below (g := gb179) (o := .cells #[.bool t177, .int .i64 t178] 28 (0, 0)) (by (with_reducible repeat (first | refine blk_drewN ?_ _ | refine blk_drew ?_ | refine blk_alloc ?_ _)); exact BK179.out) hb); have n3_ := Aside0.mk (below_step (by repeat (first | (with_reducible first | exact HB.out | apply below_alloc | apply pw_below_drewN | apply below_drew1 | refine below_set ?_ GE179.out) | exact HB.out)) hb); clear HO182; clear HO189; clear BK179; clear HB; have HO182 := n0_; have HO189 := n1_; have BK179 := n2_; have HB := n3_; clear n0_ n1_ n2_ n3_; (try clear hb); (try clear hb2); (try clear hk); (try clear hi)))
                                    go_ret
                                    exact ⟨by first | rfl | (simp [errW_none, errW_some] <;> rfl) | (simp only [← hji54, ← hji56]; first | rfl | (simp [errW_none, errW_some] <;> rfl)) | (simp [*, errW_none, errW_some] <;> rfl), by repeat (first | (with_reducible first | exact HB.out | apply below_alloc | apply pw_below_drewN | apply below_drew1 | refine below_set ?_ GE179.out) | exact HB.out)⟩
                                  · rw [if_neg c60] at H
                                    have c60b0 : (t194 == t195) = false := beq_eq_false_iff_ne.mpr c60
                                    have c60b1 : (t194 != t195) = true := bne_iff_ne.mpr c60
                                    obtain ⟨y196, hy196⟩ : ∃ y_ : List Int, y_ = (([49, 50, 51, 52, 53, 54, 55, 56, 57] : List Int)) := ⟨_, rfl⟩
                                    replace H : ((impl_Crc.f y196).bind fun t199 => (some (t199 == 3421780262))) = some r := by first | (rw [hy196]; with_reducible exact H) | (have H2_ := (Option.bind_some _ _).symm.trans H; rw [hy196]; with_reducible exact H2_) | (have H2_ := (Option.bind_some _ _).symm.trans H; with_reducible exact H2_) | with_reducible exact H | (rw [hy196]; exact H) | exact H
                                    have Ny196 := Aside0.mk hy196
                                    clear hy196
                                    replace H := Option.bind_eq_some_iff.mp H
                                    obtain ⟨t199, A710, H⟩ := H
                                    replace H : (some (t199 == 3421780262)) = some r := H
                                    have A71 := Aside0.mk A710
                                    clear A710
                                    obtain rfl := Option.some.inj H
                                    try go_wp2_with (first | ((with_reducible refine gate_callee (f := 8) rfl ?_); refine goesL_ (some 80) rfl rfl Try.func8 (by kernel_rfl) rfl #[.slice A0 l0.length c0] rfl (by (try simp only [List.map_toArray, List.map_cons, List.map_nil]); first | done | rfl | (simp only [List.length_drop, List.length_take]; rfl)) ?_; (with_reducible refine (spec_DrawCrc.calls kj16 _ _ l0 t180 _ ?side1 ?side2 A43.out).mono ?_); (case side1 => repeat (first | exact (Kd.C_below HR0.out HB.out) | (with_reducible refine Kd.C_alloc ?_ _) | (with_reducible refine Kd.C_drewN ?_ _) | (with_reducible refine Kd.C_drew ?_))); (case side2 => exact HC0.out); rintro e w72 ⟨v181, rfl, ho0, hb⟩; refine ⟨_, rfl, ?_⟩; have n0_ := Aside0.mk (Kd.V_lower (Kd.V_mono (ok' := fun k_ => k_ ≠ gb179) ho0 (fun k_ hk_ => (Kd.freshB (g := gb179) (o := .cells #[.bool t177, .int .i64 t178] 28 (0, 0)) (by (with_reducible repeat (first | refine blk_drewN ?_ _ | refine blk_drew ?_ | refine blk_alloc ?_ _)); exact BK179.out) k_ hk_))) (below_size (by repeat (first | (with_reducible first | exact HB.out | apply below_alloc | apply pw_below_drewN | apply below_drew1 | refine below_set ?_ GE179.out) | exact HB.out)))); have n1_ := Aside0.mk (blk_below (g := gb179) (o := .cells #[.bool t177, .int .i64 t178] 28 (0, 0)) (by (with_reducible repeat (first | refine blk_drewN ?_ _ | refine blk_drew ?_ | refine blk_alloc ?_ _)); exact BK179.out) hb); have n2_ := Aside0.mk (below_step (by repeat (first | (with_reducible first | exact HB.out | apply below_alloc | apply pw_below_drewN | apply below_drew1 | refine below_set ?_ GE179.out) | exact HB.out)) hb); clear BK179; clear HB; have HO182 := n0_; have BK179 := n1_; have HB := n2_; clear n0_ n1_ n2_; (try clear hb); (try clear hb2); (try clear hk); (try clear hi); (try clear ho0); obtain ⟨Ao73, co73, eo73⟩ := Kd.V_slice HO182.out; subst eo73) | ((with_reducible refine gate_dst (N := 87) rfl ?_); (try (refine gate_guard (by rfl) ?_; dsimp only)); refine Kd.R_lit (Kd.int .u8) _ 5 ?hg (N := 87) ?hd (xs := ([] : List Int)) (inner := []) (ok := fun _ => True) (okp := fun _ => True) ?hr ?hp (fun _ hk => hk) trivial (Below.refl _ _) (Nat.le_refl _) (by simp) ?_; (case hd => rfl); (case hg => rfl); (case hr => first | (go_simp; done) | (go_simp; rfl)); (case hp => exact (Reps.none _ _)); intro v185 w74 ho75 hb hg_ hnew_; clear hg_ hnew_; (first | rw [← Ny184.out] at ho75 | (simp only [Int.reduceToNat] at ho75; rw [← Ny184.out] at ho75)); have n0_ := Aside0.mk (Kd.V_elder' (by (with_reducible repeat (first | apply Kd.V_alloc | apply Kd.V_drewN | apply Kd.V_drew)); exact HO182.out) (Kd.R_base ho75) hb); have n1_ := Aside0.mk (Kd.R_lower ho75 (below_size (by repeat (first | (with_reducible first | exact HB.out | apply below_alloc | apply pw_below_drewN | apply below_drew1 | refine below_set ?_ GE179.out) | exact HB.out)))); have n2_ := Aside0.mk (blk_below (g := gb179) (o := .cells #[.bool t177, .int .i64 t178] 28 (0, 0)) (by (with_reducible repeat (first | refine blk_drewN ?_ _ | refine blk_drew ?_ | refine blk_alloc ?_ _)); exact BK179.out) hb); have n3_ := Aside0.mk (below_step (by repeat (first | (with_reducible first | exact HB.out | apply below_alloc | apply pw_below_drewN | apply below_drew1 | refine below_set ?_ GE179.out) | exact HB.out)) hb); clear HO182; clear BK179; clear HB; have HO182 := n0_; have HO186 := n1_; have BK179 := n2_; have HB := n3_; clear n0_ n1_ n2_ n3_; clear hb ho75) | ((with_reducible refine gate_builtin (b := .append) (xs := #[.tmp 87, .tmp 88]) rfl ?_); (try (refine gate_guard (by rfl) ?_; dsimp only)); at_builtin; refine Kd.R_append_rows (Kd.int .u8) (w0 := w) w.heap.size rfl (.tmp 87) (.tmp 88) 22 5 (.int .u8 0) 1 rfl Try.underlying22 info5 rfl (by decide) (by omega) v185 y184 t180 _ _ _ (fun _ => True) (fun _ => False) rfl rfl ?aO ?aR (fun _ _ h => h) (fun _ h => h.elim) ?aF ?aB ?aS ?aL ?_; (case aR => repeat (first | exact (Kd.V_reads' HO182.out).2.2 | (with_reducible refine Kd.C_alloc ?_ _) | (with_reducible refine Kd.C_drewN ?_ _) | (with_reducible refine Kd.C_drew ?_))); (case aB => exact (by repeat (first | (with_reducible first | exact HB.out | apply below_alloc | apply pw_below_drewN | apply below_drew1 | refine below_set ?_ GE179.out) | exact HB.out))); (case aF => exact (fun _ _ => trivial)); (case aO => exact (by (with_reducible repeat (first | apply Kd.R_alloc | apply Kd.R_drewN | apply Kd.R_drew)); exact HO186.out)); (case aS => exact (below_size (by repeat (first | (with_reducible first | exact HB.out | apply below_alloc | apply pw_below_drewN | apply below_drew1 | refine below_set ?_ GE179.out) | exact HB.out)))); (case aL => have := LMc49.out; omega); intro v188 w76 ho hb hg hat; rw [← Ny187.out] at ho; have n0_ := Aside0.mk (blk_grown (g := gb179) (o := .cells #[.bool t177, .int .i64 t178] 28 (0, 0)) (by (with_reducible repeat (first | refine blk_drewN ?_ _ | refine blk_drew ?_ | refine blk_alloc ?_ _)); exact BK179.out) hg (Kd.R_ne HO186.out BK179.out (by decide))); have n1_ := Aside0.mk (Kd.V_afterv (ok := (fun k_ => k_ ≠ gb179)) (by (with_reducible repeat (first | apply Kd.V_alloc | apply Kd.V_drewN | apply Kd.V_drew)); exact HO182.out) hg hat); have n2_ := Aside0.mk (hb); have n3_ := Aside0.mk (ho); clear BK179; clear HO182; clear HB; clear HO186; have BK179 := n0_; have HO182 := n1_; have HB := n2_; have HO189 := n3_; clear n0_ n1_ n2_ n3_; clear ho hb hg hat; obtain ⟨Ao77, co77, eo77⟩ := Kd.R_slice HO189.out; subst eo77) | ((with_reducible refine gate_callee (f := 6) rfl ?_); refine goesL_ (some 93) rfl rfl Try.func6 (by kernel_rfl) rfl #[.slice A0 l0.length c0, .int .i64 3, .int .i64 (y187.length : Int)] rfl (by (try simp only [List.map_toArray, List.map_cons, List.map_nil]); first | done | rfl | (simp only [List.length_drop, List.length_take]; rfl)) ?_; (with_reducible refine (laws_lwAt.calls _ _ l0 3 (y187.length : Int) t190 _ ?side1 ?side2 A50.out).mono ?_); (case side1 => repeat (first | exact (Kd.C_below HR0.out HB.out) | (with_reducible refine Kd.C_alloc ?_ _) | (with_reducible refine Kd.C_drewN ?_ _) | (with_reducible refine Kd.C_drew ?_))); (case side2 => exact HC0.out); rintro e w' ⟨rfl, ⟨nd, rfl⟩⟩; refine ⟨_, rfl, ?_⟩; (try (rw [drewN_self w76]; generalize hq_ : World.drewN w76 _ = w76; have n0_ : Aside0 (Kd.V (Kd.int .u8) 5 w76 w.heap.size (fun k_ => some k_ ≠ (.slice Ao77 y187.length co77 : Value).ownBlock ∧ k_ ≠ gb179) (.slice Ao73 t180.length co73) t180) := ⟨by rw [← hq_]; exact (by (with_reducible repeat (first | apply Kd.V_alloc | apply Kd.V_drewN | apply Kd.V_drew)); exact Kd.V_mono HO182.out (fun _ hk => ⟨hk.2, hk.1⟩))⟩; have n1_ : Aside0 (Kd.R (Kd.int .u8) 5 w76 w.heap.size (fun _ => True) (.slice Ao77 y187.length co77) y187) := ⟨by rw [← hq_]; exact (by (with_reducible repeat (first | apply Kd.R_alloc | apply Kd.R_drewN | apply Kd.R_drew)); exact HO189.out)⟩; have n2_ : Aside0 (w76.heap[gb179]? = some (.cells #[.bool t177, .int .i64 t178] 28 (0, 0))) := ⟨by rw [← hq_]; exact (by (with_reducible repeat (first | refine blk_drewN ?_ _ | refine blk_drew ?_ | refine blk_alloc ?_ _)); exact BK179.out)⟩; have n3_ : Aside0 (Below w.heap.size w w76) := ⟨by rw [← hq_]; exact (by repeat (first | (with_reducible first | exact HB.out | apply below_alloc | apply pw_below_drewN | apply below_drew1 | refine below_set ?_ GE179.out) | exact HB.out))⟩; clear HO182 HO189 BK179 HB hq_; have HO182 := n0_; have HO189 := n1_; have BK179 := n2_; have HB := n3_; clear n0_ n1_ n2_ n3_))))
                                    have n0_ := Aside0.mk (Kd.V_drew HO182.out)
                                    have n1_ := Aside0.mk (Kd.R_drew HO189.out)
                                    have n2_ := Aside0.mk (blk_drew BK179.out)
                                    have n3_ := Aside0.mk (below_drew1 HB.out)
                                    clear HO182
                                    clear HO189
                                    clear BK179
                                    clear HB
                                    have HO182 := n0_
                                    have HO189 := n1_
                                    have BK179 := n2_
                                    have HB := n3_
                                    clear n0_ n1_ n2_ n3_
                                    have p191 : 0 ≤ (t190 : Int) := of_decide_eq_true (by first | (with_reducible assumption) | assumption)
                                    have q191 : t190 < (y187.length : Int) := of_decide_eq_true (by first | (with_reducible assumption) | assumption)
                                    obtain ⟨ad191, e191, hx191_0⟩ := Kd.at_int (Kd.R_reads' HO189.out).2.2 t190 p191 q191
                                    cases e191
                                    replace p191 := eq_true p191
                                    replace q191 := eq_true q191
                                    refine start_ (n := 13) (S := fun w' => w'.cell? (ad191.add (t190).toNat) = some (.int .u8 (rd y187 t190))) (ds := [12]) #[false, false, false, false, false, false, false, false, false, false, false, false, false] (by kernel_rfl) rfl rfl (hx191_0) (fun hHeld => ?_); refine with_tabW laws_FnNumbers.tab16 laws_FnNumbers.bits16 (fun HT_ HW_ => ?_)
                                    generalize w76.drew = w78 at HO182 HO189 BK179 HB hx191_0 hHeld ⊢
                                    refine pure_ (i := 0) (N := some 94) (v := ?_) (a' := ?_) #[true, false, false, false, false, false, false, false, false, false, false, false, false] rfl rfl (any_of HT_.out (by kernel_rfl)) (fun _ _ _ h => h) (Or.inl ⟨by rfl, ?_⟩) ?_ ?_
                                    rotate_left
                                    · intro w'
                                      go_simp
                                      with_reducible rfl
                                    rotate_left
                                    · simp only [Act.put, List.setIfInBounds_toArray, List.set_cons_zero, List.set_cons_succ, i64_w, i32_w]
                                      rfl
                                    refine pure_ (i := 1) (N := some 95) (v := ?_) (a' := ?_) #[true, true, false, false, false, false, false, false, false, false, false, false, false] rfl rfl (any_of HT_.out (by kernel_rfl)) (fun _ _ _ h => h) (Or.inl ⟨by rfl, ?_⟩) ?_ ?_
                                    rotate_left
                                    · intro w'
                                      go_simp
                                      with_reducible rfl
                                    rotate_left
                                    · simp only [Act.put, List.setIfInBounds_toArray, List.set_cons_zero, List.set_cons_succ, i64_w, i32_w]
                                      rfl
                                    refine pure_ (i := 2) (N := some 96) (v := ?_) (a' := ?_) #[true, true, true, false, false, false, false, false, false, false, false, false, false] rfl rfl (any_of HT_.out (by kernel_rfl)) (fun _ _ _ h => h) (Or.inl ⟨by rfl, ?_⟩) ?_ ?_
                                    rotate_left
                                    · intro w'
                                      go_simp
                                      with_reducible rfl
                                    rotate_left
                                    · simp only [Act.put, List.setIfInBounds_toArray, List.set_cons_zero, List.set_cons_succ, i64_w, i32_w]
                                      rfl
                                    refine pure_ (i := 3) (N := some 97) (v := ?_) (a' := ?_) #[true, true, true, true, false, false, false, false, false, false, false, false, false] rfl rfl (any_of HT_.out (by kernel_rfl)) (fun _ _ _ h => h) (Or.inl ⟨by rfl, ?_⟩) ?_ ?_
                                    rotate_left
                                    · intro w'
                                      go_simp
                                      with_reducible rfl
                                    rotate_left
                                    · simp only [Act.put, List.setIfInBounds_toArray, List.set_cons_zero, List.set_cons_succ, i64_w, i32_w]
                                      rfl
                                    refine pure_ (i := 4) (N := some 98) (v := ?_) (a' := ?_) #[true, true, true, true, true, false, false, false, false, false, false, false, false] rfl rfl (any_of HT_.out (by kernel_rfl)) (fun _ _ _ h => h) (Or.inl ⟨by rfl, ?_⟩) ?_ ?_
                                    rotate_left
                                    · intro w'
                                      go_simp
                                      with_reducible rfl
                                    rotate_left
                                    · simp only [Act.put, List.setIfInBounds_toArray, List.set_cons_zero, List.set_cons_succ, i64_w, i32_w]
                                      rfl
                                    refine pure_ (i := 6) (N := some 100) (v := ?_) (a' := ?_) #[true, true, true, true, true, false, true, false, false, false, false, false, false] rfl rfl (any_of HT_.out (by kernel_rfl)) (fun _ _ _ h => h) (Or.inl ⟨by rfl, ?_⟩) ?_ ?_
                                    rotate_left
                                    · intro w'
                                      go_simp
                                      with_reducible rfl
                                    rotate_left
                                    · simp only [Act.put, List.setIfInBounds_toArray, List.set_cons_zero, List.set_cons_succ, i64_w, i32_w]
                                      rfl
                                    refine take_ (i := 5) (N := some 99) (v := ?_) (a' := ?_) #[true, true, true, true, true, true, true, false, false, false, false, false, false] rfl rfl (take_ofW HT_.out HW_.out (by kernel_rfl)) (fun _ _ _ h => h) (Or.inl ⟨by rfl, ?_⟩) hHeld ?_ ?_
                                    rotate_left
                                    · intro w' s0
                                      go_simp
                                      with_reducible rfl
                                    rotate_left
                                    · simp only [Act.put, List.setIfInBounds_toArray, List.set_cons_zero, List.set_cons_succ, i64_w, i32_w]
                                      rfl
                                    refine one_ (i := 7) (N := some 101) #[true, true, true, true, true, true, true, true, false, false, false, false, false] rfl rfl (one_of HT_.out (by kernel_rfl)) (by decide) (fun K hK => ?_)
                                    refine goes_ Try.func6 (by kernel_rfl) rfl #[.slice A0 l0.length c0, .int .i64 4, .int .i64 8] (by rfl) rfl rfl (by (try simp only [List.map_toArray, List.map_cons, List.map_nil]); first | done | rfl | (simp only [List.length_drop, List.length_take]; rfl)) ?_
                                    with_reducible refine (laws_lwAt.calls _ _ l0 4 8 t192 _ ?side1 ?side2 A53.out).mono ?_
                                    (case side1 => repeat (first | exact (Kd.C_below HR0.out HB.out) | (with_reducible refine Kd.C_alloc ?_ _) | (with_reducible refine Kd.C_drewN ?_ _) | (with_reducible refine Kd.C_drew ?_)))
                                    (case side2 => exact HC0.out)
                                    rintro e w' ⟨rfl, ⟨nd, rfl⟩⟩
                                    refine ⟨_, rfl, ?_⟩
                                    have p57 : 0 ≤ (t190 : Int) := of_decide_eq_true (by first | (with_reducible assumption) | assumption)
                                    have q57 : (t190 : Int) < ((y187.length : Int) : Int) := of_decide_eq_true (by first | (with_reducible assumption) | assumption)
                                    obtain ⟨go57, co57, eo57, gb57, gl57, cl57, HG57⟩ := Kd.R_form HO189.out (by omega)
                                    (first | cases eo57 | (injection eo57 with ea_ en_ ec_; (first | subst ea_ | (injection ea_ with ea_; subst ea_)); subst ec_; clear en_))
                                    have GB57 := Aside0.mk gb57
                                    have GG57 := Aside0.mk HG57
                                    clear gb57 gl57 HG57
                                    (first | simp only [add_plain] at hx191_0 | skip)
                                    obtain ⟨hx57_0, hf57_0⟩ := Kd.R_celln 0 HO189.out (t190 : Int) p57 q57
                                    replace p57 := eq_true p57
                                    replace q57 := eq_true q57
                                    have HP79 := Kd.R_putn HO189.out (t190 : Int) (Go.bits .xor .u8 (rd y187 t190) (ji56))
                                    rw [← Ny193.out] at HP79
                                    have HQ79 := Aside0.mk HP79
                                    clear HP79
                                    refine hK.out _ _ (hHeld) (fun hHeld => ?_)
                                    clear hK K
                                    refine norm_ (a' := ?_) ?_ ?_
                                    rotate_left
                                    · show Act.put _ (some 101) _ = _
                                      simp only [Act.put, List.setIfInBounds_toArray, List.set_cons_zero, List.set_cons_succ, i64_w, i32_w]
                                      rfl
                                    refine pure_ (i := 8) (N := some 102) (v := ?_) (a' := ?_) #[true, true, true, true, true, true, true, true, true, false, false, false, false] rfl rfl (any_of HT_.out (by kernel_rfl)) (fun _ _ _ h => h) (Or.inl ⟨by rfl, ?_⟩) ?_ ?_
                                    rotate_left
                                    · intro w'
                                      go_simp
                                      with_reducible rfl
                                    rotate_left
                                    · simp only [Act.put, List.setIfInBounds_toArray, List.set_cons_zero, List.set_cons_succ, i64_w, i32_w]
                                      rfl
                                    refine pure_ (i := 9) (N := some 103) (v := ?_) (a' := ?_) #[true, true, true, true, true, true, true, true, true, true, false, false, false] rfl rfl (any_of HT_.out (by kernel_rfl)) (fun _ _ _ h => h) (Or.inl ⟨by rfl, ?_⟩) ?_ ?_
                                    rotate_left
                                    · intro w'
                                      go_simp
                                      with_reducible rfl
                                    rotate_left
                                    · simp only [Act.put, List.setIfInBounds_toArray, List.set_cons_zero, List.set_cons_succ, i64_w, i32_w]
                                      rfl
                                    refine pure_ (i := 10) (N := some 104) (v := ?_) (a' := ?_) #[true, true, true, true, true, true, true, true, true, true, true, false, false] rfl rfl (any_of HT_.out (by kernel_rfl)) (fun _ _ _ h => h) (Or.inl ⟨by rfl, ?_⟩) ?_ ?_
                                    rotate_left
                                    · intro w'
                                      go_simp
                                      with_reducible rfl
                                    rotate_left
                                    · simp only [Act.put, List.setIfInBounds_toArray, List.set_cons_zero, List.set_cons_succ, i64_w, i32_w]
                                      rfl
                                    refine pure_ (i := 11) (N := some 105) (v := ?_) (a' := ?_) #[true, true, true, true, true, true, true, true, true, true, true, true, false] rfl rfl (any_of HT_.out (by kernel_rfl)) (fun _ _ _ h => h) (Or.inl ⟨by rfl, ?_⟩) ?_ ?_
                                    rotate_left
                                    · intro w'
                                      go_simp
                                      with_reducible rfl
                                    rotate_left
                                    · simp only [Act.put, List.setIfInBounds_toArray, List.set_cons_zero, List.set_cons_succ, i64_w, i32_w]
                                      rfl
                                    refine last_ (i := 12) (N := none) #[true, true, true, true, true, true, true, true, true, true, true, true, true] rfl rfl (one_of HT_.out (by kernel_rfl)) (by decide) (fun K hK => ?_)
                                    refine skip_ (w1 := ?_) (by rfl) rfl ?_ ?_
                                    rotate_left
                                    · go_simp
                                      rfl
                                    refine hK.out _ _ ?_
                                    clear hK K
                                    refine done_ (done_of HT_.out (by kernel_rfl)) ?_
                                    try go_wp2_with (first | ((with_reducible refine gate_callee (f := 9) rfl ?_); refine goesL_ (some 107) rfl rfl Try.func9 (by kernel_rfl) rfl #[.slice Ao73 t180.length co73] rfl (by (try simp only [List.map_toArray, List.map_cons, List.map_nil]); first | done | rfl | (simp only [List.length_drop, List.length_take]; rfl)) ?_; (with_reducible refine (impl_Crc.calls _ _ t180 t194 _ ?side1 ?side2 A58.out).mono ?_); (case side1 => refine (Kd.V_reads' (e := 5) (base := w.heap.size) (ok := fun k_ => (some k_ ≠ (.slice (some ⟨go57, 0, none⟩) y187.length co77 : Value).ownBlock ∧ k_ ≠ gb179)) (n := t180.length) (c := co73) ?_).2.2; exact (by (with_reducible repeat (first | apply Kd.V_alloc | apply Kd.V_drewN | apply Kd.V_drew)); exact (Kd.V_mono (Kd.V_far (p := ⟨go57, (t190 : Int).toNat, none⟩) (Kd.V_mono (Kd.V_drewN HO182.out _) (fun k_ hk => (⟨hk, fun e_ => hk.1 (by rw [e_]; rfl)⟩ : _ ∧ k_ ≠ go57))) (fun _ hk => hk.2) (.int .u8 (Go.bits .xor .u8 (rd y187 t190) (ji56)))) (fun _ h_ => h_.1)))); (case side2 => exact (Kd.V_reads' HO182.out).2.1); rintro e w80 ⟨rfl, hb⟩; refine ⟨_, rfl, ?_⟩; have n0_ := Aside0.mk (Kd.V_below (by (with_reducible repeat (first | apply Kd.V_alloc | apply Kd.V_drewN | apply Kd.V_drew)); exact (Kd.V_mono (Kd.V_far (p := ⟨go57, (t190 : Int).toNat, none⟩) (Kd.V_mono (Kd.V_drewN HO182.out _) (fun k_ hk => (⟨hk, fun e_ => hk.1 (by rw [e_]; rfl)⟩ : _ ∧ k_ ≠ go57))) (fun _ hk => hk.2) (.int .u8 (Go.bits .xor .u8 (rd y187 t190) (ji56)))) (fun _ h_ => h_.1))) hb); have n1_ := Aside0.mk (Kd.R_below (by (with_reducible repeat (first | apply Kd.R_alloc | apply Kd.R_drewN | apply Kd.R_drew)); exact HQ79.out) hb); have n2_ := Aside0.mk (blk_below (g := gb179) (o := .cells #[.bool t177, .int .i64 t178] 28 (0, 0)) (by (with_reducible repeat (first | refine blk_drewN ?_ _ | refine blk_drew ?_ | refine blk_alloc ?_ _)); refine blk_far ?_ (by have h_ := Kd.R_ne HO189.out BK179.out (by decide); intro e_; exact h_ (by rw [e_]; rfl)) _; (with_reducible repeat (first | refine blk_drewN ?_ _ | refine blk_drew ?_ | refine blk_alloc ?_ _)); exact BK179.out) hb); have n3_ := Aside0.mk (below_step (by repeat (first | (with_reducible first | exact HB.out | apply below_alloc | apply pw_below_drewN | apply below_drew1 | refine below_set ?_ GB57.out | refine below_set ?_ GE179.out) | exact HB.out)) hb); clear HO182; clear HO189; clear BK179; clear HB; have HO182 := n0_; have HO189 := n1_; have BK179 := n2_; have HB := n3_; clear n0_ n1_ n2_ n3_; (try clear hb); (try clear hb2); (try clear hk); (try clear hi)) | ((with_reducible refine gate_callee (f := 9) rfl ?_); refine goesL_ (some 109) rfl rfl Try.func9 (by kernel_rfl) rfl #[.slice (some ⟨go57, 0, none⟩) y193.length co77] rfl (by (try simp only [List.map_toArray, List.map_cons, List.map_nil]); first | done | (rw [show y193.length = y187.length from (Kd.R_reads' HO189.out).1.symm] <;> rfl) | rfl | (simp only [List.length_drop, List.length_take]; rfl)) ?_; (with_reducible refine (impl_Crc.calls _ _ y193 t195 _ ?side1 ?side2 A59.out).mono ?_); (case side1 => repeat (first | exact (Kd.R_reads' HO189.out).2.2 | (with_reducible refine Kd.C_alloc ?_ _) | (with_reducible refine Kd.C_drewN ?_ _) | (with_reducible refine Kd.C_drew ?_))); (case side2 => rw [show y193.length = y187.length from (Kd.R_reads' HO189.out).1.symm]; exact (Kd.R_reads' HO189.out).2.1); rintro e w81 ⟨rfl, hb⟩; refine ⟨_, rfl, ?_⟩; have n0_ := Aside0.mk (Kd.V_below (by (with_reducible repeat (first | apply Kd.V_alloc | apply Kd.V_drewN | apply Kd.V_drew)); exact HO182.out) hb); have n1_ := Aside0.mk (Kd.R_below (by (with_reducible repeat (first | apply Kd.R_alloc | apply Kd.R_drewN | apply Kd.R_drew)); exact HO189.out) hb); have n2_ := Aside0.mk (blk_below (g := gb179) (o := .cells #[.bool t177, .int .i64 t178] 28 (0, 0)) (by (with_reducible repeat (first | refine blk_drewN ?_ _ | refine blk_drew ?_ | refine blk_alloc ?_ _)); exact BK179.out) hb); have n3_ := Aside0.mk (below_step (by repeat (first | (with_reducible first | exact HB.out | apply below_alloc | apply pw_below_drewN | apply below_drew1 | refine below_set ?_ GE179.out) | exact HB.out)) hb); clear HO182; clear HO189; clear BK179; clear HB; have HO182 := n0_; have HO189 := n1_; have BK179 := n2_; have HB := n3_; clear n0_ n1_ n2_ n3_; (try clear hb); (try clear hb2); (try clear hk); (try clear hi)) | ((with_reducible refine gate_dst (N := 112) rfl ?_); (try (refine gate_guard (by rfl) ?_; dsimp only)); refine Kd.R_lit (Kd.int .u8) _ 5 ?hg (N := 112) ?hd (xs := ([49, 50, 51, 52, 53, 54, 55, 56, 57] : List Int)) (inner := [.int .u8 49, .int .u8 50, .int .u8 51, .int .u8 52, .int .u8 53, .int .u8 54, .int .u8 55, .int .u8 56, .int .u8 57]) (ok := fun _ => True) (okp := fun _ => True) ?hr ?hp (fun _ hk => hk) trivial (Below.refl _ _) (Nat.le_refl _) (by simp) ?_; (case hd => rfl); (case hg => rfl); (case hr => first | (go_simp; done) | (go_simp; rfl)); (case hp => exact (Reps.one (show Kd.M (Kd.int .u8) _ _ _ 49 [.int .u8 49] from rfl) (Reps.one (show Kd.M (Kd.int .u8) _ _ _ 50 [.int .u8 50] from rfl) (Reps.one (show Kd.M (Kd.int .u8) _ _ _ 51 [.int .u8 51] from rfl) (Reps.one (show Kd.M (Kd.int .u8) _ _ _ 52 [.int .u8 52] from rfl) (Reps.one (show Kd.M (Kd.int .u8) _ _ _ 53 [.int .u8 53] from rfl) (Reps.one (show Kd.M (Kd.int .u8) _ _ _ 54 [.int .u8 54] from rfl) (Reps.one (show Kd.M (Kd.int .u8) _ _ _ 55 [.int .u8 55] from rfl) (Reps.one (show Kd.M (Kd.int .u8) _ _ _ 56 [.int .u8 56] from rfl) (Reps.one (show Kd.M (Kd.int .u8) _ _ _ 57 [.int .u8 57] from rfl) (Reps.none _ _))))))))))); intro v197 w82 ho83 hb hg_ hnew_; clear hg_ hnew_; (first | rw [← Ny196.out] at ho83 | (simp only [Int.reduceToNat] at ho83; rw [← Ny196.out] at ho83)); have n0_ := Aside0.mk (Kd.V_elder' (by (with_reducible repeat (first | apply Kd.V_alloc | apply Kd.V_drewN | apply Kd.V_drew)); exact HO182.out) (Kd.R_base ho83) hb); have n1_ := Aside0.mk (Kd.R_elder' (by (with_reducible repeat (first | apply Kd.R_alloc | apply Kd.R_drewN | apply Kd.R_drew)); exact HO189.out) (Kd.R_base ho83) hb); have n2_ := Aside0.mk (Kd.R_lower (Kd.R_new' ho83 (Kd.R_lt (by (with_reducible repeat (first | apply Kd.R_alloc | apply Kd.R_drewN | apply Kd.R_drew)); exact HO189.out))) (below_size (by repeat (first | (with_reducible first | exact HB.out | apply below_alloc | apply pw_below_drewN | apply below_drew1 | refine below_set ?_ GE179.out) | exact HB.out)))); have n3_ := Aside0.mk (blk_below (g := gb179) (o := .cells #[.bool t177, .int .i64 t178] 28 (0, 0)) (by (with_reducible repeat (first | refine blk_drewN ?_ _ | refine blk_drew ?_ | refine blk_alloc ?_ _)); exact BK179.out) hb); have n4_ := Aside0.mk (below_step (by repeat (first | (with_reducible first | exact HB.out | apply below_alloc | apply pw_below_drewN | apply below_drew1 | refine below_set ?_ GE179.out) | exact HB.out)) hb); clear HO182; clear HO189; clear BK179; clear HB; have HO182 := n0_; have HO189 := n1_; have HO198 := n2_; have BK179 := n3_; have HB := n4_; clear n0_ n1_ n2_ n3_ n4_; clear hb ho83; obtain ⟨Ao84, co84, eo84⟩ := Kd.R_slice HO198.out; subst eo84) | ((with_reducible refine gate_dst (N := 113) rfl ?_); (try (refine gate_guard (by rfl) ?_; dsimp only)); refine wpList_mark rfl 22 5 (.tmp 112) rfl Try.underlying22 Try.underlying5 rfl (by (with_reducible repeat (first | apply Kd.R_alloc | apply Kd.R_drewN | apply Kd.R_drew)); exact HO198.out) (by rw [Ny196.out]; decide) ?_; intro wM hV hg; have n0_ := Aside0.mk hV; have n1_ := Aside0.mk (pw_below_grown (by repeat (first | (with_reducible first | exact HB.out | apply below_alloc | apply pw_below_drewN | apply below_drew1 | refine below_set ?_ GE179.out) | exact HB.out)) _ (below_size (by repeat (first | (with_reducible first | exact HB.out | apply below_alloc | apply pw_below_drewN | apply below_drew1 | refine below_set ?_ GE179.out) | exact HB.out))) hg (Kd.R_base HO198.out)); clear HB HO198 hV hg; have HO198 := n0_; have HB := n1_; clear n0_ n1_) | (go_at_call 9; (with_reducible refine (impl_Crc.calls _ _ y196 t199 _ ?side1 ?side2 A71.out).mono ?_); (case side1 => repeat (first | exact (Kd.V_reads' HO198.out).2.2 | (with_reducible refine Kd.C_alloc ?_ _) | (with_reducible refine Kd.C_drewN ?_ _) | (with_reducible refine Kd.C_drew ?_))); (case side2 => exact (Kd.V_reads' HO198.out).2.1); rintro e w85 ⟨rfl, hb⟩; have n0_ := Aside0.mk (below_step (by repeat (first | (with_reducible first | exact HB.out | apply below_alloc | apply pw_below_drewN | apply below_drew1 | refine below_set ?_ GE179.out) | exact HB.out)) hb); clear HB; have HB := n0_; clear n0_; (try clear hb); (try clear hb2); (try clear hk); (try clear hi)))
                                    go_ret
                                    exact ⟨by first | rfl | (simp [errW_none, errW_some] <;> rfl) | (simp only [← hji54, ← hji56]; first | rfl | (simp [errW_none, errW_some] <;> rfl)) | (simp [*, errW_none, errW_some] <;> rfl), by repeat (first | (with_reducible first | exact HB.out | apply below_alloc | apply pw_below_drewN | apply below_drew1 | refine below_set ?_ GE179.out) | exact HB.out)⟩
                                · rw [if_neg c55] at H
                                  exact absurd H (by simp)
                              · rw [if_neg c52] at H
                                exact absurd H (by simp)
                            · rw [if_neg c51] at H
                              exact absurd H (by simp)
                          · rw [if_neg c49] at H
                            exact absurd H (by simp)
                · rw [if_neg c15] at H
                  exact absurd H (by simp)
              · rw [if_neg c14] at H
                exact absurd H (by simp)
            · rw [if_neg c13] at H
              exact absurd H (by simp)
          · rw [if_neg c12] at H
            exact absurd H (by simp)

/-- THE ONE PURE STATEMENT of laws_FnNumbers: yours. -/
def laws_FnNumbers.Pure : Prop := ∀ (l0 : List Int), l0.length ≤ maxLen → l0.length * 1 ≤ 140737488351232 → (∀ x ∈ l0, (Lit.int .u8 x).wf = true) → ∃ k, laws_FnNumbers.f k l0 = some true
theorem laws_FnNumbers.walk (P : laws_FnNumbers.Pure) (a0 : Option Addr) (len0 cap0 : Nat) (z0 : List Int) (w : World) (w0 : (a0 = none ∧ len0 = 0 ∧ cap0 = 0 ∧ z0 = []) ∨ ∃ x, a0 = some x ∧ len0 ≤ cap0 ∧ cap0 ≤ maxLen ∧ z0.length = cap0 ∧ (∀ i, i < z0.length → w.cell? (x.add i) = some (.int .u8 (z0.getD i 0))) ∧ ∀ n ∈ z0, (Lit.int .u8 n).wf = true) (y0 : len0 * 1 ≤ 140737488351232) :
    Calls Try.prog 3 #[.slice a0 len0 cap0] w fun e w' => e = .returned (.bool true) ∧ Below w.heap.size w w' := by
  obtain ⟨l0, rfl, hr0, hm0, hw0, hc0⟩ := ReadsInt.ofRowC w0
  obtain ⟨k, h⟩ := P l0 hm0 y0 hw0
  refine (laws_FnNumbers.calls k _ _ l0 true w (Kd.C_of_reads (d := (0 : Int)) (h1 := fun _ => rfl) hr0) hc0 h).mono ?_
  rintro e w' ⟨rfl, hd⟩
  exact ⟨rfl, hd⟩

end Go.Proofs.Ytfhlicffjpiobab.M
