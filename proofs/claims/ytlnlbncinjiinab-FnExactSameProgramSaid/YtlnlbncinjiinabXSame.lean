/- Of this session: contracts over the words of the kit's print. -/
import Derived.Test.YtlnlbncinjiinabProg
import Derived.Below
import Derived.Deep.Draws
import Derived.Deep.AppendLies
import Derived.Maps.AppendAt
import Derived.OwnWalk
import Derived.Laws.BytesArg
import Derived.Laws.MakeOwn
import Derived.Laws.OwnMore
import Derived.Deep.OwnRows
import Derived.Tactics
import Derived.Lib.ConvBytes
import Derived.Laws.Slices
import Derived.WalkKit
import Derived.KernelRfl
import Derived.RowKit3
import Derived.Deep.LoopGhost
import Derived.Deep.QuietTactic
import Derived.BigQuiet
import Derived.WideLaws
import Derived.Deep.DeepCutAuto
import Derived.Deep.CutBlock
import Derived.Deep.RegionHeld3
import Derived.Laws.Rows
import Derived.Lib.AppendStr
import Derived.ArgAppend
import Derived.Laws.IdiomCopy
import Derived.OrdersHeld
import Derived.Laws.BitsLemmas
import Derived.RowKit
import Derived.StillTailTactics
import Derived.Test.YtlnlbncinjiinabWWords
import Derived.Test.YtlnlbncinjiinabWLast
import Derived.Test.YtlnlbncinjiinabWTab
import Derived.Test.YtlnlbncinjiinabWFour
import Derived.Test.YtlnlbncinjiinabWQPut
import Derived.Test.YtlnlbncinjiinabWApart
import Derived.Test.YtlnlbncinjiinabWArr
import Derived.Test.YtlnlbncinjiinabWZeros
import Derived.Test.YtlnlbncinjiinabWFoot
import Derived.Test.YtlnlbncinjiinabWKept
import Derived.Test.YtlnlbncinjiinabWShare
import Derived.Test.YtlnlbncinjiinabWN
import Derived.Test.YtlnlbncinjiinabWFootNe
import Derived.Test.YtlnlbncinjiinabWAt
import Derived.Test.YtlnlbncinjiinabWEqStruct
import Derived.Test.YtlnlbncinjiinabWRepsOne
import Derived.Test.YtlnlbncinjiinabWInv
import Derived.Test.YtlnlbncinjiinabWInvWords
import Derived.Test.YtlnlbncinjiinabWGuard
import Derived.Test.YtlnlbncinjiinabWNEv
import Derived.Test.YtlnlbncinjiinabWMore
import Derived.ChangeArms
import Derived.Test.YtlnlbncinjiinabX0
namespace Go.Proofs.Ytlnlbncinjiinab.X
open Go.RowKit Go.Proofs.YtlnlbncinjiinabW.PrintWords Go.Proofs.YtlnlbncinjiinabW.PrintLast Go.Proofs.YtlnlbncinjiinabW.PrintMore
set_option linter.unusedVariables false
set_option linter.unusedSimpArgs false
theorem eqAConst (d : Nat) (w : World) (x y : MConst) :
    (Op.equalIn (d + 2) 81 (.agg #[.int .i64 x.ty, .int .u32 x.word]) (.agg #[.int .i64 y.ty, .int .u32 y.word])).run Try.prog w = .ok (eqT x y) w := by
  have h : eqT x y = (x.ty == y.ty && (x.word == y.word)) := by
    rw [Bool.eq_iff_iff, eqT_iff]
    simp only [Bool.and_eq_true, beq_iff_eq]
    exact ⟨fun h => by subst h; simp, fun h => by obtain ⟨h0, h1⟩ := h; exact MConst_ext h0 h1⟩
  rw [h]
  refine eqA_of Try.underlying81 (by kernel_rfl) ?_
  refine eqf_cons (by rfl) (by go_simp; rfl) (by go_simp; rfl) (by go_simp) ?_
  exact eqf_last (by rfl) (by go_simp; rfl) (by go_simp; rfl) (by go_simp)
attribute [local go_sem high] eqAConst

theorem eqAInstr (d : Nat) (w : World) (x y : MInstr) :
    (Op.equalIn (d + 2) 97 (.agg #[.int .i64 x.op, .int .i64 x.a, .int .i64 x.b, .int .i64 x.c]) (.agg #[.int .i64 y.op, .int .i64 y.a, .int .i64 y.b, .int .i64 y.c])).run Try.prog w = .ok (eqT x y) w := by
  have h : eqT x y = (x.op == y.op && (x.a == y.a && (x.b == y.b && (x.c == y.c)))) := by
    rw [Bool.eq_iff_iff, eqT_iff]
    simp only [Bool.and_eq_true, beq_iff_eq]
    exact ⟨fun h => by subst h; simp, fun h => by obtain ⟨h0, h1, h2, h3⟩ := h; exact MInstr_ext h0 h1 h2 h3⟩
  rw [h]
  refine eqA_of Try.underlying97 (by kernel_rfl) ?_
  refine eqf_cons (by rfl) (by go_simp; rfl) (by go_simp; rfl) (by go_simp) ?_
  refine eqf_cons (by rfl) (by go_simp; rfl) (by go_simp; rfl) (by go_simp) ?_
  refine eqf_cons (by rfl) (by go_simp; rfl) (by go_simp; rfl) (by go_simp) ?_
  exact eqf_last (by rfl) (by go_simp; rfl) (by go_simp; rfl) (by go_simp)
attribute [local go_sem high] eqAInstr

theorem eqACert (d : Nat) (w : World) (x y : MCert) :
    (Op.equalIn (d + 2) 87 (.agg #[.int .i64 x.func, .int .i64 x.head, .int .i64 x.counter, .int .u32 x.init]) (.agg #[.int .i64 y.func, .int .i64 y.head, .int .i64 y.counter, .int .u32 y.init])).run Try.prog w = .ok (eqT x y) w := by
  have h : eqT x y = (x.func == y.func && (x.head == y.head && (x.counter == y.counter && (x.init == y.init)))) := by
    rw [Bool.eq_iff_iff, eqT_iff]
    simp only [Bool.and_eq_true, beq_iff_eq]
    exact ⟨fun h => by subst h; simp, fun h => by obtain ⟨h0, h1, h2, h3⟩ := h; exact MCert_ext h0 h1 h2 h3⟩
  rw [h]
  refine eqA_of Try.underlying87 (by kernel_rfl) ?_
  refine eqf_cons (by rfl) (by go_simp; rfl) (by go_simp; rfl) (by go_simp) ?_
  refine eqf_cons (by rfl) (by go_simp; rfl) (by go_simp; rfl) (by go_simp) ?_
  refine eqf_cons (by rfl) (by go_simp; rfl) (by go_simp; rfl) (by go_simp) ?_
  exact eqf_last (by rfl) (by go_simp; rfl) (by go_simp; rfl) (by go_simp)
attribute [local go_sem high] eqACert

theorem cell_eqw {w w3 : World} {n : Nat} {a : Addr} {v : Value} (h : w3 = w.drewN n) (hc : w.cell? a = some v) : w3.cell? a = some v := by rw [h]; exact hc

set_option maxHeartbeats 1000000 in
set_option maxRecDepth 100000 in
theorem l3Same_calls (A0 : Option Addr) (c0 : Nat) (l0 : List Int) (A1 : Option Addr) (c1 : Nat) (l1 : List Int) (w : World) (hr0 : Kd.C (Kd.int .i64) w A0 l0.length l0) (hr1 : Kd.C (Kd.int .i64) w A1 l1.length l1) :
    Calls Try.prog 40 #[.slice A0 l0.length c0, .slice A1 l1.length c1] w fun e w' => e = .returned (.bool (eqT l0 l1)) ∧ ∃ m, w' = w.drewN m := by
  have hm : l0.length ≤ 9223372036854775807 := hr0.2.1
  have HR0 := Aside0.mk hr0; have HR1 := Aside0.mk hr1
  clear hr0 hr1
  by_cases hl : l0.length = l1.length
  · have b0 : ((l0.length : Int) != (l1.length : Int)) = false := by simp [hl]
    have HL := Aside0.mk hl
    clear hl
    go_enter Try.func40, Try.ntmps40
    go_wp2
    go_loopw [5] (fun v wr => ∃ i : Int, 0 ≤ i ∧ i ≤ l0.length ∧ v = .int .i64 i ∧ Aside0 (∀ j : Nat, (j : Int) < i → l0.getD j 0 = l1.getD j 0) ∧ Drawn0 w wr) (fun v _ => ((l0.length : Int) - intOf v).toNat)
    case atStart => exact ⟨0, by omega, by omega, rfl, ⟨fun j h => by omega⟩, Drawn0.refl _⟩
    case round =>
      obtain ⟨i, h0, hi, rfl, HP, ⟨⟨m1, rfl⟩⟩⟩ := hrel
      by_cases hlt : i < l0.length
      · have hlt1 : i < l1.length := by have := HL.out; omega
        obtain ⟨ad0, e0, x0⟩ := Kd.at_int HR0.out i h0 hlt
        cases e0
        obtain ⟨ad1, e1, x1⟩ := Kd.at_int HR1.out i h0 hlt1
        cases e1
        by_cases h : rd l0 i = rd l1 i
        · have t0 : (rd l0 i != rd l1 i) = false := by simp [h]
          have HE := Aside0.mk h
          clear h
          go_wp2
          repeat (go_quiet (fail); try go_wp2)
          go_roundw
          case rel => exact ⟨i + 1, by omega, by omega, rfl, ⟨fun j hj => by
            by_cases h1 : (j : Int) < i
            · exact HP.out j h1
            · obtain rfl : i = (j : Int) := by omega
              exact HE.out⟩, by repeat (first | exact Drawn0.refl _ | apply Drawn0.step)⟩
          case measure => simp [intOf]; omega
        · have t0 : (rd l0 i != rd l1 i) = true := by simp [h]
          have HE : Aside0 (eqT l0 l1 = false) := ⟨eqT_false (fun e => h (by rw [e]))⟩
          clear h
          go_wp2
          repeat (go_quiet (fail); try go_wp2)
          go_ret
          exact ⟨by rw [HE.out]; rfl, (show Drawn0 w _ from by repeat (first | exact Drawn0.refl _ | apply Drawn0.step)).out⟩
      · have HE : Aside0 (eqT l0 l1 = true) := ⟨eqT_true (ext_getD 0 HL.out (fun j hj => HP.out j (by omega)))⟩
        go_wp2
        go_ret
        exact ⟨by rw [HE.out]; rfl, (show Drawn0 w _ from by repeat (first | exact Drawn0.refl _ | apply Drawn0.step)).out⟩
  · have b0 : ((l0.length : Int) != (l1.length : Int)) = true := by simp; omega
    have HE : Aside0 (eqT l0 l1 = false) := ⟨eqT_false (fun e => hl (by rw [e]))⟩
    go_enter Try.func40, Try.ntmps40
    go_wp2
    go_ret
    exact ⟨by rw [HE.out]; rfl, (show Drawn0 w _ from by repeat (first | exact Drawn0.refl _ | apply Drawn0.step)).out⟩
theorem l3Same_at (w0 : World) (A0 : Option Addr) (c0 : Nat) (l0 : List Int) (A1 : Option Addr) (c1 : Nat) (l1 : List Int) (w : World) (hr0 : Kd.C (Kd.int .i64) w0 A0 l0.length l0) (hr1 : Kd.C (Kd.int .i64) w0 A1 l1.length l1) (hb : Below w0.heap.size w0 w := by exact bel) :
    Calls Try.prog 40 #[.slice A0 l0.length c0, .slice A1 l1.length c1] w fun e w' => e = .returned (.bool (eqT l0 l1)) ∧ Below w.heap.size w w' := (l3Same_calls A0 c0 l0 A1 c1 l1 w (Kd.C_below hr0 hb) (Kd.C_below hr1 hb)).mono fun e w' ⟨h, m, h2⟩ => ⟨h, by rw [h2]; exact pw_below_drewN (Below.refl _ _) m⟩

set_option maxHeartbeats 1000000 in
set_option maxRecDepth 100000 in
theorem slInt64_calls (A0 : Option Addr) (c0 : Nat) (l0 : List Int) (A1 : Option Addr) (c1 : Nat) (l1 : List Int) (w : World) (hr0 : Kd.C (Kd.int .i64) w A0 l0.length l0) (hr1 : Kd.C (Kd.int .i64) w A1 l1.length l1) :
    Calls Try.prog 48 #[.slice A0 l0.length c0, .slice A1 l1.length c1] w fun e w' => e = .returned (.bool (eqT l0 l1)) ∧ ∃ m, w' = w.drewN m := by
  have hm : l0.length ≤ 9223372036854775807 := hr0.2.1
  have HR0 := Aside0.mk hr0; have HR1 := Aside0.mk hr1
  clear hr0 hr1
  by_cases hl : l0.length = l1.length
  · have b0 : ((l0.length : Int) != (l1.length : Int)) = false := by simp [hl]
    have HL := Aside0.mk hl
    clear hl
    go_enter Try.func48, Try.ntmps48
    go_wp2
    go_loopw [13] (fun v wr => ∃ i : Int, 0 ≤ i ∧ i ≤ l0.length ∧ v = .int .i64 i ∧ Aside0 (∀ j : Nat, (j : Int) < i → l0.getD j 0 = l1.getD j 0) ∧ Drawn0 w wr) (fun v _ => ((l0.length : Int) - intOf v).toNat)
    case atStart => exact ⟨0, by omega, by omega, rfl, ⟨fun j h => by omega⟩, Drawn0.refl _⟩
    case round =>
      obtain ⟨i, h0, hi, rfl, HP, ⟨⟨m1, rfl⟩⟩⟩ := hrel
      by_cases hlt : i < l0.length
      · have hlt1 : i < l1.length := by have := HL.out; omega
        obtain ⟨ad0, e0, x0⟩ := Kd.at_int HR0.out i h0 hlt
        cases e0
        obtain ⟨ad1, e1, x1⟩ := Kd.at_int HR1.out i h0 hlt1
        cases e1
        by_cases h : rd l0 i = rd l1 i
        · have t0 : (rd l0 i != rd l1 i) = false := by simp [h]
          have HE := Aside0.mk h
          clear h
          go_wp2
          repeat (go_quiet (fail); try go_wp2)
          go_roundw
          case rel => exact ⟨i + 1, by omega, by omega, rfl, ⟨fun j hj => by
            by_cases h1 : (j : Int) < i
            · exact HP.out j h1
            · obtain rfl : i = (j : Int) := by omega
              exact HE.out⟩, by repeat (first | exact Drawn0.refl _ | apply Drawn0.step)⟩
          case measure => simp [intOf]; omega
        · have t0 : (rd l0 i != rd l1 i) = true := by simp [h]
          have HE : Aside0 (eqT l0 l1 = false) := ⟨eqT_false (fun e => h (by rw [e]))⟩
          clear h
          go_wp2
          repeat (go_quiet (fail); try go_wp2)
          go_ret
          exact ⟨by rw [HE.out]; rfl, (show Drawn0 w _ from by repeat (first | exact Drawn0.refl _ | apply Drawn0.step)).out⟩
      · have HE : Aside0 (eqT l0 l1 = true) := ⟨eqT_true (ext_getD 0 HL.out (fun j hj => HP.out j (by omega)))⟩
        go_wp2
        go_ret
        exact ⟨by rw [HE.out]; rfl, (show Drawn0 w _ from by repeat (first | exact Drawn0.refl _ | apply Drawn0.step)).out⟩
  · have b0 : ((l0.length : Int) != (l1.length : Int)) = true := by simp; omega
    have HE : Aside0 (eqT l0 l1 = false) := ⟨eqT_false (fun e => hl (by rw [e]))⟩
    go_enter Try.func48, Try.ntmps48
    go_wp2
    go_ret
    exact ⟨by rw [HE.out]; rfl, (show Drawn0 w _ from by repeat (first | exact Drawn0.refl _ | apply Drawn0.step)).out⟩
theorem slInt64_at (w0 : World) (A0 : Option Addr) (c0 : Nat) (l0 : List Int) (A1 : Option Addr) (c1 : Nat) (l1 : List Int) (w : World) (hr0 : Kd.C (Kd.int .i64) w0 A0 l0.length l0) (hr1 : Kd.C (Kd.int .i64) w0 A1 l1.length l1) (hb : Below w0.heap.size w0 w := by exact bel) :
    Calls Try.prog 48 #[.slice A0 l0.length c0, .slice A1 l1.length c1] w fun e w' => e = .returned (.bool (eqT l0 l1)) ∧ Below w.heap.size w w' := (slInt64_calls A0 c0 l0 A1 c1 l1 w (Kd.C_below hr0 hb) (Kd.C_below hr1 hb)).mono fun e w' ⟨h, m, h2⟩ => ⟨h, by rw [h2]; exact pw_below_drewN (Below.refl _ _) m⟩

set_option maxHeartbeats 1000000 in
set_option maxRecDepth 100000 in
theorem slConst_calls (A0 : Option Addr) (c0 : Nat) (l0 : List MConst) (A1 : Option Addr) (c1 : Nat) (l1 : List MConst) (w : World) (hr0 : Kd.C kConst_I w A0 l0.length l0) (hr1 : Kd.C kConst_I w A1 l1.length l1) :
    Calls Try.prog 46 #[.slice A0 l0.length c0, .slice A1 l1.length c1] w fun e w' => e = .returned (.bool (eqT l0 l1)) ∧ ∃ m, w' = w.drewN m := by
  have hm : l0.length ≤ 9223372036854775807 := hr0.2.1
  have HR0 := Aside0.mk hr0; have HR1 := Aside0.mk hr1
  clear hr0 hr1
  by_cases hl : l0.length = l1.length
  · have b0 : ((l0.length : Int) != (l1.length : Int)) = false := by simp [hl]
    have HL := Aside0.mk hl
    clear hl
    go_enter Try.func46, Try.ntmps46
    go_wp2
    go_loopw [13] (fun v wr => ∃ i : Int, 0 ≤ i ∧ i ≤ l0.length ∧ v = .int .i64 i ∧ Aside0 (∀ j : Nat, (j : Int) < i → l0.getD j zConst = l1.getD j zConst) ∧ Drawn0 w wr) (fun v _ => ((l0.length : Int) - intOf v).toNat)
    case atStart => exact ⟨0, by omega, by omega, rfl, ⟨fun j h => by omega⟩, Drawn0.refl _⟩
    case round =>
      obtain ⟨i, h0, hi, rfl, HP, ⟨⟨m1, rfl⟩⟩⟩ := hrel
      by_cases hlt : i < l0.length
      · have hlt1 : i < l1.length := by have := HL.out; omega
        obtain ⟨ad0, e0, x00, x01⟩ := atConst_I HR0.out i h0 hlt
        cases e0
        obtain ⟨ad1, e1, x10, x11⟩ := atConst_I HR1.out i h0 hlt1
        cases e1
        by_cases h : rdConst l0 i = rdConst l1 i
        · have t0 : eqT (rdConst l0 i) (rdConst l1 i) = true := eqT_true h
          have HE := Aside0.mk h
          clear h
          go_wp2
          repeat (go_quiet (fail); try go_wp2)
          go_roundw
          case rel => exact ⟨i + 1, by omega, by omega, rfl, ⟨fun j hj => by
            by_cases h1 : (j : Int) < i
            · exact HP.out j h1
            · obtain rfl : i = (j : Int) := by omega
              exact HE.out⟩, by repeat (first | exact Drawn0.refl _ | apply Drawn0.step)⟩
          case measure => simp [intOf]; omega
        · have t0 : eqT (rdConst l0 i) (rdConst l1 i) = false := eqT_false h
          have HE : Aside0 (eqT l0 l1 = false) := ⟨eqT_false (fun e => h (by rw [e]))⟩
          clear h
          go_wp2
          repeat (go_quiet (fail); try go_wp2)
          go_ret
          exact ⟨by rw [HE.out]; rfl, (show Drawn0 w _ from by repeat (first | exact Drawn0.refl _ | apply Drawn0.step)).out⟩
      · have HE : Aside0 (eqT l0 l1 = true) := ⟨eqT_true (ext_getD zConst HL.out (fun j hj => HP.out j (by omega)))⟩
        go_wp2
        go_ret
        exact ⟨by rw [HE.out]; rfl, (show Drawn0 w _ from by repeat (first | exact Drawn0.refl _ | apply Drawn0.step)).out⟩
  · have b0 : ((l0.length : Int) != (l1.length : Int)) = true := by simp; omega
    have HE : Aside0 (eqT l0 l1 = false) := ⟨eqT_false (fun e => hl (by rw [e]))⟩
    go_enter Try.func46, Try.ntmps46
    go_wp2
    go_ret
    exact ⟨by rw [HE.out]; rfl, (show Drawn0 w _ from by repeat (first | exact Drawn0.refl _ | apply Drawn0.step)).out⟩
theorem slConst_at (w0 : World) (A0 : Option Addr) (c0 : Nat) (l0 : List MConst) (A1 : Option Addr) (c1 : Nat) (l1 : List MConst) (w : World) (hr0 : Kd.C kConst_I w0 A0 l0.length l0) (hr1 : Kd.C kConst_I w0 A1 l1.length l1) (hb : Below w0.heap.size w0 w := by exact bel) :
    Calls Try.prog 46 #[.slice A0 l0.length c0, .slice A1 l1.length c1] w fun e w' => e = .returned (.bool (eqT l0 l1)) ∧ Below w.heap.size w w' := (slConst_calls A0 c0 l0 A1 c1 l1 w (Kd.C_below hr0 hb) (Kd.C_below hr1 hb)).mono fun e w' ⟨h, m, h2⟩ => ⟨h, by rw [h2]; exact pw_below_drewN (Below.refl _ _) m⟩

set_option maxHeartbeats 1000000 in
set_option maxRecDepth 100000 in
theorem slInstr_calls (A0 : Option Addr) (c0 : Nat) (l0 : List MInstr) (A1 : Option Addr) (c1 : Nat) (l1 : List MInstr) (w : World) (hr0 : Kd.C kInstr_I w A0 l0.length l0) (hr1 : Kd.C kInstr_I w A1 l1.length l1) :
    Calls Try.prog 49 #[.slice A0 l0.length c0, .slice A1 l1.length c1] w fun e w' => e = .returned (.bool (eqT l0 l1)) ∧ ∃ m, w' = w.drewN m := by
  have hm : l0.length ≤ 9223372036854775807 := hr0.2.1
  have HR0 := Aside0.mk hr0; have HR1 := Aside0.mk hr1
  clear hr0 hr1
  by_cases hl : l0.length = l1.length
  · have b0 : ((l0.length : Int) != (l1.length : Int)) = false := by simp [hl]
    have HL := Aside0.mk hl
    clear hl
    go_enter Try.func49, Try.ntmps49
    go_wp2
    go_loopw [13] (fun v wr => ∃ i : Int, 0 ≤ i ∧ i ≤ l0.length ∧ v = .int .i64 i ∧ Aside0 (∀ j : Nat, (j : Int) < i → l0.getD j zInstr = l1.getD j zInstr) ∧ Drawn0 w wr) (fun v _ => ((l0.length : Int) - intOf v).toNat)
    case atStart => exact ⟨0, by omega, by omega, rfl, ⟨fun j h => by omega⟩, Drawn0.refl _⟩
    case round =>
      obtain ⟨i, h0, hi, rfl, HP, ⟨⟨m1, rfl⟩⟩⟩ := hrel
      by_cases hlt : i < l0.length
      · have hlt1 : i < l1.length := by have := HL.out; omega
        obtain ⟨ad0, e0, x00, x01, x02, x03⟩ := atInstr_I HR0.out i h0 hlt
        cases e0
        obtain ⟨ad1, e1, x10, x11, x12, x13⟩ := atInstr_I HR1.out i h0 hlt1
        cases e1
        by_cases h : rdInstr l0 i = rdInstr l1 i
        · have t0 : eqT (rdInstr l0 i) (rdInstr l1 i) = true := eqT_true h
          have HE := Aside0.mk h
          clear h
          go_wp2
          repeat (go_quiet (fail); try go_wp2)
          go_roundw
          case rel => exact ⟨i + 1, by omega, by omega, rfl, ⟨fun j hj => by
            by_cases h1 : (j : Int) < i
            · exact HP.out j h1
            · obtain rfl : i = (j : Int) := by omega
              exact HE.out⟩, by repeat (first | exact Drawn0.refl _ | apply Drawn0.step)⟩
          case measure => simp [intOf]; omega
        · have t0 : eqT (rdInstr l0 i) (rdInstr l1 i) = false := eqT_false h
          have HE : Aside0 (eqT l0 l1 = false) := ⟨eqT_false (fun e => h (by rw [e]))⟩
          clear h
          go_wp2
          repeat (go_quiet (fail); try go_wp2)
          go_ret
          exact ⟨by rw [HE.out]; rfl, (show Drawn0 w _ from by repeat (first | exact Drawn0.refl _ | apply Drawn0.step)).out⟩
      · have HE : Aside0 (eqT l0 l1 = true) := ⟨eqT_true (ext_getD zInstr HL.out (fun j hj => HP.out j (by omega)))⟩
        go_wp2
        go_ret
        exact ⟨by rw [HE.out]; rfl, (show Drawn0 w _ from by repeat (first | exact Drawn0.refl _ | apply Drawn0.step)).out⟩
  · have b0 : ((l0.length : Int) != (l1.length : Int)) = true := by simp; omega
    have HE : Aside0 (eqT l0 l1 = false) := ⟨eqT_false (fun e => hl (by rw [e]))⟩
    go_enter Try.func49, Try.ntmps49
    go_wp2
    go_ret
    exact ⟨by rw [HE.out]; rfl, (show Drawn0 w _ from by repeat (first | exact Drawn0.refl _ | apply Drawn0.step)).out⟩
theorem slInstr_at (w0 : World) (A0 : Option Addr) (c0 : Nat) (l0 : List MInstr) (A1 : Option Addr) (c1 : Nat) (l1 : List MInstr) (w : World) (hr0 : Kd.C kInstr_I w0 A0 l0.length l0) (hr1 : Kd.C kInstr_I w0 A1 l1.length l1) (hb : Below w0.heap.size w0 w := by exact bel) :
    Calls Try.prog 49 #[.slice A0 l0.length c0, .slice A1 l1.length c1] w fun e w' => e = .returned (.bool (eqT l0 l1)) ∧ Below w.heap.size w w' := (slInstr_calls A0 c0 l0 A1 c1 l1 w (Kd.C_below hr0 hb) (Kd.C_below hr1 hb)).mono fun e w' ⟨h, m, h2⟩ => ⟨h, by rw [h2]; exact pw_below_drewN (Below.refl _ _) m⟩

set_option maxHeartbeats 1000000 in
set_option maxRecDepth 100000 in
theorem slCert_calls (A0 : Option Addr) (c0 : Nat) (l0 : List MCert) (A1 : Option Addr) (c1 : Nat) (l1 : List MCert) (w : World) (hr0 : Kd.C kCert_I w A0 l0.length l0) (hr1 : Kd.C kCert_I w A1 l1.length l1) :
    Calls Try.prog 47 #[.slice A0 l0.length c0, .slice A1 l1.length c1] w fun e w' => e = .returned (.bool (eqT l0 l1)) ∧ ∃ m, w' = w.drewN m := by
  have hm : l0.length ≤ 9223372036854775807 := hr0.2.1
  have HR0 := Aside0.mk hr0; have HR1 := Aside0.mk hr1
  clear hr0 hr1
  by_cases hl : l0.length = l1.length
  · have b0 : ((l0.length : Int) != (l1.length : Int)) = false := by simp [hl]
    have HL := Aside0.mk hl
    clear hl
    go_enter Try.func47, Try.ntmps47
    go_wp2
    go_loopw [13] (fun v wr => ∃ i : Int, 0 ≤ i ∧ i ≤ l0.length ∧ v = .int .i64 i ∧ Aside0 (∀ j : Nat, (j : Int) < i → l0.getD j zCert = l1.getD j zCert) ∧ Drawn0 w wr) (fun v _ => ((l0.length : Int) - intOf v).toNat)
    case atStart => exact ⟨0, by omega, by omega, rfl, ⟨fun j h => by omega⟩, Drawn0.refl _⟩
    case round =>
      obtain ⟨i, h0, hi, rfl, HP, ⟨⟨m1, rfl⟩⟩⟩ := hrel
      by_cases hlt : i < l0.length
      · have hlt1 : i < l1.length := by have := HL.out; omega
        obtain ⟨ad0, e0, x00, x01, x02, x03⟩ := atCert_I HR0.out i h0 hlt
        cases e0
        obtain ⟨ad1, e1, x10, x11, x12, x13⟩ := atCert_I HR1.out i h0 hlt1
        cases e1
        by_cases h : rdCert l0 i = rdCert l1 i
        · have t0 : eqT (rdCert l0 i) (rdCert l1 i) = true := eqT_true h
          have HE := Aside0.mk h
          clear h
          go_wp2
          repeat (go_quiet (fail); try go_wp2)
          go_roundw
          case rel => exact ⟨i + 1, by omega, by omega, rfl, ⟨fun j hj => by
            by_cases h1 : (j : Int) < i
            · exact HP.out j h1
            · obtain rfl : i = (j : Int) := by omega
              exact HE.out⟩, by repeat (first | exact Drawn0.refl _ | apply Drawn0.step)⟩
          case measure => simp [intOf]; omega
        · have t0 : eqT (rdCert l0 i) (rdCert l1 i) = false := eqT_false h
          have HE : Aside0 (eqT l0 l1 = false) := ⟨eqT_false (fun e => h (by rw [e]))⟩
          clear h
          go_wp2
          repeat (go_quiet (fail); try go_wp2)
          go_ret
          exact ⟨by rw [HE.out]; rfl, (show Drawn0 w _ from by repeat (first | exact Drawn0.refl _ | apply Drawn0.step)).out⟩
      · have HE : Aside0 (eqT l0 l1 = true) := ⟨eqT_true (ext_getD zCert HL.out (fun j hj => HP.out j (by omega)))⟩
        go_wp2
        go_ret
        exact ⟨by rw [HE.out]; rfl, (show Drawn0 w _ from by repeat (first | exact Drawn0.refl _ | apply Drawn0.step)).out⟩
  · have b0 : ((l0.length : Int) != (l1.length : Int)) = true := by simp; omega
    have HE : Aside0 (eqT l0 l1 = false) := ⟨eqT_false (fun e => hl (by rw [e]))⟩
    go_enter Try.func47, Try.ntmps47
    go_wp2
    go_ret
    exact ⟨by rw [HE.out]; rfl, (show Drawn0 w _ from by repeat (first | exact Drawn0.refl _ | apply Drawn0.step)).out⟩
theorem slCert_at (w0 : World) (A0 : Option Addr) (c0 : Nat) (l0 : List MCert) (A1 : Option Addr) (c1 : Nat) (l1 : List MCert) (w : World) (hr0 : Kd.C kCert_I w0 A0 l0.length l0) (hr1 : Kd.C kCert_I w0 A1 l1.length l1) (hb : Below w0.heap.size w0 w := by exact bel) :
    Calls Try.prog 47 #[.slice A0 l0.length c0, .slice A1 l1.length c1] w fun e w' => e = .returned (.bool (eqT l0 l1)) ∧ Below w.heap.size w w' := (slCert_calls A0 c0 l0 A1 c1 l1 w (Kd.C_below hr0 hb) (Kd.C_below hr1 hb)).mono fun e w' ⟨h, m, h2⟩ => ⟨h, by rw [h2]; exact pw_below_drewN (Below.refl _ _) m⟩

end Go.Proofs.Ytlnlbncinjiinab.X
