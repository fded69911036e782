/- Of this session: contracts over the words of the kit's print. -/
import Derived.Test.YtlnlbncinjiinabProg
import Derived.Below
import Derived.Deep.Draws
import Derived.Deep.AppendLies
import Derived.Maps.AppendAt
import Derived.OwnWalk
import Derived.Laws.BytesArg
import Derived.Laws.MakeOwn
import Derived.Laws.OwnMore
import Derived.Deep.OwnRows
import Derived.Tactics
import Derived.Lib.ConvBytes
import Derived.Laws.Slices
import Derived.WalkKit
import Derived.KernelRfl
import Derived.RowKit3
import Derived.Deep.LoopGhost
import Derived.Deep.QuietTactic
import Derived.BigQuiet
import Derived.WideLaws
import Derived.Deep.DeepCutAuto
import Derived.Deep.CutBlock
import Derived.Deep.RegionHeld3
import Derived.Laws.Rows
import Derived.Lib.AppendStr
import Derived.ArgAppend
import Derived.Laws.IdiomCopy
import Derived.OrdersHeld
import Derived.Laws.BitsLemmas
import Derived.RowKit
import Derived.StillTailTactics
import Derived.Test.YtlnlbncinjiinabWWords
import Derived.Test.YtlnlbncinjiinabWLast
import Derived.Test.YtlnlbncinjiinabWTab
import Derived.Test.YtlnlbncinjiinabWFour
import Derived.Test.YtlnlbncinjiinabWQPut
import Derived.Test.YtlnlbncinjiinabWApart
import Derived.Test.YtlnlbncinjiinabWArr
import Derived.Test.YtlnlbncinjiinabWZeros
import Derived.Test.YtlnlbncinjiinabWFoot
import Derived.Test.YtlnlbncinjiinabWKept
import Derived.Test.YtlnlbncinjiinabWShare
import Derived.Test.YtlnlbncinjiinabWN
import Derived.Test.YtlnlbncinjiinabWFootNe
import Derived.Test.YtlnlbncinjiinabWAt
import Derived.Test.YtlnlbncinjiinabWEqStruct
import Derived.Test.YtlnlbncinjiinabWRepsOne
import Derived.Test.YtlnlbncinjiinabWInv
import Derived.Test.YtlnlbncinjiinabWInvWords
import Derived.Test.YtlnlbncinjiinabWGuard
import Derived.Test.YtlnlbncinjiinabWNEv
import Derived.Test.YtlnlbncinjiinabWMore
import Derived.ChangeArms
import Derived.Test.YtlnlbncinjiinabX0
import Derived.Test.YtlnlbncinjiinabXEq
namespace Go.Proofs.Ytlnlbncinjiinab.X
open Go.RowKit Go.Proofs.YtlnlbncinjiinabW.PrintWords Go.Proofs.YtlnlbncinjiinabW.PrintLast Go.Proofs.YtlnlbncinjiinabW.PrintMore
set_option linter.unusedVariables false
set_option linter.unusedSimpArgs false
/-- what is left of a size -/
def szv (left : Int) (n : Nat) : Int := if (n : Int) ≤ left then left - n else -1
theorem szv_le {left : Int} (n : Nat) (h : 0 ≤ left) : szv left n ≤ left := by unfold szv; split <;> omega
theorem szv_pos {left : Int} {n : Nat} (h : ¬ szv left n < 0) : (n : Int) ≤ left := by
  unfold szv at h; split at h
  · assumption
  · omega
theorem szv_add {left : Int} {n m : Nat} (h : ¬ szv left n < 0) : szv (szv left n) m = szv left (n + m) := by
  have := szv_pos h
  unfold szv
  rw [if_pos this]
  split <;> split <;> omega
theorem szv_neg {left : Int} {n : Nat} (m : Nat) (h0 : 0 ≤ left) (h : szv left n < 0) : szv left (n + m) = -1 := by
  unfold szv at h ⊢
  split at h
  · omega
  · rw [if_neg (by omega)]
theorem szv_neg' {left : Int} {n : Nat} (h0 : 0 ≤ left) (h : szv left n < 0) : szv left n = -1 := szv_neg 0 h0 h
/-- the elements' sizes, up to one -/
def szsum {α : Type} (f : α → Nat) (l : List α) : Nat := (l.map f).sum
theorem szsum_step {α : Type} (f : α → Nat) (z : α) (l : List α) (i : Nat) (h : i < l.length) : szsum f (l.take (i + 1)) = szsum f (l.take i) + f (l.getD i z) := by
  unfold szsum
  rw [List.take_succ_eq_append_getElem h, List.map_append, List.sum_append]
  simp [List.getD_eq_getElem?_getD, List.getElem?_eq_getElem h]
theorem szsum_le {α : Type} (f : α → Nat) (l : List α) (i : Nat) : szsum f (l.take i) ≤ szsum f l := by
  unfold szsum
  conv => rhs; rw [← List.take_append_drop i l]
  rw [List.map_append, List.sum_append]
  omega

set_option maxHeartbeats 1000000 in
theorem szValueS_calls (A0 : Option Addr) (c0 : Nat) (n : Nat) (left : Int) (w : World) (hn : n ≤ 9223372036854775807) (h0 : 0 ≤ left) (h1 : left ≤ 1048576) :
    Calls Try.prog 20 #[.slice A0 n c0, .int .i64 left] w fun e w' => e = .returned (.int .i64 (szv left n)) ∧ Below w.heap.size w w' := by
  by_cases h : (n : Int) ≤ left
  · have HE : Aside0 (szv left n = left - n) := ⟨if_pos h⟩
    have t : decide (left - (n : Int) < 0) = false := decide_eq_false (by omega)
    go_enter Try.func20, Try.ntmps20
    go_wp2
    go_ret
    exact ⟨by rw [HE.out]; rfl, bel⟩
  · have HE : Aside0 (szv left n = -1) := ⟨if_neg h⟩
    have t : decide (left - (n : Int) < 0) = true := decide_eq_true (by omega)
    go_enter Try.func20, Try.ntmps20
    go_wp2
    go_ret
    exact ⟨by rw [HE.out]; rfl, bel⟩
def szValueS (l : List MValue) : Nat := l.length
theorem szValueS_at (w0 : World) (A0 : Option Addr) (c0 : Nat) (l0 : List MValue) (left : Int) (w : World) (hr : Kd.C kValue_L w0 A0 l0.length l0) (h0 : 0 ≤ left) (h1 : left ≤ 1048576) (hb : Below w0.heap.size w0 w := by exact bel) :
    Calls Try.prog 20 #[.slice A0 l0.length c0, .int .i64 left] w fun e w' => e = .returned (.int .i64 (szv left (szValueS l0))) ∧ Below w.heap.size w w' := szValueS_calls A0 c0 l0.length left w hr.2.1 h0 h1

def szValueSS (l : List (List MValue)) : Nat := l.length + szsum szValueS l
set_option maxHeartbeats 1000000 in
set_option maxRecDepth 100000 in
theorem szValueSS_calls (A0 : Option Addr) (c0 : Nat) (l0 : List (List MValue)) (left : Int) (w : World) (hr : Kd.C (Kd.slice 105 kValue_L) w A0 l0.length l0) (h0 : 0 ≤ left) (h1 : left ≤ 1048576) :
    Calls Try.prog 19 #[.slice A0 l0.length c0, .int .i64 left] w fun e w' => e = .returned (.int .i64 (szv left (szValueSS l0))) ∧ Below w.heap.size w w' := by
  have hm : l0.length ≤ 9223372036854775807 := hr.2.1
  have HR := Aside0.mk hr
  clear hr
  by_cases h : (l0.length : Int) ≤ left
  · have t : decide (left - (l0.length : Int) < 0) = false := decide_eq_false (by omega)
    go_enter Try.func19, Try.ntmps19
    go_wp2
    go_loopw [1, 5] (fun u v wr => ∃ i : Int, 0 ≤ i ∧ i ≤ l0.length ∧ v = .int .i64 i ∧ u = .int .i64 (left - l0.length - szsum szValueS (l0.take i.toNat)) ∧ ((szsum szValueS (l0.take i.toNat) : Nat) : Int) ≤ left - l0.length ∧ Aside0 (Below w.heap.size w wr)) (fun _ v _ => ((l0.length : Int) - intOf v).toNat)
    case atStart => exact ⟨0, by omega, by omega, rfl, by simp [szsum], by simp [szsum]; omega, ⟨Below.refl _ _⟩⟩
    case round =>
      obtain ⟨i, i0, hi, rfl, rfl, hs, HB⟩ := hrel
      by_cases hlt : i < l0.length
      · obtain ⟨ad0, B0, b0, e0, x0, y0, z0⟩ := atLL (Kd.C_below HR.out HB.out) i i0 hlt
        cases e0
        have st := szsum_step szValueS [] l0 i.toNat (by omega)
        have HS : Aside0 (szsum szValueS (l0.take (i + 1).toNat) = szsum szValueS (l0.take i.toNat) + szValueS (rdLL l0 i)) := ⟨by rw [show (i + 1).toNat = i.toNat + 1 by omega]; exact st⟩
        clear st
        obtain ⟨S, hS⟩ : ∃ S, szsum szValueS (l0.take i.toNat) = S := ⟨_, rfl⟩
        rw [hS] at hs HS ⊢
        clear hS
        by_cases hc : szv (left - l0.length - S) (szValueS (rdLL l0 i)) < 0
        · have t2 : decide (szv (left - l0.length - S) (szValueS (rdLL l0 i)) < 0) = true := decide_eq_true hc
          have HE : Aside0 (szv left (szValueSS l0) = -1) := ⟨by
            have h3 := szsum_le szValueS l0 (i + 1).toNat
            rw [HS.out] at h3
            unfold szValueSS szv
            rw [if_neg]
            unfold szv at hc
            split at hc <;> omega⟩
          go_wp2_with (go_at_call 20; (with_reducible refine (szValueS_at wr _ _ (rdLL l0 i) _ _ z0 (by omega) (by omega)).mono ?_); rintro e w1 ⟨rfl, hb⟩; have HB1 := Aside0.mk (below_step (w := w) bel hb); clear hb)
          go_ret
          exact ⟨by rw [HE.out]; rfl, bel⟩
        · have t2 : decide (szv (left - l0.length - S) (szValueS (rdLL l0 i)) < 0) = false := decide_eq_false hc
          have hp := szv_pos hc
          have HE : Aside0 (szv (left - l0.length - S) (szValueS (rdLL l0 i)) = left - l0.length - S - (szValueS (rdLL l0 i) : Nat)) := ⟨if_pos hp⟩
          clear hc
          go_wp2_with (go_at_call 20; (with_reducible refine (szValueS_at wr _ _ (rdLL l0 i) _ _ z0 (by omega) (by omega)).mono ?_); rintro e w1 ⟨rfl, hb⟩; have HB1 := Aside0.mk (below_step (w := w) bel hb); clear hb)
          go_roundw
          case rel => exact ⟨i + 1, by omega, by omega, rfl, by rw [HE.out, HS.out]; congr 1; omega, by rw [HS.out]; omega, ⟨bel⟩⟩
          case measure => simp [intOf]; omega
      · obtain rfl : i = l0.length := by omega
        have HE : Aside0 (szv left (szValueSS l0) = left - l0.length - szsum szValueS l0) := ⟨by
          rw [show (l0.length : Int).toNat = l0.length from by simp, List.take_length] at hs
          unfold szValueSS szv
          rw [if_pos (by omega)]
          omega⟩
        go_wp2
        go_ret
        exact ⟨by rw [HE.out]; rfl, bel⟩
  · have t : decide (left - (l0.length : Int) < 0) = true := decide_eq_true (by omega)
    have HE : Aside0 (szv left (szValueSS l0) = -1) := ⟨by unfold szValueSS szv; rw [if_neg (by omega)]⟩
    go_enter Try.func19, Try.ntmps19
    go_wp2
    go_ret
    exact ⟨by rw [HE.out]; rfl, bel⟩
theorem szValueSS_at (w0 : World) (A0 : Option Addr) (c0 : Nat) (l0 : List (List MValue)) (left : Int) (w : World) (hr : Kd.C (Kd.slice 105 kValue_L) w0 A0 l0.length l0) (h0 : 0 ≤ left) (h1 : left ≤ 1048576) (hb : Below w0.heap.size w0 w := by exact bel) :
    Calls Try.prog 19 #[.slice A0 l0.length c0, .int .i64 left] w fun e w' => e = .returned (.int .i64 (szv left (szValueSS l0))) ∧ Below w.heap.size w w' := szValueSS_calls A0 c0 l0 left w (Kd.C_below hr hb) h0 h1

def szFrame (x : MFrame) : Nat := szValueS x.locals

set_option maxHeartbeats 1000000 in
set_option maxRecDepth 100000 in
theorem szFrame_calls (A3 : Option Addr) (c3 : Nat) (x : MFrame) (left : Int) (w : World) (h3 : Kd.C kValue_L w A3 x.locals.length x.locals) (l0 : 0 ≤ left) (l1 : left ≤ 1048576) :
    Calls Try.prog 54 #[.agg #[.int .i64 x.func, .int .i64 x.at_, .int .i64 x.base, .slice A3 x.locals.length c3], .int .i64 left] w fun e w' => e = .returned (.int .i64 (szv left (szFrame x))) ∧ Below w.heap.size w w' := by
  have H3 := Aside0.mk h3; have HB := Aside0.mk (Below.refl w.heap.size w)
  clear h3

  by_cases q0 : szv (left) (szValueS x.locals) < 0
  · have t0 : decide (szv (left) (szValueS x.locals) < 0) = true := decide_eq_true q0
    have HE : Aside0 (szv left (szFrame x) = -1 ∧ szv (left) (szValueS x.locals) = -1) := ⟨by
      refine ⟨?_, szv_neg' (by omega) q0⟩
      have e := q0
      have z := szv_neg (0) l0 e
      exact (congrArg _ (by unfold szFrame; omega)).trans z⟩
    go_enter Try.func54, Try.ntmps54
    go_wp2_with (first | (go_at_call 20; (with_reducible refine (szValueS_at w _ _ x.locals _ _ H3.out (by omega) (by omega)).mono ?_); rintro e w1 ⟨rfl, hb⟩; have n_ := Aside0.mk (below_step (w := w) bel hb); obtain ⟨hc, hf⟩ := bcell hb; have hz : w.heap.size < w1.heap.size := Nat.lt_of_lt_of_le (by first | assumption | (simp; done) | (simp; omega)) hb.size; clear HB hb; have HB := n_; clear n_))
    go_ret
    exact ⟨by rw [HE.out.1]; rfl, bel⟩
  have t0 : decide (szv (left) (szValueS x.locals) < 0) = false := decide_eq_false q0
  have u0 := szv_le (left := left) (szValueS x.locals) (by omega)
  have v0 : 0 ≤ szv (left) (szValueS x.locals) := by omega

  have HE : Aside0 (szv left (szFrame x) = szv (left) (szValueS x.locals)) := ⟨by (try rw []); exact congrArg _ (by unfold szFrame; omega)⟩
  go_enter Try.func54, Try.ntmps54
  go_wp2_with (first | (go_at_call 20; (with_reducible refine (szValueS_at w _ _ x.locals _ _ H3.out (by omega) (by omega)).mono ?_); rintro e w1 ⟨rfl, hb⟩; have n_ := Aside0.mk (below_step (w := w) bel hb); obtain ⟨hc, hf⟩ := bcell hb; have hz : w.heap.size < w1.heap.size := Nat.lt_of_lt_of_le (by first | assumption | (simp; done) | (simp; omega)) hb.size; clear HB hb; have HB := n_; clear n_))
  go_ret
  exact ⟨by rw [HE.out]; rfl, bel⟩

theorem szFrame_at (w0 : World) (A3 : Option Addr) (c3 : Nat) (x : MFrame) (left : Int) (w : World) (h3 : Kd.C kValue_L w0 A3 x.locals.length x.locals) (l0 : 0 ≤ left) (l1 : left ≤ 1048576) (hb : Below w0.heap.size w0 w := by exact bel) :
    Calls Try.prog 54 #[.agg #[.int .i64 x.func, .int .i64 x.at_, .int .i64 x.base, .slice A3 x.locals.length c3], .int .i64 left] w fun e w' => e = .returned (.int .i64 (szv left (szFrame x))) ∧ Below w.heap.size w w' := szFrame_calls A3 c3 x left w (Kd.C_below h3 hb) l0 l1

def szFrameS (l : List MFrame) : Nat := l.length + szsum szFrame l
set_option maxHeartbeats 1000000 in
set_option maxRecDepth 100000 in
theorem szFrameS_calls (A0 : Option Addr) (c0 : Nat) (l0 : List MFrame) (left : Int) (w : World) (hr : Kd.C kFrame_L w A0 l0.length l0) (h0 : 0 ≤ left) (h1 : left ≤ 1048576) :
    Calls Try.prog 21 #[.slice A0 l0.length c0, .int .i64 left] w fun e w' => e = .returned (.int .i64 (szv left (szFrameS l0))) ∧ Below w.heap.size w w' := by
  have hm : l0.length ≤ 9223372036854775807 := hr.2.1
  have HR := Aside0.mk hr
  clear hr
  by_cases h : (l0.length : Int) ≤ left
  · have t : decide (left - (l0.length : Int) < 0) = false := decide_eq_false (by omega)
    go_enter Try.func21, Try.ntmps21
    go_wp2
    go_loopw [1, 5] (fun u v wr => ∃ i : Int, 0 ≤ i ∧ i ≤ l0.length ∧ v = .int .i64 i ∧ u = .int .i64 (left - l0.length - szsum szFrame (l0.take i.toNat)) ∧ ((szsum szFrame (l0.take i.toNat) : Nat) : Int) ≤ left - l0.length ∧ Aside0 (Below w.heap.size w wr)) (fun _ v _ => ((l0.length : Int) - intOf v).toNat)
    case atStart => exact ⟨0, by omega, by omega, rfl, by simp [szsum], by simp [szsum]; omega, ⟨Below.refl _ _⟩⟩
    case round =>
      obtain ⟨i, i0, hi, rfl, rfl, hs, HB⟩ := hrel
      by_cases hlt : i < l0.length
      · obtain ⟨ad0, B03, b03, e0, x00, x01, x02, x03, y03, z03⟩ := atFrame_L (Kd.C_below HR.out HB.out) i i0 hlt
        cases e0
        have st := szsum_step szFrame zFrame l0 i.toNat (by omega)
        have HS : Aside0 (szsum szFrame (l0.take (i + 1).toNat) = szsum szFrame (l0.take i.toNat) + szFrame (rdFrame l0 i)) := ⟨by rw [show (i + 1).toNat = i.toNat + 1 by omega]; exact st⟩
        clear st
        obtain ⟨S, hS⟩ : ∃ S, szsum szFrame (l0.take i.toNat) = S := ⟨_, rfl⟩
        rw [hS] at hs HS ⊢
        clear hS
        by_cases hc : szv (left - l0.length - S) (szFrame (rdFrame l0 i)) < 0
        · have t2 : decide (szv (left - l0.length - S) (szFrame (rdFrame l0 i)) < 0) = true := decide_eq_true hc
          have HE : Aside0 (szv left (szFrameS l0) = -1) := ⟨by
            have h3 := szsum_le szFrame l0 (i + 1).toNat
            rw [HS.out] at h3
            unfold szFrameS szv
            rw [if_neg]
            unfold szv at hc
            split at hc <;> omega⟩
          go_wp2_with (go_at_call 54; (with_reducible refine (szFrame_at wr _ _ (rdFrame l0 i) _ _ z03 (by omega) (by omega)).mono ?_); rintro e w1 ⟨rfl, hb⟩; have HB1 := Aside0.mk (below_step (w := w) bel hb); clear hb)
          go_ret
          exact ⟨by rw [HE.out]; rfl, bel⟩
        · have t2 : decide (szv (left - l0.length - S) (szFrame (rdFrame l0 i)) < 0) = false := decide_eq_false hc
          have hp := szv_pos hc
          have HE : Aside0 (szv (left - l0.length - S) (szFrame (rdFrame l0 i)) = left - l0.length - S - (szFrame (rdFrame l0 i) : Nat)) := ⟨if_pos hp⟩
          clear hc
          go_wp2_with (go_at_call 54; (with_reducible refine (szFrame_at wr _ _ (rdFrame l0 i) _ _ z03 (by omega) (by omega)).mono ?_); rintro e w1 ⟨rfl, hb⟩; have HB1 := Aside0.mk (below_step (w := w) bel hb); clear hb)
          go_roundw
          case rel => exact ⟨i + 1, by omega, by omega, rfl, by rw [HE.out, HS.out]; congr 1; omega, by rw [HS.out]; omega, ⟨bel⟩⟩
          case measure => simp [intOf]; omega
      · obtain rfl : i = l0.length := by omega
        have HE : Aside0 (szv left (szFrameS l0) = left - l0.length - szsum szFrame l0) := ⟨by
          rw [show (l0.length : Int).toNat = l0.length from by simp, List.take_length] at hs
          unfold szFrameS szv
          rw [if_pos (by omega)]
          omega⟩
        go_wp2
        go_ret
        exact ⟨by rw [HE.out]; rfl, bel⟩
  · have t : decide (left - (l0.length : Int) < 0) = true := decide_eq_true (by omega)
    have HE : Aside0 (szv left (szFrameS l0) = -1) := ⟨by unfold szFrameS szv; rw [if_neg (by omega)]⟩
    go_enter Try.func21, Try.ntmps21
    go_wp2
    go_ret
    exact ⟨by rw [HE.out]; rfl, bel⟩
theorem szFrameS_at (w0 : World) (A0 : Option Addr) (c0 : Nat) (l0 : List MFrame) (left : Int) (w : World) (hr : Kd.C kFrame_L w0 A0 l0.length l0) (h0 : 0 ≤ left) (h1 : left ≤ 1048576) (hb : Below w0.heap.size w0 w := by exact bel) :
    Calls Try.prog 21 #[.slice A0 l0.length c0, .int .i64 left] w fun e w' => e = .returned (.int .i64 (szv left (szFrameS l0))) ∧ Below w.heap.size w w' := szFrameS_calls A0 c0 l0 left w (Kd.C_below hr hb) h0 h1

def szState (x : MState) : Nat := szValueSS x.cells + szValueS x.stack + szFrameS x.frames

set_option maxHeartbeats 1000000 in
set_option maxRecDepth 100000 in
theorem szState_calls (A4 : Option Addr) (c4 : Nat) (A5 : Option Addr) (c5 : Nat) (A6 : Option Addr) (c6 : Nat) (x : MState) (left : Int) (w : World) (h4 : Kd.C (Kd.slice 105 kValue_L) w A4 x.cells.length x.cells) (h5 : Kd.C kValue_L w A5 x.stack.length x.stack) (h6 : Kd.C kFrame_L w A6 x.frames.length x.frames) (l0 : 0 ≤ left) (l1 : left ≤ 1048576) :
    Calls Try.prog 5 #[.agg #[.int .i64 x.trap, .bool x.done, .int .i64 x.cost, .int .i64 x.steps, .slice A4 x.cells.length c4, .slice A5 x.stack.length c5, .slice A6 x.frames.length c6], .int .i64 left] w fun e w' => e = .returned (.int .i64 (szv left (szState x))) ∧ Below w.heap.size w w' := by
  have H4 := Aside0.mk h4; have H5 := Aside0.mk h5; have H6 := Aside0.mk h6; have HB := Aside0.mk (Below.refl w.heap.size w)
  clear h4 h5 h6

  by_cases q0 : szv (left) (szValueSS x.cells) < 0
  · have t0 : decide (szv (left) (szValueSS x.cells) < 0) = true := decide_eq_true q0
    have HE : Aside0 (szv left (szState x) = -1 ∧ szv (left) (szValueSS x.cells) = -1) := ⟨by
      refine ⟨?_, szv_neg' (by omega) q0⟩
      have e := q0
      have z := szv_neg (szValueS x.stack + szFrameS x.frames) l0 e
      exact (congrArg _ (by unfold szState; omega)).trans z⟩
    go_enter Try.func5, Try.ntmps5
    go_wp2_with (first | (go_at_call 19; (with_reducible refine (szValueSS_at w _ _ x.cells _ _ H4.out (by omega) (by omega)).mono ?_); rintro e w1 ⟨rfl, hb⟩; have n_ := Aside0.mk (below_step (w := w) bel hb); obtain ⟨hc, hf⟩ := bcell hb; have hz : w.heap.size < w1.heap.size := Nat.lt_of_lt_of_le (by first | assumption | (simp; done) | (simp; omega)) hb.size; clear HB hb; have HB := n_; clear n_) | (go_at_call 20; (with_reducible refine (szValueS_at w _ _ x.stack _ _ H5.out (by omega) (by omega)).mono ?_); rintro e w1 ⟨rfl, hb⟩; have n_ := Aside0.mk (below_step (w := w) bel hb); obtain ⟨hc, hf⟩ := bcell hb; have hz : w.heap.size < w1.heap.size := Nat.lt_of_lt_of_le (by first | assumption | (simp; done) | (simp; omega)) hb.size; clear HB hb; have HB := n_; clear n_) | (go_at_call 21; (with_reducible refine (szFrameS_at w _ _ x.frames _ _ H6.out (by omega) (by omega)).mono ?_); rintro e w1 ⟨rfl, hb⟩; have n_ := Aside0.mk (below_step (w := w) bel hb); obtain ⟨hc, hf⟩ := bcell hb; have hz : w.heap.size < w1.heap.size := Nat.lt_of_lt_of_le (by first | assumption | (simp; done) | (simp; omega)) hb.size; clear HB hb; have HB := n_; clear n_))
    go_ret
    exact ⟨by rw [HE.out.1]; rfl, bel⟩
  have t0 : decide (szv (left) (szValueSS x.cells) < 0) = false := decide_eq_false q0
  have u0 := szv_le (left := left) (szValueSS x.cells) (by omega)
  have v0 : 0 ≤ szv (left) (szValueSS x.cells) := by omega

  by_cases q1 : szv (szv (left) (szValueSS x.cells)) (szValueS x.stack) < 0
  · have t1 : decide (szv (szv (left) (szValueSS x.cells)) (szValueS x.stack) < 0) = true := decide_eq_true q1
    have HE : Aside0 (szv left (szState x) = -1 ∧ szv (szv (left) (szValueSS x.cells)) (szValueS x.stack) = -1) := ⟨by
      refine ⟨?_, szv_neg' (by omega) q1⟩
      have e := q1
      rw [szv_add q0] at e; have z := szv_neg (szFrameS x.frames) l0 e
      exact (congrArg _ (by unfold szState; omega)).trans z⟩
    go_enter Try.func5, Try.ntmps5
    go_wp2_with (first | (go_at_call 19; (with_reducible refine (szValueSS_at w _ _ x.cells _ _ H4.out (by omega) (by omega)).mono ?_); rintro e w1 ⟨rfl, hb⟩; have n_ := Aside0.mk (below_step (w := w) bel hb); obtain ⟨hc, hf⟩ := bcell hb; have hz : w.heap.size < w1.heap.size := Nat.lt_of_lt_of_le (by first | assumption | (simp; done) | (simp; omega)) hb.size; clear HB hb; have HB := n_; clear n_) | (go_at_call 20; (with_reducible refine (szValueS_at w _ _ x.stack _ _ H5.out (by omega) (by omega)).mono ?_); rintro e w1 ⟨rfl, hb⟩; have n_ := Aside0.mk (below_step (w := w) bel hb); obtain ⟨hc, hf⟩ := bcell hb; have hz : w.heap.size < w1.heap.size := Nat.lt_of_lt_of_le (by first | assumption | (simp; done) | (simp; omega)) hb.size; clear HB hb; have HB := n_; clear n_) | (go_at_call 21; (with_reducible refine (szFrameS_at w _ _ x.frames _ _ H6.out (by omega) (by omega)).mono ?_); rintro e w1 ⟨rfl, hb⟩; have n_ := Aside0.mk (below_step (w := w) bel hb); obtain ⟨hc, hf⟩ := bcell hb; have hz : w.heap.size < w1.heap.size := Nat.lt_of_lt_of_le (by first | assumption | (simp; done) | (simp; omega)) hb.size; clear HB hb; have HB := n_; clear n_))
    go_ret
    exact ⟨by rw [HE.out.1]; rfl, bel⟩
  have t1 : decide (szv (szv (left) (szValueSS x.cells)) (szValueS x.stack) < 0) = false := decide_eq_false q1
  have u1 := szv_le (left := szv (left) (szValueSS x.cells)) (szValueS x.stack) (by omega)
  have v1 : 0 ≤ szv (szv (left) (szValueSS x.cells)) (szValueS x.stack) := by omega

  by_cases q2 : szv (szv (szv (left) (szValueSS x.cells)) (szValueS x.stack)) (szFrameS x.frames) < 0
  · have t2 : decide (szv (szv (szv (left) (szValueSS x.cells)) (szValueS x.stack)) (szFrameS x.frames) < 0) = true := decide_eq_true q2
    have HE : Aside0 (szv left (szState x) = -1 ∧ szv (szv (szv (left) (szValueSS x.cells)) (szValueS x.stack)) (szFrameS x.frames) = -1) := ⟨by
      refine ⟨?_, szv_neg' (by omega) q2⟩
      have e := q2
      rw [szv_add q1, szv_add q0] at e; have z := szv_neg (0) l0 e
      exact (congrArg _ (by unfold szState; omega)).trans z⟩
    go_enter Try.func5, Try.ntmps5
    go_wp2_with (first | (go_at_call 19; (with_reducible refine (szValueSS_at w _ _ x.cells _ _ H4.out (by omega) (by omega)).mono ?_); rintro e w1 ⟨rfl, hb⟩; have n_ := Aside0.mk (below_step (w := w) bel hb); obtain ⟨hc, hf⟩ := bcell hb; have hz : w.heap.size < w1.heap.size := Nat.lt_of_lt_of_le (by first | assumption | (simp; done) | (simp; omega)) hb.size; clear HB hb; have HB := n_; clear n_) | (go_at_call 20; (with_reducible refine (szValueS_at w _ _ x.stack _ _ H5.out (by omega) (by omega)).mono ?_); rintro e w1 ⟨rfl, hb⟩; have n_ := Aside0.mk (below_step (w := w) bel hb); obtain ⟨hc, hf⟩ := bcell hb; have hz : w.heap.size < w1.heap.size := Nat.lt_of_lt_of_le (by first | assumption | (simp; done) | (simp; omega)) hb.size; clear HB hb; have HB := n_; clear n_) | (go_at_call 21; (with_reducible refine (szFrameS_at w _ _ x.frames _ _ H6.out (by omega) (by omega)).mono ?_); rintro e w1 ⟨rfl, hb⟩; have n_ := Aside0.mk (below_step (w := w) bel hb); obtain ⟨hc, hf⟩ := bcell hb; have hz : w.heap.size < w1.heap.size := Nat.lt_of_lt_of_le (by first | assumption | (simp; done) | (simp; omega)) hb.size; clear HB hb; have HB := n_; clear n_))
    go_ret
    exact ⟨by rw [HE.out.1]; rfl, bel⟩
  have t2 : decide (szv (szv (szv (left) (szValueSS x.cells)) (szValueS x.stack)) (szFrameS x.frames) < 0) = false := decide_eq_false q2
  have u2 := szv_le (left := szv (szv (left) (szValueSS x.cells)) (szValueS x.stack)) (szFrameS x.frames) (by omega)
  have v2 : 0 ≤ szv (szv (szv (left) (szValueSS x.cells)) (szValueS x.stack)) (szFrameS x.frames) := by omega

  have HE : Aside0 (szv left (szState x) = szv (szv (szv (left) (szValueSS x.cells)) (szValueS x.stack)) (szFrameS x.frames)) := ⟨by (try rw [szv_add q1, szv_add q0]); exact congrArg _ (by unfold szState; omega)⟩
  go_enter Try.func5, Try.ntmps5
  go_wp2_with (first | (go_at_call 19; (with_reducible refine (szValueSS_at w _ _ x.cells _ _ H4.out (by omega) (by omega)).mono ?_); rintro e w1 ⟨rfl, hb⟩; have n_ := Aside0.mk (below_step (w := w) bel hb); obtain ⟨hc, hf⟩ := bcell hb; have hz : w.heap.size < w1.heap.size := Nat.lt_of_lt_of_le (by first | assumption | (simp; done) | (simp; omega)) hb.size; clear HB hb; have HB := n_; clear n_) | (go_at_call 20; (with_reducible refine (szValueS_at w _ _ x.stack _ _ H5.out (by omega) (by omega)).mono ?_); rintro e w1 ⟨rfl, hb⟩; have n_ := Aside0.mk (below_step (w := w) bel hb); obtain ⟨hc, hf⟩ := bcell hb; have hz : w.heap.size < w1.heap.size := Nat.lt_of_lt_of_le (by first | assumption | (simp; done) | (simp; omega)) hb.size; clear HB hb; have HB := n_; clear n_) | (go_at_call 21; (with_reducible refine (szFrameS_at w _ _ x.frames _ _ H6.out (by omega) (by omega)).mono ?_); rintro e w1 ⟨rfl, hb⟩; have n_ := Aside0.mk (below_step (w := w) bel hb); obtain ⟨hc, hf⟩ := bcell hb; have hz : w.heap.size < w1.heap.size := Nat.lt_of_lt_of_le (by first | assumption | (simp; done) | (simp; omega)) hb.size; clear HB hb; have HB := n_; clear n_))
  go_ret
  exact ⟨by rw [HE.out]; rfl, bel⟩

theorem szState_at (w0 : World) (A4 : Option Addr) (c4 : Nat) (A5 : Option Addr) (c5 : Nat) (A6 : Option Addr) (c6 : Nat) (x : MState) (left : Int) (w : World) (h4 : Kd.C (Kd.slice 105 kValue_L) w0 A4 x.cells.length x.cells) (h5 : Kd.C kValue_L w0 A5 x.stack.length x.stack) (h6 : Kd.C kFrame_L w0 A6 x.frames.length x.frames) (l0 : 0 ≤ left) (l1 : left ≤ 1048576) (hb : Below w0.heap.size w0 w := by exact bel) :
    Calls Try.prog 5 #[.agg #[.int .i64 x.trap, .bool x.done, .int .i64 x.cost, .int .i64 x.steps, .slice A4 x.cells.length c4, .slice A5 x.stack.length c5, .slice A6 x.frames.length c6], .int .i64 left] w fun e w' => e = .returned (.int .i64 (szv left (szState x))) ∧ Below w.heap.size w w' := szState_calls A4 c4 A5 c5 A6 c6 x left w (Kd.C_below h4 hb) (Kd.C_below h5 hb) (Kd.C_below h6 hb) l0 l1

end Go.Proofs.Ytlnlbncinjiinab.X
