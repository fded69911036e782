/- Of this session: contracts over the words of the kit's print. -/
import Derived.Test.YtlnlbncinjiinabProg
import Derived.Below
import Derived.Deep.Draws
import Derived.Deep.AppendLies
import Derived.Maps.AppendAt
import Derived.OwnWalk
import Derived.Laws.BytesArg
import Derived.Laws.MakeOwn
import Derived.Laws.OwnMore
import Derived.Deep.OwnRows
import Derived.Tactics
import Derived.Lib.ConvBytes
import Derived.Laws.Slices
import Derived.WalkKit
import Derived.KernelRfl
import Derived.RowKit3
import Derived.Deep.LoopGhost
import Derived.Deep.QuietTactic
import Derived.BigQuiet
import Derived.WideLaws
import Derived.Deep.DeepCutAuto
import Derived.Deep.CutBlock
import Derived.Deep.RegionHeld3
import Derived.Laws.Rows
import Derived.Lib.AppendStr
import Derived.ArgAppend
import Derived.Laws.IdiomCopy
import Derived.OrdersHeld
import Derived.Laws.BitsLemmas
import Derived.RowKit
import Derived.StillTailTactics
import Derived.Test.YtlnlbncinjiinabWWords
import Derived.Test.YtlnlbncinjiinabWLast
import Derived.Test.YtlnlbncinjiinabWTab
import Derived.Test.YtlnlbncinjiinabWFour
import Derived.Test.YtlnlbncinjiinabWQPut
import Derived.Test.YtlnlbncinjiinabWApart
import Derived.Test.YtlnlbncinjiinabWArr
import Derived.Test.YtlnlbncinjiinabWZeros
import Derived.Test.YtlnlbncinjiinabWFoot
import Derived.Test.YtlnlbncinjiinabWKept
import Derived.Test.YtlnlbncinjiinabWShare
import Derived.Test.YtlnlbncinjiinabWN
import Derived.Test.YtlnlbncinjiinabWFootNe
import Derived.Test.YtlnlbncinjiinabWAt
import Derived.Test.YtlnlbncinjiinabWEqStruct
import Derived.Test.YtlnlbncinjiinabWRepsOne
import Derived.Test.YtlnlbncinjiinabWInv
import Derived.Test.YtlnlbncinjiinabWInvWords
import Derived.Test.YtlnlbncinjiinabWGuard
import Derived.Test.YtlnlbncinjiinabWNEv
import Derived.Test.YtlnlbncinjiinabWMore
import Derived.ChangeArms
import Derived.Test.YtlnlbncinjiinabX0
import Derived.Test.YtlnlbncinjiinabXEq
namespace Go.Proofs.Ytlnlbncinjiinab.X
open Go.RowKit Go.Proofs.YtlnlbncinjiinabW.PrintWords Go.Proofs.YtlnlbncinjiinabW.PrintLast Go.Proofs.YtlnlbncinjiinabW.PrintMore
set_option linter.unusedVariables false
set_option linter.unusedSimpArgs false
/-- what is left of a size -/
def szv (left : Int) (n : Nat) : Int := if (n : Int) ≤ left then left - n else -1
theorem szv_le {left : Int} (n : Nat) (h : 0 ≤ left) : szv left n ≤ left := by unfold szv; split <;> omega
theorem szv_pos {left : Int} {n : Nat} (h : ¬ szv left n < 0) : (n : Int) ≤ left := by
  unfold szv at h; split at h
  · assumption
  · omega
theorem szv_add {left : Int} {n m : Nat} (h : ¬ szv left n < 0) : szv (szv left n) m = szv left (n + m) := by
  have := szv_pos h
  unfold szv
  rw [if_pos this]
  split <;> split <;> omega
theorem szv_neg {left : Int} {n : Nat} (m : Nat) (h0 : 0 ≤ left) (h : szv left n < 0) : szv left (n + m) = -1 := by
  unfold szv at h ⊢
  split at h
  · omega
  · rw [if_neg (by omega)]
theorem szv_neg' {left : Int} {n : Nat} (h0 : 0 ≤ left) (h : szv left n < 0) : szv left n = -1 := szv_neg 0 h0 h
/-- the elements' sizes, up to one -/
def szsum {α : Type} (f : α → Nat) (l : List α) : Nat := (l.map f).sum
theorem szsum_step {α : Type} (f : α → Nat) (z : α) (l : List α) (i : Nat) (h : i < l.length) : szsum f (l.take (i + 1)) = szsum f (l.take i) + f (l.getD i z) := by
  unfold szsum
  rw [List.take_succ_eq_append_getElem h, List.map_append, List.sum_append]
  simp [List.getD_eq_getElem?_getD, List.getElem?_eq_getElem h]
theorem szsum_le {α : Type} (f : α → Nat) (l : List α) (i : Nat) : szsum f (l.take i) ≤ szsum f l := by
  unfold szsum
  conv => rhs; rw [← List.take_append_drop i l]
  rw [List.map_append, List.sum_append]
  omega

set_option maxHeartbeats 1000000 in
theorem szInt64S_calls (A0 : Option Addr) (c0 : Nat) (n : Nat) (left : Int) (w : World) (hn : n ≤ 9223372036854775807) (h0 : 0 ≤ left) (h1 : left ≤ 1048576) :
    Calls Try.prog 59 #[.slice A0 n c0, .int .i64 left] w fun e w' => e = .returned (.int .i64 (szv left n)) ∧ Below w.heap.size w w' := by
  by_cases h : (n : Int) ≤ left
  · have HE : Aside0 (szv left n = left - n) := ⟨if_pos h⟩
    have t : decide (left - (n : Int) < 0) = false := decide_eq_false (by omega)
    go_enter Try.func59, Try.ntmps59
    go_wp2
    go_ret
    exact ⟨by rw [HE.out]; rfl, bel⟩
  · have HE : Aside0 (szv left n = -1) := ⟨if_neg h⟩
    have t : decide (left - (n : Int) < 0) = true := decide_eq_true (by omega)
    go_enter Try.func59, Try.ntmps59
    go_wp2
    go_ret
    exact ⟨by rw [HE.out]; rfl, bel⟩
def szInt64S (l : List Int) : Nat := l.length
theorem szInt64S_at (w0 : World) (A0 : Option Addr) (c0 : Nat) (l0 : List Int) (left : Int) (w : World) (hr : Kd.C (Kd.int .i64) w0 A0 l0.length l0) (h0 : 0 ≤ left) (h1 : left ≤ 1048576) (hb : Below w0.heap.size w0 w := by exact bel) :
    Calls Try.prog 59 #[.slice A0 l0.length c0, .int .i64 left] w fun e w' => e = .returned (.int .i64 (szv left (szInt64S l0))) ∧ Below w.heap.size w w' := szInt64S_calls A0 c0 l0.length left w hr.2.1 h0 h1

def szInt64SS (l : List (List Int)) : Nat := l.length + szsum szInt64S l
set_option maxHeartbeats 1000000 in
set_option maxRecDepth 100000 in
theorem szInt64SS_calls (A0 : Option Addr) (c0 : Nat) (l0 : List (List Int)) (left : Int) (w : World) (hr : Kd.C (Kd.slice 2 (Kd.int .i64)) w A0 l0.length l0) (h0 : 0 ≤ left) (h1 : left ≤ 1048576) :
    Calls Try.prog 36 #[.slice A0 l0.length c0, .int .i64 left] w fun e w' => e = .returned (.int .i64 (szv left (szInt64SS l0))) ∧ Below w.heap.size w w' := by
  have hm : l0.length ≤ 9223372036854775807 := hr.2.1
  have HR := Aside0.mk hr
  clear hr
  by_cases h : (l0.length : Int) ≤ left
  · have t : decide (left - (l0.length : Int) < 0) = false := decide_eq_false (by omega)
    go_enter Try.func36, Try.ntmps36
    go_wp2
    go_loopw [1, 5] (fun u v wr => ∃ i : Int, 0 ≤ i ∧ i ≤ l0.length ∧ v = .int .i64 i ∧ u = .int .i64 (left - l0.length - szsum szInt64S (l0.take i.toNat)) ∧ ((szsum szInt64S (l0.take i.toNat) : Nat) : Int) ≤ left - l0.length ∧ Aside0 (Below w.heap.size w wr)) (fun _ v _ => ((l0.length : Int) - intOf v).toNat)
    case atStart => exact ⟨0, by omega, by omega, rfl, by simp [szsum], by simp [szsum]; omega, ⟨Below.refl _ _⟩⟩
    case round =>
      obtain ⟨i, i0, hi, rfl, rfl, hs, HB⟩ := hrel
      by_cases hlt : i < l0.length
      · obtain ⟨ad0, B0, b0, e0, x0, y0, z0⟩ := atLL (Kd.C_below HR.out HB.out) i i0 hlt
        cases e0
        have st := szsum_step szInt64S [] l0 i.toNat (by omega)
        have HS : Aside0 (szsum szInt64S (l0.take (i + 1).toNat) = szsum szInt64S (l0.take i.toNat) + szInt64S (rdLL l0 i)) := ⟨by rw [show (i + 1).toNat = i.toNat + 1 by omega]; exact st⟩
        clear st
        obtain ⟨S, hS⟩ : ∃ S, szsum szInt64S (l0.take i.toNat) = S := ⟨_, rfl⟩
        rw [hS] at hs HS ⊢
        clear hS
        by_cases hc : szv (left - l0.length - S) (szInt64S (rdLL l0 i)) < 0
        · have t2 : decide (szv (left - l0.length - S) (szInt64S (rdLL l0 i)) < 0) = true := decide_eq_true hc
          have HE : Aside0 (szv left (szInt64SS l0) = -1) := ⟨by
            have h3 := szsum_le szInt64S l0 (i + 1).toNat
            rw [HS.out] at h3
            unfold szInt64SS szv
            rw [if_neg]
            unfold szv at hc
            split at hc <;> omega⟩
          go_wp2_with (go_at_call 59; (with_reducible refine (szInt64S_at wr _ _ (rdLL l0 i) _ _ z0 (by omega) (by omega)).mono ?_); rintro e w1 ⟨rfl, hb⟩; have HB1 := Aside0.mk (below_step (w := w) bel hb); clear hb)
          go_ret
          exact ⟨by rw [HE.out]; rfl, bel⟩
        · have t2 : decide (szv (left - l0.length - S) (szInt64S (rdLL l0 i)) < 0) = false := decide_eq_false hc
          have hp := szv_pos hc
          have HE : Aside0 (szv (left - l0.length - S) (szInt64S (rdLL l0 i)) = left - l0.length - S - (szInt64S (rdLL l0 i) : Nat)) := ⟨if_pos hp⟩
          clear hc
          go_wp2_with (go_at_call 59; (with_reducible refine (szInt64S_at wr _ _ (rdLL l0 i) _ _ z0 (by omega) (by omega)).mono ?_); rintro e w1 ⟨rfl, hb⟩; have HB1 := Aside0.mk (below_step (w := w) bel hb); clear hb)
          go_roundw
          case rel => exact ⟨i + 1, by omega, by omega, rfl, by rw [HE.out, HS.out]; congr 1; omega, by rw [HS.out]; omega, ⟨bel⟩⟩
          case measure => simp [intOf]; omega
      · obtain rfl : i = l0.length := by omega
        have HE : Aside0 (szv left (szInt64SS l0) = left - l0.length - szsum szInt64S l0) := ⟨by
          rw [show (l0.length : Int).toNat = l0.length from by simp, List.take_length] at hs
          unfold szInt64SS szv
          rw [if_pos (by omega)]
          omega⟩
        go_wp2
        go_ret
        exact ⟨by rw [HE.out]; rfl, bel⟩
  · have t : decide (left - (l0.length : Int) < 0) = true := decide_eq_true (by omega)
    have HE : Aside0 (szv left (szInt64SS l0) = -1) := ⟨by unfold szInt64SS szv; rw [if_neg (by omega)]⟩
    go_enter Try.func36, Try.ntmps36
    go_wp2
    go_ret
    exact ⟨by rw [HE.out]; rfl, bel⟩
theorem szInt64SS_at (w0 : World) (A0 : Option Addr) (c0 : Nat) (l0 : List (List Int)) (left : Int) (w : World) (hr : Kd.C (Kd.slice 2 (Kd.int .i64)) w0 A0 l0.length l0) (h0 : 0 ≤ left) (h1 : left ≤ 1048576) (hb : Below w0.heap.size w0 w := by exact bel) :
    Calls Try.prog 36 #[.slice A0 l0.length c0, .int .i64 left] w fun e w' => e = .returned (.int .i64 (szv left (szInt64SS l0))) ∧ Below w.heap.size w w' := szInt64SS_calls A0 c0 l0 left w (Kd.C_below hr hb) h0 h1

set_option maxHeartbeats 1000000 in
theorem szConstS_calls (A0 : Option Addr) (c0 : Nat) (n : Nat) (left : Int) (w : World) (hn : n ≤ 9223372036854775807) (h0 : 0 ≤ left) (h1 : left ≤ 1048576) :
    Calls Try.prog 37 #[.slice A0 n c0, .int .i64 left] w fun e w' => e = .returned (.int .i64 (szv left n)) ∧ Below w.heap.size w w' := by
  by_cases h : (n : Int) ≤ left
  · have HE : Aside0 (szv left n = left - n) := ⟨if_pos h⟩
    have t : decide (left - (n : Int) < 0) = false := decide_eq_false (by omega)
    go_enter Try.func37, Try.ntmps37
    go_wp2
    go_ret
    exact ⟨by rw [HE.out]; rfl, bel⟩
  · have HE : Aside0 (szv left n = -1) := ⟨if_neg h⟩
    have t : decide (left - (n : Int) < 0) = true := decide_eq_true (by omega)
    go_enter Try.func37, Try.ntmps37
    go_wp2
    go_ret
    exact ⟨by rw [HE.out]; rfl, bel⟩
def szConstS (l : List MConst) : Nat := l.length
theorem szConstS_at (w0 : World) (A0 : Option Addr) (c0 : Nat) (l0 : List MConst) (left : Int) (w : World) (hr : Kd.C kConst_L w0 A0 l0.length l0) (h0 : 0 ≤ left) (h1 : left ≤ 1048576) (hb : Below w0.heap.size w0 w := by exact bel) :
    Calls Try.prog 37 #[.slice A0 l0.length c0, .int .i64 left] w fun e w' => e = .returned (.int .i64 (szv left (szConstS l0))) ∧ Below w.heap.size w w' := szConstS_calls A0 c0 l0.length left w hr.2.1 h0 h1

set_option maxHeartbeats 1000000 in
theorem szInstrS_calls (A0 : Option Addr) (c0 : Nat) (n : Nat) (left : Int) (w : World) (hn : n ≤ 9223372036854775807) (h0 : 0 ≤ left) (h1 : left ≤ 1048576) :
    Calls Try.prog 69 #[.slice A0 n c0, .int .i64 left] w fun e w' => e = .returned (.int .i64 (szv left n)) ∧ Below w.heap.size w w' := by
  by_cases h : (n : Int) ≤ left
  · have HE : Aside0 (szv left n = left - n) := ⟨if_pos h⟩
    have t : decide (left - (n : Int) < 0) = false := decide_eq_false (by omega)
    go_enter Try.func69, Try.ntmps69
    go_wp2
    go_ret
    exact ⟨by rw [HE.out]; rfl, bel⟩
  · have HE : Aside0 (szv left n = -1) := ⟨if_neg h⟩
    have t : decide (left - (n : Int) < 0) = true := decide_eq_true (by omega)
    go_enter Try.func69, Try.ntmps69
    go_wp2
    go_ret
    exact ⟨by rw [HE.out]; rfl, bel⟩
def szInstrS (l : List MInstr) : Nat := l.length
theorem szInstrS_at (w0 : World) (A0 : Option Addr) (c0 : Nat) (l0 : List MInstr) (left : Int) (w : World) (hr : Kd.C kInstr_L w0 A0 l0.length l0) (h0 : 0 ≤ left) (h1 : left ≤ 1048576) (hb : Below w0.heap.size w0 w := by exact bel) :
    Calls Try.prog 69 #[.slice A0 l0.length c0, .int .i64 left] w fun e w' => e = .returned (.int .i64 (szv left (szInstrS l0))) ∧ Below w.heap.size w w' := szInstrS_calls A0 c0 l0.length left w hr.2.1 h0 h1

def szFunc (x : MFunc) : Nat := szInt64S x.params + szInt64S x.locals + szInstrS x.code

set_option maxHeartbeats 1000000 in
set_option maxRecDepth 100000 in
theorem szFunc_calls (A0 : Option Addr) (c0 : Nat) (A2 : Option Addr) (c2 : Nat) (A3 : Option Addr) (c3 : Nat) (x : MFunc) (left : Int) (w : World) (h0 : Kd.C (Kd.int .i64) w A0 x.params.length x.params) (h2 : Kd.C (Kd.int .i64) w A2 x.locals.length x.locals) (h3 : Kd.C kInstr_L w A3 x.code.length x.code) (l0 : 0 ≤ left) (l1 : left ≤ 1048576) :
    Calls Try.prog 60 #[.agg #[.slice A0 x.params.length c0, .int .i64 x.result, .slice A2 x.locals.length c2, .slice A3 x.code.length c3], .int .i64 left] w fun e w' => e = .returned (.int .i64 (szv left (szFunc x))) ∧ Below w.heap.size w w' := by
  have H0 := Aside0.mk h0; have H2 := Aside0.mk h2; have H3 := Aside0.mk h3; have HB := Aside0.mk (Below.refl w.heap.size w)
  clear h0 h2 h3

  by_cases q0 : szv (left) (szInt64S x.params) < 0
  · have t0 : decide (szv (left) (szInt64S x.params) < 0) = true := decide_eq_true q0
    have HE : Aside0 (szv left (szFunc x) = -1 ∧ szv (left) (szInt64S x.params) = -1) := ⟨by
      refine ⟨?_, szv_neg' (by omega) q0⟩
      have e := q0
      have z := szv_neg (szInt64S x.locals + szInstrS x.code) l0 e
      exact (congrArg _ (by unfold szFunc; omega)).trans z⟩
    go_enter Try.func60, Try.ntmps60
    go_wp2_with (first | (go_at_call 59; (with_reducible refine (szInt64S_at w _ _ x.params _ _ H0.out (by omega) (by omega)).mono ?_); rintro e w1 ⟨rfl, hb⟩; have n_ := Aside0.mk (below_step (w := w) bel hb); obtain ⟨hc, hf⟩ := bcell hb; have hz : w.heap.size < w1.heap.size := Nat.lt_of_lt_of_le (by first | assumption | (simp; done) | (simp; omega)) hb.size; clear HB hb; have HB := n_; clear n_) | (go_at_call 59; (with_reducible refine (szInt64S_at w _ _ x.locals _ _ H2.out (by omega) (by omega)).mono ?_); rintro e w1 ⟨rfl, hb⟩; have n_ := Aside0.mk (below_step (w := w) bel hb); obtain ⟨hc, hf⟩ := bcell hb; have hz : w.heap.size < w1.heap.size := Nat.lt_of_lt_of_le (by first | assumption | (simp; done) | (simp; omega)) hb.size; clear HB hb; have HB := n_; clear n_) | (go_at_call 69; (with_reducible refine (szInstrS_at w _ _ x.code _ _ H3.out (by omega) (by omega)).mono ?_); rintro e w1 ⟨rfl, hb⟩; have n_ := Aside0.mk (below_step (w := w) bel hb); obtain ⟨hc, hf⟩ := bcell hb; have hz : w.heap.size < w1.heap.size := Nat.lt_of_lt_of_le (by first | assumption | (simp; done) | (simp; omega)) hb.size; clear HB hb; have HB := n_; clear n_))
    go_ret
    exact ⟨by rw [HE.out.1]; rfl, bel⟩
  have t0 : decide (szv (left) (szInt64S x.params) < 0) = false := decide_eq_false q0
  have u0 := szv_le (left := left) (szInt64S x.params) (by omega)
  have v0 : 0 ≤ szv (left) (szInt64S x.params) := by omega

  by_cases q1 : szv (szv (left) (szInt64S x.params)) (szInt64S x.locals) < 0
  · have t1 : decide (szv (szv (left) (szInt64S x.params)) (szInt64S x.locals) < 0) = true := decide_eq_true q1
    have HE : Aside0 (szv left (szFunc x) = -1 ∧ szv (szv (left) (szInt64S x.params)) (szInt64S x.locals) = -1) := ⟨by
      refine ⟨?_, szv_neg' (by omega) q1⟩
      have e := q1
      rw [szv_add q0] at e; have z := szv_neg (szInstrS x.code) l0 e
      exact (congrArg _ (by unfold szFunc; omega)).trans z⟩
    go_enter Try.func60, Try.ntmps60
    go_wp2_with (first | (go_at_call 59; (with_reducible refine (szInt64S_at w _ _ x.params _ _ H0.out (by omega) (by omega)).mono ?_); rintro e w1 ⟨rfl, hb⟩; have n_ := Aside0.mk (below_step (w := w) bel hb); obtain ⟨hc, hf⟩ := bcell hb; have hz : w.heap.size < w1.heap.size := Nat.lt_of_lt_of_le (by first | assumption | (simp; done) | (simp; omega)) hb.size; clear HB hb; have HB := n_; clear n_) | (go_at_call 59; (with_reducible refine (szInt64S_at w _ _ x.locals _ _ H2.out (by omega) (by omega)).mono ?_); rintro e w1 ⟨rfl, hb⟩; have n_ := Aside0.mk (below_step (w := w) bel hb); obtain ⟨hc, hf⟩ := bcell hb; have hz : w.heap.size < w1.heap.size := Nat.lt_of_lt_of_le (by first | assumption | (simp; done) | (simp; omega)) hb.size; clear HB hb; have HB := n_; clear n_) | (go_at_call 69; (with_reducible refine (szInstrS_at w _ _ x.code _ _ H3.out (by omega) (by omega)).mono ?_); rintro e w1 ⟨rfl, hb⟩; have n_ := Aside0.mk (below_step (w := w) bel hb); obtain ⟨hc, hf⟩ := bcell hb; have hz : w.heap.size < w1.heap.size := Nat.lt_of_lt_of_le (by first | assumption | (simp; done) | (simp; omega)) hb.size; clear HB hb; have HB := n_; clear n_))
    go_ret
    exact ⟨by rw [HE.out.1]; rfl, bel⟩
  have t1 : decide (szv (szv (left) (szInt64S x.params)) (szInt64S x.locals) < 0) = false := decide_eq_false q1
  have u1 := szv_le (left := szv (left) (szInt64S x.params)) (szInt64S x.locals) (by omega)
  have v1 : 0 ≤ szv (szv (left) (szInt64S x.params)) (szInt64S x.locals) := by omega

  by_cases q2 : szv (szv (szv (left) (szInt64S x.params)) (szInt64S x.locals)) (szInstrS x.code) < 0
  · have t2 : decide (szv (szv (szv (left) (szInt64S x.params)) (szInt64S x.locals)) (szInstrS x.code) < 0) = true := decide_eq_true q2
    have HE : Aside0 (szv left (szFunc x) = -1 ∧ szv (szv (szv (left) (szInt64S x.params)) (szInt64S x.locals)) (szInstrS x.code) = -1) := ⟨by
      refine ⟨?_, szv_neg' (by omega) q2⟩
      have e := q2
      rw [szv_add q1, szv_add q0] at e; have z := szv_neg (0) l0 e
      exact (congrArg _ (by unfold szFunc; omega)).trans z⟩
    go_enter Try.func60, Try.ntmps60
    go_wp2_with (first | (go_at_call 59; (with_reducible refine (szInt64S_at w _ _ x.params _ _ H0.out (by omega) (by omega)).mono ?_); rintro e w1 ⟨rfl, hb⟩; have n_ := Aside0.mk (below_step (w := w) bel hb); obtain ⟨hc, hf⟩ := bcell hb; have hz : w.heap.size < w1.heap.size := Nat.lt_of_lt_of_le (by first | assumption | (simp; done) | (simp; omega)) hb.size; clear HB hb; have HB := n_; clear n_) | (go_at_call 59; (with_reducible refine (szInt64S_at w _ _ x.locals _ _ H2.out (by omega) (by omega)).mono ?_); rintro e w1 ⟨rfl, hb⟩; have n_ := Aside0.mk (below_step (w := w) bel hb); obtain ⟨hc, hf⟩ := bcell hb; have hz : w.heap.size < w1.heap.size := Nat.lt_of_lt_of_le (by first | assumption | (simp; done) | (simp; omega)) hb.size; clear HB hb; have HB := n_; clear n_) | (go_at_call 69; (with_reducible refine (szInstrS_at w _ _ x.code _ _ H3.out (by omega) (by omega)).mono ?_); rintro e w1 ⟨rfl, hb⟩; have n_ := Aside0.mk (below_step (w := w) bel hb); obtain ⟨hc, hf⟩ := bcell hb; have hz : w.heap.size < w1.heap.size := Nat.lt_of_lt_of_le (by first | assumption | (simp; done) | (simp; omega)) hb.size; clear HB hb; have HB := n_; clear n_))
    go_ret
    exact ⟨by rw [HE.out.1]; rfl, bel⟩
  have t2 : decide (szv (szv (szv (left) (szInt64S x.params)) (szInt64S x.locals)) (szInstrS x.code) < 0) = false := decide_eq_false q2
  have u2 := szv_le (left := szv (szv (left) (szInt64S x.params)) (szInt64S x.locals)) (szInstrS x.code) (by omega)
  have v2 : 0 ≤ szv (szv (szv (left) (szInt64S x.params)) (szInt64S x.locals)) (szInstrS x.code) := by omega

  have HE : Aside0 (szv left (szFunc x) = szv (szv (szv (left) (szInt64S x.params)) (szInt64S x.locals)) (szInstrS x.code)) := ⟨by (try rw [szv_add q1, szv_add q0]); exact congrArg _ (by unfold szFunc; omega)⟩
  go_enter Try.func60, Try.ntmps60
  go_wp2_with (first | (go_at_call 59; (with_reducible refine (szInt64S_at w _ _ x.params _ _ H0.out (by omega) (by omega)).mono ?_); rintro e w1 ⟨rfl, hb⟩; have n_ := Aside0.mk (below_step (w := w) bel hb); obtain ⟨hc, hf⟩ := bcell hb; have hz : w.heap.size < w1.heap.size := Nat.lt_of_lt_of_le (by first | assumption | (simp; done) | (simp; omega)) hb.size; clear HB hb; have HB := n_; clear n_) | (go_at_call 59; (with_reducible refine (szInt64S_at w _ _ x.locals _ _ H2.out (by omega) (by omega)).mono ?_); rintro e w1 ⟨rfl, hb⟩; have n_ := Aside0.mk (below_step (w := w) bel hb); obtain ⟨hc, hf⟩ := bcell hb; have hz : w.heap.size < w1.heap.size := Nat.lt_of_lt_of_le (by first | assumption | (simp; done) | (simp; omega)) hb.size; clear HB hb; have HB := n_; clear n_) | (go_at_call 69; (with_reducible refine (szInstrS_at w _ _ x.code _ _ H3.out (by omega) (by omega)).mono ?_); rintro e w1 ⟨rfl, hb⟩; have n_ := Aside0.mk (below_step (w := w) bel hb); obtain ⟨hc, hf⟩ := bcell hb; have hz : w.heap.size < w1.heap.size := Nat.lt_of_lt_of_le (by first | assumption | (simp; done) | (simp; omega)) hb.size; clear HB hb; have HB := n_; clear n_))
  go_ret
  exact ⟨by rw [HE.out]; rfl, bel⟩

theorem szFunc_at (w0 : World) (A0 : Option Addr) (c0 : Nat) (A2 : Option Addr) (c2 : Nat) (A3 : Option Addr) (c3 : Nat) (x : MFunc) (left : Int) (w : World) (h0 : Kd.C (Kd.int .i64) w0 A0 x.params.length x.params) (h2 : Kd.C (Kd.int .i64) w0 A2 x.locals.length x.locals) (h3 : Kd.C kInstr_L w0 A3 x.code.length x.code) (l0 : 0 ≤ left) (l1 : left ≤ 1048576) (hb : Below w0.heap.size w0 w := by exact bel) :
    Calls Try.prog 60 #[.agg #[.slice A0 x.params.length c0, .int .i64 x.result, .slice A2 x.locals.length c2, .slice A3 x.code.length c3], .int .i64 left] w fun e w' => e = .returned (.int .i64 (szv left (szFunc x))) ∧ Below w.heap.size w w' := szFunc_calls A0 c0 A2 c2 A3 c3 x left w (Kd.C_below h0 hb) (Kd.C_below h2 hb) (Kd.C_below h3 hb) l0 l1

def szFuncS (l : List MFunc) : Nat := l.length + szsum szFunc l
set_option maxHeartbeats 1000000 in
set_option maxRecDepth 100000 in
theorem szFuncS_calls (A0 : Option Addr) (c0 : Nat) (l0 : List MFunc) (left : Int) (w : World) (hr : Kd.C kFunc_L w A0 l0.length l0) (h0 : 0 ≤ left) (h1 : left ≤ 1048576) :
    Calls Try.prog 38 #[.slice A0 l0.length c0, .int .i64 left] w fun e w' => e = .returned (.int .i64 (szv left (szFuncS l0))) ∧ Below w.heap.size w w' := by
  have hm : l0.length ≤ 9223372036854775807 := hr.2.1
  have HR := Aside0.mk hr
  clear hr
  by_cases h : (l0.length : Int) ≤ left
  · have t : decide (left - (l0.length : Int) < 0) = false := decide_eq_false (by omega)
    go_enter Try.func38, Try.ntmps38
    go_wp2
    go_loopw [1, 5] (fun u v wr => ∃ i : Int, 0 ≤ i ∧ i ≤ l0.length ∧ v = .int .i64 i ∧ u = .int .i64 (left - l0.length - szsum szFunc (l0.take i.toNat)) ∧ ((szsum szFunc (l0.take i.toNat) : Nat) : Int) ≤ left - l0.length ∧ Aside0 (Below w.heap.size w wr)) (fun _ v _ => ((l0.length : Int) - intOf v).toNat)
    case atStart => exact ⟨0, by omega, by omega, rfl, by simp [szsum], by simp [szsum]; omega, ⟨Below.refl _ _⟩⟩
    case round =>
      obtain ⟨i, i0, hi, rfl, rfl, hs, HB⟩ := hrel
      by_cases hlt : i < l0.length
      · obtain ⟨ad0, B00, b00, B02, b02, B03, b03, e0, x00, x01, x02, x03, y00, z00, y02, z02, y03, z03⟩ := atFunc_L (Kd.C_below HR.out HB.out) i i0 hlt
        cases e0
        have st := szsum_step szFunc zFunc l0 i.toNat (by omega)
        have HS : Aside0 (szsum szFunc (l0.take (i + 1).toNat) = szsum szFunc (l0.take i.toNat) + szFunc (rdFunc l0 i)) := ⟨by rw [show (i + 1).toNat = i.toNat + 1 by omega]; exact st⟩
        clear st
        obtain ⟨S, hS⟩ : ∃ S, szsum szFunc (l0.take i.toNat) = S := ⟨_, rfl⟩
        rw [hS] at hs HS ⊢
        clear hS
        by_cases hc : szv (left - l0.length - S) (szFunc (rdFunc l0 i)) < 0
        · have t2 : decide (szv (left - l0.length - S) (szFunc (rdFunc l0 i)) < 0) = true := decide_eq_true hc
          have HE : Aside0 (szv left (szFuncS l0) = -1) := ⟨by
            have h3 := szsum_le szFunc l0 (i + 1).toNat
            rw [HS.out] at h3
            unfold szFuncS szv
            rw [if_neg]
            unfold szv at hc
            split at hc <;> omega⟩
          go_wp2_with (go_at_call 60; (with_reducible refine (szFunc_at wr _ _ _ _ _ _ (rdFunc l0 i) _ _ z00 z02 z03 (by omega) (by omega)).mono ?_); rintro e w1 ⟨rfl, hb⟩; have HB1 := Aside0.mk (below_step (w := w) bel hb); clear hb)
          go_ret
          exact ⟨by rw [HE.out]; rfl, bel⟩
        · have t2 : decide (szv (left - l0.length - S) (szFunc (rdFunc l0 i)) < 0) = false := decide_eq_false hc
          have hp := szv_pos hc
          have HE : Aside0 (szv (left - l0.length - S) (szFunc (rdFunc l0 i)) = left - l0.length - S - (szFunc (rdFunc l0 i) : Nat)) := ⟨if_pos hp⟩
          clear hc
          go_wp2_with (go_at_call 60; (with_reducible refine (szFunc_at wr _ _ _ _ _ _ (rdFunc l0 i) _ _ z00 z02 z03 (by omega) (by omega)).mono ?_); rintro e w1 ⟨rfl, hb⟩; have HB1 := Aside0.mk (below_step (w := w) bel hb); clear hb)
          go_roundw
          case rel => exact ⟨i + 1, by omega, by omega, rfl, by rw [HE.out, HS.out]; congr 1; omega, by rw [HS.out]; omega, ⟨bel⟩⟩
          case measure => simp [intOf]; omega
      · obtain rfl : i = l0.length := by omega
        have HE : Aside0 (szv left (szFuncS l0) = left - l0.length - szsum szFunc l0) := ⟨by
          rw [show (l0.length : Int).toNat = l0.length from by simp, List.take_length] at hs
          unfold szFuncS szv
          rw [if_pos (by omega)]
          omega⟩
        go_wp2
        go_ret
        exact ⟨by rw [HE.out]; rfl, bel⟩
  · have t : decide (left - (l0.length : Int) < 0) = true := decide_eq_true (by omega)
    have HE : Aside0 (szv left (szFuncS l0) = -1) := ⟨by unfold szFuncS szv; rw [if_neg (by omega)]⟩
    go_enter Try.func38, Try.ntmps38
    go_wp2
    go_ret
    exact ⟨by rw [HE.out]; rfl, bel⟩
theorem szFuncS_at (w0 : World) (A0 : Option Addr) (c0 : Nat) (l0 : List MFunc) (left : Int) (w : World) (hr : Kd.C kFunc_L w0 A0 l0.length l0) (h0 : 0 ≤ left) (h1 : left ≤ 1048576) (hb : Below w0.heap.size w0 w := by exact bel) :
    Calls Try.prog 38 #[.slice A0 l0.length c0, .int .i64 left] w fun e w' => e = .returned (.int .i64 (szv left (szFuncS l0))) ∧ Below w.heap.size w w' := szFuncS_calls A0 c0 l0 left w (Kd.C_below hr hb) h0 h1

set_option maxHeartbeats 1000000 in
theorem szCertS_calls (A0 : Option Addr) (c0 : Nat) (n : Nat) (left : Int) (w : World) (hn : n ≤ 9223372036854775807) (h0 : 0 ≤ left) (h1 : left ≤ 1048576) :
    Calls Try.prog 39 #[.slice A0 n c0, .int .i64 left] w fun e w' => e = .returned (.int .i64 (szv left n)) ∧ Below w.heap.size w w' := by
  by_cases h : (n : Int) ≤ left
  · have HE : Aside0 (szv left n = left - n) := ⟨if_pos h⟩
    have t : decide (left - (n : Int) < 0) = false := decide_eq_false (by omega)
    go_enter Try.func39, Try.ntmps39
    go_wp2
    go_ret
    exact ⟨by rw [HE.out]; rfl, bel⟩
  · have HE : Aside0 (szv left n = -1) := ⟨if_neg h⟩
    have t : decide (left - (n : Int) < 0) = true := decide_eq_true (by omega)
    go_enter Try.func39, Try.ntmps39
    go_wp2
    go_ret
    exact ⟨by rw [HE.out]; rfl, bel⟩
def szCertS (l : List MCert) : Nat := l.length
theorem szCertS_at (w0 : World) (A0 : Option Addr) (c0 : Nat) (l0 : List MCert) (left : Int) (w : World) (hr : Kd.C kCert_L w0 A0 l0.length l0) (h0 : 0 ≤ left) (h1 : left ≤ 1048576) (hb : Below w0.heap.size w0 w := by exact bel) :
    Calls Try.prog 39 #[.slice A0 l0.length c0, .int .i64 left] w fun e w' => e = .returned (.int .i64 (szv left (szCertS l0))) ∧ Below w.heap.size w w' := szCertS_calls A0 c0 l0.length left w hr.2.1 h0 h1

def szProgram (x : MProgram) : Nat := szInt64SS x.regions + szConstS x.consts + szFuncS x.funcs + szCertS x.certs

set_option maxHeartbeats 1000000 in
set_option maxRecDepth 100000 in
theorem szProgram_calls (A0 : Option Addr) (c0 : Nat) (A1 : Option Addr) (c1 : Nat) (A2 : Option Addr) (c2 : Nat) (A3 : Option Addr) (c3 : Nat) (x : MProgram) (left : Int) (w : World) (h0 : Kd.C (Kd.slice 2 (Kd.int .i64)) w A0 x.regions.length x.regions) (h1 : Kd.C kConst_L w A1 x.consts.length x.consts) (h2 : Kd.C kFunc_L w A2 x.funcs.length x.funcs) (h3 : Kd.C kCert_L w A3 x.certs.length x.certs) (l0 : 0 ≤ left) (l1 : left ≤ 1048576) :
    Calls Try.prog 14 #[.agg #[.slice A0 x.regions.length c0, .slice A1 x.consts.length c1, .slice A2 x.funcs.length c2, .slice A3 x.certs.length c3], .int .i64 left] w fun e w' => e = .returned (.int .i64 (szv left (szProgram x))) ∧ Below w.heap.size w w' := by
  have H0 := Aside0.mk h0; have H1 := Aside0.mk h1; have H2 := Aside0.mk h2; have H3 := Aside0.mk h3; have HB := Aside0.mk (Below.refl w.heap.size w)
  clear h0 h1 h2 h3

  by_cases q0 : szv (left) (szInt64SS x.regions) < 0
  · have t0 : decide (szv (left) (szInt64SS x.regions) < 0) = true := decide_eq_true q0
    have HE : Aside0 (szv left (szProgram x) = -1 ∧ szv (left) (szInt64SS x.regions) = -1) := ⟨by
      refine ⟨?_, szv_neg' (by omega) q0⟩
      have e := q0
      have z := szv_neg (szConstS x.consts + szFuncS x.funcs + szCertS x.certs) l0 e
      exact (congrArg _ (by unfold szProgram; omega)).trans z⟩
    go_enter Try.func14, Try.ntmps14
    go_wp2_with (first | (go_at_call 36; (with_reducible refine (szInt64SS_at w _ _ x.regions _ _ H0.out (by omega) (by omega)).mono ?_); rintro e w1 ⟨rfl, hb⟩; have n_ := Aside0.mk (below_step (w := w) bel hb); obtain ⟨hc, hf⟩ := bcell hb; have hz : w.heap.size < w1.heap.size := Nat.lt_of_lt_of_le (by first | assumption | (simp; done) | (simp; omega)) hb.size; clear HB hb; have HB := n_; clear n_) | (go_at_call 37; (with_reducible refine (szConstS_at w _ _ x.consts _ _ H1.out (by omega) (by omega)).mono ?_); rintro e w1 ⟨rfl, hb⟩; have n_ := Aside0.mk (below_step (w := w) bel hb); obtain ⟨hc, hf⟩ := bcell hb; have hz : w.heap.size < w1.heap.size := Nat.lt_of_lt_of_le (by first | assumption | (simp; done) | (simp; omega)) hb.size; clear HB hb; have HB := n_; clear n_) | (go_at_call 38; (with_reducible refine (szFuncS_at w _ _ x.funcs _ _ H2.out (by omega) (by omega)).mono ?_); rintro e w1 ⟨rfl, hb⟩; have n_ := Aside0.mk (below_step (w := w) bel hb); obtain ⟨hc, hf⟩ := bcell hb; have hz : w.heap.size < w1.heap.size := Nat.lt_of_lt_of_le (by first | assumption | (simp; done) | (simp; omega)) hb.size; clear HB hb; have HB := n_; clear n_) | (go_at_call 39; (with_reducible refine (szCertS_at w _ _ x.certs _ _ H3.out (by omega) (by omega)).mono ?_); rintro e w1 ⟨rfl, hb⟩; have n_ := Aside0.mk (below_step (w := w) bel hb); obtain ⟨hc, hf⟩ := bcell hb; have hz : w.heap.size < w1.heap.size := Nat.lt_of_lt_of_le (by first | assumption | (simp; done) | (simp; omega)) hb.size; clear HB hb; have HB := n_; clear n_))
    go_ret
    exact ⟨by rw [HE.out.1]; rfl, bel⟩
  have t0 : decide (szv (left) (szInt64SS x.regions) < 0) = false := decide_eq_false q0
  have u0 := szv_le (left := left) (szInt64SS x.regions) (by omega)
  have v0 : 0 ≤ szv (left) (szInt64SS x.regions) := by omega

  by_cases q1 : szv (szv (left) (szInt64SS x.regions)) (szConstS x.consts) < 0
  · have t1 : decide (szv (szv (left) (szInt64SS x.regions)) (szConstS x.consts) < 0) = true := decide_eq_true q1
    have HE : Aside0 (szv left (szProgram x) = -1 ∧ szv (szv (left) (szInt64SS x.regions)) (szConstS x.consts) = -1) := ⟨by
      refine ⟨?_, szv_neg' (by omega) q1⟩
      have e := q1
      rw [szv_add q0] at e; have z := szv_neg (szFuncS x.funcs + szCertS x.certs) l0 e
      exact (congrArg _ (by unfold szProgram; omega)).trans z⟩
    go_enter Try.func14, Try.ntmps14
    go_wp2_with (first | (go_at_call 36; (with_reducible refine (szInt64SS_at w _ _ x.regions _ _ H0.out (by omega) (by omega)).mono ?_); rintro e w1 ⟨rfl, hb⟩; have n_ := Aside0.mk (below_step (w := w) bel hb); obtain ⟨hc, hf⟩ := bcell hb; have hz : w.heap.size < w1.heap.size := Nat.lt_of_lt_of_le (by first | assumption | (simp; done) | (simp; omega)) hb.size; clear HB hb; have HB := n_; clear n_) | (go_at_call 37; (with_reducible refine (szConstS_at w _ _ x.consts _ _ H1.out (by omega) (by omega)).mono ?_); rintro e w1 ⟨rfl, hb⟩; have n_ := Aside0.mk (below_step (w := w) bel hb); obtain ⟨hc, hf⟩ := bcell hb; have hz : w.heap.size < w1.heap.size := Nat.lt_of_lt_of_le (by first | assumption | (simp; done) | (simp; omega)) hb.size; clear HB hb; have HB := n_; clear n_) | (go_at_call 38; (with_reducible refine (szFuncS_at w _ _ x.funcs _ _ H2.out (by omega) (by omega)).mono ?_); rintro e w1 ⟨rfl, hb⟩; have n_ := Aside0.mk (below_step (w := w) bel hb); obtain ⟨hc, hf⟩ := bcell hb; have hz : w.heap.size < w1.heap.size := Nat.lt_of_lt_of_le (by first | assumption | (simp; done) | (simp; omega)) hb.size; clear HB hb; have HB := n_; clear n_) | (go_at_call 39; (with_reducible refine (szCertS_at w _ _ x.certs _ _ H3.out (by omega) (by omega)).mono ?_); rintro e w1 ⟨rfl, hb⟩; have n_ := Aside0.mk (below_step (w := w) bel hb); obtain ⟨hc, hf⟩ := bcell hb; have hz : w.heap.size < w1.heap.size := Nat.lt_of_lt_of_le (by first | assumption | (simp; done) | (simp; omega)) hb.size; clear HB hb; have HB := n_; clear n_))
    go_ret
    exact ⟨by rw [HE.out.1]; rfl, bel⟩
  have t1 : decide (szv (szv (left) (szInt64SS x.regions)) (szConstS x.consts) < 0) = false := decide_eq_false q1
  have u1 := szv_le (left := szv (left) (szInt64SS x.regions)) (szConstS x.consts) (by omega)
  have v1 : 0 ≤ szv (szv (left) (szInt64SS x.regions)) (szConstS x.consts) := by omega

  by_cases q2 : szv (szv (szv (left) (szInt64SS x.regions)) (szConstS x.consts)) (szFuncS x.funcs) < 0
  · have t2 : decide (szv (szv (szv (left) (szInt64SS x.regions)) (szConstS x.consts)) (szFuncS x.funcs) < 0) = true := decide_eq_true q2
    have HE : Aside0 (szv left (szProgram x) = -1 ∧ szv (szv (szv (left) (szInt64SS x.regions)) (szConstS x.consts)) (szFuncS x.funcs) = -1) := ⟨by
      refine ⟨?_, szv_neg' (by omega) q2⟩
      have e := q2
      rw [szv_add q1, szv_add q0] at e; have z := szv_neg (szCertS x.certs) l0 e
      exact (congrArg _ (by unfold szProgram; omega)).trans z⟩
    go_enter Try.func14, Try.ntmps14
    go_wp2_with (first | (go_at_call 36; (with_reducible refine (szInt64SS_at w _ _ x.regions _ _ H0.out (by omega) (by omega)).mono ?_); rintro e w1 ⟨rfl, hb⟩; have n_ := Aside0.mk (below_step (w := w) bel hb); obtain ⟨hc, hf⟩ := bcell hb; have hz : w.heap.size < w1.heap.size := Nat.lt_of_lt_of_le (by first | assumption | (simp; done) | (simp; omega)) hb.size; clear HB hb; have HB := n_; clear n_) | (go_at_call 37; (with_reducible refine (szConstS_at w _ _ x.consts _ _ H1.out (by omega) (by omega)).mono ?_); rintro e w1 ⟨rfl, hb⟩; have n_ := Aside0.mk (below_step (w := w) bel hb); obtain ⟨hc, hf⟩ := bcell hb; have hz : w.heap.size < w1.heap.size := Nat.lt_of_lt_of_le (by first | assumption | (simp; done) | (simp; omega)) hb.size; clear HB hb; have HB := n_; clear n_) | (go_at_call 38; (with_reducible refine (szFuncS_at w _ _ x.funcs _ _ H2.out (by omega) (by omega)).mono ?_); rintro e w1 ⟨rfl, hb⟩; have n_ := Aside0.mk (below_step (w := w) bel hb); obtain ⟨hc, hf⟩ := bcell hb; have hz : w.heap.size < w1.heap.size := Nat.lt_of_lt_of_le (by first | assumption | (simp; done) | (simp; omega)) hb.size; clear HB hb; have HB := n_; clear n_) | (go_at_call 39; (with_reducible refine (szCertS_at w _ _ x.certs _ _ H3.out (by omega) (by omega)).mono ?_); rintro e w1 ⟨rfl, hb⟩; have n_ := Aside0.mk (below_step (w := w) bel hb); obtain ⟨hc, hf⟩ := bcell hb; have hz : w.heap.size < w1.heap.size := Nat.lt_of_lt_of_le (by first | assumption | (simp; done) | (simp; omega)) hb.size; clear HB hb; have HB := n_; clear n_))
    go_ret
    exact ⟨by rw [HE.out.1]; rfl, bel⟩
  have t2 : decide (szv (szv (szv (left) (szInt64SS x.regions)) (szConstS x.consts)) (szFuncS x.funcs) < 0) = false := decide_eq_false q2
  have u2 := szv_le (left := szv (szv (left) (szInt64SS x.regions)) (szConstS x.consts)) (szFuncS x.funcs) (by omega)
  have v2 : 0 ≤ szv (szv (szv (left) (szInt64SS x.regions)) (szConstS x.consts)) (szFuncS x.funcs) := by omega

  by_cases q3 : szv (szv (szv (szv (left) (szInt64SS x.regions)) (szConstS x.consts)) (szFuncS x.funcs)) (szCertS x.certs) < 0
  · have t3 : decide (szv (szv (szv (szv (left) (szInt64SS x.regions)) (szConstS x.consts)) (szFuncS x.funcs)) (szCertS x.certs) < 0) = true := decide_eq_true q3
    have HE : Aside0 (szv left (szProgram x) = -1 ∧ szv (szv (szv (szv (left) (szInt64SS x.regions)) (szConstS x.consts)) (szFuncS x.funcs)) (szCertS x.certs) = -1) := ⟨by
      refine ⟨?_, szv_neg' (by omega) q3⟩
      have e := q3
      rw [szv_add q2, szv_add q1, szv_add q0] at e; have z := szv_neg (0) l0 e
      exact (congrArg _ (by unfold szProgram; omega)).trans z⟩
    go_enter Try.func14, Try.ntmps14
    go_wp2_with (first | (go_at_call 36; (with_reducible refine (szInt64SS_at w _ _ x.regions _ _ H0.out (by omega) (by omega)).mono ?_); rintro e w1 ⟨rfl, hb⟩; have n_ := Aside0.mk (below_step (w := w) bel hb); obtain ⟨hc, hf⟩ := bcell hb; have hz : w.heap.size < w1.heap.size := Nat.lt_of_lt_of_le (by first | assumption | (simp; done) | (simp; omega)) hb.size; clear HB hb; have HB := n_; clear n_) | (go_at_call 37; (with_reducible refine (szConstS_at w _ _ x.consts _ _ H1.out (by omega) (by omega)).mono ?_); rintro e w1 ⟨rfl, hb⟩; have n_ := Aside0.mk (below_step (w := w) bel hb); obtain ⟨hc, hf⟩ := bcell hb; have hz : w.heap.size < w1.heap.size := Nat.lt_of_lt_of_le (by first | assumption | (simp; done) | (simp; omega)) hb.size; clear HB hb; have HB := n_; clear n_) | (go_at_call 38; (with_reducible refine (szFuncS_at w _ _ x.funcs _ _ H2.out (by omega) (by omega)).mono ?_); rintro e w1 ⟨rfl, hb⟩; have n_ := Aside0.mk (below_step (w := w) bel hb); obtain ⟨hc, hf⟩ := bcell hb; have hz : w.heap.size < w1.heap.size := Nat.lt_of_lt_of_le (by first | assumption | (simp; done) | (simp; omega)) hb.size; clear HB hb; have HB := n_; clear n_) | (go_at_call 39; (with_reducible refine (szCertS_at w _ _ x.certs _ _ H3.out (by omega) (by omega)).mono ?_); rintro e w1 ⟨rfl, hb⟩; have n_ := Aside0.mk (below_step (w := w) bel hb); obtain ⟨hc, hf⟩ := bcell hb; have hz : w.heap.size < w1.heap.size := Nat.lt_of_lt_of_le (by first | assumption | (simp; done) | (simp; omega)) hb.size; clear HB hb; have HB := n_; clear n_))
    go_ret
    exact ⟨by rw [HE.out.1]; rfl, bel⟩
  have t3 : decide (szv (szv (szv (szv (left) (szInt64SS x.regions)) (szConstS x.consts)) (szFuncS x.funcs)) (szCertS x.certs) < 0) = false := decide_eq_false q3
  have u3 := szv_le (left := szv (szv (szv (left) (szInt64SS x.regions)) (szConstS x.consts)) (szFuncS x.funcs)) (szCertS x.certs) (by omega)
  have v3 : 0 ≤ szv (szv (szv (szv (left) (szInt64SS x.regions)) (szConstS x.consts)) (szFuncS x.funcs)) (szCertS x.certs) := by omega

  have HE : Aside0 (szv left (szProgram x) = szv (szv (szv (szv (left) (szInt64SS x.regions)) (szConstS x.consts)) (szFuncS x.funcs)) (szCertS x.certs)) := ⟨by (try rw [szv_add q2, szv_add q1, szv_add q0]); exact congrArg _ (by unfold szProgram; omega)⟩
  go_enter Try.func14, Try.ntmps14
  go_wp2_with (first | (go_at_call 36; (with_reducible refine (szInt64SS_at w _ _ x.regions _ _ H0.out (by omega) (by omega)).mono ?_); rintro e w1 ⟨rfl, hb⟩; have n_ := Aside0.mk (below_step (w := w) bel hb); obtain ⟨hc, hf⟩ := bcell hb; have hz : w.heap.size < w1.heap.size := Nat.lt_of_lt_of_le (by first | assumption | (simp; done) | (simp; omega)) hb.size; clear HB hb; have HB := n_; clear n_) | (go_at_call 37; (with_reducible refine (szConstS_at w _ _ x.consts _ _ H1.out (by omega) (by omega)).mono ?_); rintro e w1 ⟨rfl, hb⟩; have n_ := Aside0.mk (below_step (w := w) bel hb); obtain ⟨hc, hf⟩ := bcell hb; have hz : w.heap.size < w1.heap.size := Nat.lt_of_lt_of_le (by first | assumption | (simp; done) | (simp; omega)) hb.size; clear HB hb; have HB := n_; clear n_) | (go_at_call 38; (with_reducible refine (szFuncS_at w _ _ x.funcs _ _ H2.out (by omega) (by omega)).mono ?_); rintro e w1 ⟨rfl, hb⟩; have n_ := Aside0.mk (below_step (w := w) bel hb); obtain ⟨hc, hf⟩ := bcell hb; have hz : w.heap.size < w1.heap.size := Nat.lt_of_lt_of_le (by first | assumption | (simp; done) | (simp; omega)) hb.size; clear HB hb; have HB := n_; clear n_) | (go_at_call 39; (with_reducible refine (szCertS_at w _ _ x.certs _ _ H3.out (by omega) (by omega)).mono ?_); rintro e w1 ⟨rfl, hb⟩; have n_ := Aside0.mk (below_step (w := w) bel hb); obtain ⟨hc, hf⟩ := bcell hb; have hz : w.heap.size < w1.heap.size := Nat.lt_of_lt_of_le (by first | assumption | (simp; done) | (simp; omega)) hb.size; clear HB hb; have HB := n_; clear n_))
  go_ret
  exact ⟨by rw [HE.out]; rfl, bel⟩

theorem szProgram_at (w0 : World) (A0 : Option Addr) (c0 : Nat) (A1 : Option Addr) (c1 : Nat) (A2 : Option Addr) (c2 : Nat) (A3 : Option Addr) (c3 : Nat) (x : MProgram) (left : Int) (w : World) (h0 : Kd.C (Kd.slice 2 (Kd.int .i64)) w0 A0 x.regions.length x.regions) (h1 : Kd.C kConst_L w0 A1 x.consts.length x.consts) (h2 : Kd.C kFunc_L w0 A2 x.funcs.length x.funcs) (h3 : Kd.C kCert_L w0 A3 x.certs.length x.certs) (l0 : 0 ≤ left) (l1 : left ≤ 1048576) (hb : Below w0.heap.size w0 w := by exact bel) :
    Calls Try.prog 14 #[.agg #[.slice A0 x.regions.length c0, .slice A1 x.consts.length c1, .slice A2 x.funcs.length c2, .slice A3 x.certs.length c3], .int .i64 left] w fun e w' => e = .returned (.int .i64 (szv left (szProgram x))) ∧ Below w.heap.size w w' := szProgram_calls A0 c0 A1 c1 A2 c2 A3 c3 x left w (Kd.C_below h0 hb) (Kd.C_below h1 hb) (Kd.C_below h2 hb) (Kd.C_below h3 hb) l0 l1

end Go.Proofs.Ytlnlbncinjiinab.X
