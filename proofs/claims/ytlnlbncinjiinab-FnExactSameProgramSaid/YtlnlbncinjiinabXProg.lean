/- Of this session: contracts over the words of the kit's print. -/
import Derived.Test.YtlnlbncinjiinabProg
import Derived.Below
import Derived.Deep.Draws
import Derived.Deep.AppendLies
import Derived.Maps.AppendAt
import Derived.OwnWalk
import Derived.Laws.BytesArg
import Derived.Laws.MakeOwn
import Derived.Laws.OwnMore
import Derived.Deep.OwnRows
import Derived.Tactics
import Derived.Lib.ConvBytes
import Derived.Laws.Slices
import Derived.WalkKit
import Derived.KernelRfl
import Derived.RowKit3
import Derived.Deep.LoopGhost
import Derived.Deep.QuietTactic
import Derived.BigQuiet
import Derived.WideLaws
import Derived.Deep.DeepCutAuto
import Derived.Deep.CutBlock
import Derived.Deep.RegionHeld3
import Derived.Laws.Rows
import Derived.Lib.AppendStr
import Derived.ArgAppend
import Derived.Laws.IdiomCopy
import Derived.OrdersHeld
import Derived.Laws.BitsLemmas
import Derived.RowKit
import Derived.StillTailTactics
import Derived.Test.YtlnlbncinjiinabWWords
import Derived.Test.YtlnlbncinjiinabWLast
import Derived.Test.YtlnlbncinjiinabWTab
import Derived.Test.YtlnlbncinjiinabWFour
import Derived.Test.YtlnlbncinjiinabWQPut
import Derived.Test.YtlnlbncinjiinabWApart
import Derived.Test.YtlnlbncinjiinabWArr
import Derived.Test.YtlnlbncinjiinabWZeros
import Derived.Test.YtlnlbncinjiinabWFoot
import Derived.Test.YtlnlbncinjiinabWKept
import Derived.Test.YtlnlbncinjiinabWShare
import Derived.Test.YtlnlbncinjiinabWN
import Derived.Test.YtlnlbncinjiinabWFootNe
import Derived.Test.YtlnlbncinjiinabWAt
import Derived.Test.YtlnlbncinjiinabWEqStruct
import Derived.Test.YtlnlbncinjiinabWRepsOne
import Derived.Test.YtlnlbncinjiinabWInv
import Derived.Test.YtlnlbncinjiinabWInvWords
import Derived.Test.YtlnlbncinjiinabWGuard
import Derived.Test.YtlnlbncinjiinabWNEv
import Derived.Test.YtlnlbncinjiinabWMore
import Derived.ChangeArms
import Derived.Test.YtlnlbncinjiinabX0
import Derived.Test.YtlnlbncinjiinabXEq
import Derived.Test.YtlnlbncinjiinabXSame
namespace Go.Proofs.Ytlnlbncinjiinab.X
open Go.RowKit Go.Proofs.YtlnlbncinjiinabW.PrintWords Go.Proofs.YtlnlbncinjiinabW.PrintLast Go.Proofs.YtlnlbncinjiinabW.PrintMore
set_option linter.unusedVariables false
set_option linter.unusedSimpArgs false
attribute [local go_sem high] eqAConst eqAInstr eqACert

set_option maxHeartbeats 8000000 in
set_option maxRecDepth 100000 in
theorem l3SameFunc_calls (A0 B0 : Option Addr) (c0 d0 : Nat) (A2 B2 : Option Addr) (c2 d2 : Nat) (A3 B3 : Option Addr) (c3 d3 : Nat) (x y : MFunc) (w : World) (h0 : Kd.C (Kd.int .i64) w A0 x.params.length x.params) (g0 : Kd.C (Kd.int .i64) w B0 y.params.length y.params) (h2 : Kd.C (Kd.int .i64) w A2 x.locals.length x.locals) (g2 : Kd.C (Kd.int .i64) w B2 y.locals.length y.locals) (h3 : Kd.C kInstr_I w A3 x.code.length x.code) (g3 : Kd.C kInstr_I w B3 y.code.length y.code) :
    Calls Try.prog 41 #[.agg #[.slice A0 x.params.length c0, .int .i64 x.result, .slice A2 x.locals.length c2, .slice A3 x.code.length c3], .agg #[.slice B0 y.params.length d0, .int .i64 y.result, .slice B2 y.locals.length d2, .slice B3 y.code.length d3]] w fun e w' => e = .returned (.bool (eqT x y)) ∧ Below w.heap.size w w' := by
  have m0 : x.params.length ≤ 9223372036854775807 := h0.2.1
  have m2 : x.locals.length ≤ 9223372036854775807 := h2.2.1
  have m3 : x.code.length ≤ 9223372036854775807 := h3.2.1
  have H0 := Aside0.mk h0; have G0 := Aside0.mk g0; have H2 := Aside0.mk h2; have G2 := Aside0.mk g2; have H3 := Aside0.mk h3; have G3 := Aside0.mk g3; have HB := Aside0.mk (Below.refl w.heap.size w)
  clear h0 g0 h2 g2 h3 g3
  by_cases p0 : ¬ (x.params = y.params)
  · have t_ := eqT_false p0
    have HE : Aside0 (eqT x y = false) := ⟨eqT_false (fun e => p0 (by rw [e]))⟩
    clear p0
    go_enter Try.func41, Try.ntmps41
    go_wp2_with (first | (go_at_call 40; (first | (with_reducible refine (l3Same_at w _ _ x.params _ _ y.params _ H0.out G0.out).mono ?_) | (with_reducible refine (l3Same_at w _ _ x.locals _ _ y.locals _ H2.out G2.out).mono ?_)); rintro e w1 ⟨rfl, hb⟩; have n_ := Aside0.mk (below_step (w := w) bel hb); have k_ : Aside0 (w1.heap[w.heap.size]? = some (.cells #[.slice A0 x.params.length c0, .int .i64 x.result, .slice A2 x.locals.length c2, .slice A3 x.code.length c3] 85 (0, 0))) := ⟨by first | exact (hb.block _ (blk_lt BK0.out)).trans BK0.out | exact (hb.block _ (by first | (simp; done) | (simp; omega))).trans (blk_alloc2a _ _ _ _ _)⟩; (try clear BK0); have BK0 := k_; clear k_; have q00 : w1.cell? ⟨w.heap.size, 0, none⟩ = some (.slice A0 x.params.length c0) := (blk_cell BK0.out 0).trans rfl; have q01 : w1.cell? ⟨w.heap.size, 1, none⟩ = some (.int .i64 x.result) := (blk_cell BK0.out 1).trans rfl; have q02 : w1.cell? ⟨w.heap.size, 2, none⟩ = some (.slice A2 x.locals.length c2) := (blk_cell BK0.out 2).trans rfl; have q03 : w1.cell? ⟨w.heap.size, 3, none⟩ = some (.slice A3 x.code.length c3) := (blk_cell BK0.out 3).trans rfl; have k_ : Aside0 (w1.heap[w.heap.size + 1]? = some (.cells #[.slice B0 y.params.length d0, .int .i64 y.result, .slice B2 y.locals.length d2, .slice B3 y.code.length d3] 85 (0, 0))) := ⟨by first | exact (hb.block _ (blk_lt BK1.out)).trans BK1.out | exact (hb.block _ (by first | (simp; done) | (simp; omega))).trans (blk_alloc2b _ _ _ _ _)⟩; (try clear BK1); have BK1 := k_; clear k_; have q10 : w1.cell? ⟨w.heap.size + 1, 0, none⟩ = some (.slice B0 y.params.length d0) := (blk_cell BK1.out 0).trans rfl; have q11 : w1.cell? ⟨w.heap.size + 1, 1, none⟩ = some (.int .i64 y.result) := (blk_cell BK1.out 1).trans rfl; have q12 : w1.cell? ⟨w.heap.size + 1, 2, none⟩ = some (.slice B2 y.locals.length d2) := (blk_cell BK1.out 2).trans rfl; have q13 : w1.cell? ⟨w.heap.size + 1, 3, none⟩ = some (.slice B3 y.code.length d3) := (blk_cell BK1.out 3).trans rfl; clear HB hb; have HB := n_; clear n_))
    go_ret
    exact ⟨by rw [HE.out]; rfl, bel⟩
  replace p0 := Classical.not_not.1 p0
  have t_ := eqT_true p0
  have P0 := Aside0.mk p0
  clear p0
  by_cases p1 : ¬ (x.result = y.result)
  · have t_ : (x.result != y.result) = true := by simp [p1]
    have HE : Aside0 (eqT x y = false) := ⟨eqT_false (fun e => p1 (by rw [e]))⟩
    clear p1
    go_enter Try.func41, Try.ntmps41
    go_wp2_with (first | (go_at_call 40; (first | (with_reducible refine (l3Same_at w _ _ x.params _ _ y.params _ H0.out G0.out).mono ?_) | (with_reducible refine (l3Same_at w _ _ x.locals _ _ y.locals _ H2.out G2.out).mono ?_)); rintro e w1 ⟨rfl, hb⟩; have n_ := Aside0.mk (below_step (w := w) bel hb); have k_ : Aside0 (w1.heap[w.heap.size]? = some (.cells #[.slice A0 x.params.length c0, .int .i64 x.result, .slice A2 x.locals.length c2, .slice A3 x.code.length c3] 85 (0, 0))) := ⟨by first | exact (hb.block _ (blk_lt BK0.out)).trans BK0.out | exact (hb.block _ (by first | (simp; done) | (simp; omega))).trans (blk_alloc2a _ _ _ _ _)⟩; (try clear BK0); have BK0 := k_; clear k_; have q00 : w1.cell? ⟨w.heap.size, 0, none⟩ = some (.slice A0 x.params.length c0) := (blk_cell BK0.out 0).trans rfl; have q01 : w1.cell? ⟨w.heap.size, 1, none⟩ = some (.int .i64 x.result) := (blk_cell BK0.out 1).trans rfl; have q02 : w1.cell? ⟨w.heap.size, 2, none⟩ = some (.slice A2 x.locals.length c2) := (blk_cell BK0.out 2).trans rfl; have q03 : w1.cell? ⟨w.heap.size, 3, none⟩ = some (.slice A3 x.code.length c3) := (blk_cell BK0.out 3).trans rfl; have k_ : Aside0 (w1.heap[w.heap.size + 1]? = some (.cells #[.slice B0 y.params.length d0, .int .i64 y.result, .slice B2 y.locals.length d2, .slice B3 y.code.length d3] 85 (0, 0))) := ⟨by first | exact (hb.block _ (blk_lt BK1.out)).trans BK1.out | exact (hb.block _ (by first | (simp; done) | (simp; omega))).trans (blk_alloc2b _ _ _ _ _)⟩; (try clear BK1); have BK1 := k_; clear k_; have q10 : w1.cell? ⟨w.heap.size + 1, 0, none⟩ = some (.slice B0 y.params.length d0) := (blk_cell BK1.out 0).trans rfl; have q11 : w1.cell? ⟨w.heap.size + 1, 1, none⟩ = some (.int .i64 y.result) := (blk_cell BK1.out 1).trans rfl; have q12 : w1.cell? ⟨w.heap.size + 1, 2, none⟩ = some (.slice B2 y.locals.length d2) := (blk_cell BK1.out 2).trans rfl; have q13 : w1.cell? ⟨w.heap.size + 1, 3, none⟩ = some (.slice B3 y.code.length d3) := (blk_cell BK1.out 3).trans rfl; clear HB hb; have HB := n_; clear n_))
    go_ret
    exact ⟨by rw [HE.out]; rfl, bel⟩
  replace p1 := Classical.not_not.1 p1
  have t_ : (x.result != y.result) = false := by simp [p1]
  have P1 := Aside0.mk p1
  clear p1
  by_cases p2 : ¬ (x.locals = y.locals)
  · have t_ := eqT_false p2
    have HE : Aside0 (eqT x y = false) := ⟨eqT_false (fun e => p2 (by rw [e]))⟩
    clear p2
    go_enter Try.func41, Try.ntmps41
    go_wp2_with (first | (go_at_call 40; (first | (with_reducible refine (l3Same_at w _ _ x.params _ _ y.params _ H0.out G0.out).mono ?_) | (with_reducible refine (l3Same_at w _ _ x.locals _ _ y.locals _ H2.out G2.out).mono ?_)); rintro e w1 ⟨rfl, hb⟩; have n_ := Aside0.mk (below_step (w := w) bel hb); have k_ : Aside0 (w1.heap[w.heap.size]? = some (.cells #[.slice A0 x.params.length c0, .int .i64 x.result, .slice A2 x.locals.length c2, .slice A3 x.code.length c3] 85 (0, 0))) := ⟨by first | exact (hb.block _ (blk_lt BK0.out)).trans BK0.out | exact (hb.block _ (by first | (simp; done) | (simp; omega))).trans (blk_alloc2a _ _ _ _ _)⟩; (try clear BK0); have BK0 := k_; clear k_; have q00 : w1.cell? ⟨w.heap.size, 0, none⟩ = some (.slice A0 x.params.length c0) := (blk_cell BK0.out 0).trans rfl; have q01 : w1.cell? ⟨w.heap.size, 1, none⟩ = some (.int .i64 x.result) := (blk_cell BK0.out 1).trans rfl; have q02 : w1.cell? ⟨w.heap.size, 2, none⟩ = some (.slice A2 x.locals.length c2) := (blk_cell BK0.out 2).trans rfl; have q03 : w1.cell? ⟨w.heap.size, 3, none⟩ = some (.slice A3 x.code.length c3) := (blk_cell BK0.out 3).trans rfl; have k_ : Aside0 (w1.heap[w.heap.size + 1]? = some (.cells #[.slice B0 y.params.length d0, .int .i64 y.result, .slice B2 y.locals.length d2, .slice B3 y.code.length d3] 85 (0, 0))) := ⟨by first | exact (hb.block _ (blk_lt BK1.out)).trans BK1.out | exact (hb.block _ (by first | (simp; done) | (simp; omega))).trans (blk_alloc2b _ _ _ _ _)⟩; (try clear BK1); have BK1 := k_; clear k_; have q10 : w1.cell? ⟨w.heap.size + 1, 0, none⟩ = some (.slice B0 y.params.length d0) := (blk_cell BK1.out 0).trans rfl; have q11 : w1.cell? ⟨w.heap.size + 1, 1, none⟩ = some (.int .i64 y.result) := (blk_cell BK1.out 1).trans rfl; have q12 : w1.cell? ⟨w.heap.size + 1, 2, none⟩ = some (.slice B2 y.locals.length d2) := (blk_cell BK1.out 2).trans rfl; have q13 : w1.cell? ⟨w.heap.size + 1, 3, none⟩ = some (.slice B3 y.code.length d3) := (blk_cell BK1.out 3).trans rfl; clear HB hb; have HB := n_; clear n_))
    go_ret
    exact ⟨by rw [HE.out]; rfl, bel⟩
  replace p2 := Classical.not_not.1 p2
  have t_ := eqT_true p2
  have P2 := Aside0.mk p2
  clear p2
  by_cases p3 : ¬ (x.code.length = y.code.length)
  · have t_ : ((x.code.length : Int) != (y.code.length : Int)) = true := by simp; omega
    have HE : Aside0 (eqT x y = false) := ⟨eqT_false (fun e => p3 (by rw [e]))⟩
    clear p3
    go_enter Try.func41, Try.ntmps41
    go_wp2_with (first | (go_at_call 40; (first | (with_reducible refine (l3Same_at w _ _ x.params _ _ y.params _ H0.out G0.out).mono ?_) | (with_reducible refine (l3Same_at w _ _ x.locals _ _ y.locals _ H2.out G2.out).mono ?_)); rintro e w1 ⟨rfl, hb⟩; have n_ := Aside0.mk (below_step (w := w) bel hb); have k_ : Aside0 (w1.heap[w.heap.size]? = some (.cells #[.slice A0 x.params.length c0, .int .i64 x.result, .slice A2 x.locals.length c2, .slice A3 x.code.length c3] 85 (0, 0))) := ⟨by first | exact (hb.block _ (blk_lt BK0.out)).trans BK0.out | exact (hb.block _ (by first | (simp; done) | (simp; omega))).trans (blk_alloc2a _ _ _ _ _)⟩; (try clear BK0); have BK0 := k_; clear k_; have q00 : w1.cell? ⟨w.heap.size, 0, none⟩ = some (.slice A0 x.params.length c0) := (blk_cell BK0.out 0).trans rfl; have q01 : w1.cell? ⟨w.heap.size, 1, none⟩ = some (.int .i64 x.result) := (blk_cell BK0.out 1).trans rfl; have q02 : w1.cell? ⟨w.heap.size, 2, none⟩ = some (.slice A2 x.locals.length c2) := (blk_cell BK0.out 2).trans rfl; have q03 : w1.cell? ⟨w.heap.size, 3, none⟩ = some (.slice A3 x.code.length c3) := (blk_cell BK0.out 3).trans rfl; have k_ : Aside0 (w1.heap[w.heap.size + 1]? = some (.cells #[.slice B0 y.params.length d0, .int .i64 y.result, .slice B2 y.locals.length d2, .slice B3 y.code.length d3] 85 (0, 0))) := ⟨by first | exact (hb.block _ (blk_lt BK1.out)).trans BK1.out | exact (hb.block _ (by first | (simp; done) | (simp; omega))).trans (blk_alloc2b _ _ _ _ _)⟩; (try clear BK1); have BK1 := k_; clear k_; have q10 : w1.cell? ⟨w.heap.size + 1, 0, none⟩ = some (.slice B0 y.params.length d0) := (blk_cell BK1.out 0).trans rfl; have q11 : w1.cell? ⟨w.heap.size + 1, 1, none⟩ = some (.int .i64 y.result) := (blk_cell BK1.out 1).trans rfl; have q12 : w1.cell? ⟨w.heap.size + 1, 2, none⟩ = some (.slice B2 y.locals.length d2) := (blk_cell BK1.out 2).trans rfl; have q13 : w1.cell? ⟨w.heap.size + 1, 3, none⟩ = some (.slice B3 y.code.length d3) := (blk_cell BK1.out 3).trans rfl; clear HB hb; have HB := n_; clear n_))
    go_ret
    exact ⟨by rw [HE.out]; rfl, bel⟩
  replace p3 := Classical.not_not.1 p3
  have t_ : ((x.code.length : Int) != (y.code.length : Int)) = false := by simp [p3]
  have P3 := Aside0.mk p3
  clear p3
  go_enter Try.func41, Try.ntmps41
  go_wp2_with (first | (go_at_call 40; (first | (with_reducible refine (l3Same_at w _ _ x.params _ _ y.params _ H0.out G0.out).mono ?_) | (with_reducible refine (l3Same_at w _ _ x.locals _ _ y.locals _ H2.out G2.out).mono ?_)); rintro e w1 ⟨rfl, hb⟩; have n_ := Aside0.mk (below_step (w := w) bel hb); have k_ : Aside0 (w1.heap[w.heap.size]? = some (.cells #[.slice A0 x.params.length c0, .int .i64 x.result, .slice A2 x.locals.length c2, .slice A3 x.code.length c3] 85 (0, 0))) := ⟨by first | exact (hb.block _ (blk_lt BK0.out)).trans BK0.out | exact (hb.block _ (by first | (simp; done) | (simp; omega))).trans (blk_alloc2a _ _ _ _ _)⟩; (try clear BK0); have BK0 := k_; clear k_; have q00 : w1.cell? ⟨w.heap.size, 0, none⟩ = some (.slice A0 x.params.length c0) := (blk_cell BK0.out 0).trans rfl; have q01 : w1.cell? ⟨w.heap.size, 1, none⟩ = some (.int .i64 x.result) := (blk_cell BK0.out 1).trans rfl; have q02 : w1.cell? ⟨w.heap.size, 2, none⟩ = some (.slice A2 x.locals.length c2) := (blk_cell BK0.out 2).trans rfl; have q03 : w1.cell? ⟨w.heap.size, 3, none⟩ = some (.slice A3 x.code.length c3) := (blk_cell BK0.out 3).trans rfl; have k_ : Aside0 (w1.heap[w.heap.size + 1]? = some (.cells #[.slice B0 y.params.length d0, .int .i64 y.result, .slice B2 y.locals.length d2, .slice B3 y.code.length d3] 85 (0, 0))) := ⟨by first | exact (hb.block _ (blk_lt BK1.out)).trans BK1.out | exact (hb.block _ (by first | (simp; done) | (simp; omega))).trans (blk_alloc2b _ _ _ _ _)⟩; (try clear BK1); have BK1 := k_; clear k_; have q10 : w1.cell? ⟨w.heap.size + 1, 0, none⟩ = some (.slice B0 y.params.length d0) := (blk_cell BK1.out 0).trans rfl; have q11 : w1.cell? ⟨w.heap.size + 1, 1, none⟩ = some (.int .i64 y.result) := (blk_cell BK1.out 1).trans rfl; have q12 : w1.cell? ⟨w.heap.size + 1, 2, none⟩ = some (.slice B2 y.locals.length d2) := (blk_cell BK1.out 2).trans rfl; have q13 : w1.cell? ⟨w.heap.size + 1, 3, none⟩ = some (.slice B3 y.code.length d3) := (blk_cell BK1.out 3).trans rfl; clear HB hb; have HB := n_; clear n_))
  obtain ⟨W0, rfl⟩ : ∃ v_, v_ = w1 := ⟨_, rfl⟩
  go_loopw [5] (fun v wr => ∃ i : Int, 0 ≤ i ∧ i ≤ x.code.length ∧ v = .int .i64 i ∧ Aside0 (∀ j : Nat, (j : Int) < i → x.code.getD j zInstr = y.code.getD j zInstr) ∧ Aside0 (Below W0.heap.size W0 wr)) (fun v _ => ((x.code.length : Int) - intOf v).toNat)
  case atStart => exact ⟨0, by omega, by omega, rfl, ⟨fun j h => by omega⟩, ⟨Below.refl _ _⟩⟩
  case round =>
    obtain ⟨i, h0, hi, rfl, HP, HLo⟩ := hrel
    replace q03 := pw_cell_below HLo.out q03
    replace q13 := pw_cell_below HLo.out q13
    have n_ := Aside0.mk (below_step HB.out HLo.out)
    clear HB
    have HB := n_
    clear n_
    by_cases hlt : i < x.code.length
    · have hlt1 : i < y.code.length := by have := P3.out; omega
      obtain ⟨ad0, e0, x00, x01, x02, x03⟩ := atInstr_I (Kd.C_below H3.out HB.out) i h0 hlt
      cases e0
      obtain ⟨ad1, e1, x10, x11, x12, x13⟩ := atInstr_I (Kd.C_below G3.out HB.out) i h0 hlt1
      cases e1
      by_cases h : rdInstr (x.code) i = rdInstr (y.code) i
      · have t_ : eqT (rdInstr (x.code) i) (rdInstr (y.code) i) = true := eqT_true h
        have HE := Aside0.mk h
        clear h
        go_wp2
        repeat (go_quiet (fail); try go_wp2)
        go_roundw
        case rel => exact ⟨i + 1, by omega, by omega, rfl, ⟨fun j hj => by
          by_cases h1 : (j : Int) < i
          · exact HP.out j h1
          · obtain rfl : i = (j : Int) := by omega
            exact HE.out⟩, ⟨bel⟩⟩
        case measure => simp [intOf]; omega
      · have t_ : eqT (rdInstr (x.code) i) (rdInstr (y.code) i) = false := eqT_false h
        have HE : Aside0 (eqT x y = false) := ⟨eqT_false (fun e => h (by rw [e]))⟩
        clear h
        go_wp2
        repeat (go_quiet (fail); try go_wp2)
        go_ret
        exact ⟨by rw [HE.out]; rfl, bel⟩
    · have HE := Aside0.mk (ext_getD zInstr P3.out (fun j hj => HP.out j (by omega)))
      have HE2 : Aside0 (eqT x y = true) := ⟨eqT_true (MFunc_ext P0.out P1.out P2.out HE.out)⟩
      go_wp2
      go_ret
      exact ⟨by rw [HE2.out]; rfl, bel⟩

theorem l3SameFunc_at (w0 : World) (A0 B0 : Option Addr) (c0 d0 : Nat) (A2 B2 : Option Addr) (c2 d2 : Nat) (A3 B3 : Option Addr) (c3 d3 : Nat) (x y : MFunc) (w : World) (h0 : Kd.C (Kd.int .i64) w0 A0 x.params.length x.params) (g0 : Kd.C (Kd.int .i64) w0 B0 y.params.length y.params) (h2 : Kd.C (Kd.int .i64) w0 A2 x.locals.length x.locals) (g2 : Kd.C (Kd.int .i64) w0 B2 y.locals.length y.locals) (h3 : Kd.C kInstr_I w0 A3 x.code.length x.code) (g3 : Kd.C kInstr_I w0 B3 y.code.length y.code) (hb : Below w0.heap.size w0 w := by exact bel) :
    Calls Try.prog 41 #[.agg #[.slice A0 x.params.length c0, .int .i64 x.result, .slice A2 x.locals.length c2, .slice A3 x.code.length c3], .agg #[.slice B0 y.params.length d0, .int .i64 y.result, .slice B2 y.locals.length d2, .slice B3 y.code.length d3]] w fun e w' => e = .returned (.bool (eqT x y)) ∧ Below w.heap.size w w' := l3SameFunc_calls A0 B0 c0 d0 A2 B2 c2 d2 A3 B3 c3 d3 x y w (Kd.C_below h0 hb) (Kd.C_below g0 hb) (Kd.C_below h2 hb) (Kd.C_below g2 hb) (Kd.C_below h3 hb) (Kd.C_below g3 hb)

set_option maxHeartbeats 8000000 in
set_option maxRecDepth 100000 in
theorem specSame_calls (A0 B0 : Option Addr) (c0 d0 : Nat) (A1 B1 : Option Addr) (c1 d1 : Nat) (A2 B2 : Option Addr) (c2 d2 : Nat) (A3 B3 : Option Addr) (c3 d3 : Nat) (x y : MProgram) (w : World) (h0 : Kd.C (Kd.slice 2 (Kd.int .i64)) w A0 x.regions.length x.regions) (g0 : Kd.C (Kd.slice 2 (Kd.int .i64)) w B0 y.regions.length y.regions) (h1 : Kd.C kConst_I w A1 x.consts.length x.consts) (g1 : Kd.C kConst_I w B1 y.consts.length y.consts) (h2 : Kd.C kFunc_I w A2 x.funcs.length x.funcs) (g2 : Kd.C kFunc_I w B2 y.funcs.length y.funcs) (h3 : Kd.C kCert_I w A3 x.certs.length x.certs) (g3 : Kd.C kCert_I w B3 y.certs.length y.certs) :
    Calls Try.prog 15 #[.agg #[.slice A0 x.regions.length c0, .slice A1 x.consts.length c1, .slice A2 x.funcs.length c2, .slice A3 x.certs.length c3], .agg #[.slice B0 y.regions.length d0, .slice B1 y.consts.length d1, .slice B2 y.funcs.length d2, .slice B3 y.certs.length d3]] w fun e w' => e = .returned (.bool (eqT x y)) ∧ Below w.heap.size w w' := by
  have m0 : x.regions.length ≤ 9223372036854775807 := h0.2.1
  have m1 : x.consts.length ≤ 9223372036854775807 := h1.2.1
  have m2 : x.funcs.length ≤ 9223372036854775807 := h2.2.1
  have m3 : x.certs.length ≤ 9223372036854775807 := h3.2.1
  have H0 := Aside0.mk h0; have G0 := Aside0.mk g0; have H1 := Aside0.mk h1; have G1 := Aside0.mk g1; have H2 := Aside0.mk h2; have G2 := Aside0.mk g2; have H3 := Aside0.mk h3; have G3 := Aside0.mk g3; have HB := Aside0.mk (Below.refl w.heap.size w)
  clear h0 g0 h1 g1 h2 g2 h3 g3
  by_cases p0 : ¬ (x.regions.length = y.regions.length)
  · have t_ : ((x.regions.length : Int) != (y.regions.length : Int)) = true := by simp; omega
    have HE : Aside0 (eqT x y = false) := ⟨eqT_false (fun e => p0 (by rw [e]))⟩
    clear p0
    go_enter Try.func15, Try.ntmps15
    go_wp2
    go_ret
    exact ⟨by rw [HE.out]; rfl, bel⟩
  replace p0 := Classical.not_not.1 p0
  have t_ : ((x.regions.length : Int) != (y.regions.length : Int)) = false := by simp [p0]
  have P0 := Aside0.mk p0
  clear p0
  by_cases p1 : ¬ (x.consts.length = y.consts.length)
  · have t_ : ((x.consts.length : Int) != (y.consts.length : Int)) = true := by simp; omega
    have HE : Aside0 (eqT x y = false) := ⟨eqT_false (fun e => p1 (by rw [e]))⟩
    clear p1
    go_enter Try.func15, Try.ntmps15
    go_wp2
    go_ret
    exact ⟨by rw [HE.out]; rfl, bel⟩
  replace p1 := Classical.not_not.1 p1
  have t_ : ((x.consts.length : Int) != (y.consts.length : Int)) = false := by simp [p1]
  have P1 := Aside0.mk p1
  clear p1
  by_cases p2 : ¬ (x.funcs.length = y.funcs.length)
  · have t_ : ((x.funcs.length : Int) != (y.funcs.length : Int)) = true := by simp; omega
    have HE : Aside0 (eqT x y = false) := ⟨eqT_false (fun e => p2 (by rw [e]))⟩
    clear p2
    go_enter Try.func15, Try.ntmps15
    go_wp2
    go_ret
    exact ⟨by rw [HE.out]; rfl, bel⟩
  replace p2 := Classical.not_not.1 p2
  have t_ : ((x.funcs.length : Int) != (y.funcs.length : Int)) = false := by simp [p2]
  have P2 := Aside0.mk p2
  clear p2
  by_cases p3 : ¬ (x.certs.length = y.certs.length)
  · have t_ : ((x.certs.length : Int) != (y.certs.length : Int)) = true := by simp; omega
    have HE : Aside0 (eqT x y = false) := ⟨eqT_false (fun e => p3 (by rw [e]))⟩
    clear p3
    go_enter Try.func15, Try.ntmps15
    go_wp2
    go_ret
    exact ⟨by rw [HE.out]; rfl, bel⟩
  replace p3 := Classical.not_not.1 p3
  have t_ : ((x.certs.length : Int) != (y.certs.length : Int)) = false := by simp [p3]
  have P3 := Aside0.mk p3
  clear p3
  go_enter Try.func15, Try.ntmps15
  go_wp2
  obtain ⟨W0, hW⟩ : ∃ W0, W0 = ((w.alloc (.cells #[.slice A0 x.regions.length c0, .slice A1 x.consts.length c1, .slice A2 x.funcs.length c2, .slice A3 x.certs.length c3] 55)).alloc (.cells #[.slice B0 y.regions.length d0, .slice B1 y.consts.length d1, .slice B2 y.funcs.length d2, .slice B3 y.certs.length d3] 55)) := ⟨_, rfl⟩
  rw [← hW]
  have BK0 : W0.heap[w.heap.size]? = some (.cells #[.slice A0 x.regions.length c0, .slice A1 x.consts.length c1, .slice A2 x.funcs.length c2, .slice A3 x.certs.length c3] 55 (0, 0)) := by rw [hW]; exact blk_alloc2a _ _ _ _ _
  have BK1 : W0.heap[w.heap.size + 1]? = some (.cells #[.slice B0 y.regions.length d0, .slice B1 y.consts.length d1, .slice B2 y.funcs.length d2, .slice B3 y.certs.length d3] 55 (0, 0)) := by rw [hW]; exact blk_alloc2b _ _ _ _ _
  have q00 : W0.cell? ⟨w.heap.size, 0, none⟩ = some (.slice A0 x.regions.length c0) := (blk_cell BK0 0).trans rfl
  have q01 : W0.cell? ⟨w.heap.size, 1, none⟩ = some (.slice A1 x.consts.length c1) := (blk_cell BK0 1).trans rfl
  have q02 : W0.cell? ⟨w.heap.size, 2, none⟩ = some (.slice A2 x.funcs.length c2) := (blk_cell BK0 2).trans rfl
  have q03 : W0.cell? ⟨w.heap.size, 3, none⟩ = some (.slice A3 x.certs.length c3) := (blk_cell BK0 3).trans rfl
  have q10 : W0.cell? ⟨w.heap.size + 1, 0, none⟩ = some (.slice B0 y.regions.length d0) := (blk_cell BK1 0).trans rfl
  have q11 : W0.cell? ⟨w.heap.size + 1, 1, none⟩ = some (.slice B1 y.consts.length d1) := (blk_cell BK1 1).trans rfl
  have q12 : W0.cell? ⟨w.heap.size + 1, 2, none⟩ = some (.slice B2 y.funcs.length d2) := (blk_cell BK1 2).trans rfl
  have q13 : W0.cell? ⟨w.heap.size + 1, 3, none⟩ = some (.slice B3 y.certs.length d3) := (blk_cell BK1 3).trans rfl
  have n_ : Aside0 (Below w.heap.size w W0) := ⟨by rw [hW]; exact bel⟩
  clear HB hW BK0 BK1
  have HB := n_
  clear n_
  go_loopw [5] (fun v wr => ∃ i : Int, 0 ≤ i ∧ i ≤ x.regions.length ∧ v = .int .i64 i ∧ Aside0 (∀ j : Nat, (j : Int) < i → x.regions.getD j [] = y.regions.getD j []) ∧ Aside0 (Below W0.heap.size W0 wr)) (fun v _ => ((x.regions.length : Int) - intOf v).toNat)
  case atStart => exact ⟨0, by omega, by omega, rfl, ⟨fun j h => by omega⟩, ⟨Below.refl _ _⟩⟩
  case round =>
    obtain ⟨i, h0, hi, rfl, HP, HLo⟩ := hrel
    obtain ⟨w_1, rfl⟩ : ∃ v_, v_ = wr := ⟨_, rfl⟩
    replace q00 := pw_cell_below HLo.out q00
    replace q01 := pw_cell_below HLo.out q01
    replace q02 := pw_cell_below HLo.out q02
    replace q03 := pw_cell_below HLo.out q03
    replace q10 := pw_cell_below HLo.out q10
    replace q11 := pw_cell_below HLo.out q11
    replace q12 := pw_cell_below HLo.out q12
    replace q13 := pw_cell_below HLo.out q13
    have n_ := Aside0.mk (below_step HB.out HLo.out)
    clear HB
    have HB := n_
    clear n_
    by_cases hlt : i < x.regions.length
    · have hlt1 : i < y.regions.length := by have := P0.out; omega
      obtain ⟨ad0, D0, d0_, e0, x0, y0, z0⟩ := atLL (Kd.C_below H0.out HB.out) i h0 hlt
      cases e0
      obtain ⟨ad1, D1, d1_, e1, x1, y1, z1⟩ := atLL (Kd.C_below G0.out HB.out) i h0 hlt1
      cases e1
      by_cases h : rdLL (x.regions) i = rdLL (y.regions) i
      · have t_ : eqT (rdLL (x.regions) i) (rdLL (y.regions) i) = true := eqT_true h
        have HE := Aside0.mk h
        clear h
        go_wp2
        go_still_tail 10, (by kernel_rfl)
        go_wp2_with (go_at_call 40; (with_reducible refine (l3Same_at w_1 _ _ (rdLL (x.regions) i) _ _ (rdLL (y.regions) i) _ z0 z1).mono ?_); rintro e w2 ⟨rfl, hb⟩; have HB2 := Aside0.mk (below_step (w := w) bel hb); have HL2 := Aside0.mk (below_step (w := W0) bel hb); clear hb)
        go_roundw
        case rel => exact ⟨i + 1, by omega, by omega, rfl, ⟨fun j hj => by
          by_cases h1 : (j : Int) < i
          · exact HP.out j h1
          · obtain rfl : i = (j : Int) := by omega
            exact HE.out⟩, ⟨bel⟩⟩
        case measure => simp [intOf]; omega
      · have t_ : eqT (rdLL (x.regions) i) (rdLL (y.regions) i) = false := eqT_false h
        have HE : Aside0 (eqT x y = false) := ⟨eqT_false (fun e => h (by rw [e]))⟩
        clear h
        go_wp2
        go_still_tail 10, (by kernel_rfl)
        go_wp2_with (go_at_call 40; (with_reducible refine (l3Same_at w_1 _ _ (rdLL (x.regions) i) _ _ (rdLL (y.regions) i) _ z0 z1).mono ?_); rintro e w2 ⟨rfl, hb⟩; have HB2 := Aside0.mk (below_step (w := w) bel hb); have HL2 := Aside0.mk (below_step (w := W0) bel hb); clear hb)
        go_ret
        exact ⟨by rw [HE.out]; rfl, bel⟩
    · have HE := Aside0.mk (ext_getD [] P0.out (fun j hj => HP.out j (by omega)))
      have E0 := HE
      clear HE HP HLo
      go_wp2
      go_loopw [6] (fun v wr => ∃ i : Int, 0 ≤ i ∧ i ≤ x.consts.length ∧ v = .int .i64 i ∧ Aside0 (∀ j : Nat, (j : Int) < i → x.consts.getD j zConst = y.consts.getD j zConst) ∧ Aside0 (Below w_1.heap.size w_1 wr)) (fun v _ => ((x.consts.length : Int) - intOf v).toNat)
      case atStart => exact ⟨0, by omega, by omega, rfl, ⟨fun j h => by omega⟩, ⟨Below.refl _ _⟩⟩
      case round =>
        obtain ⟨i, h0, hi, rfl, HP, HLo⟩ := hrel
        obtain ⟨w_2, rfl⟩ : ∃ v_, v_ = wr := ⟨_, rfl⟩
        replace q00 := pw_cell_below HLo.out q00
        replace q01 := pw_cell_below HLo.out q01
        replace q02 := pw_cell_below HLo.out q02
        replace q03 := pw_cell_below HLo.out q03
        replace q10 := pw_cell_below HLo.out q10
        replace q11 := pw_cell_below HLo.out q11
        replace q12 := pw_cell_below HLo.out q12
        replace q13 := pw_cell_below HLo.out q13
        have n_ := Aside0.mk (below_step HB.out HLo.out)
        clear HB
        have HB := n_
        clear n_
        by_cases hlt : i < x.consts.length
        · have hlt1 : i < y.consts.length := by have := P1.out; omega
          obtain ⟨ad0, e0, x00, x01⟩ := atConst_I (Kd.C_below H1.out HB.out) i h0 hlt
          cases e0
          obtain ⟨ad1, e1, x10, x11⟩ := atConst_I (Kd.C_below G1.out HB.out) i h0 hlt1
          cases e1
          by_cases h : rdConst (x.consts) i = rdConst (y.consts) i
          · have t_ : eqT (rdConst (x.consts) i) (rdConst (y.consts) i) = true := eqT_true h
            have HE := Aside0.mk h
            clear h
            go_wp2
            repeat (go_quiet (fail); try go_wp2)
            go_roundw
            case rel => exact ⟨i + 1, by omega, by omega, rfl, ⟨fun j hj => by
              by_cases h1 : (j : Int) < i
              · exact HP.out j h1
              · obtain rfl : i = (j : Int) := by omega
                exact HE.out⟩, ⟨bel⟩⟩
            case measure => simp [intOf]; omega
          · have t_ : eqT (rdConst (x.consts) i) (rdConst (y.consts) i) = false := eqT_false h
            have HE : Aside0 (eqT x y = false) := ⟨eqT_false (fun e => h (by rw [e]))⟩
            clear h
            go_wp2
            repeat (go_quiet (fail); try go_wp2)
            go_ret
            exact ⟨by rw [HE.out]; rfl, bel⟩
        · have HE := Aside0.mk (ext_getD zConst P1.out (fun j hj => HP.out j (by omega)))
          have E1 := HE
          clear HE HP HLo
          go_wp2
          go_loopw [7] (fun v wr => ∃ i : Int, 0 ≤ i ∧ i ≤ x.funcs.length ∧ v = .int .i64 i ∧ Aside0 (∀ j : Nat, (j : Int) < i → x.funcs.getD j zFunc = y.funcs.getD j zFunc) ∧ Aside0 (Below w_2.heap.size w_2 wr)) (fun v _ => ((x.funcs.length : Int) - intOf v).toNat)
          case atStart => exact ⟨0, by omega, by omega, rfl, ⟨fun j h => by omega⟩, ⟨Below.refl _ _⟩⟩
          case round =>
            obtain ⟨i, h0, hi, rfl, HP, HLo⟩ := hrel
            obtain ⟨w_3, rfl⟩ : ∃ v_, v_ = wr := ⟨_, rfl⟩
            replace q00 := pw_cell_below HLo.out q00
            replace q01 := pw_cell_below HLo.out q01
            replace q02 := pw_cell_below HLo.out q02
            replace q03 := pw_cell_below HLo.out q03
            replace q10 := pw_cell_below HLo.out q10
            replace q11 := pw_cell_below HLo.out q11
            replace q12 := pw_cell_below HLo.out q12
            replace q13 := pw_cell_below HLo.out q13
            have n_ := Aside0.mk (below_step HB.out HLo.out)
            clear HB
            have HB := n_
            clear n_
            by_cases hlt : i < x.funcs.length
            · have hlt1 : i < y.funcs.length := by have := P2.out; omega
              obtain ⟨ad0, D00, d00_, D02, d02_, D03, d03_, e0, x00, x01, x02, x03, y00, z00, y02, z02, y03, z03⟩ := atFunc_I (Kd.C_below H2.out HB.out) i h0 hlt
              cases e0
              obtain ⟨ad1, D10, d10_, D12, d12_, D13, d13_, e1, x10, x11, x12, x13, y10, z10, y12, z12, y13, z13⟩ := atFunc_I (Kd.C_below G2.out HB.out) i h0 hlt1
              cases e1
              by_cases h : rdFunc (x.funcs) i = rdFunc (y.funcs) i
              · have t_ : eqT (rdFunc (x.funcs) i) (rdFunc (y.funcs) i) = true := eqT_true h
                have HE := Aside0.mk h
                clear h
                go_wp2
                go_still_tail 10, (by kernel_rfl)
                go_wp2_with (go_at_call 41; (with_reducible refine (l3SameFunc_at w_3 _ _ _ _ _ _ _ _ _ _ _ _ (rdFunc (x.funcs) i) (rdFunc (y.funcs) i) _ z00 z10 z02 z12 z03 z13).mono ?_); rintro e w2 ⟨rfl, hb⟩; have HB2 := Aside0.mk (below_step (w := w) bel hb); have HL2 := Aside0.mk (below_step (w := w_2) bel hb); clear hb)
                go_roundw
                case rel => exact ⟨i + 1, by omega, by omega, rfl, ⟨fun j hj => by
                  by_cases h1 : (j : Int) < i
                  · exact HP.out j h1
                  · obtain rfl : i = (j : Int) := by omega
                    exact HE.out⟩, ⟨bel⟩⟩
                case measure => simp [intOf]; omega
              · have t_ : eqT (rdFunc (x.funcs) i) (rdFunc (y.funcs) i) = false := eqT_false h
                have HE : Aside0 (eqT x y = false) := ⟨eqT_false (fun e => h (by rw [e]))⟩
                clear h
                go_wp2
                go_still_tail 10, (by kernel_rfl)
                go_wp2_with (go_at_call 41; (with_reducible refine (l3SameFunc_at w_3 _ _ _ _ _ _ _ _ _ _ _ _ (rdFunc (x.funcs) i) (rdFunc (y.funcs) i) _ z00 z10 z02 z12 z03 z13).mono ?_); rintro e w2 ⟨rfl, hb⟩; have HB2 := Aside0.mk (below_step (w := w) bel hb); have HL2 := Aside0.mk (below_step (w := w_2) bel hb); clear hb)
                go_ret
                exact ⟨by rw [HE.out]; rfl, bel⟩
            · have HE := Aside0.mk (ext_getD zFunc P2.out (fun j hj => HP.out j (by omega)))
              have E2 := HE
              clear HE HP HLo
              go_wp2
              go_loopw [8] (fun v wr => ∃ i : Int, 0 ≤ i ∧ i ≤ x.certs.length ∧ v = .int .i64 i ∧ Aside0 (∀ j : Nat, (j : Int) < i → x.certs.getD j zCert = y.certs.getD j zCert) ∧ Aside0 (Below w_3.heap.size w_3 wr)) (fun v _ => ((x.certs.length : Int) - intOf v).toNat)
              case atStart => exact ⟨0, by omega, by omega, rfl, ⟨fun j h => by omega⟩, ⟨Below.refl _ _⟩⟩
              case round =>
                obtain ⟨i, h0, hi, rfl, HP, HLo⟩ := hrel
                obtain ⟨w_4, rfl⟩ : ∃ v_, v_ = wr := ⟨_, rfl⟩
                replace q00 := pw_cell_below HLo.out q00
                replace q01 := pw_cell_below HLo.out q01
                replace q02 := pw_cell_below HLo.out q02
                replace q03 := pw_cell_below HLo.out q03
                replace q10 := pw_cell_below HLo.out q10
                replace q11 := pw_cell_below HLo.out q11
                replace q12 := pw_cell_below HLo.out q12
                replace q13 := pw_cell_below HLo.out q13
                have n_ := Aside0.mk (below_step HB.out HLo.out)
                clear HB
                have HB := n_
                clear n_
                by_cases hlt : i < x.certs.length
                · have hlt1 : i < y.certs.length := by have := P3.out; omega
                  obtain ⟨ad0, e0, x00, x01, x02, x03⟩ := atCert_I (Kd.C_below H3.out HB.out) i h0 hlt
                  cases e0
                  obtain ⟨ad1, e1, x10, x11, x12, x13⟩ := atCert_I (Kd.C_below G3.out HB.out) i h0 hlt1
                  cases e1
                  by_cases h : rdCert (x.certs) i = rdCert (y.certs) i
                  · have t_ : eqT (rdCert (x.certs) i) (rdCert (y.certs) i) = true := eqT_true h
                    have HE := Aside0.mk h
                    clear h
                    go_wp2
                    repeat (go_quiet (fail); try go_wp2)
                    go_roundw
                    case rel => exact ⟨i + 1, by omega, by omega, rfl, ⟨fun j hj => by
                      by_cases h1 : (j : Int) < i
                      · exact HP.out j h1
                      · obtain rfl : i = (j : Int) := by omega
                        exact HE.out⟩, ⟨bel⟩⟩
                    case measure => simp [intOf]; omega
                  · have t_ : eqT (rdCert (x.certs) i) (rdCert (y.certs) i) = false := eqT_false h
                    have HE : Aside0 (eqT x y = false) := ⟨eqT_false (fun e => h (by rw [e]))⟩
                    clear h
                    go_wp2
                    repeat (go_quiet (fail); try go_wp2)
                    go_ret
                    exact ⟨by rw [HE.out]; rfl, bel⟩
                · have HE := Aside0.mk (ext_getD zCert P3.out (fun j hj => HP.out j (by omega)))
                  have HF : Aside0 (eqT x y = true) := ⟨eqT_true (MProgram_ext E0.out E1.out E2.out HE.out)⟩
                  go_wp2
                  go_ret
                  exact ⟨by rw [HF.out]; rfl, bel⟩

theorem specSame_at (w0 : World) (A0 B0 : Option Addr) (c0 d0 : Nat) (A1 B1 : Option Addr) (c1 d1 : Nat) (A2 B2 : Option Addr) (c2 d2 : Nat) (A3 B3 : Option Addr) (c3 d3 : Nat) (x y : MProgram) (w : World) (h0 : Kd.C (Kd.slice 2 (Kd.int .i64)) w0 A0 x.regions.length x.regions) (g0 : Kd.C (Kd.slice 2 (Kd.int .i64)) w0 B0 y.regions.length y.regions) (h1 : Kd.C kConst_I w0 A1 x.consts.length x.consts) (g1 : Kd.C kConst_I w0 B1 y.consts.length y.consts) (h2 : Kd.C kFunc_I w0 A2 x.funcs.length x.funcs) (g2 : Kd.C kFunc_I w0 B2 y.funcs.length y.funcs) (h3 : Kd.C kCert_I w0 A3 x.certs.length x.certs) (g3 : Kd.C kCert_I w0 B3 y.certs.length y.certs) (hb : Below w0.heap.size w0 w := by exact bel) :
    Calls Try.prog 15 #[.agg #[.slice A0 x.regions.length c0, .slice A1 x.consts.length c1, .slice A2 x.funcs.length c2, .slice A3 x.certs.length c3], .agg #[.slice B0 y.regions.length d0, .slice B1 y.consts.length d1, .slice B2 y.funcs.length d2, .slice B3 y.certs.length d3]] w fun e w' => e = .returned (.bool (eqT x y)) ∧ Below w.heap.size w w' := specSame_calls A0 B0 c0 d0 A1 B1 c1 d1 A2 B2 c2 d2 A3 B3 c3 d3 x y w (Kd.C_below h0 hb) (Kd.C_below g0 hb) (Kd.C_below h1 hb) (Kd.C_below g1 hb) (Kd.C_below h2 hb) (Kd.C_below g2 hb) (Kd.C_below h3 hb) (Kd.C_below g3 hb)

set_option maxHeartbeats 8000000 in
set_option maxRecDepth 100000 in
theorem implSame_calls (A0 B0 : Option Addr) (c0 d0 : Nat) (A1 B1 : Option Addr) (c1 d1 : Nat) (A2 B2 : Option Addr) (c2 d2 : Nat) (A3 B3 : Option Addr) (c3 d3 : Nat) (x y : MProgram) (w : World) (h0 : Kd.C (Kd.slice 2 (Kd.int .i64)) w A0 x.regions.length x.regions) (g0 : Kd.C (Kd.slice 2 (Kd.int .i64)) w B0 y.regions.length y.regions) (h1 : Kd.C kConst_I w A1 x.consts.length x.consts) (g1 : Kd.C kConst_I w B1 y.consts.length y.consts) (h2 : Kd.C kFunc_I w A2 x.funcs.length x.funcs) (g2 : Kd.C kFunc_I w B2 y.funcs.length y.funcs) (h3 : Kd.C kCert_I w A3 x.certs.length x.certs) (g3 : Kd.C kCert_I w B3 y.certs.length y.certs) :
    Calls Try.prog 17 #[.agg #[.slice A0 x.regions.length c0, .slice A1 x.consts.length c1, .slice A2 x.funcs.length c2, .slice A3 x.certs.length c3], .agg #[.slice B0 y.regions.length d0, .slice B1 y.consts.length d1, .slice B2 y.funcs.length d2, .slice B3 y.certs.length d3]] w fun e w' => e = .returned (.bool (eqT x y)) ∧ Below w.heap.size w w' := by
  have m0 : x.regions.length ≤ 9223372036854775807 := h0.2.1
  have m1 : x.consts.length ≤ 9223372036854775807 := h1.2.1
  have m2 : x.funcs.length ≤ 9223372036854775807 := h2.2.1
  have m3 : x.certs.length ≤ 9223372036854775807 := h3.2.1
  have H0 := Aside0.mk h0; have G0 := Aside0.mk g0; have H1 := Aside0.mk h1; have G1 := Aside0.mk g1; have H2 := Aside0.mk h2; have G2 := Aside0.mk g2; have H3 := Aside0.mk h3; have G3 := Aside0.mk g3; have HB := Aside0.mk (Below.refl w.heap.size w)
  clear h0 g0 h1 g1 h2 g2 h3 g3
  by_cases p0 : ¬ (x.regions.length = y.regions.length)
  · have t_ : ((x.regions.length : Int) != (y.regions.length : Int)) = true := by simp; omega
    have HE : Aside0 (eqT x y = false) := ⟨eqT_false (fun e => p0 (by rw [e]))⟩
    clear p0
    go_enter Try.func17, Try.ntmps17
    go_wp2_with (first | (go_at_call 46; (with_reducible refine (slConst_at w _ _ x.consts _ _ y.consts _ H1.out G1.out).mono ?_); rintro e w1 ⟨rfl, hb⟩; have n_ := Aside0.mk (below_step (w := w) bel hb); have k_ : Aside0 (w1.heap[w.heap.size]? = some (.cells #[.slice A0 x.regions.length c0, .slice A1 x.consts.length c1, .slice A2 x.funcs.length c2, .slice A3 x.certs.length c3] 55 (0, 0))) := ⟨by first | exact (hb.block _ (blk_lt BK0.out)).trans BK0.out | exact (hb.block _ (by first | (simp; done) | (simp; omega))).trans (blk_alloc2a _ _ _ _ _)⟩; (try clear BK0); have BK0 := k_; clear k_; have q00 : w1.cell? ⟨w.heap.size, 0, none⟩ = some (.slice A0 x.regions.length c0) := (blk_cell BK0.out 0).trans rfl; have q01 : w1.cell? ⟨w.heap.size, 1, none⟩ = some (.slice A1 x.consts.length c1) := (blk_cell BK0.out 1).trans rfl; have q02 : w1.cell? ⟨w.heap.size, 2, none⟩ = some (.slice A2 x.funcs.length c2) := (blk_cell BK0.out 2).trans rfl; have q03 : w1.cell? ⟨w.heap.size, 3, none⟩ = some (.slice A3 x.certs.length c3) := (blk_cell BK0.out 3).trans rfl; have k_ : Aside0 (w1.heap[w.heap.size + 1]? = some (.cells #[.slice B0 y.regions.length d0, .slice B1 y.consts.length d1, .slice B2 y.funcs.length d2, .slice B3 y.certs.length d3] 55 (0, 0))) := ⟨by first | exact (hb.block _ (blk_lt BK1.out)).trans BK1.out | exact (hb.block _ (by first | (simp; done) | (simp; omega))).trans (blk_alloc2b _ _ _ _ _)⟩; (try clear BK1); have BK1 := k_; clear k_; have q10 : w1.cell? ⟨w.heap.size + 1, 0, none⟩ = some (.slice B0 y.regions.length d0) := (blk_cell BK1.out 0).trans rfl; have q11 : w1.cell? ⟨w.heap.size + 1, 1, none⟩ = some (.slice B1 y.consts.length d1) := (blk_cell BK1.out 1).trans rfl; have q12 : w1.cell? ⟨w.heap.size + 1, 2, none⟩ = some (.slice B2 y.funcs.length d2) := (blk_cell BK1.out 2).trans rfl; have q13 : w1.cell? ⟨w.heap.size + 1, 3, none⟩ = some (.slice B3 y.certs.length d3) := (blk_cell BK1.out 3).trans rfl; clear HB hb; have HB := n_; clear n_) | (go_at_call 47; (with_reducible refine (slCert_at w _ _ x.certs _ _ y.certs _ H3.out G3.out).mono ?_); rintro e w1 ⟨rfl, hb⟩; have n_ := Aside0.mk (below_step (w := w) bel hb); have k_ : Aside0 (w1.heap[w.heap.size]? = some (.cells #[.slice A0 x.regions.length c0, .slice A1 x.consts.length c1, .slice A2 x.funcs.length c2, .slice A3 x.certs.length c3] 55 (0, 0))) := ⟨by first | exact (hb.block _ (blk_lt BK0.out)).trans BK0.out | exact (hb.block _ (by first | (simp; done) | (simp; omega))).trans (blk_alloc2a _ _ _ _ _)⟩; (try clear BK0); have BK0 := k_; clear k_; have q00 : w1.cell? ⟨w.heap.size, 0, none⟩ = some (.slice A0 x.regions.length c0) := (blk_cell BK0.out 0).trans rfl; have q01 : w1.cell? ⟨w.heap.size, 1, none⟩ = some (.slice A1 x.consts.length c1) := (blk_cell BK0.out 1).trans rfl; have q02 : w1.cell? ⟨w.heap.size, 2, none⟩ = some (.slice A2 x.funcs.length c2) := (blk_cell BK0.out 2).trans rfl; have q03 : w1.cell? ⟨w.heap.size, 3, none⟩ = some (.slice A3 x.certs.length c3) := (blk_cell BK0.out 3).trans rfl; have k_ : Aside0 (w1.heap[w.heap.size + 1]? = some (.cells #[.slice B0 y.regions.length d0, .slice B1 y.consts.length d1, .slice B2 y.funcs.length d2, .slice B3 y.certs.length d3] 55 (0, 0))) := ⟨by first | exact (hb.block _ (blk_lt BK1.out)).trans BK1.out | exact (hb.block _ (by first | (simp; done) | (simp; omega))).trans (blk_alloc2b _ _ _ _ _)⟩; (try clear BK1); have BK1 := k_; clear k_; have q10 : w1.cell? ⟨w.heap.size + 1, 0, none⟩ = some (.slice B0 y.regions.length d0) := (blk_cell BK1.out 0).trans rfl; have q11 : w1.cell? ⟨w.heap.size + 1, 1, none⟩ = some (.slice B1 y.consts.length d1) := (blk_cell BK1.out 1).trans rfl; have q12 : w1.cell? ⟨w.heap.size + 1, 2, none⟩ = some (.slice B2 y.funcs.length d2) := (blk_cell BK1.out 2).trans rfl; have q13 : w1.cell? ⟨w.heap.size + 1, 3, none⟩ = some (.slice B3 y.certs.length d3) := (blk_cell BK1.out 3).trans rfl; clear HB hb; have HB := n_; clear n_))
    go_ret
    exact ⟨by rw [HE.out]; rfl, bel⟩
  replace p0 := Classical.not_not.1 p0
  have t_ : ((x.regions.length : Int) != (y.regions.length : Int)) = false := by simp [p0]
  have P0 := Aside0.mk p0
  clear p0
  by_cases p1 : ¬ (x.funcs.length = y.funcs.length)
  · have t_ : ((x.funcs.length : Int) != (y.funcs.length : Int)) = true := by simp; omega
    have HE : Aside0 (eqT x y = false) := ⟨eqT_false (fun e => p1 (by rw [e]))⟩
    clear p1
    go_enter Try.func17, Try.ntmps17
    go_wp2_with (first | (go_at_call 46; (with_reducible refine (slConst_at w _ _ x.consts _ _ y.consts _ H1.out G1.out).mono ?_); rintro e w1 ⟨rfl, hb⟩; have n_ := Aside0.mk (below_step (w := w) bel hb); have k_ : Aside0 (w1.heap[w.heap.size]? = some (.cells #[.slice A0 x.regions.length c0, .slice A1 x.consts.length c1, .slice A2 x.funcs.length c2, .slice A3 x.certs.length c3] 55 (0, 0))) := ⟨by first | exact (hb.block _ (blk_lt BK0.out)).trans BK0.out | exact (hb.block _ (by first | (simp; done) | (simp; omega))).trans (blk_alloc2a _ _ _ _ _)⟩; (try clear BK0); have BK0 := k_; clear k_; have q00 : w1.cell? ⟨w.heap.size, 0, none⟩ = some (.slice A0 x.regions.length c0) := (blk_cell BK0.out 0).trans rfl; have q01 : w1.cell? ⟨w.heap.size, 1, none⟩ = some (.slice A1 x.consts.length c1) := (blk_cell BK0.out 1).trans rfl; have q02 : w1.cell? ⟨w.heap.size, 2, none⟩ = some (.slice A2 x.funcs.length c2) := (blk_cell BK0.out 2).trans rfl; have q03 : w1.cell? ⟨w.heap.size, 3, none⟩ = some (.slice A3 x.certs.length c3) := (blk_cell BK0.out 3).trans rfl; have k_ : Aside0 (w1.heap[w.heap.size + 1]? = some (.cells #[.slice B0 y.regions.length d0, .slice B1 y.consts.length d1, .slice B2 y.funcs.length d2, .slice B3 y.certs.length d3] 55 (0, 0))) := ⟨by first | exact (hb.block _ (blk_lt BK1.out)).trans BK1.out | exact (hb.block _ (by first | (simp; done) | (simp; omega))).trans (blk_alloc2b _ _ _ _ _)⟩; (try clear BK1); have BK1 := k_; clear k_; have q10 : w1.cell? ⟨w.heap.size + 1, 0, none⟩ = some (.slice B0 y.regions.length d0) := (blk_cell BK1.out 0).trans rfl; have q11 : w1.cell? ⟨w.heap.size + 1, 1, none⟩ = some (.slice B1 y.consts.length d1) := (blk_cell BK1.out 1).trans rfl; have q12 : w1.cell? ⟨w.heap.size + 1, 2, none⟩ = some (.slice B2 y.funcs.length d2) := (blk_cell BK1.out 2).trans rfl; have q13 : w1.cell? ⟨w.heap.size + 1, 3, none⟩ = some (.slice B3 y.certs.length d3) := (blk_cell BK1.out 3).trans rfl; clear HB hb; have HB := n_; clear n_) | (go_at_call 47; (with_reducible refine (slCert_at w _ _ x.certs _ _ y.certs _ H3.out G3.out).mono ?_); rintro e w1 ⟨rfl, hb⟩; have n_ := Aside0.mk (below_step (w := w) bel hb); have k_ : Aside0 (w1.heap[w.heap.size]? = some (.cells #[.slice A0 x.regions.length c0, .slice A1 x.consts.length c1, .slice A2 x.funcs.length c2, .slice A3 x.certs.length c3] 55 (0, 0))) := ⟨by first | exact (hb.block _ (blk_lt BK0.out)).trans BK0.out | exact (hb.block _ (by first | (simp; done) | (simp; omega))).trans (blk_alloc2a _ _ _ _ _)⟩; (try clear BK0); have BK0 := k_; clear k_; have q00 : w1.cell? ⟨w.heap.size, 0, none⟩ = some (.slice A0 x.regions.length c0) := (blk_cell BK0.out 0).trans rfl; have q01 : w1.cell? ⟨w.heap.size, 1, none⟩ = some (.slice A1 x.consts.length c1) := (blk_cell BK0.out 1).trans rfl; have q02 : w1.cell? ⟨w.heap.size, 2, none⟩ = some (.slice A2 x.funcs.length c2) := (blk_cell BK0.out 2).trans rfl; have q03 : w1.cell? ⟨w.heap.size, 3, none⟩ = some (.slice A3 x.certs.length c3) := (blk_cell BK0.out 3).trans rfl; have k_ : Aside0 (w1.heap[w.heap.size + 1]? = some (.cells #[.slice B0 y.regions.length d0, .slice B1 y.consts.length d1, .slice B2 y.funcs.length d2, .slice B3 y.certs.length d3] 55 (0, 0))) := ⟨by first | exact (hb.block _ (blk_lt BK1.out)).trans BK1.out | exact (hb.block _ (by first | (simp; done) | (simp; omega))).trans (blk_alloc2b _ _ _ _ _)⟩; (try clear BK1); have BK1 := k_; clear k_; have q10 : w1.cell? ⟨w.heap.size + 1, 0, none⟩ = some (.slice B0 y.regions.length d0) := (blk_cell BK1.out 0).trans rfl; have q11 : w1.cell? ⟨w.heap.size + 1, 1, none⟩ = some (.slice B1 y.consts.length d1) := (blk_cell BK1.out 1).trans rfl; have q12 : w1.cell? ⟨w.heap.size + 1, 2, none⟩ = some (.slice B2 y.funcs.length d2) := (blk_cell BK1.out 2).trans rfl; have q13 : w1.cell? ⟨w.heap.size + 1, 3, none⟩ = some (.slice B3 y.certs.length d3) := (blk_cell BK1.out 3).trans rfl; clear HB hb; have HB := n_; clear n_))
    go_ret
    exact ⟨by rw [HE.out]; rfl, bel⟩
  replace p1 := Classical.not_not.1 p1
  have t_ : ((x.funcs.length : Int) != (y.funcs.length : Int)) = false := by simp [p1]
  have P1 := Aside0.mk p1
  clear p1
  by_cases p2 : ¬ (x.consts = y.consts)
  · have t_ := eqT_false p2
    have HE : Aside0 (eqT x y = false) := ⟨eqT_false (fun e => p2 (by rw [e]))⟩
    clear p2
    go_enter Try.func17, Try.ntmps17
    go_wp2_with (first | (go_at_call 46; (with_reducible refine (slConst_at w _ _ x.consts _ _ y.consts _ H1.out G1.out).mono ?_); rintro e w1 ⟨rfl, hb⟩; have n_ := Aside0.mk (below_step (w := w) bel hb); have k_ : Aside0 (w1.heap[w.heap.size]? = some (.cells #[.slice A0 x.regions.length c0, .slice A1 x.consts.length c1, .slice A2 x.funcs.length c2, .slice A3 x.certs.length c3] 55 (0, 0))) := ⟨by first | exact (hb.block _ (blk_lt BK0.out)).trans BK0.out | exact (hb.block _ (by first | (simp; done) | (simp; omega))).trans (blk_alloc2a _ _ _ _ _)⟩; (try clear BK0); have BK0 := k_; clear k_; have q00 : w1.cell? ⟨w.heap.size, 0, none⟩ = some (.slice A0 x.regions.length c0) := (blk_cell BK0.out 0).trans rfl; have q01 : w1.cell? ⟨w.heap.size, 1, none⟩ = some (.slice A1 x.consts.length c1) := (blk_cell BK0.out 1).trans rfl; have q02 : w1.cell? ⟨w.heap.size, 2, none⟩ = some (.slice A2 x.funcs.length c2) := (blk_cell BK0.out 2).trans rfl; have q03 : w1.cell? ⟨w.heap.size, 3, none⟩ = some (.slice A3 x.certs.length c3) := (blk_cell BK0.out 3).trans rfl; have k_ : Aside0 (w1.heap[w.heap.size + 1]? = some (.cells #[.slice B0 y.regions.length d0, .slice B1 y.consts.length d1, .slice B2 y.funcs.length d2, .slice B3 y.certs.length d3] 55 (0, 0))) := ⟨by first | exact (hb.block _ (blk_lt BK1.out)).trans BK1.out | exact (hb.block _ (by first | (simp; done) | (simp; omega))).trans (blk_alloc2b _ _ _ _ _)⟩; (try clear BK1); have BK1 := k_; clear k_; have q10 : w1.cell? ⟨w.heap.size + 1, 0, none⟩ = some (.slice B0 y.regions.length d0) := (blk_cell BK1.out 0).trans rfl; have q11 : w1.cell? ⟨w.heap.size + 1, 1, none⟩ = some (.slice B1 y.consts.length d1) := (blk_cell BK1.out 1).trans rfl; have q12 : w1.cell? ⟨w.heap.size + 1, 2, none⟩ = some (.slice B2 y.funcs.length d2) := (blk_cell BK1.out 2).trans rfl; have q13 : w1.cell? ⟨w.heap.size + 1, 3, none⟩ = some (.slice B3 y.certs.length d3) := (blk_cell BK1.out 3).trans rfl; clear HB hb; have HB := n_; clear n_) | (go_at_call 47; (with_reducible refine (slCert_at w _ _ x.certs _ _ y.certs _ H3.out G3.out).mono ?_); rintro e w1 ⟨rfl, hb⟩; have n_ := Aside0.mk (below_step (w := w) bel hb); have k_ : Aside0 (w1.heap[w.heap.size]? = some (.cells #[.slice A0 x.regions.length c0, .slice A1 x.consts.length c1, .slice A2 x.funcs.length c2, .slice A3 x.certs.length c3] 55 (0, 0))) := ⟨by first | exact (hb.block _ (blk_lt BK0.out)).trans BK0.out | exact (hb.block _ (by first | (simp; done) | (simp; omega))).trans (blk_alloc2a _ _ _ _ _)⟩; (try clear BK0); have BK0 := k_; clear k_; have q00 : w1.cell? ⟨w.heap.size, 0, none⟩ = some (.slice A0 x.regions.length c0) := (blk_cell BK0.out 0).trans rfl; have q01 : w1.cell? ⟨w.heap.size, 1, none⟩ = some (.slice A1 x.consts.length c1) := (blk_cell BK0.out 1).trans rfl; have q02 : w1.cell? ⟨w.heap.size, 2, none⟩ = some (.slice A2 x.funcs.length c2) := (blk_cell BK0.out 2).trans rfl; have q03 : w1.cell? ⟨w.heap.size, 3, none⟩ = some (.slice A3 x.certs.length c3) := (blk_cell BK0.out 3).trans rfl; have k_ : Aside0 (w1.heap[w.heap.size + 1]? = some (.cells #[.slice B0 y.regions.length d0, .slice B1 y.consts.length d1, .slice B2 y.funcs.length d2, .slice B3 y.certs.length d3] 55 (0, 0))) := ⟨by first | exact (hb.block _ (blk_lt BK1.out)).trans BK1.out | exact (hb.block _ (by first | (simp; done) | (simp; omega))).trans (blk_alloc2b _ _ _ _ _)⟩; (try clear BK1); have BK1 := k_; clear k_; have q10 : w1.cell? ⟨w.heap.size + 1, 0, none⟩ = some (.slice B0 y.regions.length d0) := (blk_cell BK1.out 0).trans rfl; have q11 : w1.cell? ⟨w.heap.size + 1, 1, none⟩ = some (.slice B1 y.consts.length d1) := (blk_cell BK1.out 1).trans rfl; have q12 : w1.cell? ⟨w.heap.size + 1, 2, none⟩ = some (.slice B2 y.funcs.length d2) := (blk_cell BK1.out 2).trans rfl; have q13 : w1.cell? ⟨w.heap.size + 1, 3, none⟩ = some (.slice B3 y.certs.length d3) := (blk_cell BK1.out 3).trans rfl; clear HB hb; have HB := n_; clear n_))
    go_ret
    exact ⟨by rw [HE.out]; rfl, bel⟩
  replace p2 := Classical.not_not.1 p2
  have t_ := eqT_true p2
  have P2 := Aside0.mk p2
  clear p2
  by_cases p3 : ¬ (x.certs = y.certs)
  · have t_ := eqT_false p3
    have HE : Aside0 (eqT x y = false) := ⟨eqT_false (fun e => p3 (by rw [e]))⟩
    clear p3
    go_enter Try.func17, Try.ntmps17
    go_wp2_with (first | (go_at_call 46; (with_reducible refine (slConst_at w _ _ x.consts _ _ y.consts _ H1.out G1.out).mono ?_); rintro e w1 ⟨rfl, hb⟩; have n_ := Aside0.mk (below_step (w := w) bel hb); have k_ : Aside0 (w1.heap[w.heap.size]? = some (.cells #[.slice A0 x.regions.length c0, .slice A1 x.consts.length c1, .slice A2 x.funcs.length c2, .slice A3 x.certs.length c3] 55 (0, 0))) := ⟨by first | exact (hb.block _ (blk_lt BK0.out)).trans BK0.out | exact (hb.block _ (by first | (simp; done) | (simp; omega))).trans (blk_alloc2a _ _ _ _ _)⟩; (try clear BK0); have BK0 := k_; clear k_; have q00 : w1.cell? ⟨w.heap.size, 0, none⟩ = some (.slice A0 x.regions.length c0) := (blk_cell BK0.out 0).trans rfl; have q01 : w1.cell? ⟨w.heap.size, 1, none⟩ = some (.slice A1 x.consts.length c1) := (blk_cell BK0.out 1).trans rfl; have q02 : w1.cell? ⟨w.heap.size, 2, none⟩ = some (.slice A2 x.funcs.length c2) := (blk_cell BK0.out 2).trans rfl; have q03 : w1.cell? ⟨w.heap.size, 3, none⟩ = some (.slice A3 x.certs.length c3) := (blk_cell BK0.out 3).trans rfl; have k_ : Aside0 (w1.heap[w.heap.size + 1]? = some (.cells #[.slice B0 y.regions.length d0, .slice B1 y.consts.length d1, .slice B2 y.funcs.length d2, .slice B3 y.certs.length d3] 55 (0, 0))) := ⟨by first | exact (hb.block _ (blk_lt BK1.out)).trans BK1.out | exact (hb.block _ (by first | (simp; done) | (simp; omega))).trans (blk_alloc2b _ _ _ _ _)⟩; (try clear BK1); have BK1 := k_; clear k_; have q10 : w1.cell? ⟨w.heap.size + 1, 0, none⟩ = some (.slice B0 y.regions.length d0) := (blk_cell BK1.out 0).trans rfl; have q11 : w1.cell? ⟨w.heap.size + 1, 1, none⟩ = some (.slice B1 y.consts.length d1) := (blk_cell BK1.out 1).trans rfl; have q12 : w1.cell? ⟨w.heap.size + 1, 2, none⟩ = some (.slice B2 y.funcs.length d2) := (blk_cell BK1.out 2).trans rfl; have q13 : w1.cell? ⟨w.heap.size + 1, 3, none⟩ = some (.slice B3 y.certs.length d3) := (blk_cell BK1.out 3).trans rfl; clear HB hb; have HB := n_; clear n_) | (go_at_call 47; (with_reducible refine (slCert_at w _ _ x.certs _ _ y.certs _ H3.out G3.out).mono ?_); rintro e w1 ⟨rfl, hb⟩; have n_ := Aside0.mk (below_step (w := w) bel hb); have k_ : Aside0 (w1.heap[w.heap.size]? = some (.cells #[.slice A0 x.regions.length c0, .slice A1 x.consts.length c1, .slice A2 x.funcs.length c2, .slice A3 x.certs.length c3] 55 (0, 0))) := ⟨by first | exact (hb.block _ (blk_lt BK0.out)).trans BK0.out | exact (hb.block _ (by first | (simp; done) | (simp; omega))).trans (blk_alloc2a _ _ _ _ _)⟩; (try clear BK0); have BK0 := k_; clear k_; have q00 : w1.cell? ⟨w.heap.size, 0, none⟩ = some (.slice A0 x.regions.length c0) := (blk_cell BK0.out 0).trans rfl; have q01 : w1.cell? ⟨w.heap.size, 1, none⟩ = some (.slice A1 x.consts.length c1) := (blk_cell BK0.out 1).trans rfl; have q02 : w1.cell? ⟨w.heap.size, 2, none⟩ = some (.slice A2 x.funcs.length c2) := (blk_cell BK0.out 2).trans rfl; have q03 : w1.cell? ⟨w.heap.size, 3, none⟩ = some (.slice A3 x.certs.length c3) := (blk_cell BK0.out 3).trans rfl; have k_ : Aside0 (w1.heap[w.heap.size + 1]? = some (.cells #[.slice B0 y.regions.length d0, .slice B1 y.consts.length d1, .slice B2 y.funcs.length d2, .slice B3 y.certs.length d3] 55 (0, 0))) := ⟨by first | exact (hb.block _ (blk_lt BK1.out)).trans BK1.out | exact (hb.block _ (by first | (simp; done) | (simp; omega))).trans (blk_alloc2b _ _ _ _ _)⟩; (try clear BK1); have BK1 := k_; clear k_; have q10 : w1.cell? ⟨w.heap.size + 1, 0, none⟩ = some (.slice B0 y.regions.length d0) := (blk_cell BK1.out 0).trans rfl; have q11 : w1.cell? ⟨w.heap.size + 1, 1, none⟩ = some (.slice B1 y.consts.length d1) := (blk_cell BK1.out 1).trans rfl; have q12 : w1.cell? ⟨w.heap.size + 1, 2, none⟩ = some (.slice B2 y.funcs.length d2) := (blk_cell BK1.out 2).trans rfl; have q13 : w1.cell? ⟨w.heap.size + 1, 3, none⟩ = some (.slice B3 y.certs.length d3) := (blk_cell BK1.out 3).trans rfl; clear HB hb; have HB := n_; clear n_))
    go_ret
    exact ⟨by rw [HE.out]; rfl, bel⟩
  replace p3 := Classical.not_not.1 p3
  have t_ := eqT_true p3
  have P3 := Aside0.mk p3
  clear p3
  go_enter Try.func17, Try.ntmps17
  go_wp2_with (first | (go_at_call 46; (with_reducible refine (slConst_at w _ _ x.consts _ _ y.consts _ H1.out G1.out).mono ?_); rintro e w1 ⟨rfl, hb⟩; have n_ := Aside0.mk (below_step (w := w) bel hb); have k_ : Aside0 (w1.heap[w.heap.size]? = some (.cells #[.slice A0 x.regions.length c0, .slice A1 x.consts.length c1, .slice A2 x.funcs.length c2, .slice A3 x.certs.length c3] 55 (0, 0))) := ⟨by first | exact (hb.block _ (blk_lt BK0.out)).trans BK0.out | exact (hb.block _ (by first | (simp; done) | (simp; omega))).trans (blk_alloc2a _ _ _ _ _)⟩; (try clear BK0); have BK0 := k_; clear k_; have q00 : w1.cell? ⟨w.heap.size, 0, none⟩ = some (.slice A0 x.regions.length c0) := (blk_cell BK0.out 0).trans rfl; have q01 : w1.cell? ⟨w.heap.size, 1, none⟩ = some (.slice A1 x.consts.length c1) := (blk_cell BK0.out 1).trans rfl; have q02 : w1.cell? ⟨w.heap.size, 2, none⟩ = some (.slice A2 x.funcs.length c2) := (blk_cell BK0.out 2).trans rfl; have q03 : w1.cell? ⟨w.heap.size, 3, none⟩ = some (.slice A3 x.certs.length c3) := (blk_cell BK0.out 3).trans rfl; have k_ : Aside0 (w1.heap[w.heap.size + 1]? = some (.cells #[.slice B0 y.regions.length d0, .slice B1 y.consts.length d1, .slice B2 y.funcs.length d2, .slice B3 y.certs.length d3] 55 (0, 0))) := ⟨by first | exact (hb.block _ (blk_lt BK1.out)).trans BK1.out | exact (hb.block _ (by first | (simp; done) | (simp; omega))).trans (blk_alloc2b _ _ _ _ _)⟩; (try clear BK1); have BK1 := k_; clear k_; have q10 : w1.cell? ⟨w.heap.size + 1, 0, none⟩ = some (.slice B0 y.regions.length d0) := (blk_cell BK1.out 0).trans rfl; have q11 : w1.cell? ⟨w.heap.size + 1, 1, none⟩ = some (.slice B1 y.consts.length d1) := (blk_cell BK1.out 1).trans rfl; have q12 : w1.cell? ⟨w.heap.size + 1, 2, none⟩ = some (.slice B2 y.funcs.length d2) := (blk_cell BK1.out 2).trans rfl; have q13 : w1.cell? ⟨w.heap.size + 1, 3, none⟩ = some (.slice B3 y.certs.length d3) := (blk_cell BK1.out 3).trans rfl; clear HB hb; have HB := n_; clear n_) | (go_at_call 47; (with_reducible refine (slCert_at w _ _ x.certs _ _ y.certs _ H3.out G3.out).mono ?_); rintro e w1 ⟨rfl, hb⟩; have n_ := Aside0.mk (below_step (w := w) bel hb); have k_ : Aside0 (w1.heap[w.heap.size]? = some (.cells #[.slice A0 x.regions.length c0, .slice A1 x.consts.length c1, .slice A2 x.funcs.length c2, .slice A3 x.certs.length c3] 55 (0, 0))) := ⟨by first | exact (hb.block _ (blk_lt BK0.out)).trans BK0.out | exact (hb.block _ (by first | (simp; done) | (simp; omega))).trans (blk_alloc2a _ _ _ _ _)⟩; (try clear BK0); have BK0 := k_; clear k_; have q00 : w1.cell? ⟨w.heap.size, 0, none⟩ = some (.slice A0 x.regions.length c0) := (blk_cell BK0.out 0).trans rfl; have q01 : w1.cell? ⟨w.heap.size, 1, none⟩ = some (.slice A1 x.consts.length c1) := (blk_cell BK0.out 1).trans rfl; have q02 : w1.cell? ⟨w.heap.size, 2, none⟩ = some (.slice A2 x.funcs.length c2) := (blk_cell BK0.out 2).trans rfl; have q03 : w1.cell? ⟨w.heap.size, 3, none⟩ = some (.slice A3 x.certs.length c3) := (blk_cell BK0.out 3).trans rfl; have k_ : Aside0 (w1.heap[w.heap.size + 1]? = some (.cells #[.slice B0 y.regions.length d0, .slice B1 y.consts.length d1, .slice B2 y.funcs.length d2, .slice B3 y.certs.length d3] 55 (0, 0))) := ⟨by first | exact (hb.block _ (blk_lt BK1.out)).trans BK1.out | exact (hb.block _ (by first | (simp; done) | (simp; omega))).trans (blk_alloc2b _ _ _ _ _)⟩; (try clear BK1); have BK1 := k_; clear k_; have q10 : w1.cell? ⟨w.heap.size + 1, 0, none⟩ = some (.slice B0 y.regions.length d0) := (blk_cell BK1.out 0).trans rfl; have q11 : w1.cell? ⟨w.heap.size + 1, 1, none⟩ = some (.slice B1 y.consts.length d1) := (blk_cell BK1.out 1).trans rfl; have q12 : w1.cell? ⟨w.heap.size + 1, 2, none⟩ = some (.slice B2 y.funcs.length d2) := (blk_cell BK1.out 2).trans rfl; have q13 : w1.cell? ⟨w.heap.size + 1, 3, none⟩ = some (.slice B3 y.certs.length d3) := (blk_cell BK1.out 3).trans rfl; clear HB hb; have HB := n_; clear n_))
  obtain ⟨W0, rfl⟩ : ∃ v_, v_ = w1 := ⟨_, rfl⟩
  go_loopw [44] (fun v wr => ∃ i : Int, 0 ≤ i ∧ i ≤ x.regions.length ∧ v = .int .i64 i ∧ Aside0 (∀ j : Nat, (j : Int) < i → x.regions.getD j [] = y.regions.getD j []) ∧ Aside0 (Below W0.heap.size W0 wr)) (fun v _ => ((x.regions.length : Int) - intOf v).toNat)
  case atStart => exact ⟨0, by omega, by omega, rfl, ⟨fun j h => by omega⟩, ⟨Below.refl _ _⟩⟩
  case round =>
    obtain ⟨i, h0, hi, rfl, HP, HLo⟩ := hrel
    obtain ⟨w_1, rfl⟩ : ∃ v_, v_ = wr := ⟨_, rfl⟩
    replace q00 := pw_cell_below HLo.out q00
    replace q01 := pw_cell_below HLo.out q01
    replace q02 := pw_cell_below HLo.out q02
    replace q03 := pw_cell_below HLo.out q03
    replace q10 := pw_cell_below HLo.out q10
    replace q11 := pw_cell_below HLo.out q11
    replace q12 := pw_cell_below HLo.out q12
    replace q13 := pw_cell_below HLo.out q13
    have n_ := Aside0.mk (below_step HB.out HLo.out)
    clear HB
    have HB := n_
    clear n_
    by_cases hlt : i < x.regions.length
    · have hlt1 : i < y.regions.length := by have := P0.out; omega
      obtain ⟨ad0, D0, d0_, e0, x0, y0, z0⟩ := atLL (Kd.C_below H0.out HB.out) i h0 hlt
      cases e0
      obtain ⟨ad1, D1, d1_, e1, x1, y1, z1⟩ := atLL (Kd.C_below G0.out HB.out) i h0 hlt1
      cases e1
      by_cases h : rdLL (x.regions) i = rdLL (y.regions) i
      · have t_ : eqT (rdLL (x.regions) i) (rdLL (y.regions) i) = true := eqT_true h
        have HE := Aside0.mk h
        clear h
        go_wp2
        go_still_tail 10, (by kernel_rfl)
        go_wp2_with (go_at_call 48; (with_reducible refine (slInt64_at w_1 _ _ (rdLL (x.regions) i) _ _ (rdLL (y.regions) i) _ z0 z1).mono ?_); rintro e w2 ⟨rfl, hb⟩; have HB2 := Aside0.mk (below_step (w := w) bel hb); have HL2 := Aside0.mk (below_step (w := W0) bel hb); clear hb)
        go_roundw
        case rel => exact ⟨i + 1, by omega, by omega, rfl, ⟨fun j hj => by
          by_cases h1 : (j : Int) < i
          · exact HP.out j h1
          · obtain rfl : i = (j : Int) := by omega
            exact HE.out⟩, ⟨bel⟩⟩
        case measure => simp [intOf]; omega
      · have t_ : eqT (rdLL (x.regions) i) (rdLL (y.regions) i) = false := eqT_false h
        have HE : Aside0 (eqT x y = false) := ⟨eqT_false (fun e => h (by rw [e]))⟩
        clear h
        go_wp2
        go_still_tail 10, (by kernel_rfl)
        go_wp2_with (go_at_call 48; (with_reducible refine (slInt64_at w_1 _ _ (rdLL (x.regions) i) _ _ (rdLL (y.regions) i) _ z0 z1).mono ?_); rintro e w2 ⟨rfl, hb⟩; have HB2 := Aside0.mk (below_step (w := w) bel hb); have HL2 := Aside0.mk (below_step (w := W0) bel hb); clear hb)
        go_ret
        exact ⟨by rw [HE.out]; rfl, bel⟩
    · have HE := Aside0.mk (ext_getD [] P0.out (fun j hj => HP.out j (by omega)))
      have E0 := HE
      clear HE HP HLo
      go_wp2
      go_loopw [63] (fun v wr => ∃ i : Int, 0 ≤ i ∧ i ≤ x.funcs.length ∧ v = .int .i64 i ∧ Aside0 (∀ j : Nat, (j : Int) < i → x.funcs.getD j zFunc = y.funcs.getD j zFunc) ∧ Aside0 (Below w_1.heap.size w_1 wr)) (fun v _ => ((x.funcs.length : Int) - intOf v).toNat)
      case atStart => exact ⟨0, by omega, by omega, rfl, ⟨fun j h => by omega⟩, ⟨Below.refl _ _⟩⟩
      case round =>
        obtain ⟨i, h0, hi, rfl, HP, HLo⟩ := hrel
        obtain ⟨w_2, rfl⟩ : ∃ v_, v_ = wr := ⟨_, rfl⟩
        replace q00 := pw_cell_below HLo.out q00
        replace q01 := pw_cell_below HLo.out q01
        replace q02 := pw_cell_below HLo.out q02
        replace q03 := pw_cell_below HLo.out q03
        replace q10 := pw_cell_below HLo.out q10
        replace q11 := pw_cell_below HLo.out q11
        replace q12 := pw_cell_below HLo.out q12
        replace q13 := pw_cell_below HLo.out q13
        have n_ := Aside0.mk (below_step HB.out HLo.out)
        clear HB
        have HB := n_
        clear n_
        by_cases hlt : i < x.funcs.length
        · have hlt1 : i < y.funcs.length := by have := P1.out; omega
          obtain ⟨ad0, D00, d00_, D02, d02_, D03, d03_, e0, x00, x01, x02, x03, y00, z00, y02, z02, y03, z03⟩ := atFunc_I (Kd.C_below H2.out HB.out) i h0 hlt
          cases e0
          obtain ⟨ad1, D10, d10_, D12, d12_, D13, d13_, e1, x10, x11, x12, x13, y10, z10, y12, z12, y13, z13⟩ := atFunc_I (Kd.C_below G2.out HB.out) i h0 hlt1
          cases e1
          have Z00 := Aside0.mk z00; have Z10 := Aside0.mk z10; clear z00 z10 y00 y10; have Z02 := Aside0.mk z02; have Z12 := Aside0.mk z12; clear z02 z12 y02 y12; have Z03 := Aside0.mk z03; have Z13 := Aside0.mk z13; clear z03 z13 y03 y13
          have HN : Aside0 (∀ (_ : ¬ (rdFunc (x.funcs) i) = (rdFunc (y.funcs) i)), eqT x y = false) := ⟨fun h => eqT_false (fun e => h (by rw [e]))⟩
          by_cases r0 : ¬ (rdFunc (x.funcs) i).result = (rdFunc (y.funcs) i).result
          · have t_ : ((rdFunc (x.funcs) i).result != (rdFunc (y.funcs) i).result) = true := by simp [r0]
            have HE : Aside0 (eqT x y = false) := ⟨HN.out (fun e => r0 (by rw [e]))⟩
            clear r0
            go_wp2
            go_quiet (fail)
            obtain ⟨w_3, h3⟩ : ∃ v_, v_ = w_2.drewN nq := ⟨_, rfl⟩
            rw [← h3]
            replace x00 := cell_eqw h3 x00
            replace x01 := cell_eqw h3 x01
            replace x02 := cell_eqw h3 x02
            replace x03 := cell_eqw h3 x03
            replace x10 := cell_eqw h3 x10
            replace x11 := cell_eqw h3 x11
            replace x12 := cell_eqw h3 x12
            replace x13 := cell_eqw h3 x13
            replace q00 := cell_eqw h3 q00
            replace q01 := cell_eqw h3 q01
            replace q02 := cell_eqw h3 q02
            replace q03 := cell_eqw h3 q03
            replace q10 := cell_eqw h3 q10
            replace q11 := cell_eqw h3 q11
            replace q12 := cell_eqw h3 q12
            replace q13 := cell_eqw h3 q13
            have HD : Aside0 (Below w_2.heap.size w_2 w_3) := ⟨by rw [h3]; exact pw_below_drewN (Below.refl _ _) _⟩
            have HB3 : Aside0 (Below w.heap.size w w_3) := ⟨below_step HB.out HD.out⟩
            have HL3 : Aside0 (Below w_1.heap.size w_1 w_3) := ⟨below_step HLo.out HD.out⟩
            clear h3
            go_wp2
            go_quiet ((first | (go_at_call 48; (with_reducible refine Calls.quiet_of (slInt64_calls D00 d00_ (rdFunc (x.funcs) i).params D10 d10_ (rdFunc (y.funcs) i).params _ ?_ ?_)); (exact (Kd.C_drewN (Kd.C_below Z00.out HD.out) _)); (exact (Kd.C_drewN (Kd.C_below Z10.out HD.out) _))) | (go_at_call 48; (with_reducible refine Calls.quiet_of (slInt64_calls D02 d02_ (rdFunc (x.funcs) i).locals D12 d12_ (rdFunc (y.funcs) i).locals _ ?_ ?_)); (exact (Kd.C_drewN (Kd.C_below Z02.out HD.out) _)); (exact (Kd.C_drewN (Kd.C_below Z12.out HD.out) _))) | (go_at_call 49; (with_reducible refine Calls.quiet_of (slInstr_calls D03 d03_ (rdFunc (x.funcs) i).code D13 d13_ (rdFunc (y.funcs) i).code _ ?_ ?_)); (exact (Kd.C_drewN (Kd.C_below Z03.out HD.out) _)); (exact (Kd.C_drewN (Kd.C_below Z13.out HD.out) _)))))
            go_wp2
            go_ret
            exact ⟨by rw [HE.out]; rfl, bel⟩
          replace r0 := Classical.not_not.1 r0
          have t0_ : ((rdFunc (x.funcs) i).result != (rdFunc (y.funcs) i).result) = false := by simp [r0]
          have R0 := Aside0.mk r0
          clear r0
          by_cases r1 : ¬ (rdFunc (x.funcs) i).params = (rdFunc (y.funcs) i).params
          · have t_ : eqT (rdFunc (x.funcs) i).params (rdFunc (y.funcs) i).params = false := eqT_false r1
            have HE : Aside0 (eqT x y = false) := ⟨HN.out (fun e => r1 (by rw [e]))⟩
            clear r1
            go_wp2
            go_quiet (fail)
            obtain ⟨w_3, h3⟩ : ∃ v_, v_ = w_2.drewN nq := ⟨_, rfl⟩
            rw [← h3]
            replace x00 := cell_eqw h3 x00
            replace x01 := cell_eqw h3 x01
            replace x02 := cell_eqw h3 x02
            replace x03 := cell_eqw h3 x03
            replace x10 := cell_eqw h3 x10
            replace x11 := cell_eqw h3 x11
            replace x12 := cell_eqw h3 x12
            replace x13 := cell_eqw h3 x13
            replace q00 := cell_eqw h3 q00
            replace q01 := cell_eqw h3 q01
            replace q02 := cell_eqw h3 q02
            replace q03 := cell_eqw h3 q03
            replace q10 := cell_eqw h3 q10
            replace q11 := cell_eqw h3 q11
            replace q12 := cell_eqw h3 q12
            replace q13 := cell_eqw h3 q13
            have HD : Aside0 (Below w_2.heap.size w_2 w_3) := ⟨by rw [h3]; exact pw_below_drewN (Below.refl _ _) _⟩
            have HB3 : Aside0 (Below w.heap.size w w_3) := ⟨below_step HB.out HD.out⟩
            have HL3 : Aside0 (Below w_1.heap.size w_1 w_3) := ⟨below_step HLo.out HD.out⟩
            clear h3
            go_wp2
            go_quiet ((first | (go_at_call 48; (with_reducible refine Calls.quiet_of (slInt64_calls D00 d00_ (rdFunc (x.funcs) i).params D10 d10_ (rdFunc (y.funcs) i).params _ ?_ ?_)); (exact (Kd.C_drewN (Kd.C_below Z00.out HD.out) _)); (exact (Kd.C_drewN (Kd.C_below Z10.out HD.out) _))) | (go_at_call 48; (with_reducible refine Calls.quiet_of (slInt64_calls D02 d02_ (rdFunc (x.funcs) i).locals D12 d12_ (rdFunc (y.funcs) i).locals _ ?_ ?_)); (exact (Kd.C_drewN (Kd.C_below Z02.out HD.out) _)); (exact (Kd.C_drewN (Kd.C_below Z12.out HD.out) _))) | (go_at_call 49; (with_reducible refine Calls.quiet_of (slInstr_calls D03 d03_ (rdFunc (x.funcs) i).code D13 d13_ (rdFunc (y.funcs) i).code _ ?_ ?_)); (exact (Kd.C_drewN (Kd.C_below Z03.out HD.out) _)); (exact (Kd.C_drewN (Kd.C_below Z13.out HD.out) _)))))
            go_wp2
            go_ret
            exact ⟨by rw [HE.out]; rfl, bel⟩
          replace r1 := Classical.not_not.1 r1
          have t1_ : eqT (rdFunc (x.funcs) i).params (rdFunc (y.funcs) i).params = true := eqT_true r1
          have R1 := Aside0.mk r1
          clear r1
          by_cases r2 : ¬ (rdFunc (x.funcs) i).locals = (rdFunc (y.funcs) i).locals
          · have t_ : eqT (rdFunc (x.funcs) i).locals (rdFunc (y.funcs) i).locals = false := eqT_false r2
            have HE : Aside0 (eqT x y = false) := ⟨HN.out (fun e => r2 (by rw [e]))⟩
            clear r2
            go_wp2
            go_quiet (fail)
            obtain ⟨w_3, h3⟩ : ∃ v_, v_ = w_2.drewN nq := ⟨_, rfl⟩
            rw [← h3]
            replace x00 := cell_eqw h3 x00
            replace x01 := cell_eqw h3 x01
            replace x02 := cell_eqw h3 x02
            replace x03 := cell_eqw h3 x03
            replace x10 := cell_eqw h3 x10
            replace x11 := cell_eqw h3 x11
            replace x12 := cell_eqw h3 x12
            replace x13 := cell_eqw h3 x13
            replace q00 := cell_eqw h3 q00
            replace q01 := cell_eqw h3 q01
            replace q02 := cell_eqw h3 q02
            replace q03 := cell_eqw h3 q03
            replace q10 := cell_eqw h3 q10
            replace q11 := cell_eqw h3 q11
            replace q12 := cell_eqw h3 q12
            replace q13 := cell_eqw h3 q13
            have HD : Aside0 (Below w_2.heap.size w_2 w_3) := ⟨by rw [h3]; exact pw_below_drewN (Below.refl _ _) _⟩
            have HB3 : Aside0 (Below w.heap.size w w_3) := ⟨below_step HB.out HD.out⟩
            have HL3 : Aside0 (Below w_1.heap.size w_1 w_3) := ⟨below_step HLo.out HD.out⟩
            clear h3
            go_wp2
            go_quiet ((first | (go_at_call 48; (with_reducible refine Calls.quiet_of (slInt64_calls D00 d00_ (rdFunc (x.funcs) i).params D10 d10_ (rdFunc (y.funcs) i).params _ ?_ ?_)); (exact (Kd.C_drewN (Kd.C_below Z00.out HD.out) _)); (exact (Kd.C_drewN (Kd.C_below Z10.out HD.out) _))) | (go_at_call 48; (with_reducible refine Calls.quiet_of (slInt64_calls D02 d02_ (rdFunc (x.funcs) i).locals D12 d12_ (rdFunc (y.funcs) i).locals _ ?_ ?_)); (exact (Kd.C_drewN (Kd.C_below Z02.out HD.out) _)); (exact (Kd.C_drewN (Kd.C_below Z12.out HD.out) _))) | (go_at_call 49; (with_reducible refine Calls.quiet_of (slInstr_calls D03 d03_ (rdFunc (x.funcs) i).code D13 d13_ (rdFunc (y.funcs) i).code _ ?_ ?_)); (exact (Kd.C_drewN (Kd.C_below Z03.out HD.out) _)); (exact (Kd.C_drewN (Kd.C_below Z13.out HD.out) _)))))
            go_wp2
            go_ret
            exact ⟨by rw [HE.out]; rfl, bel⟩
          replace r2 := Classical.not_not.1 r2
          have t2_ : eqT (rdFunc (x.funcs) i).locals (rdFunc (y.funcs) i).locals = true := eqT_true r2
          have R2 := Aside0.mk r2
          clear r2
          by_cases r3 : ¬ (rdFunc (x.funcs) i).code = (rdFunc (y.funcs) i).code
          · have t_ : eqT (rdFunc (x.funcs) i).code (rdFunc (y.funcs) i).code = false := eqT_false r3
            have HE : Aside0 (eqT x y = false) := ⟨HN.out (fun e => r3 (by rw [e]))⟩
            clear r3
            go_wp2
            go_quiet (fail)
            obtain ⟨w_3, h3⟩ : ∃ v_, v_ = w_2.drewN nq := ⟨_, rfl⟩
            rw [← h3]
            replace x00 := cell_eqw h3 x00
            replace x01 := cell_eqw h3 x01
            replace x02 := cell_eqw h3 x02
            replace x03 := cell_eqw h3 x03
            replace x10 := cell_eqw h3 x10
            replace x11 := cell_eqw h3 x11
            replace x12 := cell_eqw h3 x12
            replace x13 := cell_eqw h3 x13
            replace q00 := cell_eqw h3 q00
            replace q01 := cell_eqw h3 q01
            replace q02 := cell_eqw h3 q02
            replace q03 := cell_eqw h3 q03
            replace q10 := cell_eqw h3 q10
            replace q11 := cell_eqw h3 q11
            replace q12 := cell_eqw h3 q12
            replace q13 := cell_eqw h3 q13
            have HD : Aside0 (Below w_2.heap.size w_2 w_3) := ⟨by rw [h3]; exact pw_below_drewN (Below.refl _ _) _⟩
            have HB3 : Aside0 (Below w.heap.size w w_3) := ⟨below_step HB.out HD.out⟩
            have HL3 : Aside0 (Below w_1.heap.size w_1 w_3) := ⟨below_step HLo.out HD.out⟩
            clear h3
            go_wp2
            go_quiet ((first | (go_at_call 48; (with_reducible refine Calls.quiet_of (slInt64_calls D00 d00_ (rdFunc (x.funcs) i).params D10 d10_ (rdFunc (y.funcs) i).params _ ?_ ?_)); (exact (Kd.C_drewN (Kd.C_below Z00.out HD.out) _)); (exact (Kd.C_drewN (Kd.C_below Z10.out HD.out) _))) | (go_at_call 48; (with_reducible refine Calls.quiet_of (slInt64_calls D02 d02_ (rdFunc (x.funcs) i).locals D12 d12_ (rdFunc (y.funcs) i).locals _ ?_ ?_)); (exact (Kd.C_drewN (Kd.C_below Z02.out HD.out) _)); (exact (Kd.C_drewN (Kd.C_below Z12.out HD.out) _))) | (go_at_call 49; (with_reducible refine Calls.quiet_of (slInstr_calls D03 d03_ (rdFunc (x.funcs) i).code D13 d13_ (rdFunc (y.funcs) i).code _ ?_ ?_)); (exact (Kd.C_drewN (Kd.C_below Z03.out HD.out) _)); (exact (Kd.C_drewN (Kd.C_below Z13.out HD.out) _)))))
            go_wp2
            go_ret
            exact ⟨by rw [HE.out]; rfl, bel⟩
          replace r3 := Classical.not_not.1 r3
          have t3_ : eqT (rdFunc (x.funcs) i).code (rdFunc (y.funcs) i).code = true := eqT_true r3
          have R3 := Aside0.mk r3
          clear r3
          have HE : Aside0 ((rdFunc (x.funcs) i) = (rdFunc (y.funcs) i)) := ⟨MFunc_ext R1.out R0.out R2.out R3.out⟩
          go_wp2
          go_quiet (fail)
          obtain ⟨w_3, h3⟩ : ∃ v_, v_ = w_2.drewN nq := ⟨_, rfl⟩
          rw [← h3]
          replace x00 := cell_eqw h3 x00
          replace x01 := cell_eqw h3 x01
          replace x02 := cell_eqw h3 x02
          replace x03 := cell_eqw h3 x03
          replace x10 := cell_eqw h3 x10
          replace x11 := cell_eqw h3 x11
          replace x12 := cell_eqw h3 x12
          replace x13 := cell_eqw h3 x13
          replace q00 := cell_eqw h3 q00
          replace q01 := cell_eqw h3 q01
          replace q02 := cell_eqw h3 q02
          replace q03 := cell_eqw h3 q03
          replace q10 := cell_eqw h3 q10
          replace q11 := cell_eqw h3 q11
          replace q12 := cell_eqw h3 q12
          replace q13 := cell_eqw h3 q13
          have HD : Aside0 (Below w_2.heap.size w_2 w_3) := ⟨by rw [h3]; exact pw_below_drewN (Below.refl _ _) _⟩
          have HB3 : Aside0 (Below w.heap.size w w_3) := ⟨below_step HB.out HD.out⟩
          have HL3 : Aside0 (Below w_1.heap.size w_1 w_3) := ⟨below_step HLo.out HD.out⟩
          clear h3
          go_wp2
          go_quiet ((first | (go_at_call 48; (with_reducible refine Calls.quiet_of (slInt64_calls D00 d00_ (rdFunc (x.funcs) i).params D10 d10_ (rdFunc (y.funcs) i).params _ ?_ ?_)); (exact (Kd.C_drewN (Kd.C_below Z00.out HD.out) _)); (exact (Kd.C_drewN (Kd.C_below Z10.out HD.out) _))) | (go_at_call 48; (with_reducible refine Calls.quiet_of (slInt64_calls D02 d02_ (rdFunc (x.funcs) i).locals D12 d12_ (rdFunc (y.funcs) i).locals _ ?_ ?_)); (exact (Kd.C_drewN (Kd.C_below Z02.out HD.out) _)); (exact (Kd.C_drewN (Kd.C_below Z12.out HD.out) _))) | (go_at_call 49; (with_reducible refine Calls.quiet_of (slInstr_calls D03 d03_ (rdFunc (x.funcs) i).code D13 d13_ (rdFunc (y.funcs) i).code _ ?_ ?_)); (exact (Kd.C_drewN (Kd.C_below Z03.out HD.out) _)); (exact (Kd.C_drewN (Kd.C_below Z13.out HD.out) _)))))
          go_wp2
          go_roundw
          case rel => exact ⟨i + 1, by omega, by omega, rfl, ⟨fun j hj => by
            by_cases h1 : (j : Int) < i
            · exact HP.out j h1
            · obtain rfl : i = (j : Int) := by omega
              exact HE.out⟩, ⟨bel⟩⟩
          case measure => simp [intOf]; omega
        · have HE := Aside0.mk (ext_getD zFunc P1.out (fun j hj => HP.out j (by omega)))
          have HF : Aside0 (eqT x y = true) := ⟨eqT_true (MProgram_ext E0.out P2.out HE.out P3.out)⟩
          go_wp2
          go_ret
          exact ⟨by rw [HF.out]; rfl, bel⟩

theorem implSame_at (w0 : World) (A0 B0 : Option Addr) (c0 d0 : Nat) (A1 B1 : Option Addr) (c1 d1 : Nat) (A2 B2 : Option Addr) (c2 d2 : Nat) (A3 B3 : Option Addr) (c3 d3 : Nat) (x y : MProgram) (w : World) (h0 : Kd.C (Kd.slice 2 (Kd.int .i64)) w0 A0 x.regions.length x.regions) (g0 : Kd.C (Kd.slice 2 (Kd.int .i64)) w0 B0 y.regions.length y.regions) (h1 : Kd.C kConst_I w0 A1 x.consts.length x.consts) (g1 : Kd.C kConst_I w0 B1 y.consts.length y.consts) (h2 : Kd.C kFunc_I w0 A2 x.funcs.length x.funcs) (g2 : Kd.C kFunc_I w0 B2 y.funcs.length y.funcs) (h3 : Kd.C kCert_I w0 A3 x.certs.length x.certs) (g3 : Kd.C kCert_I w0 B3 y.certs.length y.certs) (hb : Below w0.heap.size w0 w := by exact bel) :
    Calls Try.prog 17 #[.agg #[.slice A0 x.regions.length c0, .slice A1 x.consts.length c1, .slice A2 x.funcs.length c2, .slice A3 x.certs.length c3], .agg #[.slice B0 y.regions.length d0, .slice B1 y.consts.length d1, .slice B2 y.funcs.length d2, .slice B3 y.certs.length d3]] w fun e w' => e = .returned (.bool (eqT x y)) ∧ Below w.heap.size w w' := implSame_calls A0 B0 c0 d0 A1 B1 c1 d1 A2 B2 c2 d2 A3 B3 c3 d3 x y w (Kd.C_below h0 hb) (Kd.C_below g0 hb) (Kd.C_below h1 hb) (Kd.C_below g1 hb) (Kd.C_below h2 hb) (Kd.C_below g2 hb) (Kd.C_below h3 hb) (Kd.C_below g3 hb)

end Go.Proofs.Ytlnlbncinjiinab.X
