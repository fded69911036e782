/- Of this session: contracts over the words of the kit's print. -/
import Derived.Test.YtlnlbncinjiinabProg
import Derived.Below
import Derived.Deep.Draws
import Derived.Deep.AppendLies
import Derived.Maps.AppendAt
import Derived.OwnWalk
import Derived.Laws.BytesArg
import Derived.Laws.MakeOwn
import Derived.Laws.OwnMore
import Derived.Deep.OwnRows
import Derived.Tactics
import Derived.Lib.ConvBytes
import Derived.Laws.Slices
import Derived.WalkKit
import Derived.KernelRfl
import Derived.RowKit3
import Derived.Deep.LoopGhost
import Derived.Deep.QuietTactic
import Derived.BigQuiet
import Derived.WideLaws
import Derived.Deep.DeepCutAuto
import Derived.Deep.CutBlock
import Derived.Deep.RegionHeld3
import Derived.Laws.Rows
import Derived.Lib.AppendStr
import Derived.ArgAppend
import Derived.Laws.IdiomCopy
import Derived.OrdersHeld
import Derived.Laws.BitsLemmas
import Derived.RowKit
import Derived.StillTailTactics
import Derived.Test.YtlnlbncinjiinabWWords
import Derived.Test.YtlnlbncinjiinabWLast
import Derived.Test.YtlnlbncinjiinabWTab
import Derived.Test.YtlnlbncinjiinabWFour
import Derived.Test.YtlnlbncinjiinabWQPut
import Derived.Test.YtlnlbncinjiinabWApart
import Derived.Test.YtlnlbncinjiinabWArr
import Derived.Test.YtlnlbncinjiinabWZeros
import Derived.Test.YtlnlbncinjiinabWFoot
import Derived.Test.YtlnlbncinjiinabWKept
import Derived.Test.YtlnlbncinjiinabWShare
import Derived.Test.YtlnlbncinjiinabWN
import Derived.Test.YtlnlbncinjiinabWFootNe
import Derived.Test.YtlnlbncinjiinabWAt
import Derived.Test.YtlnlbncinjiinabWEqStruct
import Derived.Test.YtlnlbncinjiinabWRepsOne
import Derived.Test.YtlnlbncinjiinabWInv
import Derived.Test.YtlnlbncinjiinabWInvWords
import Derived.Test.YtlnlbncinjiinabWGuard
import Derived.Test.YtlnlbncinjiinabWNEv
import Derived.Test.YtlnlbncinjiinabWMore
import Derived.ChangeArms
import Derived.Test.YtlnlbncinjiinabX0
import Derived.Test.YtlnlbncinjiinabXEq
import Derived.Test.YtlnlbncinjiinabXSz
import Derived.Test.YtlnlbncinjiinabXTo
import Derived.Test.YtlnlbncinjiinabXMark
import Derived.Test.YtlnlbncinjiinabXIs
import Derived.Test.YtlnlbncinjiinabXHeld
import Derived.Test.YtlnlbncinjiinabXMem
namespace Go.Proofs.Ytlnlbncinjiinab.X
open Go.RowKit Go.Proofs.YtlnlbncinjiinabW.PrintWords Go.Proofs.YtlnlbncinjiinabW.PrintLast Go.Proofs.YtlnlbncinjiinabW.PrintMore
set_option linter.unusedVariables false
set_option linter.unusedSimpArgs false
theorem M_mk {α : Type} {d : Kd α} {W wc w2 : World} {x : α} {cs : List Value} (hb : Below wc.heap.size wc w2) (m : d.M w2 wc.heap.size (fun _ => True) x cs) (h0 : Below W.heap.size W wc := by exact bel) : d.M w2 W.heap.size (fun k => W.heap.size ≤ k ∧ k < w2.heap.size) x cs := M_lohi m h0.size
set_option maxHeartbeats 16000000 in
set_option maxRecDepth 100000 in
theorem law_FnExactMemoryOf_calls (A0_4 A0_5 A0_6 : Option Addr) (c0_4 c0_5 c0_6 : Nat) (x0 : MState) (w : World) (h0 : isState_L w x0 A0_4 A0_5 A0_6) :
    Calls Try.prog 3 #[.agg #[.int .i64 x0.trap, .bool x0.done, .int .i64 x0.cost, .int .i64 x0.steps, .slice A0_4 x0.cells.length c0_4, .slice A0_5 x0.stack.length c0_5, .slice A0_6 x0.frames.length c0_6]] w fun e w' => e = .returned (.bool true) ∧ Below w.heap.size w w' := by
  have H0 := Aside0.mk h0; have HB := Aside0.mk (Below.refl w.heap.size w)
  clear h0
  have u0 := szv_le (left := 1048576) (szState x0) (by omega)
  by_cases p0 : szv (1048576) (szState x0) < 0
  · have t_ : decide (szv (1048576) (szState x0) < 0) = true := decide_eq_true p0
    go_enter Try.func3, Try.ntmps3
    go_wp2_with (first | (go_at_call 5; (with_reducible refine (szState_is w A0_4 A0_5 A0_6 c0_4 c0_5 c0_6 x0 _ _ H0.out (by omega) (by omega)).mono ?_); rintro e w1 ⟨rfl, hb⟩; have n_ := Aside0.mk (below_step (w := w) bel hb); have k_ : Aside0 (w1.heap[w.heap.size]? = some (.cells #[.int .i64 x0.trap, .bool x0.done, .int .i64 x0.cost, .int .i64 x0.steps, .slice A0_4 x0.cells.length c0_4, .slice A0_5 x0.stack.length c0_5, .slice A0_6 x0.frames.length c0_6] 26 (0, 0))) := ⟨by first | exact (hb.block _ (blk_lt K0.out)).trans K0.out | exact (hb.block _ (by first | assumption | (simp; done) | (simp; omega))).trans (blk_alloc1a _ _ _ )⟩; (try clear K0); have K0 := k_; clear k_; have q0_0 : w1.cell? ⟨w.heap.size, 0, none⟩ = some (.int .i64 x0.trap) := (blk_cell K0.out 0).trans rfl; have q0_1 : w1.cell? ⟨w.heap.size, 1, none⟩ = some (.bool x0.done) := (blk_cell K0.out 1).trans rfl; have q0_2 : w1.cell? ⟨w.heap.size, 2, none⟩ = some (.int .i64 x0.cost) := (blk_cell K0.out 2).trans rfl; have q0_3 : w1.cell? ⟨w.heap.size, 3, none⟩ = some (.int .i64 x0.steps) := (blk_cell K0.out 3).trans rfl; have q0_4 : w1.cell? ⟨w.heap.size, 4, none⟩ = some (.slice A0_4 x0.cells.length c0_4) := (blk_cell K0.out 4).trans rfl; have q0_5 : w1.cell? ⟨w.heap.size, 5, none⟩ = some (.slice A0_5 x0.stack.length c0_5) := (blk_cell K0.out 5).trans rfl; have q0_6 : w1.cell? ⟨w.heap.size, 6, none⟩ = some (.slice A0_6 x0.frames.length c0_6) := (blk_cell K0.out 6).trans rfl; clear HB hb; have HB := n_; clear n_))
    go_ret
    exact ⟨rfl, bel⟩
  have t0 : decide (szv (1048576) (szState x0) < 0) = false := decide_eq_false p0
  have n0 := szv_pos p0
  have v0 : 0 ≤ szv (1048576) (szState x0) := by omega
  have N0 := Aside0.mk (show szState x0 ≤ 1048576 by omega)
  clear p0 n0
  go_enter Try.func3, Try.ntmps3
  go_upto_region 5 with (first | (go_at_call 5; (with_reducible refine (szState_is w A0_4 A0_5 A0_6 c0_4 c0_5 c0_6 x0 _ _ H0.out (by omega) (by omega)).mono ?_); rintro e w1 ⟨rfl, hb⟩; have n_ := Aside0.mk (below_step (w := w) bel hb); have k_ : Aside0 (w1.heap[w.heap.size]? = some (.cells #[.int .i64 x0.trap, .bool x0.done, .int .i64 x0.cost, .int .i64 x0.steps, .slice A0_4 x0.cells.length c0_4, .slice A0_5 x0.stack.length c0_5, .slice A0_6 x0.frames.length c0_6] 26 (0, 0))) := ⟨by first | exact (hb.block _ (blk_lt K0.out)).trans K0.out | exact (hb.block _ (by first | assumption | (simp; done) | (simp; omega))).trans (blk_alloc1a _ _ _ )⟩; (try clear K0); have K0 := k_; clear k_; have q0_0 : w1.cell? ⟨w.heap.size, 0, none⟩ = some (.int .i64 x0.trap) := (blk_cell K0.out 0).trans rfl; have q0_1 : w1.cell? ⟨w.heap.size, 1, none⟩ = some (.bool x0.done) := (blk_cell K0.out 1).trans rfl; have q0_2 : w1.cell? ⟨w.heap.size, 2, none⟩ = some (.int .i64 x0.cost) := (blk_cell K0.out 2).trans rfl; have q0_3 : w1.cell? ⟨w.heap.size, 3, none⟩ = some (.int .i64 x0.steps) := (blk_cell K0.out 3).trans rfl; have q0_4 : w1.cell? ⟨w.heap.size, 4, none⟩ = some (.slice A0_4 x0.cells.length c0_4) := (blk_cell K0.out 4).trans rfl; have q0_5 : w1.cell? ⟨w.heap.size, 5, none⟩ = some (.slice A0_5 x0.stack.length c0_5) := (blk_cell K0.out 5).trans rfl; have q0_6 : w1.cell? ⟨w.heap.size, 6, none⟩ = some (.slice A0_6 x0.frames.length c0_6) := (blk_cell K0.out 6).trans rfl; clear HB hb; have HB := n_; clear n_) | fail)
  · obtain ⟨W0, rfl⟩ : ∃ v_, v_ = w1 := ⟨_, rfl⟩
    have hsz : w.heap.size + 1 ≤ W0.heap.size := blk_lt K0.out
    have HS := Aside0.mk HB.out.size
    have cb0 : ctState x0 ≤ 5242880 := Nat.le_trans (ctState_le x0) (Nat.mul_le_mul_left 5 N0.out)
    have cy : ctMemory (memOf x0) ≤ 3145728 := ctMem_le x0 N0.out
    go_upto_region 6 with (first | (go_at_call 7; (with_reducible refine (toState_is w A0_4 A0_5 A0_6 c0_4 c0_5 c0_6 x0 _ H0.out N0.out).mono ?_); rintro e w2 ⟨ay_4, by_4, ay_5, by_5, ay_6, by_6, rfl, mt, it, hb⟩; have hW := below_step (w := W0) bel hb; have hw := below_step (w := w) bel hb) | (go_at_call 6; (with_reducible refine (sMem_is _ ay_4 ay_5 ay_6 by_4 by_5 by_6 x0 _ it N0.out).mono ?_); rintro e w2 ⟨aw_0, bw_0, aw_1, bw_1, aw_2, bw_2, rfl, mg, hb⟩; have D1 := Aside0.mk (M_mk (W := W0) hb mg); have hW := below_step (w := W0) bel hb; have hw := below_step (w := w) bel hb) | fail)
    have hw1 : Below w.heap.size w (w2.alloc (.cells #[.slice aw_0 (memOf x0).inn.length bw_0, .slice aw_1 (memOf x0).out.length bw_1, .slice aw_2 (memOf x0).keep.length bw_2] 30)) := bel
    have hW1 : Below W0.heap.size W0 (w2.alloc (.cells #[.slice aw_0 (memOf x0).inn.length bw_0, .slice aw_1 (memOf x0).out.length bw_1, .slice aw_2 (memOf x0).keep.length bw_2] 30)) := bel
    have hi1 : Below w2.heap.size w2 (w2.alloc (.cells #[.slice aw_0 (memOf x0).inn.length bw_0, .slice aw_1 (memOf x0).out.length bw_1, .slice aw_2 (memOf x0).keep.length bw_2] 30)) := bel
    have n1 : (w2.alloc (.cells #[.slice aw_0 (memOf x0).inn.length bw_0, .slice aw_1 (memOf x0).out.length bw_1, .slice aw_2 (memOf x0).keep.length bw_2] 30)).heap[w2.heap.size]? = some (.cells #[.slice aw_0 (memOf x0).inn.length bw_0, .slice aw_1 (memOf x0).out.length bw_1, .slice aw_2 (memOf x0).keep.length bw_2] 30 (0, 0)) := blk_alloc1a _ _ _
    have D2 := Aside0.mk (Kd.M_below D1.out hi1)
    have hs2 : (w2.alloc (.cells #[.slice aw_0 (memOf x0).inn.length bw_0, .slice aw_1 (memOf x0).out.length bw_1, .slice aw_2 (memOf x0).keep.length bw_2] 30)).heap.size = w2.heap.size + 1 := by simp
    have hlp := hW.size
    obtain ⟨W1, e1⟩ : ∃ v_, v_ = w2.alloc (.cells #[.slice aw_0 (memOf x0).inn.length bw_0, .slice aw_1 (memOf x0).out.length bw_1, .slice aw_2 (memOf x0).keep.length bw_2] 30) := ⟨_, rfl⟩
    obtain ⟨pw, e2⟩ : ∃ v_, v_ = w2.heap.size := ⟨_, rfl⟩
    obtain ⟨lw, e3⟩ : ∃ v_, v_ = W0.heap.size := ⟨_, rfl⟩
    rw [← e1] at hw1 hW1 n1 D2 hs2 ⊢
    rw [← e2] at n1 D2 hs2 hlp ⊢
    rw [← e3] at D2 hlp
    have hlnw := hsz; rw [← e3] at hlnw
    have n_ := Aside0.mk ((hW1.block _ (blk_lt K0.out)).trans K0.out); clear K0; have K0 := n_; clear n_
    have hsz := Nat.le_trans hsz hW1.size
    have Gw := Aside0.mk n1; have Dw := D2; have hlpw := hlp
    have hsz : pw + 1 ≤ W1.heap.size := by omega
    clear HB; have HB := Aside0.mk hw1
    clear hb hW hw hw1 hW1 hi1 n1 e1 e2 e3 D1 D2 hs2 hlp
    have HS := Aside0.mk HB.out.size
    have q0_0 : W1.cell? ⟨w.heap.size, 0, none⟩ = some (.int .i64 x0.trap) := (blk_cell K0.out 0).trans rfl; have q0_1 : W1.cell? ⟨w.heap.size, 1, none⟩ = some (.bool x0.done) := (blk_cell K0.out 1).trans rfl; have q0_2 : W1.cell? ⟨w.heap.size, 2, none⟩ = some (.int .i64 x0.cost) := (blk_cell K0.out 2).trans rfl; have q0_3 : W1.cell? ⟨w.heap.size, 3, none⟩ = some (.int .i64 x0.steps) := (blk_cell K0.out 3).trans rfl; have q0_4 : W1.cell? ⟨w.heap.size, 4, none⟩ = some (.slice A0_4 x0.cells.length c0_4) := (blk_cell K0.out 4).trans rfl; have q0_5 : W1.cell? ⟨w.heap.size, 5, none⟩ = some (.slice A0_5 x0.stack.length c0_5) := (blk_cell K0.out 5).trans rfl; have q0_6 : W1.cell? ⟨w.heap.size, 6, none⟩ = some (.slice A0_6 x0.frames.length c0_6) := (blk_cell K0.out 6).trans rfl; have rw_0 : W1.cell? ⟨pw, 0, none⟩ = some (.slice aw_0 (memOf x0).inn.length bw_0) := (blk_cell Gw.out 0).trans rfl; have rw_1 : W1.cell? ⟨pw, 1, none⟩ = some (.slice aw_1 (memOf x0).out.length bw_1) := (blk_cell Gw.out 1).trans rfl; have rw_2 : W1.cell? ⟨pw, 2, none⟩ = some (.slice aw_2 (memOf x0).keep.length bw_2) := (blk_cell Gw.out 2).trans rfl
    go_upto_region 7 with (first | (go_at_call 7; (with_reducible refine (toState_is w A0_4 A0_5 A0_6 c0_4 c0_5 c0_6 x0 _ H0.out N0.out).mono ?_); rintro e w2 ⟨ax0_4, bx0_4, ax0_5, bx0_5, ax0_6, bx0_6, rfl, mt, it, hb⟩; have D1 := Aside0.mk (M_mk (W := W1) hb mt); have hW := below_step (w := W1) bel hb; have hw := below_step (w := w) bel hb) | fail)
    have hw1 : Below w.heap.size w (w2.alloc (.cells #[.int .i64 x0.trap, .bool x0.done, .int .i64 x0.cost, .int .i64 x0.steps, .slice ax0_4 x0.cells.length bx0_4, .slice ax0_5 x0.stack.length bx0_5, .slice ax0_6 x0.frames.length bx0_6] 36)) := bel
    have hW1 : Below W1.heap.size W1 (w2.alloc (.cells #[.int .i64 x0.trap, .bool x0.done, .int .i64 x0.cost, .int .i64 x0.steps, .slice ax0_4 x0.cells.length bx0_4, .slice ax0_5 x0.stack.length bx0_5, .slice ax0_6 x0.frames.length bx0_6] 36)) := bel
    have hi1 : Below w2.heap.size w2 (w2.alloc (.cells #[.int .i64 x0.trap, .bool x0.done, .int .i64 x0.cost, .int .i64 x0.steps, .slice ax0_4 x0.cells.length bx0_4, .slice ax0_5 x0.stack.length bx0_5, .slice ax0_6 x0.frames.length bx0_6] 36)) := bel
    have n1 : (w2.alloc (.cells #[.int .i64 x0.trap, .bool x0.done, .int .i64 x0.cost, .int .i64 x0.steps, .slice ax0_4 x0.cells.length bx0_4, .slice ax0_5 x0.stack.length bx0_5, .slice ax0_6 x0.frames.length bx0_6] 36)).heap[w2.heap.size]? = some (.cells #[.int .i64 x0.trap, .bool x0.done, .int .i64 x0.cost, .int .i64 x0.steps, .slice ax0_4 x0.cells.length bx0_4, .slice ax0_5 x0.stack.length bx0_5, .slice ax0_6 x0.frames.length bx0_6] 36 (0, 0)) := blk_alloc1a _ _ _
    have D2 := Aside0.mk (Kd.M_below D1.out hi1)
    have hs2 : (w2.alloc (.cells #[.int .i64 x0.trap, .bool x0.done, .int .i64 x0.cost, .int .i64 x0.steps, .slice ax0_4 x0.cells.length bx0_4, .slice ax0_5 x0.stack.length bx0_5, .slice ax0_6 x0.frames.length bx0_6] 36)).heap.size = w2.heap.size + 1 := by simp
    have hlp := hW.size
    obtain ⟨W2, e1⟩ : ∃ v_, v_ = w2.alloc (.cells #[.int .i64 x0.trap, .bool x0.done, .int .i64 x0.cost, .int .i64 x0.steps, .slice ax0_4 x0.cells.length bx0_4, .slice ax0_5 x0.stack.length bx0_5, .slice ax0_6 x0.frames.length bx0_6] 36) := ⟨_, rfl⟩
    obtain ⟨px0, e2⟩ : ∃ v_, v_ = w2.heap.size := ⟨_, rfl⟩
    obtain ⟨lx0, e3⟩ : ∃ v_, v_ = W1.heap.size := ⟨_, rfl⟩
    rw [← e1] at hw1 hW1 n1 D2 hs2 ⊢
    rw [← e2] at n1 D2 hs2 hlp ⊢
    rw [← e3] at D2 hlp
    have hlnx0 := hsz; rw [← e3] at hlnx0
    have n_ := Aside0.mk ((hW1.block _ (blk_lt K0.out)).trans K0.out); clear K0; have K0 := n_; clear n_
    have n_ := Aside0.mk ((hW1.block _ (blk_lt Gw.out)).trans Gw.out); clear Gw; have Gw := n_; clear n_
    have n_ := Aside0.mk (Kd.M_below Dw.out hW1); clear Dw; have Dw := n_; clear n_
    have hsz := Nat.le_trans hsz hW1.size
    have Gx0 := Aside0.mk n1; have Dx0 := D2; have hlpx0 := hlp
    have hsz : px0 + 1 ≤ W2.heap.size := by omega
    clear HB; have HB := Aside0.mk hw1
    clear hb hW hw hw1 hW1 hi1 n1 e1 e2 e3 D1 D2 hs2 hlp
    have HS := Aside0.mk HB.out.size
    have q0_0 : W2.cell? ⟨w.heap.size, 0, none⟩ = some (.int .i64 x0.trap) := (blk_cell K0.out 0).trans rfl; have q0_1 : W2.cell? ⟨w.heap.size, 1, none⟩ = some (.bool x0.done) := (blk_cell K0.out 1).trans rfl; have q0_2 : W2.cell? ⟨w.heap.size, 2, none⟩ = some (.int .i64 x0.cost) := (blk_cell K0.out 2).trans rfl; have q0_3 : W2.cell? ⟨w.heap.size, 3, none⟩ = some (.int .i64 x0.steps) := (blk_cell K0.out 3).trans rfl; have q0_4 : W2.cell? ⟨w.heap.size, 4, none⟩ = some (.slice A0_4 x0.cells.length c0_4) := (blk_cell K0.out 4).trans rfl; have q0_5 : W2.cell? ⟨w.heap.size, 5, none⟩ = some (.slice A0_5 x0.stack.length c0_5) := (blk_cell K0.out 5).trans rfl; have q0_6 : W2.cell? ⟨w.heap.size, 6, none⟩ = some (.slice A0_6 x0.frames.length c0_6) := (blk_cell K0.out 6).trans rfl; have rw_0 : W2.cell? ⟨pw, 0, none⟩ = some (.slice aw_0 (memOf x0).inn.length bw_0) := (blk_cell Gw.out 0).trans rfl; have rw_1 : W2.cell? ⟨pw, 1, none⟩ = some (.slice aw_1 (memOf x0).out.length bw_1) := (blk_cell Gw.out 1).trans rfl; have rw_2 : W2.cell? ⟨pw, 2, none⟩ = some (.slice aw_2 (memOf x0).keep.length bw_2) := (blk_cell Gw.out 2).trans rfl; have rx0_0 : W2.cell? ⟨px0, 0, none⟩ = some (.int .i64 x0.trap) := (blk_cell Gx0.out 0).trans rfl; have rx0_1 : W2.cell? ⟨px0, 1, none⟩ = some (.bool x0.done) := (blk_cell Gx0.out 1).trans rfl; have rx0_2 : W2.cell? ⟨px0, 2, none⟩ = some (.int .i64 x0.cost) := (blk_cell Gx0.out 2).trans rfl; have rx0_3 : W2.cell? ⟨px0, 3, none⟩ = some (.int .i64 x0.steps) := (blk_cell Gx0.out 3).trans rfl; have rx0_4 : W2.cell? ⟨px0, 4, none⟩ = some (.slice ax0_4 x0.cells.length bx0_4) := (blk_cell Gx0.out 4).trans rfl; have rx0_5 : W2.cell? ⟨px0, 5, none⟩ = some (.slice ax0_5 x0.stack.length bx0_5) := (blk_cell Gx0.out 5).trans rfl; have rx0_6 : W2.cell? ⟨px0, 6, none⟩ = some (.slice ax0_6 x0.frames.length bx0_6) := (blk_cell Gx0.out 6).trans rfl
    go_upto_region 8 with (first | (go_at_call 8; (with_reducible refine (iMem_is W2 ax0_4 ax0_5 ax0_6 bx0_4 bx0_5 bx0_6 x0 _ (isState_I_K (kState_I.K_of_M Dx0.out)) N0.out).mono ?_); rintro e w2 ⟨ag_0, bg_0, ag_1, bg_1, ag_2, bg_2, rfl, mg, hb⟩; have D1 := Aside0.mk (M_mk (W := W2) hb mg); have hW := below_step (w := W2) bel hb; have hw := below_step (w := w) bel hb) | fail)
    have hw1 : Below w.heap.size w (w2.alloc (.cells #[.slice ag_0 (memOf x0).inn.length bg_0, .slice ag_1 (memOf x0).out.length bg_1, .slice ag_2 (memOf x0).keep.length bg_2] 30)) := bel
    have hW1 : Below W2.heap.size W2 (w2.alloc (.cells #[.slice ag_0 (memOf x0).inn.length bg_0, .slice ag_1 (memOf x0).out.length bg_1, .slice ag_2 (memOf x0).keep.length bg_2] 30)) := bel
    have hi1 : Below w2.heap.size w2 (w2.alloc (.cells #[.slice ag_0 (memOf x0).inn.length bg_0, .slice ag_1 (memOf x0).out.length bg_1, .slice ag_2 (memOf x0).keep.length bg_2] 30)) := bel
    have n1 : (w2.alloc (.cells #[.slice ag_0 (memOf x0).inn.length bg_0, .slice ag_1 (memOf x0).out.length bg_1, .slice ag_2 (memOf x0).keep.length bg_2] 30)).heap[w2.heap.size]? = some (.cells #[.slice ag_0 (memOf x0).inn.length bg_0, .slice ag_1 (memOf x0).out.length bg_1, .slice ag_2 (memOf x0).keep.length bg_2] 30 (0, 0)) := blk_alloc1a _ _ _
    have D2 := Aside0.mk (Kd.M_below D1.out hi1)
    have hs2 : (w2.alloc (.cells #[.slice ag_0 (memOf x0).inn.length bg_0, .slice ag_1 (memOf x0).out.length bg_1, .slice ag_2 (memOf x0).keep.length bg_2] 30)).heap.size = w2.heap.size + 1 := by simp
    have hlp := hW.size
    obtain ⟨W3, e1⟩ : ∃ v_, v_ = w2.alloc (.cells #[.slice ag_0 (memOf x0).inn.length bg_0, .slice ag_1 (memOf x0).out.length bg_1, .slice ag_2 (memOf x0).keep.length bg_2] 30) := ⟨_, rfl⟩
    obtain ⟨pg, e2⟩ : ∃ v_, v_ = w2.heap.size := ⟨_, rfl⟩
    obtain ⟨lg, e3⟩ : ∃ v_, v_ = W2.heap.size := ⟨_, rfl⟩
    rw [← e1] at hw1 hW1 n1 D2 hs2 ⊢
    rw [← e2] at n1 D2 hs2 hlp ⊢
    rw [← e3] at D2 hlp
    have hlng := hsz; rw [← e3] at hlng
    have n_ := Aside0.mk ((hW1.block _ (blk_lt K0.out)).trans K0.out); clear K0; have K0 := n_; clear n_
    have n_ := Aside0.mk ((hW1.block _ (blk_lt Gw.out)).trans Gw.out); clear Gw; have Gw := n_; clear n_
    have n_ := Aside0.mk (Kd.M_below Dw.out hW1); clear Dw; have Dw := n_; clear n_
    have n_ := Aside0.mk ((hW1.block _ (blk_lt Gx0.out)).trans Gx0.out); clear Gx0; have Gx0 := n_; clear n_
    have n_ := Aside0.mk (Kd.M_below Dx0.out hW1); clear Dx0; have Dx0 := n_; clear n_
    have hsz := Nat.le_trans hsz hW1.size
    have Gg := Aside0.mk n1; have Dg := D2; have hlpg := hlp
    have hsz : pg + 1 ≤ W3.heap.size := by omega
    clear HB; have HB := Aside0.mk hw1
    clear hb hW hw hw1 hW1 hi1 n1 e1 e2 e3 D1 D2 hs2 hlp
    have HS := Aside0.mk HB.out.size
    have q0_0 : W3.cell? ⟨w.heap.size, 0, none⟩ = some (.int .i64 x0.trap) := (blk_cell K0.out 0).trans rfl; have q0_1 : W3.cell? ⟨w.heap.size, 1, none⟩ = some (.bool x0.done) := (blk_cell K0.out 1).trans rfl; have q0_2 : W3.cell? ⟨w.heap.size, 2, none⟩ = some (.int .i64 x0.cost) := (blk_cell K0.out 2).trans rfl; have q0_3 : W3.cell? ⟨w.heap.size, 3, none⟩ = some (.int .i64 x0.steps) := (blk_cell K0.out 3).trans rfl; have q0_4 : W3.cell? ⟨w.heap.size, 4, none⟩ = some (.slice A0_4 x0.cells.length c0_4) := (blk_cell K0.out 4).trans rfl; have q0_5 : W3.cell? ⟨w.heap.size, 5, none⟩ = some (.slice A0_5 x0.stack.length c0_5) := (blk_cell K0.out 5).trans rfl; have q0_6 : W3.cell? ⟨w.heap.size, 6, none⟩ = some (.slice A0_6 x0.frames.length c0_6) := (blk_cell K0.out 6).trans rfl; have rw_0 : W3.cell? ⟨pw, 0, none⟩ = some (.slice aw_0 (memOf x0).inn.length bw_0) := (blk_cell Gw.out 0).trans rfl; have rw_1 : W3.cell? ⟨pw, 1, none⟩ = some (.slice aw_1 (memOf x0).out.length bw_1) := (blk_cell Gw.out 1).trans rfl; have rw_2 : W3.cell? ⟨pw, 2, none⟩ = some (.slice aw_2 (memOf x0).keep.length bw_2) := (blk_cell Gw.out 2).trans rfl; have rx0_0 : W3.cell? ⟨px0, 0, none⟩ = some (.int .i64 x0.trap) := (blk_cell Gx0.out 0).trans rfl; have rx0_1 : W3.cell? ⟨px0, 1, none⟩ = some (.bool x0.done) := (blk_cell Gx0.out 1).trans rfl; have rx0_2 : W3.cell? ⟨px0, 2, none⟩ = some (.int .i64 x0.cost) := (blk_cell Gx0.out 2).trans rfl; have rx0_3 : W3.cell? ⟨px0, 3, none⟩ = some (.int .i64 x0.steps) := (blk_cell Gx0.out 3).trans rfl; have rx0_4 : W3.cell? ⟨px0, 4, none⟩ = some (.slice ax0_4 x0.cells.length bx0_4) := (blk_cell Gx0.out 4).trans rfl; have rx0_5 : W3.cell? ⟨px0, 5, none⟩ = some (.slice ax0_5 x0.stack.length bx0_5) := (blk_cell Gx0.out 5).trans rfl; have rx0_6 : W3.cell? ⟨px0, 6, none⟩ = some (.slice ax0_6 x0.frames.length bx0_6) := (blk_cell Gx0.out 6).trans rfl; have rg_0 : W3.cell? ⟨pg, 0, none⟩ = some (.slice ag_0 (memOf x0).inn.length bg_0) := (blk_cell Gg.out 0).trans rfl; have rg_1 : W3.cell? ⟨pg, 1, none⟩ = some (.slice ag_1 (memOf x0).out.length bg_1) := (blk_cell Gg.out 1).trans rfl; have rg_2 : W3.cell? ⟨pg, 2, none⟩ = some (.slice ag_2 (memOf x0).keep.length bg_2) := (blk_cell Gg.out 2).trans rfl
    go_upto_region 10 with (first | (go_at_call 9; (with_reducible refine (eqMemory_is W3 W3 ag_0 ag_1 ag_2 aw_0 aw_1 aw_2 bg_0 bg_1 bg_2 bw_0 bw_1 bw_2 (memOf x0) (memOf x0) _ (isMemory_I_K (kMemory_I.K_of_M Dg.out)) (isMemory_I_K (kMemory_I.K_of_M Dw.out))).mono ?_); rintro e w2 ⟨he, hb⟩; rw [eqT_self] at he; subst he; have hW := below_step (w := W3) bel hb; have hw := below_step (w := w) bel hb) | fail)
    obtain ⟨W4, rfl⟩ : ∃ v_, v_ = w2 := ⟨_, rfl⟩
    have n_ := Aside0.mk ((hW.block _ (blk_lt K0.out)).trans K0.out); clear K0; have K0 := n_; clear n_
    have n_ := Aside0.mk ((hW.block _ (blk_lt Gw.out)).trans Gw.out); clear Gw; have Gw := n_; clear n_
    have n_ := Aside0.mk (Kd.M_below Dw.out hW); clear Dw; have Dw := n_; clear n_
    have n_ := Aside0.mk ((hW.block _ (blk_lt Gx0.out)).trans Gx0.out); clear Gx0; have Gx0 := n_; clear n_
    have n_ := Aside0.mk (Kd.M_below Dx0.out hW); clear Dx0; have Dx0 := n_; clear n_
    have n_ := Aside0.mk ((hW.block _ (blk_lt Gg.out)).trans Gg.out); clear Gg; have Gg := n_; clear n_
    have n_ := Aside0.mk (Kd.M_below Dg.out hW); clear Dg; have Dg := n_; clear n_
    have hsz := Nat.le_trans hsz hW.size
    clear HB; have HB := Aside0.mk hw
    clear hb hW hw
    have HS := Aside0.mk HB.out.size
    have q0_0 : W4.cell? ⟨w.heap.size, 0, none⟩ = some (.int .i64 x0.trap) := (blk_cell K0.out 0).trans rfl; have q0_1 : W4.cell? ⟨w.heap.size, 1, none⟩ = some (.bool x0.done) := (blk_cell K0.out 1).trans rfl; have q0_2 : W4.cell? ⟨w.heap.size, 2, none⟩ = some (.int .i64 x0.cost) := (blk_cell K0.out 2).trans rfl; have q0_3 : W4.cell? ⟨w.heap.size, 3, none⟩ = some (.int .i64 x0.steps) := (blk_cell K0.out 3).trans rfl; have q0_4 : W4.cell? ⟨w.heap.size, 4, none⟩ = some (.slice A0_4 x0.cells.length c0_4) := (blk_cell K0.out 4).trans rfl; have q0_5 : W4.cell? ⟨w.heap.size, 5, none⟩ = some (.slice A0_5 x0.stack.length c0_5) := (blk_cell K0.out 5).trans rfl; have q0_6 : W4.cell? ⟨w.heap.size, 6, none⟩ = some (.slice A0_6 x0.frames.length c0_6) := (blk_cell K0.out 6).trans rfl; have rw_0 : W4.cell? ⟨pw, 0, none⟩ = some (.slice aw_0 (memOf x0).inn.length bw_0) := (blk_cell Gw.out 0).trans rfl; have rw_1 : W4.cell? ⟨pw, 1, none⟩ = some (.slice aw_1 (memOf x0).out.length bw_1) := (blk_cell Gw.out 1).trans rfl; have rw_2 : W4.cell? ⟨pw, 2, none⟩ = some (.slice aw_2 (memOf x0).keep.length bw_2) := (blk_cell Gw.out 2).trans rfl; have rx0_0 : W4.cell? ⟨px0, 0, none⟩ = some (.int .i64 x0.trap) := (blk_cell Gx0.out 0).trans rfl; have rx0_1 : W4.cell? ⟨px0, 1, none⟩ = some (.bool x0.done) := (blk_cell Gx0.out 1).trans rfl; have rx0_2 : W4.cell? ⟨px0, 2, none⟩ = some (.int .i64 x0.cost) := (blk_cell Gx0.out 2).trans rfl; have rx0_3 : W4.cell? ⟨px0, 3, none⟩ = some (.int .i64 x0.steps) := (blk_cell Gx0.out 3).trans rfl; have rx0_4 : W4.cell? ⟨px0, 4, none⟩ = some (.slice ax0_4 x0.cells.length bx0_4) := (blk_cell Gx0.out 4).trans rfl; have rx0_5 : W4.cell? ⟨px0, 5, none⟩ = some (.slice ax0_5 x0.stack.length bx0_5) := (blk_cell Gx0.out 5).trans rfl; have rx0_6 : W4.cell? ⟨px0, 6, none⟩ = some (.slice ax0_6 x0.frames.length bx0_6) := (blk_cell Gx0.out 6).trans rfl; have rg_0 : W4.cell? ⟨pg, 0, none⟩ = some (.slice ag_0 (memOf x0).inn.length bg_0) := (blk_cell Gg.out 0).trans rfl; have rg_1 : W4.cell? ⟨pg, 1, none⟩ = some (.slice ag_1 (memOf x0).out.length bg_1) := (blk_cell Gg.out 1).trans rfl; have rg_2 : W4.cell? ⟨pg, 2, none⟩ = some (.slice ag_2 (memOf x0).keep.length bg_2) := (blk_cell Gg.out 2).trans rfl
    go_region_held3 (fun w' => w'.cell? ⟨w.heap.size, 0, none⟩ = some (.int .i64 x0.trap) ∧ w'.cell? ⟨w.heap.size, 1, none⟩ = some (.bool x0.done) ∧ w'.cell? ⟨w.heap.size, 2, none⟩ = some (.int .i64 x0.cost) ∧ w'.cell? ⟨w.heap.size, 3, none⟩ = some (.int .i64 x0.steps) ∧ w'.cell? ⟨w.heap.size, 4, none⟩ = some (.slice A0_4 x0.cells.length c0_4) ∧ w'.cell? ⟨w.heap.size, 5, none⟩ = some (.slice A0_5 x0.stack.length c0_5) ∧ w'.cell? ⟨w.heap.size, 6, none⟩ = some (.slice A0_6 x0.frames.length c0_6) ∧ w'.cell? ⟨px0, 0, none⟩ = some (.int .i64 x0.trap) ∧ w'.cell? ⟨px0, 1, none⟩ = some (.bool x0.done) ∧ w'.cell? ⟨px0, 2, none⟩ = some (.int .i64 x0.cost) ∧ w'.cell? ⟨px0, 3, none⟩ = some (.int .i64 x0.steps) ∧ w'.cell? ⟨px0, 4, none⟩ = some (.slice ax0_4 x0.cells.length bx0_4) ∧ w'.cell? ⟨px0, 5, none⟩ = some (.slice ax0_5 x0.stack.length bx0_5) ∧ w'.cell? ⟨px0, 6, none⟩ = some (.slice ax0_6 x0.frames.length bx0_6)) (first | exact ⟨(blk_cell ((hW.block _ (blk_lt K0.out)).trans K0.out) 0).trans rfl, (blk_cell ((hW.block _ (blk_lt K0.out)).trans K0.out) 1).trans rfl, (blk_cell ((hW.block _ (blk_lt K0.out)).trans K0.out) 2).trans rfl, (blk_cell ((hW.block _ (blk_lt K0.out)).trans K0.out) 3).trans rfl, (blk_cell ((hW.block _ (blk_lt K0.out)).trans K0.out) 4).trans rfl, (blk_cell ((hW.block _ (blk_lt K0.out)).trans K0.out) 5).trans rfl, (blk_cell ((hW.block _ (blk_lt K0.out)).trans K0.out) 6).trans rfl, (blk_cell ((hW.block _ (blk_lt Gx0.out)).trans Gx0.out) 0).trans rfl, (blk_cell ((hW.block _ (blk_lt Gx0.out)).trans Gx0.out) 1).trans rfl, (blk_cell ((hW.block _ (blk_lt Gx0.out)).trans Gx0.out) 2).trans rfl, (blk_cell ((hW.block _ (blk_lt Gx0.out)).trans Gx0.out) 3).trans rfl, (blk_cell ((hW.block _ (blk_lt Gx0.out)).trans Gx0.out) 4).trans rfl, (blk_cell ((hW.block _ (blk_lt Gx0.out)).trans Gx0.out) 5).trans rfl, (blk_cell ((hW.block _ (blk_lt Gx0.out)).trans Gx0.out) 6).trans rfl⟩ | exact ⟨(blk_cell (((bel (w0 := W4)).block _ (blk_lt K0.out)).trans K0.out) 0).trans rfl, (blk_cell (((bel (w0 := W4)).block _ (blk_lt K0.out)).trans K0.out) 1).trans rfl, (blk_cell (((bel (w0 := W4)).block _ (blk_lt K0.out)).trans K0.out) 2).trans rfl, (blk_cell (((bel (w0 := W4)).block _ (blk_lt K0.out)).trans K0.out) 3).trans rfl, (blk_cell (((bel (w0 := W4)).block _ (blk_lt K0.out)).trans K0.out) 4).trans rfl, (blk_cell (((bel (w0 := W4)).block _ (blk_lt K0.out)).trans K0.out) 5).trans rfl, (blk_cell (((bel (w0 := W4)).block _ (blk_lt K0.out)).trans K0.out) 6).trans rfl, (blk_cell (((bel (w0 := W4)).block _ (blk_lt Gx0.out)).trans Gx0.out) 0).trans rfl, (blk_cell (((bel (w0 := W4)).block _ (blk_lt Gx0.out)).trans Gx0.out) 1).trans rfl, (blk_cell (((bel (w0 := W4)).block _ (blk_lt Gx0.out)).trans Gx0.out) 2).trans rfl, (blk_cell (((bel (w0 := W4)).block _ (blk_lt Gx0.out)).trans Gx0.out) 3).trans rfl, (blk_cell (((bel (w0 := W4)).block _ (blk_lt Gx0.out)).trans Gx0.out) 4).trans rfl, (blk_cell (((bel (w0 := W4)).block _ (blk_lt Gx0.out)).trans Gx0.out) 5).trans rfl, (blk_cell (((bel (w0 := W4)).block _ (blk_lt Gx0.out)).trans Gx0.out) 6).trans rfl⟩ | fail) (first | (go_at_call 7; (with_reducible refine (toState_is w A0_4 A0_5 A0_6 c0_4 c0_5 c0_6 x0 _ H0.out N0.out).mono ?_); rintro e w2 ⟨ay_4, by_4, ay_5, by_5, ay_6, by_6, rfl, mt, it, hb⟩; have hW := below_step (w := W4) bel hb; have hw := below_step (w := w) bel hb) | (go_at_call 10; (with_reducible refine (eqState_is W4 _ ax0_4 ax0_5 ax0_6 ay_4 ay_5 ay_6 bx0_4 bx0_5 bx0_6 by_4 by_5 by_6 x0 x0 _ (isState_I_K (kState_I.K_of_M Dx0.out)) it).mono ?_); rintro e w2 ⟨he, hb⟩; rw [eqT_self] at he; subst he; have hW := below_step (w := W4) bel hb; have hw := below_step (w := w) bel hb) | fail)
    go_upto_region 12 with fail
    obtain ⟨W5, rfl⟩ : ∃ v_, v_ = w2 := ⟨_, rfl⟩
    have n_ := Aside0.mk ((hW.block _ (blk_lt K0.out)).trans K0.out); clear K0; have K0 := n_; clear n_
    have n_ := Aside0.mk ((hW.block _ (blk_lt Gw.out)).trans Gw.out); clear Gw; have Gw := n_; clear n_
    have n_ := Aside0.mk (Kd.M_below Dw.out hW); clear Dw; have Dw := n_; clear n_
    have n_ := Aside0.mk ((hW.block _ (blk_lt Gx0.out)).trans Gx0.out); clear Gx0; have Gx0 := n_; clear n_
    have n_ := Aside0.mk (Kd.M_below Dx0.out hW); clear Dx0; have Dx0 := n_; clear n_
    have n_ := Aside0.mk ((hW.block _ (blk_lt Gg.out)).trans Gg.out); clear Gg; have Gg := n_; clear n_
    have n_ := Aside0.mk (Kd.M_below Dg.out hW); clear Dg; have Dg := n_; clear n_
    have hsz := Nat.le_trans hsz hW.size
    clear HB; have HB := Aside0.mk hw
    clear hb hW hw
    have HS := Aside0.mk HB.out.size
    have q0_0 : W5.cell? ⟨w.heap.size, 0, none⟩ = some (.int .i64 x0.trap) := (blk_cell K0.out 0).trans rfl; have q0_1 : W5.cell? ⟨w.heap.size, 1, none⟩ = some (.bool x0.done) := (blk_cell K0.out 1).trans rfl; have q0_2 : W5.cell? ⟨w.heap.size, 2, none⟩ = some (.int .i64 x0.cost) := (blk_cell K0.out 2).trans rfl; have q0_3 : W5.cell? ⟨w.heap.size, 3, none⟩ = some (.int .i64 x0.steps) := (blk_cell K0.out 3).trans rfl; have q0_4 : W5.cell? ⟨w.heap.size, 4, none⟩ = some (.slice A0_4 x0.cells.length c0_4) := (blk_cell K0.out 4).trans rfl; have q0_5 : W5.cell? ⟨w.heap.size, 5, none⟩ = some (.slice A0_5 x0.stack.length c0_5) := (blk_cell K0.out 5).trans rfl; have q0_6 : W5.cell? ⟨w.heap.size, 6, none⟩ = some (.slice A0_6 x0.frames.length c0_6) := (blk_cell K0.out 6).trans rfl; have rw_0 : W5.cell? ⟨pw, 0, none⟩ = some (.slice aw_0 (memOf x0).inn.length bw_0) := (blk_cell Gw.out 0).trans rfl; have rw_1 : W5.cell? ⟨pw, 1, none⟩ = some (.slice aw_1 (memOf x0).out.length bw_1) := (blk_cell Gw.out 1).trans rfl; have rw_2 : W5.cell? ⟨pw, 2, none⟩ = some (.slice aw_2 (memOf x0).keep.length bw_2) := (blk_cell Gw.out 2).trans rfl; have rx0_0 : W5.cell? ⟨px0, 0, none⟩ = some (.int .i64 x0.trap) := (blk_cell Gx0.out 0).trans rfl; have rx0_1 : W5.cell? ⟨px0, 1, none⟩ = some (.bool x0.done) := (blk_cell Gx0.out 1).trans rfl; have rx0_2 : W5.cell? ⟨px0, 2, none⟩ = some (.int .i64 x0.cost) := (blk_cell Gx0.out 2).trans rfl; have rx0_3 : W5.cell? ⟨px0, 3, none⟩ = some (.int .i64 x0.steps) := (blk_cell Gx0.out 3).trans rfl; have rx0_4 : W5.cell? ⟨px0, 4, none⟩ = some (.slice ax0_4 x0.cells.length bx0_4) := (blk_cell Gx0.out 4).trans rfl; have rx0_5 : W5.cell? ⟨px0, 5, none⟩ = some (.slice ax0_5 x0.stack.length bx0_5) := (blk_cell Gx0.out 5).trans rfl; have rx0_6 : W5.cell? ⟨px0, 6, none⟩ = some (.slice ax0_6 x0.frames.length bx0_6) := (blk_cell Gx0.out 6).trans rfl; have rg_0 : W5.cell? ⟨pg, 0, none⟩ = some (.slice ag_0 (memOf x0).inn.length bg_0) := (blk_cell Gg.out 0).trans rfl; have rg_1 : W5.cell? ⟨pg, 1, none⟩ = some (.slice ag_1 (memOf x0).out.length bg_1) := (blk_cell Gg.out 1).trans rfl; have rg_2 : W5.cell? ⟨pg, 2, none⟩ = some (.slice ag_2 (memOf x0).keep.length bg_2) := (blk_cell Gg.out 2).trans rfl
    go_upto_region 14 with (first | (go_at_call 11; (with_reducible refine (markState_calls ax0_4 bx0_4 ax0_5 bx0_5 ax0_6 bx0_6 x0 (1) W5 lx0 (fun k => lx0 ≤ k ∧ k < px0) Dx0.out (by omega) (by omega) (by omega)).mono ?_); rintro e w2 ⟨rfl, mx, hc⟩; have hw := below_chg HB.out hc (by omega)) | fail)
    obtain ⟨W6, rfl⟩ : ∃ v_, v_ = w2 := ⟨_, rfl⟩
    clear Dx0 Gx0
    have n_ := Aside0.mk (blk_chg K0.out hc (by omega)); clear K0; have K0 := n_; clear n_
    have n_ := Aside0.mk (blk_chg Gw.out hc (by omega)); clear Gw; have Gw := n_; clear n_
    have n_ := Aside0.mk (M_chg Dw.out hc (by omega)); clear Dw; have Dw := n_; clear n_
    have n_ := Aside0.mk (blk_chg Gg.out hc (by omega)); clear Gg; have Gg := n_; clear n_
    have n_ := Aside0.mk (M_chg Dg.out hc (by omega)); clear Dg; have Dg := n_; clear n_
    have hsz := Nat.le_trans hsz hc.1.size
    clear HB; have HB := Aside0.mk hw
    clear hc hw mx
    have HS := Aside0.mk HB.out.size
    have q0_0 : W6.cell? ⟨w.heap.size, 0, none⟩ = some (.int .i64 x0.trap) := (blk_cell K0.out 0).trans rfl; have q0_1 : W6.cell? ⟨w.heap.size, 1, none⟩ = some (.bool x0.done) := (blk_cell K0.out 1).trans rfl; have q0_2 : W6.cell? ⟨w.heap.size, 2, none⟩ = some (.int .i64 x0.cost) := (blk_cell K0.out 2).trans rfl; have q0_3 : W6.cell? ⟨w.heap.size, 3, none⟩ = some (.int .i64 x0.steps) := (blk_cell K0.out 3).trans rfl; have q0_4 : W6.cell? ⟨w.heap.size, 4, none⟩ = some (.slice A0_4 x0.cells.length c0_4) := (blk_cell K0.out 4).trans rfl; have q0_5 : W6.cell? ⟨w.heap.size, 5, none⟩ = some (.slice A0_5 x0.stack.length c0_5) := (blk_cell K0.out 5).trans rfl; have q0_6 : W6.cell? ⟨w.heap.size, 6, none⟩ = some (.slice A0_6 x0.frames.length c0_6) := (blk_cell K0.out 6).trans rfl; have rw_0 : W6.cell? ⟨pw, 0, none⟩ = some (.slice aw_0 (memOf x0).inn.length bw_0) := (blk_cell Gw.out 0).trans rfl; have rw_1 : W6.cell? ⟨pw, 1, none⟩ = some (.slice aw_1 (memOf x0).out.length bw_1) := (blk_cell Gw.out 1).trans rfl; have rw_2 : W6.cell? ⟨pw, 2, none⟩ = some (.slice aw_2 (memOf x0).keep.length bw_2) := (blk_cell Gw.out 2).trans rfl; have rg_0 : W6.cell? ⟨pg, 0, none⟩ = some (.slice ag_0 (memOf x0).inn.length bg_0) := (blk_cell Gg.out 0).trans rfl; have rg_1 : W6.cell? ⟨pg, 1, none⟩ = some (.slice ag_1 (memOf x0).out.length bg_1) := (blk_cell Gg.out 1).trans rfl; have rg_2 : W6.cell? ⟨pg, 2, none⟩ = some (.slice ag_2 (memOf x0).keep.length bg_2) := (blk_cell Gg.out 2).trans rfl
    have tk : decide (1 + (ctState x0 : Nat) < 0) = false := decide_eq_false (by omega)
    go_upto_region 16 with (first | (go_at_call 9; (with_reducible refine (eqMemory_is W6 W6 ag_0 ag_1 ag_2 aw_0 aw_1 aw_2 bg_0 bg_1 bg_2 bw_0 bw_1 bw_2 (memOf x0) (memOf x0) _ (isMemory_I_K (kMemory_I.K_of_M Dg.out)) (isMemory_I_K (kMemory_I.K_of_M Dw.out))).mono ?_); rintro e w2 ⟨he, hb⟩; rw [eqT_self] at he; subst he; have hW := below_step (w := W6) bel hb; have hw := below_step (w := w) bel hb) | fail)
    obtain ⟨W7, rfl⟩ : ∃ v_, v_ = w2 := ⟨_, rfl⟩
    have n_ := Aside0.mk ((hW.block _ (blk_lt K0.out)).trans K0.out); clear K0; have K0 := n_; clear n_
    have n_ := Aside0.mk ((hW.block _ (blk_lt Gw.out)).trans Gw.out); clear Gw; have Gw := n_; clear n_
    have n_ := Aside0.mk (Kd.M_below Dw.out hW); clear Dw; have Dw := n_; clear n_
    have n_ := Aside0.mk ((hW.block _ (blk_lt Gg.out)).trans Gg.out); clear Gg; have Gg := n_; clear n_
    have n_ := Aside0.mk (Kd.M_below Dg.out hW); clear Dg; have Dg := n_; clear n_
    have hsz := Nat.le_trans hsz hW.size
    clear HB; have HB := Aside0.mk hw
    clear hb hW hw
    have HS := Aside0.mk HB.out.size
    have q0_0 : W7.cell? ⟨w.heap.size, 0, none⟩ = some (.int .i64 x0.trap) := (blk_cell K0.out 0).trans rfl; have q0_1 : W7.cell? ⟨w.heap.size, 1, none⟩ = some (.bool x0.done) := (blk_cell K0.out 1).trans rfl; have q0_2 : W7.cell? ⟨w.heap.size, 2, none⟩ = some (.int .i64 x0.cost) := (blk_cell K0.out 2).trans rfl; have q0_3 : W7.cell? ⟨w.heap.size, 3, none⟩ = some (.int .i64 x0.steps) := (blk_cell K0.out 3).trans rfl; have q0_4 : W7.cell? ⟨w.heap.size, 4, none⟩ = some (.slice A0_4 x0.cells.length c0_4) := (blk_cell K0.out 4).trans rfl; have q0_5 : W7.cell? ⟨w.heap.size, 5, none⟩ = some (.slice A0_5 x0.stack.length c0_5) := (blk_cell K0.out 5).trans rfl; have q0_6 : W7.cell? ⟨w.heap.size, 6, none⟩ = some (.slice A0_6 x0.frames.length c0_6) := (blk_cell K0.out 6).trans rfl; have rw_0 : W7.cell? ⟨pw, 0, none⟩ = some (.slice aw_0 (memOf x0).inn.length bw_0) := (blk_cell Gw.out 0).trans rfl; have rw_1 : W7.cell? ⟨pw, 1, none⟩ = some (.slice aw_1 (memOf x0).out.length bw_1) := (blk_cell Gw.out 1).trans rfl; have rw_2 : W7.cell? ⟨pw, 2, none⟩ = some (.slice aw_2 (memOf x0).keep.length bw_2) := (blk_cell Gw.out 2).trans rfl; have rg_0 : W7.cell? ⟨pg, 0, none⟩ = some (.slice ag_0 (memOf x0).inn.length bg_0) := (blk_cell Gg.out 0).trans rfl; have rg_1 : W7.cell? ⟨pg, 1, none⟩ = some (.slice ag_1 (memOf x0).out.length bg_1) := (blk_cell Gg.out 1).trans rfl; have rg_2 : W7.cell? ⟨pg, 2, none⟩ = some (.slice ag_2 (memOf x0).keep.length bg_2) := (blk_cell Gg.out 2).trans rfl
    go_upto_region 18 with (first | (go_at_call 12; (with_reducible refine (markMemory_calls ag_0 bg_0 ag_1 bg_1 ag_2 bg_2 (memOf x0) (1) W7 lg (fun k => lg ≤ k ∧ k < pg) Dg.out (by omega) (by omega) (by omega)).mono ?_); rintro e w2 ⟨rfl, mx, hc⟩; have hw := below_chg HB.out hc (by omega)) | fail)
    obtain ⟨W8, rfl⟩ : ∃ v_, v_ = w2 := ⟨_, rfl⟩
    have n_ := Aside0.mk (blk_chg K0.out hc (by omega)); clear K0; have K0 := n_; clear n_
    have n_ := Aside0.mk (blk_chg Gw.out hc (by omega)); clear Gw; have Gw := n_; clear n_
    have n_ := Aside0.mk (M_chg Dw.out hc (by omega)); clear Dw; have Dw := n_; clear n_
    have n_ := Aside0.mk (blk_chg Gg.out hc (by omega)); clear Gg; have Gg := n_; clear n_
    have hsz := Nat.le_trans hsz hc.1.size
    clear Dg; have Dg := Aside0.mk mx
    clear HB; have HB := Aside0.mk hw
    clear hc hw mx
    have HS := Aside0.mk HB.out.size
    have q0_0 : W8.cell? ⟨w.heap.size, 0, none⟩ = some (.int .i64 x0.trap) := (blk_cell K0.out 0).trans rfl; have q0_1 : W8.cell? ⟨w.heap.size, 1, none⟩ = some (.bool x0.done) := (blk_cell K0.out 1).trans rfl; have q0_2 : W8.cell? ⟨w.heap.size, 2, none⟩ = some (.int .i64 x0.cost) := (blk_cell K0.out 2).trans rfl; have q0_3 : W8.cell? ⟨w.heap.size, 3, none⟩ = some (.int .i64 x0.steps) := (blk_cell K0.out 3).trans rfl; have q0_4 : W8.cell? ⟨w.heap.size, 4, none⟩ = some (.slice A0_4 x0.cells.length c0_4) := (blk_cell K0.out 4).trans rfl; have q0_5 : W8.cell? ⟨w.heap.size, 5, none⟩ = some (.slice A0_5 x0.stack.length c0_5) := (blk_cell K0.out 5).trans rfl; have q0_6 : W8.cell? ⟨w.heap.size, 6, none⟩ = some (.slice A0_6 x0.frames.length c0_6) := (blk_cell K0.out 6).trans rfl; have rw_0 : W8.cell? ⟨pw, 0, none⟩ = some (.slice aw_0 (memOf x0).inn.length bw_0) := (blk_cell Gw.out 0).trans rfl; have rw_1 : W8.cell? ⟨pw, 1, none⟩ = some (.slice aw_1 (memOf x0).out.length bw_1) := (blk_cell Gw.out 1).trans rfl; have rw_2 : W8.cell? ⟨pw, 2, none⟩ = some (.slice aw_2 (memOf x0).keep.length bw_2) := (blk_cell Gw.out 2).trans rfl; have rg_0 : W8.cell? ⟨pg, 0, none⟩ = some (.slice ag_0 (memOf x0).inn.length bg_0) := (blk_cell Gg.out 0).trans rfl; have rg_1 : W8.cell? ⟨pg, 1, none⟩ = some (.slice ag_1 (memOf x0).out.length bg_1) := (blk_cell Gg.out 1).trans rfl; have rg_2 : W8.cell? ⟨pg, 2, none⟩ = some (.slice ag_2 (memOf x0).keep.length bg_2) := (blk_cell Gg.out 2).trans rfl
    have tm : decide (1 + (ctMemory (memOf x0) : Nat) < 0) = false := decide_eq_false (by omega)
    go_upto_region 24 with (first | (go_at_call 13; (with_reducible refine (heldMemory_is W8 lg (fun k => lg ≤ k ∧ k < pg) ag_0 ag_1 ag_2 bg_0 bg_1 bg_2 (memOf x0) 1 _ Dg.out (by omega) (by omega)).mono ?_); rintro e w2 ⟨rfl, hb⟩; have hW := below_step (w := W8) bel hb; have hw := below_step (w := w) bel hb) | fail)
    obtain ⟨W9, rfl⟩ : ∃ v_, v_ = w2 := ⟨_, rfl⟩
    have n_ := Aside0.mk ((hW.block _ (blk_lt K0.out)).trans K0.out); clear K0; have K0 := n_; clear n_
    have n_ := Aside0.mk ((hW.block _ (blk_lt Gw.out)).trans Gw.out); clear Gw; have Gw := n_; clear n_
    have n_ := Aside0.mk (Kd.M_below Dw.out hW); clear Dw; have Dw := n_; clear n_
    have n_ := Aside0.mk ((hW.block _ (blk_lt Gg.out)).trans Gg.out); clear Gg; have Gg := n_; clear n_
    have n_ := Aside0.mk (Kd.M_below Dg.out hW); clear Dg; have Dg := n_; clear n_
    have hsz := Nat.le_trans hsz hW.size
    clear HB; have HB := Aside0.mk hw
    clear hb hW hw
    have HS := Aside0.mk HB.out.size
    have q0_0 : W9.cell? ⟨w.heap.size, 0, none⟩ = some (.int .i64 x0.trap) := (blk_cell K0.out 0).trans rfl; have q0_1 : W9.cell? ⟨w.heap.size, 1, none⟩ = some (.bool x0.done) := (blk_cell K0.out 1).trans rfl; have q0_2 : W9.cell? ⟨w.heap.size, 2, none⟩ = some (.int .i64 x0.cost) := (blk_cell K0.out 2).trans rfl; have q0_3 : W9.cell? ⟨w.heap.size, 3, none⟩ = some (.int .i64 x0.steps) := (blk_cell K0.out 3).trans rfl; have q0_4 : W9.cell? ⟨w.heap.size, 4, none⟩ = some (.slice A0_4 x0.cells.length c0_4) := (blk_cell K0.out 4).trans rfl; have q0_5 : W9.cell? ⟨w.heap.size, 5, none⟩ = some (.slice A0_5 x0.stack.length c0_5) := (blk_cell K0.out 5).trans rfl; have q0_6 : W9.cell? ⟨w.heap.size, 6, none⟩ = some (.slice A0_6 x0.frames.length c0_6) := (blk_cell K0.out 6).trans rfl; have rw_0 : W9.cell? ⟨pw, 0, none⟩ = some (.slice aw_0 (memOf x0).inn.length bw_0) := (blk_cell Gw.out 0).trans rfl; have rw_1 : W9.cell? ⟨pw, 1, none⟩ = some (.slice aw_1 (memOf x0).out.length bw_1) := (blk_cell Gw.out 1).trans rfl; have rw_2 : W9.cell? ⟨pw, 2, none⟩ = some (.slice aw_2 (memOf x0).keep.length bw_2) := (blk_cell Gw.out 2).trans rfl; have rg_0 : W9.cell? ⟨pg, 0, none⟩ = some (.slice ag_0 (memOf x0).inn.length bg_0) := (blk_cell Gg.out 0).trans rfl; have rg_1 : W9.cell? ⟨pg, 1, none⟩ = some (.slice ag_1 (memOf x0).out.length bg_1) := (blk_cell Gg.out 1).trans rfl; have rg_2 : W9.cell? ⟨pg, 2, none⟩ = some (.slice ag_2 (memOf x0).keep.length bg_2) := (blk_cell Gg.out 2).trans rfl
    go_upto_region 25 with (first | (go_at_call 7; (with_reducible refine (toState_is w A0_4 A0_5 A0_6 c0_4 c0_5 c0_6 x0 _ H0.out N0.out).mono ?_); rintro e w2 ⟨ay_4, by_4, ay_5, by_5, ay_6, by_6, rfl, mt, it, hb⟩; have hW := below_step (w := W9) bel hb; have hw := below_step (w := w) bel hb) | (go_at_call 8; (with_reducible refine (iMem_is _ ay_4 ay_5 ay_6 by_4 by_5 by_6 x0 _ it N0.out).mono ?_); rintro e w2 ⟨ah_0, bh_0, ah_1, bh_1, ah_2, bh_2, rfl, mg, hb⟩; have D1 := Aside0.mk (M_mk (W := W9) hb mg); have hW := below_step (w := W9) bel hb; have hw := below_step (w := w) bel hb) | fail)
    have hw1 : Below w.heap.size w (w2.alloc (.cells #[.slice ah_0 (memOf x0).inn.length bh_0, .slice ah_1 (memOf x0).out.length bh_1, .slice ah_2 (memOf x0).keep.length bh_2] 30)) := bel
    have hW1 : Below W9.heap.size W9 (w2.alloc (.cells #[.slice ah_0 (memOf x0).inn.length bh_0, .slice ah_1 (memOf x0).out.length bh_1, .slice ah_2 (memOf x0).keep.length bh_2] 30)) := bel
    have hi1 : Below w2.heap.size w2 (w2.alloc (.cells #[.slice ah_0 (memOf x0).inn.length bh_0, .slice ah_1 (memOf x0).out.length bh_1, .slice ah_2 (memOf x0).keep.length bh_2] 30)) := bel
    have n1 : (w2.alloc (.cells #[.slice ah_0 (memOf x0).inn.length bh_0, .slice ah_1 (memOf x0).out.length bh_1, .slice ah_2 (memOf x0).keep.length bh_2] 30)).heap[w2.heap.size]? = some (.cells #[.slice ah_0 (memOf x0).inn.length bh_0, .slice ah_1 (memOf x0).out.length bh_1, .slice ah_2 (memOf x0).keep.length bh_2] 30 (0, 0)) := blk_alloc1a _ _ _
    have D2 := Aside0.mk (Kd.M_below D1.out hi1)
    have hs2 : (w2.alloc (.cells #[.slice ah_0 (memOf x0).inn.length bh_0, .slice ah_1 (memOf x0).out.length bh_1, .slice ah_2 (memOf x0).keep.length bh_2] 30)).heap.size = w2.heap.size + 1 := by simp
    have hlp := hW.size
    obtain ⟨W10, e1⟩ : ∃ v_, v_ = w2.alloc (.cells #[.slice ah_0 (memOf x0).inn.length bh_0, .slice ah_1 (memOf x0).out.length bh_1, .slice ah_2 (memOf x0).keep.length bh_2] 30) := ⟨_, rfl⟩
    obtain ⟨ph, e2⟩ : ∃ v_, v_ = w2.heap.size := ⟨_, rfl⟩
    obtain ⟨lh, e3⟩ : ∃ v_, v_ = W9.heap.size := ⟨_, rfl⟩
    rw [← e1] at hw1 hW1 n1 D2 hs2 ⊢
    rw [← e2] at n1 D2 hs2 hlp ⊢
    rw [← e3] at D2 hlp
    have hlnh := hsz; rw [← e3] at hlnh
    have n_ := Aside0.mk ((hW1.block _ (blk_lt K0.out)).trans K0.out); clear K0; have K0 := n_; clear n_
    have n_ := Aside0.mk ((hW1.block _ (blk_lt Gw.out)).trans Gw.out); clear Gw; have Gw := n_; clear n_
    have n_ := Aside0.mk (Kd.M_below Dw.out hW1); clear Dw; have Dw := n_; clear n_
    have n_ := Aside0.mk ((hW1.block _ (blk_lt Gg.out)).trans Gg.out); clear Gg; have Gg := n_; clear n_
    have n_ := Aside0.mk (Kd.M_below Dg.out hW1); clear Dg; have Dg := n_; clear n_
    have hsz := Nat.le_trans hsz hW1.size
    have Gh := Aside0.mk n1; have Dh := D2; have hlph := hlp
    have hsz : ph + 1 ≤ W10.heap.size := by omega
    clear HB; have HB := Aside0.mk hw1
    clear hb hW hw hw1 hW1 hi1 n1 e1 e2 e3 D1 D2 hs2 hlp
    have HS := Aside0.mk HB.out.size
    have q0_0 : W10.cell? ⟨w.heap.size, 0, none⟩ = some (.int .i64 x0.trap) := (blk_cell K0.out 0).trans rfl; have q0_1 : W10.cell? ⟨w.heap.size, 1, none⟩ = some (.bool x0.done) := (blk_cell K0.out 1).trans rfl; have q0_2 : W10.cell? ⟨w.heap.size, 2, none⟩ = some (.int .i64 x0.cost) := (blk_cell K0.out 2).trans rfl; have q0_3 : W10.cell? ⟨w.heap.size, 3, none⟩ = some (.int .i64 x0.steps) := (blk_cell K0.out 3).trans rfl; have q0_4 : W10.cell? ⟨w.heap.size, 4, none⟩ = some (.slice A0_4 x0.cells.length c0_4) := (blk_cell K0.out 4).trans rfl; have q0_5 : W10.cell? ⟨w.heap.size, 5, none⟩ = some (.slice A0_5 x0.stack.length c0_5) := (blk_cell K0.out 5).trans rfl; have q0_6 : W10.cell? ⟨w.heap.size, 6, none⟩ = some (.slice A0_6 x0.frames.length c0_6) := (blk_cell K0.out 6).trans rfl; have rw_0 : W10.cell? ⟨pw, 0, none⟩ = some (.slice aw_0 (memOf x0).inn.length bw_0) := (blk_cell Gw.out 0).trans rfl; have rw_1 : W10.cell? ⟨pw, 1, none⟩ = some (.slice aw_1 (memOf x0).out.length bw_1) := (blk_cell Gw.out 1).trans rfl; have rw_2 : W10.cell? ⟨pw, 2, none⟩ = some (.slice aw_2 (memOf x0).keep.length bw_2) := (blk_cell Gw.out 2).trans rfl; have rg_0 : W10.cell? ⟨pg, 0, none⟩ = some (.slice ag_0 (memOf x0).inn.length bg_0) := (blk_cell Gg.out 0).trans rfl; have rg_1 : W10.cell? ⟨pg, 1, none⟩ = some (.slice ag_1 (memOf x0).out.length bg_1) := (blk_cell Gg.out 1).trans rfl; have rg_2 : W10.cell? ⟨pg, 2, none⟩ = some (.slice ag_2 (memOf x0).keep.length bg_2) := (blk_cell Gg.out 2).trans rfl; have rh_0 : W10.cell? ⟨ph, 0, none⟩ = some (.slice ah_0 (memOf x0).inn.length bh_0) := (blk_cell Gh.out 0).trans rfl; have rh_1 : W10.cell? ⟨ph, 1, none⟩ = some (.slice ah_1 (memOf x0).out.length bh_1) := (blk_cell Gh.out 1).trans rfl; have rh_2 : W10.cell? ⟨ph, 2, none⟩ = some (.slice ah_2 (memOf x0).keep.length bh_2) := (blk_cell Gh.out 2).trans rfl
    go_upto_region 27 with (first | (go_at_call 9; (with_reducible refine (eqMemory_is W10 W10 ah_0 ah_1 ah_2 aw_0 aw_1 aw_2 bh_0 bh_1 bh_2 bw_0 bw_1 bw_2 (memOf x0) (memOf x0) _ (isMemory_I_K (kMemory_I.K_of_M Dh.out)) (isMemory_I_K (kMemory_I.K_of_M Dw.out))).mono ?_); rintro e w2 ⟨he, hb⟩; rw [eqT_self] at he; subst he; have hW := below_step (w := W10) bel hb; have hw := below_step (w := w) bel hb) | fail)
    obtain ⟨W11, rfl⟩ : ∃ v_, v_ = w2 := ⟨_, rfl⟩
    have n_ := Aside0.mk ((hW.block _ (blk_lt K0.out)).trans K0.out); clear K0; have K0 := n_; clear n_
    have n_ := Aside0.mk ((hW.block _ (blk_lt Gw.out)).trans Gw.out); clear Gw; have Gw := n_; clear n_
    have n_ := Aside0.mk (Kd.M_below Dw.out hW); clear Dw; have Dw := n_; clear n_
    have n_ := Aside0.mk ((hW.block _ (blk_lt Gg.out)).trans Gg.out); clear Gg; have Gg := n_; clear n_
    have n_ := Aside0.mk (Kd.M_below Dg.out hW); clear Dg; have Dg := n_; clear n_
    have n_ := Aside0.mk ((hW.block _ (blk_lt Gh.out)).trans Gh.out); clear Gh; have Gh := n_; clear n_
    have n_ := Aside0.mk (Kd.M_below Dh.out hW); clear Dh; have Dh := n_; clear n_
    have hsz := Nat.le_trans hsz hW.size
    clear HB; have HB := Aside0.mk hw
    clear hb hW hw
    have HS := Aside0.mk HB.out.size
    have q0_0 : W11.cell? ⟨w.heap.size, 0, none⟩ = some (.int .i64 x0.trap) := (blk_cell K0.out 0).trans rfl; have q0_1 : W11.cell? ⟨w.heap.size, 1, none⟩ = some (.bool x0.done) := (blk_cell K0.out 1).trans rfl; have q0_2 : W11.cell? ⟨w.heap.size, 2, none⟩ = some (.int .i64 x0.cost) := (blk_cell K0.out 2).trans rfl; have q0_3 : W11.cell? ⟨w.heap.size, 3, none⟩ = some (.int .i64 x0.steps) := (blk_cell K0.out 3).trans rfl; have q0_4 : W11.cell? ⟨w.heap.size, 4, none⟩ = some (.slice A0_4 x0.cells.length c0_4) := (blk_cell K0.out 4).trans rfl; have q0_5 : W11.cell? ⟨w.heap.size, 5, none⟩ = some (.slice A0_5 x0.stack.length c0_5) := (blk_cell K0.out 5).trans rfl; have q0_6 : W11.cell? ⟨w.heap.size, 6, none⟩ = some (.slice A0_6 x0.frames.length c0_6) := (blk_cell K0.out 6).trans rfl; have rw_0 : W11.cell? ⟨pw, 0, none⟩ = some (.slice aw_0 (memOf x0).inn.length bw_0) := (blk_cell Gw.out 0).trans rfl; have rw_1 : W11.cell? ⟨pw, 1, none⟩ = some (.slice aw_1 (memOf x0).out.length bw_1) := (blk_cell Gw.out 1).trans rfl; have rw_2 : W11.cell? ⟨pw, 2, none⟩ = some (.slice aw_2 (memOf x0).keep.length bw_2) := (blk_cell Gw.out 2).trans rfl; have rg_0 : W11.cell? ⟨pg, 0, none⟩ = some (.slice ag_0 (memOf x0).inn.length bg_0) := (blk_cell Gg.out 0).trans rfl; have rg_1 : W11.cell? ⟨pg, 1, none⟩ = some (.slice ag_1 (memOf x0).out.length bg_1) := (blk_cell Gg.out 1).trans rfl; have rg_2 : W11.cell? ⟨pg, 2, none⟩ = some (.slice ag_2 (memOf x0).keep.length bg_2) := (blk_cell Gg.out 2).trans rfl; have rh_0 : W11.cell? ⟨ph, 0, none⟩ = some (.slice ah_0 (memOf x0).inn.length bh_0) := (blk_cell Gh.out 0).trans rfl; have rh_1 : W11.cell? ⟨ph, 1, none⟩ = some (.slice ah_1 (memOf x0).out.length bh_1) := (blk_cell Gh.out 1).trans rfl; have rh_2 : W11.cell? ⟨ph, 2, none⟩ = some (.slice ah_2 (memOf x0).keep.length bh_2) := (blk_cell Gh.out 2).trans rfl
    go_wp2_with (first | (go_at_call 13; (with_reducible refine (heldMemory_is W11 lg (fun k => lg ≤ k ∧ k < pg) ag_0 ag_1 ag_2 bg_0 bg_1 bg_2 (memOf x0) 1 _ Dg.out (by omega) (by omega)).mono ?_); rintro e w2 ⟨rfl, hb⟩; have hW := below_step (w := W11) bel hb; have hw := below_step (w := w) bel hb) | fail)
    go_ret
    exact ⟨rfl, bel⟩
end Go.Proofs.Ytlnlbncinjiinab.X
