/- Of this session: contracts over the words of the kit's print. -/
import Derived.Test.YtlnlbncinjiinabProg
import Derived.Below
import Derived.Deep.Draws
import Derived.Deep.AppendLies
import Derived.Maps.AppendAt
import Derived.OwnWalk
import Derived.Laws.BytesArg
import Derived.Laws.MakeOwn
import Derived.Laws.OwnMore
import Derived.Deep.OwnRows
import Derived.Tactics
import Derived.Lib.ConvBytes
import Derived.Laws.Slices
import Derived.WalkKit
import Derived.KernelRfl
import Derived.RowKit3
import Derived.Deep.LoopGhost
import Derived.Deep.QuietTactic
import Derived.BigQuiet
import Derived.WideLaws
import Derived.Deep.DeepCutAuto
import Derived.Deep.CutBlock
import Derived.Deep.RegionHeld3
import Derived.Laws.Rows
import Derived.Lib.AppendStr
import Derived.ArgAppend
import Derived.Laws.IdiomCopy
import Derived.OrdersHeld
import Derived.Laws.BitsLemmas
import Derived.RowKit
import Derived.StillTailTactics
import Derived.Test.YtlnlbncinjiinabWWords
import Derived.Test.YtlnlbncinjiinabWLast
import Derived.Test.YtlnlbncinjiinabWTab
import Derived.Test.YtlnlbncinjiinabWFour
import Derived.Test.YtlnlbncinjiinabWQPut
import Derived.Test.YtlnlbncinjiinabWApart
import Derived.Test.YtlnlbncinjiinabWArr
import Derived.Test.YtlnlbncinjiinabWZeros
import Derived.Test.YtlnlbncinjiinabWFoot
import Derived.Test.YtlnlbncinjiinabWKept
import Derived.Test.YtlnlbncinjiinabWShare
import Derived.Test.YtlnlbncinjiinabWN
import Derived.Test.YtlnlbncinjiinabWFootNe
import Derived.Test.YtlnlbncinjiinabWAt
import Derived.Test.YtlnlbncinjiinabWEqStruct
import Derived.Test.YtlnlbncinjiinabWRepsOne
import Derived.Test.YtlnlbncinjiinabWInv
import Derived.Test.YtlnlbncinjiinabWInvWords
import Derived.Test.YtlnlbncinjiinabWGuard
import Derived.Test.YtlnlbncinjiinabWNEv
import Derived.Test.YtlnlbncinjiinabWMore
import Derived.ChangeArms
import Derived.Test.YtlnlbncinjiinabX0
import Derived.Test.YtlnlbncinjiinabXEq
import Derived.Test.YtlnlbncinjiinabXSz
import Derived.Test.YtlnlbncinjiinabXTo
import Derived.Test.YtlnlbncinjiinabXMark
namespace Go.Proofs.Ytlnlbncinjiinab.X
open Go.RowKit Go.Proofs.YtlnlbncinjiinabW.PrintWords Go.Proofs.YtlnlbncinjiinabW.PrintLast Go.Proofs.YtlnlbncinjiinabW.PrintMore
set_option linter.unusedVariables false
set_option linter.unusedSimpArgs false
set_option maxHeartbeats 4000000 in
set_option maxRecDepth 100000 in
theorem heldUint32S_calls (A0 : Option Addr) (c0 : Nat) (l0 : List Int) (k : Int) (w : World) (hr : Kd.C (Kd.int .u32) w A0 l0.length (mkl ctOne mkOne k l0)) (k0 : 0 ≤ k) (k1 : k + (szsum ctOne l0 : Nat) ≤ 4294967295) :
    Calls Try.prog 35 #[.slice A0 l0.length c0, .int .i64 k] w fun e w' => e = .returned (.int .i64 (k + (szsum ctOne l0 : Nat))) ∧ Below w.heap.size w w' := by
  have hm : l0.length ≤ 9223372036854775807 := hr.2.1
  have HR := Aside0.mk hr
  clear hr
  go_enter Try.func35, Try.ntmps35
  go_wp2
  go_loopw [1, 5] (fun u v wr => ∃ i : Int, 0 ≤ i ∧ i ≤ l0.length ∧ v = .int .i64 i ∧ u = .int .i64 (k + (szsum ctOne (l0.take i.toNat) : Nat)) ∧ Aside0 (Below w.heap.size w wr)) (fun _ v _ => ((l0.length : Int) - intOf v).toNat)
  case atStart => exact ⟨0, by omega, by omega, rfl, by simp [szsum], ⟨Below.refl _ _⟩⟩
  case round =>
    obtain ⟨i, h0, hi, rfl, rfl, HB⟩ := hrel
    by_cases hlt : i < l0.length
    · have hst := cnt_step ctOne 0 l0 i h0 hlt
      have HE := Aside0.mk (mkl_getD (c := ctOne) (m := mkOne) 0 k l0 i.toNat (by omega))
      have hle := szsum_le ctOne l0 (i + 1).toNat
      obtain ⟨kc, hkc⟩ : ∃ kc : Int, kc = k + szsum ctOne (l0.take i.toNat) := ⟨_, rfl⟩
      have hkn : k + szsum ctOne (l0.take (i + 1).toNat) = kc + (ctOne (l0.getD i.toNat 0) : Nat) := by omega
      have hk0 : 0 ≤ kc := by omega
      have hk1 : kc + (ctOne (l0.getD i.toNat 0) : Nat) ≤ 4294967295 := by omega
      rw [← hkc] at HE ⊢
      clear hst hle hkc
      obtain ⟨ad0, e0, x0⟩ := Kd.at_int (Kd.C_below HR.out HB.out) i h0 hlt
      cases e0
      replace x0 : wr.cell? (ad0.add i.toNat) = some (.int .u32 kc) := x0.trans (by unfold rd; rw [HE.out]; rfl)
      have hk1 : kc + 1 ≤ 4294967295 := hk1
      go_wp2
      go_roundw
      case rel => exact ⟨i + 1, by omega, by omega, rfl, by rw [hkn]; rfl, HB⟩
      case measure => simp [intOf]; omega
    · obtain rfl : i = l0.length := by omega
      have HE := Aside0.mk (show k + (szsum ctOne (l0.take (l0.length : Int).toNat) : Nat) = k + (szsum ctOne l0 : Nat) by simp)
      go_wp2
      go_ret
      exact ⟨by first | rfl | (rw [HE.out]; rfl), bel⟩
theorem heldUint32S_at (w0 : World) (A0 : Option Addr) (c0 : Nat) (l0 : List Int) (k : Int) (w : World) (hr : Kd.C (Kd.int .u32) w0 A0 l0.length (mkl ctOne mkOne k l0)) (k0 : 0 ≤ k) (k1 : k + (szsum ctOne l0 : Nat) ≤ 4294967295) (hb : Below w0.heap.size w0 w := by exact bel) :
    Calls Try.prog 35 #[.slice A0 l0.length c0, .int .i64 k] w fun e w' => e = .returned (.int .i64 (k + (szsum ctOne l0 : Nat))) ∧ Below w.heap.size w w' := heldUint32S_calls A0 c0 l0 k w (Kd.C_below hr hb) k0 k1

set_option maxHeartbeats 4000000 in
set_option maxRecDepth 100000 in
theorem heldMemory_at (w0 : World) (A0 : Option Addr) (c0 : Nat) (A1 : Option Addr) (c1 : Nat) (A2 : Option Addr) (c2 : Nat) (x : MMemory) (k : Int) (w : World) (h0 : Kd.C (Kd.int .u32) w0 A0 x.inn.length (mkl ctOne mkOne (k) x.inn)) (h1 : Kd.C (Kd.int .u32) w0 A1 x.out.length (mkl ctOne mkOne (k + (szsum ctOne x.inn : Nat)) x.out)) (h2 : Kd.C (Kd.int .u32) w0 A2 x.keep.length (mkl ctOne mkOne (k + (szsum ctOne x.inn : Nat) + (szsum ctOne x.out : Nat)) x.keep)) (k0 : 0 ≤ k) (k1 : k + (ctMemory x : Nat) ≤ 4294967295) (hb0 : Below w0.heap.size w0 w := by exact bel) :
    Calls Try.prog 13 #[.agg #[.slice A0 x.inn.length c0, .slice A1 x.out.length c1, .slice A2 x.keep.length c2], .int .i64 k] w fun e w' => e = .returned (.int .i64 (k + (ctMemory x : Nat))) ∧ Below w.heap.size w w' := by
  have H0 := Aside0.mk (Kd.C_below h0 hb0); have H1 := Aside0.mk (Kd.C_below h1 hb0); have H2 := Aside0.mk (Kd.C_below h2 hb0); have HB := Aside0.mk (Below.refl w.heap.size w); have K0 := Aside0.mk (blk_alloc1a w #[.slice A0 x.inn.length c0, .slice A1 x.out.length c1, .slice A2 x.keep.length c2] 30)
  clear hb0 h0 h1 h2
  unfold ctMemory at k1 ⊢
  have t0 : decide (k + (szsum ctOne x.inn : Nat) < 0) = false := decide_eq_false (by omega)
  have t1 : decide (k + (szsum ctOne x.inn : Nat) + (szsum ctOne x.out : Nat) < 0) = false := decide_eq_false (by omega)
  have t2 : decide (k + (szsum ctOne x.inn : Nat) + (szsum ctOne x.out : Nat) + (szsum ctOne x.keep : Nat) < 0) = false := decide_eq_false (by omega)
  go_enter Try.func13, Try.ntmps13
  go_wp2_with (first | (go_at_call 35; (with_reducible refine (heldUint32S_at w A0 c0 x.inn (k) _ H0.out (by omega) (by omega)).mono ?_); rintro e w1 ⟨rfl, hb⟩; have n_ := Aside0.mk (below_step (w := w) bel hb); have k_ : Aside0 (w1.heap[w.heap.size]? = some (.cells #[.slice A0 x.inn.length c0, .slice A1 x.out.length c1, .slice A2 x.keep.length c2] 30 (0, 0))) := ⟨by first | exact (hb.block _ (blk_lt K0.out)).trans K0.out | exact (hb.block _ (by simp)).trans K0.out⟩; clear K0; have K0 := k_; clear k_; have q0 : w1.cell? ⟨w.heap.size, 0, none⟩ = some (.slice A0 x.inn.length c0) := (blk_cell K0.out 0).trans rfl; have q1 : w1.cell? ⟨w.heap.size, 1, none⟩ = some (.slice A1 x.out.length c1) := (blk_cell K0.out 1).trans rfl; have q2 : w1.cell? ⟨w.heap.size, 2, none⟩ = some (.slice A2 x.keep.length c2) := (blk_cell K0.out 2).trans rfl; clear HB hb; have HB := n_; clear n_) | (go_at_call 35; (with_reducible refine (heldUint32S_at w A1 c1 x.out (k + (szsum ctOne x.inn : Nat)) _ H1.out (by omega) (by omega)).mono ?_); rintro e w1 ⟨rfl, hb⟩; have n_ := Aside0.mk (below_step (w := w) bel hb); have k_ : Aside0 (w1.heap[w.heap.size]? = some (.cells #[.slice A0 x.inn.length c0, .slice A1 x.out.length c1, .slice A2 x.keep.length c2] 30 (0, 0))) := ⟨by first | exact (hb.block _ (blk_lt K0.out)).trans K0.out | exact (hb.block _ (by simp)).trans K0.out⟩; clear K0; have K0 := k_; clear k_; have q0 : w1.cell? ⟨w.heap.size, 0, none⟩ = some (.slice A0 x.inn.length c0) := (blk_cell K0.out 0).trans rfl; have q1 : w1.cell? ⟨w.heap.size, 1, none⟩ = some (.slice A1 x.out.length c1) := (blk_cell K0.out 1).trans rfl; have q2 : w1.cell? ⟨w.heap.size, 2, none⟩ = some (.slice A2 x.keep.length c2) := (blk_cell K0.out 2).trans rfl; clear HB hb; have HB := n_; clear n_) | (go_at_call 35; (with_reducible refine (heldUint32S_at w A2 c2 x.keep (k + (szsum ctOne x.inn : Nat) + (szsum ctOne x.out : Nat)) _ H2.out (by omega) (by omega)).mono ?_); rintro e w1 ⟨rfl, hb⟩; have n_ := Aside0.mk (below_step (w := w) bel hb); have k_ : Aside0 (w1.heap[w.heap.size]? = some (.cells #[.slice A0 x.inn.length c0, .slice A1 x.out.length c1, .slice A2 x.keep.length c2] 30 (0, 0))) := ⟨by first | exact (hb.block _ (blk_lt K0.out)).trans K0.out | exact (hb.block _ (by simp)).trans K0.out⟩; clear K0; have K0 := k_; clear k_; have q0 : w1.cell? ⟨w.heap.size, 0, none⟩ = some (.slice A0 x.inn.length c0) := (blk_cell K0.out 0).trans rfl; have q1 : w1.cell? ⟨w.heap.size, 1, none⟩ = some (.slice A1 x.out.length c1) := (blk_cell K0.out 1).trans rfl; have q2 : w1.cell? ⟨w.heap.size, 2, none⟩ = some (.slice A2 x.keep.length c2) := (blk_cell K0.out 2).trans rfl; clear HB hb; have HB := n_; clear n_))
  go_ret
  exact ⟨by first | rfl | simp [Int.add_assoc], bel⟩

theorem heldMemory_is (w0 : World) (lo : Nat) (ok : Nat → Prop) (A0 A1 A2 : Option Addr) (c0 c1 c2 : Nat) (x : MMemory) (k : Int) (w : World) (h : kMemory_I.M w0 lo ok (mkMemory k x) [.slice A0 x.inn.length c0, .slice A1 x.out.length c1, .slice A2 x.keep.length c2]) (k0 : 0 ≤ k) (k1 : k + (ctMemory x : Nat) ≤ 4294967295) (hb0 : Below w0.heap.size w0 w := by exact bel) :
    Calls Try.prog 13 #[.agg #[.slice A0 x.inn.length c0, .slice A1 x.out.length c1, .slice A2 x.keep.length c2], .int .i64 k] w fun e w' => e = .returned (.int .i64 (k + (ctMemory x : Nat))) ∧ Below w.heap.size w w' := by
  obtain ⟨p0, p1, v0, v1, v2, ec, g0, g1, g2⟩ := kMemory_I_openM h
  simp only [List.cons.injEq, and_true, true_and] at ec
  obtain ⟨rfl, rfl, rfl⟩ := ec
  have ln : ∀ {α : Type} {d : Kd α} {A : Option Addr} {n c e : Nat} {ok : Nat → Prop} {xs : List α}, Kd.S d e w0 lo ok (.slice A n c) xs → d.C w0 A n xs := fun h => by
    obtain ⟨h1, _, h2⟩ := Kd.S_reads' h
    rw [h1]; exact h2
  exact heldMemory_at w0 A0 c0 A1 c1 A2 c2 x k w (ln g0) (ln g1) (ln g2) k0 k1 hb0

end Go.Proofs.Ytlnlbncinjiinab.X
