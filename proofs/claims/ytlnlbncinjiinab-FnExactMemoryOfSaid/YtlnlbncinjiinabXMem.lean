/- Of this session: contracts over the words of the kit's print. -/
import Derived.Test.YtlnlbncinjiinabProg
import Derived.Below
import Derived.Deep.Draws
import Derived.Deep.AppendLies
import Derived.Maps.AppendAt
import Derived.OwnWalk
import Derived.Laws.BytesArg
import Derived.Laws.MakeOwn
import Derived.Laws.OwnMore
import Derived.Deep.OwnRows
import Derived.Tactics
import Derived.Lib.ConvBytes
import Derived.Laws.Slices
import Derived.WalkKit
import Derived.KernelRfl
import Derived.RowKit3
import Derived.Deep.LoopGhost
import Derived.Deep.QuietTactic
import Derived.BigQuiet
import Derived.WideLaws
import Derived.Deep.DeepCutAuto
import Derived.Deep.CutBlock
import Derived.Deep.RegionHeld3
import Derived.Laws.Rows
import Derived.Lib.AppendStr
import Derived.ArgAppend
import Derived.Laws.IdiomCopy
import Derived.OrdersHeld
import Derived.Laws.BitsLemmas
import Derived.RowKit
import Derived.StillTailTactics
import Derived.Test.YtlnlbncinjiinabWWords
import Derived.Test.YtlnlbncinjiinabWLast
import Derived.Test.YtlnlbncinjiinabWTab
import Derived.Test.YtlnlbncinjiinabWFour
import Derived.Test.YtlnlbncinjiinabWQPut
import Derived.Test.YtlnlbncinjiinabWApart
import Derived.Test.YtlnlbncinjiinabWArr
import Derived.Test.YtlnlbncinjiinabWZeros
import Derived.Test.YtlnlbncinjiinabWFoot
import Derived.Test.YtlnlbncinjiinabWKept
import Derived.Test.YtlnlbncinjiinabWShare
import Derived.Test.YtlnlbncinjiinabWN
import Derived.Test.YtlnlbncinjiinabWFootNe
import Derived.Test.YtlnlbncinjiinabWAt
import Derived.Test.YtlnlbncinjiinabWEqStruct
import Derived.Test.YtlnlbncinjiinabWRepsOne
import Derived.Test.YtlnlbncinjiinabWInv
import Derived.Test.YtlnlbncinjiinabWInvWords
import Derived.Test.YtlnlbncinjiinabWGuard
import Derived.Test.YtlnlbncinjiinabWNEv
import Derived.Test.YtlnlbncinjiinabWMore
import Derived.ChangeArms
import Derived.Test.YtlnlbncinjiinabX0
import Derived.Test.YtlnlbncinjiinabXEq
import Derived.Test.YtlnlbncinjiinabXSz
import Derived.Test.YtlnlbncinjiinabXTo
import Derived.Test.YtlnlbncinjiinabXMark
import Derived.Test.YtlnlbncinjiinabXIs
namespace Go.Proofs.Ytlnlbncinjiinab.X
open Go.RowKit Go.Proofs.YtlnlbncinjiinabW.PrintWords Go.Proofs.YtlnlbncinjiinabW.PrintLast Go.Proofs.YtlnlbncinjiinabW.PrintMore
set_option linter.unusedVariables false
set_option linter.unusedSimpArgs false
theorem info_Uint32 : (Try.prog.info? 79).map (fun i => (i.zero, i.size, i.bytes)) = some (some (.int .u32 0), 1, 4) := by kernel_rfl
def wordsOf (l : List MValue) : List Int := l.map (·.word)
theorem words_len (l : List MValue) : (wordsOf l).length = l.length := by unfold wordsOf; simp
theorem words_snoc (l : List MValue) (i : Int) (h0 : 0 ≤ i) (h1 : i < l.length) : wordsOf (l.take i.toNat) ++ [(rdValue l i).word] = wordsOf (l.take (i + 1).toNat) := by
  have hi : i.toNat < l.length := by omega
  rw [show (i + 1).toNat = i.toNat + 1 by omega, List.take_succ_eq_append_getElem hi]
  unfold wordsOf rdValue
  rw [List.map_append, List.getD_eq_getElem?_getD, List.getElem?_eq_getElem hi]
  rfl
theorem far3 {w : World} {g o0 o1 o2 : Nat} {a : Addr} {u0 u1 u2 v : Value} (h : w.cell? a = some v) (hn : g ≠ a.block) : (((w.setCell ⟨g, o0, none⟩ u0).setCell ⟨g, o1, none⟩ u1).setCell ⟨g, o2, none⟩ u2).cell? a = some v := by
  rw [World.cell?_setCell_far _ _ _ _ hn, World.cell?_setCell_far _ _ _ _ hn, World.cell?_setCell_far _ _ _ _ hn]
  exact h

set_option maxHeartbeats 4000000 in
set_option maxRecDepth 100000 in
theorem l4Words_calls (A0 : Option Addr) (c0 : Nat) (l0 : List MValue) (w : World) (hr : Kd.C kValue_I w A0 l0.length l0) (hn : l0.length ≤ 1048576) :
    Calls Try.prog 22 #[.slice A0 l0.length c0] w fun e w' => ∃ A c, e = .returned (.slice A (wordsOf l0).length c) ∧ Kd.S (Kd.int .u32) 79 w' w.heap.size (fun _ => True) (.slice A (wordsOf l0).length c) (wordsOf l0) ∧ Below w.heap.size w w' := by
  have hu103 := Try.underlying103
  have HR := Aside0.mk hr
  clear hr
  go_enter Try.func22, Try.ntmps22
  go_wp2_with (first | ((with_reducible refine gate_dst (N := 5) rfl ?_); refine Kd.R_lit (Kd.int .u32) _ 79 ?hg (N := 5) ?hd (xs := ([] : List Int)) (inner := []) (ok := fun _ => True) (okp := fun _ => True) ?hr ?hp (fun _ hk => hk) trivial (Below.refl _ _) (Nat.le_refl _) (by simp) ?_; (case hd => rfl); (case hg => rfl); (case hr => first | (go_simp; done) | (go_simp; rfl)); (case hp => exact (Reps.none _ _)); intro vo w2 ho3 hb hg_ hnew_; clear hg_ hnew_; have HO0 := Aside0.mk ho3; have HB0 := Aside0.mk hb; clear hb ho3))
  go_loopw [3, 4] (fun u v wr => ∃ i : Int, 0 ≤ i ∧ i ≤ l0.length ∧ v = .int .i64 i ∧ Aside0 (Kd.R (Kd.int .u32) 79 wr w.heap.size (fun _ => True) u (wordsOf (l0.take i.toNat))) ∧ Aside0 (Below w.heap.size w wr)) (fun _ v _ => ((l0.length : Int) - intOf v).toNat)
  case atStart => exact ⟨0, by omega, by omega, rfl, ⟨by simpa [wordsOf] using HO0.out⟩, HB0⟩
  case round =>
    obtain ⟨i, h0, hi, rfl, HO, HB⟩ := hrel
    clear HO0 HB0
    by_cases hlt : i < l0.length
    · obtain ⟨ad0, e0, x0, x1⟩ := atValue_I HR.out i h0 hlt
      cases e0
      replace x0 := (HB.out.cell (World.block_lt_of_cell? w _ x0)).trans x0
      replace x1 := (HB.out.cell (World.block_lt_of_cell? w _ x1)).trans x1
      have HU := Aside0.mk (words_snoc l0 i h0 hlt)
      have HL : Aside0 ((wordsOf (l0.take i.toNat)).length ≤ 1048576) := ⟨by rw [words_len, List.length_take]; omega⟩
      go_wp2_with (first | ((with_reducible refine gate_builtin (b := .append) (xs := #[.tmp 12, .tmp 18]) rfl ?_); at_builtin; refine Kd.R_append (Kd.int .u32) (w0 := w) w.heap.size rfl (.tmp 12) (.tmp 18) 28 79 (.int .u32 0) 4 rfl Try.underlying28 info_Uint32 rfl (by decide) (by omega) u3 (wordsOf (l0.take i.toNat)) ((rdValue l0 i).word) [.int .u32 ((rdValue l0 i).word)] (fun _ => True) (fun _ => False) rfl (by first | rfl | (show Value.slice (some ⟨wr.heap.size + 1, 0, none⟩) 1 1 = _; simp)) ?aP (fun _ hk => hk.elim) ?aF ?aO ?aB ?aS ?aL ?_; (case aP => exact rfl); (case aB => exact bel); (case aF => exact (fun _ _ => trivial)); (case aO => exact (by (with_reducible repeat (first | apply Kd.R_alloc | apply Kd.R_drewN | apply Kd.R_drew)); exact HO.out)); (case aS => exact (below_size bel)); (case aL => have := HL.out; omega); intro v116 w7 ho hb hg hat; rw [HU.out] at ho; have HB1 := Aside0.mk hb; have HO1 := Aside0.mk ho; clear ho hb hg hat))
      go_roundw
      case rel => exact ⟨i + 1, by omega, by omega, rfl, HO1, HB1⟩
      case measure => simp [intOf]; omega
    · obtain rfl : i = l0.length := by omega
      have HE := Aside0.mk (show Kd.R (Kd.int .u32) 79 wr w.heap.size (fun _ => True) u3 (wordsOf l0) from by have h := HO.out; simpa using h)
      obtain ⟨A, c, ev⟩ := Kd.R_slice HE.out
      subst ev
      go_wp2
      go_ret
      exact ⟨_, _, rfl, S_flat rfl HE.out, bel⟩
theorem l4Words_at (w0 : World) (A0 : Option Addr) (c0 : Nat) (l0 : List MValue) (w : World) (hr : Kd.C kValue_I w0 A0 l0.length l0) (hn : l0.length ≤ 1048576) (hb : Below w0.heap.size w0 w := by exact bel) :
    Calls Try.prog 22 #[.slice A0 l0.length c0] w fun e w' => ∃ A c, e = .returned (.slice A (wordsOf l0).length c) ∧ Kd.S (Kd.int .u32) 79 w' w.heap.size (fun _ => True) (.slice A (wordsOf l0).length c) (wordsOf l0) ∧ Below w.heap.size w w' := l4Words_calls A0 c0 l0 w (Kd.C_below hr hb) hn

set_option maxHeartbeats 4000000 in
set_option maxRecDepth 100000 in
theorem iWords_calls (A0 : Option Addr) (c0 : Nat) (l0 : List MValue) (w : World) (hr : Kd.C kValue_I w A0 l0.length l0) (hn : l0.length ≤ 1048576) :
    Calls Try.prog 26 #[.slice A0 l0.length c0] w fun e w' => ∃ A c, e = .returned (.slice A (wordsOf l0).length c) ∧ Kd.S (Kd.int .u32) 79 w' w.heap.size (fun _ => True) (.slice A (wordsOf l0).length c) (wordsOf l0) ∧ Below w.heap.size w w' := by
  have hu103 := Try.underlying103
  have HR := Aside0.mk hr
  clear hr
  go_enter Try.func26, Try.ntmps26
  go_wp2_with (first | ((with_reducible refine gate_dst (N := 6) rfl ?_); refine Kd.R_lit (Kd.int .u32) _ 79 ?hg (N := 6) ?hd (xs := ([] : List Int)) (inner := []) (ok := fun _ => True) (okp := fun _ => True) ?hr ?hp (fun _ hk => hk) trivial (Below.refl _ _) (Nat.le_refl _) (by simp) ?_; (case hd => rfl); (case hg => rfl); (case hr => first | (go_simp; done) | (go_simp; rfl)); (case hp => exact (Reps.none _ _)); intro vo w2 ho3 hb hg_ hnew_; clear hg_ hnew_; have HO0 := Aside0.mk ho3; have HB0 := Aside0.mk hb; clear hb ho3))
  go_loopw [3, 9] (fun u v wr => ∃ i : Int, 0 ≤ i ∧ i ≤ l0.length ∧ v = .int .i64 i ∧ Aside0 (Kd.R (Kd.int .u32) 79 wr w.heap.size (fun _ => True) u (wordsOf (l0.take i.toNat))) ∧ Aside0 (Below w.heap.size w wr)) (fun _ v _ => ((l0.length : Int) - intOf v).toNat)
  case atStart => exact ⟨0, by omega, by omega, rfl, ⟨by simpa [wordsOf] using HO0.out⟩, HB0⟩
  case round =>
    obtain ⟨i, h0, hi, rfl, HO, HB⟩ := hrel
    clear HO0 HB0
    by_cases hlt : i < l0.length
    · obtain ⟨ad0, e0, x0, x1⟩ := atValue_I HR.out i h0 hlt
      cases e0
      replace x0 := (HB.out.cell (World.block_lt_of_cell? w _ x0)).trans x0
      replace x1 := (HB.out.cell (World.block_lt_of_cell? w _ x1)).trans x1
      have HU := Aside0.mk (words_snoc l0 i h0 hlt)
      have HL : Aside0 ((wordsOf (l0.take i.toNat)).length ≤ 1048576) := ⟨by rw [words_len, List.length_take]; omega⟩
      go_wp2_with (first | ((with_reducible refine gate_builtin (b := .append) (xs := #[.tmp 13, .tmp 16]) rfl ?_); at_builtin; refine Kd.R_append (Kd.int .u32) (w0 := w) w.heap.size rfl (.tmp 13) (.tmp 16) 28 79 (.int .u32 0) 4 rfl Try.underlying28 info_Uint32 rfl (by decide) (by omega) u3 (wordsOf (l0.take i.toNat)) ((rdValue l0 i).word) [.int .u32 ((rdValue l0 i).word)] (fun _ => True) (fun _ => False) rfl (by first | rfl | (show Value.slice (some ⟨wr.heap.size + 1, 0, none⟩) 1 1 = _; simp)) ?aP (fun _ hk => hk.elim) ?aF ?aO ?aB ?aS ?aL ?_; (case aP => exact rfl); (case aB => exact bel); (case aF => exact (fun _ _ => trivial)); (case aO => exact (by (with_reducible repeat (first | apply Kd.R_alloc | apply Kd.R_drewN | apply Kd.R_drew)); exact HO.out)); (case aS => exact (below_size bel)); (case aL => have := HL.out; omega); intro v116 w7 ho hb hg hat; rw [HU.out] at ho; have HB1 := Aside0.mk hb; have HO1 := Aside0.mk ho; clear ho hb hg hat))
      go_roundw
      case rel => exact ⟨i + 1, by omega, by omega, rfl, HO1, HB1⟩
      case measure => simp [intOf]; omega
    · obtain rfl : i = l0.length := by omega
      have HE := Aside0.mk (show Kd.R (Kd.int .u32) 79 wr w.heap.size (fun _ => True) u3 (wordsOf l0) from by have h := HO.out; simpa using h)
      obtain ⟨A, c, ev⟩ := Kd.R_slice HE.out
      subst ev
      go_wp2
      go_ret
      exact ⟨_, _, rfl, S_flat rfl HE.out, bel⟩
theorem iWords_at (w0 : World) (A0 : Option Addr) (c0 : Nat) (l0 : List MValue) (w : World) (hr : Kd.C kValue_I w0 A0 l0.length l0) (hn : l0.length ≤ 1048576) (hb : Below w0.heap.size w0 w := by exact bel) :
    Calls Try.prog 26 #[.slice A0 l0.length c0] w fun e w' => ∃ A c, e = .returned (.slice A (wordsOf l0).length c) ∧ Kd.S (Kd.int .u32) 79 w' w.heap.size (fun _ => True) (.slice A (wordsOf l0).length c) (wordsOf l0) ∧ Below w.heap.size w w' := iWords_calls A0 c0 l0 w (Kd.C_below hr hb) hn

def memOf (x : MState) : MMemory := if x.cells.length = 3 then ⟨wordsOf (rdLL x.cells 0), wordsOf (rdLL x.cells 1), wordsOf (rdLL x.cells 2)⟩ else ⟨[], [], []⟩

set_option maxHeartbeats 8000000 in
set_option maxRecDepth 100000 in
theorem sMem_calls (A4 A5 A6 : Option Addr) (c4 c5 c6 : Nat) (x : MState) (w : World) (h : isState_I w x A4 A5 A6) (hn : szState x ≤ 1048576) :
    Calls Try.prog 6 #[.agg #[.int .i64 x.trap, .bool x.done, .int .i64 x.cost, .int .i64 x.steps, .slice A4 x.cells.length c4, .slice A5 x.stack.length c5, .slice A6 x.frames.length c6]] w fun e w' => ∃ a0 d0 a1 d1 a2 d2, e = .returned (.agg #[.slice a0 (memOf x).inn.length d0, .slice a1 (memOf x).out.length d1, .slice a2 (memOf x).keep.length d2]) ∧ kMemory_I.M w' w.heap.size (fun _ => True) (memOf x) [.slice a0 (memOf x).inn.length d0, .slice a1 (memOf x).out.length d1, .slice a2 (memOf x).keep.length d2] ∧ Below w.heap.size w w' := by
  have hu := Try.underlying36
  have hu2 := Try.underlying30
  by_cases hc : x.cells.length = 3
  · have hM : memOf x = ⟨wordsOf (rdLL x.cells 0), wordsOf (rdLL x.cells 1), wordsOf (rdLL x.cells 2)⟩ := if_pos hc
    rw [hM]
    have t : ((x.cells.length : Int) != 3) = false := by rw [hc]; rfl
    obtain ⟨ad0, B0, b0, e0, z0, y0, q0⟩ := atSS h.1 0 (by omega) (by omega)
    obtain ⟨ad1, B1, b1, e1, z1, y1, q1⟩ := atSS h.1 1 (by omega) (by omega)
    obtain ⟨ad2, B2, b2, e2, z2, y2, q2⟩ := atSS h.1 2 (by omega) (by omega)
    subst e0
    cases e1; cases e2
    have z0 : w.cell? ad0 = some (.slice B0 (rdLL x.cells 0).length b0) := z0
    have z1 : w.cell? ⟨ad0.block, ad0.off + 1, none⟩ = some (.slice B1 (rdLL x.cells 1).length b1) := z1
    have z2 : w.cell? ⟨ad0.block, ad0.off + 2, none⟩ = some (.slice B2 (rdLL x.cells 2).length b2) := z2
    have q0 := Aside0.mk q0; have q1 := Aside0.mk q1; have q2 := Aside0.mk q2
    have hz : ∀ i : Nat, i < 3 → (rdLL x.cells i).length ≤ 1048576 := fun i hi => by
      have h1 := szsum_mem szValueS [] x.cells i (by omega)
      unfold szState at hn
      unfold szValueSS at hn
      have h2 : szValueS (x.cells.getD i []) = (rdLL x.cells i).length := rfl
      omega
    have u0 : Aside0 ((rdLL x.cells 0).length ≤ 1048576) := ⟨hz 0 (by omega)⟩; have u1 : Aside0 ((rdLL x.cells 1).length ≤ 1048576) := ⟨hz 1 (by omega)⟩; have u2 : Aside0 ((rdLL x.cells 2).length ≤ 1048576) := ⟨hz 2 (by omega)⟩
    clear hz h hn hM
    go_enter Try.func6, Try.ntmps6
    have K0 := Aside0.mk (blk_alloc2a w #[.int .i64 x.trap, .bool x.done, .int .i64 x.cost, .int .i64 x.steps, .slice (some ad0) 3 c4, .slice A5 x.stack.length c5, .slice A6 x.frames.length c6] #[.slice none 0 0, .slice none 0 0, .slice none 0 0] 36 30); have K1 := Aside0.mk (blk_alloc2b w #[.int .i64 x.trap, .bool x.done, .int .i64 x.cost, .int .i64 x.steps, .slice (some ad0) 3 c4, .slice A5 x.stack.length c5, .slice A6 x.frames.length c6] #[.slice none 0 0, .slice none 0 0, .slice none 0 0] 36 30)
    have L0 := World.block_lt_of_cell? w _ z0; have L1 := World.block_lt_of_cell? w _ z1; have L2 := World.block_lt_of_cell? w _ z2
    go_upto_region 3 with fail
    obtain ⟨W0, e1⟩ : ∃ v_, v_ = (w.alloc (.cells #[.int .i64 x.trap, .bool x.done, .int .i64 x.cost, .int .i64 x.steps, .slice (some ad0) 3 c4, .slice A5 x.stack.length c5, .slice A6 x.frames.length c6] 36)).alloc (.cells #[.slice none 0 0, .slice none 0 0, .slice none 0 0] 30) := ⟨_, rfl⟩
    have hw0 : Below w.heap.size w W0.drew := by rw [e1]; exact bel
    have hs0 : W0.heap.size = w.heap.size + 2 := by rw [e1]; simp
    rw [← e1] at K0 K1 ⊢
    clear e1
    have qs : W0.drew.cell? ⟨w.heap.size, 4, none⟩ = some (.slice (some ad0) 3 c4) := (blk_cell (blk_drew K0.out) 4).trans rfl
    have r0 := (hw0.cell L0).trans z0; have r1 := (hw0.cell L1).trans z1; have r2 := (hw0.cell L2).trans z2
    have ns : w.heap.size + 1 ≠ w.heap.size := by omega
    have nr : w.heap.size + 1 ≠ ad0.block := by have : ad0.block < w.heap.size := L0; omega
    have hs1 : w.heap.size + 2 ≤ W0.drew.heap.size := by show _ ≤ W0.heap.size; omega
    go_region_held3 (fun w' => w'.cell? ⟨w.heap.size, 4, none⟩ = some (.slice (some ad0) 3 c4) ∧ w'.cell? ad0 = some (.slice B0 (rdLL x.cells 0).length b0) ∧ w'.cell? ⟨ad0.block, ad0.off + 1, none⟩ = some (.slice B1 (rdLL x.cells 1).length b1) ∧ w'.cell? ⟨ad0.block, ad0.off + 2, none⟩ = some (.slice B2 (rdLL x.cells 2).length b2)) (first | (with_reducible exact ⟨qs, r0, r1, r2⟩) | (with_reducible exact ⟨far3 qs ns, far3 r0 nr, far3 r1 nr, far3 r2 nr⟩) | fail) (first | (go_at_call 22; (with_reducible refine (l4Words_at w B0 b0 (rdLL x.cells 0) _ q0.out u0.out).mono ?_); rintro e w2 ⟨a0, d0, rfl, ho, hb⟩; have hw := below_step (w := w) bel hb; have n_ : Aside0 (w2.heap[w.heap.size]? = some (.cells #[.int .i64 x.trap, .bool x.done, .int .i64 x.cost, .int .i64 x.steps, .slice (some ad0) 3 c4, .slice A5 x.stack.length c5, .slice A6 x.frames.length c6] 36 (0, 0))) := ⟨(hb.block _ (blk_lt K0.out)).trans K0.out⟩; clear K0; have K0 := n_; clear n_; have n_ : Aside0 (w2.heap[w.heap.size + 1]? = some (.cells #[.slice none 0 0, .slice none 0 0, .slice none 0 0] 30 (0, 0))) := ⟨(hb.block _ (blk_lt K1.out)).trans K1.out⟩; clear K1; have K1 := n_; clear n_; have qs : w2.cell? ⟨w.heap.size, 4, none⟩ = some (.slice (some ad0) 3 c4) := (blk_cell K0.out 4).trans rfl; have r0 := (hw.cell (World.block_lt_of_cell? w _ z0)).trans z0; have t0 : w2.cell? ⟨w.heap.size + 1, 0, none⟩ = some (.slice none 0 0) := (blk_cell K1.out 0).trans rfl; have f0 : w2.frozen? ⟨w.heap.size + 1, 0, none⟩ = false := blk_frozen K1.out _; have r1 := (hw.cell (World.block_lt_of_cell? w _ z1)).trans z1; have t1 : w2.cell? ⟨w.heap.size + 1, 1, none⟩ = some (.slice none 0 0) := (blk_cell K1.out 1).trans rfl; have f1 : w2.frozen? ⟨w.heap.size + 1, 1, none⟩ = false := blk_frozen K1.out _; have r2 := (hw.cell (World.block_lt_of_cell? w _ z2)).trans z2; have t2 : w2.cell? ⟨w.heap.size + 1, 2, none⟩ = some (.slice none 0 0) := (blk_cell K1.out 2).trans rfl; have f2 : w2.frozen? ⟨w.heap.size + 1, 2, none⟩ = false := blk_frozen K1.out _; obtain ⟨m1, hm1⟩ : ∃ n_, n_ = w2.heap.size := ⟨_, rfl⟩; have hmm1 : w.heap.size + 2 ≤ m1 := (fun hs => hm1 ▸ Nat.le_trans hs hb.size : (w.heap.size + 2 ≤ _) → w.heap.size + 2 ≤ m1) (by first | assumption | omega | (simp; done) | (simp; omega) | (show w.heap.size + 2 ≤ (World.heap (World.alloc (World.alloc w _) _)).size; simp)); have O0 : Aside0 (Kd.S (Kd.int .u32) 79 w2 (w.heap.size + 2) (fun k => w.heap.size + 2 ≤ k ∧ k < m1) (.slice a0 (wordsOf (rdLL x.cells 0)).length d0) (wordsOf (rdLL x.cells 0))) := ⟨by rw [hm1]; exact S_lohi ho (by first | assumption | omega | (simp; done) | (simp; omega) | (show w.heap.size + 2 ≤ (World.heap (World.alloc (World.alloc w _) _)).size; simp)) (by omega)⟩; clear ho) | (go_at_call 22; (with_reducible refine (l4Words_at w B1 b1 (rdLL x.cells 1) _ q1.out u1.out).mono ?_); rintro e w2 ⟨a1, d1, rfl, ho, hb⟩; have hw := below_step (w := w) bel hb; have n_ : Aside0 (w2.heap[w.heap.size]? = some (.cells #[.int .i64 x.trap, .bool x.done, .int .i64 x.cost, .int .i64 x.steps, .slice (some ad0) 3 c4, .slice A5 x.stack.length c5, .slice A6 x.frames.length c6] 36 (0, 0))) := ⟨(hb.block _ (blk_lt K0.out)).trans K0.out⟩; clear K0; have K0 := n_; clear n_; have n_ : Aside0 (w2.heap[w.heap.size + 1]? = some (.cells #[.slice none 0 0, .slice none 0 0, .slice none 0 0] 30 (0, 0))) := ⟨(hb.block _ (blk_lt K1.out)).trans K1.out⟩; clear K1; have K1 := n_; clear n_; have qs : w2.cell? ⟨w.heap.size, 4, none⟩ = some (.slice (some ad0) 3 c4) := (blk_cell K0.out 4).trans rfl; have r0 := (hw.cell (World.block_lt_of_cell? w _ z0)).trans z0; have t0 : w2.cell? ⟨w.heap.size + 1, 0, none⟩ = some (.slice none 0 0) := (blk_cell K1.out 0).trans rfl; have f0 : w2.frozen? ⟨w.heap.size + 1, 0, none⟩ = false := blk_frozen K1.out _; have r1 := (hw.cell (World.block_lt_of_cell? w _ z1)).trans z1; have t1 : w2.cell? ⟨w.heap.size + 1, 1, none⟩ = some (.slice none 0 0) := (blk_cell K1.out 1).trans rfl; have f1 : w2.frozen? ⟨w.heap.size + 1, 1, none⟩ = false := blk_frozen K1.out _; have r2 := (hw.cell (World.block_lt_of_cell? w _ z2)).trans z2; have t2 : w2.cell? ⟨w.heap.size + 1, 2, none⟩ = some (.slice none 0 0) := (blk_cell K1.out 2).trans rfl; have f2 : w2.frozen? ⟨w.heap.size + 1, 2, none⟩ = false := blk_frozen K1.out _; have n_ : Aside0 (Kd.S (Kd.int .u32) 79 w2 (w.heap.size + 2) (fun k => w.heap.size + 2 ≤ k ∧ k < m1) (.slice a0 (wordsOf (rdLL x.cells 0)).length d0) (wordsOf (rdLL x.cells 0))) := ⟨Kd.S_below O0.out hb⟩; clear O0; have O0 := n_; clear n_; obtain ⟨m2, hm2⟩ : ∃ n_, n_ = w2.heap.size := ⟨_, rfl⟩; have hmm2 : m1 ≤ m2 := (fun hs => hm2 ▸ Nat.le_trans hs hb.size : (m1 ≤ _) → m1 ≤ m2) (by first | assumption | omega | (simp; done) | (simp; omega) | (show w.heap.size + 2 ≤ (World.heap (World.alloc (World.alloc w _) _)).size; simp)); have O1 : Aside0 (Kd.S (Kd.int .u32) 79 w2 (w.heap.size + 2) (fun k => m1 ≤ k ∧ k < m2) (.slice a1 (wordsOf (rdLL x.cells 1)).length d1) (wordsOf (rdLL x.cells 1))) := ⟨by rw [hm2]; exact S_lohi ho (by first | assumption | omega | (simp; done) | (simp; omega) | (show w.heap.size + 2 ≤ (World.heap (World.alloc (World.alloc w _) _)).size; simp)) (by omega)⟩; clear ho) | (go_at_call 22; (with_reducible refine (l4Words_at w B2 b2 (rdLL x.cells 2) _ q2.out u2.out).mono ?_); rintro e w2 ⟨a2, d2, rfl, ho, hb⟩; have hw := below_step (w := w) bel hb; have n_ : Aside0 (w2.heap[w.heap.size]? = some (.cells #[.int .i64 x.trap, .bool x.done, .int .i64 x.cost, .int .i64 x.steps, .slice (some ad0) 3 c4, .slice A5 x.stack.length c5, .slice A6 x.frames.length c6] 36 (0, 0))) := ⟨(hb.block _ (blk_lt K0.out)).trans K0.out⟩; clear K0; have K0 := n_; clear n_; have n_ : Aside0 (w2.heap[w.heap.size + 1]? = some (.cells #[.slice none 0 0, .slice none 0 0, .slice none 0 0] 30 (0, 0))) := ⟨(hb.block _ (blk_lt K1.out)).trans K1.out⟩; clear K1; have K1 := n_; clear n_; have qs : w2.cell? ⟨w.heap.size, 4, none⟩ = some (.slice (some ad0) 3 c4) := (blk_cell K0.out 4).trans rfl; have r0 := (hw.cell (World.block_lt_of_cell? w _ z0)).trans z0; have t0 : w2.cell? ⟨w.heap.size + 1, 0, none⟩ = some (.slice none 0 0) := (blk_cell K1.out 0).trans rfl; have f0 : w2.frozen? ⟨w.heap.size + 1, 0, none⟩ = false := blk_frozen K1.out _; have r1 := (hw.cell (World.block_lt_of_cell? w _ z1)).trans z1; have t1 : w2.cell? ⟨w.heap.size + 1, 1, none⟩ = some (.slice none 0 0) := (blk_cell K1.out 1).trans rfl; have f1 : w2.frozen? ⟨w.heap.size + 1, 1, none⟩ = false := blk_frozen K1.out _; have r2 := (hw.cell (World.block_lt_of_cell? w _ z2)).trans z2; have t2 : w2.cell? ⟨w.heap.size + 1, 2, none⟩ = some (.slice none 0 0) := (blk_cell K1.out 2).trans rfl; have f2 : w2.frozen? ⟨w.heap.size + 1, 2, none⟩ = false := blk_frozen K1.out _; have n_ : Aside0 (Kd.S (Kd.int .u32) 79 w2 (w.heap.size + 2) (fun k => w.heap.size + 2 ≤ k ∧ k < m1) (.slice a0 (wordsOf (rdLL x.cells 0)).length d0) (wordsOf (rdLL x.cells 0))) := ⟨Kd.S_below O0.out hb⟩; clear O0; have O0 := n_; clear n_; have n_ : Aside0 (Kd.S (Kd.int .u32) 79 w2 (w.heap.size + 2) (fun k => m1 ≤ k ∧ k < m2) (.slice a1 (wordsOf (rdLL x.cells 1)).length d1) (wordsOf (rdLL x.cells 1))) := ⟨Kd.S_below O1.out hb⟩; clear O1; have O1 := n_; clear n_; obtain ⟨m3, hm3⟩ : ∃ n_, n_ = w2.heap.size := ⟨_, rfl⟩; have hmm3 : m2 ≤ m3 := (fun hs => hm3 ▸ Nat.le_trans hs hb.size : (m2 ≤ _) → m2 ≤ m3) (by first | assumption | omega | (simp; done) | (simp; omega) | (show w.heap.size + 2 ≤ (World.heap (World.alloc (World.alloc w _) _)).size; simp)); have O2 : Aside0 (Kd.S (Kd.int .u32) 79 w2 (w.heap.size + 2) (fun k => m2 ≤ k ∧ k < m3) (.slice a2 (wordsOf (rdLL x.cells 2)).length d2) (wordsOf (rdLL x.cells 2))) := ⟨by rw [hm3]; exact S_lohi ho (by first | assumption | omega | (simp; done) | (simp; omega) | (show w.heap.size + 2 ≤ (World.heap (World.alloc (World.alloc w _) _)).size; simp)) (by omega)⟩; clear ho) | fail)
    all_goals (go_wp2_with fail)
    all_goals (refine bodyPost_ret (results_cell_row rfl _ _ (w.heap.size + 1) 30 #[.slice a0 (wordsOf (rdLL x.cells 0)).length d0, .slice a1 (wordsOf (rdLL x.cells 1)).length d1, .slice a2 (wordsOf (rdLL x.cells 2)).length d2] (0, 0) _ rfl (by refine blk_put (cs := #[.slice a0 (wordsOf (rdLL x.cells 0)).length d0, .slice a1 (wordsOf (rdLL x.cells 1)).length d1, .slice none 0 0]) ?_ 2 _ rfl; refine blk_put (cs := #[.slice a0 (wordsOf (rdLL x.cells 0)).length d0, .slice none 0 0, .slice none 0 0]) ?_ 1 _ rfl; refine blk_put (cs := #[.slice none 0 0, .slice none 0 0, .slice none 0 0]) ?_ 0 _ rfl; exact K1.out) Try.underlying30 rfl (by kernel_rfl)) rfl ⟨_, _, _, _, _, _, rfl, ?_, ?_⟩)
    · exact kMemory_I_mkM _ _ _ _ (fun k => k < m1) (fun k => k < m2) (Kd.S_mono (ok := fun k => w.heap.size + 2 ≤ k ∧ k < m1) (Kd.S_lower (base := w.heap.size + 2) (by repeat (first | (with_reducible exact O0.out) | (with_reducible refine S_farO ?_ (by first | (simp; done) | (simp; omega))))) (by omega)) (fun k hk => by have h1_ := hk.1; have h2_ := hk.2; clear hk; simp only [true_and]; omega)) (Kd.S_mono (ok := fun k => m1 ≤ k ∧ k < m2) (Kd.S_lower (base := w.heap.size + 2) (by repeat (first | (with_reducible exact O1.out) | (with_reducible refine S_farO ?_ (by first | (simp; done) | (simp; omega))))) (by omega)) (fun k hk => by have h1_ := hk.1; have h2_ := hk.2; clear hk; simp only [true_and]; omega)) (Kd.S_mono (ok := fun k => m2 ≤ k ∧ k < m3) (Kd.S_lower (base := w.heap.size + 2) (by repeat (first | (with_reducible exact O2.out) | (with_reducible refine S_farO ?_ (by first | (simp; done) | (simp; omega))))) (by omega)) (fun k hk => by have h1_ := hk.1; have h2_ := hk.2; clear hk; simp only [true_and]; omega))
    · exact bel
  · have hM : memOf x = ⟨[], [], []⟩ := if_neg hc
    rw [hM]
    have t : ((x.cells.length : Int) != 3) = true := by simp; omega
    clear hc h hn hM
    have K1 := Aside0.mk (blk_alloc2b w #[.int .i64 x.trap, .bool x.done, .int .i64 x.cost, .int .i64 x.steps, .slice A4 x.cells.length c4, .slice A5 x.stack.length c5, .slice A6 x.frames.length c6] #[.slice none 0 0, .slice none 0 0, .slice none 0 0] 36 30)
    go_enter Try.func6, Try.ntmps6
    go_wp2
    refine bodyPost_ret (results_cell_row rfl _ _ (w.heap.size + 1) 30 #[.slice none 0 0, .slice none 0 0, .slice none 0 0] (0, 0) _ rfl K1.out Try.underlying30 rfl (by kernel_rfl)) rfl ⟨none, 0, none, 0, none, 0, rfl, ?_, ?_⟩
    · exact kMemory_I_mkM _ _ _ ⟨[], [], []⟩ (fun _ => False) (fun _ => False) (Kd.S_nil _ _ _ _ _) (Kd.S_nil _ _ _ _ _) (Kd.S_nil _ _ _ _ _)
    · exact bel

set_option maxHeartbeats 8000000 in
set_option maxRecDepth 100000 in
theorem iMem_calls (A4 A5 A6 : Option Addr) (c4 c5 c6 : Nat) (x : MState) (w : World) (h : isState_I w x A4 A5 A6) (hn : szState x ≤ 1048576) :
    Calls Try.prog 8 #[.agg #[.int .i64 x.trap, .bool x.done, .int .i64 x.cost, .int .i64 x.steps, .slice A4 x.cells.length c4, .slice A5 x.stack.length c5, .slice A6 x.frames.length c6]] w fun e w' => ∃ a0 d0 a1 d1 a2 d2, e = .returned (.agg #[.slice a0 (memOf x).inn.length d0, .slice a1 (memOf x).out.length d1, .slice a2 (memOf x).keep.length d2]) ∧ kMemory_I.M w' w.heap.size (fun _ => True) (memOf x) [.slice a0 (memOf x).inn.length d0, .slice a1 (memOf x).out.length d1, .slice a2 (memOf x).keep.length d2] ∧ Below w.heap.size w w' := by
  have hu := Try.underlying36
  have hu2 := Try.underlying30
  by_cases hc : x.cells.length = 3
  · have hM : memOf x = ⟨wordsOf (rdLL x.cells 0), wordsOf (rdLL x.cells 1), wordsOf (rdLL x.cells 2)⟩ := if_pos hc
    rw [hM]
    have t : ((x.cells.length : Int) != 3) = false := by rw [hc]; rfl
    obtain ⟨ad0, B0, b0, e0, z0, y0, q0⟩ := atSS h.1 0 (by omega) (by omega)
    obtain ⟨ad1, B1, b1, e1, z1, y1, q1⟩ := atSS h.1 1 (by omega) (by omega)
    obtain ⟨ad2, B2, b2, e2, z2, y2, q2⟩ := atSS h.1 2 (by omega) (by omega)
    subst e0
    cases e1; cases e2
    have z0 : w.cell? ad0 = some (.slice B0 (rdLL x.cells 0).length b0) := z0
    have z1 : w.cell? ⟨ad0.block, ad0.off + 1, none⟩ = some (.slice B1 (rdLL x.cells 1).length b1) := z1
    have z2 : w.cell? ⟨ad0.block, ad0.off + 2, none⟩ = some (.slice B2 (rdLL x.cells 2).length b2) := z2
    have q0 := Aside0.mk q0; have q1 := Aside0.mk q1; have q2 := Aside0.mk q2
    have hz : ∀ i : Nat, i < 3 → (rdLL x.cells i).length ≤ 1048576 := fun i hi => by
      have h1 := szsum_mem szValueS [] x.cells i (by omega)
      unfold szState at hn
      unfold szValueSS at hn
      have h2 : szValueS (x.cells.getD i []) = (rdLL x.cells i).length := rfl
      omega
    have u0 : Aside0 ((rdLL x.cells 0).length ≤ 1048576) := ⟨hz 0 (by omega)⟩; have u1 : Aside0 ((rdLL x.cells 1).length ≤ 1048576) := ⟨hz 1 (by omega)⟩; have u2 : Aside0 ((rdLL x.cells 2).length ≤ 1048576) := ⟨hz 2 (by omega)⟩
    clear hz h hn hM
    go_enter Try.func8, Try.ntmps8
    have K0 := Aside0.mk (blk_alloc2a w #[.int .i64 x.trap, .bool x.done, .int .i64 x.cost, .int .i64 x.steps, .slice (some ad0) 3 c4, .slice A5 x.stack.length c5, .slice A6 x.frames.length c6] #[.slice none 0 0, .slice none 0 0, .slice none 0 0] 36 30); have K1 := Aside0.mk (blk_alloc2b w #[.int .i64 x.trap, .bool x.done, .int .i64 x.cost, .int .i64 x.steps, .slice (some ad0) 3 c4, .slice A5 x.stack.length c5, .slice A6 x.frames.length c6] #[.slice none 0 0, .slice none 0 0, .slice none 0 0] 36 30)
    have L0 := World.block_lt_of_cell? w _ z0; have L1 := World.block_lt_of_cell? w _ z1; have L2 := World.block_lt_of_cell? w _ z2
    go_upto_region 3 with fail
    obtain ⟨W0, e1⟩ : ∃ v_, v_ = (w.alloc (.cells #[.int .i64 x.trap, .bool x.done, .int .i64 x.cost, .int .i64 x.steps, .slice (some ad0) 3 c4, .slice A5 x.stack.length c5, .slice A6 x.frames.length c6] 36)).alloc (.cells #[.slice none 0 0, .slice none 0 0, .slice none 0 0] 30) := ⟨_, rfl⟩
    have hw0 : Below w.heap.size w W0.drew := by rw [e1]; exact bel
    have hs0 : W0.heap.size = w.heap.size + 2 := by rw [e1]; simp
    rw [← e1] at K0 K1 ⊢
    clear e1
    have qs : W0.drew.cell? ⟨w.heap.size, 4, none⟩ = some (.slice (some ad0) 3 c4) := (blk_cell (blk_drew K0.out) 4).trans rfl
    have r0 := (hw0.cell L0).trans z0; have r1 := (hw0.cell L1).trans z1; have r2 := (hw0.cell L2).trans z2
    have ns : w.heap.size + 1 ≠ w.heap.size := by omega
    have nr : w.heap.size + 1 ≠ ad0.block := by have : ad0.block < w.heap.size := L0; omega
    have hs1 : w.heap.size + 2 ≤ W0.drew.heap.size := by show _ ≤ W0.heap.size; omega
    go_region_held3 (fun w' => w'.cell? ⟨w.heap.size, 4, none⟩ = some (.slice (some ad0) 3 c4) ∧ w'.cell? ad0 = some (.slice B0 (rdLL x.cells 0).length b0) ∧ w'.cell? ⟨ad0.block, ad0.off + 1, none⟩ = some (.slice B1 (rdLL x.cells 1).length b1) ∧ w'.cell? ⟨ad0.block, ad0.off + 2, none⟩ = some (.slice B2 (rdLL x.cells 2).length b2)) (first | (with_reducible exact ⟨qs, r0, r1, r2⟩) | (with_reducible exact ⟨far3 qs ns, far3 r0 nr, far3 r1 nr, far3 r2 nr⟩) | fail) (first | (go_at_call 26; (with_reducible refine (iWords_at w B0 b0 (rdLL x.cells 0) _ q0.out u0.out).mono ?_); rintro e w2 ⟨a0, d0, rfl, ho, hb⟩; have hw := below_step (w := w) bel hb; have n_ : Aside0 (w2.heap[w.heap.size]? = some (.cells #[.int .i64 x.trap, .bool x.done, .int .i64 x.cost, .int .i64 x.steps, .slice (some ad0) 3 c4, .slice A5 x.stack.length c5, .slice A6 x.frames.length c6] 36 (0, 0))) := ⟨(hb.block _ (blk_lt K0.out)).trans K0.out⟩; clear K0; have K0 := n_; clear n_; have n_ : Aside0 (w2.heap[w.heap.size + 1]? = some (.cells #[.slice none 0 0, .slice none 0 0, .slice none 0 0] 30 (0, 0))) := ⟨(hb.block _ (blk_lt K1.out)).trans K1.out⟩; clear K1; have K1 := n_; clear n_; have qs : w2.cell? ⟨w.heap.size, 4, none⟩ = some (.slice (some ad0) 3 c4) := (blk_cell K0.out 4).trans rfl; have r0 := (hw.cell (World.block_lt_of_cell? w _ z0)).trans z0; have t0 : w2.cell? ⟨w.heap.size + 1, 0, none⟩ = some (.slice none 0 0) := (blk_cell K1.out 0).trans rfl; have f0 : w2.frozen? ⟨w.heap.size + 1, 0, none⟩ = false := blk_frozen K1.out _; have r1 := (hw.cell (World.block_lt_of_cell? w _ z1)).trans z1; have t1 : w2.cell? ⟨w.heap.size + 1, 1, none⟩ = some (.slice none 0 0) := (blk_cell K1.out 1).trans rfl; have f1 : w2.frozen? ⟨w.heap.size + 1, 1, none⟩ = false := blk_frozen K1.out _; have r2 := (hw.cell (World.block_lt_of_cell? w _ z2)).trans z2; have t2 : w2.cell? ⟨w.heap.size + 1, 2, none⟩ = some (.slice none 0 0) := (blk_cell K1.out 2).trans rfl; have f2 : w2.frozen? ⟨w.heap.size + 1, 2, none⟩ = false := blk_frozen K1.out _; obtain ⟨m1, hm1⟩ : ∃ n_, n_ = w2.heap.size := ⟨_, rfl⟩; have hmm1 : w.heap.size + 2 ≤ m1 := (fun hs => hm1 ▸ Nat.le_trans hs hb.size : (w.heap.size + 2 ≤ _) → w.heap.size + 2 ≤ m1) (by first | assumption | omega | (simp; done) | (simp; omega) | (show w.heap.size + 2 ≤ (World.heap (World.alloc (World.alloc w _) _)).size; simp)); have O0 : Aside0 (Kd.S (Kd.int .u32) 79 w2 (w.heap.size + 2) (fun k => w.heap.size + 2 ≤ k ∧ k < m1) (.slice a0 (wordsOf (rdLL x.cells 0)).length d0) (wordsOf (rdLL x.cells 0))) := ⟨by rw [hm1]; exact S_lohi ho (by first | assumption | omega | (simp; done) | (simp; omega) | (show w.heap.size + 2 ≤ (World.heap (World.alloc (World.alloc w _) _)).size; simp)) (by omega)⟩; clear ho) | (go_at_call 26; (with_reducible refine (iWords_at w B1 b1 (rdLL x.cells 1) _ q1.out u1.out).mono ?_); rintro e w2 ⟨a1, d1, rfl, ho, hb⟩; have hw := below_step (w := w) bel hb; have n_ : Aside0 (w2.heap[w.heap.size]? = some (.cells #[.int .i64 x.trap, .bool x.done, .int .i64 x.cost, .int .i64 x.steps, .slice (some ad0) 3 c4, .slice A5 x.stack.length c5, .slice A6 x.frames.length c6] 36 (0, 0))) := ⟨(hb.block _ (blk_lt K0.out)).trans K0.out⟩; clear K0; have K0 := n_; clear n_; have n_ : Aside0 (w2.heap[w.heap.size + 1]? = some (.cells #[.slice none 0 0, .slice none 0 0, .slice none 0 0] 30 (0, 0))) := ⟨(hb.block _ (blk_lt K1.out)).trans K1.out⟩; clear K1; have K1 := n_; clear n_; have qs : w2.cell? ⟨w.heap.size, 4, none⟩ = some (.slice (some ad0) 3 c4) := (blk_cell K0.out 4).trans rfl; have r0 := (hw.cell (World.block_lt_of_cell? w _ z0)).trans z0; have t0 : w2.cell? ⟨w.heap.size + 1, 0, none⟩ = some (.slice none 0 0) := (blk_cell K1.out 0).trans rfl; have f0 : w2.frozen? ⟨w.heap.size + 1, 0, none⟩ = false := blk_frozen K1.out _; have r1 := (hw.cell (World.block_lt_of_cell? w _ z1)).trans z1; have t1 : w2.cell? ⟨w.heap.size + 1, 1, none⟩ = some (.slice none 0 0) := (blk_cell K1.out 1).trans rfl; have f1 : w2.frozen? ⟨w.heap.size + 1, 1, none⟩ = false := blk_frozen K1.out _; have r2 := (hw.cell (World.block_lt_of_cell? w _ z2)).trans z2; have t2 : w2.cell? ⟨w.heap.size + 1, 2, none⟩ = some (.slice none 0 0) := (blk_cell K1.out 2).trans rfl; have f2 : w2.frozen? ⟨w.heap.size + 1, 2, none⟩ = false := blk_frozen K1.out _; have n_ : Aside0 (Kd.S (Kd.int .u32) 79 w2 (w.heap.size + 2) (fun k => w.heap.size + 2 ≤ k ∧ k < m1) (.slice a0 (wordsOf (rdLL x.cells 0)).length d0) (wordsOf (rdLL x.cells 0))) := ⟨Kd.S_below O0.out hb⟩; clear O0; have O0 := n_; clear n_; obtain ⟨m2, hm2⟩ : ∃ n_, n_ = w2.heap.size := ⟨_, rfl⟩; have hmm2 : m1 ≤ m2 := (fun hs => hm2 ▸ Nat.le_trans hs hb.size : (m1 ≤ _) → m1 ≤ m2) (by first | assumption | omega | (simp; done) | (simp; omega) | (show w.heap.size + 2 ≤ (World.heap (World.alloc (World.alloc w _) _)).size; simp)); have O1 : Aside0 (Kd.S (Kd.int .u32) 79 w2 (w.heap.size + 2) (fun k => m1 ≤ k ∧ k < m2) (.slice a1 (wordsOf (rdLL x.cells 1)).length d1) (wordsOf (rdLL x.cells 1))) := ⟨by rw [hm2]; exact S_lohi ho (by first | assumption | omega | (simp; done) | (simp; omega) | (show w.heap.size + 2 ≤ (World.heap (World.alloc (World.alloc w _) _)).size; simp)) (by omega)⟩; clear ho) | (go_at_call 26; (with_reducible refine (iWords_at w B2 b2 (rdLL x.cells 2) _ q2.out u2.out).mono ?_); rintro e w2 ⟨a2, d2, rfl, ho, hb⟩; have hw := below_step (w := w) bel hb; have n_ : Aside0 (w2.heap[w.heap.size]? = some (.cells #[.int .i64 x.trap, .bool x.done, .int .i64 x.cost, .int .i64 x.steps, .slice (some ad0) 3 c4, .slice A5 x.stack.length c5, .slice A6 x.frames.length c6] 36 (0, 0))) := ⟨(hb.block _ (blk_lt K0.out)).trans K0.out⟩; clear K0; have K0 := n_; clear n_; have n_ : Aside0 (w2.heap[w.heap.size + 1]? = some (.cells #[.slice none 0 0, .slice none 0 0, .slice none 0 0] 30 (0, 0))) := ⟨(hb.block _ (blk_lt K1.out)).trans K1.out⟩; clear K1; have K1 := n_; clear n_; have qs : w2.cell? ⟨w.heap.size, 4, none⟩ = some (.slice (some ad0) 3 c4) := (blk_cell K0.out 4).trans rfl; have r0 := (hw.cell (World.block_lt_of_cell? w _ z0)).trans z0; have t0 : w2.cell? ⟨w.heap.size + 1, 0, none⟩ = some (.slice none 0 0) := (blk_cell K1.out 0).trans rfl; have f0 : w2.frozen? ⟨w.heap.size + 1, 0, none⟩ = false := blk_frozen K1.out _; have r1 := (hw.cell (World.block_lt_of_cell? w _ z1)).trans z1; have t1 : w2.cell? ⟨w.heap.size + 1, 1, none⟩ = some (.slice none 0 0) := (blk_cell K1.out 1).trans rfl; have f1 : w2.frozen? ⟨w.heap.size + 1, 1, none⟩ = false := blk_frozen K1.out _; have r2 := (hw.cell (World.block_lt_of_cell? w _ z2)).trans z2; have t2 : w2.cell? ⟨w.heap.size + 1, 2, none⟩ = some (.slice none 0 0) := (blk_cell K1.out 2).trans rfl; have f2 : w2.frozen? ⟨w.heap.size + 1, 2, none⟩ = false := blk_frozen K1.out _; have n_ : Aside0 (Kd.S (Kd.int .u32) 79 w2 (w.heap.size + 2) (fun k => w.heap.size + 2 ≤ k ∧ k < m1) (.slice a0 (wordsOf (rdLL x.cells 0)).length d0) (wordsOf (rdLL x.cells 0))) := ⟨Kd.S_below O0.out hb⟩; clear O0; have O0 := n_; clear n_; have n_ : Aside0 (Kd.S (Kd.int .u32) 79 w2 (w.heap.size + 2) (fun k => m1 ≤ k ∧ k < m2) (.slice a1 (wordsOf (rdLL x.cells 1)).length d1) (wordsOf (rdLL x.cells 1))) := ⟨Kd.S_below O1.out hb⟩; clear O1; have O1 := n_; clear n_; obtain ⟨m3, hm3⟩ : ∃ n_, n_ = w2.heap.size := ⟨_, rfl⟩; have hmm3 : m2 ≤ m3 := (fun hs => hm3 ▸ Nat.le_trans hs hb.size : (m2 ≤ _) → m2 ≤ m3) (by first | assumption | omega | (simp; done) | (simp; omega) | (show w.heap.size + 2 ≤ (World.heap (World.alloc (World.alloc w _) _)).size; simp)); have O2 : Aside0 (Kd.S (Kd.int .u32) 79 w2 (w.heap.size + 2) (fun k => m2 ≤ k ∧ k < m3) (.slice a2 (wordsOf (rdLL x.cells 2)).length d2) (wordsOf (rdLL x.cells 2))) := ⟨by rw [hm3]; exact S_lohi ho (by first | assumption | omega | (simp; done) | (simp; omega) | (show w.heap.size + 2 ≤ (World.heap (World.alloc (World.alloc w _) _)).size; simp)) (by omega)⟩; clear ho) | fail)
    all_goals (go_wp2_with fail)
    all_goals (refine bodyPost_ret (results_cell_row rfl _ _ (w.heap.size + 1) 30 #[.slice a0 (wordsOf (rdLL x.cells 0)).length d0, .slice a1 (wordsOf (rdLL x.cells 1)).length d1, .slice a2 (wordsOf (rdLL x.cells 2)).length d2] (0, 0) _ rfl (by refine blk_put (cs := #[.slice a0 (wordsOf (rdLL x.cells 0)).length d0, .slice a1 (wordsOf (rdLL x.cells 1)).length d1, .slice none 0 0]) ?_ 2 _ rfl; refine blk_put (cs := #[.slice a0 (wordsOf (rdLL x.cells 0)).length d0, .slice none 0 0, .slice none 0 0]) ?_ 1 _ rfl; refine blk_put (cs := #[.slice none 0 0, .slice none 0 0, .slice none 0 0]) ?_ 0 _ rfl; exact K1.out) Try.underlying30 rfl (by kernel_rfl)) rfl ⟨_, _, _, _, _, _, rfl, ?_, ?_⟩)
    · exact kMemory_I_mkM _ _ _ _ (fun k => k < m1) (fun k => k < m2) (Kd.S_mono (ok := fun k => w.heap.size + 2 ≤ k ∧ k < m1) (Kd.S_lower (base := w.heap.size + 2) (by repeat (first | (with_reducible exact O0.out) | (with_reducible refine S_farO ?_ (by first | (simp; done) | (simp; omega))))) (by omega)) (fun k hk => by have h1_ := hk.1; have h2_ := hk.2; clear hk; simp only [true_and]; omega)) (Kd.S_mono (ok := fun k => m1 ≤ k ∧ k < m2) (Kd.S_lower (base := w.heap.size + 2) (by repeat (first | (with_reducible exact O1.out) | (with_reducible refine S_farO ?_ (by first | (simp; done) | (simp; omega))))) (by omega)) (fun k hk => by have h1_ := hk.1; have h2_ := hk.2; clear hk; simp only [true_and]; omega)) (Kd.S_mono (ok := fun k => m2 ≤ k ∧ k < m3) (Kd.S_lower (base := w.heap.size + 2) (by repeat (first | (with_reducible exact O2.out) | (with_reducible refine S_farO ?_ (by first | (simp; done) | (simp; omega))))) (by omega)) (fun k hk => by have h1_ := hk.1; have h2_ := hk.2; clear hk; simp only [true_and]; omega))
    · exact bel
  · have hM : memOf x = ⟨[], [], []⟩ := if_neg hc
    rw [hM]
    have t : ((x.cells.length : Int) != 3) = true := by simp; omega
    clear hc h hn hM
    have K1 := Aside0.mk (blk_alloc2b w #[.int .i64 x.trap, .bool x.done, .int .i64 x.cost, .int .i64 x.steps, .slice A4 x.cells.length c4, .slice A5 x.stack.length c5, .slice A6 x.frames.length c6] #[.slice none 0 0, .slice none 0 0, .slice none 0 0] 36 30)
    go_enter Try.func8, Try.ntmps8
    go_wp2
    refine bodyPost_ret (results_cell_row rfl _ _ (w.heap.size + 1) 30 #[.slice none 0 0, .slice none 0 0, .slice none 0 0] (0, 0) _ rfl K1.out Try.underlying30 rfl (by kernel_rfl)) rfl ⟨none, 0, none, 0, none, 0, rfl, ?_, ?_⟩
    · exact kMemory_I_mkM _ _ _ ⟨[], [], []⟩ (fun _ => False) (fun _ => False) (Kd.S_nil _ _ _ _ _) (Kd.S_nil _ _ _ _ _) (Kd.S_nil _ _ _ _ _)
    · exact bel

theorem sMem_is (w0 : World) (A4 A5 A6 : Option Addr) (c4 c5 c6 : Nat) (x : MState) (w : World) (h : isState_I w0 x A4 A5 A6) (hn : szState x ≤ 1048576) (hb : Below w0.heap.size w0 w := by exact bel) :
    Calls Try.prog 6 #[.agg #[.int .i64 x.trap, .bool x.done, .int .i64 x.cost, .int .i64 x.steps, .slice A4 x.cells.length c4, .slice A5 x.stack.length c5, .slice A6 x.frames.length c6]] w fun e w' => ∃ a0 d0 a1 d1 a2 d2, e = .returned (.agg #[.slice a0 (memOf x).inn.length d0, .slice a1 (memOf x).out.length d1, .slice a2 (memOf x).keep.length d2]) ∧ kMemory_I.M w' w.heap.size (fun _ => True) (memOf x) [.slice a0 (memOf x).inn.length d0, .slice a1 (memOf x).out.length d1, .slice a2 (memOf x).keep.length d2] ∧ Below w.heap.size w w' := sMem_calls A4 A5 A6 c4 c5 c6 x w (isState_I_below h hb) hn

theorem iMem_is (w0 : World) (A4 A5 A6 : Option Addr) (c4 c5 c6 : Nat) (x : MState) (w : World) (h : isState_I w0 x A4 A5 A6) (hn : szState x ≤ 1048576) (hb : Below w0.heap.size w0 w := by exact bel) :
    Calls Try.prog 8 #[.agg #[.int .i64 x.trap, .bool x.done, .int .i64 x.cost, .int .i64 x.steps, .slice A4 x.cells.length c4, .slice A5 x.stack.length c5, .slice A6 x.frames.length c6]] w fun e w' => ∃ a0 d0 a1 d1 a2 d2, e = .returned (.agg #[.slice a0 (memOf x).inn.length d0, .slice a1 (memOf x).out.length d1, .slice a2 (memOf x).keep.length d2]) ∧ kMemory_I.M w' w.heap.size (fun _ => True) (memOf x) [.slice a0 (memOf x).inn.length d0, .slice a1 (memOf x).out.length d1, .slice a2 (memOf x).keep.length d2] ∧ Below w.heap.size w w' := iMem_calls A4 A5 A6 c4 c5 c6 x w (isState_I_below h hb) hn

theorem szsum_scale {α : Type} (f g : α → Nat) (c d : Nat) (hh : ∀ a, f a ≤ c * g a + d) : ∀ l : List α, szsum f l ≤ c * szsum g l + d * l.length
  | [] => by simp [szsum]
  | a :: l => by
    have h1 := szsum_scale f g c d hh l
    have h2 := hh a
    simp only [szsum, List.map_cons, List.sum_cons, List.length_cons] at h1 ⊢
    rw [Nat.mul_add, Nat.mul_add]
    omega
theorem ctState_le (x : MState) : ctState x ≤ 5 * szState x := by
  have h1 : szsum ctValue x.stack ≤ 0 * szsum (fun _ => 0) x.stack + 2 * x.stack.length := szsum_scale _ _ 0 2 (fun a => by simp [ctValue]) _
  have h2 : szsum (szsum ctValue) x.cells ≤ 2 * szsum szValueS x.cells + 0 * x.cells.length := szsum_scale _ _ 2 0 (fun a => by
    have := szsum_scale ctValue (fun _ => 0) 0 2 (fun a => by simp [ctValue]) a
    unfold szValueS; omega) _
  have h3 : szsum ctFrame x.frames ≤ 2 * szsum szFrame x.frames + 3 * x.frames.length := szsum_scale _ _ 2 3 (fun a => by
    have := szsum_scale ctValue (fun _ => 0) 0 2 (fun a => by simp [ctValue]) a.locals
    unfold ctFrame szFrame szValueS; omega) _
  unfold ctState szState szValueSS szFrameS
  unfold szValueS at h2 ⊢
  omega
theorem ctMem_le (x : MState) (hn : szState x ≤ 1048576) : ctMemory (memOf x) ≤ 3145728 := by
  unfold memOf
  by_cases hc : x.cells.length = 3
  · rw [if_pos hc]
    have hz : ∀ i : Nat, i < 3 → (rdLL x.cells i).length ≤ 1048576 := fun i hi => by
      have h1 := szsum_mem szValueS [] x.cells i (by omega)
      unfold szState at hn
      unfold szValueSS at hn
      have h2 : szValueS (x.cells.getD i []) = (rdLL x.cells i).length := rfl
      omega
    have g0 : (rdLL x.cells 0).length ≤ 1048576 := hz 0 (by omega)
    have g1 : (rdLL x.cells 1).length ≤ 1048576 := hz 1 (by omega)
    have g2 : (rdLL x.cells 2).length ≤ 1048576 := hz 2 (by omega)
    unfold ctMemory
    simp only [cnt_one, words_len]
    omega
  · rw [if_neg hc]
    simp [ctMemory, szsum]
end Go.Proofs.Ytlnlbncinjiinab.X
