/- Of this session: contracts over the words of the kit's print. -/
import Derived.Test.YtlnlbncinjiinabProg
import Derived.Below
import Derived.Deep.Draws
import Derived.Deep.AppendLies
import Derived.Maps.AppendAt
import Derived.OwnWalk
import Derived.Laws.BytesArg
import Derived.Laws.MakeOwn
import Derived.Laws.OwnMore
import Derived.Deep.OwnRows
import Derived.Tactics
import Derived.Lib.ConvBytes
import Derived.Laws.Slices
import Derived.WalkKit
import Derived.KernelRfl
import Derived.RowKit3
import Derived.Deep.LoopGhost
import Derived.Deep.QuietTactic
import Derived.BigQuiet
import Derived.WideLaws
import Derived.Deep.DeepCutAuto
import Derived.Deep.CutBlock
import Derived.Deep.RegionHeld3
import Derived.Laws.Rows
import Derived.Lib.AppendStr
import Derived.ArgAppend
import Derived.Laws.IdiomCopy
import Derived.OrdersHeld
import Derived.Laws.BitsLemmas
import Derived.RowKit
import Derived.StillTailTactics
import Derived.Test.YtlnlbncinjiinabWWords
import Derived.Test.YtlnlbncinjiinabWLast
import Derived.Test.YtlnlbncinjiinabWTab
import Derived.Test.YtlnlbncinjiinabWFour
import Derived.Test.YtlnlbncinjiinabWQPut
import Derived.Test.YtlnlbncinjiinabWApart
import Derived.Test.YtlnlbncinjiinabWArr
import Derived.Test.YtlnlbncinjiinabWZeros
import Derived.Test.YtlnlbncinjiinabWFoot
import Derived.Test.YtlnlbncinjiinabWKept
import Derived.Test.YtlnlbncinjiinabWShare
import Derived.Test.YtlnlbncinjiinabWN
import Derived.Test.YtlnlbncinjiinabWFootNe
import Derived.Test.YtlnlbncinjiinabWAt
import Derived.Test.YtlnlbncinjiinabWEqStruct
import Derived.Test.YtlnlbncinjiinabWRepsOne
import Derived.Test.YtlnlbncinjiinabWInv
import Derived.Test.YtlnlbncinjiinabWInvWords
import Derived.Test.YtlnlbncinjiinabWGuard
import Derived.Test.YtlnlbncinjiinabWNEv
import Derived.Test.YtlnlbncinjiinabWMore
import Derived.ChangeArms
import Derived.Test.YtlnlbncinjiinabX0
import Derived.Test.YtlnlbncinjiinabXEq
import Derived.Test.YtlnlbncinjiinabXSz
import Derived.Test.YtlnlbncinjiinabXTo
import Derived.Test.YtlnlbncinjiinabXMark
namespace Go.Proofs.Ytlnlbncinjiinab.X
open Go.RowKit Go.Proofs.YtlnlbncinjiinabW.PrintWords Go.Proofs.YtlnlbncinjiinabW.PrintLast Go.Proofs.YtlnlbncinjiinabW.PrintMore
set_option linter.unusedVariables false
set_option linter.unusedSimpArgs false
def isState_L (w : World) (x : MState) (A4 A5 A6 : Option Addr) : Prop := Kd.C (Kd.slice 105 kValue_L) w A4 x.cells.length x.cells ∧ Kd.C kValue_L w A5 x.stack.length x.stack ∧ Kd.C kFrame_L w A6 x.frames.length x.frames

theorem isState_L_below {w w1 : World} {x : MState} {A4 A5 A6 : Option Addr} (h : isState_L w x A4 A5 A6) (hb : Below w.heap.size w w1) : isState_L w1 x A4 A5 A6 := by
  obtain ⟨h4, h5, h6⟩ := h
  exact ⟨Kd.C_below h4 hb, Kd.C_below h5 hb, Kd.C_below h6 hb⟩

theorem isState_L_of {w : World} {x : MState} {cs : List Value} (h : kState_L.K w x cs) : ∃ A4 A5 A6 c4 c5 c6, cs = [.int .i64 x.trap, .bool x.done, .int .i64 x.cost, .int .i64 x.steps, .slice A4 x.cells.length c4, .slice A5 x.stack.length c5, .slice A6 x.frames.length c6] ∧ isState_L w x A4 A5 A6 := by
  obtain ⟨A4, c4, A5, c5, A6, c6, rfl, _, g4, _, g5, _, g6⟩ := kState_L_open h
  exact ⟨A4, A5, A6, c4, c5, c6, rfl, g4, g5, g6⟩

def isState_I (w : World) (x : MState) (A4 A5 A6 : Option Addr) : Prop := Kd.C (aslice 103 kValue_I) w A4 x.cells.length x.cells ∧ Kd.C kValue_I w A5 x.stack.length x.stack ∧ Kd.C kFrame_I w A6 x.frames.length x.frames

theorem isState_I_below {w w1 : World} {x : MState} {A4 A5 A6 : Option Addr} (h : isState_I w x A4 A5 A6) (hb : Below w.heap.size w w1) : isState_I w1 x A4 A5 A6 := by
  obtain ⟨h4, h5, h6⟩ := h
  exact ⟨Kd.C_below h4 hb, Kd.C_below h5 hb, Kd.C_below h6 hb⟩

theorem isState_I_of {w : World} {x : MState} {cs : List Value} (h : kState_I.K w x cs) : ∃ A4 A5 A6 c4 c5 c6, cs = [.int .i64 x.trap, .bool x.done, .int .i64 x.cost, .int .i64 x.steps, .slice A4 x.cells.length c4, .slice A5 x.stack.length c5, .slice A6 x.frames.length c6] ∧ isState_I w x A4 A5 A6 := by
  obtain ⟨A4, c4, A5, c5, A6, c6, rfl, _, g4, _, g5, _, g6⟩ := kState_I_open h
  exact ⟨A4, A5, A6, c4, c5, c6, rfl, g4, g5, g6⟩

theorem isState_I_K {w : World} {x : MState} {A4 A5 A6 : Option Addr} {c4 c5 c6 : Nat} (h : kState_I.K w x [.int .i64 x.trap, .bool x.done, .int .i64 x.cost, .int .i64 x.steps, .slice A4 x.cells.length c4, .slice A5 x.stack.length c5, .slice A6 x.frames.length c6]) : isState_I w x A4 A5 A6 := by
  obtain ⟨B4, B5, B6, d4, d5, d6, e, hs⟩ := isState_I_of h
  simp only [List.cons.injEq, Value.slice.injEq, and_true, true_and] at e
  obtain ⟨⟨rfl, rfl⟩, ⟨rfl, rfl⟩, ⟨rfl, rfl⟩⟩ := e
  exact hs

theorem szState_is (w0 : World) (A4 A5 A6 : Option Addr) (c4 : Nat) (c5 : Nat) (c6 : Nat) (x : MState) (left : Int) (w : World) (h : isState_L w0 x A4 A5 A6) (l0 : 0 ≤ left) (l1 : left ≤ 1048576) (hb : Below w0.heap.size w0 w := by exact bel) :
    Calls Try.prog 5 #[.agg #[.int .i64 x.trap, .bool x.done, .int .i64 x.cost, .int .i64 x.steps, .slice A4 x.cells.length c4, .slice A5 x.stack.length c5, .slice A6 x.frames.length c6], .int .i64 left] w fun e w' => e = .returned (.int .i64 (szv left (szState x))) ∧ Below w.heap.size w w' := szState_at w0 A4 c4 A5 c5 A6 c6 x left w h.1 h.2.1 h.2.2 l0 l1 hb
theorem toState_is (w0 : World) (A4 A5 A6 : Option Addr) (c4 : Nat) (c5 : Nat) (c6 : Nat) (x : MState) (w : World) (h : isState_L w0 x A4 A5 A6) (hn : szState x ≤ 1048576) (hb : Below w0.heap.size w0 w := by exact bel) :
    Calls Try.prog 7 #[.agg #[.int .i64 x.trap, .bool x.done, .int .i64 x.cost, .int .i64 x.steps, .slice A4 x.cells.length c4, .slice A5 x.stack.length c5, .slice A6 x.frames.length c6]] w fun e w' => ∃ a4 b4 a5 b5 a6 b6, e = .returned (.agg #[.int .i64 x.trap, .bool x.done, .int .i64 x.cost, .int .i64 x.steps, .slice a4 x.cells.length b4, .slice a5 x.stack.length b5, .slice a6 x.frames.length b6]) ∧ kState_I.M w' w.heap.size (fun _ => True) x [.int .i64 x.trap, .bool x.done, .int .i64 x.cost, .int .i64 x.steps, .slice a4 x.cells.length b4, .slice a5 x.stack.length b5, .slice a6 x.frames.length b6] ∧ isState_I w' x a4 a5 a6 ∧ Below w.heap.size w w' :=
  (toState_at w0 A4 c4 A5 c5 A6 c6 x w h.1 h.2.1 h.2.2 hn hb).mono fun e w' ⟨a4, b4, a5, b5, a6, b6, he, hM, hb⟩ => ⟨a4, b4, a5, b5, a6, b6, he, hM, isState_I_K (kState_I.K_of_M hM), hb⟩

theorem eqState_is (w0 w1 : World) (A4 A5 A6 B4 B5 B6 : Option Addr) (c4 : Nat) (c5 : Nat) (c6 : Nat) (d4 : Nat) (d5 : Nat) (d6 : Nat) (x y : MState) (w : World) (h : isState_I w0 x A4 A5 A6) (g : isState_I w1 y B4 B5 B6) (hb : Below w0.heap.size w0 w := by exact bel) (hb1 : Below w1.heap.size w1 w := by exact bel) :
    Calls Try.prog 10 #[.agg #[.int .i64 x.trap, .bool x.done, .int .i64 x.cost, .int .i64 x.steps, .slice A4 x.cells.length c4, .slice A5 x.stack.length c5, .slice A6 x.frames.length c6], .agg #[.int .i64 y.trap, .bool y.done, .int .i64 y.cost, .int .i64 y.steps, .slice B4 y.cells.length d4, .slice B5 y.stack.length d5, .slice B6 y.frames.length d6]] w fun e w' => e = .returned (.bool (eqT x y)) ∧ Below w.heap.size w w' := by
  have h := isState_I_below h hb
  have g := isState_I_below g hb1
  exact eqState_calls A4 B4 c4 d4 A5 B5 c5 d5 A6 B6 c6 d6 x y w h.1 h.2.1 h.2.2 g.1 g.2.1 g.2.2

def isMemory_I (w : World) (x : MMemory) (A0 A1 A2 : Option Addr) : Prop := Kd.C (Kd.int .u32) w A0 x.inn.length x.inn ∧ Kd.C (Kd.int .u32) w A1 x.out.length x.out ∧ Kd.C (Kd.int .u32) w A2 x.keep.length x.keep

theorem isMemory_I_below {w w1 : World} {x : MMemory} {A0 A1 A2 : Option Addr} (h : isMemory_I w x A0 A1 A2) (hb : Below w.heap.size w w1) : isMemory_I w1 x A0 A1 A2 := by
  obtain ⟨h0, h1, h2⟩ := h
  exact ⟨Kd.C_below h0 hb, Kd.C_below h1 hb, Kd.C_below h2 hb⟩

theorem isMemory_I_of {w : World} {x : MMemory} {cs : List Value} (h : kMemory_I.K w x cs) : ∃ A0 A1 A2 c0 c1 c2, cs = [.slice A0 x.inn.length c0, .slice A1 x.out.length c1, .slice A2 x.keep.length c2] ∧ isMemory_I w x A0 A1 A2 := by
  obtain ⟨A0, c0, A1, c1, A2, c2, rfl, _, g0, _, g1, _, g2⟩ := kMemory_I_open h
  exact ⟨A0, A1, A2, c0, c1, c2, rfl, g0, g1, g2⟩

theorem isMemory_I_K {w : World} {x : MMemory} {A0 A1 A2 : Option Addr} {c0 c1 c2 : Nat} (h : kMemory_I.K w x [.slice A0 x.inn.length c0, .slice A1 x.out.length c1, .slice A2 x.keep.length c2]) : isMemory_I w x A0 A1 A2 := by
  obtain ⟨B0, B1, B2, d0, d1, d2, e, hs⟩ := isMemory_I_of h
  simp only [List.cons.injEq, Value.slice.injEq, and_true, true_and] at e
  obtain ⟨⟨rfl, rfl⟩, ⟨rfl, rfl⟩, ⟨rfl, rfl⟩⟩ := e
  exact hs

theorem eqMemory_is (w0 w1 : World) (A0 A1 A2 B0 B1 B2 : Option Addr) (c0 : Nat) (c1 : Nat) (c2 : Nat) (d0 : Nat) (d1 : Nat) (d2 : Nat) (x y : MMemory) (w : World) (h : isMemory_I w0 x A0 A1 A2) (g : isMemory_I w1 y B0 B1 B2) (hb : Below w0.heap.size w0 w := by exact bel) (hb1 : Below w1.heap.size w1 w := by exact bel) :
    Calls Try.prog 9 #[.agg #[.slice A0 x.inn.length c0, .slice A1 x.out.length c1, .slice A2 x.keep.length c2], .agg #[.slice B0 y.inn.length d0, .slice B1 y.out.length d1, .slice B2 y.keep.length d2]] w fun e w' => e = .returned (.bool (eqT x y)) ∧ Below w.heap.size w w' := by
  have h := isMemory_I_below h hb
  have g := isMemory_I_below g hb1
  exact eqMemory_calls A0 B0 c0 d0 A1 B1 c1 d1 A2 B2 c2 d2 x y w h.1 h.2.1 h.2.2 g.1 g.2.1 g.2.2

end Go.Proofs.Ytlnlbncinjiinab.X
