/- Of this session: contracts over the words of the kit's print. -/
import Derived.Test.YtlnlbncinjiinabProg
import Derived.Below
import Derived.Deep.Draws
import Derived.Deep.AppendLies
import Derived.Maps.AppendAt
import Derived.OwnWalk
import Derived.Laws.BytesArg
import Derived.Laws.MakeOwn
import Derived.Laws.OwnMore
import Derived.Deep.OwnRows
import Derived.Tactics
import Derived.Lib.ConvBytes
import Derived.Laws.Slices
import Derived.WalkKit
import Derived.KernelRfl
import Derived.RowKit3
import Derived.Deep.LoopGhost
import Derived.Deep.QuietTactic
import Derived.BigQuiet
import Derived.WideLaws
import Derived.Deep.DeepCutAuto
import Derived.Deep.CutBlock
import Derived.Deep.RegionHeld3
import Derived.Laws.Rows
import Derived.Lib.AppendStr
import Derived.ArgAppend
import Derived.Laws.IdiomCopy
import Derived.OrdersHeld
import Derived.Laws.BitsLemmas
import Derived.RowKit
import Derived.StillTailTactics
import Derived.Test.YtlnlbncinjiinabWWords
import Derived.Test.YtlnlbncinjiinabWLast
import Derived.Test.YtlnlbncinjiinabWTab
import Derived.Test.YtlnlbncinjiinabWFour
import Derived.Test.YtlnlbncinjiinabWQPut
import Derived.Test.YtlnlbncinjiinabWApart
import Derived.Test.YtlnlbncinjiinabWArr
import Derived.Test.YtlnlbncinjiinabWZeros
import Derived.Test.YtlnlbncinjiinabWFoot
import Derived.Test.YtlnlbncinjiinabWKept
import Derived.Test.YtlnlbncinjiinabWShare
import Derived.Test.YtlnlbncinjiinabWN
import Derived.Test.YtlnlbncinjiinabWFootNe
import Derived.Test.YtlnlbncinjiinabWAt
import Derived.Test.YtlnlbncinjiinabWEqStruct
import Derived.Test.YtlnlbncinjiinabWRepsOne
import Derived.Test.YtlnlbncinjiinabWInv
import Derived.Test.YtlnlbncinjiinabWInvWords
import Derived.Test.YtlnlbncinjiinabWGuard
import Derived.Test.YtlnlbncinjiinabWNEv
import Derived.Test.YtlnlbncinjiinabWMore
import Derived.ChangeArms
import Derived.Test.YtlnlbncinjiinabX0
import Derived.Test.YtlnlbncinjiinabXEq
import Derived.Test.YtlnlbncinjiinabXSz
import Derived.Test.YtlnlbncinjiinabXTo
import Derived.Test.YtlnlbncinjiinabXProg
namespace Go.Proofs.Ytlnlbncinjiinab.X
open Go.RowKit Go.Proofs.YtlnlbncinjiinabW.PrintWords Go.Proofs.YtlnlbncinjiinabW.PrintLast Go.Proofs.YtlnlbncinjiinabW.PrintMore
set_option linter.unusedVariables false
set_option linter.unusedSimpArgs false
def isProgram_L (w : World) (x : MProgram) (A0 A1 A2 A3 : Option Addr) : Prop := Kd.C (Kd.slice 2 (Kd.int .i64)) w A0 x.regions.length x.regions ∧ Kd.C kConst_L w A1 x.consts.length x.consts ∧ Kd.C kFunc_L w A2 x.funcs.length x.funcs ∧ Kd.C kCert_L w A3 x.certs.length x.certs

theorem isProgram_L_below {w w1 : World} {x : MProgram} {A0 A1 A2 A3 : Option Addr} (h : isProgram_L w x A0 A1 A2 A3) (hb : Below w.heap.size w w1) : isProgram_L w1 x A0 A1 A2 A3 := by
  obtain ⟨h0, h1, h2, h3⟩ := h
  exact ⟨Kd.C_below h0 hb, Kd.C_below h1 hb, Kd.C_below h2 hb, Kd.C_below h3 hb⟩

theorem isProgram_L_of {w : World} {x : MProgram} {cs : List Value} (h : kProgram_L.K w x cs) : ∃ A0 A1 A2 A3 c0 c1 c2 c3, cs = [.slice A0 x.regions.length c0, .slice A1 x.consts.length c1, .slice A2 x.funcs.length c2, .slice A3 x.certs.length c3] ∧ isProgram_L w x A0 A1 A2 A3 := by
  obtain ⟨A0, c0, A1, c1, A2, c2, A3, c3, rfl, _, g0, _, g1, _, g2, _, g3⟩ := kProgram_L_open h
  exact ⟨A0, A1, A2, A3, c0, c1, c2, c3, rfl, g0, g1, g2, g3⟩

def isProgram_I (w : World) (x : MProgram) (A0 A1 A2 A3 : Option Addr) : Prop := Kd.C (Kd.slice 2 (Kd.int .i64)) w A0 x.regions.length x.regions ∧ Kd.C kConst_I w A1 x.consts.length x.consts ∧ Kd.C kFunc_I w A2 x.funcs.length x.funcs ∧ Kd.C kCert_I w A3 x.certs.length x.certs

theorem isProgram_I_below {w w1 : World} {x : MProgram} {A0 A1 A2 A3 : Option Addr} (h : isProgram_I w x A0 A1 A2 A3) (hb : Below w.heap.size w w1) : isProgram_I w1 x A0 A1 A2 A3 := by
  obtain ⟨h0, h1, h2, h3⟩ := h
  exact ⟨Kd.C_below h0 hb, Kd.C_below h1 hb, Kd.C_below h2 hb, Kd.C_below h3 hb⟩

theorem isProgram_I_of {w : World} {x : MProgram} {cs : List Value} (h : kProgram_I.K w x cs) : ∃ A0 A1 A2 A3 c0 c1 c2 c3, cs = [.slice A0 x.regions.length c0, .slice A1 x.consts.length c1, .slice A2 x.funcs.length c2, .slice A3 x.certs.length c3] ∧ isProgram_I w x A0 A1 A2 A3 := by
  obtain ⟨A0, c0, A1, c1, A2, c2, A3, c3, rfl, _, g0, _, g1, _, g2, _, g3⟩ := kProgram_I_open h
  exact ⟨A0, A1, A2, A3, c0, c1, c2, c3, rfl, g0, g1, g2, g3⟩

theorem szProgram_is (w0 : World) (A0 A1 A2 A3 : Option Addr) (c0 : Nat) (c1 : Nat) (c2 : Nat) (c3 : Nat) (x : MProgram) (left : Int) (w : World) (h : isProgram_L w0 x A0 A1 A2 A3) (l0 : 0 ≤ left) (l1 : left ≤ 1048576) (hb : Below w0.heap.size w0 w := by exact bel) :
    Calls Try.prog 14 #[.agg #[.slice A0 x.regions.length c0, .slice A1 x.consts.length c1, .slice A2 x.funcs.length c2, .slice A3 x.certs.length c3], .int .i64 left] w fun e w' => e = .returned (.int .i64 (szv left (szProgram x))) ∧ Below w.heap.size w w' := szProgram_at w0 A0 c0 A1 c1 A2 c2 A3 c3 x left w h.1 h.2.1 h.2.2.1 h.2.2.2 l0 l1 hb
theorem toProgram_is (w0 : World) (A0 A1 A2 A3 : Option Addr) (c0 : Nat) (c1 : Nat) (c2 : Nat) (c3 : Nat) (x : MProgram) (w : World) (h : isProgram_L w0 x A0 A1 A2 A3) (hn : szProgram x ≤ 1048576) (hb : Below w0.heap.size w0 w := by exact bel) :
    Calls Try.prog 16 #[.agg #[.slice A0 x.regions.length c0, .slice A1 x.consts.length c1, .slice A2 x.funcs.length c2, .slice A3 x.certs.length c3]] w fun e w' => ∃ a0 b0 a1 b1 a2 b2 a3 b3, e = .returned (.agg #[.slice a0 x.regions.length b0, .slice a1 x.consts.length b1, .slice a2 x.funcs.length b2, .slice a3 x.certs.length b3]) ∧ isProgram_I w' x a0 a1 a2 a3 ∧ Below w.heap.size w w' :=
  (toProgram_at w0 A0 c0 A1 c1 A2 c2 A3 c3 x w h.1 h.2.1 h.2.2.1 h.2.2.2 hn hb).mono fun e w' ⟨a0, b0, a1, b1, a2, b2, a3, b3, he, r0, r1, r2, r3, hb⟩ => ⟨a0, b0, a1, b1, a2, b2, a3, b3, he, ⟨(Kd.R_reads' r0).2.2, (Kd.R_reads' r1).2.2, (Kd.R_reads' r2).2.2, (Kd.R_reads' r3).2.2⟩, hb⟩
theorem eqProgram_is (w0 w1 : World) (A0 A1 A2 A3 B0 B1 B2 B3 : Option Addr) (c0 : Nat) (c1 : Nat) (c2 : Nat) (c3 : Nat) (d0 : Nat) (d1 : Nat) (d2 : Nat) (d3 : Nat) (x y : MProgram) (w : World) (h : isProgram_I w0 x A0 A1 A2 A3) (g : isProgram_I w1 y B0 B1 B2 B3) (hb : Below w0.heap.size w0 w := by exact bel) (hb1 : Below w1.heap.size w1 w := by exact bel) :
    Calls Try.prog 18 #[.agg #[.slice A0 x.regions.length c0, .slice A1 x.consts.length c1, .slice A2 x.funcs.length c2, .slice A3 x.certs.length c3], .agg #[.slice B0 y.regions.length d0, .slice B1 y.consts.length d1, .slice B2 y.funcs.length d2, .slice B3 y.certs.length d3]] w fun e w' => e = .returned (.bool (eqT x y)) ∧ Below w.heap.size w w' := by
  have h := isProgram_I_below h hb
  have g := isProgram_I_below g hb1
  exact eqProgram_calls A0 B0 c0 d0 A1 B1 c1 d1 A2 B2 c2 d2 A3 B3 c3 d3 x y w h.1 h.2.1 h.2.2.1 h.2.2.2 g.1 g.2.1 g.2.2.1 g.2.2.2

theorem specSame_is (w0 w1 : World) (A0 A1 A2 A3 B0 B1 B2 B3 : Option Addr) (c0 : Nat) (c1 : Nat) (c2 : Nat) (c3 : Nat) (d0 : Nat) (d1 : Nat) (d2 : Nat) (d3 : Nat) (x y : MProgram) (w : World) (h : isProgram_I w0 x A0 A1 A2 A3) (g : isProgram_I w1 y B0 B1 B2 B3) (hb : Below w0.heap.size w0 w := by exact bel) (hb1 : Below w1.heap.size w1 w := by exact bel) :
    Calls Try.prog 15 #[.agg #[.slice A0 x.regions.length c0, .slice A1 x.consts.length c1, .slice A2 x.funcs.length c2, .slice A3 x.certs.length c3], .agg #[.slice B0 y.regions.length d0, .slice B1 y.consts.length d1, .slice B2 y.funcs.length d2, .slice B3 y.certs.length d3]] w fun e w' => e = .returned (.bool (eqT x y)) ∧ Below w.heap.size w w' := by
  have h := isProgram_I_below h hb
  have g := isProgram_I_below g hb1
  exact specSame_calls A0 B0 c0 d0 A1 B1 c1 d1 A2 B2 c2 d2 A3 B3 c3 d3 x y w h.1 g.1 h.2.1 g.2.1 h.2.2.1 g.2.2.1 h.2.2.2 g.2.2.2

theorem implSame_is (w0 w1 : World) (A0 A1 A2 A3 B0 B1 B2 B3 : Option Addr) (c0 : Nat) (c1 : Nat) (c2 : Nat) (c3 : Nat) (d0 : Nat) (d1 : Nat) (d2 : Nat) (d3 : Nat) (x y : MProgram) (w : World) (h : isProgram_I w0 x A0 A1 A2 A3) (g : isProgram_I w1 y B0 B1 B2 B3) (hb : Below w0.heap.size w0 w := by exact bel) (hb1 : Below w1.heap.size w1 w := by exact bel) :
    Calls Try.prog 17 #[.agg #[.slice A0 x.regions.length c0, .slice A1 x.consts.length c1, .slice A2 x.funcs.length c2, .slice A3 x.certs.length c3], .agg #[.slice B0 y.regions.length d0, .slice B1 y.consts.length d1, .slice B2 y.funcs.length d2, .slice B3 y.certs.length d3]] w fun e w' => e = .returned (.bool (eqT x y)) ∧ Below w.heap.size w w' := by
  have h := isProgram_I_below h hb
  have g := isProgram_I_below g hb1
  exact implSame_calls A0 B0 c0 d0 A1 B1 c1 d1 A2 B2 c2 d2 A3 B3 c3 d3 x y w h.1 g.1 h.2.1 g.2.1 h.2.2.1 g.2.2.1 h.2.2.2 g.2.2.2

end Go.Proofs.Ytlnlbncinjiinab.X
