/- Of this session: contracts over the words of the kit's print. -/
import Derived.Test.YtlnlbncinjiinabProg
import Derived.Below
import Derived.Deep.Draws
import Derived.Deep.AppendLies
import Derived.Maps.AppendAt
import Derived.OwnWalk
import Derived.Laws.BytesArg
import Derived.Laws.MakeOwn
import Derived.Laws.OwnMore
import Derived.Deep.OwnRows
import Derived.Tactics
import Derived.Lib.ConvBytes
import Derived.Laws.Slices
import Derived.WalkKit
import Derived.KernelRfl
import Derived.RowKit3
import Derived.Deep.LoopGhost
import Derived.Deep.QuietTactic
import Derived.BigQuiet
import Derived.WideLaws
import Derived.Deep.DeepCutAuto
import Derived.Deep.CutBlock
import Derived.Deep.RegionHeld3
import Derived.Laws.Rows
import Derived.Lib.AppendStr
import Derived.ArgAppend
import Derived.Laws.IdiomCopy
import Derived.OrdersHeld
import Derived.Laws.BitsLemmas
import Derived.RowKit
import Derived.StillTailTactics
import Derived.Test.YtlnlbncinjiinabWWords
import Derived.Test.YtlnlbncinjiinabWLast
import Derived.Test.YtlnlbncinjiinabWTab
import Derived.Test.YtlnlbncinjiinabWFour
import Derived.Test.YtlnlbncinjiinabWQPut
import Derived.Test.YtlnlbncinjiinabWApart
import Derived.Test.YtlnlbncinjiinabWArr
import Derived.Test.YtlnlbncinjiinabWZeros
import Derived.Test.YtlnlbncinjiinabWFoot
import Derived.Test.YtlnlbncinjiinabWKept
import Derived.Test.YtlnlbncinjiinabWShare
import Derived.Test.YtlnlbncinjiinabWN
import Derived.Test.YtlnlbncinjiinabWFootNe
import Derived.Test.YtlnlbncinjiinabWAt
import Derived.Test.YtlnlbncinjiinabWEqStruct
import Derived.Test.YtlnlbncinjiinabWRepsOne
import Derived.Test.YtlnlbncinjiinabWInv
import Derived.Test.YtlnlbncinjiinabWInvWords
import Derived.Test.YtlnlbncinjiinabWGuard
import Derived.Test.YtlnlbncinjiinabWNEv
import Derived.Test.YtlnlbncinjiinabWMore
import Derived.ChangeArms
import Derived.Test.YtlnlbncinjiinabX0
namespace Go.Proofs.Ytlnlbncinjiinab.X
open Go.RowKit Go.Proofs.YtlnlbncinjiinabW.PrintWords Go.Proofs.YtlnlbncinjiinabW.PrintLast Go.Proofs.YtlnlbncinjiinabW.PrintMore
set_option linter.unusedVariables false
set_option linter.unusedSimpArgs false
def rdLL {α : Type} (xs : List (List α)) (i : Int) : List α := xs.getD i.toNat []
theorem atLL {α : Type} {d : Kd α} {e : Nat} {w : World} {A : Option Addr} {n : Nat} {xs : List (List α)} (h : Kd.C (Kd.slice e d) w A n xs) (i : Int) (h0 : 0 ≤ i) (h1 : i < n) : ∃ ad A0 c0, A = some ad ∧ w.cell? (ad.add i.toNat) = some (.slice A0 (rdLL xs i).length c0) ∧ (rdLL xs i).length ≤ c0 ∧ Kd.C d w A0 (rdLL xs i).length (rdLL xs i) := by
  obtain ⟨ad, c, e, _, hK, hc0⟩ := Kd.C_get h ([] : List α) i h0 h1
  have hc : ∀ j u, c[j]? = some u → w.cell? (ad.add (i.toNat * 1 + j)) = some u := hc0
  obtain ⟨A0, c0, rfl, l0, g0⟩ := hK
  exact ⟨ad, A0, c0, e, by have hq := hc 0 _ rfl; rwa [Nat.mul_one, Nat.add_zero] at hq, l0, g0⟩

set_option maxHeartbeats 1000000 in
set_option maxRecDepth 100000 in
theorem eqInt64S_calls (A0 : Option Addr) (c0 : Nat) (l0 : List Int) (A1 : Option Addr) (c1 : Nat) (l1 : List Int) (w : World) (hr0 : Kd.C (Kd.int .i64) w A0 l0.length l0) (hr1 : Kd.C (Kd.int .i64) w A1 l1.length l1) :
    Calls Try.prog 65 #[.slice A0 l0.length c0, .slice A1 l1.length c1] w fun e w' => e = .returned (.bool (eqT l0 l1)) ∧ Below w.heap.size w w' := by
  have hm : l0.length ≤ 9223372036854775807 := hr0.2.1
  have HR0 := Aside0.mk hr0; have HR1 := Aside0.mk hr1
  clear hr0 hr1
  by_cases hl : l0.length = l1.length
  · have b0 : ((l0.length : Int) != (l1.length : Int)) = false := by simp [hl]
    have HL := Aside0.mk hl
    clear hl
    go_enter Try.func65, Try.ntmps65
    go_wp2
    go_loopw [5] (fun v wr => ∃ i : Int, 0 ≤ i ∧ i ≤ l0.length ∧ v = .int .i64 i ∧ Aside0 (∀ j : Nat, (j : Int) < i → l0.getD j 0 = l1.getD j 0) ∧ Aside0 (Below w.heap.size w wr)) (fun v _ => ((l0.length : Int) - intOf v).toNat)
    case atStart => exact ⟨0, by omega, by omega, rfl, ⟨fun j h => by omega⟩, ⟨Below.refl _ _⟩⟩
    case round =>
      obtain ⟨i, h0, hi, rfl, HP, HB⟩ := hrel
      by_cases hlt : i < l0.length
      · have hlt1 : i < l1.length := by have := HL.out; omega
        obtain ⟨ad0, e0, x0⟩ := Kd.at_int (Kd.C_below HR0.out HB.out) i h0 hlt
        cases e0
        obtain ⟨ad1, e1, x1⟩ := Kd.at_int (Kd.C_below HR1.out HB.out) i h0 hlt1
        cases e1

        by_cases h : rd l0 i = rd l1 i
        · have t0 : (rd l0 i != rd l1 i) = false := by simp [h]
          have HE := Aside0.mk h
          clear h
          go_wp2
          repeat (go_quiet (fail); try go_wp2)
          go_roundw
          case rel => exact ⟨i + 1, by omega, by omega, rfl, ⟨fun j hj => by
            by_cases h1 : (j : Int) < i
            · exact HP.out j h1
            · obtain rfl : i = (j : Int) := by omega
              exact HE.out⟩, ⟨bel⟩⟩
          case measure => simp [intOf]; omega
        · have t0 : (rd l0 i != rd l1 i) = true := by simp [h]
          have HE : Aside0 (eqT l0 l1 = false) := ⟨eqT_false (fun e => h (by rw [e]))⟩
          clear h
          go_wp2
          repeat (go_quiet (fail); try go_wp2)
          go_ret
          exact ⟨by rw [HE.out]; rfl, bel⟩

      · have HE : Aside0 (eqT l0 l1 = true) := ⟨eqT_true (ext_getD 0 HL.out (fun j hj => HP.out j (by omega)))⟩
        go_wp2
        go_ret
        exact ⟨by rw [HE.out]; rfl, bel⟩
  · have b0 : ((l0.length : Int) != (l1.length : Int)) = true := by simp; omega
    have HE : Aside0 (eqT l0 l1 = false) := ⟨eqT_false (fun e => hl (by rw [e]))⟩
    go_enter Try.func65, Try.ntmps65
    go_wp2
    go_ret
    exact ⟨by rw [HE.out]; rfl, bel⟩

theorem eqInt64S_at (w0 : World) (A0 : Option Addr) (c0 : Nat) (l0 : List Int) (A1 : Option Addr) (c1 : Nat) (l1 : List Int) (w : World) (hr0 : Kd.C (Kd.int .i64) w0 A0 l0.length l0) (hr1 : Kd.C (Kd.int .i64) w0 A1 l1.length l1) (hb : Below w0.heap.size w0 w := by exact bel) :
    Calls Try.prog 65 #[.slice A0 l0.length c0, .slice A1 l1.length c1] w fun e w' => e = .returned (.bool (eqT l0 l1)) ∧ Below w.heap.size w w' := eqInt64S_calls A0 c0 l0 A1 c1 l1 w (Kd.C_below hr0 hb) (Kd.C_below hr1 hb)

set_option maxHeartbeats 1000000 in
set_option maxRecDepth 100000 in
theorem eqInt64SS_calls (A0 : Option Addr) (c0 : Nat) (l0 : List (List Int)) (A1 : Option Addr) (c1 : Nat) (l1 : List (List Int)) (w : World) (hr0 : Kd.C (Kd.slice 2 (Kd.int .i64)) w A0 l0.length l0) (hr1 : Kd.C (Kd.slice 2 (Kd.int .i64)) w A1 l1.length l1) :
    Calls Try.prog 50 #[.slice A0 l0.length c0, .slice A1 l1.length c1] w fun e w' => e = .returned (.bool (eqT l0 l1)) ∧ Below w.heap.size w w' := by
  have hm : l0.length ≤ 9223372036854775807 := hr0.2.1
  have HR0 := Aside0.mk hr0; have HR1 := Aside0.mk hr1
  clear hr0 hr1
  by_cases hl : l0.length = l1.length
  · have b0 : ((l0.length : Int) != (l1.length : Int)) = false := by simp [hl]
    have HL := Aside0.mk hl
    clear hl
    go_enter Try.func50, Try.ntmps50
    go_wp2
    go_loopw [5] (fun v wr => ∃ i : Int, 0 ≤ i ∧ i ≤ l0.length ∧ v = .int .i64 i ∧ Aside0 (∀ j : Nat, (j : Int) < i → l0.getD j [] = l1.getD j []) ∧ Aside0 (Below w.heap.size w wr)) (fun v _ => ((l0.length : Int) - intOf v).toNat)
    case atStart => exact ⟨0, by omega, by omega, rfl, ⟨fun j h => by omega⟩, ⟨Below.refl _ _⟩⟩
    case round =>
      obtain ⟨i, h0, hi, rfl, HP, HB⟩ := hrel
      by_cases hlt : i < l0.length
      · have hlt1 : i < l1.length := by have := HL.out; omega
        obtain ⟨ad0, B0, b0, e0, x0, y0, z0⟩ := atLL (Kd.C_below HR0.out HB.out) i h0 hlt
        cases e0
        obtain ⟨ad1, B1, b1, e1, x1, y1, z1⟩ := atLL (Kd.C_below HR1.out HB.out) i h0 hlt1
        cases e1

        by_cases h : rdLL l0 i = rdLL l1 i
        · have t0 : eqT (rdLL l0 i) (rdLL l1 i) = true := eqT_true h
          have HE := Aside0.mk h
          clear h
          go_wp2
          go_still_tail 8, (by kernel_rfl)
          go_wp2_with (go_at_call 65; (with_reducible refine (eqInt64S_at wr _ _ (rdLL l0 i) _ _ (rdLL l1 i) _ z0 z1).mono ?_); rintro e w1 ⟨rfl, hb⟩; have HB1 := Aside0.mk (below_step (w := w) bel hb); clear hb)
          go_roundw
          case rel => exact ⟨i + 1, by omega, by omega, rfl, ⟨fun j hj => by
            by_cases h1 : (j : Int) < i
            · exact HP.out j h1
            · obtain rfl : i = (j : Int) := by omega
              exact HE.out⟩, ⟨bel⟩⟩
          case measure => simp [intOf]; omega
        · have t0 : eqT (rdLL l0 i) (rdLL l1 i) = false := eqT_false h
          have HE : Aside0 (eqT l0 l1 = false) := ⟨eqT_false (fun e => h (by rw [e]))⟩
          clear h
          go_wp2
          go_still_tail 8, (by kernel_rfl)
          go_wp2_with (go_at_call 65; (with_reducible refine (eqInt64S_at wr _ _ (rdLL l0 i) _ _ (rdLL l1 i) _ z0 z1).mono ?_); rintro e w1 ⟨rfl, hb⟩; have HB1 := Aside0.mk (below_step (w := w) bel hb); clear hb)
          go_ret
          exact ⟨by rw [HE.out]; rfl, bel⟩

      · have HE : Aside0 (eqT l0 l1 = true) := ⟨eqT_true (ext_getD [] HL.out (fun j hj => HP.out j (by omega)))⟩
        go_wp2
        go_ret
        exact ⟨by rw [HE.out]; rfl, bel⟩
  · have b0 : ((l0.length : Int) != (l1.length : Int)) = true := by simp; omega
    have HE : Aside0 (eqT l0 l1 = false) := ⟨eqT_false (fun e => hl (by rw [e]))⟩
    go_enter Try.func50, Try.ntmps50
    go_wp2
    go_ret
    exact ⟨by rw [HE.out]; rfl, bel⟩

theorem eqInt64SS_at (w0 : World) (A0 : Option Addr) (c0 : Nat) (l0 : List (List Int)) (A1 : Option Addr) (c1 : Nat) (l1 : List (List Int)) (w : World) (hr0 : Kd.C (Kd.slice 2 (Kd.int .i64)) w0 A0 l0.length l0) (hr1 : Kd.C (Kd.slice 2 (Kd.int .i64)) w0 A1 l1.length l1) (hb : Below w0.heap.size w0 w := by exact bel) :
    Calls Try.prog 50 #[.slice A0 l0.length c0, .slice A1 l1.length c1] w fun e w' => e = .returned (.bool (eqT l0 l1)) ∧ Below w.heap.size w w' := eqInt64SS_calls A0 c0 l0 A1 c1 l1 w (Kd.C_below hr0 hb) (Kd.C_below hr1 hb)

set_option maxHeartbeats 1000000 in
set_option maxRecDepth 100000 in
theorem eqConst_calls (x y : MConst) (w : World) :
    Calls Try.prog 66 #[.agg #[.int .i64 x.ty, .int .u32 x.word], .agg #[.int .i64 y.ty, .int .u32 y.word]] w fun e w' => e = .returned (.bool (eqT x y)) ∧ Below w.heap.size w w' := by
  have HB := Aside0.mk (Below.refl w.heap.size w)
  go_enter Try.func66, Try.ntmps66
  go_wp2
  all_goals first
    | (rename_i hL; go_ret; exact ⟨by rw [eqT_false (a := x) (b := y) (fun e => by subst e; simp [eqT_self] at hL)]; rfl, bel⟩)
    | (go_ret; exact ⟨by rw [eqT_true (a := x) (b := y) (MConst_ext (by first | assumption | simpa using ‹(x.ty != y.ty) = false›) (by first | assumption | simpa using ‹(x.word != y.word) = false›))]; rfl, bel⟩)

theorem eqConst_at (w0 : World) (x y : MConst) (w : World) (hb : Below w0.heap.size w0 w := by exact bel) :
    Calls Try.prog 66 #[.agg #[.int .i64 x.ty, .int .u32 x.word], .agg #[.int .i64 y.ty, .int .u32 y.word]] w fun e w' => e = .returned (.bool (eqT x y)) ∧ Below w.heap.size w w' := eqConst_calls x y w

set_option maxHeartbeats 1000000 in
set_option maxRecDepth 100000 in
theorem eqConstS_calls (A0 : Option Addr) (c0 : Nat) (l0 : List MConst) (A1 : Option Addr) (c1 : Nat) (l1 : List MConst) (w : World) (hr0 : Kd.C kConst_I w A0 l0.length l0) (hr1 : Kd.C kConst_I w A1 l1.length l1) :
    Calls Try.prog 51 #[.slice A0 l0.length c0, .slice A1 l1.length c1] w fun e w' => e = .returned (.bool (eqT l0 l1)) ∧ Below w.heap.size w w' := by
  have hm : l0.length ≤ 9223372036854775807 := hr0.2.1
  have HR0 := Aside0.mk hr0; have HR1 := Aside0.mk hr1
  clear hr0 hr1
  by_cases hl : l0.length = l1.length
  · have b0 : ((l0.length : Int) != (l1.length : Int)) = false := by simp [hl]
    have HL := Aside0.mk hl
    clear hl
    go_enter Try.func51, Try.ntmps51
    go_wp2
    go_loopw [5] (fun v wr => ∃ i : Int, 0 ≤ i ∧ i ≤ l0.length ∧ v = .int .i64 i ∧ Aside0 (∀ j : Nat, (j : Int) < i → l0.getD j zConst = l1.getD j zConst) ∧ Aside0 (Below w.heap.size w wr)) (fun v _ => ((l0.length : Int) - intOf v).toNat)
    case atStart => exact ⟨0, by omega, by omega, rfl, ⟨fun j h => by omega⟩, ⟨Below.refl _ _⟩⟩
    case round =>
      obtain ⟨i, h0, hi, rfl, HP, HB⟩ := hrel
      by_cases hlt : i < l0.length
      · have hlt1 : i < l1.length := by have := HL.out; omega
        obtain ⟨ad0, e0, x00, x01⟩ := atConst_I (Kd.C_below HR0.out HB.out) i h0 hlt
        cases e0
        obtain ⟨ad1, e1, x10, x11⟩ := atConst_I (Kd.C_below HR1.out HB.out) i h0 hlt1
        cases e1

        by_cases h : rdConst l0 i = rdConst l1 i
        · have t0 : eqT (rdConst l0 i) (rdConst l1 i) = true := eqT_true h
          have HE := Aside0.mk h
          clear h
          go_wp2
          go_still_tail 8, (by kernel_rfl)
          go_wp2_with (go_at_call 66; (with_reducible refine (eqConst_at wr  (rdConst l0 i) (rdConst l1 i) _ ).mono ?_); rintro e w1 ⟨rfl, hb⟩; have HB1 := Aside0.mk (below_step (w := w) bel hb); clear hb)
          go_roundw
          case rel => exact ⟨i + 1, by omega, by omega, rfl, ⟨fun j hj => by
            by_cases h1 : (j : Int) < i
            · exact HP.out j h1
            · obtain rfl : i = (j : Int) := by omega
              exact HE.out⟩, ⟨bel⟩⟩
          case measure => simp [intOf]; omega
        · have t0 : eqT (rdConst l0 i) (rdConst l1 i) = false := eqT_false h
          have HE : Aside0 (eqT l0 l1 = false) := ⟨eqT_false (fun e => h (by rw [e]))⟩
          clear h
          go_wp2
          go_still_tail 8, (by kernel_rfl)
          go_wp2_with (go_at_call 66; (with_reducible refine (eqConst_at wr  (rdConst l0 i) (rdConst l1 i) _ ).mono ?_); rintro e w1 ⟨rfl, hb⟩; have HB1 := Aside0.mk (below_step (w := w) bel hb); clear hb)
          go_ret
          exact ⟨by rw [HE.out]; rfl, bel⟩

      · have HE : Aside0 (eqT l0 l1 = true) := ⟨eqT_true (ext_getD zConst HL.out (fun j hj => HP.out j (by omega)))⟩
        go_wp2
        go_ret
        exact ⟨by rw [HE.out]; rfl, bel⟩
  · have b0 : ((l0.length : Int) != (l1.length : Int)) = true := by simp; omega
    have HE : Aside0 (eqT l0 l1 = false) := ⟨eqT_false (fun e => hl (by rw [e]))⟩
    go_enter Try.func51, Try.ntmps51
    go_wp2
    go_ret
    exact ⟨by rw [HE.out]; rfl, bel⟩

theorem eqConstS_at (w0 : World) (A0 : Option Addr) (c0 : Nat) (l0 : List MConst) (A1 : Option Addr) (c1 : Nat) (l1 : List MConst) (w : World) (hr0 : Kd.C kConst_I w0 A0 l0.length l0) (hr1 : Kd.C kConst_I w0 A1 l1.length l1) (hb : Below w0.heap.size w0 w := by exact bel) :
    Calls Try.prog 51 #[.slice A0 l0.length c0, .slice A1 l1.length c1] w fun e w' => e = .returned (.bool (eqT l0 l1)) ∧ Below w.heap.size w w' := eqConstS_calls A0 c0 l0 A1 c1 l1 w (Kd.C_below hr0 hb) (Kd.C_below hr1 hb)

set_option maxHeartbeats 1000000 in
set_option maxRecDepth 100000 in
theorem eqInstr_calls (x y : MInstr) (w : World) :
    Calls Try.prog 73 #[.agg #[.int .i64 x.op, .int .i64 x.a, .int .i64 x.b, .int .i64 x.c], .agg #[.int .i64 y.op, .int .i64 y.a, .int .i64 y.b, .int .i64 y.c]] w fun e w' => e = .returned (.bool (eqT x y)) ∧ Below w.heap.size w w' := by
  have HB := Aside0.mk (Below.refl w.heap.size w)
  go_enter Try.func73, Try.ntmps73
  go_wp2
  all_goals first
    | (rename_i hL; go_ret; exact ⟨by rw [eqT_false (a := x) (b := y) (fun e => by subst e; simp [eqT_self] at hL)]; rfl, bel⟩)
    | (go_ret; exact ⟨by rw [eqT_true (a := x) (b := y) (MInstr_ext (by first | assumption | simpa using ‹(x.op != y.op) = false›) (by first | assumption | simpa using ‹(x.a != y.a) = false›) (by first | assumption | simpa using ‹(x.b != y.b) = false›) (by first | assumption | simpa using ‹(x.c != y.c) = false›))]; rfl, bel⟩)

theorem eqInstr_at (w0 : World) (x y : MInstr) (w : World) (hb : Below w0.heap.size w0 w := by exact bel) :
    Calls Try.prog 73 #[.agg #[.int .i64 x.op, .int .i64 x.a, .int .i64 x.b, .int .i64 x.c], .agg #[.int .i64 y.op, .int .i64 y.a, .int .i64 y.b, .int .i64 y.c]] w fun e w' => e = .returned (.bool (eqT x y)) ∧ Below w.heap.size w w' := eqInstr_calls x y w

set_option maxHeartbeats 1000000 in
set_option maxRecDepth 100000 in
theorem eqInstrS_calls (A0 : Option Addr) (c0 : Nat) (l0 : List MInstr) (A1 : Option Addr) (c1 : Nat) (l1 : List MInstr) (w : World) (hr0 : Kd.C kInstr_I w A0 l0.length l0) (hr1 : Kd.C kInstr_I w A1 l1.length l1) :
    Calls Try.prog 71 #[.slice A0 l0.length c0, .slice A1 l1.length c1] w fun e w' => e = .returned (.bool (eqT l0 l1)) ∧ Below w.heap.size w w' := by
  have hm : l0.length ≤ 9223372036854775807 := hr0.2.1
  have HR0 := Aside0.mk hr0; have HR1 := Aside0.mk hr1
  clear hr0 hr1
  by_cases hl : l0.length = l1.length
  · have b0 : ((l0.length : Int) != (l1.length : Int)) = false := by simp [hl]
    have HL := Aside0.mk hl
    clear hl
    go_enter Try.func71, Try.ntmps71
    go_wp2
    go_loopw [5] (fun v wr => ∃ i : Int, 0 ≤ i ∧ i ≤ l0.length ∧ v = .int .i64 i ∧ Aside0 (∀ j : Nat, (j : Int) < i → l0.getD j zInstr = l1.getD j zInstr) ∧ Aside0 (Below w.heap.size w wr)) (fun v _ => ((l0.length : Int) - intOf v).toNat)
    case atStart => exact ⟨0, by omega, by omega, rfl, ⟨fun j h => by omega⟩, ⟨Below.refl _ _⟩⟩
    case round =>
      obtain ⟨i, h0, hi, rfl, HP, HB⟩ := hrel
      by_cases hlt : i < l0.length
      · have hlt1 : i < l1.length := by have := HL.out; omega
        obtain ⟨ad0, e0, x00, x01, x02, x03⟩ := atInstr_I (Kd.C_below HR0.out HB.out) i h0 hlt
        cases e0
        obtain ⟨ad1, e1, x10, x11, x12, x13⟩ := atInstr_I (Kd.C_below HR1.out HB.out) i h0 hlt1
        cases e1

        by_cases h : rdInstr l0 i = rdInstr l1 i
        · have t0 : eqT (rdInstr l0 i) (rdInstr l1 i) = true := eqT_true h
          have HE := Aside0.mk h
          clear h
          go_wp2
          go_still_tail 8, (by kernel_rfl)
          go_wp2_with (go_at_call 73; (with_reducible refine (eqInstr_at wr  (rdInstr l0 i) (rdInstr l1 i) _ ).mono ?_); rintro e w1 ⟨rfl, hb⟩; have HB1 := Aside0.mk (below_step (w := w) bel hb); clear hb)
          go_roundw
          case rel => exact ⟨i + 1, by omega, by omega, rfl, ⟨fun j hj => by
            by_cases h1 : (j : Int) < i
            · exact HP.out j h1
            · obtain rfl : i = (j : Int) := by omega
              exact HE.out⟩, ⟨bel⟩⟩
          case measure => simp [intOf]; omega
        · have t0 : eqT (rdInstr l0 i) (rdInstr l1 i) = false := eqT_false h
          have HE : Aside0 (eqT l0 l1 = false) := ⟨eqT_false (fun e => h (by rw [e]))⟩
          clear h
          go_wp2
          go_still_tail 8, (by kernel_rfl)
          go_wp2_with (go_at_call 73; (with_reducible refine (eqInstr_at wr  (rdInstr l0 i) (rdInstr l1 i) _ ).mono ?_); rintro e w1 ⟨rfl, hb⟩; have HB1 := Aside0.mk (below_step (w := w) bel hb); clear hb)
          go_ret
          exact ⟨by rw [HE.out]; rfl, bel⟩

      · have HE : Aside0 (eqT l0 l1 = true) := ⟨eqT_true (ext_getD zInstr HL.out (fun j hj => HP.out j (by omega)))⟩
        go_wp2
        go_ret
        exact ⟨by rw [HE.out]; rfl, bel⟩
  · have b0 : ((l0.length : Int) != (l1.length : Int)) = true := by simp; omega
    have HE : Aside0 (eqT l0 l1 = false) := ⟨eqT_false (fun e => hl (by rw [e]))⟩
    go_enter Try.func71, Try.ntmps71
    go_wp2
    go_ret
    exact ⟨by rw [HE.out]; rfl, bel⟩

theorem eqInstrS_at (w0 : World) (A0 : Option Addr) (c0 : Nat) (l0 : List MInstr) (A1 : Option Addr) (c1 : Nat) (l1 : List MInstr) (w : World) (hr0 : Kd.C kInstr_I w0 A0 l0.length l0) (hr1 : Kd.C kInstr_I w0 A1 l1.length l1) (hb : Below w0.heap.size w0 w := by exact bel) :
    Calls Try.prog 71 #[.slice A0 l0.length c0, .slice A1 l1.length c1] w fun e w' => e = .returned (.bool (eqT l0 l1)) ∧ Below w.heap.size w w' := eqInstrS_calls A0 c0 l0 A1 c1 l1 w (Kd.C_below hr0 hb) (Kd.C_below hr1 hb)

set_option maxHeartbeats 1000000 in
set_option maxRecDepth 100000 in
theorem eqFunc_calls (A0 B0 : Option Addr) (c0 d0 : Nat) (A2 B2 : Option Addr) (c2 d2 : Nat) (A3 B3 : Option Addr) (c3 d3 : Nat) (x y : MFunc) (w : World) (h0 : Kd.C (Kd.int .i64) w A0 x.params.length x.params) (h2 : Kd.C (Kd.int .i64) w A2 x.locals.length x.locals) (h3 : Kd.C kInstr_I w A3 x.code.length x.code) (g0 : Kd.C (Kd.int .i64) w B0 y.params.length y.params) (g2 : Kd.C (Kd.int .i64) w B2 y.locals.length y.locals) (g3 : Kd.C kInstr_I w B3 y.code.length y.code) :
    Calls Try.prog 67 #[.agg #[.slice A0 x.params.length c0, .int .i64 x.result, .slice A2 x.locals.length c2, .slice A3 x.code.length c3], .agg #[.slice B0 y.params.length d0, .int .i64 y.result, .slice B2 y.locals.length d2, .slice B3 y.code.length d3]] w fun e w' => e = .returned (.bool (eqT x y)) ∧ Below w.heap.size w w' := by
  have H0 := Aside0.mk h0; have G0 := Aside0.mk g0; have H2 := Aside0.mk h2; have G2 := Aside0.mk g2; have H3 := Aside0.mk h3; have G3 := Aside0.mk g3; have HB := Aside0.mk (Below.refl w.heap.size w)
  clear h0 g0 h2 g2 h3 g3
  go_enter Try.func67, Try.ntmps67
  go_wp2_with (first | (go_at_call 65; (with_reducible refine (eqInt64S_at w _ _ x.params _ _ y.params _ H0.out G0.out).mono ?_); rintro e w1 ⟨rfl, hb⟩; have n_ := Aside0.mk (below_step (w := w) bel hb); obtain ⟨hc, hf⟩ := bcell hb; have hz : w.heap.size < w1.heap.size := Nat.lt_of_lt_of_le (by first | assumption | (simp; done) | (simp; omega)) hb.size; have hz1 : w.heap.size + 1 < w1.heap.size := Nat.lt_of_lt_of_le (by first | assumption | (simp; done) | (simp; omega)) hb.size; clear HB hb; have HB := n_; clear n_) | (go_at_call 65; (with_reducible refine (eqInt64S_at w _ _ x.locals _ _ y.locals _ H2.out G2.out).mono ?_); rintro e w1 ⟨rfl, hb⟩; have n_ := Aside0.mk (below_step (w := w) bel hb); obtain ⟨hc, hf⟩ := bcell hb; have hz : w.heap.size < w1.heap.size := Nat.lt_of_lt_of_le (by first | assumption | (simp; done) | (simp; omega)) hb.size; have hz1 : w.heap.size + 1 < w1.heap.size := Nat.lt_of_lt_of_le (by first | assumption | (simp; done) | (simp; omega)) hb.size; clear HB hb; have HB := n_; clear n_) | (go_at_call 71; (with_reducible refine (eqInstrS_at w _ _ x.code _ _ y.code _ H3.out G3.out).mono ?_); rintro e w1 ⟨rfl, hb⟩; have n_ := Aside0.mk (below_step (w := w) bel hb); obtain ⟨hc, hf⟩ := bcell hb; have hz : w.heap.size < w1.heap.size := Nat.lt_of_lt_of_le (by first | assumption | (simp; done) | (simp; omega)) hb.size; have hz1 : w.heap.size + 1 < w1.heap.size := Nat.lt_of_lt_of_le (by first | assumption | (simp; done) | (simp; omega)) hb.size; clear HB hb; have HB := n_; clear n_))
  all_goals first
    | (rename_i hL; go_ret; exact ⟨by rw [eqT_false (a := x) (b := y) (fun e => by subst e; simp [eqT_self] at hL)]; rfl, bel⟩)
    | (go_ret; exact ⟨by rw [eqT_true (a := x) (b := y) (MFunc_ext (eqT_iff.1 (by simpa using ‹(!eqT x.params y.params) = false›)) (by first | assumption | simpa using ‹(x.result != y.result) = false›) (eqT_iff.1 (by simpa using ‹(!eqT x.locals y.locals) = false›)) (eqT_iff.1 (by simpa using ‹(!eqT x.code y.code) = false›)))]; rfl, bel⟩)

theorem eqFunc_at (w0 : World) (A0 B0 : Option Addr) (c0 d0 : Nat) (A2 B2 : Option Addr) (c2 d2 : Nat) (A3 B3 : Option Addr) (c3 d3 : Nat) (x y : MFunc) (w : World) (h0 : Kd.C (Kd.int .i64) w0 A0 x.params.length x.params) (h2 : Kd.C (Kd.int .i64) w0 A2 x.locals.length x.locals) (h3 : Kd.C kInstr_I w0 A3 x.code.length x.code) (g0 : Kd.C (Kd.int .i64) w0 B0 y.params.length y.params) (g2 : Kd.C (Kd.int .i64) w0 B2 y.locals.length y.locals) (g3 : Kd.C kInstr_I w0 B3 y.code.length y.code) (hb : Below w0.heap.size w0 w := by exact bel) :
    Calls Try.prog 67 #[.agg #[.slice A0 x.params.length c0, .int .i64 x.result, .slice A2 x.locals.length c2, .slice A3 x.code.length c3], .agg #[.slice B0 y.params.length d0, .int .i64 y.result, .slice B2 y.locals.length d2, .slice B3 y.code.length d3]] w fun e w' => e = .returned (.bool (eqT x y)) ∧ Below w.heap.size w w' := eqFunc_calls A0 B0 c0 d0 A2 B2 c2 d2 A3 B3 c3 d3 x y w (Kd.C_below h0 hb) (Kd.C_below h2 hb) (Kd.C_below h3 hb) (Kd.C_below g0 hb) (Kd.C_below g2 hb) (Kd.C_below g3 hb)

set_option maxHeartbeats 1000000 in
set_option maxRecDepth 100000 in
theorem eqFuncS_calls (A0 : Option Addr) (c0 : Nat) (l0 : List MFunc) (A1 : Option Addr) (c1 : Nat) (l1 : List MFunc) (w : World) (hr0 : Kd.C kFunc_I w A0 l0.length l0) (hr1 : Kd.C kFunc_I w A1 l1.length l1) :
    Calls Try.prog 52 #[.slice A0 l0.length c0, .slice A1 l1.length c1] w fun e w' => e = .returned (.bool (eqT l0 l1)) ∧ Below w.heap.size w w' := by
  have hm : l0.length ≤ 9223372036854775807 := hr0.2.1
  have HR0 := Aside0.mk hr0; have HR1 := Aside0.mk hr1
  clear hr0 hr1
  by_cases hl : l0.length = l1.length
  · have b0 : ((l0.length : Int) != (l1.length : Int)) = false := by simp [hl]
    have HL := Aside0.mk hl
    clear hl
    go_enter Try.func52, Try.ntmps52
    go_wp2
    go_loopw [5] (fun v wr => ∃ i : Int, 0 ≤ i ∧ i ≤ l0.length ∧ v = .int .i64 i ∧ Aside0 (∀ j : Nat, (j : Int) < i → l0.getD j zFunc = l1.getD j zFunc) ∧ Aside0 (Below w.heap.size w wr)) (fun v _ => ((l0.length : Int) - intOf v).toNat)
    case atStart => exact ⟨0, by omega, by omega, rfl, ⟨fun j h => by omega⟩, ⟨Below.refl _ _⟩⟩
    case round =>
      obtain ⟨i, h0, hi, rfl, HP, HB⟩ := hrel
      by_cases hlt : i < l0.length
      · have hlt1 : i < l1.length := by have := HL.out; omega
        obtain ⟨ad0, B00, b00, B02, b02, B03, b03, e0, x00, x01, x02, x03, y00, z00, y02, z02, y03, z03⟩ := atFunc_I (Kd.C_below HR0.out HB.out) i h0 hlt
        cases e0
        obtain ⟨ad1, B10, b10, B12, b12, B13, b13, e1, x10, x11, x12, x13, y10, z10, y12, z12, y13, z13⟩ := atFunc_I (Kd.C_below HR1.out HB.out) i h0 hlt1
        cases e1

        by_cases h : rdFunc l0 i = rdFunc l1 i
        · have t0 : eqT (rdFunc l0 i) (rdFunc l1 i) = true := eqT_true h
          have HE := Aside0.mk h
          clear h
          go_wp2
          go_still_tail 8, (by kernel_rfl)
          go_wp2_with (go_at_call 67; (with_reducible refine (eqFunc_at wr _ _ _ _ _ _ _ _ _ _ _ _ (rdFunc l0 i) (rdFunc l1 i) _ z00 z02 z03 z10 z12 z13).mono ?_); rintro e w1 ⟨rfl, hb⟩; have HB1 := Aside0.mk (below_step (w := w) bel hb); clear hb)
          go_roundw
          case rel => exact ⟨i + 1, by omega, by omega, rfl, ⟨fun j hj => by
            by_cases h1 : (j : Int) < i
            · exact HP.out j h1
            · obtain rfl : i = (j : Int) := by omega
              exact HE.out⟩, ⟨bel⟩⟩
          case measure => simp [intOf]; omega
        · have t0 : eqT (rdFunc l0 i) (rdFunc l1 i) = false := eqT_false h
          have HE : Aside0 (eqT l0 l1 = false) := ⟨eqT_false (fun e => h (by rw [e]))⟩
          clear h
          go_wp2
          go_still_tail 8, (by kernel_rfl)
          go_wp2_with (go_at_call 67; (with_reducible refine (eqFunc_at wr _ _ _ _ _ _ _ _ _ _ _ _ (rdFunc l0 i) (rdFunc l1 i) _ z00 z02 z03 z10 z12 z13).mono ?_); rintro e w1 ⟨rfl, hb⟩; have HB1 := Aside0.mk (below_step (w := w) bel hb); clear hb)
          go_ret
          exact ⟨by rw [HE.out]; rfl, bel⟩

      · have HE : Aside0 (eqT l0 l1 = true) := ⟨eqT_true (ext_getD zFunc HL.out (fun j hj => HP.out j (by omega)))⟩
        go_wp2
        go_ret
        exact ⟨by rw [HE.out]; rfl, bel⟩
  · have b0 : ((l0.length : Int) != (l1.length : Int)) = true := by simp; omega
    have HE : Aside0 (eqT l0 l1 = false) := ⟨eqT_false (fun e => hl (by rw [e]))⟩
    go_enter Try.func52, Try.ntmps52
    go_wp2
    go_ret
    exact ⟨by rw [HE.out]; rfl, bel⟩

theorem eqFuncS_at (w0 : World) (A0 : Option Addr) (c0 : Nat) (l0 : List MFunc) (A1 : Option Addr) (c1 : Nat) (l1 : List MFunc) (w : World) (hr0 : Kd.C kFunc_I w0 A0 l0.length l0) (hr1 : Kd.C kFunc_I w0 A1 l1.length l1) (hb : Below w0.heap.size w0 w := by exact bel) :
    Calls Try.prog 52 #[.slice A0 l0.length c0, .slice A1 l1.length c1] w fun e w' => e = .returned (.bool (eqT l0 l1)) ∧ Below w.heap.size w w' := eqFuncS_calls A0 c0 l0 A1 c1 l1 w (Kd.C_below hr0 hb) (Kd.C_below hr1 hb)

set_option maxHeartbeats 1000000 in
set_option maxRecDepth 100000 in
theorem eqCert_calls (x y : MCert) (w : World) :
    Calls Try.prog 68 #[.agg #[.int .i64 x.func, .int .i64 x.head, .int .i64 x.counter, .int .u32 x.init], .agg #[.int .i64 y.func, .int .i64 y.head, .int .i64 y.counter, .int .u32 y.init]] w fun e w' => e = .returned (.bool (eqT x y)) ∧ Below w.heap.size w w' := by
  have HB := Aside0.mk (Below.refl w.heap.size w)
  go_enter Try.func68, Try.ntmps68
  go_wp2
  all_goals first
    | (rename_i hL; go_ret; exact ⟨by rw [eqT_false (a := x) (b := y) (fun e => by subst e; simp [eqT_self] at hL)]; rfl, bel⟩)
    | (go_ret; exact ⟨by rw [eqT_true (a := x) (b := y) (MCert_ext (by first | assumption | simpa using ‹(x.func != y.func) = false›) (by first | assumption | simpa using ‹(x.head != y.head) = false›) (by first | assumption | simpa using ‹(x.counter != y.counter) = false›) (by first | assumption | simpa using ‹(x.init != y.init) = false›))]; rfl, bel⟩)

theorem eqCert_at (w0 : World) (x y : MCert) (w : World) (hb : Below w0.heap.size w0 w := by exact bel) :
    Calls Try.prog 68 #[.agg #[.int .i64 x.func, .int .i64 x.head, .int .i64 x.counter, .int .u32 x.init], .agg #[.int .i64 y.func, .int .i64 y.head, .int .i64 y.counter, .int .u32 y.init]] w fun e w' => e = .returned (.bool (eqT x y)) ∧ Below w.heap.size w w' := eqCert_calls x y w

set_option maxHeartbeats 1000000 in
set_option maxRecDepth 100000 in
theorem eqCertS_calls (A0 : Option Addr) (c0 : Nat) (l0 : List MCert) (A1 : Option Addr) (c1 : Nat) (l1 : List MCert) (w : World) (hr0 : Kd.C kCert_I w A0 l0.length l0) (hr1 : Kd.C kCert_I w A1 l1.length l1) :
    Calls Try.prog 53 #[.slice A0 l0.length c0, .slice A1 l1.length c1] w fun e w' => e = .returned (.bool (eqT l0 l1)) ∧ Below w.heap.size w w' := by
  have hm : l0.length ≤ 9223372036854775807 := hr0.2.1
  have HR0 := Aside0.mk hr0; have HR1 := Aside0.mk hr1
  clear hr0 hr1
  by_cases hl : l0.length = l1.length
  · have b0 : ((l0.length : Int) != (l1.length : Int)) = false := by simp [hl]
    have HL := Aside0.mk hl
    clear hl
    go_enter Try.func53, Try.ntmps53
    go_wp2
    go_loopw [5] (fun v wr => ∃ i : Int, 0 ≤ i ∧ i ≤ l0.length ∧ v = .int .i64 i ∧ Aside0 (∀ j : Nat, (j : Int) < i → l0.getD j zCert = l1.getD j zCert) ∧ Aside0 (Below w.heap.size w wr)) (fun v _ => ((l0.length : Int) - intOf v).toNat)
    case atStart => exact ⟨0, by omega, by omega, rfl, ⟨fun j h => by omega⟩, ⟨Below.refl _ _⟩⟩
    case round =>
      obtain ⟨i, h0, hi, rfl, HP, HB⟩ := hrel
      by_cases hlt : i < l0.length
      · have hlt1 : i < l1.length := by have := HL.out; omega
        obtain ⟨ad0, e0, x00, x01, x02, x03⟩ := atCert_I (Kd.C_below HR0.out HB.out) i h0 hlt
        cases e0
        obtain ⟨ad1, e1, x10, x11, x12, x13⟩ := atCert_I (Kd.C_below HR1.out HB.out) i h0 hlt1
        cases e1

        by_cases h : rdCert l0 i = rdCert l1 i
        · have t0 : eqT (rdCert l0 i) (rdCert l1 i) = true := eqT_true h
          have HE := Aside0.mk h
          clear h
          go_wp2
          go_still_tail 8, (by kernel_rfl)
          go_wp2_with (go_at_call 68; (with_reducible refine (eqCert_at wr  (rdCert l0 i) (rdCert l1 i) _ ).mono ?_); rintro e w1 ⟨rfl, hb⟩; have HB1 := Aside0.mk (below_step (w := w) bel hb); clear hb)
          go_roundw
          case rel => exact ⟨i + 1, by omega, by omega, rfl, ⟨fun j hj => by
            by_cases h1 : (j : Int) < i
            · exact HP.out j h1
            · obtain rfl : i = (j : Int) := by omega
              exact HE.out⟩, ⟨bel⟩⟩
          case measure => simp [intOf]; omega
        · have t0 : eqT (rdCert l0 i) (rdCert l1 i) = false := eqT_false h
          have HE : Aside0 (eqT l0 l1 = false) := ⟨eqT_false (fun e => h (by rw [e]))⟩
          clear h
          go_wp2
          go_still_tail 8, (by kernel_rfl)
          go_wp2_with (go_at_call 68; (with_reducible refine (eqCert_at wr  (rdCert l0 i) (rdCert l1 i) _ ).mono ?_); rintro e w1 ⟨rfl, hb⟩; have HB1 := Aside0.mk (below_step (w := w) bel hb); clear hb)
          go_ret
          exact ⟨by rw [HE.out]; rfl, bel⟩

      · have HE : Aside0 (eqT l0 l1 = true) := ⟨eqT_true (ext_getD zCert HL.out (fun j hj => HP.out j (by omega)))⟩
        go_wp2
        go_ret
        exact ⟨by rw [HE.out]; rfl, bel⟩
  · have b0 : ((l0.length : Int) != (l1.length : Int)) = true := by simp; omega
    have HE : Aside0 (eqT l0 l1 = false) := ⟨eqT_false (fun e => hl (by rw [e]))⟩
    go_enter Try.func53, Try.ntmps53
    go_wp2
    go_ret
    exact ⟨by rw [HE.out]; rfl, bel⟩

theorem eqCertS_at (w0 : World) (A0 : Option Addr) (c0 : Nat) (l0 : List MCert) (A1 : Option Addr) (c1 : Nat) (l1 : List MCert) (w : World) (hr0 : Kd.C kCert_I w0 A0 l0.length l0) (hr1 : Kd.C kCert_I w0 A1 l1.length l1) (hb : Below w0.heap.size w0 w := by exact bel) :
    Calls Try.prog 53 #[.slice A0 l0.length c0, .slice A1 l1.length c1] w fun e w' => e = .returned (.bool (eqT l0 l1)) ∧ Below w.heap.size w w' := eqCertS_calls A0 c0 l0 A1 c1 l1 w (Kd.C_below hr0 hb) (Kd.C_below hr1 hb)

set_option maxHeartbeats 1000000 in
set_option maxRecDepth 100000 in
theorem eqProgram_calls (A0 B0 : Option Addr) (c0 d0 : Nat) (A1 B1 : Option Addr) (c1 d1 : Nat) (A2 B2 : Option Addr) (c2 d2 : Nat) (A3 B3 : Option Addr) (c3 d3 : Nat) (x y : MProgram) (w : World) (h0 : Kd.C (Kd.slice 2 (Kd.int .i64)) w A0 x.regions.length x.regions) (h1 : Kd.C kConst_I w A1 x.consts.length x.consts) (h2 : Kd.C kFunc_I w A2 x.funcs.length x.funcs) (h3 : Kd.C kCert_I w A3 x.certs.length x.certs) (g0 : Kd.C (Kd.slice 2 (Kd.int .i64)) w B0 y.regions.length y.regions) (g1 : Kd.C kConst_I w B1 y.consts.length y.consts) (g2 : Kd.C kFunc_I w B2 y.funcs.length y.funcs) (g3 : Kd.C kCert_I w B3 y.certs.length y.certs) :
    Calls Try.prog 18 #[.agg #[.slice A0 x.regions.length c0, .slice A1 x.consts.length c1, .slice A2 x.funcs.length c2, .slice A3 x.certs.length c3], .agg #[.slice B0 y.regions.length d0, .slice B1 y.consts.length d1, .slice B2 y.funcs.length d2, .slice B3 y.certs.length d3]] w fun e w' => e = .returned (.bool (eqT x y)) ∧ Below w.heap.size w w' := by
  have H0 := Aside0.mk h0; have G0 := Aside0.mk g0; have H1 := Aside0.mk h1; have G1 := Aside0.mk g1; have H2 := Aside0.mk h2; have G2 := Aside0.mk g2; have H3 := Aside0.mk h3; have G3 := Aside0.mk g3; have HB := Aside0.mk (Below.refl w.heap.size w)
  clear h0 g0 h1 g1 h2 g2 h3 g3
  go_enter Try.func18, Try.ntmps18
  go_wp2_with (first | (go_at_call 50; (with_reducible refine (eqInt64SS_at w _ _ x.regions _ _ y.regions _ H0.out G0.out).mono ?_); rintro e w1 ⟨rfl, hb⟩; have n_ := Aside0.mk (below_step (w := w) bel hb); obtain ⟨hc, hf⟩ := bcell hb; have hz : w.heap.size < w1.heap.size := Nat.lt_of_lt_of_le (by first | assumption | (simp; done) | (simp; omega)) hb.size; have hz1 : w.heap.size + 1 < w1.heap.size := Nat.lt_of_lt_of_le (by first | assumption | (simp; done) | (simp; omega)) hb.size; clear HB hb; have HB := n_; clear n_) | (go_at_call 51; (with_reducible refine (eqConstS_at w _ _ x.consts _ _ y.consts _ H1.out G1.out).mono ?_); rintro e w1 ⟨rfl, hb⟩; have n_ := Aside0.mk (below_step (w := w) bel hb); obtain ⟨hc, hf⟩ := bcell hb; have hz : w.heap.size < w1.heap.size := Nat.lt_of_lt_of_le (by first | assumption | (simp; done) | (simp; omega)) hb.size; have hz1 : w.heap.size + 1 < w1.heap.size := Nat.lt_of_lt_of_le (by first | assumption | (simp; done) | (simp; omega)) hb.size; clear HB hb; have HB := n_; clear n_) | (go_at_call 52; (with_reducible refine (eqFuncS_at w _ _ x.funcs _ _ y.funcs _ H2.out G2.out).mono ?_); rintro e w1 ⟨rfl, hb⟩; have n_ := Aside0.mk (below_step (w := w) bel hb); obtain ⟨hc, hf⟩ := bcell hb; have hz : w.heap.size < w1.heap.size := Nat.lt_of_lt_of_le (by first | assumption | (simp; done) | (simp; omega)) hb.size; have hz1 : w.heap.size + 1 < w1.heap.size := Nat.lt_of_lt_of_le (by first | assumption | (simp; done) | (simp; omega)) hb.size; clear HB hb; have HB := n_; clear n_) | (go_at_call 53; (with_reducible refine (eqCertS_at w _ _ x.certs _ _ y.certs _ H3.out G3.out).mono ?_); rintro e w1 ⟨rfl, hb⟩; have n_ := Aside0.mk (below_step (w := w) bel hb); obtain ⟨hc, hf⟩ := bcell hb; have hz : w.heap.size < w1.heap.size := Nat.lt_of_lt_of_le (by first | assumption | (simp; done) | (simp; omega)) hb.size; have hz1 : w.heap.size + 1 < w1.heap.size := Nat.lt_of_lt_of_le (by first | assumption | (simp; done) | (simp; omega)) hb.size; clear HB hb; have HB := n_; clear n_))
  all_goals first
    | (rename_i hL; go_ret; exact ⟨by rw [eqT_false (a := x) (b := y) (fun e => by subst e; simp [eqT_self] at hL)]; rfl, bel⟩)
    | (go_ret; exact ⟨by rw [eqT_true (a := x) (b := y) (MProgram_ext (eqT_iff.1 (by simpa using ‹(!eqT x.regions y.regions) = false›)) (eqT_iff.1 (by simpa using ‹(!eqT x.consts y.consts) = false›)) (eqT_iff.1 (by simpa using ‹(!eqT x.funcs y.funcs) = false›)) (eqT_iff.1 (by simpa using ‹(!eqT x.certs y.certs) = false›)))]; rfl, bel⟩)

theorem eqProgram_at (w0 : World) (A0 B0 : Option Addr) (c0 d0 : Nat) (A1 B1 : Option Addr) (c1 d1 : Nat) (A2 B2 : Option Addr) (c2 d2 : Nat) (A3 B3 : Option Addr) (c3 d3 : Nat) (x y : MProgram) (w : World) (h0 : Kd.C (Kd.slice 2 (Kd.int .i64)) w0 A0 x.regions.length x.regions) (h1 : Kd.C kConst_I w0 A1 x.consts.length x.consts) (h2 : Kd.C kFunc_I w0 A2 x.funcs.length x.funcs) (h3 : Kd.C kCert_I w0 A3 x.certs.length x.certs) (g0 : Kd.C (Kd.slice 2 (Kd.int .i64)) w0 B0 y.regions.length y.regions) (g1 : Kd.C kConst_I w0 B1 y.consts.length y.consts) (g2 : Kd.C kFunc_I w0 B2 y.funcs.length y.funcs) (g3 : Kd.C kCert_I w0 B3 y.certs.length y.certs) (hb : Below w0.heap.size w0 w := by exact bel) :
    Calls Try.prog 18 #[.agg #[.slice A0 x.regions.length c0, .slice A1 x.consts.length c1, .slice A2 x.funcs.length c2, .slice A3 x.certs.length c3], .agg #[.slice B0 y.regions.length d0, .slice B1 y.consts.length d1, .slice B2 y.funcs.length d2, .slice B3 y.certs.length d3]] w fun e w' => e = .returned (.bool (eqT x y)) ∧ Below w.heap.size w w' := eqProgram_calls A0 B0 c0 d0 A1 B1 c1 d1 A2 B2 c2 d2 A3 B3 c3 d3 x y w (Kd.C_below h0 hb) (Kd.C_below h1 hb) (Kd.C_below h2 hb) (Kd.C_below h3 hb) (Kd.C_below g0 hb) (Kd.C_below g1 hb) (Kd.C_below g2 hb) (Kd.C_below g3 hb)

end Go.Proofs.Ytlnlbncinjiinab.X
