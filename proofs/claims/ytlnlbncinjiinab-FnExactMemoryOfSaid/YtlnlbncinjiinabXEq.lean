/- Of this session: contracts over the words of the kit's print. -/
import Derived.Test.YtlnlbncinjiinabProg
import Derived.Below
import Derived.Deep.Draws
import Derived.Deep.AppendLies
import Derived.Maps.AppendAt
import Derived.OwnWalk
import Derived.Laws.BytesArg
import Derived.Laws.MakeOwn
import Derived.Laws.OwnMore
import Derived.Deep.OwnRows
import Derived.Tactics
import Derived.Lib.ConvBytes
import Derived.Laws.Slices
import Derived.WalkKit
import Derived.KernelRfl
import Derived.RowKit3
import Derived.Deep.LoopGhost
import Derived.Deep.QuietTactic
import Derived.BigQuiet
import Derived.WideLaws
import Derived.Deep.DeepCutAuto
import Derived.Deep.CutBlock
import Derived.Deep.RegionHeld3
import Derived.Laws.Rows
import Derived.Lib.AppendStr
import Derived.ArgAppend
import Derived.Laws.IdiomCopy
import Derived.OrdersHeld
import Derived.Laws.BitsLemmas
import Derived.RowKit
import Derived.StillTailTactics
import Derived.Test.YtlnlbncinjiinabWWords
import Derived.Test.YtlnlbncinjiinabWLast
import Derived.Test.YtlnlbncinjiinabWTab
import Derived.Test.YtlnlbncinjiinabWFour
import Derived.Test.YtlnlbncinjiinabWQPut
import Derived.Test.YtlnlbncinjiinabWApart
import Derived.Test.YtlnlbncinjiinabWArr
import Derived.Test.YtlnlbncinjiinabWZeros
import Derived.Test.YtlnlbncinjiinabWFoot
import Derived.Test.YtlnlbncinjiinabWKept
import Derived.Test.YtlnlbncinjiinabWShare
import Derived.Test.YtlnlbncinjiinabWN
import Derived.Test.YtlnlbncinjiinabWFootNe
import Derived.Test.YtlnlbncinjiinabWAt
import Derived.Test.YtlnlbncinjiinabWEqStruct
import Derived.Test.YtlnlbncinjiinabWRepsOne
import Derived.Test.YtlnlbncinjiinabWInv
import Derived.Test.YtlnlbncinjiinabWInvWords
import Derived.Test.YtlnlbncinjiinabWGuard
import Derived.Test.YtlnlbncinjiinabWNEv
import Derived.Test.YtlnlbncinjiinabWMore
import Derived.ChangeArms
import Derived.Test.YtlnlbncinjiinabX0
namespace Go.Proofs.Ytlnlbncinjiinab.X
open Go.RowKit Go.Proofs.YtlnlbncinjiinabW.PrintWords Go.Proofs.YtlnlbncinjiinabW.PrintLast Go.Proofs.YtlnlbncinjiinabW.PrintMore
set_option linter.unusedVariables false
set_option linter.unusedSimpArgs false
def rdLL {α : Type} (xs : List (List α)) (i : Int) : List α := xs.getD i.toNat []
theorem atLL {α : Type} {d : Kd α} {e : Nat} {w : World} {A : Option Addr} {n : Nat} {xs : List (List α)} (h : Kd.C (Kd.slice e d) w A n xs) (i : Int) (h0 : 0 ≤ i) (h1 : i < n) : ∃ ad A0 c0, A = some ad ∧ w.cell? (ad.add i.toNat) = some (.slice A0 (rdLL xs i).length c0) ∧ (rdLL xs i).length ≤ c0 ∧ Kd.C d w A0 (rdLL xs i).length (rdLL xs i) := by
  obtain ⟨ad, c, e, _, hK, hc0⟩ := Kd.C_get h ([] : List α) i h0 h1
  have hc : ∀ j u, c[j]? = some u → w.cell? (ad.add (i.toNat * 1 + j)) = some u := hc0
  obtain ⟨A0, c0, rfl, l0, g0⟩ := hK
  exact ⟨ad, A0, c0, e, by have hq := hc 0 _ rfl; rwa [Nat.mul_one, Nat.add_zero] at hq, l0, g0⟩
theorem atSS {α : Type} {d : Kd α} {e : Nat} {w : World} {A : Option Addr} {n : Nat} {xs : List (List α)} (h : Kd.C (aslice e d) w A n xs) (i : Int) (h0 : 0 ≤ i) (h1 : i < n) : ∃ ad A0 c0, A = some ad ∧ w.cell? (ad.add i.toNat) = some (.slice A0 (rdLL xs i).length c0) ∧ (rdLL xs i).length ≤ c0 ∧ Kd.C d w A0 (rdLL xs i).length (rdLL xs i) := by
  obtain ⟨ad, c, e, _, hK, hc0⟩ := Kd.C_get h ([] : List α) i h0 h1
  have hc : ∀ j u, c[j]? = some u → w.cell? (ad.add (i.toNat * 1 + j)) = some u := hc0
  obtain ⟨A0, c0, rfl, l0, g0⟩ := hK
  exact ⟨ad, A0, c0, e, by have hq := hc 0 _ rfl; rwa [Nat.mul_one, Nat.add_zero] at hq, l0, g0⟩

set_option maxHeartbeats 1000000 in
set_option maxRecDepth 100000 in
theorem eqUint32S_calls (A0 : Option Addr) (c0 : Nat) (l0 : List Int) (A1 : Option Addr) (c1 : Nat) (l1 : List Int) (w : World) (hr0 : Kd.C (Kd.int .u32) w A0 l0.length l0) (hr1 : Kd.C (Kd.int .u32) w A1 l1.length l1) :
    Calls Try.prog 27 #[.slice A0 l0.length c0, .slice A1 l1.length c1] w fun e w' => e = .returned (.bool (eqT l0 l1)) ∧ Below w.heap.size w w' := by
  have hm : l0.length ≤ 9223372036854775807 := hr0.2.1
  have HR0 := Aside0.mk hr0; have HR1 := Aside0.mk hr1
  clear hr0 hr1
  by_cases hl : l0.length = l1.length
  · have b0 : ((l0.length : Int) != (l1.length : Int)) = false := by simp [hl]
    have HL := Aside0.mk hl
    clear hl
    go_enter Try.func27, Try.ntmps27
    go_wp2
    go_loopw [5] (fun v wr => ∃ i : Int, 0 ≤ i ∧ i ≤ l0.length ∧ v = .int .i64 i ∧ Aside0 (∀ j : Nat, (j : Int) < i → l0.getD j 0 = l1.getD j 0) ∧ Aside0 (Below w.heap.size w wr)) (fun v _ => ((l0.length : Int) - intOf v).toNat)
    case atStart => exact ⟨0, by omega, by omega, rfl, ⟨fun j h => by omega⟩, ⟨Below.refl _ _⟩⟩
    case round =>
      obtain ⟨i, h0, hi, rfl, HP, HB⟩ := hrel
      by_cases hlt : i < l0.length
      · have hlt1 : i < l1.length := by have := HL.out; omega
        obtain ⟨ad0, e0, x0⟩ := Kd.at_int (Kd.C_below HR0.out HB.out) i h0 hlt
        cases e0
        obtain ⟨ad1, e1, x1⟩ := Kd.at_int (Kd.C_below HR1.out HB.out) i h0 hlt1
        cases e1

        by_cases h : rd l0 i = rd l1 i
        · have t0 : (rd l0 i != rd l1 i) = false := by simp [h]
          have HE := Aside0.mk h
          clear h
          go_wp2
          repeat (go_quiet (fail); try go_wp2)
          go_roundw
          case rel => exact ⟨i + 1, by omega, by omega, rfl, ⟨fun j hj => by
            by_cases h1 : (j : Int) < i
            · exact HP.out j h1
            · obtain rfl : i = (j : Int) := by omega
              exact HE.out⟩, ⟨bel⟩⟩
          case measure => simp [intOf]; omega
        · have t0 : (rd l0 i != rd l1 i) = true := by simp [h]
          have HE : Aside0 (eqT l0 l1 = false) := ⟨eqT_false (fun e => h (by rw [e]))⟩
          clear h
          go_wp2
          repeat (go_quiet (fail); try go_wp2)
          go_ret
          exact ⟨by rw [HE.out]; rfl, bel⟩

      · have HE : Aside0 (eqT l0 l1 = true) := ⟨eqT_true (ext_getD 0 HL.out (fun j hj => HP.out j (by omega)))⟩
        go_wp2
        go_ret
        exact ⟨by rw [HE.out]; rfl, bel⟩
  · have b0 : ((l0.length : Int) != (l1.length : Int)) = true := by simp; omega
    have HE : Aside0 (eqT l0 l1 = false) := ⟨eqT_false (fun e => hl (by rw [e]))⟩
    go_enter Try.func27, Try.ntmps27
    go_wp2
    go_ret
    exact ⟨by rw [HE.out]; rfl, bel⟩

theorem eqUint32S_at (w0 : World) (A0 : Option Addr) (c0 : Nat) (l0 : List Int) (A1 : Option Addr) (c1 : Nat) (l1 : List Int) (w : World) (hr0 : Kd.C (Kd.int .u32) w0 A0 l0.length l0) (hr1 : Kd.C (Kd.int .u32) w0 A1 l1.length l1) (hb : Below w0.heap.size w0 w := by exact bel) :
    Calls Try.prog 27 #[.slice A0 l0.length c0, .slice A1 l1.length c1] w fun e w' => e = .returned (.bool (eqT l0 l1)) ∧ Below w.heap.size w w' := eqUint32S_calls A0 c0 l0 A1 c1 l1 w (Kd.C_below hr0 hb) (Kd.C_below hr1 hb)

set_option maxHeartbeats 1000000 in
set_option maxRecDepth 100000 in
theorem eqMemory_calls (A0 B0 : Option Addr) (c0 d0 : Nat) (A1 B1 : Option Addr) (c1 d1 : Nat) (A2 B2 : Option Addr) (c2 d2 : Nat) (x y : MMemory) (w : World) (h0 : Kd.C (Kd.int .u32) w A0 x.inn.length x.inn) (h1 : Kd.C (Kd.int .u32) w A1 x.out.length x.out) (h2 : Kd.C (Kd.int .u32) w A2 x.keep.length x.keep) (g0 : Kd.C (Kd.int .u32) w B0 y.inn.length y.inn) (g1 : Kd.C (Kd.int .u32) w B1 y.out.length y.out) (g2 : Kd.C (Kd.int .u32) w B2 y.keep.length y.keep) :
    Calls Try.prog 9 #[.agg #[.slice A0 x.inn.length c0, .slice A1 x.out.length c1, .slice A2 x.keep.length c2], .agg #[.slice B0 y.inn.length d0, .slice B1 y.out.length d1, .slice B2 y.keep.length d2]] w fun e w' => e = .returned (.bool (eqT x y)) ∧ Below w.heap.size w w' := by
  have H0 := Aside0.mk h0; have G0 := Aside0.mk g0; have H1 := Aside0.mk h1; have G1 := Aside0.mk g1; have H2 := Aside0.mk h2; have G2 := Aside0.mk g2; have HB := Aside0.mk (Below.refl w.heap.size w)
  clear h0 g0 h1 g1 h2 g2
  go_enter Try.func9, Try.ntmps9
  go_wp2_with (first | (go_at_call 27; (with_reducible refine (eqUint32S_at w _ _ x.inn _ _ y.inn _ H0.out G0.out).mono ?_); rintro e w1 ⟨rfl, hb⟩; have n_ := Aside0.mk (below_step (w := w) bel hb); obtain ⟨hc, hf⟩ := bcell hb; have hz : w.heap.size < w1.heap.size := Nat.lt_of_lt_of_le (by first | assumption | (simp; done) | (simp; omega)) hb.size; have hz1 : w.heap.size + 1 < w1.heap.size := Nat.lt_of_lt_of_le (by first | assumption | (simp; done) | (simp; omega)) hb.size; clear HB hb; have HB := n_; clear n_) | (go_at_call 27; (with_reducible refine (eqUint32S_at w _ _ x.out _ _ y.out _ H1.out G1.out).mono ?_); rintro e w1 ⟨rfl, hb⟩; have n_ := Aside0.mk (below_step (w := w) bel hb); obtain ⟨hc, hf⟩ := bcell hb; have hz : w.heap.size < w1.heap.size := Nat.lt_of_lt_of_le (by first | assumption | (simp; done) | (simp; omega)) hb.size; have hz1 : w.heap.size + 1 < w1.heap.size := Nat.lt_of_lt_of_le (by first | assumption | (simp; done) | (simp; omega)) hb.size; clear HB hb; have HB := n_; clear n_) | (go_at_call 27; (with_reducible refine (eqUint32S_at w _ _ x.keep _ _ y.keep _ H2.out G2.out).mono ?_); rintro e w1 ⟨rfl, hb⟩; have n_ := Aside0.mk (below_step (w := w) bel hb); obtain ⟨hc, hf⟩ := bcell hb; have hz : w.heap.size < w1.heap.size := Nat.lt_of_lt_of_le (by first | assumption | (simp; done) | (simp; omega)) hb.size; have hz1 : w.heap.size + 1 < w1.heap.size := Nat.lt_of_lt_of_le (by first | assumption | (simp; done) | (simp; omega)) hb.size; clear HB hb; have HB := n_; clear n_))
  all_goals first
    | (rename_i hL; go_ret; exact ⟨by rw [eqT_false (a := x) (b := y) (fun e => by subst e; simp [eqT_self] at hL)]; rfl, bel⟩)
    | (go_ret; exact ⟨by rw [eqT_true (a := x) (b := y) (MMemory_ext (eqT_iff.1 (by simpa using ‹(!eqT x.inn y.inn) = false›)) (eqT_iff.1 (by simpa using ‹(!eqT x.out y.out) = false›)) (eqT_iff.1 (by simpa using ‹(!eqT x.keep y.keep) = false›)))]; rfl, bel⟩)

theorem eqMemory_at (w0 : World) (A0 B0 : Option Addr) (c0 d0 : Nat) (A1 B1 : Option Addr) (c1 d1 : Nat) (A2 B2 : Option Addr) (c2 d2 : Nat) (x y : MMemory) (w : World) (h0 : Kd.C (Kd.int .u32) w0 A0 x.inn.length x.inn) (h1 : Kd.C (Kd.int .u32) w0 A1 x.out.length x.out) (h2 : Kd.C (Kd.int .u32) w0 A2 x.keep.length x.keep) (g0 : Kd.C (Kd.int .u32) w0 B0 y.inn.length y.inn) (g1 : Kd.C (Kd.int .u32) w0 B1 y.out.length y.out) (g2 : Kd.C (Kd.int .u32) w0 B2 y.keep.length y.keep) (hb : Below w0.heap.size w0 w := by exact bel) :
    Calls Try.prog 9 #[.agg #[.slice A0 x.inn.length c0, .slice A1 x.out.length c1, .slice A2 x.keep.length c2], .agg #[.slice B0 y.inn.length d0, .slice B1 y.out.length d1, .slice B2 y.keep.length d2]] w fun e w' => e = .returned (.bool (eqT x y)) ∧ Below w.heap.size w w' := eqMemory_calls A0 B0 c0 d0 A1 B1 c1 d1 A2 B2 c2 d2 x y w (Kd.C_below h0 hb) (Kd.C_below h1 hb) (Kd.C_below h2 hb) (Kd.C_below g0 hb) (Kd.C_below g1 hb) (Kd.C_below g2 hb)

set_option maxHeartbeats 1000000 in
set_option maxRecDepth 100000 in
theorem eqValue_calls (x y : MValue) (w : World) :
    Calls Try.prog 57 #[.agg #[.int .i64 x.ty, .int .u32 x.word], .agg #[.int .i64 y.ty, .int .u32 y.word]] w fun e w' => e = .returned (.bool (eqT x y)) ∧ Below w.heap.size w w' := by
  have HB := Aside0.mk (Below.refl w.heap.size w)
  go_enter Try.func57, Try.ntmps57
  go_wp2
  all_goals first
    | (rename_i hL; go_ret; exact ⟨by rw [eqT_false (a := x) (b := y) (fun e => by subst e; simp [eqT_self] at hL)]; rfl, bel⟩)
    | (go_ret; exact ⟨by rw [eqT_true (a := x) (b := y) (MValue_ext (by first | assumption | simpa using ‹(x.ty != y.ty) = false›) (by first | assumption | simpa using ‹(x.word != y.word) = false›))]; rfl, bel⟩)

theorem eqValue_at (w0 : World) (x y : MValue) (w : World) (hb : Below w0.heap.size w0 w := by exact bel) :
    Calls Try.prog 57 #[.agg #[.int .i64 x.ty, .int .u32 x.word], .agg #[.int .i64 y.ty, .int .u32 y.word]] w fun e w' => e = .returned (.bool (eqT x y)) ∧ Below w.heap.size w w' := eqValue_calls x y w

set_option maxHeartbeats 1000000 in
set_option maxRecDepth 100000 in
theorem eqValueS_calls (A0 : Option Addr) (c0 : Nat) (l0 : List MValue) (A1 : Option Addr) (c1 : Nat) (l1 : List MValue) (w : World) (hr0 : Kd.C kValue_I w A0 l0.length l0) (hr1 : Kd.C kValue_I w A1 l1.length l1) :
    Calls Try.prog 29 #[.slice A0 l0.length c0, .slice A1 l1.length c1] w fun e w' => e = .returned (.bool (eqT l0 l1)) ∧ Below w.heap.size w w' := by
  have hm : l0.length ≤ 9223372036854775807 := hr0.2.1
  have HR0 := Aside0.mk hr0; have HR1 := Aside0.mk hr1
  clear hr0 hr1
  by_cases hl : l0.length = l1.length
  · have b0 : ((l0.length : Int) != (l1.length : Int)) = false := by simp [hl]
    have HL := Aside0.mk hl
    clear hl
    go_enter Try.func29, Try.ntmps29
    go_wp2
    go_loopw [5] (fun v wr => ∃ i : Int, 0 ≤ i ∧ i ≤ l0.length ∧ v = .int .i64 i ∧ Aside0 (∀ j : Nat, (j : Int) < i → l0.getD j zValue = l1.getD j zValue) ∧ Aside0 (Below w.heap.size w wr)) (fun v _ => ((l0.length : Int) - intOf v).toNat)
    case atStart => exact ⟨0, by omega, by omega, rfl, ⟨fun j h => by omega⟩, ⟨Below.refl _ _⟩⟩
    case round =>
      obtain ⟨i, h0, hi, rfl, HP, HB⟩ := hrel
      by_cases hlt : i < l0.length
      · have hlt1 : i < l1.length := by have := HL.out; omega
        obtain ⟨ad0, e0, x00, x01⟩ := atValue_I (Kd.C_below HR0.out HB.out) i h0 hlt
        cases e0
        obtain ⟨ad1, e1, x10, x11⟩ := atValue_I (Kd.C_below HR1.out HB.out) i h0 hlt1
        cases e1

        by_cases h : rdValue l0 i = rdValue l1 i
        · have t0 : eqT (rdValue l0 i) (rdValue l1 i) = true := eqT_true h
          have HE := Aside0.mk h
          clear h
          go_wp2
          go_still_tail 8, (by kernel_rfl)
          go_wp2_with (go_at_call 57; (with_reducible refine (eqValue_at wr  (rdValue l0 i) (rdValue l1 i) _ ).mono ?_); rintro e w1 ⟨rfl, hb⟩; have HB1 := Aside0.mk (below_step (w := w) bel hb); clear hb)
          go_roundw
          case rel => exact ⟨i + 1, by omega, by omega, rfl, ⟨fun j hj => by
            by_cases h1 : (j : Int) < i
            · exact HP.out j h1
            · obtain rfl : i = (j : Int) := by omega
              exact HE.out⟩, ⟨bel⟩⟩
          case measure => simp [intOf]; omega
        · have t0 : eqT (rdValue l0 i) (rdValue l1 i) = false := eqT_false h
          have HE : Aside0 (eqT l0 l1 = false) := ⟨eqT_false (fun e => h (by rw [e]))⟩
          clear h
          go_wp2
          go_still_tail 8, (by kernel_rfl)
          go_wp2_with (go_at_call 57; (with_reducible refine (eqValue_at wr  (rdValue l0 i) (rdValue l1 i) _ ).mono ?_); rintro e w1 ⟨rfl, hb⟩; have HB1 := Aside0.mk (below_step (w := w) bel hb); clear hb)
          go_ret
          exact ⟨by rw [HE.out]; rfl, bel⟩

      · have HE : Aside0 (eqT l0 l1 = true) := ⟨eqT_true (ext_getD zValue HL.out (fun j hj => HP.out j (by omega)))⟩
        go_wp2
        go_ret
        exact ⟨by rw [HE.out]; rfl, bel⟩
  · have b0 : ((l0.length : Int) != (l1.length : Int)) = true := by simp; omega
    have HE : Aside0 (eqT l0 l1 = false) := ⟨eqT_false (fun e => hl (by rw [e]))⟩
    go_enter Try.func29, Try.ntmps29
    go_wp2
    go_ret
    exact ⟨by rw [HE.out]; rfl, bel⟩

theorem eqValueS_at (w0 : World) (A0 : Option Addr) (c0 : Nat) (l0 : List MValue) (A1 : Option Addr) (c1 : Nat) (l1 : List MValue) (w : World) (hr0 : Kd.C kValue_I w0 A0 l0.length l0) (hr1 : Kd.C kValue_I w0 A1 l1.length l1) (hb : Below w0.heap.size w0 w := by exact bel) :
    Calls Try.prog 29 #[.slice A0 l0.length c0, .slice A1 l1.length c1] w fun e w' => e = .returned (.bool (eqT l0 l1)) ∧ Below w.heap.size w w' := eqValueS_calls A0 c0 l0 A1 c1 l1 w (Kd.C_below hr0 hb) (Kd.C_below hr1 hb)

set_option maxHeartbeats 1000000 in
set_option maxRecDepth 100000 in
theorem eqValueSS_calls (A0 : Option Addr) (c0 : Nat) (l0 : List (List MValue)) (A1 : Option Addr) (c1 : Nat) (l1 : List (List MValue)) (w : World) (hr0 : Kd.C (aslice 103 kValue_I) w A0 l0.length l0) (hr1 : Kd.C (aslice 103 kValue_I) w A1 l1.length l1) :
    Calls Try.prog 28 #[.slice A0 l0.length c0, .slice A1 l1.length c1] w fun e w' => e = .returned (.bool (eqT l0 l1)) ∧ Below w.heap.size w w' := by
  have hm : l0.length ≤ 9223372036854775807 := hr0.2.1
  have HR0 := Aside0.mk hr0; have HR1 := Aside0.mk hr1
  clear hr0 hr1
  by_cases hl : l0.length = l1.length
  · have b0 : ((l0.length : Int) != (l1.length : Int)) = false := by simp [hl]
    have HL := Aside0.mk hl
    clear hl
    go_enter Try.func28, Try.ntmps28
    go_wp2
    go_loopw [5] (fun v wr => ∃ i : Int, 0 ≤ i ∧ i ≤ l0.length ∧ v = .int .i64 i ∧ Aside0 (∀ j : Nat, (j : Int) < i → l0.getD j [] = l1.getD j []) ∧ Aside0 (Below w.heap.size w wr)) (fun v _ => ((l0.length : Int) - intOf v).toNat)
    case atStart => exact ⟨0, by omega, by omega, rfl, ⟨fun j h => by omega⟩, ⟨Below.refl _ _⟩⟩
    case round =>
      obtain ⟨i, h0, hi, rfl, HP, HB⟩ := hrel
      by_cases hlt : i < l0.length
      · have hlt1 : i < l1.length := by have := HL.out; omega
        obtain ⟨ad0, B0, b0, e0, x0, y0, z0⟩ := atSS (Kd.C_below HR0.out HB.out) i h0 hlt
        cases e0
        obtain ⟨ad1, B1, b1, e1, x1, y1, z1⟩ := atSS (Kd.C_below HR1.out HB.out) i h0 hlt1
        cases e1

        by_cases h : rdLL l0 i = rdLL l1 i
        · have t0 : eqT (rdLL l0 i) (rdLL l1 i) = true := eqT_true h
          have HE := Aside0.mk h
          clear h
          go_wp2
          go_still_tail 8, (by kernel_rfl)
          go_wp2_with (go_at_call 29; (with_reducible refine (eqValueS_at wr _ _ (rdLL l0 i) _ _ (rdLL l1 i) _ z0 z1).mono ?_); rintro e w1 ⟨rfl, hb⟩; have HB1 := Aside0.mk (below_step (w := w) bel hb); clear hb)
          go_roundw
          case rel => exact ⟨i + 1, by omega, by omega, rfl, ⟨fun j hj => by
            by_cases h1 : (j : Int) < i
            · exact HP.out j h1
            · obtain rfl : i = (j : Int) := by omega
              exact HE.out⟩, ⟨bel⟩⟩
          case measure => simp [intOf]; omega
        · have t0 : eqT (rdLL l0 i) (rdLL l1 i) = false := eqT_false h
          have HE : Aside0 (eqT l0 l1 = false) := ⟨eqT_false (fun e => h (by rw [e]))⟩
          clear h
          go_wp2
          go_still_tail 8, (by kernel_rfl)
          go_wp2_with (go_at_call 29; (with_reducible refine (eqValueS_at wr _ _ (rdLL l0 i) _ _ (rdLL l1 i) _ z0 z1).mono ?_); rintro e w1 ⟨rfl, hb⟩; have HB1 := Aside0.mk (below_step (w := w) bel hb); clear hb)
          go_ret
          exact ⟨by rw [HE.out]; rfl, bel⟩

      · have HE : Aside0 (eqT l0 l1 = true) := ⟨eqT_true (ext_getD [] HL.out (fun j hj => HP.out j (by omega)))⟩
        go_wp2
        go_ret
        exact ⟨by rw [HE.out]; rfl, bel⟩
  · have b0 : ((l0.length : Int) != (l1.length : Int)) = true := by simp; omega
    have HE : Aside0 (eqT l0 l1 = false) := ⟨eqT_false (fun e => hl (by rw [e]))⟩
    go_enter Try.func28, Try.ntmps28
    go_wp2
    go_ret
    exact ⟨by rw [HE.out]; rfl, bel⟩

theorem eqValueSS_at (w0 : World) (A0 : Option Addr) (c0 : Nat) (l0 : List (List MValue)) (A1 : Option Addr) (c1 : Nat) (l1 : List (List MValue)) (w : World) (hr0 : Kd.C (aslice 103 kValue_I) w0 A0 l0.length l0) (hr1 : Kd.C (aslice 103 kValue_I) w0 A1 l1.length l1) (hb : Below w0.heap.size w0 w := by exact bel) :
    Calls Try.prog 28 #[.slice A0 l0.length c0, .slice A1 l1.length c1] w fun e w' => e = .returned (.bool (eqT l0 l1)) ∧ Below w.heap.size w w' := eqValueSS_calls A0 c0 l0 A1 c1 l1 w (Kd.C_below hr0 hb) (Kd.C_below hr1 hb)

set_option maxHeartbeats 1000000 in
set_option maxRecDepth 100000 in
theorem eqFrame_calls (A3 B3 : Option Addr) (c3 d3 : Nat) (x y : MFrame) (w : World) (h3 : Kd.C kValue_I w A3 x.locals.length x.locals) (g3 : Kd.C kValue_I w B3 y.locals.length y.locals) :
    Calls Try.prog 58 #[.agg #[.int .i64 x.func, .int .i64 x.at_, .int .i64 x.base, .slice A3 x.locals.length c3], .agg #[.int .i64 y.func, .int .i64 y.at_, .int .i64 y.base, .slice B3 y.locals.length d3]] w fun e w' => e = .returned (.bool (eqT x y)) ∧ Below w.heap.size w w' := by
  have H3 := Aside0.mk h3; have G3 := Aside0.mk g3; have HB := Aside0.mk (Below.refl w.heap.size w)
  clear h3 g3
  go_enter Try.func58, Try.ntmps58
  go_wp2_with (first | (go_at_call 29; (with_reducible refine (eqValueS_at w _ _ x.locals _ _ y.locals _ H3.out G3.out).mono ?_); rintro e w1 ⟨rfl, hb⟩; have n_ := Aside0.mk (below_step (w := w) bel hb); obtain ⟨hc, hf⟩ := bcell hb; have hz : w.heap.size < w1.heap.size := Nat.lt_of_lt_of_le (by first | assumption | (simp; done) | (simp; omega)) hb.size; have hz1 : w.heap.size + 1 < w1.heap.size := Nat.lt_of_lt_of_le (by first | assumption | (simp; done) | (simp; omega)) hb.size; clear HB hb; have HB := n_; clear n_))
  all_goals first
    | (rename_i hL; go_ret; exact ⟨by rw [eqT_false (a := x) (b := y) (fun e => by subst e; simp [eqT_self] at hL)]; rfl, bel⟩)
    | (go_ret; exact ⟨by rw [eqT_true (a := x) (b := y) (MFrame_ext (by first | assumption | simpa using ‹(x.func != y.func) = false›) (by first | assumption | simpa using ‹(x.at_ != y.at_) = false›) (by first | assumption | simpa using ‹(x.base != y.base) = false›) (eqT_iff.1 (by simpa using ‹(!eqT x.locals y.locals) = false›)))]; rfl, bel⟩)

theorem eqFrame_at (w0 : World) (A3 B3 : Option Addr) (c3 d3 : Nat) (x y : MFrame) (w : World) (h3 : Kd.C kValue_I w0 A3 x.locals.length x.locals) (g3 : Kd.C kValue_I w0 B3 y.locals.length y.locals) (hb : Below w0.heap.size w0 w := by exact bel) :
    Calls Try.prog 58 #[.agg #[.int .i64 x.func, .int .i64 x.at_, .int .i64 x.base, .slice A3 x.locals.length c3], .agg #[.int .i64 y.func, .int .i64 y.at_, .int .i64 y.base, .slice B3 y.locals.length d3]] w fun e w' => e = .returned (.bool (eqT x y)) ∧ Below w.heap.size w w' := eqFrame_calls A3 B3 c3 d3 x y w (Kd.C_below h3 hb) (Kd.C_below g3 hb)

set_option maxHeartbeats 1000000 in
set_option maxRecDepth 100000 in
theorem eqFrameS_calls (A0 : Option Addr) (c0 : Nat) (l0 : List MFrame) (A1 : Option Addr) (c1 : Nat) (l1 : List MFrame) (w : World) (hr0 : Kd.C kFrame_I w A0 l0.length l0) (hr1 : Kd.C kFrame_I w A1 l1.length l1) :
    Calls Try.prog 30 #[.slice A0 l0.length c0, .slice A1 l1.length c1] w fun e w' => e = .returned (.bool (eqT l0 l1)) ∧ Below w.heap.size w w' := by
  have hm : l0.length ≤ 9223372036854775807 := hr0.2.1
  have HR0 := Aside0.mk hr0; have HR1 := Aside0.mk hr1
  clear hr0 hr1
  by_cases hl : l0.length = l1.length
  · have b0 : ((l0.length : Int) != (l1.length : Int)) = false := by simp [hl]
    have HL := Aside0.mk hl
    clear hl
    go_enter Try.func30, Try.ntmps30
    go_wp2
    go_loopw [5] (fun v wr => ∃ i : Int, 0 ≤ i ∧ i ≤ l0.length ∧ v = .int .i64 i ∧ Aside0 (∀ j : Nat, (j : Int) < i → l0.getD j zFrame = l1.getD j zFrame) ∧ Aside0 (Below w.heap.size w wr)) (fun v _ => ((l0.length : Int) - intOf v).toNat)
    case atStart => exact ⟨0, by omega, by omega, rfl, ⟨fun j h => by omega⟩, ⟨Below.refl _ _⟩⟩
    case round =>
      obtain ⟨i, h0, hi, rfl, HP, HB⟩ := hrel
      by_cases hlt : i < l0.length
      · have hlt1 : i < l1.length := by have := HL.out; omega
        obtain ⟨ad0, B03, b03, e0, x00, x01, x02, x03, y03, z03⟩ := atFrame_I (Kd.C_below HR0.out HB.out) i h0 hlt
        cases e0
        obtain ⟨ad1, B13, b13, e1, x10, x11, x12, x13, y13, z13⟩ := atFrame_I (Kd.C_below HR1.out HB.out) i h0 hlt1
        cases e1

        by_cases h : rdFrame l0 i = rdFrame l1 i
        · have t0 : eqT (rdFrame l0 i) (rdFrame l1 i) = true := eqT_true h
          have HE := Aside0.mk h
          clear h
          go_wp2
          go_still_tail 8, (by kernel_rfl)
          go_wp2_with (go_at_call 58; (with_reducible refine (eqFrame_at wr _ _ _ _ (rdFrame l0 i) (rdFrame l1 i) _ z03 z13).mono ?_); rintro e w1 ⟨rfl, hb⟩; have HB1 := Aside0.mk (below_step (w := w) bel hb); clear hb)
          go_roundw
          case rel => exact ⟨i + 1, by omega, by omega, rfl, ⟨fun j hj => by
            by_cases h1 : (j : Int) < i
            · exact HP.out j h1
            · obtain rfl : i = (j : Int) := by omega
              exact HE.out⟩, ⟨bel⟩⟩
          case measure => simp [intOf]; omega
        · have t0 : eqT (rdFrame l0 i) (rdFrame l1 i) = false := eqT_false h
          have HE : Aside0 (eqT l0 l1 = false) := ⟨eqT_false (fun e => h (by rw [e]))⟩
          clear h
          go_wp2
          go_still_tail 8, (by kernel_rfl)
          go_wp2_with (go_at_call 58; (with_reducible refine (eqFrame_at wr _ _ _ _ (rdFrame l0 i) (rdFrame l1 i) _ z03 z13).mono ?_); rintro e w1 ⟨rfl, hb⟩; have HB1 := Aside0.mk (below_step (w := w) bel hb); clear hb)
          go_ret
          exact ⟨by rw [HE.out]; rfl, bel⟩

      · have HE : Aside0 (eqT l0 l1 = true) := ⟨eqT_true (ext_getD zFrame HL.out (fun j hj => HP.out j (by omega)))⟩
        go_wp2
        go_ret
        exact ⟨by rw [HE.out]; rfl, bel⟩
  · have b0 : ((l0.length : Int) != (l1.length : Int)) = true := by simp; omega
    have HE : Aside0 (eqT l0 l1 = false) := ⟨eqT_false (fun e => hl (by rw [e]))⟩
    go_enter Try.func30, Try.ntmps30
    go_wp2
    go_ret
    exact ⟨by rw [HE.out]; rfl, bel⟩

theorem eqFrameS_at (w0 : World) (A0 : Option Addr) (c0 : Nat) (l0 : List MFrame) (A1 : Option Addr) (c1 : Nat) (l1 : List MFrame) (w : World) (hr0 : Kd.C kFrame_I w0 A0 l0.length l0) (hr1 : Kd.C kFrame_I w0 A1 l1.length l1) (hb : Below w0.heap.size w0 w := by exact bel) :
    Calls Try.prog 30 #[.slice A0 l0.length c0, .slice A1 l1.length c1] w fun e w' => e = .returned (.bool (eqT l0 l1)) ∧ Below w.heap.size w w' := eqFrameS_calls A0 c0 l0 A1 c1 l1 w (Kd.C_below hr0 hb) (Kd.C_below hr1 hb)

set_option maxHeartbeats 1000000 in
set_option maxRecDepth 100000 in
theorem eqState_calls (A4 B4 : Option Addr) (c4 d4 : Nat) (A5 B5 : Option Addr) (c5 d5 : Nat) (A6 B6 : Option Addr) (c6 d6 : Nat) (x y : MState) (w : World) (h4 : Kd.C (aslice 103 kValue_I) w A4 x.cells.length x.cells) (h5 : Kd.C kValue_I w A5 x.stack.length x.stack) (h6 : Kd.C kFrame_I w A6 x.frames.length x.frames) (g4 : Kd.C (aslice 103 kValue_I) w B4 y.cells.length y.cells) (g5 : Kd.C kValue_I w B5 y.stack.length y.stack) (g6 : Kd.C kFrame_I w B6 y.frames.length y.frames) :
    Calls Try.prog 10 #[.agg #[.int .i64 x.trap, .bool x.done, .int .i64 x.cost, .int .i64 x.steps, .slice A4 x.cells.length c4, .slice A5 x.stack.length c5, .slice A6 x.frames.length c6], .agg #[.int .i64 y.trap, .bool y.done, .int .i64 y.cost, .int .i64 y.steps, .slice B4 y.cells.length d4, .slice B5 y.stack.length d5, .slice B6 y.frames.length d6]] w fun e w' => e = .returned (.bool (eqT x y)) ∧ Below w.heap.size w w' := by
  have H4 := Aside0.mk h4; have G4 := Aside0.mk g4; have H5 := Aside0.mk h5; have G5 := Aside0.mk g5; have H6 := Aside0.mk h6; have G6 := Aside0.mk g6; have HB := Aside0.mk (Below.refl w.heap.size w)
  clear h4 g4 h5 g5 h6 g6
  go_enter Try.func10, Try.ntmps10
  go_wp2_with (first | (go_at_call 28; (with_reducible refine (eqValueSS_at w _ _ x.cells _ _ y.cells _ H4.out G4.out).mono ?_); rintro e w1 ⟨rfl, hb⟩; have n_ := Aside0.mk (below_step (w := w) bel hb); obtain ⟨hc, hf⟩ := bcell hb; have hz : w.heap.size < w1.heap.size := Nat.lt_of_lt_of_le (by first | assumption | (simp; done) | (simp; omega)) hb.size; have hz1 : w.heap.size + 1 < w1.heap.size := Nat.lt_of_lt_of_le (by first | assumption | (simp; done) | (simp; omega)) hb.size; clear HB hb; have HB := n_; clear n_) | (go_at_call 29; (with_reducible refine (eqValueS_at w _ _ x.stack _ _ y.stack _ H5.out G5.out).mono ?_); rintro e w1 ⟨rfl, hb⟩; have n_ := Aside0.mk (below_step (w := w) bel hb); obtain ⟨hc, hf⟩ := bcell hb; have hz : w.heap.size < w1.heap.size := Nat.lt_of_lt_of_le (by first | assumption | (simp; done) | (simp; omega)) hb.size; have hz1 : w.heap.size + 1 < w1.heap.size := Nat.lt_of_lt_of_le (by first | assumption | (simp; done) | (simp; omega)) hb.size; clear HB hb; have HB := n_; clear n_) | (go_at_call 30; (with_reducible refine (eqFrameS_at w _ _ x.frames _ _ y.frames _ H6.out G6.out).mono ?_); rintro e w1 ⟨rfl, hb⟩; have n_ := Aside0.mk (below_step (w := w) bel hb); obtain ⟨hc, hf⟩ := bcell hb; have hz : w.heap.size < w1.heap.size := Nat.lt_of_lt_of_le (by first | assumption | (simp; done) | (simp; omega)) hb.size; have hz1 : w.heap.size + 1 < w1.heap.size := Nat.lt_of_lt_of_le (by first | assumption | (simp; done) | (simp; omega)) hb.size; clear HB hb; have HB := n_; clear n_))
  all_goals first
    | (rename_i hL; go_ret; exact ⟨by rw [eqT_false (a := x) (b := y) (fun e => by subst e; simp [eqT_self] at hL)]; rfl, bel⟩)
    | (go_ret; exact ⟨by rw [eqT_true (a := x) (b := y) (MState_ext (by first | assumption | simpa using ‹(x.trap != y.trap) = false›) (by first | assumption | simpa using ‹(x.done != y.done) = false›) (by first | assumption | simpa using ‹(x.cost != y.cost) = false›) (by first | assumption | simpa using ‹(x.steps != y.steps) = false›) (eqT_iff.1 (by simpa using ‹(!eqT x.cells y.cells) = false›)) (eqT_iff.1 (by simpa using ‹(!eqT x.stack y.stack) = false›)) (eqT_iff.1 (by simpa using ‹(!eqT x.frames y.frames) = false›)))]; rfl, bel⟩)

theorem eqState_at (w0 : World) (A4 B4 : Option Addr) (c4 d4 : Nat) (A5 B5 : Option Addr) (c5 d5 : Nat) (A6 B6 : Option Addr) (c6 d6 : Nat) (x y : MState) (w : World) (h4 : Kd.C (aslice 103 kValue_I) w0 A4 x.cells.length x.cells) (h5 : Kd.C kValue_I w0 A5 x.stack.length x.stack) (h6 : Kd.C kFrame_I w0 A6 x.frames.length x.frames) (g4 : Kd.C (aslice 103 kValue_I) w0 B4 y.cells.length y.cells) (g5 : Kd.C kValue_I w0 B5 y.stack.length y.stack) (g6 : Kd.C kFrame_I w0 B6 y.frames.length y.frames) (hb : Below w0.heap.size w0 w := by exact bel) :
    Calls Try.prog 10 #[.agg #[.int .i64 x.trap, .bool x.done, .int .i64 x.cost, .int .i64 x.steps, .slice A4 x.cells.length c4, .slice A5 x.stack.length c5, .slice A6 x.frames.length c6], .agg #[.int .i64 y.trap, .bool y.done, .int .i64 y.cost, .int .i64 y.steps, .slice B4 y.cells.length d4, .slice B5 y.stack.length d5, .slice B6 y.frames.length d6]] w fun e w' => e = .returned (.bool (eqT x y)) ∧ Below w.heap.size w w' := eqState_calls A4 B4 c4 d4 A5 B5 c5 d5 A6 B6 c6 d6 x y w (Kd.C_below h4 hb) (Kd.C_below h5 hb) (Kd.C_below h6 hb) (Kd.C_below g4 hb) (Kd.C_below g5 hb) (Kd.C_below g6 hb)

end Go.Proofs.Ytlnlbncinjiinab.X
