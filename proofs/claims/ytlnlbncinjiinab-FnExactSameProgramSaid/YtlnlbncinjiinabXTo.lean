/- Of this session: contracts over the words of the kit's print. -/
import Derived.Test.YtlnlbncinjiinabProg
import Derived.Below
import Derived.Deep.Draws
import Derived.Deep.AppendLies
import Derived.Maps.AppendAt
import Derived.OwnWalk
import Derived.Laws.BytesArg
import Derived.Laws.MakeOwn
import Derived.Laws.OwnMore
import Derived.Deep.OwnRows
import Derived.Tactics
import Derived.Lib.ConvBytes
import Derived.Laws.Slices
import Derived.WalkKit
import Derived.KernelRfl
import Derived.RowKit3
import Derived.Deep.LoopGhost
import Derived.Deep.QuietTactic
import Derived.BigQuiet
import Derived.WideLaws
import Derived.Deep.DeepCutAuto
import Derived.Deep.CutBlock
import Derived.Deep.RegionHeld3
import Derived.Laws.Rows
import Derived.Lib.AppendStr
import Derived.ArgAppend
import Derived.Laws.IdiomCopy
import Derived.OrdersHeld
import Derived.Laws.BitsLemmas
import Derived.RowKit
import Derived.StillTailTactics
import Derived.Test.YtlnlbncinjiinabWWords
import Derived.Test.YtlnlbncinjiinabWLast
import Derived.Test.YtlnlbncinjiinabWTab
import Derived.Test.YtlnlbncinjiinabWFour
import Derived.Test.YtlnlbncinjiinabWQPut
import Derived.Test.YtlnlbncinjiinabWApart
import Derived.Test.YtlnlbncinjiinabWArr
import Derived.Test.YtlnlbncinjiinabWZeros
import Derived.Test.YtlnlbncinjiinabWFoot
import Derived.Test.YtlnlbncinjiinabWKept
import Derived.Test.YtlnlbncinjiinabWShare
import Derived.Test.YtlnlbncinjiinabWN
import Derived.Test.YtlnlbncinjiinabWFootNe
import Derived.Test.YtlnlbncinjiinabWAt
import Derived.Test.YtlnlbncinjiinabWEqStruct
import Derived.Test.YtlnlbncinjiinabWRepsOne
import Derived.Test.YtlnlbncinjiinabWInv
import Derived.Test.YtlnlbncinjiinabWInvWords
import Derived.Test.YtlnlbncinjiinabWGuard
import Derived.Test.YtlnlbncinjiinabWNEv
import Derived.Test.YtlnlbncinjiinabWMore
import Derived.ChangeArms
import Derived.Test.YtlnlbncinjiinabX0
import Derived.Test.YtlnlbncinjiinabXSz
namespace Go.Proofs.Ytlnlbncinjiinab.X
open Go.RowKit Go.Proofs.YtlnlbncinjiinabW.PrintWords Go.Proofs.YtlnlbncinjiinabW.PrintLast Go.Proofs.YtlnlbncinjiinabW.PrintMore
set_option linter.unusedVariables false
set_option linter.unusedSimpArgs false
theorem fill_step {α : Type} (z zl : α) (l : List α) (n : Nat) (i : Int) (h0 : 0 ≤ i) (h1 : i < n) (hn : l.length = n) :
    ((l.take i.toNat ++ List.replicate (n - i.toNat) z).set i.toNat (l.getD i.toNat zl)) = l.take (i + 1).toNat ++ List.replicate (n - (i + 1).toNat) z := by
  have hi : i.toNat < l.length := by omega
  have h2 : (i + 1).toNat = i.toNat + 1 := by omega
  have h3 : n - i.toNat = (n - (i.toNat + 1)) + 1 := by omega
  rw [h2, h3, List.replicate_succ, List.take_succ_eq_append_getElem hi]
  rw [List.set_append_right _ _ (by rw [List.length_take]; omega)]
  have h4 : i.toNat - (l.take i.toNat).length = 0 := by rw [List.length_take]; omega
  rw [h4, List.set_cons_zero, List.getD_eq_getElem?_getD, List.getElem?_eq_getElem hi]
  simp only [Option.getD_some, List.append_assoc, List.singleton_append]
theorem fill_len {α : Type} (z : α) (l : List α) (n : Nat) (i : Int) (h0 : 0 ≤ i) (h1 : i ≤ n) (hn : l.length = n) : (l.take i.toNat ++ List.replicate (n - i.toNat) z).length = n := by
  rw [List.length_append, List.length_take, List.length_replicate]; omega
theorem fill_end {α : Type} (z : α) (l : List α) : l.take (l.length : Int).toNat ++ List.replicate (l.length - (l.length : Int).toNat) z = l := by simp
theorem R_storeA {α : Type} {P : Program} {ops : Array Oper} {rest : List Oper} {o : Oper} {a : Act} {Q : Exit → Act → World → Prop} (d : Kd α) {w0 W : World} (base : Nat) (hN : o.dst = none) (hgd : o.guard = none) (t : TypeId) (p x : Operand) (ho : o.op = .store t p x) (e : TypeId) {g n cap o' : Nat} (i : Int) (xs : List α) (x' : α) (u : Value) (seg : List Value)
    (haddr : a.eval p = .pointer (some ⟨g, o', none⟩)) (hoff : o' = i.toNat * d.sz) (hx : a.eval x = u) (hu : u.cells.toList = seg) (ht : (P.info? t).map (·.size) = some seg.length) (h1 : ∀ q ∈ seg, q.oneCell' = true)
    (HO : d.R e W base (fun _ => True) (.slice (some ⟨g, 0, none⟩) n cap) xs) (h0 : 0 ≤ i) (hi : i < n) (z : α) (hseg : seg.length = d.sz) (hM : d.M W base (fun k => True ∧ k ≠ g) x' seg) (HB : Below base w0 W)
    (h : ∀ w1, d.R e w1 base (fun _ => True) (.slice (some ⟨g, 0, none⟩) n cap) (xs.set i.toNat x') → Below base w0 w1 → W.grownBy w1 (some g) → wpList P ops Q rest a w1) : wpList P ops Q (o :: rest) a W := by
  obtain ⟨c, hcl, _, hcc, _⟩ := Kd.R_elem HO z i h0 hi
  refine Kd.R_store d base hN hgd t p x ho e i 0 xs x' u seg c (fun _ => True) (fun k => True ∧ k ≠ g) haddr hoff hx hu ht h1 HO h0 hi hcl hcc (by omega) ?_ (fun _ hk => hk) HB h
  have : c.drop (0 + seg.length) = [] := List.drop_eq_nil_of_le (by omega)
  rw [this, List.take_zero, List.nil_append, List.append_nil]
  exact hM
theorem szsum_mem {α : Type} (f : α → Nat) (z : α) (l : List α) (i : Nat) (h : i < l.length) : f (l.getD i z) ≤ szsum f l := by
  have h1 := szsum_step f z l i h
  have h2 := szsum_le f l (i + 1)
  omega

theorem info_Int64S : (Try.prog.info? 78).map (fun i => (i.zero, i.size, i.bytes)) = some (some (.slice none 0 0), 1, 24) := by kernel_rfl

theorem info_Int64 : (Try.prog.info? 2).map (fun i => (i.zero, i.size, i.bytes)) = some (some (.int .i64 0), 1, 8) := by kernel_rfl

set_option maxHeartbeats 1000000 in
set_option maxRecDepth 100000 in
theorem toInt64S_calls (A0 : Option Addr) (c0 : Nat) (l0 : List Int) (w : World) (hr : Kd.C (Kd.int .i64) w A0 l0.length l0) (hn : l0.length ≤ 1048576) :
    Calls Try.prog 61 #[.slice A0 l0.length c0] w fun e w' => ∃ A c, e = .returned (.slice A l0.length c) ∧ Kd.R (Kd.int .i64) 2 w' w.heap.size (fun _ => True) (.slice A l0.length c) l0 ∧ Below w.heap.size w w' := by
  have hl : l0.length ≤ 1048576 := by first | exact hn | (unfold szInt64S at hn; omega)
  have HR := Aside0.mk hr
  clear hr
  go_enter Try.func61, Try.ntmps61
  go_wp2_with (refine Kd.R_make (Kd.int .i64) _ 2 rfl rfl 78 _ _ rfl (l0.length : Int) rfl rfl Try.underlying78 (.int .i64 0) 8 info_Int64 rfl (by decide) (by omega) 0 (ok := fun _ => True) (okp := fun _ => True) rfl (fun _ hk => hk) trivial (by omega) (by simp; omega) (Below.refl w.heap.size w) (Nat.le_refl _) ?_; intro vo w1 ho hb hg hnew; clear hg hnew; have HO0 := Aside0.mk ho; have HB0 := Aside0.mk hb; clear ho hb)
  go_loopw [4] (fun v wr => ∃ i : Int, 0 ≤ i ∧ i ≤ l0.length ∧ v = .int .i64 i ∧ Aside0 (Kd.R (Kd.int .i64) 2 wr w.heap.size (fun _ => True) vo (l0.take i.toNat ++ List.replicate (l0.length - i.toNat) 0)) ∧ Aside0 (Below w.heap.size w wr)) (fun v _ => ((l0.length : Int) - intOf v).toNat)
  case atStart => exact ⟨0, by omega, by omega, rfl, ⟨by simpa using HO0.out⟩, HB0⟩
  case round =>
    obtain ⟨i, h0, hi, rfl, HO, HB⟩ := hrel
    clear HO0 HB0
    by_cases hlt : i < l0.length
    · obtain ⟨ad0, e0, x0⟩ := Kd.at_int (Kd.C_below HR.out HB.out) i h0 hlt
      cases e0
      have HLen := Aside0.mk (fill_len 0 l0 l0.length i h0 hi rfl)
      have HF := Aside0.mk (fill_step 0 0 l0 l0.length i h0 hlt rfl)
      obtain ⟨g, cap, ev, hgl⟩ : ∃ g cap, vo = .slice (some ⟨g, 0, none⟩) l0.length cap ∧ Aside0 (g < wr.heap.size) := by
        obtain ⟨g, cap, ev, _, h2, _⟩ := Kd.R_form HO.out (by rw [HLen.out]; omega)
        exact ⟨g, cap, by rw [ev, HLen.out], ⟨h2⟩⟩
      subst ev
      
      obtain ⟨hx, hfr⟩ := Kd.R_celln 0 HO.out i h0 hlt
      have HO2 := Aside0.mk (Kd.R_putg HO.out i (rd l0 i)).1
      have HB2 := Aside0.mk (below_set (g := g) (j := i.toNat) (v := .int .i64 (rd l0 i)) HB.out (Kd.R_base HO.out g rfl))
      go_wp2
      go_roundw
      case rel => exact ⟨i + 1, by omega, by omega, rfl, ⟨by rw [← HF.out]; exact HO2.out⟩, HB2⟩
      case measure => simp [intOf]; omega
    · obtain rfl : i = l0.length := by omega
      have HE := Aside0.mk (show Kd.R (Kd.int .i64) 2 wr w.heap.size (fun _ => True) vo l0 from by have h := HO.out; rwa [fill_end] at h)
      obtain ⟨A, c, ev⟩ := Kd.R_slice HE.out
      subst ev
      go_wp2
      go_ret
      exact ⟨_, _, rfl, HE.out, bel⟩

theorem toInt64S_at (w0 : World) (A0 : Option Addr) (c0 : Nat) (l0 : List Int) (w : World) (hr : Kd.C (Kd.int .i64) w0 A0 l0.length l0) (hn : l0.length ≤ 1048576) (hb : Below w0.heap.size w0 w := by exact bel) :
    Calls Try.prog 61 #[.slice A0 l0.length c0] w fun e w' => ∃ A c, e = .returned (.slice A l0.length c) ∧ Kd.R (Kd.int .i64) 2 w' w.heap.size (fun _ => True) (.slice A l0.length c) l0 ∧ Below w.heap.size w w' := toInt64S_calls A0 c0 l0 w (Kd.C_below hr hb) hn

set_option maxHeartbeats 1000000 in
set_option maxRecDepth 100000 in
theorem toInt64SS_calls (A0 : Option Addr) (c0 : Nat) (l0 : List (List Int)) (w : World) (hr : Kd.C (Kd.slice 2 (Kd.int .i64)) w A0 l0.length l0) (hn : szInt64SS l0 ≤ 1048576) :
    Calls Try.prog 42 #[.slice A0 l0.length c0] w fun e w' => ∃ A c, e = .returned (.slice A l0.length c) ∧ Kd.R (Kd.slice 2 (Kd.int .i64)) 78 w' w.heap.size (fun _ => True) (.slice A l0.length c) l0 ∧ Below w.heap.size w w' := by
  have hl : l0.length ≤ 1048576 := by first | exact hn | (unfold szInt64SS at hn; omega)
  have HR := Aside0.mk hr
  clear hr
  go_enter Try.func42, Try.ntmps42
  go_wp2_with (refine Kd.R_make (Kd.slice 2 (Kd.int .i64)) _ 78 rfl rfl 43 _ _ rfl (l0.length : Int) rfl rfl Try.underlying43 (.slice none 0 0) 24 info_Int64S rfl (by decide) (by omega) [] (ok := fun _ => True) (okp := fun _ => True) (Kd.M_row (Kd.R_nil _ _ _ _ _)) (fun _ hk => hk) trivial (by omega) (by simp; omega) (Below.refl w.heap.size w) (Nat.le_refl _) ?_; intro vo w1 ho hb hg hnew; clear hg hnew; have HO0 := Aside0.mk ho; have HB0 := Aside0.mk hb; clear ho hb)
  go_loopw [4] (fun v wr => ∃ i : Int, 0 ≤ i ∧ i ≤ l0.length ∧ v = .int .i64 i ∧ Aside0 (Kd.R (Kd.slice 2 (Kd.int .i64)) 78 wr w.heap.size (fun _ => True) vo (l0.take i.toNat ++ List.replicate (l0.length - i.toNat) [])) ∧ Aside0 (Below w.heap.size w wr)) (fun v _ => ((l0.length : Int) - intOf v).toNat)
  case atStart => exact ⟨0, by omega, by omega, rfl, ⟨by simpa using HO0.out⟩, HB0⟩
  case round =>
    obtain ⟨i, h0, hi, rfl, HO, HB⟩ := hrel
    clear HO0 HB0
    by_cases hlt : i < l0.length
    · obtain ⟨ad0, B0, b0, e0, x0, y0, q0⟩ := atLL (Kd.C_below HR.out HB.out) i h0 hlt
      cases e0
      have HLen := Aside0.mk (fill_len [] l0 l0.length i h0 hi rfl)
      have HF := Aside0.mk (fill_step [] [] l0 l0.length i h0 hlt rfl)
      obtain ⟨g, cap, ev, hgl⟩ : ∃ g cap, vo = .slice (some ⟨g, 0, none⟩) l0.length cap ∧ Aside0 (g < wr.heap.size) := by
        obtain ⟨g, cap, ev, _, h2, _⟩ := Kd.R_form HO.out (by rw [HLen.out]; omega)
        exact ⟨g, cap, by rw [ev, HLen.out], ⟨h2⟩⟩
      subst ev
      have hq : (rdLL l0 i).length ≤ 1048576 := by (have h1 := szsum_mem szInt64S [] l0 i.toNat (by omega); unfold szInt64SS at hn; exact Nat.le_trans h1 (by omega))
      have HQ := Aside0.mk hq
      clear hq
      go_wp2_with (first | (go_at_call 61; (with_reducible refine (toInt64S_at wr _ _ (rdLL l0 i) _ q0 HQ.out).mono ?_); rintro e w1 ⟨a0, b0, rfl, ho0, hb⟩; have R0 := Aside0.mk (Kd.R_mono (ok' := fun k => True ∧ k ≠ g) (Kd.R_lower (Kd.R_bound ho0) HB.out.size) (fun k hk => ⟨trivial, by have := hk.2.1; have := hgl.out; omega⟩)); have HO1 := Aside0.mk (Kd.R_below HO.out hb); have HB1 := Aside0.mk (below_step (w := w) bel hb); clear hb ho0) | (refine R_storeA (Kd.slice 2 (Kd.int .i64)) w.heap.size rfl rfl 78 _ _ rfl 78 i _ (rdLL l0 i) (.slice a0 (rdLL l0 i).length b0) [.slice a0 (rdLL l0 i).length b0] rfl (by first | rfl | exact (Nat.mul_one _).symm) rfl rfl (by kernel_rfl) (by intro q hq; simp at hq; first | (subst hq; rfl) | (rcases hq with rfl <;> rfl)) HO1.out h0 (by omega) [] rfl (Kd.M_row R0.out) HB1.out ?_; intro w2 ho2 hb2 hg2; have HO2 := Aside0.mk ho2; have HB2 := Aside0.mk hb2; clear ho2 hb2 hg2))
      go_roundw
      case rel => exact ⟨i + 1, by omega, by omega, rfl, ⟨by rw [← HF.out]; exact HO2.out⟩, HB2⟩
      case measure => simp [intOf]; omega
    · obtain rfl : i = l0.length := by omega
      have HE := Aside0.mk (show Kd.R (Kd.slice 2 (Kd.int .i64)) 78 wr w.heap.size (fun _ => True) vo l0 from by have h := HO.out; rwa [fill_end] at h)
      obtain ⟨A, c, ev⟩ := Kd.R_slice HE.out
      subst ev
      go_wp2
      go_ret
      exact ⟨_, _, rfl, HE.out, bel⟩

theorem toInt64SS_at (w0 : World) (A0 : Option Addr) (c0 : Nat) (l0 : List (List Int)) (w : World) (hr : Kd.C (Kd.slice 2 (Kd.int .i64)) w0 A0 l0.length l0) (hn : szInt64SS l0 ≤ 1048576) (hb : Below w0.heap.size w0 w := by exact bel) :
    Calls Try.prog 42 #[.slice A0 l0.length c0] w fun e w' => ∃ A c, e = .returned (.slice A l0.length c) ∧ Kd.R (Kd.slice 2 (Kd.int .i64)) 78 w' w.heap.size (fun _ => True) (.slice A l0.length c) l0 ∧ Below w.heap.size w w' := toInt64SS_calls A0 c0 l0 w (Kd.C_below hr hb) hn

theorem info_Const : (Try.prog.info? 81).map (fun i => (i.zero, i.size, i.bytes)) = some (some (.agg #[.int .i64 0, .int .u32 0]), 2, 16) := by kernel_rfl

set_option maxHeartbeats 1000000 in
set_option maxRecDepth 100000 in
theorem toConst_calls (x : MConst) (w : World) :
    Calls Try.prog 62 #[.agg #[.int .i64 x.ty, .int .u32 x.word]] w fun e w' => e = .returned (.agg #[.int .i64 x.ty, .int .u32 x.word]) ∧ Below w.heap.size w w' := by
  have HB := Aside0.mk (Below.refl w.heap.size w)
  go_enter Try.func62, Try.ntmps62
  go_wp2
  refine bodyPost_ret (v := .agg #[.int .i64 x.ty, .int .u32 x.word]) (by simp [results, Try.results62, go_sem]) rfl ⟨rfl, ?_⟩
  exact bel

theorem toConst_at (w0 : World) (x : MConst) (w : World) (hb : Below w0.heap.size w0 w := by exact bel) :
    Calls Try.prog 62 #[.agg #[.int .i64 x.ty, .int .u32 x.word]] w fun e w' => e = .returned (.agg #[.int .i64 x.ty, .int .u32 x.word]) ∧ Below w.heap.size w w' := toConst_calls x w

set_option maxHeartbeats 1000000 in
set_option maxRecDepth 100000 in
theorem toConstS_calls (A0 : Option Addr) (c0 : Nat) (l0 : List MConst) (w : World) (hr : Kd.C kConst_L w A0 l0.length l0) (hn : l0.length ≤ 1048576) :
    Calls Try.prog 43 #[.slice A0 l0.length c0] w fun e w' => ∃ A c, e = .returned (.slice A l0.length c) ∧ Kd.R kConst_I 81 w' w.heap.size (fun _ => True) (.slice A l0.length c) l0 ∧ Below w.heap.size w w' := by
  have hl : l0.length ≤ 1048576 := by first | exact hn | (unfold szConstS at hn; omega)
  have HR := Aside0.mk hr
  clear hr
  go_enter Try.func43, Try.ntmps43
  go_wp2_with (refine Kd.R_make kConst_I _ 81 rfl rfl 51 _ _ rfl (l0.length : Int) rfl rfl Try.underlying51 (.agg #[.int .i64 0, .int .u32 0]) 16 info_Const rfl (by decide) (by omega) zConst (ok := fun _ => True) (okp := fun _ => True) (kConst_I_mkM _ _ _ zConst ) (fun _ hk => hk) trivial (by omega) (by simp; omega) (Below.refl w.heap.size w) (Nat.le_refl _) ?_; intro vo w1 ho hb hg hnew; clear hg hnew; have HO0 := Aside0.mk ho; have HB0 := Aside0.mk hb; clear ho hb)
  go_loopw [4] (fun v wr => ∃ i : Int, 0 ≤ i ∧ i ≤ l0.length ∧ v = .int .i64 i ∧ Aside0 (Kd.R kConst_I 81 wr w.heap.size (fun _ => True) vo (l0.take i.toNat ++ List.replicate (l0.length - i.toNat) zConst)) ∧ Aside0 (Below w.heap.size w wr)) (fun v _ => ((l0.length : Int) - intOf v).toNat)
  case atStart => exact ⟨0, by omega, by omega, rfl, ⟨by simpa using HO0.out⟩, HB0⟩
  case round =>
    obtain ⟨i, h0, hi, rfl, HO, HB⟩ := hrel
    clear HO0 HB0
    by_cases hlt : i < l0.length
    · obtain ⟨ad0, e0, x00, x01⟩ := atConst_L (Kd.C_below HR.out HB.out) i h0 hlt
      cases e0
      have HLen := Aside0.mk (fill_len zConst l0 l0.length i h0 hi rfl)
      have HF := Aside0.mk (fill_step zConst zConst l0 l0.length i h0 hlt rfl)
      obtain ⟨g, cap, ev, hgl⟩ : ∃ g cap, vo = .slice (some ⟨g, 0, none⟩) l0.length cap ∧ Aside0 (g < wr.heap.size) := by
        obtain ⟨g, cap, ev, _, h2, _⟩ := Kd.R_form HO.out (by rw [HLen.out]; omega)
        exact ⟨g, cap, by rw [ev, HLen.out], ⟨h2⟩⟩
      subst ev
      
      go_wp2_with (first | (go_at_call 62; (with_reducible refine (toConst_at wr  (rdConst l0 i) _ ).mono ?_); rintro e w1 ⟨rfl, hb⟩; have HO1 := Aside0.mk (Kd.R_below HO.out hb); have HB1 := Aside0.mk (below_step (w := w) bel hb); clear hb) | (refine R_storeA kConst_I w.heap.size rfl rfl 81 _ _ rfl 81 i _ (rdConst l0 i) (.agg #[.int .i64 (rdConst l0 i).ty, .int .u32 (rdConst l0 i).word]) [.int .i64 (rdConst l0 i).ty, .int .u32 (rdConst l0 i).word] rfl (by first | rfl | exact (Nat.mul_one _).symm) rfl rfl (by kernel_rfl) (by intro q hq; simp at hq; first | (subst hq; rfl) | (rcases hq with rfl | rfl <;> rfl)) HO1.out h0 (by omega) zConst rfl (kConst_I_mkM _ _ _ (rdConst l0 i) ) HB1.out ?_; intro w2 ho2 hb2 hg2; have HO2 := Aside0.mk ho2; have HB2 := Aside0.mk hb2; clear ho2 hb2 hg2))
      go_roundw
      case rel => exact ⟨i + 1, by omega, by omega, rfl, ⟨by rw [← HF.out]; exact HO2.out⟩, HB2⟩
      case measure => simp [intOf]; omega
    · obtain rfl : i = l0.length := by omega
      have HE := Aside0.mk (show Kd.R kConst_I 81 wr w.heap.size (fun _ => True) vo l0 from by have h := HO.out; rwa [fill_end] at h)
      obtain ⟨A, c, ev⟩ := Kd.R_slice HE.out
      subst ev
      go_wp2
      go_ret
      exact ⟨_, _, rfl, HE.out, bel⟩

theorem toConstS_at (w0 : World) (A0 : Option Addr) (c0 : Nat) (l0 : List MConst) (w : World) (hr : Kd.C kConst_L w0 A0 l0.length l0) (hn : l0.length ≤ 1048576) (hb : Below w0.heap.size w0 w := by exact bel) :
    Calls Try.prog 43 #[.slice A0 l0.length c0] w fun e w' => ∃ A c, e = .returned (.slice A l0.length c) ∧ Kd.R kConst_I 81 w' w.heap.size (fun _ => True) (.slice A l0.length c) l0 ∧ Below w.heap.size w w' := toConstS_calls A0 c0 l0 w (Kd.C_below hr hb) hn

theorem info_Func : (Try.prog.info? 85).map (fun i => (i.zero, i.size, i.bytes)) = some (some (.agg #[.slice none 0 0, .int .i64 0, .slice none 0 0, .slice none 0 0]), 4, 80) := by kernel_rfl

theorem info_Instr : (Try.prog.info? 97).map (fun i => (i.zero, i.size, i.bytes)) = some (some (.agg #[.int .i64 0, .int .i64 0, .int .i64 0, .int .i64 0]), 4, 32) := by kernel_rfl

set_option maxHeartbeats 1000000 in
set_option maxRecDepth 100000 in
theorem toInstr_calls (x : MInstr) (w : World) :
    Calls Try.prog 72 #[.agg #[.int .i64 x.op, .int .i64 x.a, .int .i64 x.b, .int .i64 x.c]] w fun e w' => e = .returned (.agg #[.int .i64 x.op, .int .i64 x.a, .int .i64 x.b, .int .i64 x.c]) ∧ Below w.heap.size w w' := by
  have HB := Aside0.mk (Below.refl w.heap.size w)
  go_enter Try.func72, Try.ntmps72
  go_wp2
  refine bodyPost_ret (v := .agg #[.int .i64 x.op, .int .i64 x.a, .int .i64 x.b, .int .i64 x.c]) (by simp [results, Try.results72, go_sem]) rfl ⟨rfl, ?_⟩
  exact bel

theorem toInstr_at (w0 : World) (x : MInstr) (w : World) (hb : Below w0.heap.size w0 w := by exact bel) :
    Calls Try.prog 72 #[.agg #[.int .i64 x.op, .int .i64 x.a, .int .i64 x.b, .int .i64 x.c]] w fun e w' => e = .returned (.agg #[.int .i64 x.op, .int .i64 x.a, .int .i64 x.b, .int .i64 x.c]) ∧ Below w.heap.size w w' := toInstr_calls x w

set_option maxHeartbeats 1000000 in
set_option maxRecDepth 100000 in
theorem toInstrS_calls (A0 : Option Addr) (c0 : Nat) (l0 : List MInstr) (w : World) (hr : Kd.C kInstr_L w A0 l0.length l0) (hn : l0.length ≤ 1048576) :
    Calls Try.prog 70 #[.slice A0 l0.length c0] w fun e w' => ∃ A c, e = .returned (.slice A l0.length c) ∧ Kd.R kInstr_I 97 w' w.heap.size (fun _ => True) (.slice A l0.length c) l0 ∧ Below w.heap.size w w' := by
  have hl : l0.length ≤ 1048576 := by first | exact hn | (unfold szInstrS at hn; omega)
  have HR := Aside0.mk hr
  clear hr
  go_enter Try.func70, Try.ntmps70
  go_wp2_with (refine Kd.R_make kInstr_I _ 97 rfl rfl 83 _ _ rfl (l0.length : Int) rfl rfl Try.underlying83 (.agg #[.int .i64 0, .int .i64 0, .int .i64 0, .int .i64 0]) 32 info_Instr rfl (by decide) (by omega) zInstr (ok := fun _ => True) (okp := fun _ => True) (kInstr_I_mkM _ _ _ zInstr ) (fun _ hk => hk) trivial (by omega) (by simp; omega) (Below.refl w.heap.size w) (Nat.le_refl _) ?_; intro vo w1 ho hb hg hnew; clear hg hnew; have HO0 := Aside0.mk ho; have HB0 := Aside0.mk hb; clear ho hb)
  go_loopw [4] (fun v wr => ∃ i : Int, 0 ≤ i ∧ i ≤ l0.length ∧ v = .int .i64 i ∧ Aside0 (Kd.R kInstr_I 97 wr w.heap.size (fun _ => True) vo (l0.take i.toNat ++ List.replicate (l0.length - i.toNat) zInstr)) ∧ Aside0 (Below w.heap.size w wr)) (fun v _ => ((l0.length : Int) - intOf v).toNat)
  case atStart => exact ⟨0, by omega, by omega, rfl, ⟨by simpa using HO0.out⟩, HB0⟩
  case round =>
    obtain ⟨i, h0, hi, rfl, HO, HB⟩ := hrel
    clear HO0 HB0
    by_cases hlt : i < l0.length
    · obtain ⟨ad0, e0, x00, x01, x02, x03⟩ := atInstr_L (Kd.C_below HR.out HB.out) i h0 hlt
      cases e0
      have HLen := Aside0.mk (fill_len zInstr l0 l0.length i h0 hi rfl)
      have HF := Aside0.mk (fill_step zInstr zInstr l0 l0.length i h0 hlt rfl)
      obtain ⟨g, cap, ev, hgl⟩ : ∃ g cap, vo = .slice (some ⟨g, 0, none⟩) l0.length cap ∧ Aside0 (g < wr.heap.size) := by
        obtain ⟨g, cap, ev, _, h2, _⟩ := Kd.R_form HO.out (by rw [HLen.out]; omega)
        exact ⟨g, cap, by rw [ev, HLen.out], ⟨h2⟩⟩
      subst ev
      
      go_wp2_with (first | (go_at_call 72; (with_reducible refine (toInstr_at wr  (rdInstr l0 i) _ ).mono ?_); rintro e w1 ⟨rfl, hb⟩; have HO1 := Aside0.mk (Kd.R_below HO.out hb); have HB1 := Aside0.mk (below_step (w := w) bel hb); clear hb) | (refine R_storeA kInstr_I w.heap.size rfl rfl 97 _ _ rfl 97 i _ (rdInstr l0 i) (.agg #[.int .i64 (rdInstr l0 i).op, .int .i64 (rdInstr l0 i).a, .int .i64 (rdInstr l0 i).b, .int .i64 (rdInstr l0 i).c]) [.int .i64 (rdInstr l0 i).op, .int .i64 (rdInstr l0 i).a, .int .i64 (rdInstr l0 i).b, .int .i64 (rdInstr l0 i).c] rfl (by first | rfl | exact (Nat.mul_one _).symm) rfl rfl (by kernel_rfl) (by intro q hq; simp at hq; first | (subst hq; rfl) | (rcases hq with rfl | rfl | rfl | rfl <;> rfl)) HO1.out h0 (by omega) zInstr rfl (kInstr_I_mkM _ _ _ (rdInstr l0 i) ) HB1.out ?_; intro w2 ho2 hb2 hg2; have HO2 := Aside0.mk ho2; have HB2 := Aside0.mk hb2; clear ho2 hb2 hg2))
      go_roundw
      case rel => exact ⟨i + 1, by omega, by omega, rfl, ⟨by rw [← HF.out]; exact HO2.out⟩, HB2⟩
      case measure => simp [intOf]; omega
    · obtain rfl : i = l0.length := by omega
      have HE := Aside0.mk (show Kd.R kInstr_I 97 wr w.heap.size (fun _ => True) vo l0 from by have h := HO.out; rwa [fill_end] at h)
      obtain ⟨A, c, ev⟩ := Kd.R_slice HE.out
      subst ev
      go_wp2
      go_ret
      exact ⟨_, _, rfl, HE.out, bel⟩

theorem toInstrS_at (w0 : World) (A0 : Option Addr) (c0 : Nat) (l0 : List MInstr) (w : World) (hr : Kd.C kInstr_L w0 A0 l0.length l0) (hn : l0.length ≤ 1048576) (hb : Below w0.heap.size w0 w := by exact bel) :
    Calls Try.prog 70 #[.slice A0 l0.length c0] w fun e w' => ∃ A c, e = .returned (.slice A l0.length c) ∧ Kd.R kInstr_I 97 w' w.heap.size (fun _ => True) (.slice A l0.length c) l0 ∧ Below w.heap.size w w' := toInstrS_calls A0 c0 l0 w (Kd.C_below hr hb) hn

set_option maxHeartbeats 1000000 in
set_option maxRecDepth 100000 in
theorem toFunc_calls (A0 : Option Addr) (c0 : Nat) (A2 : Option Addr) (c2 : Nat) (A3 : Option Addr) (c3 : Nat) (x : MFunc) (w : World) (h0 : Kd.C (Kd.int .i64) w A0 x.params.length x.params) (h2 : Kd.C (Kd.int .i64) w A2 x.locals.length x.locals) (h3 : Kd.C kInstr_L w A3 x.code.length x.code) (hn : szFunc x ≤ 1048576) :
    Calls Try.prog 63 #[.agg #[.slice A0 x.params.length c0, .int .i64 x.result, .slice A2 x.locals.length c2, .slice A3 x.code.length c3]] w fun e w' => ∃ a0 b0, ∃ a2 b2, ∃ a3 b3, e = .returned (.agg #[.slice a0 x.params.length b0, .int .i64 x.result, .slice a2 x.locals.length b2, .slice a3 x.code.length b3]) ∧ Kd.R (Kd.int .i64) 2 w' w.heap.size (fun _ => True) (.slice a0 x.params.length b0) x.params ∧ Kd.R (Kd.int .i64) 2 w' w.heap.size (fun _ => True) (.slice a2 x.locals.length b2) x.locals ∧ Kd.R kInstr_I 97 w' w.heap.size (fun _ => True) (.slice a3 x.code.length b3) x.code ∧ Below w.heap.size w w' := by
  have H0 := Aside0.mk h0; have H2 := Aside0.mk h2; have H3 := Aside0.mk h3; have HB := Aside0.mk (Below.refl w.heap.size w)
  clear h0 h2 h3
  go_enter Try.func63, Try.ntmps63
  go_wp2_with (first | (go_at_call 61; (with_reducible refine (toInt64S_at w _ _ x.params _ H0.out (by unfold szFunc at hn; unfold szInt64S at hn; omega)).mono ?_); rintro e w1 ⟨a0, b0, rfl, ho, hb⟩; have n_ := Aside0.mk (below_step (w := w) bel hb); have hz : w.heap.size < w1.heap.size := Nat.lt_of_lt_of_le (by first | assumption | (simp; done) | (simp; omega)) hb.size; have hz1 : w.heap.size + 1 < w1.heap.size := Nat.lt_of_lt_of_le (by first | assumption | (simp; done) | (simp; omega)) hb.size; have hz2 : w.heap.size + 2 < w1.heap.size := Nat.lt_of_lt_of_le (by first | assumption | (simp; done) | (simp; omega)) hb.size; obtain ⟨hc, hf⟩ := bcell hb; have k_ : Aside0 (w1.heap[w.heap.size + 1]? = some (.cells #[.slice none 0 0, .int .i64 0, .slice none 0 0, .slice none 0 0] 85 (0, 0))) := ⟨(hb.block (w.heap.size + 1) (by first | assumption | (simp; done) | (simp; omega))).trans (blk_alloc3 w _ _ _ _ _ _)⟩; have BKr := k_; clear k_; have O0 := Aside0.mk (Kd.R_lower (base' := w.heap.size + 3) ho (by first | (simp; done) | (simp; omega))); clear HB hb ho; have HB := n_; clear n_) | (go_at_call 61; (with_reducible refine (toInt64S_at w _ _ x.locals _ H2.out (by unfold szFunc at hn; unfold szInt64S at hn; omega)).mono ?_); rintro e w1 ⟨a2, b2, rfl, ho, hb⟩; have n_ := Aside0.mk (below_step (w := w) bel hb); have m_ : Aside0 (Kd.R (Kd.int .i64) 2 w1 (w.heap.size + 3) (fun _ => True) (.slice a0 x.params.length b0) x.params) := ⟨Kd.R_below (by repeat (first | (with_reducible exact O0.out) | (with_reducible refine R_fresh ?_ (by first | (simp; done) | (simp; omega))))) hb⟩; clear O0; have O0 := m_; clear m_; have hz : w.heap.size < w1.heap.size := Nat.lt_of_lt_of_le (by first | assumption | (simp; done) | (simp; omega)) hb.size; have hz1 : w.heap.size + 1 < w1.heap.size := Nat.lt_of_lt_of_le (by first | assumption | (simp; done) | (simp; omega)) hb.size; have hz2 : w.heap.size + 2 < w1.heap.size := Nat.lt_of_lt_of_le (by first | assumption | (simp; done) | (simp; omega)) hb.size; obtain ⟨hc, hf⟩ := bcell hb; have k_ : Aside0 (w1.heap[w.heap.size + 1]? = some (.cells #[.slice none 0 0, .int .i64 0, .slice none 0 0, .slice none 0 0] 85 (0, 0))) := ⟨(hb.block (w.heap.size + 1) (by first | assumption | (simp; done) | (simp; omega))).trans (by repeat (first | (with_reducible exact BKr.out) | with_reducible refine blk_far ?_ (by first | (simp; done) | (simp; omega)) _))⟩; clear BKr; have BKr := k_; clear k_; have O2 := Aside0.mk (Kd.R_lower (base' := w.heap.size + 3) ho (by first | (simp; done) | (simp; omega))); clear HB hb ho; have HB := n_; clear n_) | (go_at_call 70; (with_reducible refine (toInstrS_at w _ _ x.code _ H3.out (by unfold szFunc at hn; unfold szInstrS at hn; omega)).mono ?_); rintro e w1 ⟨a3, b3, rfl, ho, hb⟩; have n_ := Aside0.mk (below_step (w := w) bel hb); have m_ : Aside0 (Kd.R (Kd.int .i64) 2 w1 (w.heap.size + 3) (fun _ => True) (.slice a0 x.params.length b0) x.params) := ⟨Kd.R_below (by repeat (first | (with_reducible exact O0.out) | (with_reducible refine R_fresh ?_ (by first | (simp; done) | (simp; omega))))) hb⟩; clear O0; have O0 := m_; clear m_; have m_ : Aside0 (Kd.R (Kd.int .i64) 2 w1 (w.heap.size + 3) (fun _ => True) (.slice a2 x.locals.length b2) x.locals) := ⟨Kd.R_below (by repeat (first | (with_reducible exact O2.out) | (with_reducible refine R_fresh ?_ (by first | (simp; done) | (simp; omega))))) hb⟩; clear O2; have O2 := m_; clear m_; have hz : w.heap.size < w1.heap.size := Nat.lt_of_lt_of_le (by first | assumption | (simp; done) | (simp; omega)) hb.size; have hz1 : w.heap.size + 1 < w1.heap.size := Nat.lt_of_lt_of_le (by first | assumption | (simp; done) | (simp; omega)) hb.size; have hz2 : w.heap.size + 2 < w1.heap.size := Nat.lt_of_lt_of_le (by first | assumption | (simp; done) | (simp; omega)) hb.size; obtain ⟨hc, hf⟩ := bcell hb; have k_ : Aside0 (w1.heap[w.heap.size + 1]? = some (.cells #[.slice none 0 0, .int .i64 0, .slice none 0 0, .slice none 0 0] 85 (0, 0))) := ⟨(hb.block (w.heap.size + 1) (by first | assumption | (simp; done) | (simp; omega))).trans (by repeat (first | (with_reducible exact BKr.out) | with_reducible refine blk_far ?_ (by first | (simp; done) | (simp; omega)) _))⟩; clear BKr; have BKr := k_; clear k_; have O3 := Aside0.mk (Kd.R_lower (base' := w.heap.size + 3) ho (by first | (simp; done) | (simp; omega))); clear HB hb ho; have HB := n_; clear n_))
  refine bodyPost_ret (results_cell_row rfl _ _ (w.heap.size + 1) 85 #[.slice a0 x.params.length b0, .int .i64 x.result, .slice a2 x.locals.length b2, .slice a3 x.code.length b3] (0, 0) _ rfl (by refine blk_put (cs := #[.slice a0 x.params.length b0, .int .i64 x.result, .slice a2 x.locals.length b2, .slice none 0 0]) ?_ 3 _ rfl; refine blk_put (cs := #[.slice a0 x.params.length b0, .int .i64 x.result, .slice none 0 0, .slice none 0 0]) ?_ 2 _ rfl; refine blk_put (cs := #[.slice a0 x.params.length b0, .int .i64 0, .slice none 0 0, .slice none 0 0]) ?_ 1 _ rfl; refine blk_put (cs := #[.slice none 0 0, .int .i64 0, .slice none 0 0, .slice none 0 0]) ?_ 0 _ rfl; repeat (first | (with_reducible exact BKr.out) | with_reducible refine blk_far ?_ (by first | (simp; done) | (simp; omega)) _)) Try.underlying85 rfl (by kernel_rfl)) rfl ⟨_, _, _, _, _, _, rfl, ?_, ?_, ?_, ?_⟩
  · exact Kd.R_lower (base := w.heap.size + 3) (by repeat (first | (with_reducible exact O0.out) | (with_reducible refine R_fresh ?_ (by first | (simp; done) | (simp; omega))))) (by omega)
  · exact Kd.R_lower (base := w.heap.size + 3) (by repeat (first | (with_reducible exact O2.out) | (with_reducible refine R_fresh ?_ (by first | (simp; done) | (simp; omega))))) (by omega)
  · exact Kd.R_lower (base := w.heap.size + 3) (by repeat (first | (with_reducible exact O3.out) | (with_reducible refine R_fresh ?_ (by first | (simp; done) | (simp; omega))))) (by omega)
  exact bel

theorem toFunc_at (w0 : World) (A0 : Option Addr) (c0 : Nat) (A2 : Option Addr) (c2 : Nat) (A3 : Option Addr) (c3 : Nat) (x : MFunc) (w : World) (h0 : Kd.C (Kd.int .i64) w0 A0 x.params.length x.params) (h2 : Kd.C (Kd.int .i64) w0 A2 x.locals.length x.locals) (h3 : Kd.C kInstr_L w0 A3 x.code.length x.code) (hn : szFunc x ≤ 1048576) (hb : Below w0.heap.size w0 w := by exact bel) :
    Calls Try.prog 63 #[.agg #[.slice A0 x.params.length c0, .int .i64 x.result, .slice A2 x.locals.length c2, .slice A3 x.code.length c3]] w fun e w' => ∃ a0 b0, ∃ a2 b2, ∃ a3 b3, e = .returned (.agg #[.slice a0 x.params.length b0, .int .i64 x.result, .slice a2 x.locals.length b2, .slice a3 x.code.length b3]) ∧ Kd.R (Kd.int .i64) 2 w' w.heap.size (fun _ => True) (.slice a0 x.params.length b0) x.params ∧ Kd.R (Kd.int .i64) 2 w' w.heap.size (fun _ => True) (.slice a2 x.locals.length b2) x.locals ∧ Kd.R kInstr_I 97 w' w.heap.size (fun _ => True) (.slice a3 x.code.length b3) x.code ∧ Below w.heap.size w w' := toFunc_calls A0 c0 A2 c2 A3 c3 x w (Kd.C_below h0 hb) (Kd.C_below h2 hb) (Kd.C_below h3 hb) hn

set_option maxHeartbeats 1000000 in
set_option maxRecDepth 100000 in
theorem toFuncS_calls (A0 : Option Addr) (c0 : Nat) (l0 : List MFunc) (w : World) (hr : Kd.C kFunc_L w A0 l0.length l0) (hn : szFuncS l0 ≤ 1048576) :
    Calls Try.prog 44 #[.slice A0 l0.length c0] w fun e w' => ∃ A c, e = .returned (.slice A l0.length c) ∧ Kd.R kFunc_I 85 w' w.heap.size (fun _ => True) (.slice A l0.length c) l0 ∧ Below w.heap.size w w' := by
  have hl : l0.length ≤ 1048576 := by first | exact hn | (unfold szFuncS at hn; omega)
  have HR := Aside0.mk hr
  clear hr
  go_enter Try.func44, Try.ntmps44
  go_wp2_with (refine Kd.R_make kFunc_I _ 85 rfl rfl 52 _ _ rfl (l0.length : Int) rfl rfl Try.underlying52 (.agg #[.slice none 0 0, .int .i64 0, .slice none 0 0, .slice none 0 0]) 80 info_Func rfl (by decide) (by omega) zFunc (ok := fun _ => True) (okp := fun _ => True) (kFunc_I_mkM _ _ _ zFunc (Kd.R_nil _ _ _ _ _) (Kd.R_nil _ _ _ _ _) (Kd.R_nil _ _ _ _ _)) (fun _ hk => hk) trivial (by omega) (by simp; omega) (Below.refl w.heap.size w) (Nat.le_refl _) ?_; intro vo w1 ho hb hg hnew; clear hg hnew; have HO0 := Aside0.mk ho; have HB0 := Aside0.mk hb; clear ho hb)
  go_loopw [4] (fun v wr => ∃ i : Int, 0 ≤ i ∧ i ≤ l0.length ∧ v = .int .i64 i ∧ Aside0 (Kd.R kFunc_I 85 wr w.heap.size (fun _ => True) vo (l0.take i.toNat ++ List.replicate (l0.length - i.toNat) zFunc)) ∧ Aside0 (Below w.heap.size w wr)) (fun v _ => ((l0.length : Int) - intOf v).toNat)
  case atStart => exact ⟨0, by omega, by omega, rfl, ⟨by simpa using HO0.out⟩, HB0⟩
  case round =>
    obtain ⟨i, h0, hi, rfl, HO, HB⟩ := hrel
    clear HO0 HB0
    by_cases hlt : i < l0.length
    · obtain ⟨ad0, B00, b00, B02, b02, B03, b03, e0, x00, x01, x02, x03, y00, q00, y02, q02, y03, q03⟩ := atFunc_L (Kd.C_below HR.out HB.out) i h0 hlt
      cases e0
      have HLen := Aside0.mk (fill_len zFunc l0 l0.length i h0 hi rfl)
      have HF := Aside0.mk (fill_step zFunc zFunc l0 l0.length i h0 hlt rfl)
      obtain ⟨g, cap, ev, hgl⟩ : ∃ g cap, vo = .slice (some ⟨g, 0, none⟩) l0.length cap ∧ Aside0 (g < wr.heap.size) := by
        obtain ⟨g, cap, ev, _, h2, _⟩ := Kd.R_form HO.out (by rw [HLen.out]; omega)
        exact ⟨g, cap, by rw [ev, HLen.out], ⟨h2⟩⟩
      subst ev
      have hq : szFunc (rdFunc l0 i) ≤ 1048576 := by (have h1 := szsum_mem szFunc zFunc l0 i.toNat (by omega); unfold szFuncS at hn; exact Nat.le_trans h1 (by omega))
      have HQ := Aside0.mk hq
      clear hq
      go_wp2_with (first | (go_at_call 63; (with_reducible refine (toFunc_at wr _ _ _ _ _ _ (rdFunc l0 i) _ q00 q02 q03 HQ.out).mono ?_); rintro e w1 ⟨a0, b0, a2, b2, a3, b3, rfl, ho0, ho2, ho3, hb⟩; have R0 := Aside0.mk (Kd.R_mono (ok' := fun k => True ∧ k ≠ g) (Kd.R_lower (Kd.R_bound ho0) HB.out.size) (fun k hk => ⟨trivial, by have := hk.2.1; have := hgl.out; omega⟩)); have R2 := Aside0.mk (Kd.R_mono (ok' := fun k => True ∧ k ≠ g) (Kd.R_lower (Kd.R_bound ho2) HB.out.size) (fun k hk => ⟨trivial, by have := hk.2.1; have := hgl.out; omega⟩)); have R3 := Aside0.mk (Kd.R_mono (ok' := fun k => True ∧ k ≠ g) (Kd.R_lower (Kd.R_bound ho3) HB.out.size) (fun k hk => ⟨trivial, by have := hk.2.1; have := hgl.out; omega⟩)); have HO1 := Aside0.mk (Kd.R_below HO.out hb); have HB1 := Aside0.mk (below_step (w := w) bel hb); clear hb ho0 ho2 ho3) | (refine R_storeA kFunc_I w.heap.size rfl rfl 85 _ _ rfl 85 i _ (rdFunc l0 i) (.agg #[.slice a0 (rdFunc l0 i).params.length b0, .int .i64 (rdFunc l0 i).result, .slice a2 (rdFunc l0 i).locals.length b2, .slice a3 (rdFunc l0 i).code.length b3]) [.slice a0 (rdFunc l0 i).params.length b0, .int .i64 (rdFunc l0 i).result, .slice a2 (rdFunc l0 i).locals.length b2, .slice a3 (rdFunc l0 i).code.length b3] rfl (by first | rfl | exact (Nat.mul_one _).symm) rfl rfl (by kernel_rfl) (by intro q hq; simp at hq; first | (subst hq; rfl) | (rcases hq with rfl | rfl | rfl | rfl <;> rfl)) HO1.out h0 (by omega) zFunc rfl (kFunc_I_mkM _ _ _ (rdFunc l0 i) R0.out R2.out R3.out) HB1.out ?_; intro w2 ho2 hb2 hg2; have HO2 := Aside0.mk ho2; have HB2 := Aside0.mk hb2; clear ho2 hb2 hg2))
      go_roundw
      case rel => exact ⟨i + 1, by omega, by omega, rfl, ⟨by rw [← HF.out]; exact HO2.out⟩, HB2⟩
      case measure => simp [intOf]; omega
    · obtain rfl : i = l0.length := by omega
      have HE := Aside0.mk (show Kd.R kFunc_I 85 wr w.heap.size (fun _ => True) vo l0 from by have h := HO.out; rwa [fill_end] at h)
      obtain ⟨A, c, ev⟩ := Kd.R_slice HE.out
      subst ev
      go_wp2
      go_ret
      exact ⟨_, _, rfl, HE.out, bel⟩

theorem toFuncS_at (w0 : World) (A0 : Option Addr) (c0 : Nat) (l0 : List MFunc) (w : World) (hr : Kd.C kFunc_L w0 A0 l0.length l0) (hn : szFuncS l0 ≤ 1048576) (hb : Below w0.heap.size w0 w := by exact bel) :
    Calls Try.prog 44 #[.slice A0 l0.length c0] w fun e w' => ∃ A c, e = .returned (.slice A l0.length c) ∧ Kd.R kFunc_I 85 w' w.heap.size (fun _ => True) (.slice A l0.length c) l0 ∧ Below w.heap.size w w' := toFuncS_calls A0 c0 l0 w (Kd.C_below hr hb) hn

theorem info_Cert : (Try.prog.info? 87).map (fun i => (i.zero, i.size, i.bytes)) = some (some (.agg #[.int .i64 0, .int .i64 0, .int .i64 0, .int .u32 0]), 4, 32) := by kernel_rfl

set_option maxHeartbeats 1000000 in
set_option maxRecDepth 100000 in
theorem toCert_calls (x : MCert) (w : World) :
    Calls Try.prog 64 #[.agg #[.int .i64 x.func, .int .i64 x.head, .int .i64 x.counter, .int .u32 x.init]] w fun e w' => e = .returned (.agg #[.int .i64 x.func, .int .i64 x.head, .int .i64 x.counter, .int .u32 x.init]) ∧ Below w.heap.size w w' := by
  have HB := Aside0.mk (Below.refl w.heap.size w)
  go_enter Try.func64, Try.ntmps64
  go_wp2
  refine bodyPost_ret (v := .agg #[.int .i64 x.func, .int .i64 x.head, .int .i64 x.counter, .int .u32 x.init]) (by simp [results, Try.results64, go_sem]) rfl ⟨rfl, ?_⟩
  exact bel

theorem toCert_at (w0 : World) (x : MCert) (w : World) (hb : Below w0.heap.size w0 w := by exact bel) :
    Calls Try.prog 64 #[.agg #[.int .i64 x.func, .int .i64 x.head, .int .i64 x.counter, .int .u32 x.init]] w fun e w' => e = .returned (.agg #[.int .i64 x.func, .int .i64 x.head, .int .i64 x.counter, .int .u32 x.init]) ∧ Below w.heap.size w w' := toCert_calls x w

set_option maxHeartbeats 1000000 in
set_option maxRecDepth 100000 in
theorem toCertS_calls (A0 : Option Addr) (c0 : Nat) (l0 : List MCert) (w : World) (hr : Kd.C kCert_L w A0 l0.length l0) (hn : l0.length ≤ 1048576) :
    Calls Try.prog 45 #[.slice A0 l0.length c0] w fun e w' => ∃ A c, e = .returned (.slice A l0.length c) ∧ Kd.R kCert_I 87 w' w.heap.size (fun _ => True) (.slice A l0.length c) l0 ∧ Below w.heap.size w w' := by
  have hl : l0.length ≤ 1048576 := by first | exact hn | (unfold szCertS at hn; omega)
  have HR := Aside0.mk hr
  clear hr
  go_enter Try.func45, Try.ntmps45
  go_wp2_with (refine Kd.R_make kCert_I _ 87 rfl rfl 53 _ _ rfl (l0.length : Int) rfl rfl Try.underlying53 (.agg #[.int .i64 0, .int .i64 0, .int .i64 0, .int .u32 0]) 32 info_Cert rfl (by decide) (by omega) zCert (ok := fun _ => True) (okp := fun _ => True) (kCert_I_mkM _ _ _ zCert ) (fun _ hk => hk) trivial (by omega) (by simp; omega) (Below.refl w.heap.size w) (Nat.le_refl _) ?_; intro vo w1 ho hb hg hnew; clear hg hnew; have HO0 := Aside0.mk ho; have HB0 := Aside0.mk hb; clear ho hb)
  go_loopw [4] (fun v wr => ∃ i : Int, 0 ≤ i ∧ i ≤ l0.length ∧ v = .int .i64 i ∧ Aside0 (Kd.R kCert_I 87 wr w.heap.size (fun _ => True) vo (l0.take i.toNat ++ List.replicate (l0.length - i.toNat) zCert)) ∧ Aside0 (Below w.heap.size w wr)) (fun v _ => ((l0.length : Int) - intOf v).toNat)
  case atStart => exact ⟨0, by omega, by omega, rfl, ⟨by simpa using HO0.out⟩, HB0⟩
  case round =>
    obtain ⟨i, h0, hi, rfl, HO, HB⟩ := hrel
    clear HO0 HB0
    by_cases hlt : i < l0.length
    · obtain ⟨ad0, e0, x00, x01, x02, x03⟩ := atCert_L (Kd.C_below HR.out HB.out) i h0 hlt
      cases e0
      have HLen := Aside0.mk (fill_len zCert l0 l0.length i h0 hi rfl)
      have HF := Aside0.mk (fill_step zCert zCert l0 l0.length i h0 hlt rfl)
      obtain ⟨g, cap, ev, hgl⟩ : ∃ g cap, vo = .slice (some ⟨g, 0, none⟩) l0.length cap ∧ Aside0 (g < wr.heap.size) := by
        obtain ⟨g, cap, ev, _, h2, _⟩ := Kd.R_form HO.out (by rw [HLen.out]; omega)
        exact ⟨g, cap, by rw [ev, HLen.out], ⟨h2⟩⟩
      subst ev
      
      go_wp2_with (first | (go_at_call 64; (with_reducible refine (toCert_at wr  (rdCert l0 i) _ ).mono ?_); rintro e w1 ⟨rfl, hb⟩; have HO1 := Aside0.mk (Kd.R_below HO.out hb); have HB1 := Aside0.mk (below_step (w := w) bel hb); clear hb) | (refine R_storeA kCert_I w.heap.size rfl rfl 87 _ _ rfl 87 i _ (rdCert l0 i) (.agg #[.int .i64 (rdCert l0 i).func, .int .i64 (rdCert l0 i).head, .int .i64 (rdCert l0 i).counter, .int .u32 (rdCert l0 i).init]) [.int .i64 (rdCert l0 i).func, .int .i64 (rdCert l0 i).head, .int .i64 (rdCert l0 i).counter, .int .u32 (rdCert l0 i).init] rfl (by first | rfl | exact (Nat.mul_one _).symm) rfl rfl (by kernel_rfl) (by intro q hq; simp at hq; first | (subst hq; rfl) | (rcases hq with rfl | rfl | rfl | rfl <;> rfl)) HO1.out h0 (by omega) zCert rfl (kCert_I_mkM _ _ _ (rdCert l0 i) ) HB1.out ?_; intro w2 ho2 hb2 hg2; have HO2 := Aside0.mk ho2; have HB2 := Aside0.mk hb2; clear ho2 hb2 hg2))
      go_roundw
      case rel => exact ⟨i + 1, by omega, by omega, rfl, ⟨by rw [← HF.out]; exact HO2.out⟩, HB2⟩
      case measure => simp [intOf]; omega
    · obtain rfl : i = l0.length := by omega
      have HE := Aside0.mk (show Kd.R kCert_I 87 wr w.heap.size (fun _ => True) vo l0 from by have h := HO.out; rwa [fill_end] at h)
      obtain ⟨A, c, ev⟩ := Kd.R_slice HE.out
      subst ev
      go_wp2
      go_ret
      exact ⟨_, _, rfl, HE.out, bel⟩

theorem toCertS_at (w0 : World) (A0 : Option Addr) (c0 : Nat) (l0 : List MCert) (w : World) (hr : Kd.C kCert_L w0 A0 l0.length l0) (hn : l0.length ≤ 1048576) (hb : Below w0.heap.size w0 w := by exact bel) :
    Calls Try.prog 45 #[.slice A0 l0.length c0] w fun e w' => ∃ A c, e = .returned (.slice A l0.length c) ∧ Kd.R kCert_I 87 w' w.heap.size (fun _ => True) (.slice A l0.length c) l0 ∧ Below w.heap.size w w' := toCertS_calls A0 c0 l0 w (Kd.C_below hr hb) hn

set_option maxHeartbeats 1000000 in
set_option maxRecDepth 100000 in
theorem toProgram_calls (A0 : Option Addr) (c0 : Nat) (A1 : Option Addr) (c1 : Nat) (A2 : Option Addr) (c2 : Nat) (A3 : Option Addr) (c3 : Nat) (x : MProgram) (w : World) (h0 : Kd.C (Kd.slice 2 (Kd.int .i64)) w A0 x.regions.length x.regions) (h1 : Kd.C kConst_L w A1 x.consts.length x.consts) (h2 : Kd.C kFunc_L w A2 x.funcs.length x.funcs) (h3 : Kd.C kCert_L w A3 x.certs.length x.certs) (hn : szProgram x ≤ 1048576) :
    Calls Try.prog 16 #[.agg #[.slice A0 x.regions.length c0, .slice A1 x.consts.length c1, .slice A2 x.funcs.length c2, .slice A3 x.certs.length c3]] w fun e w' => ∃ a0 b0, ∃ a1 b1, ∃ a2 b2, ∃ a3 b3, e = .returned (.agg #[.slice a0 x.regions.length b0, .slice a1 x.consts.length b1, .slice a2 x.funcs.length b2, .slice a3 x.certs.length b3]) ∧ Kd.R (Kd.slice 2 (Kd.int .i64)) 78 w' w.heap.size (fun _ => True) (.slice a0 x.regions.length b0) x.regions ∧ Kd.R kConst_I 81 w' w.heap.size (fun _ => True) (.slice a1 x.consts.length b1) x.consts ∧ Kd.R kFunc_I 85 w' w.heap.size (fun _ => True) (.slice a2 x.funcs.length b2) x.funcs ∧ Kd.R kCert_I 87 w' w.heap.size (fun _ => True) (.slice a3 x.certs.length b3) x.certs ∧ Below w.heap.size w w' := by
  have H0 := Aside0.mk h0; have H1 := Aside0.mk h1; have H2 := Aside0.mk h2; have H3 := Aside0.mk h3; have HB := Aside0.mk (Below.refl w.heap.size w)
  clear h0 h1 h2 h3
  go_enter Try.func16, Try.ntmps16
  go_wp2_with (first | (go_at_call 42; (with_reducible refine (toInt64SS_at w _ _ x.regions _ H0.out (by unfold szProgram at hn; omega)).mono ?_); rintro e w1 ⟨a0, b0, rfl, ho, hb⟩; have n_ := Aside0.mk (below_step (w := w) bel hb); have hz : w.heap.size < w1.heap.size := Nat.lt_of_lt_of_le (by first | assumption | (simp; done) | (simp; omega)) hb.size; have hz1 : w.heap.size + 1 < w1.heap.size := Nat.lt_of_lt_of_le (by first | assumption | (simp; done) | (simp; omega)) hb.size; have hz2 : w.heap.size + 2 < w1.heap.size := Nat.lt_of_lt_of_le (by first | assumption | (simp; done) | (simp; omega)) hb.size; obtain ⟨hc, hf⟩ := bcell hb; have k_ : Aside0 (w1.heap[w.heap.size + 1]? = some (.cells #[.slice none 0 0, .slice none 0 0, .slice none 0 0, .slice none 0 0] 55 (0, 0))) := ⟨(hb.block (w.heap.size + 1) (by first | assumption | (simp; done) | (simp; omega))).trans (blk_alloc3 w _ _ _ _ _ _)⟩; have BKr := k_; clear k_; have O0 := Aside0.mk (Kd.R_lower (base' := w.heap.size + 3) ho (by first | (simp; done) | (simp; omega))); clear HB hb ho; have HB := n_; clear n_) | (go_at_call 43; (with_reducible refine (toConstS_at w _ _ x.consts _ H1.out (by unfold szProgram at hn; unfold szConstS at hn; omega)).mono ?_); rintro e w1 ⟨a1, b1, rfl, ho, hb⟩; have n_ := Aside0.mk (below_step (w := w) bel hb); have m_ : Aside0 (Kd.R (Kd.slice 2 (Kd.int .i64)) 78 w1 (w.heap.size + 3) (fun _ => True) (.slice a0 x.regions.length b0) x.regions) := ⟨Kd.R_below (by repeat (first | (with_reducible exact O0.out) | (with_reducible refine R_fresh ?_ (by first | (simp; done) | (simp; omega))))) hb⟩; clear O0; have O0 := m_; clear m_; have hz : w.heap.size < w1.heap.size := Nat.lt_of_lt_of_le (by first | assumption | (simp; done) | (simp; omega)) hb.size; have hz1 : w.heap.size + 1 < w1.heap.size := Nat.lt_of_lt_of_le (by first | assumption | (simp; done) | (simp; omega)) hb.size; have hz2 : w.heap.size + 2 < w1.heap.size := Nat.lt_of_lt_of_le (by first | assumption | (simp; done) | (simp; omega)) hb.size; obtain ⟨hc, hf⟩ := bcell hb; have k_ : Aside0 (w1.heap[w.heap.size + 1]? = some (.cells #[.slice none 0 0, .slice none 0 0, .slice none 0 0, .slice none 0 0] 55 (0, 0))) := ⟨(hb.block (w.heap.size + 1) (by first | assumption | (simp; done) | (simp; omega))).trans (by repeat (first | (with_reducible exact BKr.out) | with_reducible refine blk_far ?_ (by first | (simp; done) | (simp; omega)) _))⟩; clear BKr; have BKr := k_; clear k_; have O1 := Aside0.mk (Kd.R_lower (base' := w.heap.size + 3) ho (by first | (simp; done) | (simp; omega))); clear HB hb ho; have HB := n_; clear n_) | (go_at_call 44; (with_reducible refine (toFuncS_at w _ _ x.funcs _ H2.out (by unfold szProgram at hn; omega)).mono ?_); rintro e w1 ⟨a2, b2, rfl, ho, hb⟩; have n_ := Aside0.mk (below_step (w := w) bel hb); have m_ : Aside0 (Kd.R (Kd.slice 2 (Kd.int .i64)) 78 w1 (w.heap.size + 3) (fun _ => True) (.slice a0 x.regions.length b0) x.regions) := ⟨Kd.R_below (by repeat (first | (with_reducible exact O0.out) | (with_reducible refine R_fresh ?_ (by first | (simp; done) | (simp; omega))))) hb⟩; clear O0; have O0 := m_; clear m_; have m_ : Aside0 (Kd.R kConst_I 81 w1 (w.heap.size + 3) (fun _ => True) (.slice a1 x.consts.length b1) x.consts) := ⟨Kd.R_below (by repeat (first | (with_reducible exact O1.out) | (with_reducible refine R_fresh ?_ (by first | (simp; done) | (simp; omega))))) hb⟩; clear O1; have O1 := m_; clear m_; have hz : w.heap.size < w1.heap.size := Nat.lt_of_lt_of_le (by first | assumption | (simp; done) | (simp; omega)) hb.size; have hz1 : w.heap.size + 1 < w1.heap.size := Nat.lt_of_lt_of_le (by first | assumption | (simp; done) | (simp; omega)) hb.size; have hz2 : w.heap.size + 2 < w1.heap.size := Nat.lt_of_lt_of_le (by first | assumption | (simp; done) | (simp; omega)) hb.size; obtain ⟨hc, hf⟩ := bcell hb; have k_ : Aside0 (w1.heap[w.heap.size + 1]? = some (.cells #[.slice none 0 0, .slice none 0 0, .slice none 0 0, .slice none 0 0] 55 (0, 0))) := ⟨(hb.block (w.heap.size + 1) (by first | assumption | (simp; done) | (simp; omega))).trans (by repeat (first | (with_reducible exact BKr.out) | with_reducible refine blk_far ?_ (by first | (simp; done) | (simp; omega)) _))⟩; clear BKr; have BKr := k_; clear k_; have O2 := Aside0.mk (Kd.R_lower (base' := w.heap.size + 3) ho (by first | (simp; done) | (simp; omega))); clear HB hb ho; have HB := n_; clear n_) | (go_at_call 45; (with_reducible refine (toCertS_at w _ _ x.certs _ H3.out (by unfold szProgram at hn; unfold szCertS at hn; omega)).mono ?_); rintro e w1 ⟨a3, b3, rfl, ho, hb⟩; have n_ := Aside0.mk (below_step (w := w) bel hb); have m_ : Aside0 (Kd.R (Kd.slice 2 (Kd.int .i64)) 78 w1 (w.heap.size + 3) (fun _ => True) (.slice a0 x.regions.length b0) x.regions) := ⟨Kd.R_below (by repeat (first | (with_reducible exact O0.out) | (with_reducible refine R_fresh ?_ (by first | (simp; done) | (simp; omega))))) hb⟩; clear O0; have O0 := m_; clear m_; have m_ : Aside0 (Kd.R kConst_I 81 w1 (w.heap.size + 3) (fun _ => True) (.slice a1 x.consts.length b1) x.consts) := ⟨Kd.R_below (by repeat (first | (with_reducible exact O1.out) | (with_reducible refine R_fresh ?_ (by first | (simp; done) | (simp; omega))))) hb⟩; clear O1; have O1 := m_; clear m_; have m_ : Aside0 (Kd.R kFunc_I 85 w1 (w.heap.size + 3) (fun _ => True) (.slice a2 x.funcs.length b2) x.funcs) := ⟨Kd.R_below (by repeat (first | (with_reducible exact O2.out) | (with_reducible refine R_fresh ?_ (by first | (simp; done) | (simp; omega))))) hb⟩; clear O2; have O2 := m_; clear m_; have hz : w.heap.size < w1.heap.size := Nat.lt_of_lt_of_le (by first | assumption | (simp; done) | (simp; omega)) hb.size; have hz1 : w.heap.size + 1 < w1.heap.size := Nat.lt_of_lt_of_le (by first | assumption | (simp; done) | (simp; omega)) hb.size; have hz2 : w.heap.size + 2 < w1.heap.size := Nat.lt_of_lt_of_le (by first | assumption | (simp; done) | (simp; omega)) hb.size; obtain ⟨hc, hf⟩ := bcell hb; have k_ : Aside0 (w1.heap[w.heap.size + 1]? = some (.cells #[.slice none 0 0, .slice none 0 0, .slice none 0 0, .slice none 0 0] 55 (0, 0))) := ⟨(hb.block (w.heap.size + 1) (by first | assumption | (simp; done) | (simp; omega))).trans (by repeat (first | (with_reducible exact BKr.out) | with_reducible refine blk_far ?_ (by first | (simp; done) | (simp; omega)) _))⟩; clear BKr; have BKr := k_; clear k_; have O3 := Aside0.mk (Kd.R_lower (base' := w.heap.size + 3) ho (by first | (simp; done) | (simp; omega))); clear HB hb ho; have HB := n_; clear n_))
  refine bodyPost_ret (results_cell_row rfl _ _ (w.heap.size + 1) 55 #[.slice a0 x.regions.length b0, .slice a1 x.consts.length b1, .slice a2 x.funcs.length b2, .slice a3 x.certs.length b3] (0, 0) _ rfl (by refine blk_put (cs := #[.slice a0 x.regions.length b0, .slice a1 x.consts.length b1, .slice a2 x.funcs.length b2, .slice none 0 0]) ?_ 3 _ rfl; refine blk_put (cs := #[.slice a0 x.regions.length b0, .slice a1 x.consts.length b1, .slice none 0 0, .slice none 0 0]) ?_ 2 _ rfl; refine blk_put (cs := #[.slice a0 x.regions.length b0, .slice none 0 0, .slice none 0 0, .slice none 0 0]) ?_ 1 _ rfl; refine blk_put (cs := #[.slice none 0 0, .slice none 0 0, .slice none 0 0, .slice none 0 0]) ?_ 0 _ rfl; repeat (first | (with_reducible exact BKr.out) | with_reducible refine blk_far ?_ (by first | (simp; done) | (simp; omega)) _)) Try.underlying55 rfl (by kernel_rfl)) rfl ⟨_, _, _, _, _, _, _, _, rfl, ?_, ?_, ?_, ?_, ?_⟩
  · exact Kd.R_lower (base := w.heap.size + 3) (by repeat (first | (with_reducible exact O0.out) | (with_reducible refine R_fresh ?_ (by first | (simp; done) | (simp; omega))))) (by omega)
  · exact Kd.R_lower (base := w.heap.size + 3) (by repeat (first | (with_reducible exact O1.out) | (with_reducible refine R_fresh ?_ (by first | (simp; done) | (simp; omega))))) (by omega)
  · exact Kd.R_lower (base := w.heap.size + 3) (by repeat (first | (with_reducible exact O2.out) | (with_reducible refine R_fresh ?_ (by first | (simp; done) | (simp; omega))))) (by omega)
  · exact Kd.R_lower (base := w.heap.size + 3) (by repeat (first | (with_reducible exact O3.out) | (with_reducible refine R_fresh ?_ (by first | (simp; done) | (simp; omega))))) (by omega)
  exact bel

theorem toProgram_at (w0 : World) (A0 : Option Addr) (c0 : Nat) (A1 : Option Addr) (c1 : Nat) (A2 : Option Addr) (c2 : Nat) (A3 : Option Addr) (c3 : Nat) (x : MProgram) (w : World) (h0 : Kd.C (Kd.slice 2 (Kd.int .i64)) w0 A0 x.regions.length x.regions) (h1 : Kd.C kConst_L w0 A1 x.consts.length x.consts) (h2 : Kd.C kFunc_L w0 A2 x.funcs.length x.funcs) (h3 : Kd.C kCert_L w0 A3 x.certs.length x.certs) (hn : szProgram x ≤ 1048576) (hb : Below w0.heap.size w0 w := by exact bel) :
    Calls Try.prog 16 #[.agg #[.slice A0 x.regions.length c0, .slice A1 x.consts.length c1, .slice A2 x.funcs.length c2, .slice A3 x.certs.length c3]] w fun e w' => ∃ a0 b0, ∃ a1 b1, ∃ a2 b2, ∃ a3 b3, e = .returned (.agg #[.slice a0 x.regions.length b0, .slice a1 x.consts.length b1, .slice a2 x.funcs.length b2, .slice a3 x.certs.length b3]) ∧ Kd.R (Kd.slice 2 (Kd.int .i64)) 78 w' w.heap.size (fun _ => True) (.slice a0 x.regions.length b0) x.regions ∧ Kd.R kConst_I 81 w' w.heap.size (fun _ => True) (.slice a1 x.consts.length b1) x.consts ∧ Kd.R kFunc_I 85 w' w.heap.size (fun _ => True) (.slice a2 x.funcs.length b2) x.funcs ∧ Kd.R kCert_I 87 w' w.heap.size (fun _ => True) (.slice a3 x.certs.length b3) x.certs ∧ Below w.heap.size w w' := toProgram_calls A0 c0 A1 c1 A2 c2 A3 c3 x w (Kd.C_below h0 hb) (Kd.C_below h1 hb) (Kd.C_below h2 hb) (Kd.C_below h3 hb) hn

end Go.Proofs.Ytlnlbncinjiinab.X
