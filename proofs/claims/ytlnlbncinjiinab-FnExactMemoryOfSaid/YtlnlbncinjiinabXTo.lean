/- Of this session: contracts over the words of the kit's print. -/
import Derived.Test.YtlnlbncinjiinabProg
import Derived.Below
import Derived.Deep.Draws
import Derived.Deep.AppendLies
import Derived.Maps.AppendAt
import Derived.OwnWalk
import Derived.Laws.BytesArg
import Derived.Laws.MakeOwn
import Derived.Laws.OwnMore
import Derived.Deep.OwnRows
import Derived.Tactics
import Derived.Lib.ConvBytes
import Derived.Laws.Slices
import Derived.WalkKit
import Derived.KernelRfl
import Derived.RowKit3
import Derived.Deep.LoopGhost
import Derived.Deep.QuietTactic
import Derived.BigQuiet
import Derived.WideLaws
import Derived.Deep.DeepCutAuto
import Derived.Deep.CutBlock
import Derived.Deep.RegionHeld3
import Derived.Laws.Rows
import Derived.Lib.AppendStr
import Derived.ArgAppend
import Derived.Laws.IdiomCopy
import Derived.OrdersHeld
import Derived.Laws.BitsLemmas
import Derived.RowKit
import Derived.StillTailTactics
import Derived.Test.YtlnlbncinjiinabWWords
import Derived.Test.YtlnlbncinjiinabWLast
import Derived.Test.YtlnlbncinjiinabWTab
import Derived.Test.YtlnlbncinjiinabWFour
import Derived.Test.YtlnlbncinjiinabWQPut
import Derived.Test.YtlnlbncinjiinabWApart
import Derived.Test.YtlnlbncinjiinabWArr
import Derived.Test.YtlnlbncinjiinabWZeros
import Derived.Test.YtlnlbncinjiinabWFoot
import Derived.Test.YtlnlbncinjiinabWKept
import Derived.Test.YtlnlbncinjiinabWShare
import Derived.Test.YtlnlbncinjiinabWN
import Derived.Test.YtlnlbncinjiinabWFootNe
import Derived.Test.YtlnlbncinjiinabWAt
import Derived.Test.YtlnlbncinjiinabWEqStruct
import Derived.Test.YtlnlbncinjiinabWRepsOne
import Derived.Test.YtlnlbncinjiinabWInv
import Derived.Test.YtlnlbncinjiinabWInvWords
import Derived.Test.YtlnlbncinjiinabWGuard
import Derived.Test.YtlnlbncinjiinabWNEv
import Derived.Test.YtlnlbncinjiinabWMore
import Derived.ChangeArms
import Derived.Test.YtlnlbncinjiinabX0
import Derived.Test.YtlnlbncinjiinabXEq
import Derived.Test.YtlnlbncinjiinabXSz
namespace Go.Proofs.Ytlnlbncinjiinab.X
open Go.RowKit Go.Proofs.YtlnlbncinjiinabW.PrintWords Go.Proofs.YtlnlbncinjiinabW.PrintLast Go.Proofs.YtlnlbncinjiinabW.PrintMore
set_option linter.unusedVariables false
set_option linter.unusedSimpArgs false
theorem fill_step {α : Type} (z zl : α) (l : List α) (n : Nat) (i : Int) (h0 : 0 ≤ i) (h1 : i < n) (hn : l.length = n) :
    ((l.take i.toNat ++ List.replicate (n - i.toNat) z).set i.toNat (l.getD i.toNat zl)) = l.take (i + 1).toNat ++ List.replicate (n - (i + 1).toNat) z := by
  have hi : i.toNat < l.length := by omega
  have h2 : (i + 1).toNat = i.toNat + 1 := by omega
  have h3 : n - i.toNat = (n - (i.toNat + 1)) + 1 := by omega
  rw [h2, h3, List.replicate_succ, List.take_succ_eq_append_getElem hi]
  rw [List.set_append_right _ _ (by rw [List.length_take]; omega)]
  have h4 : i.toNat - (l.take i.toNat).length = 0 := by rw [List.length_take]; omega
  rw [h4, List.set_cons_zero, List.getD_eq_getElem?_getD, List.getElem?_eq_getElem hi]
  simp only [Option.getD_some, List.append_assoc, List.singleton_append]
theorem fill_len {α : Type} (z : α) (l : List α) (n : Nat) (i : Int) (h0 : 0 ≤ i) (h1 : i ≤ n) (hn : l.length = n) : (l.take i.toNat ++ List.replicate (n - i.toNat) z).length = n := by
  rw [List.length_append, List.length_take, List.length_replicate]; omega
theorem fill_end {α : Type} (z : α) (l : List α) : l.take (l.length : Int).toNat ++ List.replicate (l.length - (l.length : Int).toNat) z = l := by simp
theorem R_storeA {α : Type} {P : Program} {ops : Array Oper} {rest : List Oper} {o : Oper} {a : Act} {Q : Exit → Act → World → Prop} (d : Kd α) {w0 W : World} (base : Nat) (hN : o.dst = none) (hgd : o.guard = none) (t : TypeId) (p x : Operand) (ho : o.op = .store t p x) (e : TypeId) {g n cap o' : Nat} (i : Int) (xs : List α) (x' : α) (u : Value) (seg : List Value)
    (haddr : a.eval p = .pointer (some ⟨g, o', none⟩)) (hoff : o' = i.toNat * d.sz) (hx : a.eval x = u) (hu : u.cells.toList = seg) (ht : (P.info? t).map (·.size) = some seg.length) (h1 : ∀ q ∈ seg, q.oneCell' = true)
    (HO : d.R e W base (fun _ => True) (.slice (some ⟨g, 0, none⟩) n cap) xs) (h0 : 0 ≤ i) (hi : i < n) (z : α) (hseg : seg.length = d.sz) (hM : d.M W base (fun k => True ∧ k ≠ g) x' seg) (HB : Below base w0 W)
    (h : ∀ w1, d.R e w1 base (fun _ => True) (.slice (some ⟨g, 0, none⟩) n cap) (xs.set i.toNat x') → Below base w0 w1 → W.grownBy w1 (some g) → wpList P ops Q rest a w1) : wpList P ops Q (o :: rest) a W := by
  obtain ⟨c, hcl, _, hcc, _⟩ := Kd.R_elem HO z i h0 hi
  refine Kd.R_store d base hN hgd t p x ho e i 0 xs x' u seg c (fun _ => True) (fun k => True ∧ k ≠ g) haddr hoff hx hu ht h1 HO h0 hi hcl hcc (by omega) ?_ (fun _ hk => hk) HB h
  have : c.drop (0 + seg.length) = [] := List.drop_eq_nil_of_le (by omega)
  rw [this, List.take_zero, List.nil_append, List.append_nil]
  exact hM
theorem S_storeA {α : Type} {P : Program} {ops : Array Oper} {rest : List Oper} {o : Oper} {a : Act} {Q : Exit → Act → World → Prop} (d : Kd α) {w0 W : World} (base : Nat) (hN : o.dst = none) (hgd : o.guard = none) (t : TypeId) (p x : Operand) (ho : o.op = .store t p x) (e : TypeId) {g n cap o' : Nat} (i : Int) (xs : List α) (x' : α) (u : Value) (seg : List Value) (N : Nat)
    (haddr : a.eval p = .pointer (some ⟨g, o', none⟩)) (hoff : o' = i.toNat * d.sz) (hx : a.eval x = u) (hu : u.cells.toList = seg) (ht : (P.info? t).map (·.size) = some seg.length) (h1 : ∀ q ∈ seg, q.oneCell' = true)
    (HO : Kd.S d e W base (fun k => True ∧ k < N) (.slice (some ⟨g, 0, none⟩) n cap) xs) (h0 : 0 ≤ i) (hi : i < n) (z : α) (hM : d.M W base (fun k => N ≤ k) x' seg) (HB : Below base w0 W)
    (h : ∀ w1, Kd.S d e w1 base (fun _ => True) (.slice (some ⟨g, 0, none⟩) n cap) (xs.set i.toNat x') → Below base w0 w1 → W.grownBy w1 (some g) → wpList P ops Q rest a w1) : wpList P ops Q (o :: rest) a W := by
  obtain ⟨oki, c, hcl, _, _, _, hH⟩ := Kd.S_lend (Kd.S_mono (ok' := fun k => True ∧ ¬ N ≤ k) HO (fun k hk => ⟨trivial, by have := hk.2; omega⟩)) z i h0 hi
  have hH2 := Kd.H_more (okg := fun k => N ≤ k) hH (fun _ _ => trivial)
  have hsl : seg.length = d.sz := d.K_len (d.K_of_M hM)
  refine Kd.H_store d base hN hgd t p x ho e i 0 xs x' u seg c (fun _ => True) (fun k => oki k ∨ N ≤ k) (fun k => N ≤ k) haddr (by omega) hx hu ht h1 hH2 h0 hi (by omega) ?_ (fun k hk => .inr hk) HB h
  have : c.drop (0 + seg.length) = [] := List.drop_eq_nil_of_le (by omega)
  rw [this, List.take_zero, List.nil_append, List.append_nil]
  exact hM
theorem szsum_mem {α : Type} (f : α → Nat) (z : α) (l : List α) (i : Nat) (h : i < l.length) : f (l.getD i z) ≤ szsum f l := by
  have h1 := szsum_step f z l i h
  have h2 := szsum_le f l (i + 1)
  omega

theorem info_ValueS : (Try.prog.info? 33).map (fun i => (i.zero, i.size, i.bytes)) = some (some (.slice none 0 0), 1, 24) := by kernel_rfl

theorem info_Value : (Try.prog.info? 103).map (fun i => (i.zero, i.size, i.bytes)) = some (some (.agg #[.int .i64 0, .int .u32 0]), 2, 16) := by kernel_rfl

set_option maxHeartbeats 4000000 in
set_option maxRecDepth 100000 in
theorem toValue_calls (x : MValue) (w : World) :
    Calls Try.prog 55 #[.agg #[.int .i64 x.ty, .int .u32 x.word]] w fun e w' => e = .returned (.agg #[.int .i64 x.ty, .int .u32 x.word]) ∧ Below w.heap.size w w' := by
  have HB := Aside0.mk (Below.refl w.heap.size w)
  go_enter Try.func55, Try.ntmps55
  go_wp2
  refine bodyPost_ret (v := .agg #[.int .i64 x.ty, .int .u32 x.word]) (by simp [results, Try.results55, go_sem]) rfl ⟨rfl, ?_⟩
  exact bel

theorem toValue_at (w0 : World) (x : MValue) (w : World) (hb : Below w0.heap.size w0 w := by exact bel) :
    Calls Try.prog 55 #[.agg #[.int .i64 x.ty, .int .u32 x.word]] w fun e w' => e = .returned (.agg #[.int .i64 x.ty, .int .u32 x.word]) ∧ Below w.heap.size w w' := toValue_calls x w

set_option maxHeartbeats 1000000 in
set_option maxRecDepth 100000 in
theorem toValueS_calls (A0 : Option Addr) (c0 : Nat) (l0 : List MValue) (w : World) (hr : Kd.C kValue_L w A0 l0.length l0) (hn : l0.length ≤ 1048576) :
    Calls Try.prog 24 #[.slice A0 l0.length c0] w fun e w' => ∃ A c, e = .returned (.slice A l0.length c) ∧ Kd.S kValue_I 103 w' w.heap.size (fun _ => True) (.slice A l0.length c) l0 ∧ Below w.heap.size w w' := by
  have hl : l0.length ≤ 1048576 := by first | exact hn | (unfold szValueS at hn; omega)
  have HR := Aside0.mk hr
  clear hr
  go_enter Try.func24, Try.ntmps24
  go_wp2_with (refine Kd.R_make kValue_I _ 103 rfl rfl 33 _ _ rfl (l0.length : Int) rfl rfl Try.underlying33 (.agg #[.int .i64 0, .int .u32 0]) 16 info_Value rfl (by decide) (by omega) zValue (ok := fun _ => True) (okp := fun _ => True) (kValue_I_mkM _ _ _ zValue  ) (fun _ hk => hk) trivial (by omega) (by simp; omega) (Below.refl w.heap.size w) (Nat.le_refl _) ?_; intro vo w1 ho hb hg hnew; clear hg hnew; have HO0 := Aside0.mk ho; have HB0 := Aside0.mk hb; clear ho hb)
  go_loopw [4] (fun v wr => ∃ i : Int, 0 ≤ i ∧ i ≤ l0.length ∧ v = .int .i64 i ∧ Aside0 (Kd.R kValue_I 103 wr w.heap.size (fun _ => True) vo (l0.take i.toNat ++ List.replicate (l0.length - i.toNat) zValue)) ∧ Aside0 (Below w.heap.size w wr)) (fun v _ => ((l0.length : Int) - intOf v).toNat)
  case atStart => exact ⟨0, by omega, by omega, rfl, ⟨by simpa using HO0.out⟩, HB0⟩
  case round =>
    obtain ⟨i, h0, hi, rfl, HO, HB⟩ := hrel
    clear HO0 HB0
    by_cases hlt : i < l0.length
    · obtain ⟨ad0, e0, x00, x01⟩ := atValue_L (Kd.C_below HR.out HB.out) i h0 hlt
      cases e0
      have HLen := Aside0.mk (fill_len zValue l0 l0.length i h0 hi rfl)
      have HF := Aside0.mk (fill_step zValue zValue l0 l0.length i h0 hlt rfl)
      obtain ⟨g, cap, ev, hgl⟩ : ∃ g cap, vo = .slice (some ⟨g, 0, none⟩) l0.length cap ∧ Aside0 (g < wr.heap.size) := by
        obtain ⟨g, cap, ev, _, h2, _⟩ := Kd.R_form HO.out (by rw [HLen.out]; omega)
        exact ⟨g, cap, by rw [ev, HLen.out], ⟨h2⟩⟩
      subst ev
      
      go_wp2_with (first | (go_at_call 55; (with_reducible refine (toValue_at wr  (rdValue l0 i) _ ).mono ?_); rintro e w1 ⟨rfl, hb⟩; have HO1 := Aside0.mk (Kd.R_below HO.out hb); have HB1 := Aside0.mk (below_step (w := w) bel hb); clear hb) | (refine R_storeA kValue_I w.heap.size rfl rfl 103 _ _ rfl 103 i _ (rdValue l0 i) (.agg #[.int .i64 (rdValue l0 i).ty, .int .u32 (rdValue l0 i).word]) [.int .i64 (rdValue l0 i).ty, .int .u32 (rdValue l0 i).word] rfl (by first | rfl | exact (Nat.mul_one _).symm) rfl rfl (by kernel_rfl) (by intro q hq; simp at hq; first | (subst hq; rfl) | (rcases hq with rfl | rfl <;> rfl)) HO1.out h0 (by omega) zValue rfl (kValue_I_mkM _ _ _ (rdValue l0 i) ) HB1.out ?_; intro w2 ho2 hb2 hg2; have HO2 := Aside0.mk ho2; have HB2 := Aside0.mk hb2; clear ho2 hb2 hg2))
      go_roundw
      case rel => exact ⟨i + 1, by omega, by omega, rfl, ⟨by rw [← HF.out]; exact HO2.out⟩, HB2⟩
      case measure => simp [intOf]; omega
    · obtain rfl : i = l0.length := by omega
      have HE := Aside0.mk (show Kd.R kValue_I 103 wr w.heap.size (fun _ => True) vo l0 from by have h := HO.out; rwa [fill_end] at h)
      obtain ⟨A, c, ev⟩ := Kd.R_slice HE.out
      subst ev
      go_wp2
      go_ret
      exact ⟨_, _, rfl, S_flat rfl HE.out, bel⟩

theorem toValueS_at (w0 : World) (A0 : Option Addr) (c0 : Nat) (l0 : List MValue) (w : World) (hr : Kd.C kValue_L w0 A0 l0.length l0) (hn : l0.length ≤ 1048576) (hb : Below w0.heap.size w0 w := by exact bel) :
    Calls Try.prog 24 #[.slice A0 l0.length c0] w fun e w' => ∃ A c, e = .returned (.slice A l0.length c) ∧ Kd.S kValue_I 103 w' w.heap.size (fun _ => True) (.slice A l0.length c) l0 ∧ Below w.heap.size w w' := toValueS_calls A0 c0 l0 w (Kd.C_below hr hb) hn

set_option maxHeartbeats 1000000 in
set_option maxRecDepth 100000 in
theorem toValueSS_calls (A0 : Option Addr) (c0 : Nat) (l0 : List (List MValue)) (w : World) (hr : Kd.C (Kd.slice 105 kValue_L) w A0 l0.length l0) (hn : szValueSS l0 ≤ 1048576) :
    Calls Try.prog 23 #[.slice A0 l0.length c0] w fun e w' => ∃ A c, e = .returned (.slice A l0.length c) ∧ Kd.S (aslice 103 kValue_I) 33 w' w.heap.size (fun _ => True) (.slice A l0.length c) l0 ∧ Below w.heap.size w w' := by
  have hl : l0.length ≤ 1048576 := by first | exact hn | (unfold szValueSS at hn; omega)
  have HR := Aside0.mk hr
  clear hr
  go_enter Try.func23, Try.ntmps23
  go_wp2_with (refine Kd.S_make (aslice 103 kValue_I) _ 33 rfl rfl 32 _ _ rfl (l0.length : Int) rfl rfl Try.underlying32 (.slice none 0 0) 24 info_ValueS rfl (by decide) (by omega) [] (ok := fun _ => True) (okp := fun _ => True) ⟨_, rfl, Kd.S_nil _ _ _ _ _⟩ (fun _ hk => hk) trivial (by omega) (by simp; omega) (Below.refl w.heap.size w) (Nat.le_refl _) ?_; intro vo w1 ho hb hg hnew; clear hg hnew; have HO0 := Aside0.mk ho; have HB0 := Aside0.mk hb; clear ho hb)
  go_loopw [4] (fun v wr => ∃ i : Int, 0 ≤ i ∧ i ≤ l0.length ∧ v = .int .i64 i ∧ Aside0 (Kd.S (aslice 103 kValue_I) 33 wr w.heap.size (fun _ => True) vo (l0.take i.toNat ++ List.replicate (l0.length - i.toNat) [])) ∧ Aside0 (Below w.heap.size w wr)) (fun v _ => ((l0.length : Int) - intOf v).toNat)
  case atStart => exact ⟨0, by omega, by omega, rfl, ⟨by simpa using HO0.out⟩, HB0⟩
  case round =>
    obtain ⟨i, h0, hi, rfl, HO, HB⟩ := hrel
    clear HO0 HB0
    by_cases hlt : i < l0.length
    · obtain ⟨ad0, B0, b0, e0, x0, y0, q0⟩ := atLL (Kd.C_below HR.out HB.out) i h0 hlt
      cases e0
      have HLen := Aside0.mk (fill_len [] l0 l0.length i h0 hi rfl)
      have HF := Aside0.mk (fill_step [] [] l0 l0.length i h0 hlt rfl)
      obtain ⟨g, cap, ev, hgl⟩ : ∃ g cap, vo = .slice (some ⟨g, 0, none⟩) l0.length cap ∧ Aside0 (g < wr.heap.size) := by
        obtain ⟨g, cap, ev, _, h2, _⟩ := Kd.S_form HO.out (by rw [HLen.out]; omega)
        exact ⟨g, cap, by rw [ev, HLen.out], ⟨h2⟩⟩
      subst ev
      have hq : (rdLL l0 i).length ≤ 1048576 := by (have h1 := szsum_mem szValueS [] l0 i.toNat (by omega); unfold szValueSS at hn; exact Nat.le_trans h1 (by omega))
      have HQ := Aside0.mk hq
      clear hq
      go_wp2_with (first | (go_at_call 24; (with_reducible refine (toValueS_at wr _ _ (rdLL l0 i) _ q0 HQ.out).mono ?_); rintro e w1 ⟨a0, b0, rfl, ho, hb⟩; have HM := Aside0.mk (M_fresh (d := (aslice 103 kValue_I)) (x := (rdLL l0 i)) ⟨_, rfl, ho⟩ HB.out.size); have HO1 := Aside0.mk (Kd.S_old HO.out hb); have HB1 := Aside0.mk (below_step (w := w) bel hb); clear hb ho) | (refine S_storeA (aslice 103 kValue_I) w.heap.size rfl rfl 33 _ _ rfl 33 i _ (rdLL l0 i) (.slice a0 (rdLL l0 i).length b0) [.slice a0 (rdLL l0 i).length b0] wr.heap.size rfl (by first | rfl | exact (Nat.mul_one _).symm) rfl rfl (by kernel_rfl) (by intro q hq; simp at hq; first | (subst hq; rfl) | (rcases hq with rfl <;> rfl)) HO1.out h0 (by omega) [] HM.out HB1.out ?_; intro w2 ho2 hb2 hg2; have HO2 := Aside0.mk ho2; have HB2 := Aside0.mk hb2; clear ho2 hb2 hg2))
      go_roundw
      case rel => exact ⟨i + 1, by omega, by omega, rfl, ⟨by rw [← HF.out]; exact HO2.out⟩, HB2⟩
      case measure => simp [intOf]; omega
    · obtain rfl : i = l0.length := by omega
      have HE := Aside0.mk (show Kd.S (aslice 103 kValue_I) 33 wr w.heap.size (fun _ => True) vo l0 from by have h := HO.out; rwa [fill_end] at h)
      obtain ⟨A, c, ev⟩ := Kd.S_slice HE.out
      subst ev
      go_wp2
      go_ret
      exact ⟨_, _, rfl, HE.out, bel⟩

theorem toValueSS_at (w0 : World) (A0 : Option Addr) (c0 : Nat) (l0 : List (List MValue)) (w : World) (hr : Kd.C (Kd.slice 105 kValue_L) w0 A0 l0.length l0) (hn : szValueSS l0 ≤ 1048576) (hb : Below w0.heap.size w0 w := by exact bel) :
    Calls Try.prog 23 #[.slice A0 l0.length c0] w fun e w' => ∃ A c, e = .returned (.slice A l0.length c) ∧ Kd.S (aslice 103 kValue_I) 33 w' w.heap.size (fun _ => True) (.slice A l0.length c) l0 ∧ Below w.heap.size w w' := toValueSS_calls A0 c0 l0 w (Kd.C_below hr hb) hn

theorem info_Frame : (Try.prog.info? 107).map (fun i => (i.zero, i.size, i.bytes)) = some (some (.agg #[.int .i64 0, .int .i64 0, .int .i64 0, .slice none 0 0]), 4, 48) := by kernel_rfl

set_option maxHeartbeats 4000000 in
set_option maxRecDepth 100000 in
theorem toFrame_calls (A3 : Option Addr) (c3 : Nat) (x : MFrame) (w : World) (h3 : Kd.C kValue_L w A3 x.locals.length x.locals) (hn : szFrame x ≤ 1048576) :
    Calls Try.prog 56 #[.agg #[.int .i64 x.func, .int .i64 x.at_, .int .i64 x.base, .slice A3 x.locals.length c3]] w fun e w' => ∃ a3 b3, e = .returned (.agg #[.int .i64 x.func, .int .i64 x.at_, .int .i64 x.base, .slice a3 x.locals.length b3]) ∧ kFrame_I.M w' w.heap.size (fun _ => True) x [.int .i64 x.func, .int .i64 x.at_, .int .i64 x.base, .slice a3 x.locals.length b3] ∧ Below w.heap.size w w' := by
  have H3 := Aside0.mk h3; have HB := Aside0.mk (Below.refl w.heap.size w)
  clear h3
  go_enter Try.func56, Try.ntmps56
  go_wp2_with (first | (go_at_call 24; (with_reducible refine (toValueS_at w _ _ x.locals _ H3.out (by unfold szFrame at hn; unfold szValueS at hn; omega)).mono ?_); rintro e w1 ⟨a3, b3, rfl, ho, hb⟩; have n_ := Aside0.mk (below_step (w := w) bel hb); have hz : w.heap.size < w1.heap.size := Nat.lt_of_lt_of_le (by first | assumption | (simp; done) | (simp; omega)) hb.size; have hz1 : w.heap.size + 1 < w1.heap.size := Nat.lt_of_lt_of_le (by first | assumption | (simp; done) | (simp; omega)) hb.size; have hz2 : w.heap.size + 2 < w1.heap.size := Nat.lt_of_lt_of_le (by first | assumption | (simp; done) | (simp; omega)) hb.size; obtain ⟨hc, hf⟩ := bcell hb; have k_ : Aside0 (w1.heap[w.heap.size + 1]? = some (.cells #[.int .i64 0, .int .i64 0, .int .i64 0, .slice none 0 0] 107 (0, 0))) := ⟨(hb.block (w.heap.size + 1) (by first | assumption | (simp; done) | (simp; omega))).trans (blk_alloc3 w _ _ _ _ _ _)⟩; have BKr := k_; clear k_; obtain ⟨m1, hm1⟩ : ∃ n_, n_ = w1.heap.size := ⟨_, rfl⟩; have hmm1 : w.heap.size + 3 ≤ m1 := (fun hs => hm1 ▸ Nat.le_trans hs hb.size : (w.heap.size + 3 ≤ _) → w.heap.size + 3 ≤ m1) (by first | assumption | (simp; done) | (simp; omega)); have O3 : Aside0 (Kd.S kValue_I 103 w1 (w.heap.size + 3) (fun k => w.heap.size + 3 ≤ k ∧ k < m1) (.slice a3 x.locals.length b3) x.locals) := ⟨by rw [hm1]; exact S_lohi ho (by first | assumption | (simp; done) | (simp; omega)) (by omega)⟩; clear HB hb ho; have HB := n_; clear n_))
  refine bodyPost_ret (results_cell_row rfl _ _ (w.heap.size + 1) 107 #[.int .i64 x.func, .int .i64 x.at_, .int .i64 x.base, .slice a3 x.locals.length b3] (0, 0) _ rfl (by refine blk_put (cs := #[.int .i64 x.func, .int .i64 x.at_, .int .i64 x.base, .slice none 0 0]) ?_ 3 _ rfl; refine blk_put (cs := #[.int .i64 x.func, .int .i64 x.at_, .int .i64 0, .slice none 0 0]) ?_ 2 _ rfl; refine blk_put (cs := #[.int .i64 x.func, .int .i64 0, .int .i64 0, .slice none 0 0]) ?_ 1 _ rfl; refine blk_put (cs := #[.int .i64 0, .int .i64 0, .int .i64 0, .slice none 0 0]) ?_ 0 _ rfl; repeat (first | (with_reducible exact BKr.out) | with_reducible refine blk_far ?_ (by first | (simp; done) | (simp; omega)) _)) Try.underlying107 rfl (by kernel_rfl)) rfl ⟨_, _, rfl, ?_, ?_⟩
  · exact kFrame_I_mkM _ _ _ x  (Kd.S_mono (ok := fun k => w.heap.size + 3 ≤ k ∧ k < m1) (Kd.S_lower (base := w.heap.size + 3) (by repeat (first | (with_reducible exact O3.out) | (with_reducible refine S_farO ?_ (by first | (simp; done) | (simp; omega))))) (by omega)) (fun k hk => by have h1_ := hk.1; have h2_ := hk.2; clear hk; simp only [true_and]; done))
  exact bel

theorem toFrame_at (w0 : World) (A3 : Option Addr) (c3 : Nat) (x : MFrame) (w : World) (h3 : Kd.C kValue_L w0 A3 x.locals.length x.locals) (hn : szFrame x ≤ 1048576) (hb : Below w0.heap.size w0 w := by exact bel) :
    Calls Try.prog 56 #[.agg #[.int .i64 x.func, .int .i64 x.at_, .int .i64 x.base, .slice A3 x.locals.length c3]] w fun e w' => ∃ a3 b3, e = .returned (.agg #[.int .i64 x.func, .int .i64 x.at_, .int .i64 x.base, .slice a3 x.locals.length b3]) ∧ kFrame_I.M w' w.heap.size (fun _ => True) x [.int .i64 x.func, .int .i64 x.at_, .int .i64 x.base, .slice a3 x.locals.length b3] ∧ Below w.heap.size w w' := toFrame_calls A3 c3 x w (Kd.C_below h3 hb) hn

set_option maxHeartbeats 1000000 in
set_option maxRecDepth 100000 in
theorem toFrameS_calls (A0 : Option Addr) (c0 : Nat) (l0 : List MFrame) (w : World) (hr : Kd.C kFrame_L w A0 l0.length l0) (hn : szFrameS l0 ≤ 1048576) :
    Calls Try.prog 25 #[.slice A0 l0.length c0] w fun e w' => ∃ A c, e = .returned (.slice A l0.length c) ∧ Kd.S kFrame_I 107 w' w.heap.size (fun _ => True) (.slice A l0.length c) l0 ∧ Below w.heap.size w w' := by
  have hl : l0.length ≤ 1048576 := by first | exact hn | (unfold szFrameS at hn; omega)
  have HR := Aside0.mk hr
  clear hr
  go_enter Try.func25, Try.ntmps25
  go_wp2_with (refine Kd.S_make kFrame_I _ 107 rfl rfl 34 _ _ rfl (l0.length : Int) rfl rfl Try.underlying34 (.agg #[.int .i64 0, .int .i64 0, .int .i64 0, .slice none 0 0]) 48 info_Frame rfl (by decide) (by omega) zFrame (ok := fun _ => True) (okp := fun _ => True) (kFrame_I_mkM _ _ _ zFrame  (Kd.S_nil _ _ _ _ _)) (fun _ hk => hk) trivial (by omega) (by simp; omega) (Below.refl w.heap.size w) (Nat.le_refl _) ?_; intro vo w1 ho hb hg hnew; clear hg hnew; have HO0 := Aside0.mk ho; have HB0 := Aside0.mk hb; clear ho hb)
  go_loopw [4] (fun v wr => ∃ i : Int, 0 ≤ i ∧ i ≤ l0.length ∧ v = .int .i64 i ∧ Aside0 (Kd.S kFrame_I 107 wr w.heap.size (fun _ => True) vo (l0.take i.toNat ++ List.replicate (l0.length - i.toNat) zFrame)) ∧ Aside0 (Below w.heap.size w wr)) (fun v _ => ((l0.length : Int) - intOf v).toNat)
  case atStart => exact ⟨0, by omega, by omega, rfl, ⟨by simpa using HO0.out⟩, HB0⟩
  case round =>
    obtain ⟨i, h0, hi, rfl, HO, HB⟩ := hrel
    clear HO0 HB0
    by_cases hlt : i < l0.length
    · obtain ⟨ad0, B03, b03, e0, x00, x01, x02, x03, y03, q03⟩ := atFrame_L (Kd.C_below HR.out HB.out) i h0 hlt
      cases e0
      have HLen := Aside0.mk (fill_len zFrame l0 l0.length i h0 hi rfl)
      have HF := Aside0.mk (fill_step zFrame zFrame l0 l0.length i h0 hlt rfl)
      obtain ⟨g, cap, ev, hgl⟩ : ∃ g cap, vo = .slice (some ⟨g, 0, none⟩) l0.length cap ∧ Aside0 (g < wr.heap.size) := by
        obtain ⟨g, cap, ev, _, h2, _⟩ := Kd.S_form HO.out (by rw [HLen.out]; omega)
        exact ⟨g, cap, by rw [ev, HLen.out], ⟨h2⟩⟩
      subst ev
      have hq : szFrame (rdFrame l0 i) ≤ 1048576 := by (have h1 := szsum_mem szFrame zFrame l0 i.toNat (by omega); unfold szFrameS at hn; exact Nat.le_trans h1 (by omega))
      have HQ := Aside0.mk hq
      clear hq
      go_wp2_with (first | (go_at_call 56; (with_reducible refine (toFrame_at wr _ _ (rdFrame l0 i) _ q03 HQ.out).mono ?_); rintro e w1 ⟨a3, b3, rfl, ho, hb⟩; have HM := Aside0.mk (M_fresh (d := kFrame_I) (x := (rdFrame l0 i)) ho HB.out.size); have HO1 := Aside0.mk (Kd.S_old HO.out hb); have HB1 := Aside0.mk (below_step (w := w) bel hb); clear hb ho) | (refine S_storeA kFrame_I w.heap.size rfl rfl 107 _ _ rfl 107 i _ (rdFrame l0 i) (.agg #[.int .i64 (rdFrame l0 i).func, .int .i64 (rdFrame l0 i).at_, .int .i64 (rdFrame l0 i).base, .slice a3 (rdFrame l0 i).locals.length b3]) [.int .i64 (rdFrame l0 i).func, .int .i64 (rdFrame l0 i).at_, .int .i64 (rdFrame l0 i).base, .slice a3 (rdFrame l0 i).locals.length b3] wr.heap.size rfl (by first | rfl | exact (Nat.mul_one _).symm) rfl rfl (by kernel_rfl) (by intro q hq; simp at hq; first | (subst hq; rfl) | (rcases hq with rfl | rfl | rfl | rfl <;> rfl)) HO1.out h0 (by omega) zFrame HM.out HB1.out ?_; intro w2 ho2 hb2 hg2; have HO2 := Aside0.mk ho2; have HB2 := Aside0.mk hb2; clear ho2 hb2 hg2))
      go_roundw
      case rel => exact ⟨i + 1, by omega, by omega, rfl, ⟨by rw [← HF.out]; exact HO2.out⟩, HB2⟩
      case measure => simp [intOf]; omega
    · obtain rfl : i = l0.length := by omega
      have HE := Aside0.mk (show Kd.S kFrame_I 107 wr w.heap.size (fun _ => True) vo l0 from by have h := HO.out; rwa [fill_end] at h)
      obtain ⟨A, c, ev⟩ := Kd.S_slice HE.out
      subst ev
      go_wp2
      go_ret
      exact ⟨_, _, rfl, HE.out, bel⟩

theorem toFrameS_at (w0 : World) (A0 : Option Addr) (c0 : Nat) (l0 : List MFrame) (w : World) (hr : Kd.C kFrame_L w0 A0 l0.length l0) (hn : szFrameS l0 ≤ 1048576) (hb : Below w0.heap.size w0 w := by exact bel) :
    Calls Try.prog 25 #[.slice A0 l0.length c0] w fun e w' => ∃ A c, e = .returned (.slice A l0.length c) ∧ Kd.S kFrame_I 107 w' w.heap.size (fun _ => True) (.slice A l0.length c) l0 ∧ Below w.heap.size w w' := toFrameS_calls A0 c0 l0 w (Kd.C_below hr hb) hn

set_option maxHeartbeats 4000000 in
set_option maxRecDepth 100000 in
theorem toState_calls (A4 : Option Addr) (c4 : Nat) (A5 : Option Addr) (c5 : Nat) (A6 : Option Addr) (c6 : Nat) (x : MState) (w : World) (h4 : Kd.C (Kd.slice 105 kValue_L) w A4 x.cells.length x.cells) (h5 : Kd.C kValue_L w A5 x.stack.length x.stack) (h6 : Kd.C kFrame_L w A6 x.frames.length x.frames) (hn : szState x ≤ 1048576) :
    Calls Try.prog 7 #[.agg #[.int .i64 x.trap, .bool x.done, .int .i64 x.cost, .int .i64 x.steps, .slice A4 x.cells.length c4, .slice A5 x.stack.length c5, .slice A6 x.frames.length c6]] w fun e w' => ∃ a4 b4, ∃ a5 b5, ∃ a6 b6, e = .returned (.agg #[.int .i64 x.trap, .bool x.done, .int .i64 x.cost, .int .i64 x.steps, .slice a4 x.cells.length b4, .slice a5 x.stack.length b5, .slice a6 x.frames.length b6]) ∧ kState_I.M w' w.heap.size (fun _ => True) x [.int .i64 x.trap, .bool x.done, .int .i64 x.cost, .int .i64 x.steps, .slice a4 x.cells.length b4, .slice a5 x.stack.length b5, .slice a6 x.frames.length b6] ∧ Below w.heap.size w w' := by
  have H4 := Aside0.mk h4; have H5 := Aside0.mk h5; have H6 := Aside0.mk h6; have HB := Aside0.mk (Below.refl w.heap.size w)
  clear h4 h5 h6
  go_enter Try.func7, Try.ntmps7
  go_wp2_with (first | (go_at_call 23; (with_reducible refine (toValueSS_at w _ _ x.cells _ H4.out (by unfold szState at hn; omega)).mono ?_); rintro e w1 ⟨a4, b4, rfl, ho, hb⟩; have n_ := Aside0.mk (below_step (w := w) bel hb); have hz : w.heap.size < w1.heap.size := Nat.lt_of_lt_of_le (by first | assumption | (simp; done) | (simp; omega)) hb.size; have hz1 : w.heap.size + 1 < w1.heap.size := Nat.lt_of_lt_of_le (by first | assumption | (simp; done) | (simp; omega)) hb.size; have hz2 : w.heap.size + 2 < w1.heap.size := Nat.lt_of_lt_of_le (by first | assumption | (simp; done) | (simp; omega)) hb.size; obtain ⟨hc, hf⟩ := bcell hb; have k_ : Aside0 (w1.heap[w.heap.size + 1]? = some (.cells #[.int .i64 0, .bool false, .int .i64 0, .int .i64 0, .slice none 0 0, .slice none 0 0, .slice none 0 0] 36 (0, 0))) := ⟨(hb.block (w.heap.size + 1) (by first | assumption | (simp; done) | (simp; omega))).trans (blk_alloc3 w _ _ _ _ _ _)⟩; have BKr := k_; clear k_; obtain ⟨m1, hm1⟩ : ∃ n_, n_ = w1.heap.size := ⟨_, rfl⟩; have hmm1 : w.heap.size + 3 ≤ m1 := (fun hs => hm1 ▸ Nat.le_trans hs hb.size : (w.heap.size + 3 ≤ _) → w.heap.size + 3 ≤ m1) (by first | assumption | (simp; done) | (simp; omega)); have O4 : Aside0 (Kd.S (aslice 103 kValue_I) 33 w1 (w.heap.size + 3) (fun k => w.heap.size + 3 ≤ k ∧ k < m1) (.slice a4 x.cells.length b4) x.cells) := ⟨by rw [hm1]; exact S_lohi ho (by first | assumption | (simp; done) | (simp; omega)) (by omega)⟩; clear HB hb ho; have HB := n_; clear n_) | (go_at_call 24; (with_reducible refine (toValueS_at w _ _ x.stack _ H5.out (by unfold szState at hn; unfold szValueS at hn; omega)).mono ?_); rintro e w1 ⟨a5, b5, rfl, ho, hb⟩; have n_ := Aside0.mk (below_step (w := w) bel hb); have m_ : Aside0 (Kd.S (aslice 103 kValue_I) 33 w1 (w.heap.size + 3) (fun k => w.heap.size + 3 ≤ k ∧ k < m1) (.slice a4 x.cells.length b4) x.cells) := ⟨Kd.S_below (by repeat (first | (with_reducible exact O4.out) | (with_reducible refine S_farO ?_ (by first | (simp; done) | (simp; omega))))) hb⟩; clear O4; have O4 := m_; clear m_; have hz : w.heap.size < w1.heap.size := Nat.lt_of_lt_of_le (by first | assumption | (simp; done) | (simp; omega)) hb.size; have hz1 : w.heap.size + 1 < w1.heap.size := Nat.lt_of_lt_of_le (by first | assumption | (simp; done) | (simp; omega)) hb.size; have hz2 : w.heap.size + 2 < w1.heap.size := Nat.lt_of_lt_of_le (by first | assumption | (simp; done) | (simp; omega)) hb.size; obtain ⟨hc, hf⟩ := bcell hb; have k_ : Aside0 (w1.heap[w.heap.size + 1]? = some (.cells #[.int .i64 0, .bool false, .int .i64 0, .int .i64 0, .slice none 0 0, .slice none 0 0, .slice none 0 0] 36 (0, 0))) := ⟨(hb.block (w.heap.size + 1) (by first | assumption | (simp; done) | (simp; omega))).trans (by repeat (first | (with_reducible exact BKr.out) | with_reducible refine blk_far ?_ (by first | (simp; done) | (simp; omega)) _))⟩; clear BKr; have BKr := k_; clear k_; obtain ⟨m2, hm2⟩ : ∃ n_, n_ = w1.heap.size := ⟨_, rfl⟩; have hmm2 : m1 ≤ m2 := (fun hs => hm2 ▸ Nat.le_trans hs hb.size : (m1 ≤ _) → m1 ≤ m2) (by first | assumption | (simp; done) | (simp; omega)); have O5 : Aside0 (Kd.S kValue_I 103 w1 (w.heap.size + 3) (fun k => m1 ≤ k ∧ k < m2) (.slice a5 x.stack.length b5) x.stack) := ⟨by rw [hm2]; exact S_lohi ho (by first | assumption | (simp; done) | (simp; omega)) (by omega)⟩; clear HB hb ho; have HB := n_; clear n_) | (go_at_call 25; (with_reducible refine (toFrameS_at w _ _ x.frames _ H6.out (by unfold szState at hn; omega)).mono ?_); rintro e w1 ⟨a6, b6, rfl, ho, hb⟩; have n_ := Aside0.mk (below_step (w := w) bel hb); have m_ : Aside0 (Kd.S (aslice 103 kValue_I) 33 w1 (w.heap.size + 3) (fun k => w.heap.size + 3 ≤ k ∧ k < m1) (.slice a4 x.cells.length b4) x.cells) := ⟨Kd.S_below (by repeat (first | (with_reducible exact O4.out) | (with_reducible refine S_farO ?_ (by first | (simp; done) | (simp; omega))))) hb⟩; clear O4; have O4 := m_; clear m_; have m_ : Aside0 (Kd.S kValue_I 103 w1 (w.heap.size + 3) (fun k => m1 ≤ k ∧ k < m2) (.slice a5 x.stack.length b5) x.stack) := ⟨Kd.S_below (by repeat (first | (with_reducible exact O5.out) | (with_reducible refine S_farO ?_ (by first | (simp; done) | (simp; omega))))) hb⟩; clear O5; have O5 := m_; clear m_; have hz : w.heap.size < w1.heap.size := Nat.lt_of_lt_of_le (by first | assumption | (simp; done) | (simp; omega)) hb.size; have hz1 : w.heap.size + 1 < w1.heap.size := Nat.lt_of_lt_of_le (by first | assumption | (simp; done) | (simp; omega)) hb.size; have hz2 : w.heap.size + 2 < w1.heap.size := Nat.lt_of_lt_of_le (by first | assumption | (simp; done) | (simp; omega)) hb.size; obtain ⟨hc, hf⟩ := bcell hb; have k_ : Aside0 (w1.heap[w.heap.size + 1]? = some (.cells #[.int .i64 0, .bool false, .int .i64 0, .int .i64 0, .slice none 0 0, .slice none 0 0, .slice none 0 0] 36 (0, 0))) := ⟨(hb.block (w.heap.size + 1) (by first | assumption | (simp; done) | (simp; omega))).trans (by repeat (first | (with_reducible exact BKr.out) | with_reducible refine blk_far ?_ (by first | (simp; done) | (simp; omega)) _))⟩; clear BKr; have BKr := k_; clear k_; obtain ⟨m3, hm3⟩ : ∃ n_, n_ = w1.heap.size := ⟨_, rfl⟩; have hmm3 : m2 ≤ m3 := (fun hs => hm3 ▸ Nat.le_trans hs hb.size : (m2 ≤ _) → m2 ≤ m3) (by first | assumption | (simp; done) | (simp; omega)); have O6 : Aside0 (Kd.S kFrame_I 107 w1 (w.heap.size + 3) (fun k => m2 ≤ k ∧ k < m3) (.slice a6 x.frames.length b6) x.frames) := ⟨by rw [hm3]; exact S_lohi ho (by first | assumption | (simp; done) | (simp; omega)) (by omega)⟩; clear HB hb ho; have HB := n_; clear n_))
  refine bodyPost_ret (results_cell_row rfl _ _ (w.heap.size + 1) 36 #[.int .i64 x.trap, .bool x.done, .int .i64 x.cost, .int .i64 x.steps, .slice a4 x.cells.length b4, .slice a5 x.stack.length b5, .slice a6 x.frames.length b6] (0, 0) _ rfl (by refine blk_put (cs := #[.int .i64 x.trap, .bool x.done, .int .i64 x.cost, .int .i64 x.steps, .slice a4 x.cells.length b4, .slice a5 x.stack.length b5, .slice none 0 0]) ?_ 6 _ rfl; refine blk_put (cs := #[.int .i64 x.trap, .bool x.done, .int .i64 x.cost, .int .i64 x.steps, .slice a4 x.cells.length b4, .slice none 0 0, .slice none 0 0]) ?_ 5 _ rfl; refine blk_put (cs := #[.int .i64 x.trap, .bool x.done, .int .i64 x.cost, .int .i64 x.steps, .slice none 0 0, .slice none 0 0, .slice none 0 0]) ?_ 4 _ rfl; refine blk_put (cs := #[.int .i64 x.trap, .bool x.done, .int .i64 x.cost, .int .i64 0, .slice none 0 0, .slice none 0 0, .slice none 0 0]) ?_ 3 _ rfl; refine blk_put (cs := #[.int .i64 x.trap, .bool x.done, .int .i64 0, .int .i64 0, .slice none 0 0, .slice none 0 0, .slice none 0 0]) ?_ 2 _ rfl; refine blk_put (cs := #[.int .i64 x.trap, .bool false, .int .i64 0, .int .i64 0, .slice none 0 0, .slice none 0 0, .slice none 0 0]) ?_ 1 _ rfl; refine blk_put (cs := #[.int .i64 0, .bool false, .int .i64 0, .int .i64 0, .slice none 0 0, .slice none 0 0, .slice none 0 0]) ?_ 0 _ rfl; repeat (first | (with_reducible exact BKr.out) | with_reducible refine blk_far ?_ (by first | (simp; done) | (simp; omega)) _)) Try.underlying36 rfl (by kernel_rfl)) rfl ⟨_, _, _, _, _, _, rfl, ?_, ?_⟩
  · exact kState_I_mkM _ _ _ x (fun k => k < m1) (fun k => k < m2) (Kd.S_mono (ok := fun k => w.heap.size + 3 ≤ k ∧ k < m1) (Kd.S_lower (base := w.heap.size + 3) (by repeat (first | (with_reducible exact O4.out) | (with_reducible refine S_farO ?_ (by first | (simp; done) | (simp; omega))))) (by omega)) (fun k hk => by have h1_ := hk.1; have h2_ := hk.2; clear hk; simp only [true_and]; omega)) (Kd.S_mono (ok := fun k => m1 ≤ k ∧ k < m2) (Kd.S_lower (base := w.heap.size + 3) (by repeat (first | (with_reducible exact O5.out) | (with_reducible refine S_farO ?_ (by first | (simp; done) | (simp; omega))))) (by omega)) (fun k hk => by have h1_ := hk.1; have h2_ := hk.2; clear hk; simp only [true_and]; omega)) (Kd.S_mono (ok := fun k => m2 ≤ k ∧ k < m3) (Kd.S_lower (base := w.heap.size + 3) (by repeat (first | (with_reducible exact O6.out) | (with_reducible refine S_farO ?_ (by first | (simp; done) | (simp; omega))))) (by omega)) (fun k hk => by have h1_ := hk.1; have h2_ := hk.2; clear hk; simp only [true_and]; omega))
  exact bel

theorem toState_at (w0 : World) (A4 : Option Addr) (c4 : Nat) (A5 : Option Addr) (c5 : Nat) (A6 : Option Addr) (c6 : Nat) (x : MState) (w : World) (h4 : Kd.C (Kd.slice 105 kValue_L) w0 A4 x.cells.length x.cells) (h5 : Kd.C kValue_L w0 A5 x.stack.length x.stack) (h6 : Kd.C kFrame_L w0 A6 x.frames.length x.frames) (hn : szState x ≤ 1048576) (hb : Below w0.heap.size w0 w := by exact bel) :
    Calls Try.prog 7 #[.agg #[.int .i64 x.trap, .bool x.done, .int .i64 x.cost, .int .i64 x.steps, .slice A4 x.cells.length c4, .slice A5 x.stack.length c5, .slice A6 x.frames.length c6]] w fun e w' => ∃ a4 b4, ∃ a5 b5, ∃ a6 b6, e = .returned (.agg #[.int .i64 x.trap, .bool x.done, .int .i64 x.cost, .int .i64 x.steps, .slice a4 x.cells.length b4, .slice a5 x.stack.length b5, .slice a6 x.frames.length b6]) ∧ kState_I.M w' w.heap.size (fun _ => True) x [.int .i64 x.trap, .bool x.done, .int .i64 x.cost, .int .i64 x.steps, .slice a4 x.cells.length b4, .slice a5 x.stack.length b5, .slice a6 x.frames.length b6] ∧ Below w.heap.size w w' := toState_calls A4 c4 A5 c5 A6 c6 x w (Kd.C_below h4 hb) (Kd.C_below h5 hb) (Kd.C_below h6 hb) hn

end Go.Proofs.Ytlnlbncinjiinab.X
