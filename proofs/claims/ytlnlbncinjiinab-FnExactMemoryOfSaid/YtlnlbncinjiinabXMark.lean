/- Of this session: contracts over the words of the kit's print. -/
import Derived.Test.YtlnlbncinjiinabProg
import Derived.Below
import Derived.Deep.Draws
import Derived.Deep.AppendLies
import Derived.Maps.AppendAt
import Derived.OwnWalk
import Derived.Laws.BytesArg
import Derived.Laws.MakeOwn
import Derived.Laws.OwnMore
import Derived.Deep.OwnRows
import Derived.Tactics
import Derived.Lib.ConvBytes
import Derived.Laws.Slices
import Derived.WalkKit
import Derived.KernelRfl
import Derived.RowKit3
import Derived.Deep.LoopGhost
import Derived.Deep.QuietTactic
import Derived.BigQuiet
import Derived.WideLaws
import Derived.Deep.DeepCutAuto
import Derived.Deep.CutBlock
import Derived.Deep.RegionHeld3
import Derived.Laws.Rows
import Derived.Lib.AppendStr
import Derived.ArgAppend
import Derived.Laws.IdiomCopy
import Derived.OrdersHeld
import Derived.Laws.BitsLemmas
import Derived.RowKit
import Derived.StillTailTactics
import Derived.Test.YtlnlbncinjiinabWWords
import Derived.Test.YtlnlbncinjiinabWLast
import Derived.Test.YtlnlbncinjiinabWTab
import Derived.Test.YtlnlbncinjiinabWFour
import Derived.Test.YtlnlbncinjiinabWQPut
import Derived.Test.YtlnlbncinjiinabWApart
import Derived.Test.YtlnlbncinjiinabWArr
import Derived.Test.YtlnlbncinjiinabWZeros
import Derived.Test.YtlnlbncinjiinabWFoot
import Derived.Test.YtlnlbncinjiinabWKept
import Derived.Test.YtlnlbncinjiinabWShare
import Derived.Test.YtlnlbncinjiinabWN
import Derived.Test.YtlnlbncinjiinabWFootNe
import Derived.Test.YtlnlbncinjiinabWAt
import Derived.Test.YtlnlbncinjiinabWEqStruct
import Derived.Test.YtlnlbncinjiinabWRepsOne
import Derived.Test.YtlnlbncinjiinabWInv
import Derived.Test.YtlnlbncinjiinabWInvWords
import Derived.Test.YtlnlbncinjiinabWGuard
import Derived.Test.YtlnlbncinjiinabWNEv
import Derived.Test.YtlnlbncinjiinabWMore
import Derived.ChangeArms
import Derived.Test.YtlnlbncinjiinabX0
import Derived.Test.YtlnlbncinjiinabXEq
import Derived.Test.YtlnlbncinjiinabXSz
import Derived.Test.YtlnlbncinjiinabXTo
namespace Go.Proofs.Ytlnlbncinjiinab.X
open Go.RowKit Go.Proofs.YtlnlbncinjiinabW.PrintWords Go.Proofs.YtlnlbncinjiinabW.PrintLast Go.Proofs.YtlnlbncinjiinabW.PrintMore
set_option linter.unusedVariables false
set_option linter.unusedSimpArgs false
theorem blk_alloc1a (w : World) (A : Array Value) (a : TypeId) : (w.alloc (.cells A a)).heap[w.heap.size]? = some (.cells A a (0, 0)) := heap_alloc_new w (.cells A a)
/-- what a call changes: below base nothing; of what was there, blocks that are ok alone -/
def Chg (base : Nat) (ok : Nat → Prop) (w w' : World) : Prop := Below base w w' ∧ Kept w w' ok
theorem Chg.refl (base : Nat) (ok : Nat → Prop) (w : World) : Chg base ok w w := ⟨Below.refl _ _, Kept.refl _ _⟩
theorem Chg.set {base : Nat} {ok : Nat → Prop} {w W : World} (h : Chg base ok w W) {g o : Nat} (hb : base ≤ g) (ho : ok g) (u : Value) : Chg base ok w (W.setCell ⟨g, o, none⟩ u) :=
  ⟨h.1.trans ⟨rfl, rfl, rfl, Nat.le_of_eq (by simp), fun k hk => Below.heap_setCell W ⟨g, o, none⟩ u k (by show k ≠ g; omega)⟩, h.2.setCell (p := ⟨g, o, none⟩) (.inl ho) u⟩
theorem Chg.trans {base : Nat} {ok ok2 : Nat → Prop} {w W W2 : World} (h : Chg base ok w W) (k : Chg base ok2 W W2) (hs : ∀ k, ok2 k → ok k) : Chg base ok w W2 :=
  ⟨h.1.trans k.1, h.2.then_ k.2 (fun q hq => .inl (hs q hq))⟩
theorem Chg.drewN {base : Nat} {ok : Nat → Prop} {w W : World} (h : Chg base ok w W) (n : Nat) : Chg base ok w (W.drewN n) := ⟨pw_below_drewN h.1 n, h.2.drewN n⟩
theorem Chg.below {base : Nat} {ok : Nat → Prop} {w W W2 : World} (h : Chg base ok w W) (k : Below W.heap.size W W2) (hb : base ≤ W.heap.size) : Chg base ok w W2 :=
  ⟨h.1.trans ⟨k.os, k.tape, k.output, k.size, fun i hi => k.block i (by omega)⟩, h.2.below k⟩
/-- numbers put into a row, one behind the other: c: how many an element takes -/
def mkl {α : Type} (c : α → Nat) (m : Int → α → α) : Int → List α → List α
  | _, [] => []
  | k, x :: xs => m k x :: mkl c m (k + c x) xs
section
variable {α : Type} {c : α → Nat} {m : Int → α → α}
theorem mkl_length : ∀ (k : Int) (xs : List α), (mkl c m k xs).length = xs.length
  | _, [] => rfl
  | k, x :: xs => by simp [mkl, mkl_length (k + c x) xs]
theorem mkl_snoc : ∀ (k : Int) (xs : List α) (x : α), mkl c m k (xs ++ [x]) = mkl c m k xs ++ [m (k + szsum c xs) x]
  | k, [], x => by simp [mkl, szsum]
  | k, y :: ys, x => by
    show m k y :: mkl c m (k + c y) (ys ++ [x]) = _
    rw [mkl_snoc (k + c y) ys x]
    have : szsum c (y :: ys) = c y + szsum c ys := by simp [szsum]
    rw [this]
    simp [mkl, Int.add_assoc]
theorem mkl_getD (z : α) : ∀ (k : Int) (xs : List α) (j : Nat), j < xs.length → (mkl c m k xs).getD j z = m (k + szsum c (xs.take j)) (xs.getD j z)
  | k, x :: xs, 0, _ => by simp [mkl, szsum]
  | k, x :: xs, j + 1, h => by
    have h1 := mkl_getD z (k + c x) xs j (by simpa using h)
    have : szsum c ((x :: xs).take (j + 1)) = c x + szsum c (xs.take j) := by simp [szsum]
    rw [this]
    simpa [mkl, Int.add_assoc] using h1
/-- a row marked up to i -/
def mkUp (c : α → Nat) (m : Int → α → α) (k : Int) (xs : List α) (i : Int) : List α := mkl c m k (xs.take i.toNat) ++ xs.drop i.toNat
theorem mkUp_length (k : Int) (xs : List α) (i : Int) : (mkUp c m k xs i).length = xs.length := by
  unfold mkUp; rw [List.length_append, mkl_length, List.length_take, List.length_drop]; omega
theorem mkUp_zero (k : Int) (xs : List α) : mkUp c m k xs 0 = xs := by simp [mkUp, mkl]
theorem mkUp_end (k : Int) (xs : List α) : mkUp c m k xs xs.length = mkl c m k xs := by simp [mkUp]
theorem mkUp_at (z : α) (k : Int) (xs : List α) (i : Int) (h0 : 0 ≤ i) (h1 : i < xs.length) : (mkUp c m k xs i).getD i.toNat z = xs.getD i.toNat z := by
  unfold mkUp
  have hl : (mkl c m k (xs.take i.toNat)).length = i.toNat := by rw [mkl_length, List.length_take]; omega
  rw [List.getD_eq_getElem?_getD, List.getElem?_append_right (by omega), hl, Nat.sub_self, List.getElem?_drop, Nat.add_zero, List.getD_eq_getElem?_getD]
theorem mkUp_step (z : α) (k : Int) (xs : List α) (i : Int) (h0 : 0 ≤ i) (h1 : i < xs.length) : (mkUp c m k xs i).set i.toNat (m (k + szsum c (xs.take i.toNat)) (xs.getD i.toNat z)) = mkUp c m k xs (i + 1) := by
  have hi : i.toNat < xs.length := by omega
  have h2 : (i + 1).toNat = i.toNat + 1 := by omega
  have hl : (mkl c m k (xs.take i.toNat)).length = i.toNat := by rw [mkl_length, List.length_take]; omega
  unfold mkUp
  rw [h2, List.take_succ_eq_append_getElem hi, mkl_snoc, List.set_append_right _ _ (by omega), hl, Nat.sub_self, List.drop_eq_getElem_cons hi, List.set_cons_zero, List.getD_eq_getElem?_getD, List.getElem?_eq_getElem hi]
  simp
theorem cnt_step (c : α → Nat) (z : α) (xs : List α) (i : Int) (h0 : 0 ≤ i) (h1 : i < xs.length) : szsum c (xs.take (i + 1).toNat) = szsum c (xs.take i.toNat) + c (xs.getD i.toNat z) := by
  rw [show (i + 1).toNat = i.toNat + 1 by omega]
  exact szsum_step c z xs i.toNat (by omega)
end
theorem H_put1 {α : Type} {d : Kd α} {e base g n cap : Nat} {ok oki : Nat → Prop} {W : World} {xs : List α} {i : Int} {c : List Value} (h : Kd.H d e W base ok (.slice (some ⟨g, 0, none⟩) n cap) xs i oki c) (h0 : 0 ≤ i) (h1 : i < n) (j : Nat) (u : Value) (hj : j + 1 ≤ d.sz) (hu : u.oneCell' = true) :
    Kd.H d e (W.setCell ⟨g, i.toNat * d.sz + j, none⟩ u) base ok (.slice (some ⟨g, 0, none⟩) n cap) xs i oki (c.take j ++ [u] ++ c.drop (j + 1)) :=
  (Kd.H_seg (seg := [u]) h h0 h1 hj (by intro q hq; rw [List.mem_singleton.1 hq]; exact hu)).1
def ctOne : Int → Nat := fun _ => 1
def mkOne : Int → Int → Int := fun k _ => k
theorem cnt_one (xs : List Int) : szsum ctOne xs = xs.length := by
  induction xs with
  | nil => rfl
  | cons x xs ih => simp [szsum, ctOne] at ih ⊢; omega
theorem S_head {α : Type} {d : Kd α} {e base n c : Nat} {ok : Nat → Prop} {W : World} {A : Option Addr} {xs : List α} (h : Kd.S d e W base ok (.slice A n c) xs) (hp : 0 < n) : ∃ g, A = some ⟨g, 0, none⟩ ∧ base ≤ g ∧ ok g := by
  have hn := (Kd.S_reads' h).1
  obtain ⟨g, cap, ev, hb, _⟩ := Kd.S_form h (by omega)
  injection ev with e1 _ _
  exact ⟨g, e1, hb, (Kd.S_R h).1 g (by rw [e1]; simp [Value.ownBlock])⟩
theorem S_max {α : Type} {d : Kd α} {e base n c : Nat} {ok : Nat → Prop} {W : World} {A : Option Addr} {xs : List α} (h : Kd.S d e W base ok (.slice A n c) xs) : xs.length ≤ 9223372036854775807 := by
  obtain ⟨h1, _, hr⟩ := Kd.S_reads' h
  have := hr.2.1
  exact this
theorem M_lohi {α : Type} {d : Kd α} {w : World} {B lo : Nat} {x : α} {cs : List Value} (h : d.M w B (fun _ => True) x cs) (hB : lo ≤ B) : d.M w lo (fun k => lo ≤ k ∧ k < w.heap.size) x cs :=
  d.M_lower hB (d.M_mono (fun k hk => ⟨Nat.le_trans hB hk.2.1, hk.2.2.1⟩) (d.M_bound h))
theorem M_chg {α : Type} {d : Kd α} {w w' : World} {b lo hi lo2 hi2 : Nat} {x : α} {cs : List Value} (h : d.M w b (fun k => lo ≤ k ∧ k < hi) x cs) (hc : Chg lo2 (fun k => lo2 ≤ k ∧ k < hi2) w w') (ha : hi ≤ lo2 ∨ hi2 ≤ lo) : d.M w' b (fun k => lo ≤ k ∧ k < hi) x cs :=
  Kd.M_kept h hc.2 (fun k h1 h2 => by have := h1.1; have := h1.2; have := h2.1; have := h2.2; omega)
theorem blk_chg {g : Nat} {o : Obj} {w w' : World} {lo2 hi2 : Nat} (h : w.heap[g]? = some o) (hc : Chg lo2 (fun k => lo2 ≤ k ∧ k < hi2) w w') (ha : g < lo2 ∨ hi2 ≤ g) : w'.heap[g]? = some o :=
  blk_kept h hc.2 (fun h2 => by have := h2.1; have := h2.2; omega)
theorem below_chg {w W w' : World} {lo2 : Nat} {ok : Nat → Prop} (h : Below w.heap.size w W) (hc : Chg lo2 ok W w') (hb : w.heap.size ≤ lo2) : Below w.heap.size w w' :=
  h.trans ⟨hc.1.os, hc.1.tape, hc.1.output, hc.1.size, fun k hk => hc.1.block k (by omega)⟩
set_option maxHeartbeats 4000000 in
set_option maxRecDepth 100000 in
theorem markUint32S_calls (A0 : Option Addr) (c0 : Nat) (l0 : List Int) (k : Int) (w : World) (base : Nat) (ok : Nat → Prop) (h : Kd.S (Kd.int .u32) 79 w base ok (.slice A0 l0.length c0) l0) (k0 : 0 ≤ k) (k1 : k + (szsum ctOne l0 : Nat) ≤ 4294967295) :
    Calls Try.prog 34 #[.slice A0 l0.length c0, .int .i64 k] w fun e w' => e = .returned (.int .i64 (k + (szsum ctOne l0 : Nat))) ∧ Kd.S (Kd.int .u32) 79 w' base ok (.slice A0 l0.length c0) (mkl ctOne mkOne k l0) ∧ Chg base ok w w' := by
  have hm := S_max h
  have HS0 := Aside0.mk h
  clear h
  go_enter Try.func34, Try.ntmps34
  go_wp2
  go_loopw [1, 5] (fun u v wr => ∃ i : Int, 0 ≤ i ∧ i ≤ l0.length ∧ v = .int .i64 i ∧ u = .int .i64 (k + (szsum ctOne (l0.take i.toNat) : Nat)) ∧ Aside0 (Kd.S (Kd.int .u32) 79 wr base ok (.slice A0 l0.length c0) (mkUp ctOne mkOne k l0 i)) ∧ Aside0 (Chg base ok w wr)) (fun _ v _ => ((l0.length : Int) - intOf v).toNat)
  case atStart => exact ⟨0, by omega, by omega, rfl, by simp [szsum], ⟨by rw [mkUp_zero]; exact HS0.out⟩, ⟨Chg.refl _ _ _⟩⟩
  case round =>
    obtain ⟨i, h0, hi, rfl, rfl, HS, HC⟩ := hrel
    clear HS0
    by_cases hlt : i < l0.length
    · obtain ⟨g, rfl, hgb, hgo⟩ := S_head HS.out (by omega)
      have hst := cnt_step ctOne 0 l0 i h0 hlt
      have HU := Aside0.mk (mkUp_step (c := ctOne) (m := mkOne) 0 k l0 i h0 hlt)
      have HT := Aside0.mk (mkUp_at (c := ctOne) (m := mkOne) 0 k l0 i h0 hlt)
      have hle := szsum_le ctOne l0 (i + 1).toNat
      obtain ⟨kc, hkc⟩ : ∃ kc : Int, kc = k + szsum ctOne (l0.take i.toNat) := ⟨_, rfl⟩
      have hkn : k + szsum ctOne (l0.take (i + 1).toNat) = kc + (ctOne (l0.getD i.toNat 0) : Nat) := by omega
      have hk0 : 0 ≤ kc := by omega
      have hk1 : kc + (ctOne (l0.getD i.toNat 0) : Nat) ≤ 4294967295 := by omega
      rw [← hkc] at HU ⊢
      clear hst hle hkc
      obtain ⟨hx, hfr⟩ := Kd.R_celln 0 (Kd.S_R HS.out) i h0 hlt
      have HS2 := Aside0.mk (S_flat rfl (Kd.R_putg (Kd.S_R HS.out) i kc).1)
      have HC2 := Aside0.mk (Chg.set (g := g) (o := i.toNat) HC.out hgb hgo (.int .u32 kc))
      have hk1 : kc + 1 ≤ 4294967295 := hk1
      go_wp2
      go_roundw
      case rel => exact ⟨i + 1, by omega, by omega, rfl, by rw [hkn]; rfl, ⟨by rw [← HU.out]; exact HS2.out⟩, HC2⟩
      case measure => simp [intOf]; omega
    · obtain rfl : i = l0.length := by omega
      have HE := Aside0.mk (show k + (szsum ctOne (l0.take (l0.length : Int).toNat) : Nat) = k + (szsum ctOne l0 : Nat) by simp)
      go_wp2
      go_ret
      exact ⟨by first | rfl | (rw [HE.out]; rfl), by have h := HS.out; rw [mkUp_end] at h; exact h, HC.out⟩

def ctMemory (x : MMemory) : Nat := szsum ctOne x.inn + szsum ctOne x.out + szsum ctOne x.keep

def mkMemory (k : Int) (x : MMemory) : MMemory := ⟨mkl ctOne mkOne (k) x.inn, mkl ctOne mkOne (k + (szsum ctOne x.inn : Nat)) x.out, mkl ctOne mkOne (k + (szsum ctOne x.inn : Nat) + (szsum ctOne x.out : Nat)) x.keep⟩

set_option maxHeartbeats 4000000 in
set_option maxRecDepth 100000 in
theorem markMemory_calls (A0 : Option Addr) (c0 : Nat) (A1 : Option Addr) (c1 : Nat) (A2 : Option Addr) (c2 : Nat) (x : MMemory) (k : Int) (w : World) (base : Nat) (ok : Nat → Prop) (h : kMemory_I.M w base ok x [.slice A0 x.inn.length c0, .slice A1 x.out.length c1, .slice A2 x.keep.length c2]) (k0 : 0 ≤ k) (k1 : k + (ctMemory x : Nat) ≤ 4294967295) (hbs : base ≤ w.heap.size) :
    Calls Try.prog 12 #[.agg #[.slice A0 x.inn.length c0, .slice A1 x.out.length c1, .slice A2 x.keep.length c2], .int .i64 k] w fun e w' => e = .returned (.int .i64 (k + (ctMemory x : Nat))) ∧ kMemory_I.M w' base ok (mkMemory k x) [.slice A0 x.inn.length c0, .slice A1 x.out.length c1, .slice A2 x.keep.length c2] ∧ Chg base ok w w' := by
  obtain ⟨okb, hokb1, hokb2, h⟩ : ∃ okb : Nat → Prop, (∀ k, okb k → ok k) ∧ (∀ k, okb k → k < w.heap.size) ∧ kMemory_I.M w base okb x [.slice A0 x.inn.length c0, .slice A1 x.out.length c1, .slice A2 x.keep.length c2] := ⟨fun k => ok k ∧ k < w.heap.size, fun _ hk => hk.1, fun _ hk => hk.2, kMemory_I.M_mono (fun k hk => ⟨hk.1, hk.2.2.1⟩) (kMemory_I.M_bound h)⟩
  obtain ⟨p0, p1, v0, v1, v2, ec, g0, g1, g2⟩ := kMemory_I_openM h
  simp only [List.cons.injEq, and_true, true_and] at ec
  obtain ⟨rfl, rfl, rfl⟩ := ec
  have HS0 := Aside0.mk (Kd.S_alloc g0 (.cells #[.slice A0 x.inn.length c0, .slice A1 x.out.length c1, .slice A2 x.keep.length c2] 30)); have HS1 := Aside0.mk (Kd.S_alloc g1 (.cells #[.slice A0 x.inn.length c0, .slice A1 x.out.length c1, .slice A2 x.keep.length c2] 30)); have HS2 := Aside0.mk (Kd.S_alloc g2 (.cells #[.slice A0 x.inn.length c0, .slice A1 x.out.length c1, .slice A2 x.keep.length c2] 30)); have HC : Aside0 (Chg base ok w (w.alloc (.cells #[.slice A0 x.inn.length c0, .slice A1 x.out.length c1, .slice A2 x.keep.length c2] 30))) := ⟨(Chg.refl base ok w).below (below_alloc (Below.refl _ _) _) hbs⟩
  have K0 := Aside0.mk (blk_alloc1a w #[.slice A0 x.inn.length c0, .slice A1 x.out.length c1, .slice A2 x.keep.length c2] 30)
  clear h g0 g1 g2
  unfold ctMemory at k1 ⊢
  go_enter Try.func12, Try.ntmps12
  go_wp2_with (first | (go_at_call 34; (with_reducible refine (markUint32S_calls A0 c0 x.inn (k) _ base (fun k => okb k ∧ p0 k) HS0.out (by omega) (by omega)).mono ?_); rintro e w1 ⟨rfl, hs, hc⟩; have n_ := Aside0.mk (Chg.trans HC.out hc (fun q hq => hokb1 q (by first | exact hq | exact hq.1 | exact hq.1.1 | exact hq.1.1.1))); clear HC; have HC := n_; clear n_; have n_ := Aside0.mk (blk_kept K0.out hc.2 (fun hq => Nat.lt_irrefl _ (hokb2 _ (by first | exact hq | exact hq.1 | exact hq.1.1 | exact hq.1.1.1)))); clear K0; have K0 := n_; clear n_; have q0 : w1.cell? ⟨w.heap.size, 0, none⟩ = some (.slice A0 x.inn.length c0) := (blk_cell K0.out 0).trans rfl; have q1 : w1.cell? ⟨w.heap.size, 1, none⟩ = some (.slice A1 x.out.length c1) := (blk_cell K0.out 1).trans rfl; have q2 : w1.cell? ⟨w.heap.size, 2, none⟩ = some (.slice A2 x.keep.length c2) := (blk_cell K0.out 2).trans rfl; have n_ := Aside0.mk (Kd.S_kept HS1.out hc.2 (fun q h2 h1 => h2.1.2 h1.2)); clear HS1; have HS1 := n_; clear n_; have n_ := Aside0.mk (Kd.S_kept HS2.out hc.2 (fun q h2 h1 => h2.1.2 h1.2)); clear HS2; have HS2 := n_; clear n_; clear HS0; have HS0 := Aside0.mk hs; clear hs hc) | (go_at_call 34; (with_reducible refine (markUint32S_calls A1 c1 x.out (k + (szsum ctOne x.inn : Nat)) _ base (fun k => (okb k ∧ ¬ p0 k) ∧ p1 k) HS1.out (by omega) (by omega)).mono ?_); rintro e w1 ⟨rfl, hs, hc⟩; have n_ := Aside0.mk (Chg.trans HC.out hc (fun q hq => hokb1 q (by first | exact hq | exact hq.1 | exact hq.1.1 | exact hq.1.1.1))); clear HC; have HC := n_; clear n_; have n_ := Aside0.mk (blk_kept K0.out hc.2 (fun hq => Nat.lt_irrefl _ (hokb2 _ (by first | exact hq | exact hq.1 | exact hq.1.1 | exact hq.1.1.1)))); clear K0; have K0 := n_; clear n_; have q0 : w1.cell? ⟨w.heap.size, 0, none⟩ = some (.slice A0 x.inn.length c0) := (blk_cell K0.out 0).trans rfl; have q1 : w1.cell? ⟨w.heap.size, 1, none⟩ = some (.slice A1 x.out.length c1) := (blk_cell K0.out 1).trans rfl; have q2 : w1.cell? ⟨w.heap.size, 2, none⟩ = some (.slice A2 x.keep.length c2) := (blk_cell K0.out 2).trans rfl; have n_ := Aside0.mk (Kd.S_kept HS0.out hc.2 (fun q h1 h2 => h2.1.2 h1.2)); clear HS0; have HS0 := n_; clear n_; have n_ := Aside0.mk (Kd.S_kept HS2.out hc.2 (fun q h2 h1 => h2.2 h1.2)); clear HS2; have HS2 := n_; clear n_; clear HS1; have HS1 := Aside0.mk hs; clear hs hc) | (go_at_call 34; (with_reducible refine (markUint32S_calls A2 c2 x.keep (k + (szsum ctOne x.inn : Nat) + (szsum ctOne x.out : Nat)) _ base (fun k => (okb k ∧ ¬ p0 k) ∧ ¬ p1 k) HS2.out (by omega) (by omega)).mono ?_); rintro e w1 ⟨rfl, hs, hc⟩; have n_ := Aside0.mk (Chg.trans HC.out hc (fun q hq => hokb1 q (by first | exact hq | exact hq.1 | exact hq.1.1 | exact hq.1.1.1))); clear HC; have HC := n_; clear n_; have n_ := Aside0.mk (blk_kept K0.out hc.2 (fun hq => Nat.lt_irrefl _ (hokb2 _ (by first | exact hq | exact hq.1 | exact hq.1.1 | exact hq.1.1.1)))); clear K0; have K0 := n_; clear n_; have q0 : w1.cell? ⟨w.heap.size, 0, none⟩ = some (.slice A0 x.inn.length c0) := (blk_cell K0.out 0).trans rfl; have q1 : w1.cell? ⟨w.heap.size, 1, none⟩ = some (.slice A1 x.out.length c1) := (blk_cell K0.out 1).trans rfl; have q2 : w1.cell? ⟨w.heap.size, 2, none⟩ = some (.slice A2 x.keep.length c2) := (blk_cell K0.out 2).trans rfl; have n_ := Aside0.mk (Kd.S_kept HS0.out hc.2 (fun q h1 h2 => h2.1.2 h1.2)); clear HS0; have HS0 := n_; clear n_; have n_ := Aside0.mk (Kd.S_kept HS1.out hc.2 (fun q h1 h2 => h2.2 h1.2)); clear HS1; have HS1 := n_; clear n_; clear HS2; have HS2 := Aside0.mk hs; clear hs hc))
  go_ret
  refine ⟨by first | rfl | simp [Int.add_assoc], kMemory_I.M_mono hokb1 (kMemory_I_mkM _ _ _ (mkMemory k x) p0 p1 HS0.out HS1.out HS2.out), HC.out⟩

def ctValue (x : MValue) : Nat := 1 + 1

def mkValue (k : Int) (x : MValue) : MValue := ⟨k, k + 1⟩

set_option maxHeartbeats 4000000 in
set_option maxRecDepth 100000 in
theorem markValueS_calls (A0 : Option Addr) (c0 : Nat) (l0 : List MValue) (k : Int) (w : World) (base : Nat) (ok : Nat → Prop) (h : Kd.S kValue_I 103 w base ok (.slice A0 l0.length c0) l0) (k0 : 0 ≤ k) (k1 : k + (szsum ctValue l0 : Nat) ≤ 4294967295) :
    Calls Try.prog 32 #[.slice A0 l0.length c0, .int .i64 k] w fun e w' => e = .returned (.int .i64 (k + (szsum ctValue l0 : Nat))) ∧ Kd.S kValue_I 103 w' base ok (.slice A0 l0.length c0) (mkl ctValue mkValue k l0) ∧ Chg base ok w w' := by
  have hm := S_max h
  have HS0 := Aside0.mk h
  clear h
  go_enter Try.func32, Try.ntmps32
  go_wp2
  go_loopw [1, 5] (fun u v wr => ∃ i : Int, 0 ≤ i ∧ i ≤ l0.length ∧ v = .int .i64 i ∧ u = .int .i64 (k + (szsum ctValue (l0.take i.toNat) : Nat)) ∧ Aside0 (Kd.S kValue_I 103 wr base ok (.slice A0 l0.length c0) (mkUp ctValue mkValue k l0 i)) ∧ Aside0 (Chg base ok w wr)) (fun _ v _ => ((l0.length : Int) - intOf v).toNat)
  case atStart => exact ⟨0, by omega, by omega, rfl, by simp [szsum], ⟨by rw [mkUp_zero]; exact HS0.out⟩, ⟨Chg.refl _ _ _⟩⟩
  case round =>
    obtain ⟨i, h0, hi, rfl, rfl, HS, HC⟩ := hrel
    clear HS0
    by_cases hlt : i < l0.length
    · obtain ⟨g, rfl, hgb, hgo⟩ := S_head HS.out (by omega)
      have hst := cnt_step ctValue zValue l0 i h0 hlt
      have HU := Aside0.mk (mkUp_step (c := ctValue) (m := mkValue) zValue k l0 i h0 hlt)
      have HT := Aside0.mk (mkUp_at (c := ctValue) (m := mkValue) zValue k l0 i h0 hlt)
      have hle := szsum_le ctValue l0 (i + 1).toNat
      obtain ⟨kc, hkc⟩ : ∃ kc : Int, kc = k + szsum ctValue (l0.take i.toNat) := ⟨_, rfl⟩
      have hkn : k + szsum ctValue (l0.take (i + 1).toNat) = kc + (ctValue (l0.getD i.toNat zValue) : Nat) := by omega
      have hk0 : 0 ≤ kc := by omega
      have hk1 : kc + (ctValue (l0.getD i.toNat zValue) : Nat) ≤ 4294967295 := by omega
      rw [← hkc] at HU ⊢
      clear hst hle hkc
      obtain ⟨oki, c, hcl, hM, hcc, hoki, hH⟩ := Kd.S_lend HS.out zValue i h0 hlt
      clear hcl hcc
      rw [HT.out] at hM
      obtain ⟨x, hx⟩ : ∃ x, x = l0.getD i.toNat zValue := ⟨_, rfl⟩
      rw [← hx] at hM HU hk1 hkn
      clear hx HT
      have hok1 : ∀ q, oki q → ok q := fun q hq => (hoki q hq).1
      have hok2 : ∀ q, oki q → q ≠ g := fun q hq => (hoki q hq).2
      obtain rfl := kValue_I_openM hM
      have hxs := (Kd.H_at hH h0 hlt).1; have hfs := (Kd.H_at hH h0 hlt).2
      have hx0 : wr.cell? ⟨g, i.toNat * 2, none⟩ = some (.int .i64 x.ty) := hxs 0 _ rfl; have hf0 : wr.frozen? ⟨g, i.toNat * 2, none⟩ = false := hfs 0
      have hx1 : wr.cell? ⟨g, i.toNat * 2 + 1, none⟩ = some (.int .u32 x.word) := hxs 1 _ rfl; have hf1 : wr.frozen? ⟨g, i.toNat * 2 + 1, none⟩ = false := hfs 1
      clear hxs hfs
      have hH1 := H_put1 hH h0 hlt 0 (.int .i64 kc) (by decide) rfl
      have hC1 := Chg.set (g := g) (o := i.toNat * 2 + 0) HC.out hgb hgo (.int .i64 kc)
      have hH2 := H_put1 hH1 h0 hlt 1 (.int .u32 (kc + 1)) (by decide) rfl
      have hC2 := Chg.set (g := g) (o := i.toNat * 2 + 1) hC1 hgb hgo (.int .u32 (kc + 1))
      have HS2 := Aside0.mk (Kd.H_back (x' := mkValue kc x) (okp := oki) hH2 (kValue_I_mkM _ _ _ (mkValue kc x)  ) (fun q hq => hq))
      have HC2 := Aside0.mk hC2
      have hk1 : kc + (2 : Nat) ≤ 4294967295 := hk1
      clear hM hH1 hC1 hH2 hC2 hH
      go_wp2
      go_roundw
      case rel => exact ⟨i + 1, by omega, by omega, rfl, by rw [hkn]; unfold ctValue; simp [Int.add_assoc], ⟨by rw [← HU.out]; exact HS2.out⟩, HC2⟩
      case measure => simp [intOf]; omega
    · obtain rfl : i = l0.length := by omega
      have HE := Aside0.mk (show k + (szsum ctValue (l0.take (l0.length : Int).toNat) : Nat) = k + (szsum ctValue l0 : Nat) by simp)
      go_wp2
      go_ret
      exact ⟨by first | rfl | (rw [HE.out]; rfl), by have h := HS.out; rw [mkUp_end] at h; exact h, HC.out⟩

set_option maxHeartbeats 4000000 in
set_option maxRecDepth 100000 in
theorem markValueSS_calls (A0 : Option Addr) (c0 : Nat) (l0 : List (List MValue)) (k : Int) (w : World) (base : Nat) (ok : Nat → Prop) (h : Kd.S (aslice 103 kValue_I) 33 w base ok (.slice A0 l0.length c0) l0) (k0 : 0 ≤ k) (k1 : k + (szsum (szsum ctValue) l0 : Nat) ≤ 4294967295) :
    Calls Try.prog 31 #[.slice A0 l0.length c0, .int .i64 k] w fun e w' => e = .returned (.int .i64 (k + (szsum (szsum ctValue) l0 : Nat))) ∧ Kd.S (aslice 103 kValue_I) 33 w' base ok (.slice A0 l0.length c0) (mkl (szsum ctValue) (mkl ctValue mkValue) k l0) ∧ Chg base ok w w' := by
  have hm := S_max h
  have HS0 := Aside0.mk h
  clear h
  go_enter Try.func31, Try.ntmps31
  go_wp2
  go_loopw [1, 5] (fun u v wr => ∃ i : Int, 0 ≤ i ∧ i ≤ l0.length ∧ v = .int .i64 i ∧ u = .int .i64 (k + (szsum (szsum ctValue) (l0.take i.toNat) : Nat)) ∧ Aside0 (Kd.S (aslice 103 kValue_I) 33 wr base ok (.slice A0 l0.length c0) (mkUp (szsum ctValue) (mkl ctValue mkValue) k l0 i)) ∧ Aside0 (Chg base ok w wr)) (fun _ v _ => ((l0.length : Int) - intOf v).toNat)
  case atStart => exact ⟨0, by omega, by omega, rfl, by simp [szsum], ⟨by rw [mkUp_zero]; exact HS0.out⟩, ⟨Chg.refl _ _ _⟩⟩
  case round =>
    obtain ⟨i, h0, hi, rfl, rfl, HS, HC⟩ := hrel
    clear HS0
    by_cases hlt : i < l0.length
    · obtain ⟨g, rfl, hgb, hgo⟩ := S_head HS.out (by omega)
      have hst := cnt_step (szsum ctValue) [] l0 i h0 hlt
      have HU := Aside0.mk (mkUp_step (c := (szsum ctValue)) (m := (mkl ctValue mkValue)) [] k l0 i h0 hlt)
      have HT := Aside0.mk (mkUp_at (c := (szsum ctValue)) (m := (mkl ctValue mkValue)) [] k l0 i h0 hlt)
      have hle := szsum_le (szsum ctValue) l0 (i + 1).toNat
      obtain ⟨kc, hkc⟩ : ∃ kc : Int, kc = k + szsum (szsum ctValue) (l0.take i.toNat) := ⟨_, rfl⟩
      have hkn : k + szsum (szsum ctValue) (l0.take (i + 1).toNat) = kc + ((szsum ctValue) (l0.getD i.toNat []) : Nat) := by omega
      have hk0 : 0 ≤ kc := by omega
      have hk1 : kc + ((szsum ctValue) (l0.getD i.toNat []) : Nat) ≤ 4294967295 := by omega
      rw [← hkc] at HU ⊢
      clear hst hle hkc
      obtain ⟨oki, c, hcl, hM, hcc, hoki, hH⟩ := Kd.S_lend HS.out [] i h0 hlt
      clear hcl hcc
      rw [HT.out] at hM
      obtain ⟨x, hx⟩ : ∃ x, x = l0.getD i.toNat [] := ⟨_, rfl⟩
      rw [← hx] at hM HU hk1 hkn
      clear hx HT
      have hok1 : ∀ q, oki q → ok q := fun q hq => (hoki q hq).1
      have hok2 : ∀ q, oki q → q ≠ g := fun q hq => (hoki q hq).2
      obtain ⟨v0, rfl, hS⟩ := hM
      obtain ⟨B0, b0, rfl⟩ := Kd.S_slice hS
      have hx0 : wr.cell? ⟨g, i.toNat, none⟩ = some (.slice B0 x.length b0) := (congrArg (fun q => wr.cell? ⟨g, q, none⟩) (Nat.mul_one i.toNat).symm).trans ((Kd.H_at hH h0 hlt).1 0 _ rfl)
      have HS1 := Aside0.mk hS; have HH := Aside0.mk hH
      clear hS hH
      go_wp2_with (go_at_call 32; (with_reducible refine (markValueS_calls B0 b0 x kc wr base oki HS1.out hk0 hk1).mono ?_); rintro e w1 ⟨rfl, hs, hc⟩; have HS2 := Aside0.mk (Kd.H_back (Kd.H_kept HH.out hc.2 (fun q _ h2 => h2)) (x' := mkl ctValue mkValue kc x) ⟨_, rfl, hs⟩ (fun q hq => hq)); have HC2 := Aside0.mk (HC.out.trans hc hok1); clear hs hc)
      go_roundw
      case rel => exact ⟨i + 1, by omega, by omega, rfl, by rw [hkn], ⟨by rw [← HU.out]; exact HS2.out⟩, HC2⟩
      case measure => simp [intOf]; omega
    · obtain rfl : i = l0.length := by omega
      have HE := Aside0.mk (show k + (szsum (szsum ctValue) (l0.take (l0.length : Int).toNat) : Nat) = k + (szsum (szsum ctValue) l0 : Nat) by simp)
      go_wp2
      go_ret
      exact ⟨by first | rfl | (rw [HE.out]; rfl), by have h := HS.out; rw [mkUp_end] at h; exact h, HC.out⟩

def ctFrame (x : MFrame) : Nat := 1 + 1 + 1 + szsum ctValue x.locals

def mkFrame (k : Int) (x : MFrame) : MFrame := ⟨k, k + 1, k + 1 + 1, mkl ctValue mkValue (k + 1 + 1 + 1) x.locals⟩

set_option maxHeartbeats 4000000 in
set_option maxRecDepth 100000 in
theorem markFrameS_calls (A0 : Option Addr) (c0 : Nat) (l0 : List MFrame) (k : Int) (w : World) (base : Nat) (ok : Nat → Prop) (h : Kd.S kFrame_I 107 w base ok (.slice A0 l0.length c0) l0) (k0 : 0 ≤ k) (k1 : k + (szsum ctFrame l0 : Nat) ≤ 4294967295) :
    Calls Try.prog 33 #[.slice A0 l0.length c0, .int .i64 k] w fun e w' => e = .returned (.int .i64 (k + (szsum ctFrame l0 : Nat))) ∧ Kd.S kFrame_I 107 w' base ok (.slice A0 l0.length c0) (mkl ctFrame mkFrame k l0) ∧ Chg base ok w w' := by
  have hm := S_max h
  have HS0 := Aside0.mk h
  clear h
  go_enter Try.func33, Try.ntmps33
  go_wp2
  go_loopw [1, 5] (fun u v wr => ∃ i : Int, 0 ≤ i ∧ i ≤ l0.length ∧ v = .int .i64 i ∧ u = .int .i64 (k + (szsum ctFrame (l0.take i.toNat) : Nat)) ∧ Aside0 (Kd.S kFrame_I 107 wr base ok (.slice A0 l0.length c0) (mkUp ctFrame mkFrame k l0 i)) ∧ Aside0 (Chg base ok w wr)) (fun _ v _ => ((l0.length : Int) - intOf v).toNat)
  case atStart => exact ⟨0, by omega, by omega, rfl, by simp [szsum], ⟨by rw [mkUp_zero]; exact HS0.out⟩, ⟨Chg.refl _ _ _⟩⟩
  case round =>
    obtain ⟨i, h0, hi, rfl, rfl, HS, HC⟩ := hrel
    clear HS0
    by_cases hlt : i < l0.length
    · obtain ⟨g, rfl, hgb, hgo⟩ := S_head HS.out (by omega)
      have hst := cnt_step ctFrame zFrame l0 i h0 hlt
      have HU := Aside0.mk (mkUp_step (c := ctFrame) (m := mkFrame) zFrame k l0 i h0 hlt)
      have HT := Aside0.mk (mkUp_at (c := ctFrame) (m := mkFrame) zFrame k l0 i h0 hlt)
      have hle := szsum_le ctFrame l0 (i + 1).toNat
      obtain ⟨kc, hkc⟩ : ∃ kc : Int, kc = k + szsum ctFrame (l0.take i.toNat) := ⟨_, rfl⟩
      have hkn : k + szsum ctFrame (l0.take (i + 1).toNat) = kc + (ctFrame (l0.getD i.toNat zFrame) : Nat) := by omega
      have hk0 : 0 ≤ kc := by omega
      have hk1 : kc + (ctFrame (l0.getD i.toNat zFrame) : Nat) ≤ 4294967295 := by omega
      rw [← hkc] at HU ⊢
      clear hst hle hkc
      obtain ⟨oki, c, hcl, hM, hcc, hoki, hH⟩ := Kd.S_lend HS.out zFrame i h0 hlt
      clear hcl hcc
      rw [HT.out] at hM
      obtain ⟨x, hx⟩ : ∃ x, x = l0.getD i.toNat zFrame := ⟨_, rfl⟩
      rw [← hx] at hM HU hk1 hkn
      clear hx HT
      have hok1 : ∀ q, oki q → ok q := fun q hq => (hoki q hq).1
      have hok2 : ∀ q, oki q → q ≠ g := fun q hq => (hoki q hq).2
      obtain ⟨v3, rfl, hS3⟩ := kFrame_I_openM hM
      obtain ⟨B3, b3, rfl⟩ := Kd.S_slice hS3
      have hxs := (Kd.H_at hH h0 hlt).1; have hfs := (Kd.H_at hH h0 hlt).2
      have hx0 : wr.cell? ⟨g, i.toNat * 4, none⟩ = some (.int .i64 x.func) := hxs 0 _ rfl; have hf0 : wr.frozen? ⟨g, i.toNat * 4, none⟩ = false := hfs 0
      have hx1 : wr.cell? ⟨g, i.toNat * 4 + 1, none⟩ = some (.int .i64 x.at_) := hxs 1 _ rfl; have hf1 : wr.frozen? ⟨g, i.toNat * 4 + 1, none⟩ = false := hfs 1
      have hx2 : wr.cell? ⟨g, i.toNat * 4 + 2, none⟩ = some (.int .i64 x.base) := hxs 2 _ rfl; have hf2 : wr.frozen? ⟨g, i.toNat * 4 + 2, none⟩ = false := hfs 2
      have hx3 : wr.cell? ⟨g, i.toNat * 4 + 3, none⟩ = some (.slice B3 x.locals.length b3) := hxs 3 _ rfl; have hf3 : wr.frozen? ⟨g, i.toNat * 4 + 3, none⟩ = false := hfs 3
      clear hxs hfs
      have hH1 := H_put1 hH h0 hlt 0 (.int .i64 kc) (by decide) rfl
      have hC1 := Chg.set (g := g) (o := i.toNat * 4 + 0) HC.out hgb hgo (.int .i64 kc)
      have hS3 := Kd.S_far (p := ⟨g, i.toNat * 4, none⟩) hS3 (fun q hq => hok2 q (by first | exact hq | exact hq.1 | exact hq.1.1 | exact hq.1.1.1)) (.int .i64 kc)
      have hH2 := H_put1 hH1 h0 hlt 1 (.int .i64 (kc + 1)) (by decide) rfl
      have hC2 := Chg.set (g := g) (o := i.toNat * 4 + 1) hC1 hgb hgo (.int .i64 (kc + 1))
      have hS3 := Kd.S_far (p := ⟨g, i.toNat * 4 + 1, none⟩) hS3 (fun q hq => hok2 q (by first | exact hq | exact hq.1 | exact hq.1.1 | exact hq.1.1.1)) (.int .i64 (kc + 1))
      have hH3 := H_put1 hH2 h0 hlt 2 (.int .i64 (kc + 1 + 1)) (by decide) rfl
      have hC3 := Chg.set (g := g) (o := i.toNat * 4 + 2) hC2 hgb hgo (.int .i64 (kc + 1 + 1))
      have hS3 := Kd.S_far (p := ⟨g, i.toNat * 4 + 2, none⟩) hS3 (fun q hq => hok2 q (by first | exact hq | exact hq.1 | exact hq.1.1 | exact hq.1.1.1)) (.int .i64 (kc + 1 + 1))
      have hk1 : kc + (ctFrame x : Nat) ≤ 4294967295 := hk1
      unfold ctFrame at hk1
      go_wp2_with (first | (go_at_call 32; (with_reducible refine (markValueS_calls B3 b3 x.locals (kc + 1 + 1 + 1) _ base (fun k => oki k) hS3 (by omega) (by omega)).mono ?_); rintro e w1 ⟨rfl, hs, hc⟩; have hH4 := Kd.H_kept hH3 hc.2 (fun q _ h2 hq => h2 (by first | exact hq | exact hq.1 | exact hq.1.1 | exact hq.1.1.1)); have hC4 := Chg.trans hC3 hc (fun q hq => hok1 q (by first | exact hq | exact hq.1 | exact hq.1.1 | exact hq.1.1.1)); have hS3 := hs; clear hs hc; have HS2 := Aside0.mk (Kd.H_back (x' := mkFrame kc x) (okp := oki) hH4 (kFrame_I_mkM _ _ _ (mkFrame kc x)  hS3) (fun q hq => hq)); have HC2 := Aside0.mk hC4))
      go_roundw
      case rel => exact ⟨i + 1, by omega, by omega, rfl, by rw [hkn]; unfold ctFrame; simp [Int.add_assoc], ⟨by rw [← HU.out]; exact HS2.out⟩, HC2⟩
      case measure => simp [intOf]; omega
    · obtain rfl : i = l0.length := by omega
      have HE := Aside0.mk (show k + (szsum ctFrame (l0.take (l0.length : Int).toNat) : Nat) = k + (szsum ctFrame l0 : Nat) by simp)
      go_wp2
      go_ret
      exact ⟨by first | rfl | (rw [HE.out]; rfl), by have h := HS.out; rw [mkUp_end] at h; exact h, HC.out⟩

def ctState (x : MState) : Nat := szsum (szsum ctValue) x.cells + szsum ctValue x.stack + szsum ctFrame x.frames

def mkState (k : Int) (x : MState) : MState := ⟨x.trap, x.done, x.cost, x.steps, mkl (szsum ctValue) (mkl ctValue mkValue) (k) x.cells, mkl ctValue mkValue (k + (szsum (szsum ctValue) x.cells : Nat)) x.stack, mkl ctFrame mkFrame (k + (szsum (szsum ctValue) x.cells : Nat) + (szsum ctValue x.stack : Nat)) x.frames⟩

set_option maxHeartbeats 4000000 in
set_option maxRecDepth 100000 in
theorem markState_calls (A4 : Option Addr) (c4 : Nat) (A5 : Option Addr) (c5 : Nat) (A6 : Option Addr) (c6 : Nat) (x : MState) (k : Int) (w : World) (base : Nat) (ok : Nat → Prop) (h : kState_I.M w base ok x [.int .i64 x.trap, .bool x.done, .int .i64 x.cost, .int .i64 x.steps, .slice A4 x.cells.length c4, .slice A5 x.stack.length c5, .slice A6 x.frames.length c6]) (k0 : 0 ≤ k) (k1 : k + (ctState x : Nat) ≤ 4294967295) (hbs : base ≤ w.heap.size) :
    Calls Try.prog 11 #[.agg #[.int .i64 x.trap, .bool x.done, .int .i64 x.cost, .int .i64 x.steps, .slice A4 x.cells.length c4, .slice A5 x.stack.length c5, .slice A6 x.frames.length c6], .int .i64 k] w fun e w' => e = .returned (.int .i64 (k + (ctState x : Nat))) ∧ kState_I.M w' base ok (mkState k x) [.int .i64 x.trap, .bool x.done, .int .i64 x.cost, .int .i64 x.steps, .slice A4 x.cells.length c4, .slice A5 x.stack.length c5, .slice A6 x.frames.length c6] ∧ Chg base ok w w' := by
  obtain ⟨okb, hokb1, hokb2, h⟩ : ∃ okb : Nat → Prop, (∀ k, okb k → ok k) ∧ (∀ k, okb k → k < w.heap.size) ∧ kState_I.M w base okb x [.int .i64 x.trap, .bool x.done, .int .i64 x.cost, .int .i64 x.steps, .slice A4 x.cells.length c4, .slice A5 x.stack.length c5, .slice A6 x.frames.length c6] := ⟨fun k => ok k ∧ k < w.heap.size, fun _ hk => hk.1, fun _ hk => hk.2, kState_I.M_mono (fun k hk => ⟨hk.1, hk.2.2.1⟩) (kState_I.M_bound h)⟩
  obtain ⟨p0, p1, v4, v5, v6, ec, g4, g5, g6⟩ := kState_I_openM h
  simp only [List.cons.injEq, and_true, true_and] at ec
  obtain ⟨rfl, rfl, rfl⟩ := ec
  have HS4 := Aside0.mk (Kd.S_alloc g4 (.cells #[.int .i64 x.trap, .bool x.done, .int .i64 x.cost, .int .i64 x.steps, .slice A4 x.cells.length c4, .slice A5 x.stack.length c5, .slice A6 x.frames.length c6] 36)); have HS5 := Aside0.mk (Kd.S_alloc g5 (.cells #[.int .i64 x.trap, .bool x.done, .int .i64 x.cost, .int .i64 x.steps, .slice A4 x.cells.length c4, .slice A5 x.stack.length c5, .slice A6 x.frames.length c6] 36)); have HS6 := Aside0.mk (Kd.S_alloc g6 (.cells #[.int .i64 x.trap, .bool x.done, .int .i64 x.cost, .int .i64 x.steps, .slice A4 x.cells.length c4, .slice A5 x.stack.length c5, .slice A6 x.frames.length c6] 36)); have HC : Aside0 (Chg base ok w (w.alloc (.cells #[.int .i64 x.trap, .bool x.done, .int .i64 x.cost, .int .i64 x.steps, .slice A4 x.cells.length c4, .slice A5 x.stack.length c5, .slice A6 x.frames.length c6] 36))) := ⟨(Chg.refl base ok w).below (below_alloc (Below.refl _ _) _) hbs⟩
  have K0 := Aside0.mk (blk_alloc1a w #[.int .i64 x.trap, .bool x.done, .int .i64 x.cost, .int .i64 x.steps, .slice A4 x.cells.length c4, .slice A5 x.stack.length c5, .slice A6 x.frames.length c6] 36)
  clear h g4 g5 g6
  unfold ctState at k1 ⊢
  go_enter Try.func11, Try.ntmps11
  go_wp2_with (first | (go_at_call 31; (with_reducible refine (markValueSS_calls A4 c4 x.cells (k) _ base (fun k => okb k ∧ p0 k) HS4.out (by omega) (by omega)).mono ?_); rintro e w1 ⟨rfl, hs, hc⟩; have n_ := Aside0.mk (Chg.trans HC.out hc (fun q hq => hokb1 q (by first | exact hq | exact hq.1 | exact hq.1.1 | exact hq.1.1.1))); clear HC; have HC := n_; clear n_; have n_ := Aside0.mk (blk_kept K0.out hc.2 (fun hq => Nat.lt_irrefl _ (hokb2 _ (by first | exact hq | exact hq.1 | exact hq.1.1 | exact hq.1.1.1)))); clear K0; have K0 := n_; clear n_; have q0 : w1.cell? ⟨w.heap.size, 0, none⟩ = some (.int .i64 x.trap) := (blk_cell K0.out 0).trans rfl; have q1 : w1.cell? ⟨w.heap.size, 1, none⟩ = some (.bool x.done) := (blk_cell K0.out 1).trans rfl; have q2 : w1.cell? ⟨w.heap.size, 2, none⟩ = some (.int .i64 x.cost) := (blk_cell K0.out 2).trans rfl; have q3 : w1.cell? ⟨w.heap.size, 3, none⟩ = some (.int .i64 x.steps) := (blk_cell K0.out 3).trans rfl; have q4 : w1.cell? ⟨w.heap.size, 4, none⟩ = some (.slice A4 x.cells.length c4) := (blk_cell K0.out 4).trans rfl; have q5 : w1.cell? ⟨w.heap.size, 5, none⟩ = some (.slice A5 x.stack.length c5) := (blk_cell K0.out 5).trans rfl; have q6 : w1.cell? ⟨w.heap.size, 6, none⟩ = some (.slice A6 x.frames.length c6) := (blk_cell K0.out 6).trans rfl; have n_ := Aside0.mk (Kd.S_kept HS5.out hc.2 (fun q h2 h1 => h2.1.2 h1.2)); clear HS5; have HS5 := n_; clear n_; have n_ := Aside0.mk (Kd.S_kept HS6.out hc.2 (fun q h2 h1 => h2.1.2 h1.2)); clear HS6; have HS6 := n_; clear n_; clear HS4; have HS4 := Aside0.mk hs; clear hs hc) | (go_at_call 32; (with_reducible refine (markValueS_calls A5 c5 x.stack (k + (szsum (szsum ctValue) x.cells : Nat)) _ base (fun k => (okb k ∧ ¬ p0 k) ∧ p1 k) HS5.out (by omega) (by omega)).mono ?_); rintro e w1 ⟨rfl, hs, hc⟩; have n_ := Aside0.mk (Chg.trans HC.out hc (fun q hq => hokb1 q (by first | exact hq | exact hq.1 | exact hq.1.1 | exact hq.1.1.1))); clear HC; have HC := n_; clear n_; have n_ := Aside0.mk (blk_kept K0.out hc.2 (fun hq => Nat.lt_irrefl _ (hokb2 _ (by first | exact hq | exact hq.1 | exact hq.1.1 | exact hq.1.1.1)))); clear K0; have K0 := n_; clear n_; have q0 : w1.cell? ⟨w.heap.size, 0, none⟩ = some (.int .i64 x.trap) := (blk_cell K0.out 0).trans rfl; have q1 : w1.cell? ⟨w.heap.size, 1, none⟩ = some (.bool x.done) := (blk_cell K0.out 1).trans rfl; have q2 : w1.cell? ⟨w.heap.size, 2, none⟩ = some (.int .i64 x.cost) := (blk_cell K0.out 2).trans rfl; have q3 : w1.cell? ⟨w.heap.size, 3, none⟩ = some (.int .i64 x.steps) := (blk_cell K0.out 3).trans rfl; have q4 : w1.cell? ⟨w.heap.size, 4, none⟩ = some (.slice A4 x.cells.length c4) := (blk_cell K0.out 4).trans rfl; have q5 : w1.cell? ⟨w.heap.size, 5, none⟩ = some (.slice A5 x.stack.length c5) := (blk_cell K0.out 5).trans rfl; have q6 : w1.cell? ⟨w.heap.size, 6, none⟩ = some (.slice A6 x.frames.length c6) := (blk_cell K0.out 6).trans rfl; have n_ := Aside0.mk (Kd.S_kept HS4.out hc.2 (fun q h1 h2 => h2.1.2 h1.2)); clear HS4; have HS4 := n_; clear n_; have n_ := Aside0.mk (Kd.S_kept HS6.out hc.2 (fun q h2 h1 => h2.2 h1.2)); clear HS6; have HS6 := n_; clear n_; clear HS5; have HS5 := Aside0.mk hs; clear hs hc) | (go_at_call 33; (with_reducible refine (markFrameS_calls A6 c6 x.frames (k + (szsum (szsum ctValue) x.cells : Nat) + (szsum ctValue x.stack : Nat)) _ base (fun k => (okb k ∧ ¬ p0 k) ∧ ¬ p1 k) HS6.out (by omega) (by omega)).mono ?_); rintro e w1 ⟨rfl, hs, hc⟩; have n_ := Aside0.mk (Chg.trans HC.out hc (fun q hq => hokb1 q (by first | exact hq | exact hq.1 | exact hq.1.1 | exact hq.1.1.1))); clear HC; have HC := n_; clear n_; have n_ := Aside0.mk (blk_kept K0.out hc.2 (fun hq => Nat.lt_irrefl _ (hokb2 _ (by first | exact hq | exact hq.1 | exact hq.1.1 | exact hq.1.1.1)))); clear K0; have K0 := n_; clear n_; have q0 : w1.cell? ⟨w.heap.size, 0, none⟩ = some (.int .i64 x.trap) := (blk_cell K0.out 0).trans rfl; have q1 : w1.cell? ⟨w.heap.size, 1, none⟩ = some (.bool x.done) := (blk_cell K0.out 1).trans rfl; have q2 : w1.cell? ⟨w.heap.size, 2, none⟩ = some (.int .i64 x.cost) := (blk_cell K0.out 2).trans rfl; have q3 : w1.cell? ⟨w.heap.size, 3, none⟩ = some (.int .i64 x.steps) := (blk_cell K0.out 3).trans rfl; have q4 : w1.cell? ⟨w.heap.size, 4, none⟩ = some (.slice A4 x.cells.length c4) := (blk_cell K0.out 4).trans rfl; have q5 : w1.cell? ⟨w.heap.size, 5, none⟩ = some (.slice A5 x.stack.length c5) := (blk_cell K0.out 5).trans rfl; have q6 : w1.cell? ⟨w.heap.size, 6, none⟩ = some (.slice A6 x.frames.length c6) := (blk_cell K0.out 6).trans rfl; have n_ := Aside0.mk (Kd.S_kept HS4.out hc.2 (fun q h1 h2 => h2.1.2 h1.2)); clear HS4; have HS4 := n_; clear n_; have n_ := Aside0.mk (Kd.S_kept HS5.out hc.2 (fun q h1 h2 => h2.2 h1.2)); clear HS5; have HS5 := n_; clear n_; clear HS6; have HS6 := Aside0.mk hs; clear hs hc))
  go_ret
  refine ⟨by first | rfl | simp [Int.add_assoc], kState_I.M_mono hokb1 (kState_I_mkM _ _ _ (mkState k x) p0 p1 HS4.out HS5.out HS6.out), HC.out⟩

end Go.Proofs.Ytlnlbncinjiinab.X
