/- Of this session: contracts over the words of the kit's print. -/
import Derived.Test.YtlnlbncinjiinabProg
import Derived.Below
import Derived.Deep.Draws
import Derived.Deep.AppendLies
import Derived.Maps.AppendAt
import Derived.OwnWalk
import Derived.Laws.BytesArg
import Derived.Laws.MakeOwn
import Derived.Laws.OwnMore
import Derived.Deep.OwnRows
import Derived.Tactics
import Derived.Lib.ConvBytes
import Derived.Laws.Slices
import Derived.WalkKit
import Derived.KernelRfl
import Derived.RowKit3
import Derived.Deep.LoopGhost
import Derived.Deep.QuietTactic
import Derived.BigQuiet
import Derived.WideLaws
import Derived.Deep.DeepCutAuto
import Derived.Deep.CutBlock
import Derived.Deep.RegionHeld3
import Derived.Laws.Rows
import Derived.Lib.AppendStr
import Derived.ArgAppend
import Derived.Laws.IdiomCopy
import Derived.OrdersHeld
import Derived.Laws.BitsLemmas
import Derived.RowKit
import Derived.StillTailTactics
import Derived.Test.YtlnlbncinjiinabWWords
import Derived.Test.YtlnlbncinjiinabWLast
import Derived.Test.YtlnlbncinjiinabWTab
import Derived.Test.YtlnlbncinjiinabWFour
import Derived.Test.YtlnlbncinjiinabWQPut
import Derived.Test.YtlnlbncinjiinabWApart
import Derived.Test.YtlnlbncinjiinabWArr
import Derived.Test.YtlnlbncinjiinabWZeros
import Derived.Test.YtlnlbncinjiinabWFoot
import Derived.Test.YtlnlbncinjiinabWKept
import Derived.Test.YtlnlbncinjiinabWShare
import Derived.Test.YtlnlbncinjiinabWN
import Derived.Test.YtlnlbncinjiinabWFootNe
import Derived.Test.YtlnlbncinjiinabWAt
import Derived.Test.YtlnlbncinjiinabWEqStruct
import Derived.Test.YtlnlbncinjiinabWRepsOne
import Derived.Test.YtlnlbncinjiinabWInv
import Derived.Test.YtlnlbncinjiinabWInvWords
import Derived.Test.YtlnlbncinjiinabWGuard
import Derived.Test.YtlnlbncinjiinabWNEv
import Derived.Test.YtlnlbncinjiinabWMore
import Derived.ChangeArms

namespace Go.Proofs.Ytlnlbncinjiinab.X
open Go.RowKit Go.Proofs.YtlnlbncinjiinabW.PrintWords Go.Proofs.YtlnlbncinjiinabW.PrintLast Go.Proofs.YtlnlbncinjiinabW.PrintMore
set_option linter.unusedVariables false
set_option linter.unusedSimpArgs false
/-- equality as a bool (of any type) -/
noncomputable def eqT {α : Type} (a b : α) : Bool := @decide (a = b) (Classical.propDecidable _)
theorem eqT_true {α : Type} {a b : α} (h : a = b) : eqT a b = true := by unfold eqT; simp [h]
theorem eqT_false {α : Type} {a b : α} (h : ¬ a = b) : eqT a b = false := by unfold eqT; simp [h]
theorem eqT_iff {α : Type} {a b : α} : eqT a b = true ↔ a = b := by unfold eqT; simp
theorem eqT_self {α : Type} (a : α) : eqT a a = true := eqT_true rfl
theorem ext_getD {α : Type} (z : α) {xs ys : List α} (h : xs.length = ys.length) (hh : ∀ j : Nat, j < xs.length → xs.getD j z = ys.getD j z) : xs = ys := by
  refine List.ext_getElem h (fun j h1 h2 => ?_)
  have := hh j h1
  simpa [List.getD_eq_getElem?_getD, List.getElem?_eq_getElem h1, List.getElem?_eq_getElem h2] using this
/-- what stands below stays below: found by itself -/
theorem bel {w0 w : World} (h : Below w0.heap.size w0 w := by repeat (first | (with_reducible assumption) | exact Below.refl _ _ | exact Aside0.out (by with_reducible assumption) | (with_reducible apply below_alloc) | (with_reducible apply pw_below_drewN) | (with_reducible apply below_drew1) | (with_reducible refine below_set ?_ (by omega)))) : Below w0.heap.size w0 w := h
theorem R_fresh {α : Type} {d : Kd α} {e : Nat} {w : World} {base : Nat} {v : Value} {xs : List α} {p : Addr} {u : Value} (h : d.R e w base (fun _ => True) v xs) (hp : p.block < base) : d.R e (w.setCell p u) base (fun _ => True) v xs :=
  Kd.R_mono (ok := fun k => base ≤ k) (Kd.R_far (Kd.R_mono (Kd.R_bound h) (fun _ hk => hk.2.1)) (fun k hk => by omega) u) (fun _ _ => trivial)
theorem cell_setFar {w : World} {p : Addr} {u : Value} {b o : Nat} (h : b ≠ p.block) : (w.setCell p u).cell? ⟨b, o, none⟩ = w.cell? ⟨b, o, none⟩ := by
  exact World.cell?_setCell_other _ _ _ _ (fun e => h (by rw [e]))
theorem blk_alloc2a (w : World) (A B : Array Value) (a b : TypeId) : ((w.alloc (.cells A a)).alloc (.cells B b)).heap[w.heap.size]? = some (.cells A a (0, 0)) := by
  rw [heap_alloc_old _ _ (by simp)]
  exact heap_alloc_new w (.cells A a)
theorem blk_alloc2b (w : World) (A B : Array Value) (a b : TypeId) : ((w.alloc (.cells A a)).alloc (.cells B b)).heap[w.heap.size + 1]? = some (.cells B b (0, 0)) :=
  (congrArg _ (by simp)).trans (heap_alloc_new (w.alloc (.cells A a)) (.cells B b))
theorem bcell {W w1 : World} (hb : Below W.heap.size W w1) : (∀ b o, b < W.heap.size → w1.cell? ⟨b, o, none⟩ = W.cell? ⟨b, o, none⟩) ∧ (∀ b o, b < W.heap.size → w1.frozen? ⟨b, o, none⟩ = W.frozen? ⟨b, o, none⟩) :=
  ⟨fun b o h => hb.cell (p := ⟨b, o, none⟩) h, fun b o h => hb.frozen (p := ⟨b, o, none⟩) h⟩
theorem blk_alloc3 (w : World) (A B C : Array Value) (a b c : TypeId) : (((w.alloc (.cells A a)).alloc (.cells B b)).alloc (.cells C c)).heap[w.heap.size + 1]? = some (.cells B b (0, 0)) := by
  rw [heap_alloc_old _ _ (by simp)]
  exact (congrArg _ (by simp)).trans (heap_alloc_new (w.alloc (.cells A a)) (.cells B b))
abbrev Wf64 (n : Int) : Prop := (Lit.int .i64 n).wf = true
abbrev Wf32 (n : Int) : Prop := (Lit.int .u32 n).wf = true
abbrev Wf8 (n : Int) : Prop := (Lit.int .u8 n).wf = true
/-- cells that are read as a value of a type by the form's reader read as a value of a kind -/
def Rd {α : Type} (P : Program) (w : World) (t : TypeId) (k : Kd α) (ok : α → Prop) : Prop :=
  ∀ {H : Type} (enc : TypeId × Value → H) (fuel : Nat) (cs : List Value) (y : DataW H × List MemPlace), DataW.trod enc P w 0 (fun _ => true) true fuel t cs = some y → ∃ x, k.K w x cs ∧ ok x
theorem Rd.int {P : Program} {w : World} {t : TypeId} {q : IntKind} (ht : P.underlying t = some (.int q)) : Rd P w t (Kd.int q) (fun n => (Lit.int q n).wf = true) := by
  intro H enc fuel cs y h
  obtain ⟨n, rfl, _, hw⟩ := DataW.trod_int ht h
  exact ⟨n, rfl, hw⟩
theorem Rd.bool {P : Program} {w : World} {t : TypeId} (ht : P.underlying t = some .bool) : Rd P w t Kd.bool (fun _ => True) := by
  intro H enc fuel cs y h
  obtain ⟨n, rfl, _⟩ := DataW.trod_bool ht h
  exact ⟨n, rfl, trivial⟩
theorem cells_get {w : World} {a : Addr} : ∀ {n : Nat} {cs : List Value}, w.cells? 0 a n = some cs → cs.length = n ∧ ∀ i u, cs[i]? = some u → w.cell? (a.add i) = some u := by
  intro n cs h
  have hh : (List.range n).mapM (fun i => w.cell? (a.add i)) = some cs := by
    unfold World.cells? at h
    rwa [if_pos (Nat.zero_le _)] at h
  have hl : cs.length = n := by simpa using mapM_some_length hh
  refine ⟨hl, fun i u hu => ?_⟩
  have hi : i < n := by rw [← hl]; exact (List.getElem?_eq_some_iff.1 hu).1
  have := mapM_some_get hh i i (by simp [hi])
  rw [this, hu]
theorem choose_list {α : Type} (R : Nat → α → Prop) : ∀ n : Nat, (∀ i, i < n → ∃ x, R i x) → ∃ xs : List α, xs.length = n ∧ ∀ i x, xs[i]? = some x → R i x
  | 0, _ => ⟨[], rfl, fun i x h => by simp at h⟩
  | n + 1, h => by
    obtain ⟨xs, hl, hx⟩ := choose_list R n (fun i hi => h i (by omega))
    obtain ⟨x, hr⟩ := h n (by omega)
    refine ⟨xs ++ [x], by simp [hl], fun i y hy => ?_⟩
    rcases Nat.lt_or_ge i xs.length with h1 | h1
    · rw [List.getElem?_append_left h1] at hy; exact hx i y hy
    · have h2 := (List.getElem?_eq_some_iff.1 hy).1
      simp at h2
      obtain rfl : i = xs.length := by omega
      rw [List.getElem?_append_right (Nat.le_refl _)] at hy
      simp at hy
      rw [← hy, hl]; exact hr
theorem Rd.slice {α : Type} {P : Program} {w : World} {t e : TypeId} {k : Kd α} {ok : α → Prop} (ht : P.underlying t = some (.slice e)) (hc : P.cellsOf e = k.sz) (hk : Rd P w e k ok) : Rd P w t (Kd.slice e k) (fun xs => ∀ x ∈ xs, ok x) := by
  intro H enc fuel cs y h
  rcases DataW.trod_slice ht h with ⟨rfl, _⟩ | ⟨a, len, cap, elems, rest, n, _, rfl, rfl, _, hl, hm, hel, hi, _⟩
  · exact ⟨[], ⟨none, 0, rfl, Nat.le_refl _, rfl, by simp, fun h => absurd h (by simp)⟩, fun x hx => by cases hx⟩
  · have hr : ∀ i, i < len → ∃ x, (∃ c, c.length = k.sz ∧ k.K w x c ∧ ∀ j u, c[j]? = some u → w.cell? (a.add (i * k.sz + j)) = some u) ∧ ok x := by
      intro i hlt
      have h1 := hi i hlt
      have h2 : ∃ z, elems[i]? = some z := ⟨_, List.getElem?_eq_getElem (by omega)⟩
      obtain ⟨z, hz⟩ := h2
      rw [hz] at h1
      obtain ⟨c, hc1, hc2⟩ := Option.bind_eq_some_iff.1 h1
      obtain ⟨x, hx, hok⟩ := hk enc n c z hc2
      rw [hc] at hc1
      obtain ⟨g1, g2⟩ := cells_get hc1
      refine ⟨x, ⟨c, g1, hx, fun j u hu => ?_⟩, hok⟩
      have := g2 j u hu
      rw [Addr.add_add] at this
      exact this
    obtain ⟨xs, hxl, hx⟩ := choose_list _ len hr
    refine ⟨xs, ⟨some a, cap, by rw [hxl], by omega, rfl, ?_, fun hn => ⟨a, rfl, fun j p hj => (hx j p hj).1⟩⟩, fun x hxm => ?_⟩
    · rw [hxl]; unfold maxLen at hm; omega
    · obtain ⟨i, hi1, rfl⟩ := List.getElem_of_mem hxm
      exact (hx i _ (List.getElem?_eq_getElem hi1)).2
theorem pair_of {α β : Type} {a : Kd α} {b : Kd β} {w : World} {x : α} {y : β} {cs : List Value} (ha : a.K w x (cs.take a.sz)) (hb : b.K w y (cs.drop a.sz)) : (Kd.pair a b).K w (x, y) cs := ⟨_, _, (List.take_append_drop _ _).symm, ha, hb⟩

open Go.RowKit
structure MConst where
  ty : Int
  word : Int

theorem MConst_ext {x y : MConst} (h0 : x.ty = y.ty) (h1 : x.word = y.word) : x = y := by cases x; cases y; simp_all

def zConst : MConst := ⟨0, 0⟩

def okConst (x : MConst) : Prop := Wf64 x.ty ∧ Wf32 x.word

def kConst_L : Kd MConst := Kd.iso (Kd.pair (Kd.int .i64) (Kd.int .u32)) (fun x : MConst => (x.ty, x.word))

theorem kConst_L_open {w : World} {x : MConst} {cs : List Value} (h : kConst_L.K w x cs) : cs = [.int .i64 x.ty, .int .u32 x.word] := by
  obtain ⟨_, _, rfl, rfl, rfl⟩ := h
  exact rfl

theorem kConst_L_mk (w : World) (x : MConst)  : kConst_L.K w x [.int .i64 x.ty, .int .u32 x.word] := ⟨[_], _, rfl, rfl, rfl⟩

def rdConst (xs : List MConst) (i : Int) : MConst := xs.getD i.toNat zConst

theorem atConst_L {w : World} {A : Option Addr} {n : Nat} {xs : List MConst} (h : Kd.C kConst_L w A n xs) (i : Int) (h0 : 0 ≤ i) (h1 : i < n) : ∃ ad , A = some ad ∧ w.cell? (ad.add (i.toNat * 2)) = some (.int .i64 (rdConst xs i).ty) ∧ w.cell? ⟨(ad.add (i.toNat * 2)).block, (ad.add (i.toNat * 2)).off + 1, none⟩ = some (.int .u32 (rdConst xs i).word) := by
  obtain ⟨ad, c, e, _, hK, hc0⟩ := Kd.C_get h zConst i h0 h1
  have hc : ∀ j u, c[j]? = some u → w.cell? (ad.add (i.toNat * 2 + j)) = some u := hc0
  obtain rfl := kConst_L_open hK
  exact ⟨ad, e, hc 0 _ rfl, by rw [← add_field _ _ 1 (by omega)]; exact hc 1 _ rfl⟩

def kConst_I : Kd MConst := Kd.iso (Kd.pair (Kd.int .i64) (Kd.int .u32)) (fun x : MConst => (x.ty, x.word))

theorem kConst_I_open {w : World} {x : MConst} {cs : List Value} (h : kConst_I.K w x cs) : cs = [.int .i64 x.ty, .int .u32 x.word] := by
  obtain ⟨_, _, rfl, rfl, rfl⟩ := h
  exact rfl

theorem kConst_I_mk (w : World) (x : MConst)  : kConst_I.K w x [.int .i64 x.ty, .int .u32 x.word] := ⟨[_], _, rfl, rfl, rfl⟩

theorem kConst_I_mkM (w : World) (base : Nat) (ok : Nat → Prop) (x : MConst)  : kConst_I.M w base ok x [.int .i64 x.ty, .int .u32 x.word] := ⟨[_], _, rfl, rfl, rfl⟩

theorem atConst_I {w : World} {A : Option Addr} {n : Nat} {xs : List MConst} (h : Kd.C kConst_I w A n xs) (i : Int) (h0 : 0 ≤ i) (h1 : i < n) : ∃ ad , A = some ad ∧ w.cell? (ad.add (i.toNat * 2)) = some (.int .i64 (rdConst xs i).ty) ∧ w.cell? ⟨(ad.add (i.toNat * 2)).block, (ad.add (i.toNat * 2)).off + 1, none⟩ = some (.int .u32 (rdConst xs i).word) := by
  obtain ⟨ad, c, e, _, hK, hc0⟩ := Kd.C_get h zConst i h0 h1
  have hc : ∀ j u, c[j]? = some u → w.cell? (ad.add (i.toNat * 2 + j)) = some u := hc0
  obtain rfl := kConst_I_open hK
  exact ⟨ad, e, hc 0 _ rfl, by rw [← add_field _ _ 1 (by omega)]; exact hc 1 _ rfl⟩

set_option maxRecDepth 100000 in
theorem rdConst_came (w : World) : Rd Try.prog w 118 kConst_L okConst := by
  intro H enc fuel cs y h
  obtain ⟨ys, m, _, _, hl, hn, hf⟩ := DataW.trod_struct Try.underlying118 h
  have hl : cs.length = 2 := hl.trans (by kernel_rfl)
  have hn : ys.length = 2 := hn
  match cs, hl, ys, hn with
  | [c0, c1], _, [y0, y1], _ =>
    obtain ⟨x0, k0, o0⟩ := (Rd.int Try.underlying2) enc m [c0] y0 ((congrArg _ (by kernel_rfl)).trans (hf 0 _ rfl))
    obtain ⟨x1, k1, o1⟩ := (Rd.int Try.underlying79) enc m [c1] y1 ((congrArg _ (by kernel_rfl)).trans (hf 1 _ rfl))
    exact ⟨⟨x0, x1⟩, ⟨[c0], _, rfl, k0, k1⟩, ⟨o0, o1⟩⟩

structure MInstr where
  op : Int
  a : Int
  b : Int
  c : Int

theorem MInstr_ext {x y : MInstr} (h0 : x.op = y.op) (h1 : x.a = y.a) (h2 : x.b = y.b) (h3 : x.c = y.c) : x = y := by cases x; cases y; simp_all

def zInstr : MInstr := ⟨0, 0, 0, 0⟩

def okInstr (x : MInstr) : Prop := Wf64 x.op ∧ Wf64 x.a ∧ Wf64 x.b ∧ Wf64 x.c

def kInstr_L : Kd MInstr := Kd.iso (Kd.pair (Kd.int .i64) (Kd.pair (Kd.int .i64) (Kd.pair (Kd.int .i64) (Kd.int .i64)))) (fun x : MInstr => (x.op, (x.a, (x.b, x.c))))

theorem kInstr_L_open {w : World} {x : MInstr} {cs : List Value} (h : kInstr_L.K w x cs) : cs = [.int .i64 x.op, .int .i64 x.a, .int .i64 x.b, .int .i64 x.c] := by
  obtain ⟨_, _, rfl, rfl, ⟨_, _, rfl, rfl, ⟨_, _, rfl, rfl, rfl⟩⟩⟩ := h
  exact rfl

theorem kInstr_L_mk (w : World) (x : MInstr)  : kInstr_L.K w x [.int .i64 x.op, .int .i64 x.a, .int .i64 x.b, .int .i64 x.c] := ⟨[_], _, rfl, rfl, ⟨[_], _, rfl, rfl, ⟨[_], _, rfl, rfl, rfl⟩⟩⟩

def rdInstr (xs : List MInstr) (i : Int) : MInstr := xs.getD i.toNat zInstr

theorem atInstr_L {w : World} {A : Option Addr} {n : Nat} {xs : List MInstr} (h : Kd.C kInstr_L w A n xs) (i : Int) (h0 : 0 ≤ i) (h1 : i < n) : ∃ ad , A = some ad ∧ w.cell? (ad.add (i.toNat * 4)) = some (.int .i64 (rdInstr xs i).op) ∧ w.cell? ⟨(ad.add (i.toNat * 4)).block, (ad.add (i.toNat * 4)).off + 1, none⟩ = some (.int .i64 (rdInstr xs i).a) ∧ w.cell? ⟨(ad.add (i.toNat * 4)).block, (ad.add (i.toNat * 4)).off + 2, none⟩ = some (.int .i64 (rdInstr xs i).b) ∧ w.cell? ⟨(ad.add (i.toNat * 4)).block, (ad.add (i.toNat * 4)).off + 3, none⟩ = some (.int .i64 (rdInstr xs i).c) := by
  obtain ⟨ad, c, e, _, hK, hc0⟩ := Kd.C_get h zInstr i h0 h1
  have hc : ∀ j u, c[j]? = some u → w.cell? (ad.add (i.toNat * 4 + j)) = some u := hc0
  obtain rfl := kInstr_L_open hK
  exact ⟨ad, e, hc 0 _ rfl, by rw [← add_field _ _ 1 (by omega)]; exact hc 1 _ rfl, by rw [← add_field _ _ 2 (by omega)]; exact hc 2 _ rfl, by rw [← add_field _ _ 3 (by omega)]; exact hc 3 _ rfl⟩

def kInstr_I : Kd MInstr := Kd.iso (Kd.pair (Kd.int .i64) (Kd.pair (Kd.int .i64) (Kd.pair (Kd.int .i64) (Kd.int .i64)))) (fun x : MInstr => (x.op, (x.a, (x.b, x.c))))

theorem kInstr_I_open {w : World} {x : MInstr} {cs : List Value} (h : kInstr_I.K w x cs) : cs = [.int .i64 x.op, .int .i64 x.a, .int .i64 x.b, .int .i64 x.c] := by
  obtain ⟨_, _, rfl, rfl, ⟨_, _, rfl, rfl, ⟨_, _, rfl, rfl, rfl⟩⟩⟩ := h
  exact rfl

theorem kInstr_I_mk (w : World) (x : MInstr)  : kInstr_I.K w x [.int .i64 x.op, .int .i64 x.a, .int .i64 x.b, .int .i64 x.c] := ⟨[_], _, rfl, rfl, ⟨[_], _, rfl, rfl, ⟨[_], _, rfl, rfl, rfl⟩⟩⟩

theorem kInstr_I_mkM (w : World) (base : Nat) (ok : Nat → Prop) (x : MInstr)  : kInstr_I.M w base ok x [.int .i64 x.op, .int .i64 x.a, .int .i64 x.b, .int .i64 x.c] := ⟨[_], _, rfl, rfl, ⟨[_], _, rfl, rfl, ⟨[_], _, rfl, rfl, rfl⟩⟩⟩

theorem atInstr_I {w : World} {A : Option Addr} {n : Nat} {xs : List MInstr} (h : Kd.C kInstr_I w A n xs) (i : Int) (h0 : 0 ≤ i) (h1 : i < n) : ∃ ad , A = some ad ∧ w.cell? (ad.add (i.toNat * 4)) = some (.int .i64 (rdInstr xs i).op) ∧ w.cell? ⟨(ad.add (i.toNat * 4)).block, (ad.add (i.toNat * 4)).off + 1, none⟩ = some (.int .i64 (rdInstr xs i).a) ∧ w.cell? ⟨(ad.add (i.toNat * 4)).block, (ad.add (i.toNat * 4)).off + 2, none⟩ = some (.int .i64 (rdInstr xs i).b) ∧ w.cell? ⟨(ad.add (i.toNat * 4)).block, (ad.add (i.toNat * 4)).off + 3, none⟩ = some (.int .i64 (rdInstr xs i).c) := by
  obtain ⟨ad, c, e, _, hK, hc0⟩ := Kd.C_get h zInstr i h0 h1
  have hc : ∀ j u, c[j]? = some u → w.cell? (ad.add (i.toNat * 4 + j)) = some u := hc0
  obtain rfl := kInstr_I_open hK
  exact ⟨ad, e, hc 0 _ rfl, by rw [← add_field _ _ 1 (by omega)]; exact hc 1 _ rfl, by rw [← add_field _ _ 2 (by omega)]; exact hc 2 _ rfl, by rw [← add_field _ _ 3 (by omega)]; exact hc 3 _ rfl⟩

set_option maxRecDepth 100000 in
theorem rdInstr_came (w : World) : Rd Try.prog w 127 kInstr_L okInstr := by
  intro H enc fuel cs y h
  obtain ⟨ys, m, _, _, hl, hn, hf⟩ := DataW.trod_struct Try.underlying127 h
  have hl : cs.length = 4 := hl.trans (by kernel_rfl)
  have hn : ys.length = 4 := hn
  match cs, hl, ys, hn with
  | [c0, c1, c2, c3], _, [y0, y1, y2, y3], _ =>
    obtain ⟨x0, k0, o0⟩ := (Rd.int Try.underlying2) enc m [c0] y0 ((congrArg _ (by kernel_rfl)).trans (hf 0 _ rfl))
    obtain ⟨x1, k1, o1⟩ := (Rd.int Try.underlying2) enc m [c1] y1 ((congrArg _ (by kernel_rfl)).trans (hf 1 _ rfl))
    obtain ⟨x2, k2, o2⟩ := (Rd.int Try.underlying2) enc m [c2] y2 ((congrArg _ (by kernel_rfl)).trans (hf 2 _ rfl))
    obtain ⟨x3, k3, o3⟩ := (Rd.int Try.underlying2) enc m [c3] y3 ((congrArg _ (by kernel_rfl)).trans (hf 3 _ rfl))
    exact ⟨⟨x0, x1, x2, x3⟩, ⟨[c0], _, rfl, k0, ⟨[c1], _, rfl, k1, ⟨[c2], _, rfl, k2, k3⟩⟩⟩, ⟨o0, o1, o2, o3⟩⟩

structure MFunc where
  params : List Int
  result : Int
  locals : List Int
  code : List MInstr

theorem MFunc_ext {x y : MFunc} (h0 : x.params = y.params) (h1 : x.result = y.result) (h2 : x.locals = y.locals) (h3 : x.code = y.code) : x = y := by cases x; cases y; simp_all

def zFunc : MFunc := ⟨[], 0, [], []⟩

def okFunc (x : MFunc) : Prop := (fun xs => ∀ x ∈ xs, Wf64 x) x.params ∧ Wf64 x.result ∧ (fun xs => ∀ x ∈ xs, Wf64 x) x.locals ∧ (fun xs => ∀ x ∈ xs, okInstr x) x.code

def kFunc_L : Kd MFunc := Kd.iso (Kd.pair (Kd.slice 2 (Kd.int .i64)) (Kd.pair (Kd.int .i64) (Kd.pair (Kd.slice 2 (Kd.int .i64)) (Kd.slice 127 kInstr_L)))) (fun x : MFunc => (x.params, (x.result, (x.locals, x.code))))

theorem kFunc_L_open {w : World} {x : MFunc} {cs : List Value} (h : kFunc_L.K w x cs) : ∃ A0 c0 A2 c2 A3 c3, cs = [.slice A0 x.params.length c0, .int .i64 x.result, .slice A2 x.locals.length c2, .slice A3 x.code.length c3] ∧ x.params.length ≤ c0 ∧ Kd.C (Kd.int .i64) w A0 x.params.length x.params ∧ x.locals.length ≤ c2 ∧ Kd.C (Kd.int .i64) w A2 x.locals.length x.locals ∧ x.code.length ≤ c3 ∧ Kd.C kInstr_L w A3 x.code.length x.code := by
  obtain ⟨_, _, rfl, ⟨A0, c0, rfl, l0, g0⟩, ⟨_, _, rfl, rfl, ⟨_, _, rfl, ⟨A2, c2, rfl, l2, g2⟩, ⟨A3, c3, rfl, l3, g3⟩⟩⟩⟩ := h
  exact ⟨A0, c0, A2, c2, A3, c3, rfl, l0, g0, l2, g2, l3, g3⟩

theorem kFunc_L_mk (w : World) (x : MFunc) {A0 : Option Addr} {c0 : Nat} (l0 : x.params.length ≤ c0) (g0 : Kd.C (Kd.int .i64) w A0 x.params.length x.params) {A2 : Option Addr} {c2 : Nat} (l2 : x.locals.length ≤ c2) (g2 : Kd.C (Kd.int .i64) w A2 x.locals.length x.locals) {A3 : Option Addr} {c3 : Nat} (l3 : x.code.length ≤ c3) (g3 : Kd.C kInstr_L w A3 x.code.length x.code) : kFunc_L.K w x [.slice A0 x.params.length c0, .int .i64 x.result, .slice A2 x.locals.length c2, .slice A3 x.code.length c3] := ⟨[_], _, rfl, ⟨A0, c0, rfl, l0, g0⟩, ⟨[_], _, rfl, rfl, ⟨[_], _, rfl, ⟨A2, c2, rfl, l2, g2⟩, ⟨A3, c3, rfl, l3, g3⟩⟩⟩⟩

def rdFunc (xs : List MFunc) (i : Int) : MFunc := xs.getD i.toNat zFunc

theorem atFunc_L {w : World} {A : Option Addr} {n : Nat} {xs : List MFunc} (h : Kd.C kFunc_L w A n xs) (i : Int) (h0 : 0 ≤ i) (h1 : i < n) : ∃ ad A0 c0 A2 c2 A3 c3, A = some ad ∧ w.cell? (ad.add (i.toNat * 4)) = some (.slice A0 (rdFunc xs i).params.length c0) ∧ w.cell? ⟨(ad.add (i.toNat * 4)).block, (ad.add (i.toNat * 4)).off + 1, none⟩ = some (.int .i64 (rdFunc xs i).result) ∧ w.cell? ⟨(ad.add (i.toNat * 4)).block, (ad.add (i.toNat * 4)).off + 2, none⟩ = some (.slice A2 (rdFunc xs i).locals.length c2) ∧ w.cell? ⟨(ad.add (i.toNat * 4)).block, (ad.add (i.toNat * 4)).off + 3, none⟩ = some (.slice A3 (rdFunc xs i).code.length c3) ∧ (rdFunc xs i).params.length ≤ c0 ∧ Kd.C (Kd.int .i64) w A0 (rdFunc xs i).params.length (rdFunc xs i).params ∧ (rdFunc xs i).locals.length ≤ c2 ∧ Kd.C (Kd.int .i64) w A2 (rdFunc xs i).locals.length (rdFunc xs i).locals ∧ (rdFunc xs i).code.length ≤ c3 ∧ Kd.C kInstr_L w A3 (rdFunc xs i).code.length (rdFunc xs i).code := by
  obtain ⟨ad, c, e, _, hK, hc0⟩ := Kd.C_get h zFunc i h0 h1
  have hc : ∀ j u, c[j]? = some u → w.cell? (ad.add (i.toNat * 4 + j)) = some u := hc0
  obtain ⟨A0, c0, A2, c2, A3, c3, rfl, l0, g0, l2, g2, l3, g3⟩ := kFunc_L_open hK
  exact ⟨ad, A0, c0, A2, c2, A3, c3, e, hc 0 _ rfl, by rw [← add_field _ _ 1 (by omega)]; exact hc 1 _ rfl, by rw [← add_field _ _ 2 (by omega)]; exact hc 2 _ rfl, by rw [← add_field _ _ 3 (by omega)]; exact hc 3 _ rfl, l0, g0, l2, g2, l3, g3⟩

def kFunc_I : Kd MFunc := Kd.iso (Kd.pair (Kd.slice 2 (Kd.int .i64)) (Kd.pair (Kd.int .i64) (Kd.pair (Kd.slice 2 (Kd.int .i64)) (Kd.slice 97 kInstr_I)))) (fun x : MFunc => (x.params, (x.result, (x.locals, x.code))))

theorem kFunc_I_open {w : World} {x : MFunc} {cs : List Value} (h : kFunc_I.K w x cs) : ∃ A0 c0 A2 c2 A3 c3, cs = [.slice A0 x.params.length c0, .int .i64 x.result, .slice A2 x.locals.length c2, .slice A3 x.code.length c3] ∧ x.params.length ≤ c0 ∧ Kd.C (Kd.int .i64) w A0 x.params.length x.params ∧ x.locals.length ≤ c2 ∧ Kd.C (Kd.int .i64) w A2 x.locals.length x.locals ∧ x.code.length ≤ c3 ∧ Kd.C kInstr_I w A3 x.code.length x.code := by
  obtain ⟨_, _, rfl, ⟨A0, c0, rfl, l0, g0⟩, ⟨_, _, rfl, rfl, ⟨_, _, rfl, ⟨A2, c2, rfl, l2, g2⟩, ⟨A3, c3, rfl, l3, g3⟩⟩⟩⟩ := h
  exact ⟨A0, c0, A2, c2, A3, c3, rfl, l0, g0, l2, g2, l3, g3⟩

theorem kFunc_I_mk (w : World) (x : MFunc) {A0 : Option Addr} {c0 : Nat} (l0 : x.params.length ≤ c0) (g0 : Kd.C (Kd.int .i64) w A0 x.params.length x.params) {A2 : Option Addr} {c2 : Nat} (l2 : x.locals.length ≤ c2) (g2 : Kd.C (Kd.int .i64) w A2 x.locals.length x.locals) {A3 : Option Addr} {c3 : Nat} (l3 : x.code.length ≤ c3) (g3 : Kd.C kInstr_I w A3 x.code.length x.code) : kFunc_I.K w x [.slice A0 x.params.length c0, .int .i64 x.result, .slice A2 x.locals.length c2, .slice A3 x.code.length c3] := ⟨[_], _, rfl, ⟨A0, c0, rfl, l0, g0⟩, ⟨[_], _, rfl, rfl, ⟨[_], _, rfl, ⟨A2, c2, rfl, l2, g2⟩, ⟨A3, c3, rfl, l3, g3⟩⟩⟩⟩

theorem kFunc_I_mkM (w : World) (base : Nat) (ok : Nat → Prop) (x : MFunc) {v0 : Value} (g0 : Kd.R (Kd.int .i64) 2 w base ok v0 x.params) {v2 : Value} (g2 : Kd.R (Kd.int .i64) 2 w base ok v2 x.locals) {v3 : Value} (g3 : Kd.R kInstr_I 97 w base ok v3 x.code) : kFunc_I.M w base ok x [v0, .int .i64 x.result, v2, v3] := ⟨[_], _, rfl, ⟨v0, rfl, g0⟩, ⟨[_], _, rfl, rfl, ⟨[_], _, rfl, ⟨v2, rfl, g2⟩, ⟨v3, rfl, g3⟩⟩⟩⟩

theorem atFunc_I {w : World} {A : Option Addr} {n : Nat} {xs : List MFunc} (h : Kd.C kFunc_I w A n xs) (i : Int) (h0 : 0 ≤ i) (h1 : i < n) : ∃ ad A0 c0 A2 c2 A3 c3, A = some ad ∧ w.cell? (ad.add (i.toNat * 4)) = some (.slice A0 (rdFunc xs i).params.length c0) ∧ w.cell? ⟨(ad.add (i.toNat * 4)).block, (ad.add (i.toNat * 4)).off + 1, none⟩ = some (.int .i64 (rdFunc xs i).result) ∧ w.cell? ⟨(ad.add (i.toNat * 4)).block, (ad.add (i.toNat * 4)).off + 2, none⟩ = some (.slice A2 (rdFunc xs i).locals.length c2) ∧ w.cell? ⟨(ad.add (i.toNat * 4)).block, (ad.add (i.toNat * 4)).off + 3, none⟩ = some (.slice A3 (rdFunc xs i).code.length c3) ∧ (rdFunc xs i).params.length ≤ c0 ∧ Kd.C (Kd.int .i64) w A0 (rdFunc xs i).params.length (rdFunc xs i).params ∧ (rdFunc xs i).locals.length ≤ c2 ∧ Kd.C (Kd.int .i64) w A2 (rdFunc xs i).locals.length (rdFunc xs i).locals ∧ (rdFunc xs i).code.length ≤ c3 ∧ Kd.C kInstr_I w A3 (rdFunc xs i).code.length (rdFunc xs i).code := by
  obtain ⟨ad, c, e, _, hK, hc0⟩ := Kd.C_get h zFunc i h0 h1
  have hc : ∀ j u, c[j]? = some u → w.cell? (ad.add (i.toNat * 4 + j)) = some u := hc0
  obtain ⟨A0, c0, A2, c2, A3, c3, rfl, l0, g0, l2, g2, l3, g3⟩ := kFunc_I_open hK
  exact ⟨ad, A0, c0, A2, c2, A3, c3, e, hc 0 _ rfl, by rw [← add_field _ _ 1 (by omega)]; exact hc 1 _ rfl, by rw [← add_field _ _ 2 (by omega)]; exact hc 2 _ rfl, by rw [← add_field _ _ 3 (by omega)]; exact hc 3 _ rfl, l0, g0, l2, g2, l3, g3⟩

set_option maxRecDepth 100000 in
theorem rdFunc_came (w : World) : Rd Try.prog w 115 kFunc_L okFunc := by
  intro H enc fuel cs y h
  obtain ⟨ys, m, _, _, hl, hn, hf⟩ := DataW.trod_struct Try.underlying115 h
  have hl : cs.length = 4 := hl.trans (by kernel_rfl)
  have hn : ys.length = 4 := hn
  match cs, hl, ys, hn with
  | [c0, c1, c2, c3], _, [y0, y1, y2, y3], _ =>
    obtain ⟨x0, k0, o0⟩ := (Rd.slice Try.underlying78 (by kernel_rfl) (Rd.int Try.underlying2)) enc m [c0] y0 ((congrArg _ (by kernel_rfl)).trans (hf 0 _ rfl))
    obtain ⟨x1, k1, o1⟩ := (Rd.int Try.underlying2) enc m [c1] y1 ((congrArg _ (by kernel_rfl)).trans (hf 1 _ rfl))
    obtain ⟨x2, k2, o2⟩ := (Rd.slice Try.underlying78 (by kernel_rfl) (Rd.int Try.underlying2)) enc m [c2] y2 ((congrArg _ (by kernel_rfl)).trans (hf 2 _ rfl))
    obtain ⟨x3, k3, o3⟩ := (Rd.slice Try.underlying113 (by kernel_rfl) (rdInstr_came w)) enc m [c3] y3 ((congrArg _ (by kernel_rfl)).trans (hf 3 _ rfl))
    exact ⟨⟨x0, x1, x2, x3⟩, ⟨[c0], _, rfl, k0, ⟨[c1], _, rfl, k1, ⟨[c2], _, rfl, k2, k3⟩⟩⟩, ⟨o0, o1, o2, o3⟩⟩

structure MCert where
  func : Int
  head : Int
  counter : Int
  init : Int

theorem MCert_ext {x y : MCert} (h0 : x.func = y.func) (h1 : x.head = y.head) (h2 : x.counter = y.counter) (h3 : x.init = y.init) : x = y := by cases x; cases y; simp_all

def zCert : MCert := ⟨0, 0, 0, 0⟩

def okCert (x : MCert) : Prop := Wf64 x.func ∧ Wf64 x.head ∧ Wf64 x.counter ∧ Wf32 x.init

def kCert_L : Kd MCert := Kd.iso (Kd.pair (Kd.int .i64) (Kd.pair (Kd.int .i64) (Kd.pair (Kd.int .i64) (Kd.int .u32)))) (fun x : MCert => (x.func, (x.head, (x.counter, x.init))))

theorem kCert_L_open {w : World} {x : MCert} {cs : List Value} (h : kCert_L.K w x cs) : cs = [.int .i64 x.func, .int .i64 x.head, .int .i64 x.counter, .int .u32 x.init] := by
  obtain ⟨_, _, rfl, rfl, ⟨_, _, rfl, rfl, ⟨_, _, rfl, rfl, rfl⟩⟩⟩ := h
  exact rfl

theorem kCert_L_mk (w : World) (x : MCert)  : kCert_L.K w x [.int .i64 x.func, .int .i64 x.head, .int .i64 x.counter, .int .u32 x.init] := ⟨[_], _, rfl, rfl, ⟨[_], _, rfl, rfl, ⟨[_], _, rfl, rfl, rfl⟩⟩⟩

def rdCert (xs : List MCert) (i : Int) : MCert := xs.getD i.toNat zCert

theorem atCert_L {w : World} {A : Option Addr} {n : Nat} {xs : List MCert} (h : Kd.C kCert_L w A n xs) (i : Int) (h0 : 0 ≤ i) (h1 : i < n) : ∃ ad , A = some ad ∧ w.cell? (ad.add (i.toNat * 4)) = some (.int .i64 (rdCert xs i).func) ∧ w.cell? ⟨(ad.add (i.toNat * 4)).block, (ad.add (i.toNat * 4)).off + 1, none⟩ = some (.int .i64 (rdCert xs i).head) ∧ w.cell? ⟨(ad.add (i.toNat * 4)).block, (ad.add (i.toNat * 4)).off + 2, none⟩ = some (.int .i64 (rdCert xs i).counter) ∧ w.cell? ⟨(ad.add (i.toNat * 4)).block, (ad.add (i.toNat * 4)).off + 3, none⟩ = some (.int .u32 (rdCert xs i).init) := by
  obtain ⟨ad, c, e, _, hK, hc0⟩ := Kd.C_get h zCert i h0 h1
  have hc : ∀ j u, c[j]? = some u → w.cell? (ad.add (i.toNat * 4 + j)) = some u := hc0
  obtain rfl := kCert_L_open hK
  exact ⟨ad, e, hc 0 _ rfl, by rw [← add_field _ _ 1 (by omega)]; exact hc 1 _ rfl, by rw [← add_field _ _ 2 (by omega)]; exact hc 2 _ rfl, by rw [← add_field _ _ 3 (by omega)]; exact hc 3 _ rfl⟩

def kCert_I : Kd MCert := Kd.iso (Kd.pair (Kd.int .i64) (Kd.pair (Kd.int .i64) (Kd.pair (Kd.int .i64) (Kd.int .u32)))) (fun x : MCert => (x.func, (x.head, (x.counter, x.init))))

theorem kCert_I_open {w : World} {x : MCert} {cs : List Value} (h : kCert_I.K w x cs) : cs = [.int .i64 x.func, .int .i64 x.head, .int .i64 x.counter, .int .u32 x.init] := by
  obtain ⟨_, _, rfl, rfl, ⟨_, _, rfl, rfl, ⟨_, _, rfl, rfl, rfl⟩⟩⟩ := h
  exact rfl

theorem kCert_I_mk (w : World) (x : MCert)  : kCert_I.K w x [.int .i64 x.func, .int .i64 x.head, .int .i64 x.counter, .int .u32 x.init] := ⟨[_], _, rfl, rfl, ⟨[_], _, rfl, rfl, ⟨[_], _, rfl, rfl, rfl⟩⟩⟩

theorem kCert_I_mkM (w : World) (base : Nat) (ok : Nat → Prop) (x : MCert)  : kCert_I.M w base ok x [.int .i64 x.func, .int .i64 x.head, .int .i64 x.counter, .int .u32 x.init] := ⟨[_], _, rfl, rfl, ⟨[_], _, rfl, rfl, ⟨[_], _, rfl, rfl, rfl⟩⟩⟩

theorem atCert_I {w : World} {A : Option Addr} {n : Nat} {xs : List MCert} (h : Kd.C kCert_I w A n xs) (i : Int) (h0 : 0 ≤ i) (h1 : i < n) : ∃ ad , A = some ad ∧ w.cell? (ad.add (i.toNat * 4)) = some (.int .i64 (rdCert xs i).func) ∧ w.cell? ⟨(ad.add (i.toNat * 4)).block, (ad.add (i.toNat * 4)).off + 1, none⟩ = some (.int .i64 (rdCert xs i).head) ∧ w.cell? ⟨(ad.add (i.toNat * 4)).block, (ad.add (i.toNat * 4)).off + 2, none⟩ = some (.int .i64 (rdCert xs i).counter) ∧ w.cell? ⟨(ad.add (i.toNat * 4)).block, (ad.add (i.toNat * 4)).off + 3, none⟩ = some (.int .u32 (rdCert xs i).init) := by
  obtain ⟨ad, c, e, _, hK, hc0⟩ := Kd.C_get h zCert i h0 h1
  have hc : ∀ j u, c[j]? = some u → w.cell? (ad.add (i.toNat * 4 + j)) = some u := hc0
  obtain rfl := kCert_I_open hK
  exact ⟨ad, e, hc 0 _ rfl, by rw [← add_field _ _ 1 (by omega)]; exact hc 1 _ rfl, by rw [← add_field _ _ 2 (by omega)]; exact hc 2 _ rfl, by rw [← add_field _ _ 3 (by omega)]; exact hc 3 _ rfl⟩

set_option maxRecDepth 100000 in
theorem rdCert_came (w : World) : Rd Try.prog w 121 kCert_L okCert := by
  intro H enc fuel cs y h
  obtain ⟨ys, m, _, _, hl, hn, hf⟩ := DataW.trod_struct Try.underlying121 h
  have hl : cs.length = 4 := hl.trans (by kernel_rfl)
  have hn : ys.length = 4 := hn
  match cs, hl, ys, hn with
  | [c0, c1, c2, c3], _, [y0, y1, y2, y3], _ =>
    obtain ⟨x0, k0, o0⟩ := (Rd.int Try.underlying2) enc m [c0] y0 ((congrArg _ (by kernel_rfl)).trans (hf 0 _ rfl))
    obtain ⟨x1, k1, o1⟩ := (Rd.int Try.underlying2) enc m [c1] y1 ((congrArg _ (by kernel_rfl)).trans (hf 1 _ rfl))
    obtain ⟨x2, k2, o2⟩ := (Rd.int Try.underlying2) enc m [c2] y2 ((congrArg _ (by kernel_rfl)).trans (hf 2 _ rfl))
    obtain ⟨x3, k3, o3⟩ := (Rd.int Try.underlying79) enc m [c3] y3 ((congrArg _ (by kernel_rfl)).trans (hf 3 _ rfl))
    exact ⟨⟨x0, x1, x2, x3⟩, ⟨[c0], _, rfl, k0, ⟨[c1], _, rfl, k1, ⟨[c2], _, rfl, k2, k3⟩⟩⟩, ⟨o0, o1, o2, o3⟩⟩

structure MProgram where
  regions : List (List Int)
  consts : List MConst
  funcs : List MFunc
  certs : List MCert

theorem MProgram_ext {x y : MProgram} (h0 : x.regions = y.regions) (h1 : x.consts = y.consts) (h2 : x.funcs = y.funcs) (h3 : x.certs = y.certs) : x = y := by cases x; cases y; simp_all

def zProgram : MProgram := ⟨[], [], [], []⟩

def okProgram (x : MProgram) : Prop := (fun xs => ∀ x ∈ xs, (fun xs => ∀ x ∈ xs, Wf64 x) x) x.regions ∧ (fun xs => ∀ x ∈ xs, okConst x) x.consts ∧ (fun xs => ∀ x ∈ xs, okFunc x) x.funcs ∧ (fun xs => ∀ x ∈ xs, okCert x) x.certs

def kProgram_L : Kd MProgram := Kd.iso (Kd.pair (Kd.slice 78 (Kd.slice 2 (Kd.int .i64))) (Kd.pair (Kd.slice 118 kConst_L) (Kd.pair (Kd.slice 115 kFunc_L) (Kd.slice 121 kCert_L)))) (fun x : MProgram => (x.regions, (x.consts, (x.funcs, x.certs))))

theorem kProgram_L_open {w : World} {x : MProgram} {cs : List Value} (h : kProgram_L.K w x cs) : ∃ A0 c0 A1 c1 A2 c2 A3 c3, cs = [.slice A0 x.regions.length c0, .slice A1 x.consts.length c1, .slice A2 x.funcs.length c2, .slice A3 x.certs.length c3] ∧ x.regions.length ≤ c0 ∧ Kd.C (Kd.slice 2 (Kd.int .i64)) w A0 x.regions.length x.regions ∧ x.consts.length ≤ c1 ∧ Kd.C kConst_L w A1 x.consts.length x.consts ∧ x.funcs.length ≤ c2 ∧ Kd.C kFunc_L w A2 x.funcs.length x.funcs ∧ x.certs.length ≤ c3 ∧ Kd.C kCert_L w A3 x.certs.length x.certs := by
  obtain ⟨_, _, rfl, ⟨A0, c0, rfl, l0, g0⟩, ⟨_, _, rfl, ⟨A1, c1, rfl, l1, g1⟩, ⟨_, _, rfl, ⟨A2, c2, rfl, l2, g2⟩, ⟨A3, c3, rfl, l3, g3⟩⟩⟩⟩ := h
  exact ⟨A0, c0, A1, c1, A2, c2, A3, c3, rfl, l0, g0, l1, g1, l2, g2, l3, g3⟩

theorem kProgram_L_mk (w : World) (x : MProgram) {A0 : Option Addr} {c0 : Nat} (l0 : x.regions.length ≤ c0) (g0 : Kd.C (Kd.slice 2 (Kd.int .i64)) w A0 x.regions.length x.regions) {A1 : Option Addr} {c1 : Nat} (l1 : x.consts.length ≤ c1) (g1 : Kd.C kConst_L w A1 x.consts.length x.consts) {A2 : Option Addr} {c2 : Nat} (l2 : x.funcs.length ≤ c2) (g2 : Kd.C kFunc_L w A2 x.funcs.length x.funcs) {A3 : Option Addr} {c3 : Nat} (l3 : x.certs.length ≤ c3) (g3 : Kd.C kCert_L w A3 x.certs.length x.certs) : kProgram_L.K w x [.slice A0 x.regions.length c0, .slice A1 x.consts.length c1, .slice A2 x.funcs.length c2, .slice A3 x.certs.length c3] := ⟨[_], _, rfl, ⟨A0, c0, rfl, l0, g0⟩, ⟨[_], _, rfl, ⟨A1, c1, rfl, l1, g1⟩, ⟨[_], _, rfl, ⟨A2, c2, rfl, l2, g2⟩, ⟨A3, c3, rfl, l3, g3⟩⟩⟩⟩

def rdProgram (xs : List MProgram) (i : Int) : MProgram := xs.getD i.toNat zProgram

theorem atProgram_L {w : World} {A : Option Addr} {n : Nat} {xs : List MProgram} (h : Kd.C kProgram_L w A n xs) (i : Int) (h0 : 0 ≤ i) (h1 : i < n) : ∃ ad A0 c0 A1 c1 A2 c2 A3 c3, A = some ad ∧ w.cell? (ad.add (i.toNat * 4)) = some (.slice A0 (rdProgram xs i).regions.length c0) ∧ w.cell? ⟨(ad.add (i.toNat * 4)).block, (ad.add (i.toNat * 4)).off + 1, none⟩ = some (.slice A1 (rdProgram xs i).consts.length c1) ∧ w.cell? ⟨(ad.add (i.toNat * 4)).block, (ad.add (i.toNat * 4)).off + 2, none⟩ = some (.slice A2 (rdProgram xs i).funcs.length c2) ∧ w.cell? ⟨(ad.add (i.toNat * 4)).block, (ad.add (i.toNat * 4)).off + 3, none⟩ = some (.slice A3 (rdProgram xs i).certs.length c3) ∧ (rdProgram xs i).regions.length ≤ c0 ∧ Kd.C (Kd.slice 2 (Kd.int .i64)) w A0 (rdProgram xs i).regions.length (rdProgram xs i).regions ∧ (rdProgram xs i).consts.length ≤ c1 ∧ Kd.C kConst_L w A1 (rdProgram xs i).consts.length (rdProgram xs i).consts ∧ (rdProgram xs i).funcs.length ≤ c2 ∧ Kd.C kFunc_L w A2 (rdProgram xs i).funcs.length (rdProgram xs i).funcs ∧ (rdProgram xs i).certs.length ≤ c3 ∧ Kd.C kCert_L w A3 (rdProgram xs i).certs.length (rdProgram xs i).certs := by
  obtain ⟨ad, c, e, _, hK, hc0⟩ := Kd.C_get h zProgram i h0 h1
  have hc : ∀ j u, c[j]? = some u → w.cell? (ad.add (i.toNat * 4 + j)) = some u := hc0
  obtain ⟨A0, c0, A1, c1, A2, c2, A3, c3, rfl, l0, g0, l1, g1, l2, g2, l3, g3⟩ := kProgram_L_open hK
  exact ⟨ad, A0, c0, A1, c1, A2, c2, A3, c3, e, hc 0 _ rfl, by rw [← add_field _ _ 1 (by omega)]; exact hc 1 _ rfl, by rw [← add_field _ _ 2 (by omega)]; exact hc 2 _ rfl, by rw [← add_field _ _ 3 (by omega)]; exact hc 3 _ rfl, l0, g0, l1, g1, l2, g2, l3, g3⟩

def kProgram_I : Kd MProgram := Kd.iso (Kd.pair (Kd.slice 78 (Kd.slice 2 (Kd.int .i64))) (Kd.pair (Kd.slice 81 kConst_I) (Kd.pair (Kd.slice 85 kFunc_I) (Kd.slice 87 kCert_I)))) (fun x : MProgram => (x.regions, (x.consts, (x.funcs, x.certs))))

theorem kProgram_I_open {w : World} {x : MProgram} {cs : List Value} (h : kProgram_I.K w x cs) : ∃ A0 c0 A1 c1 A2 c2 A3 c3, cs = [.slice A0 x.regions.length c0, .slice A1 x.consts.length c1, .slice A2 x.funcs.length c2, .slice A3 x.certs.length c3] ∧ x.regions.length ≤ c0 ∧ Kd.C (Kd.slice 2 (Kd.int .i64)) w A0 x.regions.length x.regions ∧ x.consts.length ≤ c1 ∧ Kd.C kConst_I w A1 x.consts.length x.consts ∧ x.funcs.length ≤ c2 ∧ Kd.C kFunc_I w A2 x.funcs.length x.funcs ∧ x.certs.length ≤ c3 ∧ Kd.C kCert_I w A3 x.certs.length x.certs := by
  obtain ⟨_, _, rfl, ⟨A0, c0, rfl, l0, g0⟩, ⟨_, _, rfl, ⟨A1, c1, rfl, l1, g1⟩, ⟨_, _, rfl, ⟨A2, c2, rfl, l2, g2⟩, ⟨A3, c3, rfl, l3, g3⟩⟩⟩⟩ := h
  exact ⟨A0, c0, A1, c1, A2, c2, A3, c3, rfl, l0, g0, l1, g1, l2, g2, l3, g3⟩

theorem kProgram_I_mk (w : World) (x : MProgram) {A0 : Option Addr} {c0 : Nat} (l0 : x.regions.length ≤ c0) (g0 : Kd.C (Kd.slice 2 (Kd.int .i64)) w A0 x.regions.length x.regions) {A1 : Option Addr} {c1 : Nat} (l1 : x.consts.length ≤ c1) (g1 : Kd.C kConst_I w A1 x.consts.length x.consts) {A2 : Option Addr} {c2 : Nat} (l2 : x.funcs.length ≤ c2) (g2 : Kd.C kFunc_I w A2 x.funcs.length x.funcs) {A3 : Option Addr} {c3 : Nat} (l3 : x.certs.length ≤ c3) (g3 : Kd.C kCert_I w A3 x.certs.length x.certs) : kProgram_I.K w x [.slice A0 x.regions.length c0, .slice A1 x.consts.length c1, .slice A2 x.funcs.length c2, .slice A3 x.certs.length c3] := ⟨[_], _, rfl, ⟨A0, c0, rfl, l0, g0⟩, ⟨[_], _, rfl, ⟨A1, c1, rfl, l1, g1⟩, ⟨[_], _, rfl, ⟨A2, c2, rfl, l2, g2⟩, ⟨A3, c3, rfl, l3, g3⟩⟩⟩⟩

theorem kProgram_I_mkM (w : World) (base : Nat) (ok : Nat → Prop) (x : MProgram) {v0 : Value} (g0 : Kd.R (Kd.slice 2 (Kd.int .i64)) 78 w base ok v0 x.regions) {v1 : Value} (g1 : Kd.R kConst_I 81 w base ok v1 x.consts) {v2 : Value} (g2 : Kd.R kFunc_I 85 w base ok v2 x.funcs) {v3 : Value} (g3 : Kd.R kCert_I 87 w base ok v3 x.certs) : kProgram_I.M w base ok x [v0, v1, v2, v3] := ⟨[_], _, rfl, ⟨v0, rfl, g0⟩, ⟨[_], _, rfl, ⟨v1, rfl, g1⟩, ⟨[_], _, rfl, ⟨v2, rfl, g2⟩, ⟨v3, rfl, g3⟩⟩⟩⟩

theorem atProgram_I {w : World} {A : Option Addr} {n : Nat} {xs : List MProgram} (h : Kd.C kProgram_I w A n xs) (i : Int) (h0 : 0 ≤ i) (h1 : i < n) : ∃ ad A0 c0 A1 c1 A2 c2 A3 c3, A = some ad ∧ w.cell? (ad.add (i.toNat * 4)) = some (.slice A0 (rdProgram xs i).regions.length c0) ∧ w.cell? ⟨(ad.add (i.toNat * 4)).block, (ad.add (i.toNat * 4)).off + 1, none⟩ = some (.slice A1 (rdProgram xs i).consts.length c1) ∧ w.cell? ⟨(ad.add (i.toNat * 4)).block, (ad.add (i.toNat * 4)).off + 2, none⟩ = some (.slice A2 (rdProgram xs i).funcs.length c2) ∧ w.cell? ⟨(ad.add (i.toNat * 4)).block, (ad.add (i.toNat * 4)).off + 3, none⟩ = some (.slice A3 (rdProgram xs i).certs.length c3) ∧ (rdProgram xs i).regions.length ≤ c0 ∧ Kd.C (Kd.slice 2 (Kd.int .i64)) w A0 (rdProgram xs i).regions.length (rdProgram xs i).regions ∧ (rdProgram xs i).consts.length ≤ c1 ∧ Kd.C kConst_I w A1 (rdProgram xs i).consts.length (rdProgram xs i).consts ∧ (rdProgram xs i).funcs.length ≤ c2 ∧ Kd.C kFunc_I w A2 (rdProgram xs i).funcs.length (rdProgram xs i).funcs ∧ (rdProgram xs i).certs.length ≤ c3 ∧ Kd.C kCert_I w A3 (rdProgram xs i).certs.length (rdProgram xs i).certs := by
  obtain ⟨ad, c, e, _, hK, hc0⟩ := Kd.C_get h zProgram i h0 h1
  have hc : ∀ j u, c[j]? = some u → w.cell? (ad.add (i.toNat * 4 + j)) = some u := hc0
  obtain ⟨A0, c0, A1, c1, A2, c2, A3, c3, rfl, l0, g0, l1, g1, l2, g2, l3, g3⟩ := kProgram_I_open hK
  exact ⟨ad, A0, c0, A1, c1, A2, c2, A3, c3, e, hc 0 _ rfl, by rw [← add_field _ _ 1 (by omega)]; exact hc 1 _ rfl, by rw [← add_field _ _ 2 (by omega)]; exact hc 2 _ rfl, by rw [← add_field _ _ 3 (by omega)]; exact hc 3 _ rfl, l0, g0, l1, g1, l2, g2, l3, g3⟩

set_option maxRecDepth 100000 in
theorem rdProgram_came (w : World) : Rd Try.prog w 48 kProgram_L okProgram := by
  intro H enc fuel cs y h
  obtain ⟨ys, m, _, _, hl, hn, hf⟩ := DataW.trod_struct Try.underlying48 h
  have hl : cs.length = 4 := hl.trans (by kernel_rfl)
  have hn : ys.length = 4 := hn
  match cs, hl, ys, hn with
  | [c0, c1, c2, c3], _, [y0, y1, y2, y3], _ =>
    obtain ⟨x0, k0, o0⟩ := (Rd.slice Try.underlying43 (by kernel_rfl) (Rd.slice Try.underlying78 (by kernel_rfl) (Rd.int Try.underlying2))) enc m [c0] y0 ((congrArg _ (by kernel_rfl)).trans (hf 0 _ rfl))
    obtain ⟨x1, k1, o1⟩ := (Rd.slice Try.underlying44 (by kernel_rfl) (rdConst_came w)) enc m [c1] y1 ((congrArg _ (by kernel_rfl)).trans (hf 1 _ rfl))
    obtain ⟨x2, k2, o2⟩ := (Rd.slice Try.underlying45 (by kernel_rfl) (rdFunc_came w)) enc m [c2] y2 ((congrArg _ (by kernel_rfl)).trans (hf 2 _ rfl))
    obtain ⟨x3, k3, o3⟩ := (Rd.slice Try.underlying46 (by kernel_rfl) (rdCert_came w)) enc m [c3] y3 ((congrArg _ (by kernel_rfl)).trans (hf 3 _ rfl))
    exact ⟨⟨x0, x1, x2, x3⟩, ⟨[c0], _, rfl, k0, ⟨[c1], _, rfl, k1, ⟨[c2], _, rfl, k2, k3⟩⟩⟩, ⟨o0, o1, o2, o3⟩⟩

end Go.Proofs.Ytlnlbncinjiinab.X
