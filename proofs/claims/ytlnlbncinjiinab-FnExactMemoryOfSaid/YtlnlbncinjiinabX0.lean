/- Of this session: contracts over the words of the kit's print. -/
import Derived.Test.YtlnlbncinjiinabProg
import Derived.Below
import Derived.Deep.Draws
import Derived.Deep.AppendLies
import Derived.Maps.AppendAt
import Derived.OwnWalk
import Derived.Laws.BytesArg
import Derived.Laws.MakeOwn
import Derived.Laws.OwnMore
import Derived.Deep.OwnRows
import Derived.Tactics
import Derived.Lib.ConvBytes
import Derived.Laws.Slices
import Derived.WalkKit
import Derived.KernelRfl
import Derived.RowKit3
import Derived.Deep.LoopGhost
import Derived.Deep.QuietTactic
import Derived.BigQuiet
import Derived.WideLaws
import Derived.Deep.DeepCutAuto
import Derived.Deep.CutBlock
import Derived.Deep.RegionHeld3
import Derived.Laws.Rows
import Derived.Lib.AppendStr
import Derived.ArgAppend
import Derived.Laws.IdiomCopy
import Derived.OrdersHeld
import Derived.Laws.BitsLemmas
import Derived.RowKit
import Derived.StillTailTactics
import Derived.Test.YtlnlbncinjiinabWWords
import Derived.Test.YtlnlbncinjiinabWLast
import Derived.Test.YtlnlbncinjiinabWTab
import Derived.Test.YtlnlbncinjiinabWFour
import Derived.Test.YtlnlbncinjiinabWQPut
import Derived.Test.YtlnlbncinjiinabWApart
import Derived.Test.YtlnlbncinjiinabWArr
import Derived.Test.YtlnlbncinjiinabWZeros
import Derived.Test.YtlnlbncinjiinabWFoot
import Derived.Test.YtlnlbncinjiinabWKept
import Derived.Test.YtlnlbncinjiinabWShare
import Derived.Test.YtlnlbncinjiinabWN
import Derived.Test.YtlnlbncinjiinabWFootNe
import Derived.Test.YtlnlbncinjiinabWAt
import Derived.Test.YtlnlbncinjiinabWEqStruct
import Derived.Test.YtlnlbncinjiinabWRepsOne
import Derived.Test.YtlnlbncinjiinabWInv
import Derived.Test.YtlnlbncinjiinabWInvWords
import Derived.Test.YtlnlbncinjiinabWGuard
import Derived.Test.YtlnlbncinjiinabWNEv
import Derived.Test.YtlnlbncinjiinabWMore
import Derived.ChangeArms

namespace Go.Proofs.Ytlnlbncinjiinab.X
open Go.RowKit Go.Proofs.YtlnlbncinjiinabW.PrintWords Go.Proofs.YtlnlbncinjiinabW.PrintLast Go.Proofs.YtlnlbncinjiinabW.PrintMore
set_option linter.unusedVariables false
set_option linter.unusedSimpArgs false
/-- equality as a bool (of any type) -/
noncomputable def eqT {α : Type} (a b : α) : Bool := @decide (a = b) (Classical.propDecidable _)
theorem eqT_true {α : Type} {a b : α} (h : a = b) : eqT a b = true := by unfold eqT; simp [h]
theorem eqT_false {α : Type} {a b : α} (h : ¬ a = b) : eqT a b = false := by unfold eqT; simp [h]
theorem eqT_iff {α : Type} {a b : α} : eqT a b = true ↔ a = b := by unfold eqT; simp
theorem eqT_self {α : Type} (a : α) : eqT a a = true := eqT_true rfl
theorem ext_getD {α : Type} (z : α) {xs ys : List α} (h : xs.length = ys.length) (hh : ∀ j : Nat, j < xs.length → xs.getD j z = ys.getD j z) : xs = ys := by
  refine List.ext_getElem h (fun j h1 h2 => ?_)
  have := hh j h1
  simpa [List.getD_eq_getElem?_getD, List.getElem?_eq_getElem h1, List.getElem?_eq_getElem h2] using this
/-- what stands below stays below: found by itself -/
theorem bel {w0 w : World} (h : Below w0.heap.size w0 w := by repeat (first | (with_reducible assumption) | (with_reducible exact Below.refl _ _) | exact Aside0.out (by with_reducible assumption) | (with_reducible apply below_alloc) | (with_reducible apply pw_below_drewN) | (with_reducible apply below_drew1) | (with_reducible refine below_set ?_ (by omega)))) : Below w0.heap.size w0 w := h
theorem R_fresh {α : Type} {d : Kd α} {e : Nat} {w : World} {base : Nat} {v : Value} {xs : List α} {p : Addr} {u : Value} (h : d.R e w base (fun _ => True) v xs) (hp : p.block < base) : d.R e (w.setCell p u) base (fun _ => True) v xs :=
  Kd.R_mono (ok := fun k => base ≤ k) (Kd.R_far (Kd.R_mono (Kd.R_bound h) (fun _ hk => hk.2.1)) (fun k hk => by omega) u) (fun _ _ => trivial)
theorem cell_setFar {w : World} {p : Addr} {u : Value} {b o : Nat} (h : b ≠ p.block) : (w.setCell p u).cell? ⟨b, o, none⟩ = w.cell? ⟨b, o, none⟩ := by
  exact World.cell?_setCell_other _ _ _ _ (fun e => h (by rw [e]))
theorem blk_alloc2a (w : World) (A B : Array Value) (a b : TypeId) : ((w.alloc (.cells A a)).alloc (.cells B b)).heap[w.heap.size]? = some (.cells A a (0, 0)) := by
  rw [heap_alloc_old _ _ (by simp)]
  exact heap_alloc_new w (.cells A a)
theorem blk_alloc2b (w : World) (A B : Array Value) (a b : TypeId) : ((w.alloc (.cells A a)).alloc (.cells B b)).heap[w.heap.size + 1]? = some (.cells B b (0, 0)) :=
  (congrArg _ (by simp)).trans (heap_alloc_new (w.alloc (.cells A a)) (.cells B b))
theorem bcell {W w1 : World} (hb : Below W.heap.size W w1) : (∀ b o, b < W.heap.size → w1.cell? ⟨b, o, none⟩ = W.cell? ⟨b, o, none⟩) ∧ (∀ b o, b < W.heap.size → w1.frozen? ⟨b, o, none⟩ = W.frozen? ⟨b, o, none⟩) :=
  ⟨fun b o h => hb.cell (p := ⟨b, o, none⟩) h, fun b o h => hb.frozen (p := ⟨b, o, none⟩) h⟩
theorem blk_alloc3 (w : World) (A B C : Array Value) (a b c : TypeId) : (((w.alloc (.cells A a)).alloc (.cells B b)).alloc (.cells C c)).heap[w.heap.size + 1]? = some (.cells B b (0, 0)) := by
  rw [heap_alloc_old _ _ (by simp)]
  exact (congrArg _ (by simp)).trans (heap_alloc_new (w.alloc (.cells A a)) (.cells B b))
/-- two in line that lead to no block in common -/
def apair {α β : Type} (a : Kd α) (b : Kd β) : Kd (α × β) where
  sz := a.sz + b.sz
  E := a.E ++ b.E
  K := fun w x cs => ∃ c0 c1, cs = c0 ++ c1 ∧ a.K w x.1 c0 ∧ b.K w x.2 c1
  M := fun w base ok x cs => ∃ (p : Nat → Prop) (c0 c1 : List Value), cs = c0 ++ c1 ∧ a.M w base (fun k => ok k ∧ p k) x.1 c0 ∧ b.M w base (fun k => ok k ∧ ¬ p k) x.2 c1
  K_len := (Kd.pair a b).K_len
  K_one := (Kd.pair a b).K_one
  K_below := (Kd.pair a b).K_below
  K_of_M := by
    rintro w base ok x cs ⟨p, c0, c1, rfl, h0, h1⟩
    exact ⟨c0, c1, rfl, a.K_of_M h0, b.K_of_M h1⟩
  M_mono := by
    rintro w base ok ok' x cs hok ⟨p, c0, c1, rfl, h0, h1⟩
    exact ⟨p, c0, c1, rfl, a.M_mono (fun k hk => ⟨hok k hk.1, hk.2⟩) h0, b.M_mono (fun k hk => ⟨hok k hk.1, hk.2⟩) h1⟩
  M_bound := by
    rintro w base ok x cs ⟨p, c0, c1, rfl, h0, h1⟩
    refine ⟨p, c0, c1, rfl, a.M_mono ?_ (a.M_bound h0), b.M_mono ?_ (b.M_bound h1)⟩
    · rintro k ⟨⟨h2, hp⟩, h3, h4, q, hq, hc⟩
      exact ⟨⟨h2, h3, h4, q, List.mem_append_left _ hq, hc⟩, hp⟩
    · rintro k ⟨⟨h2, hp⟩, h3, h4, q, hq, hc⟩
      exact ⟨⟨h2, h3, h4, q, List.mem_append_right _ hq, hc⟩, hp⟩
  M_move := by
    rintro w w1 base ok x cs hm ⟨p, c0, c1, rfl, h0, h1⟩
    exact ⟨p, c0, c1, rfl, a.M_move (fun k hk => hm k hk.1) h0, b.M_move (fun k hk => hm k hk.1) h1⟩
  M_lower := by
    rintro w base base' ok x cs hb ⟨p, c0, c1, rfl, h0, h1⟩
    exact ⟨p, c0, c1, rfl, a.M_lower hb h0, b.M_lower hb h1⟩
/-- a row whose elements lead to no block in common -/
def aslice {α : Type} (e : Nat) (d : Kd α) : Kd (List α) where
  sz := 1
  E := e :: d.E
  K := fun w xs cs => ∃ A c, cs = [.slice A xs.length c] ∧ xs.length ≤ c ∧ d.C w A xs.length xs
  M := fun w base ok xs cs => ∃ v, cs = [v] ∧ Kd.S d e w base ok v xs
  K_len := (Kd.slice e d).K_len
  K_one := (Kd.slice e d).K_one
  K_below := (Kd.slice e d).K_below
  K_of_M := by
    rintro w base ok x cs ⟨v, rfl, h⟩
    obtain ⟨A, c, rfl, hl, hr⟩ := Kd.S_reads h
    exact ⟨A, c, rfl, hl, hr⟩
  M_mono := by
    rintro w base ok ok' x cs hok ⟨v, rfl, h⟩
    exact ⟨v, rfl, Kd.S_mono h hok⟩
  M_bound := by
    rintro w base ok x cs ⟨v, rfl, h⟩
    exact ⟨v, rfl, Kd.S_bound h⟩
  M_move := by
    rintro w w1 base ok x cs hm ⟨v, rfl, h⟩
    exact ⟨v, rfl, Kd.S_move h hm⟩
  M_lower := by
    rintro w base base' ok x cs hb ⟨v, rfl, h⟩
    exact ⟨v, rfl, Kd.S_lower h hb⟩
theorem S_flat {α : Type} {d : Kd α} {e : Nat} {w : World} {base : Nat} {ok : Nat → Prop} {v : Value} {xs : List α} (hE : d.E = []) (h : d.R e w base ok v xs) : Kd.S d e w base ok v xs := by
  obtain ⟨h0, inner, ho, hr⟩ := h
  exact Kd.S_bare ⟨h0, inner, ho, hr.imp_ (fun _ _ hp => d.M_mono (fun k hk => by obtain ⟨_, _, _, q, hq, _⟩ := hk; rw [hE] at hq; cases hq) (d.M_bound hp))⟩
theorem S_lohi {α : Type} {d : Kd α} {e : Nat} {w : World} {base B P : Nat} {v : Value} {xs : List α} (h : Kd.S d e w B (fun _ => True) v xs) (hB : P ≤ B) (hP : base ≤ P) : Kd.S d e w base (fun k => P ≤ k ∧ k < w.heap.size) v xs :=
  Kd.S_lower (Kd.S_mono (Kd.S_bound h) (fun k hk => ⟨Nat.le_trans hB hk.2.1, hk.2.2.1⟩)) (Nat.le_trans hP hB)
theorem S_farO {α : Type} {d : Kd α} {e : Nat} {w : World} {base lo hi : Nat} {v : Value} {xs : List α} {p : Addr} {u : Value} (h : Kd.S d e w base (fun k => lo ≤ k ∧ k < hi) v xs) (hp : p.block < lo) : Kd.S d e (w.setCell p u) base (fun k => lo ≤ k ∧ k < hi) v xs :=
  Kd.S_far h (fun k hk => by omega) u
theorem M_fresh {α : Type} {d : Kd α} {w : World} {base base' : Nat} {x : α} {cs : List Value} (h : d.M w base (fun _ => True) x cs) (hb : base' ≤ base) : d.M w base' (fun k => base ≤ k) x cs :=
  d.M_lower hb (d.M_mono (fun _ hk => hk.2.1) (d.M_bound h))
abbrev Wf64 (n : Int) : Prop := (Lit.int .i64 n).wf = true
abbrev Wf32 (n : Int) : Prop := (Lit.int .u32 n).wf = true
abbrev Wf8 (n : Int) : Prop := (Lit.int .u8 n).wf = true
/-- cells that are read as a value of a type by the form's reader read as a value of a kind -/
def Rd {α : Type} (P : Program) (w : World) (t : TypeId) (k : Kd α) (ok : α → Prop) : Prop :=
  ∀ {H : Type} (enc : TypeId × Value → H) (fuel : Nat) (cs : List Value) (y : DataW H × List MemPlace), DataW.trod enc P w 0 (fun _ => true) true fuel t cs = some y → ∃ x, k.K w x cs ∧ ok x
theorem Rd.int {P : Program} {w : World} {t : TypeId} {q : IntKind} (ht : P.underlying t = some (.int q)) : Rd P w t (Kd.int q) (fun n => (Lit.int q n).wf = true) := by
  intro H enc fuel cs y h
  obtain ⟨n, rfl, _, hw⟩ := DataW.trod_int ht h
  exact ⟨n, rfl, hw⟩
theorem Rd.bool {P : Program} {w : World} {t : TypeId} (ht : P.underlying t = some .bool) : Rd P w t Kd.bool (fun _ => True) := by
  intro H enc fuel cs y h
  obtain ⟨n, rfl, _⟩ := DataW.trod_bool ht h
  exact ⟨n, rfl, trivial⟩
theorem cells_get {w : World} {a : Addr} : ∀ {n : Nat} {cs : List Value}, w.cells? 0 a n = some cs → cs.length = n ∧ ∀ i u, cs[i]? = some u → w.cell? (a.add i) = some u := by
  intro n cs h
  have hh : (List.range n).mapM (fun i => w.cell? (a.add i)) = some cs := by
    unfold World.cells? at h
    rwa [if_pos (Nat.zero_le _)] at h
  have hl : cs.length = n := by simpa using mapM_some_length hh
  refine ⟨hl, fun i u hu => ?_⟩
  have hi : i < n := by rw [← hl]; exact (List.getElem?_eq_some_iff.1 hu).1
  have := mapM_some_get hh i i (by simp [hi])
  rw [this, hu]
theorem choose_list {α : Type} (R : Nat → α → Prop) : ∀ n : Nat, (∀ i, i < n → ∃ x, R i x) → ∃ xs : List α, xs.length = n ∧ ∀ i x, xs[i]? = some x → R i x
  | 0, _ => ⟨[], rfl, fun i x h => by simp at h⟩
  | n + 1, h => by
    obtain ⟨xs, hl, hx⟩ := choose_list R n (fun i hi => h i (by omega))
    obtain ⟨x, hr⟩ := h n (by omega)
    refine ⟨xs ++ [x], by simp [hl], fun i y hy => ?_⟩
    rcases Nat.lt_or_ge i xs.length with h1 | h1
    · rw [List.getElem?_append_left h1] at hy; exact hx i y hy
    · have h2 := (List.getElem?_eq_some_iff.1 hy).1
      simp at h2
      obtain rfl : i = xs.length := by omega
      rw [List.getElem?_append_right (Nat.le_refl _)] at hy
      simp at hy
      rw [← hy, hl]; exact hr
theorem Rd.slice {α : Type} {P : Program} {w : World} {t e : TypeId} {k : Kd α} {ok : α → Prop} (ht : P.underlying t = some (.slice e)) (hc : P.cellsOf e = k.sz) (hk : Rd P w e k ok) : Rd P w t (Kd.slice e k) (fun xs => ∀ x ∈ xs, ok x) := by
  intro H enc fuel cs y h
  rcases DataW.trod_slice ht h with ⟨rfl, _⟩ | ⟨a, len, cap, elems, rest, n, _, rfl, rfl, _, hl, hm, hel, hi, _⟩
  · exact ⟨[], ⟨none, 0, rfl, Nat.le_refl _, rfl, by simp, fun h => absurd h (by simp)⟩, fun x hx => by cases hx⟩
  · have hr : ∀ i, i < len → ∃ x, (∃ c, c.length = k.sz ∧ k.K w x c ∧ ∀ j u, c[j]? = some u → w.cell? (a.add (i * k.sz + j)) = some u) ∧ ok x := by
      intro i hlt
      have h1 := hi i hlt
      have h2 : ∃ z, elems[i]? = some z := ⟨_, List.getElem?_eq_getElem (by omega)⟩
      obtain ⟨z, hz⟩ := h2
      rw [hz] at h1
      obtain ⟨c, hc1, hc2⟩ := Option.bind_eq_some_iff.1 h1
      obtain ⟨x, hx, hok⟩ := hk enc n c z hc2
      rw [hc] at hc1
      obtain ⟨g1, g2⟩ := cells_get hc1
      refine ⟨x, ⟨c, g1, hx, fun j u hu => ?_⟩, hok⟩
      have := g2 j u hu
      rw [Addr.add_add] at this
      exact this
    obtain ⟨xs, hxl, hx⟩ := choose_list _ len hr
    refine ⟨xs, ⟨some a, cap, by rw [hxl], by omega, rfl, ?_, fun hn => ⟨a, rfl, fun j p hj => (hx j p hj).1⟩⟩, fun x hxm => ?_⟩
    · rw [hxl]; unfold maxLen at hm; omega
    · obtain ⟨i, hi1, rfl⟩ := List.getElem_of_mem hxm
      exact (hx i _ (List.getElem?_eq_getElem hi1)).2
theorem pair_of {α β : Type} {a : Kd α} {b : Kd β} {w : World} {x : α} {y : β} {cs : List Value} (ha : a.K w x (cs.take a.sz)) (hb : b.K w y (cs.drop a.sz)) : (Kd.pair a b).K w (x, y) cs := ⟨_, _, (List.take_append_drop _ _).symm, ha, hb⟩

open Go.RowKit
structure MValue where
  ty : Int
  word : Int

theorem MValue_ext {x y : MValue} (h0 : x.ty = y.ty) (h1 : x.word = y.word) : x = y := by cases x; cases y; simp_all

def zValue : MValue := ⟨0, 0⟩

def okValue (x : MValue) : Prop := Wf64 x.ty ∧ Wf32 x.word

def kValue_L : Kd MValue := Kd.iso (Kd.pair (Kd.int .i64) (Kd.int .u32)) (fun x : MValue => (x.ty, x.word))

theorem kValue_L_open {w : World} {x : MValue} {cs : List Value} (h : kValue_L.K w x cs) : cs = [.int .i64 x.ty, .int .u32 x.word] := by
  obtain ⟨_, _, rfl, rfl, rfl⟩ := h
  exact rfl

theorem kValue_L_mk (w : World) (x : MValue)  : kValue_L.K w x [.int .i64 x.ty, .int .u32 x.word] := ⟨[_], _, rfl, rfl, rfl⟩

def rdValue (xs : List MValue) (i : Int) : MValue := xs.getD i.toNat zValue

theorem atValue_L {w : World} {A : Option Addr} {n : Nat} {xs : List MValue} (h : Kd.C kValue_L w A n xs) (i : Int) (h0 : 0 ≤ i) (h1 : i < n) : ∃ ad , A = some ad ∧ w.cell? (ad.add (i.toNat * 2)) = some (.int .i64 (rdValue xs i).ty) ∧ w.cell? ⟨(ad.add (i.toNat * 2)).block, (ad.add (i.toNat * 2)).off + 1, none⟩ = some (.int .u32 (rdValue xs i).word) := by
  obtain ⟨ad, c, e, _, hK, hc0⟩ := Kd.C_get h zValue i h0 h1
  have hc : ∀ j u, c[j]? = some u → w.cell? (ad.add (i.toNat * 2 + j)) = some u := hc0
  obtain rfl := kValue_L_open hK
  exact ⟨ad, e, hc 0 _ rfl, by rw [← add_field _ _ 1 (by omega)]; exact hc 1 _ rfl⟩

def kValue_I : Kd MValue := Kd.iso (Kd.pair (Kd.int .i64) (Kd.int .u32)) (fun x : MValue => (x.ty, x.word))

theorem kValue_I_open {w : World} {x : MValue} {cs : List Value} (h : kValue_I.K w x cs) : cs = [.int .i64 x.ty, .int .u32 x.word] := by
  obtain ⟨_, _, rfl, rfl, rfl⟩ := h
  exact rfl

theorem kValue_I_mk (w : World) (x : MValue)  : kValue_I.K w x [.int .i64 x.ty, .int .u32 x.word] := ⟨[_], _, rfl, rfl, rfl⟩

theorem kValue_I_mkM (w : World) (base : Nat) (ok : Nat → Prop) (x : MValue)  : kValue_I.M w base ok x [.int .i64 x.ty, .int .u32 x.word] := ⟨[_], _, rfl, rfl, rfl⟩

theorem kValue_I_openM {w : World} {base : Nat} {ok : Nat → Prop} {x : MValue} {cs : List Value} (h : kValue_I.M w base ok x cs) : cs = [.int .i64 x.ty, .int .u32 x.word] := by
  obtain ⟨_, _, rfl, rfl, rfl⟩ := h
  exact rfl

theorem atValue_I {w : World} {A : Option Addr} {n : Nat} {xs : List MValue} (h : Kd.C kValue_I w A n xs) (i : Int) (h0 : 0 ≤ i) (h1 : i < n) : ∃ ad , A = some ad ∧ w.cell? (ad.add (i.toNat * 2)) = some (.int .i64 (rdValue xs i).ty) ∧ w.cell? ⟨(ad.add (i.toNat * 2)).block, (ad.add (i.toNat * 2)).off + 1, none⟩ = some (.int .u32 (rdValue xs i).word) := by
  obtain ⟨ad, c, e, _, hK, hc0⟩ := Kd.C_get h zValue i h0 h1
  have hc : ∀ j u, c[j]? = some u → w.cell? (ad.add (i.toNat * 2 + j)) = some u := hc0
  obtain rfl := kValue_I_open hK
  exact ⟨ad, e, hc 0 _ rfl, by rw [← add_field _ _ 1 (by omega)]; exact hc 1 _ rfl⟩

set_option maxRecDepth 100000 in
theorem rdValue_came (w : World) : Rd Try.prog w 105 kValue_L okValue := by
  intro H enc fuel cs y h
  obtain ⟨ys, m, _, _, hl, hn, hf⟩ := DataW.trod_struct Try.underlying105 h
  have hl : cs.length = 2 := hl.trans (by kernel_rfl)
  have hn : ys.length = 2 := hn
  match cs, hl, ys, hn with
  | [c0, c1], _, [y0, y1], _ =>
    obtain ⟨x0, k0, o0⟩ := (Rd.int Try.underlying2) enc m [c0] y0 ((congrArg _ (by kernel_rfl)).trans (hf 0 _ rfl))
    obtain ⟨x1, k1, o1⟩ := (Rd.int Try.underlying79) enc m [c1] y1 ((congrArg _ (by kernel_rfl)).trans (hf 1 _ rfl))
    exact ⟨⟨x0, x1⟩, ⟨[c0], _, rfl, k0, k1⟩, ⟨o0, o1⟩⟩

structure MFrame where
  func : Int
  at_ : Int
  base : Int
  locals : List MValue

theorem MFrame_ext {x y : MFrame} (h0 : x.func = y.func) (h1 : x.at_ = y.at_) (h2 : x.base = y.base) (h3 : x.locals = y.locals) : x = y := by cases x; cases y; simp_all

def zFrame : MFrame := ⟨0, 0, 0, []⟩

def okFrame (x : MFrame) : Prop := Wf64 x.func ∧ Wf64 x.at_ ∧ Wf64 x.base ∧ (fun xs => ∀ x ∈ xs, okValue x) x.locals

def kFrame_L : Kd MFrame := Kd.iso (Kd.pair (Kd.int .i64) (Kd.pair (Kd.int .i64) (Kd.pair (Kd.int .i64) (Kd.slice 105 kValue_L)))) (fun x : MFrame => (x.func, (x.at_, (x.base, x.locals))))

theorem kFrame_L_open {w : World} {x : MFrame} {cs : List Value} (h : kFrame_L.K w x cs) : ∃ A3 c3, cs = [.int .i64 x.func, .int .i64 x.at_, .int .i64 x.base, .slice A3 x.locals.length c3] ∧ x.locals.length ≤ c3 ∧ Kd.C kValue_L w A3 x.locals.length x.locals := by
  obtain ⟨_, _, rfl, rfl, ⟨_, _, rfl, rfl, ⟨_, _, rfl, rfl, ⟨A3, c3, rfl, l3, g3⟩⟩⟩⟩ := h
  exact ⟨A3, c3, rfl, l3, g3⟩

theorem kFrame_L_mk (w : World) (x : MFrame) {A3 : Option Addr} {c3 : Nat} (l3 : x.locals.length ≤ c3) (g3 : Kd.C kValue_L w A3 x.locals.length x.locals) : kFrame_L.K w x [.int .i64 x.func, .int .i64 x.at_, .int .i64 x.base, .slice A3 x.locals.length c3] := ⟨[_], _, rfl, rfl, ⟨[_], _, rfl, rfl, ⟨[_], _, rfl, rfl, ⟨A3, c3, rfl, l3, g3⟩⟩⟩⟩

def rdFrame (xs : List MFrame) (i : Int) : MFrame := xs.getD i.toNat zFrame

theorem atFrame_L {w : World} {A : Option Addr} {n : Nat} {xs : List MFrame} (h : Kd.C kFrame_L w A n xs) (i : Int) (h0 : 0 ≤ i) (h1 : i < n) : ∃ ad A3 c3, A = some ad ∧ w.cell? (ad.add (i.toNat * 4)) = some (.int .i64 (rdFrame xs i).func) ∧ w.cell? ⟨(ad.add (i.toNat * 4)).block, (ad.add (i.toNat * 4)).off + 1, none⟩ = some (.int .i64 (rdFrame xs i).at_) ∧ w.cell? ⟨(ad.add (i.toNat * 4)).block, (ad.add (i.toNat * 4)).off + 2, none⟩ = some (.int .i64 (rdFrame xs i).base) ∧ w.cell? ⟨(ad.add (i.toNat * 4)).block, (ad.add (i.toNat * 4)).off + 3, none⟩ = some (.slice A3 (rdFrame xs i).locals.length c3) ∧ (rdFrame xs i).locals.length ≤ c3 ∧ Kd.C kValue_L w A3 (rdFrame xs i).locals.length (rdFrame xs i).locals := by
  obtain ⟨ad, c, e, _, hK, hc0⟩ := Kd.C_get h zFrame i h0 h1
  have hc : ∀ j u, c[j]? = some u → w.cell? (ad.add (i.toNat * 4 + j)) = some u := hc0
  obtain ⟨A3, c3, rfl, l3, g3⟩ := kFrame_L_open hK
  exact ⟨ad, A3, c3, e, hc 0 _ rfl, by rw [← add_field _ _ 1 (by omega)]; exact hc 1 _ rfl, by rw [← add_field _ _ 2 (by omega)]; exact hc 2 _ rfl, by rw [← add_field _ _ 3 (by omega)]; exact hc 3 _ rfl, l3, g3⟩

def kFrame_I : Kd MFrame := Kd.iso (Kd.pair (Kd.int .i64) (Kd.pair (Kd.int .i64) (Kd.pair (Kd.int .i64) (aslice 103 kValue_I)))) (fun x : MFrame => (x.func, (x.at_, (x.base, x.locals))))

theorem kFrame_I_open {w : World} {x : MFrame} {cs : List Value} (h : kFrame_I.K w x cs) : ∃ A3 c3, cs = [.int .i64 x.func, .int .i64 x.at_, .int .i64 x.base, .slice A3 x.locals.length c3] ∧ x.locals.length ≤ c3 ∧ Kd.C kValue_I w A3 x.locals.length x.locals := by
  obtain ⟨_, _, rfl, rfl, ⟨_, _, rfl, rfl, ⟨_, _, rfl, rfl, ⟨A3, c3, rfl, l3, g3⟩⟩⟩⟩ := h
  exact ⟨A3, c3, rfl, l3, g3⟩

theorem kFrame_I_mk (w : World) (x : MFrame) {A3 : Option Addr} {c3 : Nat} (l3 : x.locals.length ≤ c3) (g3 : Kd.C kValue_I w A3 x.locals.length x.locals) : kFrame_I.K w x [.int .i64 x.func, .int .i64 x.at_, .int .i64 x.base, .slice A3 x.locals.length c3] := ⟨[_], _, rfl, rfl, ⟨[_], _, rfl, rfl, ⟨[_], _, rfl, rfl, ⟨A3, c3, rfl, l3, g3⟩⟩⟩⟩

theorem kFrame_I_mkM (w : World) (base : Nat) (ok : Nat → Prop) (x : MFrame) {v3 : Value} (g3 : Kd.S kValue_I 103 w base (fun k => ok k) v3 x.locals) : kFrame_I.M w base ok x [.int .i64 x.func, .int .i64 x.at_, .int .i64 x.base, v3] := ⟨[_], _, rfl, rfl, ⟨[_], _, rfl, rfl, ⟨[_], _, rfl, rfl, ⟨v3, rfl, g3⟩⟩⟩⟩

theorem kFrame_I_openM {w : World} {base : Nat} {ok : Nat → Prop} {x : MFrame} {cs : List Value} (h : kFrame_I.M w base ok x cs) : ∃ (v3 : Value), cs = [.int .i64 x.func, .int .i64 x.at_, .int .i64 x.base, v3] ∧ Kd.S kValue_I 103 w base (fun k => ok k) v3 x.locals := by
  obtain ⟨_, _, rfl, rfl, ⟨_, _, rfl, rfl, ⟨_, _, rfl, rfl, ⟨v3, rfl, g3⟩⟩⟩⟩ := h
  exact ⟨v3, rfl, g3⟩

theorem atFrame_I {w : World} {A : Option Addr} {n : Nat} {xs : List MFrame} (h : Kd.C kFrame_I w A n xs) (i : Int) (h0 : 0 ≤ i) (h1 : i < n) : ∃ ad A3 c3, A = some ad ∧ w.cell? (ad.add (i.toNat * 4)) = some (.int .i64 (rdFrame xs i).func) ∧ w.cell? ⟨(ad.add (i.toNat * 4)).block, (ad.add (i.toNat * 4)).off + 1, none⟩ = some (.int .i64 (rdFrame xs i).at_) ∧ w.cell? ⟨(ad.add (i.toNat * 4)).block, (ad.add (i.toNat * 4)).off + 2, none⟩ = some (.int .i64 (rdFrame xs i).base) ∧ w.cell? ⟨(ad.add (i.toNat * 4)).block, (ad.add (i.toNat * 4)).off + 3, none⟩ = some (.slice A3 (rdFrame xs i).locals.length c3) ∧ (rdFrame xs i).locals.length ≤ c3 ∧ Kd.C kValue_I w A3 (rdFrame xs i).locals.length (rdFrame xs i).locals := by
  obtain ⟨ad, c, e, _, hK, hc0⟩ := Kd.C_get h zFrame i h0 h1
  have hc : ∀ j u, c[j]? = some u → w.cell? (ad.add (i.toNat * 4 + j)) = some u := hc0
  obtain ⟨A3, c3, rfl, l3, g3⟩ := kFrame_I_open hK
  exact ⟨ad, A3, c3, e, hc 0 _ rfl, by rw [← add_field _ _ 1 (by omega)]; exact hc 1 _ rfl, by rw [← add_field _ _ 2 (by omega)]; exact hc 2 _ rfl, by rw [← add_field _ _ 3 (by omega)]; exact hc 3 _ rfl, l3, g3⟩

set_option maxRecDepth 100000 in
theorem rdFrame_came (w : World) : Rd Try.prog w 102 kFrame_L okFrame := by
  intro H enc fuel cs y h
  obtain ⟨ys, m, _, _, hl, hn, hf⟩ := DataW.trod_struct Try.underlying102 h
  have hl : cs.length = 4 := hl.trans (by kernel_rfl)
  have hn : ys.length = 4 := hn
  match cs, hl, ys, hn with
  | [c0, c1, c2, c3], _, [y0, y1, y2, y3], _ =>
    obtain ⟨x0, k0, o0⟩ := (Rd.int Try.underlying2) enc m [c0] y0 ((congrArg _ (by kernel_rfl)).trans (hf 0 _ rfl))
    obtain ⟨x1, k1, o1⟩ := (Rd.int Try.underlying2) enc m [c1] y1 ((congrArg _ (by kernel_rfl)).trans (hf 1 _ rfl))
    obtain ⟨x2, k2, o2⟩ := (Rd.int Try.underlying2) enc m [c2] y2 ((congrArg _ (by kernel_rfl)).trans (hf 2 _ rfl))
    obtain ⟨x3, k3, o3⟩ := (Rd.slice Try.underlying23 (by kernel_rfl) (rdValue_came w)) enc m [c3] y3 ((congrArg _ (by kernel_rfl)).trans (hf 3 _ rfl))
    exact ⟨⟨x0, x1, x2, x3⟩, ⟨[c0], _, rfl, k0, ⟨[c1], _, rfl, k1, ⟨[c2], _, rfl, k2, k3⟩⟩⟩, ⟨o0, o1, o2, o3⟩⟩

structure MState where
  trap : Int
  done : Bool
  cost : Int
  steps : Int
  cells : List (List MValue)
  stack : List MValue
  frames : List MFrame

theorem MState_ext {x y : MState} (h0 : x.trap = y.trap) (h1 : x.done = y.done) (h2 : x.cost = y.cost) (h3 : x.steps = y.steps) (h4 : x.cells = y.cells) (h5 : x.stack = y.stack) (h6 : x.frames = y.frames) : x = y := by cases x; cases y; simp_all

def zState : MState := ⟨0, false, 0, 0, [], [], []⟩

def okState (x : MState) : Prop := Wf64 x.trap ∧ (fun _ => True) x.done ∧ Wf64 x.cost ∧ Wf64 x.steps ∧ (fun xs => ∀ x ∈ xs, (fun xs => ∀ x ∈ xs, okValue x) x) x.cells ∧ (fun xs => ∀ x ∈ xs, okValue x) x.stack ∧ (fun xs => ∀ x ∈ xs, okFrame x) x.frames

def kState_L : Kd MState := Kd.iso (Kd.pair (Kd.int .i64) (Kd.pair Kd.bool (Kd.pair (Kd.int .i64) (Kd.pair (Kd.int .i64) (Kd.pair (Kd.slice 23 (Kd.slice 105 kValue_L)) (Kd.pair (Kd.slice 105 kValue_L) (Kd.slice 102 kFrame_L))))))) (fun x : MState => (x.trap, (x.done, (x.cost, (x.steps, (x.cells, (x.stack, x.frames)))))))

theorem kState_L_open {w : World} {x : MState} {cs : List Value} (h : kState_L.K w x cs) : ∃ A4 c4 A5 c5 A6 c6, cs = [.int .i64 x.trap, .bool x.done, .int .i64 x.cost, .int .i64 x.steps, .slice A4 x.cells.length c4, .slice A5 x.stack.length c5, .slice A6 x.frames.length c6] ∧ x.cells.length ≤ c4 ∧ Kd.C (Kd.slice 105 kValue_L) w A4 x.cells.length x.cells ∧ x.stack.length ≤ c5 ∧ Kd.C kValue_L w A5 x.stack.length x.stack ∧ x.frames.length ≤ c6 ∧ Kd.C kFrame_L w A6 x.frames.length x.frames := by
  obtain ⟨_, _, rfl, rfl, ⟨_, _, rfl, rfl, ⟨_, _, rfl, rfl, ⟨_, _, rfl, rfl, ⟨_, _, rfl, ⟨A4, c4, rfl, l4, g4⟩, ⟨_, _, rfl, ⟨A5, c5, rfl, l5, g5⟩, ⟨A6, c6, rfl, l6, g6⟩⟩⟩⟩⟩⟩⟩ := h
  exact ⟨A4, c4, A5, c5, A6, c6, rfl, l4, g4, l5, g5, l6, g6⟩

theorem kState_L_mk (w : World) (x : MState) {A4 : Option Addr} {c4 : Nat} (l4 : x.cells.length ≤ c4) (g4 : Kd.C (Kd.slice 105 kValue_L) w A4 x.cells.length x.cells) {A5 : Option Addr} {c5 : Nat} (l5 : x.stack.length ≤ c5) (g5 : Kd.C kValue_L w A5 x.stack.length x.stack) {A6 : Option Addr} {c6 : Nat} (l6 : x.frames.length ≤ c6) (g6 : Kd.C kFrame_L w A6 x.frames.length x.frames) : kState_L.K w x [.int .i64 x.trap, .bool x.done, .int .i64 x.cost, .int .i64 x.steps, .slice A4 x.cells.length c4, .slice A5 x.stack.length c5, .slice A6 x.frames.length c6] := ⟨[_], _, rfl, rfl, ⟨[_], _, rfl, rfl, ⟨[_], _, rfl, rfl, ⟨[_], _, rfl, rfl, ⟨[_], _, rfl, ⟨A4, c4, rfl, l4, g4⟩, ⟨[_], _, rfl, ⟨A5, c5, rfl, l5, g5⟩, ⟨A6, c6, rfl, l6, g6⟩⟩⟩⟩⟩⟩⟩

def rdState (xs : List MState) (i : Int) : MState := xs.getD i.toNat zState

theorem atState_L {w : World} {A : Option Addr} {n : Nat} {xs : List MState} (h : Kd.C kState_L w A n xs) (i : Int) (h0 : 0 ≤ i) (h1 : i < n) : ∃ ad A4 c4 A5 c5 A6 c6, A = some ad ∧ w.cell? (ad.add (i.toNat * 7)) = some (.int .i64 (rdState xs i).trap) ∧ w.cell? ⟨(ad.add (i.toNat * 7)).block, (ad.add (i.toNat * 7)).off + 1, none⟩ = some (.bool (rdState xs i).done) ∧ w.cell? ⟨(ad.add (i.toNat * 7)).block, (ad.add (i.toNat * 7)).off + 2, none⟩ = some (.int .i64 (rdState xs i).cost) ∧ w.cell? ⟨(ad.add (i.toNat * 7)).block, (ad.add (i.toNat * 7)).off + 3, none⟩ = some (.int .i64 (rdState xs i).steps) ∧ w.cell? ⟨(ad.add (i.toNat * 7)).block, (ad.add (i.toNat * 7)).off + 4, none⟩ = some (.slice A4 (rdState xs i).cells.length c4) ∧ w.cell? ⟨(ad.add (i.toNat * 7)).block, (ad.add (i.toNat * 7)).off + 5, none⟩ = some (.slice A5 (rdState xs i).stack.length c5) ∧ w.cell? ⟨(ad.add (i.toNat * 7)).block, (ad.add (i.toNat * 7)).off + 6, none⟩ = some (.slice A6 (rdState xs i).frames.length c6) ∧ (rdState xs i).cells.length ≤ c4 ∧ Kd.C (Kd.slice 105 kValue_L) w A4 (rdState xs i).cells.length (rdState xs i).cells ∧ (rdState xs i).stack.length ≤ c5 ∧ Kd.C kValue_L w A5 (rdState xs i).stack.length (rdState xs i).stack ∧ (rdState xs i).frames.length ≤ c6 ∧ Kd.C kFrame_L w A6 (rdState xs i).frames.length (rdState xs i).frames := by
  obtain ⟨ad, c, e, _, hK, hc0⟩ := Kd.C_get h zState i h0 h1
  have hc : ∀ j u, c[j]? = some u → w.cell? (ad.add (i.toNat * 7 + j)) = some u := hc0
  obtain ⟨A4, c4, A5, c5, A6, c6, rfl, l4, g4, l5, g5, l6, g6⟩ := kState_L_open hK
  exact ⟨ad, A4, c4, A5, c5, A6, c6, e, hc 0 _ rfl, by rw [← add_field _ _ 1 (by omega)]; exact hc 1 _ rfl, by rw [← add_field _ _ 2 (by omega)]; exact hc 2 _ rfl, by rw [← add_field _ _ 3 (by omega)]; exact hc 3 _ rfl, by rw [← add_field _ _ 4 (by omega)]; exact hc 4 _ rfl, by rw [← add_field _ _ 5 (by omega)]; exact hc 5 _ rfl, by rw [← add_field _ _ 6 (by omega)]; exact hc 6 _ rfl, l4, g4, l5, g5, l6, g6⟩

def kState_I : Kd MState := Kd.iso (Kd.pair (Kd.int .i64) (Kd.pair Kd.bool (Kd.pair (Kd.int .i64) (Kd.pair (Kd.int .i64) (apair (aslice 33 (aslice 103 kValue_I)) (apair (aslice 103 kValue_I) (aslice 107 kFrame_I))))))) (fun x : MState => (x.trap, (x.done, (x.cost, (x.steps, (x.cells, (x.stack, x.frames)))))))

theorem kState_I_open {w : World} {x : MState} {cs : List Value} (h : kState_I.K w x cs) : ∃ A4 c4 A5 c5 A6 c6, cs = [.int .i64 x.trap, .bool x.done, .int .i64 x.cost, .int .i64 x.steps, .slice A4 x.cells.length c4, .slice A5 x.stack.length c5, .slice A6 x.frames.length c6] ∧ x.cells.length ≤ c4 ∧ Kd.C (aslice 103 kValue_I) w A4 x.cells.length x.cells ∧ x.stack.length ≤ c5 ∧ Kd.C kValue_I w A5 x.stack.length x.stack ∧ x.frames.length ≤ c6 ∧ Kd.C kFrame_I w A6 x.frames.length x.frames := by
  obtain ⟨_, _, rfl, rfl, ⟨_, _, rfl, rfl, ⟨_, _, rfl, rfl, ⟨_, _, rfl, rfl, ⟨_, _, rfl, ⟨A4, c4, rfl, l4, g4⟩, ⟨_, _, rfl, ⟨A5, c5, rfl, l5, g5⟩, ⟨A6, c6, rfl, l6, g6⟩⟩⟩⟩⟩⟩⟩ := h
  exact ⟨A4, c4, A5, c5, A6, c6, rfl, l4, g4, l5, g5, l6, g6⟩

theorem kState_I_mk (w : World) (x : MState) {A4 : Option Addr} {c4 : Nat} (l4 : x.cells.length ≤ c4) (g4 : Kd.C (aslice 103 kValue_I) w A4 x.cells.length x.cells) {A5 : Option Addr} {c5 : Nat} (l5 : x.stack.length ≤ c5) (g5 : Kd.C kValue_I w A5 x.stack.length x.stack) {A6 : Option Addr} {c6 : Nat} (l6 : x.frames.length ≤ c6) (g6 : Kd.C kFrame_I w A6 x.frames.length x.frames) : kState_I.K w x [.int .i64 x.trap, .bool x.done, .int .i64 x.cost, .int .i64 x.steps, .slice A4 x.cells.length c4, .slice A5 x.stack.length c5, .slice A6 x.frames.length c6] := ⟨[_], _, rfl, rfl, ⟨[_], _, rfl, rfl, ⟨[_], _, rfl, rfl, ⟨[_], _, rfl, rfl, ⟨[_], _, rfl, ⟨A4, c4, rfl, l4, g4⟩, ⟨[_], _, rfl, ⟨A5, c5, rfl, l5, g5⟩, ⟨A6, c6, rfl, l6, g6⟩⟩⟩⟩⟩⟩⟩

theorem kState_I_mkM (w : World) (base : Nat) (ok : Nat → Prop) (x : MState) (p0 : Nat → Prop) (p1 : Nat → Prop) {v4 : Value} (g4 : Kd.S (aslice 103 kValue_I) 33 w base (fun k => ok k ∧ p0 k) v4 x.cells) {v5 : Value} (g5 : Kd.S kValue_I 103 w base (fun k => (ok k ∧ ¬ p0 k) ∧ p1 k) v5 x.stack) {v6 : Value} (g6 : Kd.S kFrame_I 107 w base (fun k => (ok k ∧ ¬ p0 k) ∧ ¬ p1 k) v6 x.frames) : kState_I.M w base ok x [.int .i64 x.trap, .bool x.done, .int .i64 x.cost, .int .i64 x.steps, v4, v5, v6] := ⟨[_], _, rfl, rfl, ⟨[_], _, rfl, rfl, ⟨[_], _, rfl, rfl, ⟨[_], _, rfl, rfl, ⟨p0, [_], _, rfl, ⟨v4, rfl, g4⟩, ⟨p1, [_], _, rfl, ⟨v5, rfl, g5⟩, ⟨v6, rfl, g6⟩⟩⟩⟩⟩⟩⟩

theorem kState_I_openM {w : World} {base : Nat} {ok : Nat → Prop} {x : MState} {cs : List Value} (h : kState_I.M w base ok x cs) : ∃ (p0 : Nat → Prop) (p1 : Nat → Prop) (v4 v5 v6 : Value), cs = [.int .i64 x.trap, .bool x.done, .int .i64 x.cost, .int .i64 x.steps, v4, v5, v6] ∧ Kd.S (aslice 103 kValue_I) 33 w base (fun k => ok k ∧ p0 k) v4 x.cells ∧ Kd.S kValue_I 103 w base (fun k => (ok k ∧ ¬ p0 k) ∧ p1 k) v5 x.stack ∧ Kd.S kFrame_I 107 w base (fun k => (ok k ∧ ¬ p0 k) ∧ ¬ p1 k) v6 x.frames := by
  obtain ⟨_, _, rfl, rfl, ⟨_, _, rfl, rfl, ⟨_, _, rfl, rfl, ⟨_, _, rfl, rfl, ⟨p0, _, _, rfl, ⟨v4, rfl, g4⟩, ⟨p1, _, _, rfl, ⟨v5, rfl, g5⟩, ⟨v6, rfl, g6⟩⟩⟩⟩⟩⟩⟩ := h
  exact ⟨p0, p1, v4, v5, v6, rfl, g4, g5, g6⟩

theorem atState_I {w : World} {A : Option Addr} {n : Nat} {xs : List MState} (h : Kd.C kState_I w A n xs) (i : Int) (h0 : 0 ≤ i) (h1 : i < n) : ∃ ad A4 c4 A5 c5 A6 c6, A = some ad ∧ w.cell? (ad.add (i.toNat * 7)) = some (.int .i64 (rdState xs i).trap) ∧ w.cell? ⟨(ad.add (i.toNat * 7)).block, (ad.add (i.toNat * 7)).off + 1, none⟩ = some (.bool (rdState xs i).done) ∧ w.cell? ⟨(ad.add (i.toNat * 7)).block, (ad.add (i.toNat * 7)).off + 2, none⟩ = some (.int .i64 (rdState xs i).cost) ∧ w.cell? ⟨(ad.add (i.toNat * 7)).block, (ad.add (i.toNat * 7)).off + 3, none⟩ = some (.int .i64 (rdState xs i).steps) ∧ w.cell? ⟨(ad.add (i.toNat * 7)).block, (ad.add (i.toNat * 7)).off + 4, none⟩ = some (.slice A4 (rdState xs i).cells.length c4) ∧ w.cell? ⟨(ad.add (i.toNat * 7)).block, (ad.add (i.toNat * 7)).off + 5, none⟩ = some (.slice A5 (rdState xs i).stack.length c5) ∧ w.cell? ⟨(ad.add (i.toNat * 7)).block, (ad.add (i.toNat * 7)).off + 6, none⟩ = some (.slice A6 (rdState xs i).frames.length c6) ∧ (rdState xs i).cells.length ≤ c4 ∧ Kd.C (aslice 103 kValue_I) w A4 (rdState xs i).cells.length (rdState xs i).cells ∧ (rdState xs i).stack.length ≤ c5 ∧ Kd.C kValue_I w A5 (rdState xs i).stack.length (rdState xs i).stack ∧ (rdState xs i).frames.length ≤ c6 ∧ Kd.C kFrame_I w A6 (rdState xs i).frames.length (rdState xs i).frames := by
  obtain ⟨ad, c, e, _, hK, hc0⟩ := Kd.C_get h zState i h0 h1
  have hc : ∀ j u, c[j]? = some u → w.cell? (ad.add (i.toNat * 7 + j)) = some u := hc0
  obtain ⟨A4, c4, A5, c5, A6, c6, rfl, l4, g4, l5, g5, l6, g6⟩ := kState_I_open hK
  exact ⟨ad, A4, c4, A5, c5, A6, c6, e, hc 0 _ rfl, by rw [← add_field _ _ 1 (by omega)]; exact hc 1 _ rfl, by rw [← add_field _ _ 2 (by omega)]; exact hc 2 _ rfl, by rw [← add_field _ _ 3 (by omega)]; exact hc 3 _ rfl, by rw [← add_field _ _ 4 (by omega)]; exact hc 4 _ rfl, by rw [← add_field _ _ 5 (by omega)]; exact hc 5 _ rfl, by rw [← add_field _ _ 6 (by omega)]; exact hc 6 _ rfl, l4, g4, l5, g5, l6, g6⟩

set_option maxRecDepth 100000 in
theorem rdState_came (w : World) : Rd Try.prog w 26 kState_L okState := by
  intro H enc fuel cs y h
  obtain ⟨ys, m, _, _, hl, hn, hf⟩ := DataW.trod_struct Try.underlying26 h
  have hl : cs.length = 7 := hl.trans (by kernel_rfl)
  have hn : ys.length = 7 := hn
  match cs, hl, ys, hn with
  | [c0, c1, c2, c3, c4, c5, c6], _, [y0, y1, y2, y3, y4, y5, y6], _ =>
    obtain ⟨x0, k0, o0⟩ := (Rd.int Try.underlying2) enc m [c0] y0 ((congrArg _ (by kernel_rfl)).trans (hf 0 _ rfl))
    obtain ⟨x1, k1, o1⟩ := (Rd.bool Try.underlying4) enc m [c1] y1 ((congrArg _ (by kernel_rfl)).trans (hf 1 _ rfl))
    obtain ⟨x2, k2, o2⟩ := (Rd.int Try.underlying2) enc m [c2] y2 ((congrArg _ (by kernel_rfl)).trans (hf 2 _ rfl))
    obtain ⟨x3, k3, o3⟩ := (Rd.int Try.underlying2) enc m [c3] y3 ((congrArg _ (by kernel_rfl)).trans (hf 3 _ rfl))
    obtain ⟨x4, k4, o4⟩ := (Rd.slice Try.underlying22 (by kernel_rfl) (Rd.slice Try.underlying23 (by kernel_rfl) (rdValue_came w))) enc m [c4] y4 ((congrArg _ (by kernel_rfl)).trans (hf 4 _ rfl))
    obtain ⟨x5, k5, o5⟩ := (Rd.slice Try.underlying23 (by kernel_rfl) (rdValue_came w)) enc m [c5] y5 ((congrArg _ (by kernel_rfl)).trans (hf 5 _ rfl))
    obtain ⟨x6, k6, o6⟩ := (Rd.slice Try.underlying24 (by kernel_rfl) (rdFrame_came w)) enc m [c6] y6 ((congrArg _ (by kernel_rfl)).trans (hf 6 _ rfl))
    exact ⟨⟨x0, x1, x2, x3, x4, x5, x6⟩, ⟨[c0], _, rfl, k0, ⟨[c1], _, rfl, k1, ⟨[c2], _, rfl, k2, ⟨[c3], _, rfl, k3, ⟨[c4], _, rfl, k4, ⟨[c5], _, rfl, k5, k6⟩⟩⟩⟩⟩⟩, ⟨o0, o1, o2, o3, o4, o5, o6⟩⟩

structure MMemory where
  inn : List Int
  out : List Int
  keep : List Int

theorem MMemory_ext {x y : MMemory} (h0 : x.inn = y.inn) (h1 : x.out = y.out) (h2 : x.keep = y.keep) : x = y := by cases x; cases y; simp_all

def zMemory : MMemory := ⟨[], [], []⟩

def okMemory (x : MMemory) : Prop := (fun xs => ∀ x ∈ xs, Wf32 x) x.inn ∧ (fun xs => ∀ x ∈ xs, Wf32 x) x.out ∧ (fun xs => ∀ x ∈ xs, Wf32 x) x.keep

def kMemory_I : Kd MMemory := Kd.iso (apair (aslice 79 (Kd.int .u32)) (apair (aslice 79 (Kd.int .u32)) (aslice 79 (Kd.int .u32)))) (fun x : MMemory => (x.inn, (x.out, x.keep)))

theorem kMemory_I_open {w : World} {x : MMemory} {cs : List Value} (h : kMemory_I.K w x cs) : ∃ A0 c0 A1 c1 A2 c2, cs = [.slice A0 x.inn.length c0, .slice A1 x.out.length c1, .slice A2 x.keep.length c2] ∧ x.inn.length ≤ c0 ∧ Kd.C (Kd.int .u32) w A0 x.inn.length x.inn ∧ x.out.length ≤ c1 ∧ Kd.C (Kd.int .u32) w A1 x.out.length x.out ∧ x.keep.length ≤ c2 ∧ Kd.C (Kd.int .u32) w A2 x.keep.length x.keep := by
  obtain ⟨_, _, rfl, ⟨A0, c0, rfl, l0, g0⟩, ⟨_, _, rfl, ⟨A1, c1, rfl, l1, g1⟩, ⟨A2, c2, rfl, l2, g2⟩⟩⟩ := h
  exact ⟨A0, c0, A1, c1, A2, c2, rfl, l0, g0, l1, g1, l2, g2⟩

theorem kMemory_I_mk (w : World) (x : MMemory) {A0 : Option Addr} {c0 : Nat} (l0 : x.inn.length ≤ c0) (g0 : Kd.C (Kd.int .u32) w A0 x.inn.length x.inn) {A1 : Option Addr} {c1 : Nat} (l1 : x.out.length ≤ c1) (g1 : Kd.C (Kd.int .u32) w A1 x.out.length x.out) {A2 : Option Addr} {c2 : Nat} (l2 : x.keep.length ≤ c2) (g2 : Kd.C (Kd.int .u32) w A2 x.keep.length x.keep) : kMemory_I.K w x [.slice A0 x.inn.length c0, .slice A1 x.out.length c1, .slice A2 x.keep.length c2] := ⟨[_], _, rfl, ⟨A0, c0, rfl, l0, g0⟩, ⟨[_], _, rfl, ⟨A1, c1, rfl, l1, g1⟩, ⟨A2, c2, rfl, l2, g2⟩⟩⟩

theorem kMemory_I_mkM (w : World) (base : Nat) (ok : Nat → Prop) (x : MMemory) (p0 : Nat → Prop) (p1 : Nat → Prop) {v0 : Value} (g0 : Kd.S (Kd.int .u32) 79 w base (fun k => ok k ∧ p0 k) v0 x.inn) {v1 : Value} (g1 : Kd.S (Kd.int .u32) 79 w base (fun k => (ok k ∧ ¬ p0 k) ∧ p1 k) v1 x.out) {v2 : Value} (g2 : Kd.S (Kd.int .u32) 79 w base (fun k => (ok k ∧ ¬ p0 k) ∧ ¬ p1 k) v2 x.keep) : kMemory_I.M w base ok x [v0, v1, v2] := ⟨p0, [_], _, rfl, ⟨v0, rfl, g0⟩, ⟨p1, [_], _, rfl, ⟨v1, rfl, g1⟩, ⟨v2, rfl, g2⟩⟩⟩

theorem kMemory_I_openM {w : World} {base : Nat} {ok : Nat → Prop} {x : MMemory} {cs : List Value} (h : kMemory_I.M w base ok x cs) : ∃ (p0 : Nat → Prop) (p1 : Nat → Prop) (v0 v1 v2 : Value), cs = [v0, v1, v2] ∧ Kd.S (Kd.int .u32) 79 w base (fun k => ok k ∧ p0 k) v0 x.inn ∧ Kd.S (Kd.int .u32) 79 w base (fun k => (ok k ∧ ¬ p0 k) ∧ p1 k) v1 x.out ∧ Kd.S (Kd.int .u32) 79 w base (fun k => (ok k ∧ ¬ p0 k) ∧ ¬ p1 k) v2 x.keep := by
  obtain ⟨p0, _, _, rfl, ⟨v0, rfl, g0⟩, ⟨p1, _, _, rfl, ⟨v1, rfl, g1⟩, ⟨v2, rfl, g2⟩⟩⟩ := h
  exact ⟨p0, p1, v0, v1, v2, rfl, g0, g1, g2⟩

def rdMemory (xs : List MMemory) (i : Int) : MMemory := xs.getD i.toNat zMemory

theorem atMemory_I {w : World} {A : Option Addr} {n : Nat} {xs : List MMemory} (h : Kd.C kMemory_I w A n xs) (i : Int) (h0 : 0 ≤ i) (h1 : i < n) : ∃ ad A0 c0 A1 c1 A2 c2, A = some ad ∧ w.cell? (ad.add (i.toNat * 3)) = some (.slice A0 (rdMemory xs i).inn.length c0) ∧ w.cell? ⟨(ad.add (i.toNat * 3)).block, (ad.add (i.toNat * 3)).off + 1, none⟩ = some (.slice A1 (rdMemory xs i).out.length c1) ∧ w.cell? ⟨(ad.add (i.toNat * 3)).block, (ad.add (i.toNat * 3)).off + 2, none⟩ = some (.slice A2 (rdMemory xs i).keep.length c2) ∧ (rdMemory xs i).inn.length ≤ c0 ∧ Kd.C (Kd.int .u32) w A0 (rdMemory xs i).inn.length (rdMemory xs i).inn ∧ (rdMemory xs i).out.length ≤ c1 ∧ Kd.C (Kd.int .u32) w A1 (rdMemory xs i).out.length (rdMemory xs i).out ∧ (rdMemory xs i).keep.length ≤ c2 ∧ Kd.C (Kd.int .u32) w A2 (rdMemory xs i).keep.length (rdMemory xs i).keep := by
  obtain ⟨ad, c, e, _, hK, hc0⟩ := Kd.C_get h zMemory i h0 h1
  have hc : ∀ j u, c[j]? = some u → w.cell? (ad.add (i.toNat * 3 + j)) = some u := hc0
  obtain ⟨A0, c0, A1, c1, A2, c2, rfl, l0, g0, l1, g1, l2, g2⟩ := kMemory_I_open hK
  exact ⟨ad, A0, c0, A1, c1, A2, c2, e, hc 0 _ rfl, by rw [← add_field _ _ 1 (by omega)]; exact hc 1 _ rfl, by rw [← add_field _ _ 2 (by omega)]; exact hc 2 _ rfl, l0, g0, l1, g1, l2, g2⟩

end Go.Proofs.Ytlnlbncinjiinab.X
