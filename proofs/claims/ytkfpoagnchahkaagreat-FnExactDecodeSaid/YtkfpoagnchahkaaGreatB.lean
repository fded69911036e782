/- Of this session: over the abstract machine. -/
import Derived.Test.YtkfpoagnchahkaaGreatProg
import Derived.Test.YtkfpoagnchahkaaGreatA
import Derived.ChangeArms
import Derived.Laws.Entries
namespace Go.Proofs.YtkfpoagnchahkaaGreat.A
open Go Go.RowKit
set_option linter.unusedVariables false
set_option linter.unusedSimpArgs false
set_option maxRecDepth 100000
set_option maxHeartbeats 1000000
/-! ### reading what came in -/
def ctx0 (W : World) : Ctx := ⟨W.heap.size, W, fun b => b < W.heap.size, 0, fun _ => none, fun _ => 0, fun _ => 0, fun _ => 0⟩
theorem rh0 (W : World) (hl : LaidW W.heap.size W) : RH (ctx0 W) [] W := ⟨hl, Below.refl _ _, Nat.le_refl _, fun _ h => h, fun _ h => h, fun _ _ h => (by cases h), fun _ _ _ _ h => (by simp at h), fun _ _ _ _ h => (by cases h)⟩
def RVL (c : Ctx) (w : World) (xs0 : List AVal) (cs : List Value) : Prop := cs.length = xs0.length ∧ ∀ (j : Nat) (a : AVal), xs0[j]? = some a → ∃ v, cs[j]? = some v ∧ RV c w a v
theorem RVL.one {c : Ctx} {w : World} {a : AVal} {v : Value} (h : RV c w a v) : RVL c w [a] [v] := ⟨rfl, fun j x hx => by
  cases j with
  | zero => cases hx; exact ⟨v, rfl, h⟩
  | succ j => simp at hx⟩
theorem RVL.app {c : Ctx} {w : World} {xs0 bs : List AVal} {cs ds : List Value} (h : RVL c w xs0 cs) (k : RVL c w bs ds) : RVL c w (xs0 ++ bs) (cs ++ ds) := by
  refine ⟨by rw [List.length_append, List.length_append, h.1, k.1], fun j a ha => ?_⟩
  rcases Nat.lt_or_ge j xs0.length with hj | hj
  · rw [List.getElem?_append_left hj] at ha
    rw [List.getElem?_append_left (by rw [h.1]; exact hj)]
    exact h.2 j a ha
  · rw [List.getElem?_append_right hj] at ha
    rw [List.getElem?_append_right (by rw [h.1]; exact hj), h.1]
    exact k.2 _ a ha
theorem RVL.nth {c : Ctx} {w : World} {xs0 : List AVal} {cs : List Value} (h : RVL c w xs0 cs) {j : Nat} {a : AVal} (ha : xs0[j]? = some a) : RV c w a (cs.getD j undef) := by
  obtain ⟨v, h1, h2⟩ := h.2 j a ha
  rw [List.getD_eq_getElem?_getD, h1]; exact h2
def RdN {α : Type} (N : Nat) (P : Program) (w : World) (t : TypeId) (e : α → AVal) (ok : α → Prop) : Prop :=
  ∀ {H : Type} (enc : TypeId × Value → H) (fuel : Nat) (cs : List Value) (y : DataW H × List MemPlace), fuel ≤ N → DataW.trod enc P w 0 (fun _ => true) true fuel t cs = some y → ∃ x, RVL (ctx0 w) w (e x).flat cs ∧ ok x
theorem RdN.int {N : Nat} {P : Program} {w : World} {t : TypeId} (q : IntKind) (ht : P.underlying t = some (.int q)) : RdN N P w t (fun n => .v (.int q n)) (fun n => (Lit.int q n).wf = true) := by
  intro H enc fuel cs y _ h
  obtain ⟨n, rfl, _, hw⟩ := DataW.trod_int ht h
  exact ⟨n, RVL.one (.v _), hw⟩
theorem RdN.bool {N : Nat} {P : Program} {w : World} {t : TypeId} (ht : P.underlying t = some .bool) : RdN N P w t (fun b => .v (.bool b)) (fun _ => True) := by
  intro H enc fuel cs y _ h
  obtain ⟨n, rfl, _⟩ := DataW.trod_bool ht h
  exact ⟨n, RVL.one (.v _), trivial⟩
theorem RdN.str {N : Nat} {P : Program} {w : World} {t : TypeId} (ht : P.underlying t = some .string) : RdN N P w t (fun s => .v (.string s)) (fun s => s.size ≤ maxLen) := by
  intro H enc fuel cs y _ h
  obtain ⟨n, rfl, _, hw⟩ := DataW.trod_string ht h
  exact ⟨n, RVL.one (.v _), hw⟩
theorem cells_get {w : World} {a : Addr} {n : Nat} {cs : List Value} (h : w.cells? 0 a n = some cs) : cs.length = n ∧ ∀ i u, cs[i]? = some u → w.cell? (a.add i) = some u := by
  have hh : (List.range n).mapM (fun i => w.cell? (a.add i)) = some cs := by
    unfold World.cells? at h
    rwa [if_pos (Nat.zero_le _)] at h
  have hl : cs.length = n := by simpa using mapM_some_length hh
  refine ⟨hl, fun i u hu => ?_⟩
  have hi : i < n := by rw [← hl]; exact (List.getElem?_eq_some_iff.1 hu).1
  have := mapM_some_get hh i i (by simp [hi])
  rw [this, hu]
theorem choose_list {α : Type} (R : Nat → α → Prop) : ∀ n : Nat, (∀ i, i < n → ∃ x, R i x) → ∃ xs : List α, xs.length = n ∧ ∀ i x, xs[i]? = some x → R i x
  | 0, _ => ⟨[], rfl, fun i x h => by simp at h⟩
  | n + 1, h => by
    obtain ⟨xs, hl, hx⟩ := choose_list R n (fun i hi => h i (by omega))
    obtain ⟨x, hr⟩ := h n (by omega)
    refine ⟨xs ++ [x], by simp [hl], fun i y hy => ?_⟩
    rcases Nat.lt_or_ge i xs.length with h1 | h1
    · rw [List.getElem?_append_left h1] at hy; exact hx i y hy
    · have h2 := (List.getElem?_eq_some_iff.1 hy).1
      simp at h2
      obtain rfl : i = xs.length := by omega
      rw [List.getElem?_append_right (Nat.le_refl _)] at hy
      simp at hy
      rw [← hy, hl]; exact hr
theorem RdN.slice {α : Type} {N s : Nat} {P : Program} {w : World} {t e : TypeId} {f : α → AVal} {ok : α → Prop} (ht : P.underlying t = some (.slice e)) (hc : P.cellsOf e = s) (hs : 0 < s) (hfl : ∀ x, (f x).flat.length = s) (hk : RdN (N - 1) P w e f ok) :
    RdN N P w t (fun xs : List α => .sl (xs.map f)) (fun xs => xs.length ≤ maxLen ∧ ∀ x ∈ xs, ok x) := by
  intro H enc fuel cs y hN h
  rcases DataW.trod_slice ht h with ⟨rfl, _⟩ | ⟨a, len, cap, elems, rest, n, rfl, rfl, rfl, _, hl, hm, hel, hi, _⟩
  · exact ⟨[], RVL.one (.nil _ _ _ rfl), by simp⟩
  · have hr : ∀ i, i < len → ∃ x, (∃ c : List Value, RVL (ctx0 w) w (f x).flat c ∧ ∀ j u, c[j]? = some u → w.cell? (a.add (i * s + j)) = some u) ∧ ok x := by
      intro i hlt
      have h1 := hi i hlt
      have h2 : ∃ z, elems[i]? = some z := ⟨_, List.getElem?_eq_getElem (by omega)⟩
      obtain ⟨z, hz⟩ := h2
      rw [hz] at h1
      obtain ⟨c, hc1, hc2⟩ := Option.bind_eq_some_iff.1 h1
      obtain ⟨x, hx, hok⟩ := hk enc n c z (by omega) hc2
      rw [hc] at hc1
      obtain ⟨g1, g2⟩ := cells_get hc1
      refine ⟨x, ⟨c, hx, fun j u hu => ?_⟩, hok⟩
      have := g2 j u hu
      rw [Addr.add_add] at this
      exact this
    obtain ⟨xs, hxl, hx⟩ := choose_list _ len hr
    refine ⟨xs, ?_, ⟨by omega, fun x hxm => ?_⟩⟩
    · rcases Nat.eq_zero_or_pos len with h0 | h0
      · subst h0
        obtain rfl : xs = [] := List.eq_nil_of_length_eq_zero hxl
        exact RVL.one (.nil _ _ _ rfl)
      · have hcell : ∀ (i : Nat) (x : AVal) (j : Nat) (b : AVal), (xs.map f)[i]? = some x → x.flat[j]? = some b → ∃ v, w.cell? (a.add (i * s + j)) = some v ∧ RV (ctx0 w) w b v := by
          intro i x j b h1 h2
          rw [List.getElem?_map, Option.map_eq_some_iff] at h1
          obtain ⟨y, hy, rfl⟩ := h1
          obtain ⟨⟨c, c1, c2⟩, _⟩ := hx i y hy
          obtain ⟨v, v1, v2⟩ := c1.2 j b h2
          exact ⟨v, c2 j v v1, v2⟩
        obtain ⟨y0, hy0⟩ : ∃ y, xs[0]? = some y := ⟨_, List.getElem?_eq_getElem (by omega)⟩
        obtain ⟨b0, hb0⟩ : ∃ b, (f y0).flat[0]? = some b := ⟨_, List.getElem?_eq_getElem (by rw [hfl]; exact hs)⟩
        obtain ⟨v0, hv0, _⟩ := hcell 0 (f y0) 0 b0 (by rw [List.getElem?_map, hy0]; rfl) hb0
        have hv0 : w.cell? a = some v0 := by have := hv0; rwa [show 0 * s + 0 = 0 by omega, Addr.add_zero'] at this
        have hsp : a.spot = none ∧ a.block < w.heap.size := by
          unfold World.cell? at hv0
          split at hv0
          · rename_i hbk
            split at hv0
            · cases hv0
            · rename_i hq
              refine ⟨?_, (Array.getElem?_eq_some_iff.1 hbk).1⟩
              cases hs : a.spot with
              | none => rfl
              | some q => exact absurd (by show (a.spot).isSome = true; rw [hs]; rfl) hq
          · cases hv0
        obtain ⟨bk, off, sp⟩ := a
        obtain rfl : sp = none := hsp.1
        obtain ⟨g, hg⟩ : ∃ g : Nat → Nat → Value, ∀ i j, g i j = (w.cell? (Addr.add ⟨bk, off, none⟩ (i * s + j))).getD undef := ⟨_, fun _ _ => rfl⟩
        refine RVL.one (.sl _ bk off len cap s g hsp.2 (by simp [hxl]) hl (fun i x hix => ?_) (fun i x j b h1 h2 => ?_) (fun i x j b h1 h2 => ?_))
        · rw [List.getElem?_map, Option.map_eq_some_iff] at hix
          obtain ⟨y, _, rfl⟩ := hix
          exact hfl y
        · obtain ⟨v, v1, v2⟩ := hcell i x j b h1 h2
          rw [hg, v1, ← Addr.add_lit]; exact v1
        · obtain ⟨v, v1, v2⟩ := hcell i x j b h1 h2
          rw [hg, v1]; exact v2
    · obtain ⟨i, hi1, rfl⟩ := List.getElem_of_mem hxm
      exact (hx i _ (List.getElem?_eq_getElem hi1)).2
/-- a whole argument -/
theorem rv_of_agg {c : Ctx} {w : World} {xs0 : List AVal} {vs : Array Value} (h : RVL c w xs0 vs.toList) : RV c w (.agg xs0) (.agg vs) :=
  .agg xs0 vs (by simpa using h.1) (fun i a ha => by
    have := h.nth ha
    rw [List.getD_eq_getElem?_getD] at this
    rw [Array.getD_eq_getD_getElem?]; simpa using this)
theorem rv_of_one {c : Ctx} {w : World} {a : AVal} {v : Value} (h : RVL c w [a] [v]) : RV c w a v := by
  have := h.nth (j := 0) (a := a) rfl
  exact this
/-! ### whole values -/
@[simp] theorem flat_fn (f : Nat) (m l : List AVal) : (AVal.fn f m l).flat = [.fn f m l] := rfl
@[simp] theorem isAgg_fn (f : Nat) (m l : List AVal) : (AVal.fn f m l).isAgg = false := rfl
@[simp] theorem c1_fn (f : Nat) (m l : List AVal) : (AVal.fn f m l).c1 = true := rfl
@[simp] theorem flat_ifc (t : Nat) (x : AVal) : (AVal.ifc t x).flat = [.ifc t x] := rfl
@[simp] theorem isAgg_ifc (t : Nat) (x : AVal) : (AVal.ifc t x).isAgg = false := rfl
@[simp] theorem c1_ifc (t : Nat) (x : AVal) : (AVal.ifc t x).c1 = true := rfl
@[simp] theorem c1_nilF : (AVal.v .nilFunc).c1 = true := rfl
@[simp] theorem c1_nilI : (AVal.v .nilIface).c1 = true := rfl
@[simp] theorem c1_nilp (a : Option Addr) : (AVal.v (.pointer a)).c1 = true := rfl
@[simp] theorem whole_agg (cs : List AVal) : (AVal.agg cs).whole = cs.all AVal.c1 := rfl
@[simp] theorem whole_v (x : Value) : (AVal.v x).whole = (AVal.v x).c1 := by show ([AVal.v x].all AVal.c1) = _; simp
@[simp] theorem whole_sl (l : List AVal) : (AVal.sl l).whole = true := rfl
@[simp] theorem whole_fp (x : AVal) : (AVal.fp x).whole = true := rfl
@[simp] theorem whole_rf (r g o n : Nat) : (AVal.rf r g o n).whole = true := rfl
@[simp] theorem whole_pt (r g i j : Nat) : (AVal.pt r g i j).whole = true := rfl
/-- a row that is filled from the front -/
theorem fill_set {α : Type} (f : α → AVal) (l : List α) {i : Nat} {x : α} (h : l[i]? = some x) (z : AVal) : ((l.map f).take i ++ List.replicate (l.length - i) z).set i (f x) = (l.map f).take (i + 1) ++ List.replicate (l.length - (i + 1)) z := by
  obtain ⟨hi, _⟩ := List.getElem?_eq_some_iff.1 h
  have hl : ((l.map f).take i).length = i := by simp; omega
  rw [List.take_add_one, List.getElem?_map, h]
  rw [List.set_append_right _ _ (by omega), hl, Nat.sub_self]
  obtain ⟨k, hk⟩ : ∃ k, l.length - i = k + 1 := ⟨l.length - i - 1, by omega⟩
  rw [hk, show l.length - (i + 1) = k by omega]
  simp [List.replicate_succ]
theorem fill_len {α : Type} (f : α → AVal) (l : List α) {i : Nat} (h : i ≤ l.length) (z : AVal) : ((l.map f).take i ++ List.replicate (l.length - i) z).length = l.length := by simp; omega
theorem fill_at {α : Type} (f : α → AVal) (l : List α) {i : Nat} (h : i < l.length) (z : AVal) : ((l.map f).take i ++ List.replicate (l.length - i) z)[i]? = some z := by
  have hl : ((l.map f).take i).length = i := by simp; omega
  rw [List.getElem?_append_right (by omega), hl, Nat.sub_self]
  obtain ⟨k, hk⟩ : ∃ k, l.length - i = k + 1 := ⟨l.length - i - 1, by omega⟩
  rw [hk]; rfl
/-! ### a row that the caller knows -/
theorem set_same {h : AHeap} {r : Nat} {X : AObj} (hr : h[r]? = some X) : h.set r X = h := by
  obtain ⟨h1, h2⟩ := List.getElem?_eq_some_iff.1 hr
  subst h2
  exact List.set_getElem_self h1
theorem rowFacts {h : AHeap} {r : Nat} (hr : r < h.length) : (∀ (X : AObj) (l : AHeap), (h.set r X ++ l)[r]? = some X) ∧ (∀ (X Y : AObj) (l : AHeap), (h.set r X ++ l).set r Y = h.set r Y ++ l) ∧ (∀ X : AObj, (h.set r X)[r]? = some X) ∧ (∀ X Y : AObj, (h.set r X).set r Y = h.set r Y) ∧
    (∀ l : AHeap, (h ++ l)[r]? = h[r]?) ∧ (∀ (X : AObj) (l : AHeap), (h ++ l).set r X = h.set r X ++ l) :=
  ⟨fun X l => by rw [List.getElem?_append_left (by simpa using hr)]; simp [hr], fun X Y l => by rw [List.set_append_left _ _ (by simpa using hr)]; simp, fun X => by simp [hr], fun X Y => by simp,
   fun l => List.getElem?_append_left hr, fun X l => List.set_append_left _ _ hr⟩
theorem rowFacts2 {h : AHeap} {r q : Nat} (hr : r < h.length) (hq : q < h.length) (hne : r ≠ q) : (∀ X Y : AObj, ((h.set r X).set q Y)[r]? = some X) ∧ (∀ X Y : AObj, ((h.set r X).set q Y)[q]? = some Y) ∧ (∀ X Y Z : AObj, ((h.set r X).set q Y).set r Z = (h.set r Z).set q Y) ∧ (∀ X Y Z : AObj, ((h.set r X).set q Y).set q Z = (h.set r X).set q Z) :=
  ⟨fun X Y => by rw [List.getElem?_set_ne (Ne.symm hne)]; simp [hr], fun X Y => by simp [hq], fun X Y Z => by rw [List.set_comm _ _ (Ne.symm hne)]; simp, fun X Y Z => by simp⟩
theorem bl_dec {p : Prop} [Decidable p] {b : Bool} {h : AHeap} {Q : KA} (hq : Q (bl (decide p)) h) (hb : b = true ↔ p) : Q (bl b) h := by
  have : b = decide p := by rw [Bool.eq_iff_iff, hb]; simp
  rw [this]; exact hq
/-! ### the row -/
theorem wide_agg {P : Program} {W : World} {base : Nat} {t : TypeId} {v : Value} {fs : Array Field} (ht : P.underlying t = some (.struct fs)) (h : Value.okWide P W .any base t v) : ∃ cs, v = .agg cs := by
  unfold Value.okWide at h
  rw [ht] at h
  obtain ⟨cs, e, _⟩ := h
  exact ⟨cs, e⟩
theorem wide_slice {P : Program} {W : World} {base : Nat} {t e : TypeId} {v : Value} (ht : P.underlying t = some (.slice e)) (h : Value.okWide P W .any base t v) : v.cells.toList = [v] := by
  unfold Value.okWide at h
  rw [ht] at h
  unfold Cell.okWide at h
  rw [ht] at h
  unfold Cell.ok at h
  rw [ht] at h
  cases v <;> first | rfl | exact h.elim
theorem rvs1 {c : Ctx} {w : World} {a : AVal} {v : Value} (h : RV c w a v) : RVs c w [a] #[v] := ⟨rfl, fun i x hx => by
  match i, hx with
  | 0, hx => cases hx; exact h
  | _ + 1, hx => simp at hx⟩
theorem rvs2 {c : Ctx} {w : World} {a b : AVal} {v u : Value} (h : RV c w a v) (k : RV c w b u) : RVs c w [a, b] #[v, u] := ⟨rfl, fun i x hx => by
  match i, hx with
  | 0, hx => cases hx; exact h
  | 1, hx => cases hx; exact k
  | _ + 2, hx => simp at hx⟩
theorem rvs3 {c : Ctx} {w : World} {a b d : AVal} {v u t : Value} (h : RV c w a v) (k : RV c w b u) (l : RV c w d t) : RVs c w [a, b, d] #[v, u, t] := ⟨rfl, fun i x hx => by
  match i, hx with
  | 0, hx => cases hx; exact h
  | 1, hx => cases hx; exact k
  | 2, hx => cases hx; exact l
  | _ + 3, hx => simp at hx⟩
theorem row_calls {P : Program} {f : FuncId} {W : World} {xs : List AVal} {vs : Array Value} (hl : LaidW W.heap.size W) (hv : RVs (ctx0 W) W xs vs) (hm : @clM P f xs [] ⟨fun x _ => x = tt⟩) : Calls P f vs W (fun e W' => e = .returned (.bool true) ∧ Below W.heap.size W W') := by
  refine (callM_old (cl_out hm) _ W vs (rh0 W hl) hv).mono fun e W' ⟨v, c', x, h', he, hE, hH, hx, hk⟩ => ?_
  have hk : x = tt := hk
  subst hk
  cases hx
  have hb := hH.below
  rw [hE.base, hE.w0] at hb
  exact ⟨he, hb⟩
/-! ### bits and cuts -/
def andI (k : IntKind) (a b : Int) : Int := k.wrap (BitVec.ofInt k.bits a &&& BitVec.ofInt k.bits b).toNat
def orI (k : IntKind) (a b : Int) : Int := k.wrap (BitVec.ofInt k.bits a ||| BitVec.ofInt k.bits b).toNat
def xorI (k : IntKind) (a b : Int) : Int := k.wrap (BitVec.ofInt k.bits a ^^^ BitVec.ofInt k.bits b).toNat
def andnI (k : IntKind) (a b : Int) : Int := k.wrap (BitVec.ofInt k.bits a &&& ~~~BitVec.ofInt k.bits b).toNat
@[simp] theorem binI_and (k : IntKind) (a b : Int) : binI .and k a b = .int k (andI k a b) := rfl
@[simp] theorem binI_or (k : IntKind) (a b : Int) : binI .or k a b = .int k (orI k a b) := rfl
@[simp] theorem binI_xor (k : IntKind) (a b : Int) : binI .xor k a b = .int k (xorI k a b) := rfl
@[simp] theorem binI_andNot (k : IntKind) (a b : Int) : binI .andNot k a b = .int k (andnI k a b) := rfl
@[simp] theorem binI_shl (k : IntKind) (a b : Int) : binI .shl k a b = .int k (k.wrap (a * 2 ^ (min b.toNat k.bits))) := rfl
@[simp] theorem binI_shr (k : IntKind) (a b : Int) : binI .shr k a b = .int k (a.fdiv (2 ^ (min b.toNat k.bits))) := rfl
/-! ### rows of values, told by lists -/
abbrev encL {α : Type} (e : α → AVal) (xs : List α) : AVal := .sl (xs.map e)
def okL {α : Type} (ok : α → Prop) (xs : List α) : Prop := xs.length ≤ maxLen ∧ ∀ x ∈ xs, ok x
def wfI (k : IntKind) (n : Int) : Prop := (Lit.int k n).wf = true
def szL {α : Type} (f : α → Nat) (xs : List α) : Nat := xs.length + (xs.map f).sum
def szP {α : Type} (f : α → Nat) (xs : List α) (i : Nat) : Nat := ((xs.take i).map f).sum
theorem szP_zero {α : Type} (f : α → Nat) (xs : List α) : szP f xs 0 = 0 := rfl
theorem szP_succ {α : Type} {f : α → Nat} {xs : List α} {i : Nat} {x : α} (h : xs[i]? = some x) : szP f xs (i + 1) = szP f xs i + f x := by
  unfold szP; rw [List.take_add_one, h]; simp
theorem szP_all {α : Type} (f : α → Nat) (xs : List α) : xs.length + szP f xs xs.length = szL f xs := by
  unfold szP szL; rw [List.take_of_length_le (Nat.le_refl _)]
theorem szP_le {α : Type} {f : α → Nat} {xs : List α} {i : Nat} {x : α} (h : xs[i]? = some x) : xs.length + (szP f xs i + f x) ≤ szL f xs := by
  rw [← szP_succ h]
  unfold szP szL
  conv => rhs; rw [← List.take_append_drop (i + 1) xs]
  rw [List.map_append, List.sum_append, List.length_append, List.length_take, List.length_drop]
  have := (List.getElem?_eq_some_iff.1 h).1
  omega
theorem szL_len {α : Type} (f : α → Nat) (xs : List α) : xs.length ≤ szL f xs := Nat.le_add_right _ _
theorem szL_mem {α : Type} {f : α → Nat} {xs : List α} {x : α} (h : x ∈ xs) : f x ≤ szL f xs := by
  obtain ⟨i, hi, rfl⟩ := List.getElem_of_mem h
  have := szP_le (f := f) (List.getElem?_eq_getElem hi)
  omega
theorem szL_get {α : Type} {f : α → Nat} {xs : List α} {i : Nat} {x : α} (h : xs[i]? = some x) : f x ≤ szL f xs := szL_mem (List.mem_of_getElem? h)
theorem szL_zero {α : Type} (xs : List α) : szL (fun _ => 0) xs = xs.length := by
  unfold szL
  have : (xs.map (fun _ => 0)).sum = 0 := by induction xs with
    | nil => rfl
    | cons x l ih => rw [List.map_cons, List.sum_cons, ih]
  rw [this]; rfl
theorem okL_get {α : Type} {ok : α → Prop} {xs : List α} (h : okL ok xs) {i : Nat} {x : α} (hx : xs[i]? = some x) : ok x := h.2 x (List.mem_of_getElem? hx)
end Go.Proofs.YtkfpoagnchahkaaGreat.A
