/- Of this session: an abstract machine over the model's code, and its soundness. -/
import Derived.Below
import Derived.Deep.AppendSrc
import Derived.Deep.Upon
import Derived.Deep.MidRow
import Derived.Laws.MakeOwn
import Derived.WalkKit
import Derived.Laws.Tables
import Derived.Great.BuildSlice
import Derived.Deep.LoopGhost
import Derived.KernelRfl
namespace Go.Proofs.Ytlnlbncinjiinaa.A
open Go Go.RowKit
set_option linter.unusedVariables false
set_option linter.unusedSimpArgs false
/-- values of the abstract machine: 'sl', 'fp': a slice, a pointer into memory that is never written again, told by what it holds; 'rf', 'pt': a slice, a pointer into row r of the abstract heap (of stamp g) -/
inductive AVal where
  | v (x : Value)
  | agg (cs : List AVal)
  | sl (xs : List AVal)
  | fp (x : AVal)
  | rf (r g off len : Nat)
  | pt (r g i j : Nat)
  | tup (xs : List AVal)
  | ifc (t : Nat) (x : AVal)
  | fn (f : Nat) (caps : List AVal)
  | dead
instance : Inhabited AVal := ⟨.dead⟩
/-- what is still to be run, kept apart so that simp does not go into it -/
class Bd (α : Type) where
  f : α
def AVal.flat : AVal → List AVal
  | .agg cs => cs
  | x => [x]
def AVal.isAgg : AVal → Bool
  | .agg _ => true
  | _ => false
/-- surely the value of one cell -/
def AVal.c1 : AVal → Bool
  | .v x => x.oneCell'
  | .sl _ | .fp _ | .rf .. | .pt .. | .ifc .. | .fn .. => true
  | _ => false
inductive AObj where
  | row (g s : Nat) (xs : List AVal)
  | dead
abbrev AHeap := List AObj
structure Ctx where
  base : Nat
  w0 : World
  F : Nat → Prop
  ctr : Nat
  gen : Nat → Option Nat
  blk : Nat → Nat
  sz : Nat → Nat
  cap : Nat → Nat
inductive RV (c : Ctx) (w : World) : AVal → Value → Prop
  | v (x : Value) : RV c w (.v x) x
  | agg (cs : List AVal) (vs : Array Value) (hl : vs.size = cs.length) (h : ∀ i a, cs[i]? = some a → RV c w a (vs.getD i undef)) : RV c w (.agg cs) (.agg vs)
  | nil (xs : List AVal) (a : Option Addr) (cap : Nat) (h : xs = []) : RV c w (.sl xs) (.slice a 0 cap)
  | sl (xs : List AVal) (b off len cap s : Nat) (f : Nat → Nat → Value) (hF : c.F b) (hlen : len = xs.length) (hcap : len ≤ cap) (hs : ∀ (i : Nat) (x : AVal), xs[i]? = some x → x.flat.length = s)
      (hc : ∀ (i : Nat) (x : AVal) (j : Nat) (a : AVal), xs[i]? = some x → x.flat[j]? = some a → w.cell? ⟨b, off + (i * s + j), none⟩ = some (f i j))
      (hr : ∀ (i : Nat) (x : AVal) (j : Nat) (a : AVal), xs[i]? = some x → x.flat[j]? = some a → RV c w a (f i j)) : RV c w (.sl xs) (.slice (some ⟨b, off, none⟩) len cap)
  | fp (x : AVal) (b off : Nat) (f : Nat → Value) (hF : c.F b) (hc : ∀ j a, x.flat[j]? = some a → w.cell? ⟨b, off + j, none⟩ = some (f j))
      (hr : ∀ j a, x.flat[j]? = some a → RV c w a (f j)) : RV c w (.fp x) (.pointer (some ⟨b, off, none⟩))
  | rf (r g off len : Nat) (a : Addr) (cap : Nat) (hg : g < c.ctr) (h : c.gen r = some g → (cap = 0 ∨ a = ⟨c.blk r, off * c.sz r, none⟩) ∧ len ≤ cap ∧ cap ≤ maxLen ∧ (off + cap) * c.sz r ≤ c.cap r) : RV c w (.rf r g off len) (.slice (some a) len cap)
  | pt (r g i j : Nat) (a : Addr) (hg : g < c.ctr) (h : c.gen r = some g → a = ⟨c.blk r, i * c.sz r + j, none⟩) : RV c w (.pt r g i j) (.pointer (some a))
  | tup (xs : List AVal) (vs : Array Value) (hl : vs.size = xs.length) (h : ∀ i a, xs[i]? = some a → RV c w a (vs.getD i undef)) : RV c w (.tup xs) (.tuple vs)
  | ifc (t : Nat) (x : AVal) (v : Value) (h : RV c w x v) : RV c w (.ifc t x) (.iface t v)
  | fn (f : Nat) (caps : List AVal) (vs : Array Value) (hl : vs.size = caps.length) (h : ∀ i a, caps[i]? = some a → RV c w a (vs.getD i undef)) : RV c w (.fn f caps) (.func (.func f) #[] vs)
  | dead (v : Value) : RV c w .dead v
structure Ext (c : Ctx) (w : World) (c' : Ctx) (w' : World) : Prop where
  base : c'.base = c.base
  w0 : c'.w0 = c.w0
  F : ∀ b, c.F b → c'.F b
  ctr : c.ctr ≤ c'.ctr
  gen : ∀ r g, g < c.ctr → c'.gen r = some g → c.gen r = some g ∧ c'.blk r = c.blk r ∧ c'.sz r = c.sz r ∧ c'.cap r = c.cap r
  cells : ∀ b, c.F b → ∀ o, w'.cell? ⟨b, o, none⟩ = w.cell? ⟨b, o, none⟩
theorem Ext.refl (c : Ctx) (w : World) : Ext c w c w := ⟨rfl, rfl, fun _ h => h, Nat.le_refl _, fun _ _ _ h => ⟨h, rfl, rfl, rfl⟩, fun _ _ _ => rfl⟩
theorem Ext.trans {c c' c'' : Ctx} {w w' w'' : World} (h : Ext c w c' w') (k : Ext c' w' c'' w'') : Ext c w c'' w'' :=
  ⟨k.base.trans h.base, k.w0.trans h.w0, fun b hb => k.F b (h.F b hb), Nat.le_trans h.ctr k.ctr,
   fun r g hg hh => by
    obtain ⟨h1, h2, h3, h4⟩ := k.gen r g (Nat.lt_of_lt_of_le hg h.ctr) hh
    obtain ⟨k1, k2, k3, k4⟩ := h.gen r g hg h1
    exact ⟨k1, h2.trans k2, h3.trans k3, h4.trans k4⟩,
   fun b hb o => (k.cells b (h.F b hb) o).trans (h.cells b hb o)⟩
theorem RV.mono {c c' : Ctx} {w w' : World} (e : Ext c w c' w') {x : AVal} {v : Value} (h : RV c w x v) : RV c' w' x v := by
  induction h with
  | v x => exact .v x
  | agg cs vs hl _ ih => exact .agg cs vs hl ih
  | nil xs a cap h => exact .nil xs a cap h
  | sl xs b off len cap s f hF hlen hcap hs hc _ ih => exact .sl xs b off len cap s f (e.F _ hF) hlen hcap hs (fun i x j a h1 h2 => (e.cells _ hF _).trans (hc i x j a h1 h2)) ih
  | fp x b off f hF hc _ ih => exact .fp x b off f (e.F _ hF) (fun j a h2 => (e.cells _ hF _).trans (hc j a h2)) ih
  | rf r g off len a cap hg h =>
    refine .rf r g off len a cap (Nat.lt_of_lt_of_le hg e.ctr) (fun hh => ?_)
    obtain ⟨k1, k2, k3, k4⟩ := e.gen r g hg hh
    rw [k2, k3, k4]; exact h k1
  | pt r g i j a hg h =>
    refine .pt r g i j a (Nat.lt_of_lt_of_le hg e.ctr) (fun hh => ?_)
    obtain ⟨k1, k2, k3, k4⟩ := e.gen r g hg hh
    rw [k2, k3]; exact h k1
  | tup xs vs hl _ ih => exact .tup xs vs hl ih
  | ifc t x v _ ih => exact .ifc t x v ih
  | fn f caps vs hl _ ih => exact .fn f caps vs hl ih
  | dead v => exact .dead v
/-- a row lies in a block of its own -/
structure RowOK (c : Ctx) (w : World) (b cap s : Nat) (xs : List AVal) : Prop where
  lt : b < w.heap.size
  there : ∀ o, o < cap → (w.cell? ⟨b, o, none⟩).isSome = true ∧ w.frozen? ⟨b, o, none⟩ = false
  fit : xs.length * s ≤ cap
  len : ∀ (i : Nat) (x : AVal), xs[i]? = some x → x.flat.length = s
  val : ∀ (i : Nat) (x : AVal) (j : Nat) (a : AVal), xs[i]? = some x → x.flat[j]? = some a → ∃ v, w.cell? ⟨b, i * s + j, none⟩ = some v ∧ RV c w a v
structure RH (c : Ctx) (h : AHeap) (w : World) : Prop where
  below : Below c.base c.w0 w
  base : c.base ≤ w.heap.size
  Fb : ∀ b, b < c.base → c.F b
  Fs : ∀ b, c.F b → b < w.heap.size
  live : ∀ r g, c.gen r = some g → g < c.ctr ∧ ∃ xs, h[r]? = some (.row g (c.sz r) xs)
  row : ∀ r g s xs, h[r]? = some (.row g s xs) → c.gen r = some g ∧ c.sz r = s ∧ ¬ c.F (c.blk r) ∧ RowOK c w (c.blk r) (c.cap r) s xs
  inj : ∀ r r' g g', c.gen r = some g → c.gen r' = some g' → c.blk r = c.blk r' → r = r'
def RVs (c : Ctx) (w : World) (xs : List AVal) (vs : Array Value) : Prop := vs.size = xs.length ∧ ∀ i a, xs[i]? = some a → RV c w a (vs.getD i undef)
theorem RVs.mono {c c' : Ctx} {w w' : World} (e : Ext c w c' w') {xs : List AVal} {vs : Array Value} (h : RVs c w xs vs) : RVs c' w' xs vs := ⟨h.1, fun i a ha => (h.2 i a ha).mono e⟩
abbrev Env := Nat → AVal
def RE (c : Ctx) (w : World) (env : Env) (a : Act) (nt : Nat) : Prop := a.tmps.size = nt ∧ ∀ t, RV c w (env t) (a.tmps.getD t undef)
theorem RE.mono {c c' : Ctx} {w w' : World} (e : Ext c w c' w') {env : Env} {a : Act} {nt : Nat} (h : RE c w env a nt) : RE c' w' env a nt := ⟨h.1, fun t => (h.2 t).mono e⟩
def upd (env : Env) (d : Nat) (x : AVal) : Env := fun t => bif Nat.beq t d then x else env t
theorem upd_same (env : Env) (d : Nat) (x : AVal) : upd env d x d = x := by simp [upd]
theorem upd_ne (env : Env) {d t : Nat} (x : AVal) (h : t ≠ d) : upd env d x t = env t := by
  have : Nat.beq t d = false := by cases hh : Nat.beq t d; rfl; exact absurd (Nat.eq_of_beq_eq_true hh) h
  simp [upd, this]
theorem RE.put {c : Ctx} {w : World} {env : Env} {a : Act} {nt d : Nat} {x : AVal} {v : Value} (h : RE c w env a nt) (hd : d < nt) (hx : RV c w x v) : RE c w (upd env d x) (a.put (some d) v) nt := by
  refine ⟨by simpa [Act.put] using h.1, fun t => ?_⟩
  by_cases ht : t = d
  · subst ht
    rw [upd_same]
    have : (a.put (some t) v).tmps.getD t undef = v := by simp [Act.put, h.1, hd]
    rw [this]; exact hx
  · rw [upd_ne _ _ ht]
    have : (a.put (some d) v).tmps.getD t undef = a.tmps.getD t undef := by
      simp [Act.put, Array.getElem?_setIfInBounds_ne (Ne.symm ht)]
    rw [this]; exact h.2 t
/-! ### types -/
def okT (P : Program) (t : TypeId) : Bool := (P.info? t).isSome && (P.underlying t).isSome
def szT (P : Program) (t : TypeId) : Nat := P.cellsOf t
def byT (P : Program) (t : TypeId) : Nat := P.bytesOf t
def agT (P : Program) (t : TypeId) : Bool := match P.underlying t with | some (.struct _) => true | some (.array _ _) => true | _ => false
def slT (P : Program) (t : TypeId) : Option TypeId := match P.underlying t with | some (.slice e) => some e | _ => none
def arT (P : Program) (t : TypeId) : Option (Nat × TypeId) := match P.underlying t with | some (.array n e) => some (n, e) | _ => none
def stT (P : Program) (t : TypeId) : Bool := match P.underlying t with | some .string => true | _ => false
def inT (P : Program) (t : TypeId) : Option IntKind := match P.underlying t with | some (.int k) => some k | _ => none
def fdT (P : Program) (t : TypeId) (f : Nat) : Option (Nat × TypeId) := match P.underlying t with | some (.struct fs) => (fs[f]?).map fun x => (x.offset, x.type) | _ => none
def zokT (P : Program) (t : TypeId) : Bool := match (P.info? t).bind (·.zero) with | some z => Nat.beq z.cells.size (szT P t) | none => false
def ofV : Value → AVal
  | .agg cs => .agg (cs.toList.map .v)
  | x => .v x
def zrT (P : Program) (t : TypeId) : Option AVal := ((P.info? t).bind (·.zero)).map ofV
/-! ### pure parts -/
def subA (ag : Bool) (n : Nat) (y : AVal) (j : Nat) : AVal := match ag with | true => .agg ((y.flat.drop j).take n) | false => y.flat.getD j .dead
def putA (x : AVal) (j : Nat) (cs : List AVal) : AVal := match x with | .agg ds => .agg (ds.take j ++ (cs ++ ds.drop (j + cs.length))) | _ => cs.headD .dead
abbrev nilS : AVal := .v (.slice none 0 0)
def int64 (n : Int) : AVal := .v (.int .i64 n)
/-- a whole value: cells of one cell each, or one such cell -/
def AVal.whole (x : AVal) : Bool := x.flat.all AVal.c1
def bcase (b : Bool) (A B : Prop) : Prop := match b with | true => A | false => B
def binI (op : BinOp) (k : IntKind) (a b : Int) : Value :=
  match op with
  | .add => .int k (k.wrap (a + b))
  | .sub => .int k (k.wrap (a - b))
  | .mul => .int k (k.wrap (a * b))
  | .quo => .int k (k.wrap (a.tdiv b))
  | .rem => .int k (a.tmod b)
  | .and => .int k (k.wrap (BitVec.ofInt k.bits a &&& BitVec.ofInt k.bits b).toNat)
  | .or => .int k (k.wrap (BitVec.ofInt k.bits a ||| BitVec.ofInt k.bits b).toNat)
  | .xor => .int k (k.wrap (BitVec.ofInt k.bits a ^^^ BitVec.ofInt k.bits b).toNat)
  | .andNot => .int k (k.wrap (BitVec.ofInt k.bits a &&& ~~~BitVec.ofInt k.bits b).toNat)
  | .shl => .int k (k.wrap (a * 2 ^ (min b.toNat k.bits)))
  | .shr => .int k (a.fdiv (2 ^ (min b.toNat k.bits)))
  | .eql => .bool (a == b)
  | .neq => .bool (a != b)
  | .lss => .bool (decide (a < b))
  | .leq => .bool (decide (a ≤ b))
  | .gtr => .bool (decide (a > b))
  | .geq => .bool (decide (a ≥ b))
def okI (op : BinOp) (k k' : IntKind) (b : Int) : Prop :=
  match op with
  | .shl => 0 ≤ b
  | .shr => 0 ≤ b
  | .quo => k = k' ∧ b ≠ 0
  | .rem => k = k' ∧ b ≠ 0
  | _ => k = k'
def blT (P : Program) (t : TypeId) : Bool := match P.underlying t with | some .bool => true | _ => false
def ptT (P : Program) (t : TypeId) : Bool := match P.underlying t with | some (.pointer _) => true | _ => false
abbrev KA := AVal → AHeap → Prop
def eqM (op : BinOp) (b : Bool) (h : AHeap) (K : KA) : Prop := match op with | .eql => K (.v (.bool b)) h | .neq => K (.v (.bool !b)) h | _ => False
def binM_b (P : Program) (op : BinOp) (t : TypeId) (x y : AVal) (h : AHeap) (K : KA) : Prop :=
  match x, y with
  | .v (.int k a), .v (.int k' b) => okI op k k' b ∧ K (.v (binI op k a b)) h
  | .v (.bool a), .v (.bool b) => blT P t = true ∧ eqM op (a == b) h K
  | .v (.string a), .v (.string b) => eqM op (a.toList == b.toList) h K
  | .v (.slice none _ _), .v (.slice none _ _) => (slT P t).isSome = true ∧ eqM op true h K
  | .sl xs, .v (.slice none _ _) => (slT P t).isSome = true ∧ xs ≠ [] ∧ eqM op false h K
  | .rf _ _ _ _, .v (.slice none _ _) => (slT P t).isSome = true ∧ eqM op false h K
  | .v (.pointer none), .v (.pointer none) => ptT P t = true ∧ eqM op true h K
  | .fp _, .v (.pointer none) => ptT P t = true ∧ eqM op false h K
  | .pt _ _ _ _, .v (.pointer none) => ptT P t = true ∧ eqM op false h K
  | _, _ => False
structure binM (P : Program) (op : BinOp) (t : TypeId) (x y : AVal) (h : AHeap) (K : KA) : Prop where
  out : binM_b P op t x y h K
def unM_b (op : UnOp) (x : AVal) (h : AHeap) (K : KA) : Prop :=
  match op, x with
  | .not, .v (.bool b) => K (.v (.bool !b)) h
  | .neg, .v (.int k n) => K (.v (.int k (k.wrap (0 - n)))) h
  | .xor, .v (.int k n) => K (.v (binI .xor k (if k.signed then -1 else k.max) n)) h
  | _, _ => False
structure unM (op : UnOp) (x : AVal) (h : AHeap) (K : KA) : Prop where
  out : unM_b op x h K
def convM_b (P : Program) (s d : TypeId) (x : AVal) (h : AHeap) (K : KA) : Prop :=
  match x with
  | .v (.int _ n) => (match inT P d with | some k => okT P s = true ∧ K (.v (.int k (k.wrap n))) h | none => False)
  | _ => False
structure convM (P : Program) (s d : TypeId) (x : AVal) (h : AHeap) (K : KA) : Prop where
  out : convM_b P s d x h K
def pickM (c x y : AVal) (h : AHeap) (K : KA) : Prop := match c with | .v (.bool b) => K (bif b then x else y) h | _ => False
def lenM_b (P : Program) (t : TypeId) (x : AVal) (h : AHeap) (K : KA) : Prop :=
  match x with
  | .sl xs => (slT P t).isSome = true ∧ K (int64 xs.length) h
  | .rf _ _ _ n => (slT P t).isSome = true ∧ K (int64 n) h
  | .v (.slice none n _) => (slT P t).isSome = true ∧ K (int64 n) h
  | .v (.string s) => stT P t = true ∧ K (int64 s.size) h
  | _ => False
structure lenM (P : Program) (t : TypeId) (x : AVal) (h : AHeap) (K : KA) : Prop where
  out : lenM_b P t x h K
def ixAddrM_b (P : Program) (t : TypeId) (x i : AVal) (h : AHeap) (K : KA) : Prop :=
  match i with
  | .v (.int _ n) =>
    match x with
    | .sl xs => (match slT P t with | some e => okT P e = true ∧ 0 ≤ n ∧ n < xs.length ∧ szT P e = (xs.getD n.toNat .dead).flat.length ∧ K (.fp (xs.getD n.toNat .dead)) h | none => False)
    | .rf r g o m => (match slT P t with | some e => (match h[r]? with | some (.row g' s xs) => g = g' ∧ okT P e = true ∧ szT P e = s ∧ 0 ≤ n ∧ n < m ∧ K (.pt r g (o + n.toNat) 0) h | _ => False) | none => False)
    | _ => False
  | _ => False
structure ixAddrM (P : Program) (t : TypeId) (x i : AVal) (h : AHeap) (K : KA) : Prop where
  out : ixAddrM_b P t x i h K
def fldAddrM_b (P : Program) (t : TypeId) (x : AVal) (f : Nat) (h : AHeap) (K : KA) : Prop :=
  match fdT P t f with
  | some (o, e) => okT P e = true ∧ 0 < szT P e ∧
    (match x with
     | .fp y => o + szT P e ≤ y.flat.length ∧ (agT P e = false → (y.flat.getD o .dead).isAgg = false) ∧ K (.fp (subA (agT P e) (szT P e) y o)) h
     | .pt r g i j => K (.pt r g i (j + o)) h
     | _ => False)
  | none => False
structure fldAddrM (P : Program) (t : TypeId) (x : AVal) (f : Nat) (h : AHeap) (K : KA) : Prop where
  out : fldAddrM_b P t x f h K
def loadM_b (P : Program) (t : TypeId) (x : AVal) (h : AHeap) (K : KA) : Prop :=
  match x with
  | .fp y => okT P t = true ∧ agT P t = y.isAgg ∧ szT P t = y.flat.length ∧ K y h
  | .pt r g i j => (match h[r]? with
    | some (.row g' s xs) => g = g' ∧ okT P t = true ∧ i < xs.length ∧ j + szT P t ≤ (xs.getD i .dead).flat.length ∧ (agT P t = false → szT P t = 1) ∧ K (subA (agT P t) (szT P t) (xs.getD i .dead) j) h
    | _ => False)
  | _ => False
structure loadM (P : Program) (t : TypeId) (x : AVal) (h : AHeap) (K : KA) : Prop where
  out : loadM_b P t x h K
def storeM_b (P : Program) (t : TypeId) (x y : AVal) (h : AHeap) (K : KA) : Prop :=
  match x with
  | .pt r g i j => (match h[r]? with
    | some (.row g' s xs) => g = g' ∧ okT P t = true ∧ i < xs.length ∧ szT P t = y.flat.length ∧ 0 < y.flat.length ∧ y.whole = true ∧ j + y.flat.length ≤ s ∧ K (.v undef) (h.set r (.row g s (xs.set i (putA (xs.getD i .dead) j y.flat))))
    | _ => False)
  | _ => False
structure storeM (P : Program) (t : TypeId) (x y : AVal) (h : AHeap) (K : KA) : Prop where
  out : storeM_b P t x y h K
def nilChkM_b (x : AVal) (h : AHeap) (K : KA) : Prop :=
  match x with
  | .fp _ => K x h
  | .pt _ _ _ _ => K x h
  | .fn _ _ => K x h
  | _ => False
structure nilChkM (x : AVal) (h : AHeap) (K : KA) : Prop where
  out : nilChkM_b x h K
def newM (s : Nat) (xs : List AVal) (h : AHeap) (K : Nat → AHeap → Prop) : Prop := ∀ g, K g (h ++ [.row g s xs])
def allocM_b (P : Program) (e : TypeId) (h : AHeap) (K : KA) : Prop :=
  match zrT P e with
  | some z => okT P e = true ∧ szT P e = z.flat.length ∧ newM (szT P e) [z] h (fun g h' => K (.pt h.length g 0 0) h')
  | none => False
structure allocM (P : Program) (e : TypeId) (h : AHeap) (K : KA) : Prop where
  out : allocM_b P e h K
def boxM_b (e : TypeId) (x : AVal) (h : AHeap) (K : KA) : Prop := x.whole = true ∧ newM x.flat.length [x] h (fun g h' => K (.pt h.length g 0 0) h')
structure boxM (e : TypeId) (x : AVal) (h : AHeap) (K : KA) : Prop where
  out : boxM_b e x h K
def fieldM_b (P : Program) (t : TypeId) (x : AVal) (f : Nat) (h : AHeap) (K : KA) : Prop :=
  match fdT P t f, x with
  | some (o, e), .agg cs => okT P e = true ∧ o + szT P e ≤ cs.length ∧ (agT P e = false → szT P e = 1) ∧ K (subA (agT P e) (szT P e) (.agg cs) o) h
  | _, _ => False
structure fieldM (P : Program) (t : TypeId) (x : AVal) (f : Nat) (h : AHeap) (K : KA) : Prop where
  out : fieldM_b P t x f h K
def plT (P : Program) (t : TypeId) : Option (List (Nat × Nat)) := match P.underlying t with | some (.struct fs) => fs.toList.mapM (fun f => (P.info? f.type).map fun i => (f.offset, i.size)) | _ => none
def bldA (pl : List (Nat × Nat)) : List AVal → List (Nat × AVal) → Option (List AVal)
  | cs, [] => some cs
  | cs, (i, y) :: l => match pl[i]? with
    | some (o, n) => bif Nat.beq n y.flat.length && Nat.ble (o + n) cs.length && y.whole then bldA pl (cs.take o ++ (y.flat ++ cs.drop (o + n))) l else none
    | none => none
def buildM_b (P : Program) (t : TypeId) (ps : List (Nat × AVal)) (h : AHeap) (K : KA) : Prop :=
  match plT P t, zrT P t with
  | some pl, some (.agg zs) => (match bldA pl zs ps with | some cs => K (.agg cs) h | none => False)
  | _, _ => False
structure buildM (P : Program) (t : TypeId) (ps : List (Nat × AVal)) (h : AHeap) (K : KA) : Prop where
  out : buildM_b P t ps h K
def bldS (n : Nat) : List AVal → List (Nat × AVal) → Option (List AVal)
  | xs, [] => some xs
  | xs, (i, y) :: l => bif Nat.beq y.flat.length n && Nat.ble (i + 1) xs.length && y.whole then bldS n (xs.set i y) l else none
def buildSliceM_b (P : Program) (t : TypeId) (n : Nat) (ps : List (Nat × AVal)) (h : AHeap) (K : KA) : Prop :=
  match slT P t with
  | some e => (match zrT P e with
    | some z => (match bldS (szT P e) (List.replicate n z) ps with
      | some xs => okT P e = true ∧ szT P e = z.flat.length ∧ 0 < szT P e ∧ n * szT P e ≤ 16777216 ∧ newM (szT P e) xs h (fun g h' => K (.rf h.length g 0 n) h')
      | none => False)
    | none => False)
  | none => False
structure buildSliceM (P : Program) (t : TypeId) (n : Nat) (ps : List (Nat × AVal)) (h : AHeap) (K : KA) : Prop where
  out : buildSliceM_b P t n ps h K
def makeM_b (P : Program) (t : TypeId) (x y : AVal) (h : AHeap) (K : KA) : Prop :=
  match slT P t, x, y with
  | some e, .v (.int _ n), .v (.int _ m) => (match zrT P e with
    | some z => okT P e = true ∧ szT P e = z.flat.length ∧ 0 < szT P e ∧ n = m ∧ 0 ≤ n ∧ (byT P e : Int) * n ≤ 281474976710656 ∧ n ≤ 9223372036854775807 ∧ newM (szT P e) (List.replicate n.toNat z) h (fun g h' => K (.rf h.length g 0 n.toNat) h')
    | none => False)
  | _, _, _ => False
structure makeM (P : Program) (t : TypeId) (x y : AVal) (h : AHeap) (K : KA) : Prop where
  out : makeM_b P t x y h K
/-- the elements of what is appended or copied -/
def elsA (h : AHeap) : AVal → Option (List AVal)
  | .sl xs => some xs
  | .v (.slice none 0 _) => some []
  | .v (.string s) => some (s.data.toList.map fun b => .v (.int .u8 b.toNat))
  | .rf r g o n => (match h[r]? with | some (.row g' _ xs) => if g = g' ∧ o + n ≤ xs.length then some ((xs.drop o).take n) else none | _ => none)
  | _ => none
def rowOf : AVal → Option Nat
  | .rf r _ _ _ => some r
  | _ => none
def appendM_b (P : Program) (t tx : TypeId) (x y : AVal) (h : AHeap) (K : KA) : Prop :=
  match slT P t, elsA h y with
  | some e, some ys => okT P e = true ∧ 0 < szT P e ∧ zokT P e = true ∧ ((slT P tx).isSome = true ∨ stT P tx = true) ∧ (∀ y ∈ ys, y.flat.length = szT P e ∧ y.whole = true) ∧
    (match x with
     | .v (.slice none 0 0) => ys.length * byT P e ≤ 140737488355328 ∧ ys.length ≤ maxLen ∧ (ys = [] → K nilS h) ∧ (ys ≠ [] → newM (szT P e) ys h (fun g h' => K (.rf h.length g 0 ys.length) h'))
     | .rf r g 0 n => (match h[r]? with
       | some (.row g' s xs) => g = g' ∧ s = szT P e ∧ n ≤ xs.length ∧ (n + ys.length) * byT P e ≤ 140737488355328 ∧ n + ys.length ≤ maxLen ∧
         (∀ g2, K (.rf r g2 0 (n + ys.length)) (h.set r (.row g2 s (xs.take n ++ ys))))
       | _ => False)
     | _ => False)
  | _, _ => False
structure appendM (P : Program) (t tx : TypeId) (x y : AVal) (h : AHeap) (K : KA) : Prop where
  out : appendM_b P t tx x y h K
def extractM_b (x : AVal) (i : Nat) (h : AHeap) (K : KA) : Prop := match x with | .tup xs => i < xs.length ∧ K (xs.getD i .dead) h | _ => False
structure extractM (x : AVal) (i : Nat) (h : AHeap) (K : KA) : Prop where
  out : extractM_b x i h K
def idxM_b (P : Program) (t : TypeId) (x i : AVal) (h : AHeap) (K : KA) : Prop :=
  match x, i with
  | .v (.string s), .v (.int _ n) => stT P t = true ∧ 0 ≤ n ∧ n < s.size ∧ K (.v (.int .u8 (s.data.getD n.toNat 0).toNat)) h
  | _, _ => False
structure idxM (P : Program) (t : TypeId) (x i : AVal) (h : AHeap) (K : KA) : Prop where
  out : idxM_b P t x i h K
def maxM_b (x y : AVal) (h : AHeap) (K : KA) : Prop := match x, y with | .v (.int k a), .v (.int _ b) => K (.v (.int k (max a b))) h | _, _ => False
structure maxM (x y : AVal) (h : AHeap) (K : KA) : Prop where
  out : maxM_b x y h K
def minM_b (x y : AVal) (h : AHeap) (K : KA) : Prop := match x, y with | .v (.int k a), .v (.int _ b) => K (.v (.int k (min a b))) h | _, _ => False
structure minM (x y : AVal) (h : AHeap) (K : KA) : Prop where
  out : minM_b x y h K
/-- a call, told by what it means -/
def callM (P : Program) (f : FuncId) (xs : List AVal) (h : AHeap) (K : KA) : Prop :=
  ∀ c w vs, RH c h w → RVs c w xs vs → Calls P f vs w fun e w' => ∃ v c' x h', e = .returned v ∧ Ext c w c' w' ∧ RH c' h' w' ∧ RV c' w' x v ∧ K x h'
theorem slT_spec {P : Program} {t e : TypeId} (h : slT P t = some e) : P.underlying t = some (.slice e) := by
  unfold slT at h
  split at h <;> simp_all
theorem slT_some {P : Program} {t : TypeId} (h : (slT P t).isSome = true) : ∃ e, P.underlying t = some (.slice e) := by
  cases he : slT P t with
  | none => rw [he] at h; cases h
  | some e => exact ⟨e, slT_spec he⟩
theorem stT_spec {P : Program} {t : TypeId} (h : stT P t = true) : P.underlying t = some .string := by
  unfold stT at h
  split at h <;> simp_all
theorem blT_spec {P : Program} {t : TypeId} (h : blT P t = true) : P.underlying t = some .bool := by
  unfold blT at h
  split at h <;> simp_all
theorem ptT_spec {P : Program} {t : TypeId} (h : ptT P t = true) : ∃ e, P.underlying t = some (.pointer e) := by
  unfold ptT at h
  split at h <;> simp_all
theorem inT_spec {P : Program} {t : TypeId} {k : IntKind} (h : inT P t = some k) : P.underlying t = some (.int k) := by
  unfold inT at h
  split at h <;> simp_all
theorem okT_spec {P : Program} {t : TypeId} (h : okT P t = true) : ∃ i d, P.info? t = some i ∧ P.underlying t = some d ∧ i.size = szT P t ∧ i.bytes = byT P t ∧ (agT P t = d.isRow) := by
  unfold okT at h
  rw [Bool.and_eq_true, Option.isSome_iff_exists, Option.isSome_iff_exists] at h
  obtain ⟨⟨i, hi⟩, d, hd⟩ := h
  refine ⟨i, d, hi, hd, by simp [szT, Program.cellsOf, hi], by simp [byT, Program.bytesOf, hi], ?_⟩
  unfold agT
  rw [hd]
  cases d <;> rfl
theorem fdT_spec {P : Program} {t : TypeId} {f o e : Nat} (h : fdT P t f = some (o, e)) : ∃ fs x, P.underlying t = some (.struct fs) ∧ fs[f]? = some x ∧ x.offset = o ∧ x.type = e := by
  unfold fdT at h
  split at h
  · rename_i fs hfs
    rw [Option.map_eq_some_iff] at h
    obtain ⟨x, hx, hh⟩ := h
    simp only [Prod.mk.injEq] at hh
    exact ⟨fs, x, hfs, hx, hh.1, hh.2⟩
  · cases h
/-- what an operation that yields a value comes to -/
def Val (P : Program) (c : Ctx) (w : World) (s : Sem Value) (K : KA) : Prop :=
  ∃ v w' c' x h', s.run P w = .ok v w' ∧ Ext c w c' w' ∧ RH c' h' w' ∧ RV c' w' x v ∧ K x h'
section
variable {P : Program} {c : Ctx} {w : World} {h : AHeap} {K : KA}
theorem Val.pure {s : Sem Value} {x : AVal} {v : Value} (hH : RH c h w) (hr : s.run P w = .ok v w) (hx : RV c w x v) (hk : K x h) : Val P c w s K :=
  ⟨v, w, c, x, h, hr, Ext.refl _ _, hH, hx, hk⟩
/-- an operation that only reckons: in whatever world it yields the same -/
def PVal (P : Program) (c : Ctx) (w : World) (h : AHeap) (s : Sem Value) (K : KA) : Prop :=
  ∃ v x, (∀ w', s.run P w' = .ok v w') ∧ RV c w x v ∧ K x h
theorem PVal.pure {s : Sem Value} {x : AVal} {v : Value} (hH : RH c h w) (hr : ∀ w', s.run P w' = .ok v w') (hx : RV c w x v) (hk : K x h) : PVal P c w h s K := ⟨v, x, hr, hx, hk⟩
theorem PVal.val {s : Sem Value} (hH : RH c h w) (hv : PVal P c w h s K) : Val P c w s K := by
  obtain ⟨v, x, hr, hx, hk⟩ := hv
  exact .pure hH (hr w) hx hk
theorem len_ok {t ty : TypeId} {x : AVal} {v : Value} (hH : RH c h w) (hx : RV c w x v) (hm : lenM P t x h K) : PVal P c w h (Builtin.len_ #[t] ty #[v]) K := by
  replace hm := hm.out
  cases hx with
  | nil xs ad cap he =>
    obtain ⟨⟨e, hu⟩, hk⟩ := And.imp_left slT_some hm
    subst he
    exact .pure hH (fun w => by simp [Builtin.len_, run_underlying hu, goInt]) (.v _) hk
  | sl xs b off len cap s f hF hlen =>
    obtain ⟨⟨e, hu⟩, hk⟩ := And.imp_left slT_some hm
    subst hlen
    exact .pure hH (fun w => by simp [Builtin.len_, run_underlying hu, goInt]) (.v _) hk
  | rf r g off len a cap =>
    obtain ⟨⟨e, hu⟩, hk⟩ := And.imp_left slT_some hm
    exact .pure hH (fun w => by simp [Builtin.len_, run_underlying hu, goInt]) (.v _) hk
  | v x =>
    unfold lenM_b at hm
    split at hm
    · cases ‹AVal.v _ = _›
    · cases ‹AVal.v _ = _›
    · rename_i n cp he
      cases he
      obtain ⟨⟨e, hu⟩, hk⟩ := And.imp_left slT_some hm
      exact .pure hH (fun w => by simp [Builtin.len_, run_underlying hu, goInt]) (.v _) hk
    · rename_i s he
      cases he
      obtain ⟨hs, hk⟩ := hm
      exact .pure hH (fun w => by simp [Builtin.len_, run_underlying (stT_spec hs), goInt]) (.v _) hk
    · exact hm.elim
  | _ => exact hm.elim
theorem bin_int_ok {op : BinOp} {k k' : IntKind} {a b : Int} (ho : okI op k k' b) (t : TypeId) : (binOp op t (.int k a) (.int k' b)).run P w = .ok (binI op k a b) w := by
  cases op <;> simp only [okI] at ho <;> (try subst ho) <;>
    first
    | (obtain ⟨rfl, hb⟩ := ho; simp [binOp, Op.intDiv, hb, binI]; done)
    | (have hb : ¬ b < 0 := by omega
       simp [binOp, Op.shift, hb, binI]; done)
    | (simp [binOp, Op.intArith, Op.intCmp, Op.intBits, binI]; done)
theorem eqM_ok {op : BinOp} {b : Bool} (hH : RH c h w) {s : Sem Value} (hm : eqM op b h K) (hs : op = .eql ∨ op = .neq → ∀ w, s.run P w = .ok (.bool (if op = .eql then b else !b)) w) : PVal P c w h s K := by
  unfold eqM at hm
  split at hm
  · exact .pure hH (fun w => by simpa using hs (.inl rfl) w) (.v _) hm
  · exact .pure hH (fun w => by simpa using hs (.inr rfl) w) (.v _) hm
  · exact hm.elim
end
section
variable {P : Program} {c : Ctx} {w : World} {h : AHeap} {K : KA}
theorem guard_ok (op : BinOp) (t : TypeId) (ox oy : Operand) (a b : Value) (hn : ∀ xs, a ≠ .agg xs) (hi : a ≠ .nilIface) : (eqGuard op t ox oy a b).run P w = .ok () w := by
  cases a <;> first | exact absurd rfl hi | exact absurd rfl (hn _) | (unfold eqGuard; cases op <;> rfl)
theorem bin_run {op : BinOp} {t : TypeId} {ox oy : Operand} {a b : Value} (hn : ∀ xs, a ≠ .agg xs) (hi : a ≠ .nilIface) : (do eqGuard op t ox oy a b; binOp op t a b : Sem Value).run P w = (binOp op t a b).run P w := by
  show (Sem.bind _ _).run P w = _
  rw [show Sem.bind (eqGuard op t ox oy a b) (fun _ => binOp op t a b) = (eqGuard op t ox oy a b >>= fun _ => binOp op t a b) from rfl, Sem.run_bind, guard_ok op t ox oy a b hn hi]
  rfl
theorem equal_run {t : TypeId} {a b : Value} {r : Bool} (he : (Op.equalIn (9999 + 1) t a b).run P w = .ok r w) : (Op.equal t a b).run P w = .ok r w := he
theorem equal_bool {t : TypeId} (hu : P.underlying t = some .bool) (a b : Bool) : (Op.equal t (.bool a) (.bool b)).run P w = .ok (a == b) w := by
  refine equal_run ?_
  unfold Op.equalIn
  rw [Sem.run_bind, run_underlying hu]; rfl
theorem equal_nil {t e : TypeId} (hu : P.underlying t = some (.slice e)) (b : Option Addr) (n m n' m' : Nat) : (Op.equal t (.slice none n m) (.slice b n' m')).run P w = .ok b.isNone w := by
  refine equal_run ?_
  unfold Op.equalIn
  rw [Sem.run_bind, run_underlying hu]; rfl
theorem equal_some {t e : TypeId} (hu : P.underlying t = some (.slice e)) (a : Addr) (n m n' m' : Nat) : (Op.equal t (.slice (some a) n m) (.slice none n' m')).run P w = .ok false w := by
  refine equal_run ?_
  unfold Op.equalIn
  rw [Sem.run_bind, run_underlying hu]; rfl
theorem equal_pnil {t e : TypeId} (hu : P.underlying t = some (.pointer e)) (b : Option Addr) : (Op.equal t (.pointer none) (.pointer b)).run P w = .ok b.isNone w := by
  refine equal_run ?_
  unfold Op.equalIn
  rw [Sem.run_bind, run_underlying hu]; rfl
theorem equal_psome {t e : TypeId} (hu : P.underlying t = some (.pointer e)) (a : Addr) : (Op.equal t (.pointer (some a)) (.pointer none)).run P w = .ok false w := by
  refine equal_run ?_
  unfold Op.equalIn
  rw [Sem.run_bind, run_underlying hu]; rfl
theorem eq_of {op : BinOp} {t : TypeId} {a b : Value} {r : Bool} (h1 : binOp .eql t a b = (do Pure.pure (.bool (← Op.equal t a b)))) (h2 : binOp .neq t a b = (do Pure.pure (.bool (!(← Op.equal t a b)))))
    (he : (Op.equal t a b).run P w = .ok r w) (ho : op = .eql ∨ op = .neq) : (binOp op t a b).run P w = .ok (.bool (if op = .eql then r else !r)) w := by
  rcases ho with rfl | rfl
  · rw [h1, Sem.run_bind, he]; rfl
  · rw [h2, Sem.run_bind, he]; rfl
theorem bin_ok {op : BinOp} {t : TypeId} {x y : AVal} {vx vy : Value} {ox oy : Operand} (hH : RH c h w) (hx : RV c w x vx) (hy : RV c w y vy) (hm : binM P op t x y h K) :
    PVal P c w h (do eqGuard op t ox oy vx vy; binOp op t vx vy) K := by
  have mk : (∀ xs, vx ≠ .agg xs) → vx ≠ .nilIface → PVal P c w h (binOp op t vx vy) K → PVal P c w h (do eqGuard op t ox oy vx vy; binOp op t vx vy) K := by
    rintro h1 h2 ⟨v, x, hr, hh⟩
    exact ⟨v, x, fun w' => (bin_run h1 h2).trans (hr w'), hh⟩
  replace hm := hm.out
  unfold binM_b at hm
  split at hm
  · cases hx; cases hy
    exact mk (by simp) (by simp) (.pure hH (fun _ => bin_int_ok hm.1 t) (.v _) hm.2)
  · cases hx; cases hy
    exact mk (by simp) (by simp) (eqM_ok hH hm.2 (fun ho _ => eq_of rfl rfl (equal_bool (blT_spec hm.1) _ _) ho))
  · cases hx; cases hy
    refine mk (by simp) (by simp) (eqM_ok hH hm (fun ho _ => ?_))
    rcases ho with rfl | rfl <;> rfl
  · cases hx; cases hy
    obtain ⟨e, hu⟩ := slT_some hm.1
    exact mk (by simp) (by simp) (eqM_ok hH hm.2 (fun ho _ => eq_of rfl rfl (equal_nil hu none _ _ _ _) ho))
  · cases hy
    obtain ⟨e, hu⟩ := slT_some hm.1
    cases hx with
    | nil xs ad cap he => exact absurd he hm.2.1
    | sl => exact mk (by simp) (by simp) (eqM_ok hH hm.2.2 (fun ho _ => eq_of rfl rfl (equal_some hu _ _ _ _ _) ho))
  · cases hy
    obtain ⟨e, hu⟩ := slT_some hm.1
    cases hx with
    | rf => exact mk (by simp) (by simp) (eqM_ok hH hm.2 (fun ho _ => eq_of rfl rfl (equal_some hu _ _ _ _ _) ho))
  · cases hx; cases hy
    obtain ⟨e, hu⟩ := ptT_spec hm.1
    exact mk (by simp) (by simp) (eqM_ok hH hm.2 (fun ho _ => eq_of rfl rfl (equal_pnil hu none) ho))
  · cases hy
    obtain ⟨e, hu⟩ := ptT_spec hm.1
    cases hx with
    | fp => exact mk (by simp) (by simp) (eqM_ok hH hm.2 (fun ho _ => eq_of rfl rfl (equal_psome hu _) ho))
  · cases hy
    obtain ⟨e, hu⟩ := ptT_spec hm.1
    cases hx with
    | pt => exact mk (by simp) (by simp) (eqM_ok hH hm.2 (fun ho _ => eq_of rfl rfl (equal_psome hu _) ho))
  · exact hm.elim
theorem un_ok {op : UnOp} {x : AVal} {v : Value} (hH : RH c h w) (hx : RV c w x v) (hm : unM op x h K) : PVal P c w h (Op.unary op v) K := by
  replace hm := hm.out
  unfold unM_b at hm
  split at hm
  · cases hx; exact .pure hH (fun _ => rfl) (.v _) hm
  · cases hx; exact .pure hH (fun _ => rfl) (.v _) hm
  · cases hx; exact .pure hH (fun _ => by simp [Op.unary, Op.intBits, binI]) (.v _) hm
  · exact hm.elim
theorem max_ok {ts : Array TypeId} {ty : TypeId} {x y : AVal} {v u : Value} (hH : RH c h w) (hx : RV c w x v) (hy : RV c w y u) (hm : maxM x y h K) : PVal P c w h (Builtin.max_ ts ty #[v, u]) K := by
  replace hm := hm.out
  unfold maxM_b at hm
  split at hm
  · rename_i k a k' b
    cases hx; cases hy
    refine .pure hH (v := .int k (max a b)) (fun _ => ?_) (.v _) hm
    simp only [Builtin.max_, List.foldlM, Builtin.max2]
    have : (if b > a then b else a) = max a b := by split <;> omega
    rw [this]; rfl
  · exact hm.elim
theorem min_ok {ts : Array TypeId} {ty : TypeId} {x y : AVal} {v u : Value} (hH : RH c h w) (hx : RV c w x v) (hy : RV c w y u) (hm : minM x y h K) : PVal P c w h (Builtin.min_ ts ty #[v, u]) K := by
  replace hm := hm.out
  unfold minM_b at hm
  split at hm
  · rename_i k a k' b
    cases hx; cases hy
    refine .pure hH (v := .int k (min a b)) (fun _ => ?_) (.v _) hm
    simp only [Builtin.min_, List.foldlM, Builtin.min2]
    have : (if b < a then b else a) = min a b := by split <;> omega
    rw [this]; rfl
  · exact hm.elim
theorem conv_ok {s d : TypeId} {x : AVal} {v : Value} (hH : RH c h w) (hx : RV c w x v) (hm : convM P s d x h K) : PVal P c w h (convert s d v) K := by
  replace hm := hm.out
  unfold convM_b at hm
  split at hm
  · split at hm
    · rename_i k hk
      cases hx
      obtain ⟨i, ds, hi, hd, _⟩ := okT_spec hm.1
      refine .pure hH (fun _ => ?_) (.v _) hm.2
      simp [convert, run_underlying hd, run_underlying (inT_spec hk), Conv.intToInt]
    · exact hm.elim
  · exact hm.elim
theorem pick_ok {x y z : AVal} {vx vy vz : Value} (hH : RH c h w) (hx : RV c w x vx) (hy : RV c w y vy) (hz : RV c w z vz) (hm : pickM x y z h K) :
    PVal P c w h (do Pure.pure (if ← asBool vx then vy else vz)) K := by
  unfold pickM at hm
  split at hm
  · rename_i b
    cases hx
    cases b
    · exact .pure hH (fun _ => by simp [asBool]) hz hm
    · exact .pure hH (fun _ => by simp [asBool]) hy hm
  · exact hm.elim
theorem extract_ok {x : AVal} {v : Value} {i : Nat} (hH : RH c h w) (hx : RV c w x v) (hm : extractM x i h K) : PVal P c w h (Instr.extract v i) K := by
  replace hm := hm.out
  unfold extractM_b at hm
  split at hm
  · cases hx with
    | tup _ vs hl hv =>
      obtain ⟨hi, hk⟩ := hm
      have hi' : i < vs.size := by omega
      have h1 := hv i _ (List.getElem?_eq_getElem hi)
      refine .pure hH (v := vs[i]) (fun _ => ?_) ?_ hk
      · simp [Instr.extract, hi']
      · simpa [hi', List.getD, List.getElem?_eq_getElem hi] using h1
  · exact hm.elim
theorem idx_ok {t : TypeId} {x i : AVal} {vx vi : Value} (hH : RH c h w) (hx : RV c w x vx) (hi : RV c w i vi) (hm : idxM P t x i h K) : PVal P c w h (Instr.index t vx vi) K := by
  replace hm := hm.out
  unfold idxM_b at hm
  split at hm
  · rename_i s _ n
    cases hx; cases hi
    obtain ⟨hs, h0, h1, hk⟩ := hm
    have hlt : n.toNat < s.size := by omega
    have hlt' : n.toNat < s.data.size := hlt
    refine .pure hH (fun _ => ?_) (.v _) hk
    have : s[n.toNat]? = some (s.data.getD n.toNat 0) := by
      rw [getElem?_pos s n.toNat hlt, Array.getD_eq_getD_getElem?, Array.getElem?_eq_getElem hlt']
      rfl
    simp [Instr.index, asIntOf, run_underlying (stT_spec hs), h0, this]
  · exact hm.elim
end
section
variable {P : Program} {c : Ctx} {w : World} {h : AHeap} {K : KA}
theorem getD_some {xs : List AVal} {n : Nat} (hn : n < xs.length) : xs[n]? = some (xs.getD n .dead) := by
  simp [List.getD, List.getElem?_eq_getElem hn]
theorem run_indexAt {t e : TypeId} {i : TypeInfo} (hu : P.underlying t = some (.slice e)) (hi : P.info? e = some i) {b off len cap : Nat} {k : IntKind} {n : Int} (h0 : 0 ≤ n) (h1 : n < len) :
    (Instr.indexAt t (.slice (some ⟨b, off, none⟩) len cap) (.int k n)).run P w = .ok (.pointer (some ⟨b, off + n.toNat * i.size, none⟩)) w := by
  simp [Instr.indexAt, asIntOf, run_underlying hu, sizeOf, typeInfo, hi, h0, h1, Addr.add_mid]
theorem ixAddr_ok {t : TypeId} {x y : AVal} {vx vi : Value} (hH : RH c h w) (hx : RV c w x vx) (hy : RV c w y vi) (hm : ixAddrM P t x y h K) : PVal P c w h (Instr.indexAt t vx vi) K := by
  replace hm := hm.out
  unfold ixAddrM_b at hm
  split at hm
  · rename_i k n
    cases hy
    split at hm
    · rename_i xs
      split at hm
      · rename_i e he
        obtain ⟨hok, h0, h1, hs, hk⟩ := hm
        obtain ⟨i, d, hi, hd, hsz, _⟩ := okT_spec hok
        cases hx with
        | nil _ ad cap hxs => subst hxs; simp at h1; omega
        | sl _ b off len cap s f hF hlen hcap hs' hc hr =>
          have hn : n.toNat < xs.length := by omega
          have h2 := getD_some hn
          have h3 := hs' _ _ h2
          refine .pure hH (fun _ => run_indexAt (slT_spec he) hi h0 (by omega)) (.fp _ b _ (f n.toNat) hF (fun j a ha => ?_) (fun j a ha => hr _ _ _ _ h2 ha)) hk
          rw [hsz, hs, h3, Nat.add_assoc]
          exact hc _ _ _ _ h2 ha
      · exact hm.elim
    · rename_i r g o m
      split at hm
      · rename_i e he
        split at hm
        · rename_i g' s xs hrow
          obtain ⟨rfl, hok, hs, h0, h1, hk⟩ := hm
          obtain ⟨i, d, hi, hd, hsz, _⟩ := okT_spec hok
          obtain ⟨hg, hz, _, _⟩ := hH.row _ _ _ _ hrow
          cases hx with
          | rf _ _ _ _ a cap hlt hh =>
            obtain ⟨ha, hl, hcm, hc⟩ := hh hg
            have ha : a = ⟨c.blk r, o * c.sz r, none⟩ := ha.resolve_left (by omega)
            subst ha
            refine .pure hH (fun _ => run_indexAt (slT_spec he) hi h0 h1) (.pt _ _ _ _ _ hlt (fun _ => ?_)) hk
            rw [hsz, hs, hz, Nat.add_mul, Nat.add_zero]
        · exact hm.elim
      · exact hm.elim
    · exact hm.elim
  · exact hm.elim
theorem sub_flat {ag : Bool} {n : Nat} {y : AVal} {j : Nat} (h1 : j + n ≤ y.flat.length) (h2 : ag = false → n = 1) (h3 : ag = false → (y.flat.getD j .dead).isAgg = false) :
    (subA ag n y j).flat.length = n ∧ ∀ i a, (subA ag n y j).flat[i]? = some a → y.flat[j + i]? = some a := by
  cases ag with
  | true =>
    refine ⟨by show ((y.flat.drop j).take n).length = n; rw [List.length_take, List.length_drop]; omega, fun i a hi => ?_⟩
    have hi : ((y.flat.drop j).take n)[i]? = some a := hi
    have hlt : i < n := by
      have := (List.getElem?_eq_some_iff.1 hi).1
      simp at this; omega
    rw [List.getElem?_take_of_lt hlt, List.getElem?_drop] at hi
    exact hi
  | false =>
    have hn := h2 rfl
    subst hn
    have hj : j < y.flat.length := by omega
    have hq := h3 rfl
    have hf : (subA false 1 y j).flat = [y.flat.getD j .dead] := by
      show (y.flat.getD j .dead).flat = _
      cases hz : y.flat.getD j .dead <;> first | rfl | (rw [hz] at hq; cases hq)
    rw [hf]
    refine ⟨rfl, fun i a hi => ?_⟩
    have hi0 : i = 0 := by
      have := (List.getElem?_eq_some_iff.1 hi).1
      simpa using this
    subst hi0
    simp at hi
    rw [Nat.add_zero, getD_some hj, List.getD_eq_getElem?_getD, hi]
theorem run_fieldAt {s : TypeId} {fs : Array Field} {x : Field} {i : TypeInfo} {f : Nat} (hu : P.underlying s = some (.struct fs)) (hf : fs[f]? = some x) (hi : P.info? x.type = some i) (hp : 0 < i.size) {b off : Nat} :
    (Instr.fieldAt s (.pointer (some ⟨b, off, none⟩)) f).run P w = .ok (.pointer (some ⟨b, off + x.offset, none⟩)) w := by
  have : ¬ i.size = 0 := by omega
  simp [Instr.fieldAt, Instr.sureAddr, run_underlying hu, hf, fieldPlace, sizeOf, typeInfo, hi, this, Addr.add_mid]
theorem fldAddr_ok {t : TypeId} {x : AVal} {f : Nat} {vx : Value} (hH : RH c h w) (hx : RV c w x vx) (hm : fldAddrM P t x f h K) : PVal P c w h (Instr.fieldAt t vx f) K := by
  replace hm := hm.out
  unfold fldAddrM_b at hm
  split at hm
  · rename_i o e hfd
    obtain ⟨fs, fx, hu, hf, ho, ht⟩ := fdT_spec hfd
    obtain ⟨hok, hp, hm⟩ := hm
    obtain ⟨i, d, hi, hd, hsz, _⟩ := okT_spec hok
    subst ho; subst ht
    split at hm
    · rename_i y
      obtain ⟨h1, h2, hk⟩ := hm
      cases hx with
      | fp _ b off f hF hc hr =>
        have hag : agT P fx.type = false → szT P fx.type = 1 → True := fun _ _ => trivial
        by_cases hsz1 : agT P fx.type = false → szT P fx.type = 1
        · obtain ⟨hl, hg⟩ := sub_flat h1 hsz1 h2
          refine .pure hH (fun _ => run_fieldAt hu hf hi (by omega)) (.fp _ b _ (fun j => f (fx.offset + j)) hF (fun j a ha => ?_) (fun j a ha => hr _ _ (hg _ _ ha))) hk
          rw [Nat.add_assoc]
          exact hc _ _ (hg _ _ ha)
        · have hq : agT P fx.type = false := by
            cases hh : agT P fx.type
            · rfl
            · exact absurd (fun hx => by rw [hh] at hx; cases hx) hsz1
          -- one cell is told, whatever the size
          have hj : fx.offset < y.flat.length := by omega
          have hq2 := h2 hq
          have hfl : (subA (agT P fx.type) (szT P fx.type) y fx.offset).flat = [y.flat.getD fx.offset .dead] := by
            rw [hq]
            show (y.flat.getD fx.offset .dead).flat = _
            cases hz : y.flat.getD fx.offset .dead <;> first | rfl | (rw [hz] at hq2; cases hq2)
          have hg : ∀ j a, (subA (agT P fx.type) (szT P fx.type) y fx.offset).flat[j]? = some a → y.flat[fx.offset + j]? = some a := by
            intro j a ha
            rw [hfl] at ha
            have hj0 : j = 0 := by
              have := (List.getElem?_eq_some_iff.1 ha).1
              simpa using this
            subst hj0
            simp at ha
            rw [Nat.add_zero, getD_some hj, List.getD_eq_getElem?_getD, ha]
          refine .pure hH (fun _ => run_fieldAt hu hf hi (by omega)) (.fp _ b _ (fun j => f (fx.offset + j)) hF (fun j a ha => ?_) (fun j a ha => hr _ _ (hg _ _ ha))) hk
          rw [Nat.add_assoc]
          exact hc _ _ (hg _ _ ha)
    · rename_i r g i' j
      cases hx with
      | pt _ _ _ _ a hlt hh =>
        obtain ⟨b, o, sp⟩ := a
        by_cases hg : c.gen r = some g
        · have ha := hh hg
          simp only [Addr.mk.injEq] at ha
          obtain ⟨rfl, rfl, rfl⟩ := ha
          exact .pure hH (fun _ => run_fieldAt hu hf hi (by omega)) (.pt _ _ _ _ _ hlt (fun _ => by rw [Nat.add_assoc])) hm
        · have hrun : ∃ a', ∀ w', (Instr.fieldAt t (.pointer (some ⟨b, o, sp⟩)) f).run P w' = .ok (.pointer (some a')) w' := by
            have : ¬ i.size = 0 := by omega
            exact ⟨Addr.add ⟨b, o, sp⟩ fx.offset, fun w' => by simp [Instr.fieldAt, Instr.sureAddr, run_underlying hu, hf, fieldPlace, sizeOf, typeInfo, hi, this]⟩
          obtain ⟨a', ha'⟩ := hrun
          exact .pure hH ha' (.pt _ _ _ _ _ hlt (fun hh => absurd hh hg)) hm
    · exact hm.elim
  · exact hm.elim
end
section
variable {P : Program} {c : Ctx} {w : World} {h : AHeap} {K : KA}
theorem list_of_fn {f : Nat → Value} {n : Nat} : ((List.range n).map f).length = n ∧ ∀ j v, ((List.range n).map f)[j]? = some v → j < n ∧ v = f j := by
  refine ⟨by simp, fun j v hj => ?_⟩
  have hlt : j < n := by
    have := (List.getElem?_eq_some_iff.1 hj).1
    simpa using this
  refine ⟨hlt, ?_⟩
  simp [hlt] at hj
  exact hj.symm
/-- a variable is read -/
theorem run_load {t : TypeId} {i : TypeInfo} {d : TypeDesc} (hi : P.info? t = some i) (hd : P.underlying t = some d) {b o : Nat} (f : Nat → Value) (hc : ∀ j, j < i.size → w.cell? ⟨b, o + j, none⟩ = some (f j)) :
    (d.isRow = true → (Instr.loadAt t (.pointer (some ⟨b, o, none⟩))).run P w = .ok (.agg ((List.range i.size).map f).toArray) w) ∧
    (d.isRow = false → 0 < i.size → (Instr.loadAt t (.pointer (some ⟨b, o, none⟩))).run P w = .ok (f 0) w) := by
  refine ⟨fun hr => ?_, fun hr hp => ?_⟩
  · exact run_loadAt_mid w b o t _ d (fun j v hj => by obtain ⟨hlt, rfl⟩ := list_of_fn.2 j v hj; exact hc j hlt) hd hr (by simp [hi])
  · have h0 := hc 0 hp
    have hagg : (isAgg t).run P w = .ok false w := by
      unfold isAgg
      rw [Sem.run_bind, run_underlying hd w]
      cases d <;> simp_all
    simp only [Nat.add_zero] at h0
    simp [Instr.loadAt, Instr.sureAddr, loadVar, Sem.run_bind, hagg, load, Sem.run, h0]
theorem agg_of {f : Nat → Value} {cs : List AVal} (hr : ∀ j a, cs[j]? = some a → RV c w a (f j)) : RV c w (.agg cs) (.agg ((List.range cs.length).map f).toArray) := by
  refine .agg _ _ (by simp) (fun i a hi => ?_)
  have hlt : i < cs.length := (List.getElem?_eq_some_iff.1 hi).1
  have : ((List.range cs.length).map f).toArray.getD i undef = f i := by simp [hlt]
  rw [this]
  exact hr i a hi
/-- the world has grown: what was there is as it was -/
def Grew (w w' : World) : Prop := w.heap.size ≤ w'.heap.size ∧ ∀ b, b < w.heap.size → w'.heap[b]? = w.heap[b]?
theorem Grew.refl (w : World) : Grew w w := ⟨Nat.le_refl _, fun _ _ => rfl⟩
theorem Grew.trans {w w' w'' : World} (h : Grew w w') (k : Grew w' w'') : Grew w w'' := ⟨Nat.le_trans h.1 k.1, fun b hb => (k.2 b (Nat.lt_of_lt_of_le hb h.1)).trans (h.2 b hb)⟩
theorem Grew.cell {w' : World} (h : Grew w w') {a : Addr} {v : Value} (hc : w.cell? a = some v) : w'.cell? a = some v := by
  have hlt : a.block < w.heap.size := by
    unfold World.cell? at hc
    cases hq : w.heap[a.block]? with
    | none => rw [hq] at hc; cases hc
    | some o => exact (Array.getElem?_eq_some_iff.1 hq).1
  rw [← hc]; exact World.cell?_of_block (h.2 _ hlt)
theorem load_grew {t : TypeId} {x : AVal} {vx : Value} (hH : RH c h w) (hx : RV c w x vx) (hm : loadM P t x h K) : ∃ v y, (∀ w', Grew w w' → (Instr.loadAt t vx).run P w' = .ok v w') ∧ RV c w y v ∧ K y h := by
  replace hm := hm.out
  unfold loadM_b at hm
  split at hm
  · rename_i y
    obtain ⟨hok, hag, hsz, hk⟩ := hm
    obtain ⟨i, d, hi, hd, hs, _, hrow⟩ := okT_spec hok
    cases hx with
    | fp _ b off f hF hc hr =>
      have hl := fun w' (hw' : Grew w w') => run_load (w := w') hi hd (b := b) (o := off) f (fun j hj => hw'.cell (hc j _ (getD_some (by omega))))
      cases y with
      | agg cs =>
        have e : i.size = cs.length := by rw [hs, hsz]; rfl
        refine ⟨_, _, fun w' hw' => (hl w' hw').1 (by rw [← hrow, hag]; rfl), ?_, hk⟩
        rw [e]
        exact agg_of hr
      | _ => exact ⟨_, _, fun w' hw' => (hl w' hw').2 (by rw [← hrow, hag]; rfl) (by rw [hs, hsz]; exact Nat.one_pos), hr 0 _ rfl, hk⟩
  · rename_i r g i' j
    split at hm
    · rename_i g' s xs hrow
      obtain ⟨rfl, hok, hlt, hj, hag, hk⟩ := hm
      obtain ⟨i, d, hi, hd, hs, _, hr⟩ := okT_spec hok
      obtain ⟨hg, hz, _, hR⟩ := hH.row _ _ _ _ hrow
      have h1 := getD_some hlt
      cases hx with
      | pt _ _ _ _ a _ hh =>
        obtain rfl := hh hg
        have hcell : ∀ q, q < szT P t → ∃ v, w.cell? ⟨c.blk r, i' * c.sz r + j + q, none⟩ = some v ∧ RV c w ((xs.getD i' .dead).flat.getD (j + q) .dead) v := by
          intro q hq
          rw [Nat.add_assoc, hz]
          exact hR.val _ _ _ _ h1 (getD_some (by omega))
        obtain ⟨f, hf⟩ : ∃ f : Nat → Value, ∀ q, q < szT P t → w.cell? ⟨c.blk r, i' * c.sz r + j + q, none⟩ = some (f q) ∧ RV c w ((xs.getD i' .dead).flat.getD (j + q) .dead) (f q) := by
          refine ⟨fun q => (w.cell? ⟨c.blk r, i' * c.sz r + j + q, none⟩).getD undef, fun q hq => ?_⟩
          obtain ⟨v, h1, h2⟩ := hcell q hq
          simp only [h1, Option.getD_some]
          exact ⟨trivial, h2⟩
        have hl := fun w' (hw' : Grew w w') => run_load (w := w') hi hd (b := c.blk r) (o := i' * c.sz r + j) f (fun q hq => hw'.cell (hf q (by omega)).1)
        cases hq : agT P t with
        | true =>
          rw [hq] at hk hr
          refine ⟨_, _, fun w' hw' => (hl w' hw').1 hr.symm, ?_, hk⟩
          have hlen : (((xs.getD i' .dead).flat.drop j).take (szT P t)).length = i.size := by rw [List.length_take, List.length_drop]; omega
          rw [← hlen]
          refine agg_of (fun q a ha => ?_)
          have hq' : q < szT P t := by
            have := (List.getElem?_eq_some_iff.1 ha).1
            rw [List.length_take] at this; omega
          rw [List.getElem?_take_of_lt hq', List.getElem?_drop] at ha
          have := (hf q hq').2
          rwa [List.getD_eq_getElem?_getD, ha] at this
        | false =>
          rw [hq] at hk hr
          have h1 := hag hq
          exact ⟨_, _, fun w' hw' => (hl w' hw').2 hr.symm (by omega), (hf 0 (by omega)).2, hk⟩
    · exact hm.elim
  · exact hm.elim
theorem load_pure {t : TypeId} {x : AVal} {vx : Value} (hH : RH c h w) (hx : RV c w x vx) (hm : loadM P t x h K) : ∃ v y, (Instr.loadAt t vx).run P w = .ok v w ∧ RV c w y v ∧ K y h := by
  obtain ⟨v, y, h1, h2⟩ := load_grew hH hx hm
  exact ⟨v, y, h1 w (Grew.refl w), h2⟩
theorem load_ok {t : TypeId} {x : AVal} {vx : Value} (hH : RH c h w) (hx : RV c w x vx) (hm : loadM P t x h K) : Val P c w (Instr.loadAt t vx) K := by
  obtain ⟨v, y, h1, h2, h3⟩ := load_pure hH hx hm
  exact .pure hH h1 h2 h3
theorem run_part {e : TypeId} {i : TypeInfo} {d : TypeDesc} (hi : P.info? e = some i) (hd : P.underlying e = some d) (vs : Array Value) (o : Nat) :
    (d.isRow = true → (part e vs o).run P w = .ok (.agg (vs.extract o (o + i.size))) w) ∧ (∀ v, d.isRow = false → vs[o]? = some v → (part e vs o).run P w = .ok v w) := by
  refine ⟨fun hr => ?_, fun v hr hv => ?_⟩
  · have hagg : (isAgg e).run P w = .ok true w := by
      unfold isAgg
      rw [Sem.run_bind, run_underlying hd w]
      cases d <;> simp_all
    simp [part, Sem.run_bind, hagg, sizeOf, typeInfo, hi]
  · have hagg : (isAgg e).run P w = .ok false w := by
      unfold isAgg
      rw [Sem.run_bind, run_underlying hd w]
      cases d <;> simp_all
    simp [part, Sem.run_bind, hagg, hv]
theorem field_ok {t : TypeId} {x : AVal} {f : Nat} {vx : Value} (hH : RH c h w) (hx : RV c w x vx) (hm : fieldM P t x f h K) : PVal P c w h (Instr.field t vx f) K := by
  replace hm := hm.out
  unfold fieldM_b at hm
  split at hm
  · rename_i o e cs hfd
    obtain ⟨fs, fx, hu, hf, ho, ht⟩ := fdT_spec hfd
    obtain ⟨hok, h1, h2, hk⟩ := hm
    obtain ⟨i, d, hi, hd, hsz, _, hr⟩ := okT_spec hok
    subst ho; subst ht
    cases hx with
    | agg _ vs hl hv =>
      have hp := fun w' => run_part (P := P) (w := w') hi hd vs fx.offset
      cases hq : agT P fx.type with
      | true =>
        rw [hq] at hk hr
        refine .pure hH (v := .agg (vs.extract fx.offset (fx.offset + i.size))) (fun w' => ?_) (.agg _ _ ?_ (fun q a ha => ?_)) hk
        · simp [Instr.field, run_underlying hu, hf, asAgg, (hp w').1 hr.symm]
        · show _ = ((cs.drop fx.offset).take (szT P fx.type)).length
          rw [Array.size_extract, List.length_take, List.length_drop]; omega
        · have ha : ((cs.drop fx.offset).take (szT P fx.type))[q]? = some a := ha
          have hq' : q < szT P fx.type := by
            have := (List.getElem?_eq_some_iff.1 ha).1
            rw [List.length_take] at this; omega
          rw [List.getElem?_take_of_lt hq', List.getElem?_drop] at ha
          have := hv _ _ ha
          have e2 : (vs.extract fx.offset (fx.offset + i.size)).getD q undef = vs.getD (fx.offset + q) undef := by
            rw [Array.getD_eq_getD_getElem?, Array.getD_eq_getD_getElem?, Array.getElem?_extract]
            rw [if_pos (by omega)]
          rw [e2]; exact this
      | false =>
        rw [hq] at hk hr
        have h3 := h2 hq
        have hlt : fx.offset < cs.length := by omega
        have := hv _ _ (getD_some hlt)
        have hlt' : fx.offset < vs.size := by omega
        have hp2 := fun w' => (hp w').2 vs[fx.offset] hr.symm (by simp [hlt'])
        refine .pure hH (v := vs[fx.offset]) (fun w' => ?_) ?_ hk
        · simp [Instr.field, run_underlying hu, hf, asAgg, hp2 w']
        · have e2 : vs.getD fx.offset undef = vs[fx.offset] := by simp [hlt']
          rw [e2] at this; exact this
  · exact hm.elim
end
def updN {α : Type} (f : Nat → α) (d : Nat) (x : α) : Nat → α := fun t => if t = d then x else f t
theorem updN_same {α : Type} (f : Nat → α) (d : Nat) (x : α) : updN f d x d = x := by simp [updN]
theorem updN_ne {α : Type} (f : Nat → α) {d t : Nat} (x : α) (h : t ≠ d) : updN f d x t = f t := by simp [updN, h]
section
variable {P : Program} {c : Ctx} {w w' : World} {h h' : AHeap} {K : KA}
/-- row r is laid anew, with a stamp of its own -/
theorem row_new (hH : RH c h w) {r s cap b : Nat} {xs : List AVal} (hr : h'[r]? = some (.row c.ctr s xs)) (ho : ∀ k, k ≠ r → h'[k]? = h[k]?)
    (hos : w'.os = w.os) (htp : w'.tape = w.tape) (hou : w'.output = w.output) (hsz : w.heap.size ≤ w'.heap.size) (hoth : ∀ k, k < w.heap.size → k ≠ b → w'.heap[k]? = w.heap[k]?)
    (hF : ¬ c.F b) (hb : b < w'.heap.size) (hinj : ∀ r' g', c.gen r' = some g' → r' ≠ r → c.blk r' ≠ b)
    (hth : ∀ o, o < cap → (w'.cell? ⟨b, o, none⟩).isSome = true ∧ w'.frozen? ⟨b, o, none⟩ = false) (hfit : xs.length * s ≤ cap) (hlen : ∀ (i : Nat) (x : AVal), xs[i]? = some x → x.flat.length = s)
    (hv : ∀ (i : Nat) (x : AVal) (j : Nat) (a : AVal), xs[i]? = some x → x.flat[j]? = some a → ∃ v, w'.cell? ⟨b, i * s + j, none⟩ = some v ∧ RV c w a v) :
    ∃ c', Ext c w c' w' ∧ RH c' h' w' ∧ c'.gen r = some c.ctr ∧ c'.blk r = b ∧ c'.sz r = s ∧ c'.cap r = cap ∧ c.ctr < c'.ctr := by
  have hblk : ∀ k, k < w.heap.size → k ≠ b → ∀ o, w'.cell? ⟨k, o, none⟩ = w.cell? ⟨k, o, none⟩ ∧ w'.frozen? ⟨k, o, none⟩ = w.frozen? ⟨k, o, none⟩ := fun k hk hne o =>
    ⟨World.cell?_of_block (a := ⟨k, o, none⟩) (hoth k hk hne), World.frozen?_of_block (a := ⟨k, o, none⟩) (hoth k hk hne)⟩
  have hbF : ∀ k, c.F k → k ≠ b := fun k hk e => hF (e ▸ hk)
  let c' : Ctx := { c with ctr := c.ctr + 1, gen := updN c.gen r (some c.ctr), blk := updN c.blk r b, sz := updN c.sz r s, cap := updN c.cap r cap }
  have hE : Ext c w c' w' := by
    refine ⟨rfl, rfl, fun _ h => h, Nat.le_succ _, fun r' g hg hh => ?_, fun k hk o => (hblk k (hH.Fs k hk) (hbF k hk) o).1⟩
    by_cases hrr : r' = r
    · subst hrr
      have : c'.gen r' = some c.ctr := updN_same _ _ _
      rw [this] at hh
      cases hh
      omega
    · exact ⟨(updN_ne c.gen (some c.ctr) hrr).symm.trans hh, updN_ne _ _ hrr, updN_ne _ _ hrr, updN_ne _ _ hrr⟩
  refine ⟨c', hE, ⟨?_, ?_, hH.Fb, ?_, ?_, ?_, ?_⟩, updN_same _ _ _, updN_same _ _ _, updN_same _ _ _, updN_same _ _ _, Nat.lt_succ_self _⟩
  · refine hH.below.trans ⟨hos, htp, hou, hsz, fun k hk => hoth k (Nat.lt_of_lt_of_le hk hH.base) (hbF k (hH.Fb k hk))⟩
  · exact Nat.le_trans hH.base hsz
  · exact fun k hk => Nat.lt_of_lt_of_le (hH.Fs k hk) hsz
  · intro r' g hg
    by_cases hrr : r' = r
    · subst hrr
      have h1 : c'.gen r' = some c.ctr := updN_same _ _ _
      have h2 : c'.sz r' = s := updN_same _ _ _
      rw [h1] at hg
      cases hg
      exact ⟨Nat.lt_succ_self _, xs, by rw [h2]; exact hr⟩
    · have h1 : c'.gen r' = c.gen r' := updN_ne _ _ hrr
      have h2 : c'.sz r' = c.sz r' := updN_ne _ _ hrr
      rw [h1] at hg
      obtain ⟨k1, ys, k2⟩ := hH.live r' g hg
      exact ⟨Nat.lt_succ_of_lt k1, ys, by rw [h2, ho _ hrr]; exact k2⟩
  · intro r' g s' ys hrow
    by_cases hrr : r' = r
    · subst hrr
      rw [hr] at hrow
      cases hrow
      refine ⟨updN_same _ _ _, updN_same _ _ _, by rw [show c'.blk r' = b from updN_same _ _ _]; exact hF, ?_⟩
      rw [show c'.blk r' = b from updN_same _ _ _, show c'.cap r' = cap from updN_same _ _ _]
      refine ⟨hb, hth, hfit, hlen, fun i x j a h1 h2 => ?_⟩
      obtain ⟨v, k1, k2⟩ := hv i x j a h1 h2
      exact ⟨v, k1, k2.mono hE⟩
    · rw [ho _ hrr] at hrow
      obtain ⟨k1, k2, k3, k4⟩ := hH.row r' g s' ys hrow
      have hne := hinj r' g k1 hrr
      refine ⟨(updN_ne c.gen (some c.ctr) hrr).trans k1, (updN_ne _ _ hrr).trans k2, by rw [show c'.blk r' = c.blk r' from updN_ne _ _ hrr]; exact k3, ?_⟩
      rw [show c'.blk r' = c.blk r' from updN_ne _ _ hrr, show c'.cap r' = c.cap r' from updN_ne _ _ hrr]
      refine ⟨Nat.lt_of_lt_of_le k4.lt hsz, fun o ho' => ?_, k4.fit, k4.len, fun i x j a h1 h2 => ?_⟩
      · rw [(hblk _ k4.lt hne o).1, (hblk _ k4.lt hne o).2]; exact k4.there o ho'
      · obtain ⟨v, q1, q2⟩ := k4.val i x j a h1 h2
        exact ⟨v, by rw [(hblk _ k4.lt hne _).1]; exact q1, q2.mono hE⟩
  · intro r1 r2 g1 g2 h1 h2 he
    by_cases e1 : r1 = r
    · by_cases e2 : r2 = r
      · rw [e1, e2]
      · subst e1
        rw [show c'.blk r1 = b from updN_same _ _ _, show c'.blk r2 = c.blk r2 from updN_ne _ _ e2] at he
        exact absurd he.symm (hinj r2 g2 ((updN_ne c.gen (some c.ctr) e2).symm.trans h2) e2)
    · by_cases e2 : r2 = r
      · subst e2
        rw [show c'.blk r2 = b from updN_same _ _ _, show c'.blk r1 = c.blk r1 from updN_ne _ _ e1] at he
        exact absurd he (hinj r1 g1 ((updN_ne c.gen (some c.ctr) e1).symm.trans h1) e1)
      · rw [show c'.blk r1 = c.blk r1 from updN_ne _ _ e1, show c'.blk r2 = c.blk r2 from updN_ne _ _ e2] at he
        exact hH.inj r1 r2 g1 g2 ((updN_ne c.gen (some c.ctr) e1).symm.trans h1) ((updN_ne c.gen (some c.ctr) e2).symm.trans h2) he
/-- row r is written, its stamp stays -/
theorem row_set (hH : RH c h w) {r g s : Nat} {xs0 xs : List AVal} (hr0 : h[r]? = some (.row g s xs0)) (hr : h'[r]? = some (.row g s xs)) (ho : ∀ k, k ≠ r → h'[k]? = h[k]?)
    (hos : w'.os = w.os) (htp : w'.tape = w.tape) (hou : w'.output = w.output) (hsz : w.heap.size = w'.heap.size) (hoth : ∀ k, k < w.heap.size → k ≠ c.blk r → w'.heap[k]? = w.heap[k]?)
    (hth : ∀ o, o < c.cap r → (w'.cell? ⟨c.blk r, o, none⟩).isSome = true ∧ w'.frozen? ⟨c.blk r, o, none⟩ = false) (hfit : xs.length * s ≤ c.cap r) (hlen : ∀ (i : Nat) (x : AVal), xs[i]? = some x → x.flat.length = s)
    (hv : ∀ (i : Nat) (x : AVal) (j : Nat) (a : AVal), xs[i]? = some x → x.flat[j]? = some a → ∃ v, w'.cell? ⟨c.blk r, i * s + j, none⟩ = some v ∧ RV c w a v) :
    Ext c w c w' ∧ RH c h' w' := by
  obtain ⟨hg, hz, hF, hR⟩ := hH.row r g s xs0 hr0
  have hblk : ∀ k, k < w.heap.size → k ≠ c.blk r → ∀ o, w'.cell? ⟨k, o, none⟩ = w.cell? ⟨k, o, none⟩ ∧ w'.frozen? ⟨k, o, none⟩ = w.frozen? ⟨k, o, none⟩ := fun k hk hne o =>
    ⟨World.cell?_of_block (a := ⟨k, o, none⟩) (hoth k hk hne), World.frozen?_of_block (a := ⟨k, o, none⟩) (hoth k hk hne)⟩
  have hbF : ∀ k, c.F k → k ≠ c.blk r := fun k hk e => hF (e ▸ hk)
  have hE : Ext c w c w' := ⟨rfl, rfl, fun _ h => h, Nat.le_refl _, fun _ _ _ h => ⟨h, rfl, rfl, rfl⟩, fun k hk o => (hblk k (hH.Fs k hk) (hbF k hk) o).1⟩
  refine ⟨hE, ⟨?_, hsz ▸ hH.base, hH.Fb, fun k hk => hsz ▸ hH.Fs k hk, ?_, ?_, hH.inj⟩⟩
  · exact hH.below.trans ⟨hos, htp, hou, Nat.le_of_eq hsz, fun k hk => hoth k (Nat.lt_of_lt_of_le hk hH.base) (hbF k (hH.Fb k hk))⟩
  · intro r' g' hg'
    by_cases hrr : r' = r
    · subst hrr
      have : g' = g := by rw [hg] at hg'; cases hg'; rfl
      subst this
      exact ⟨(hH.live _ _ hg').1, xs, by rw [hz]; exact hr⟩
    · rw [ho _ hrr]; exact hH.live r' g' hg'
  · intro r' g' s' ys hrow
    by_cases hrr : r' = r
    · subst hrr
      rw [hr] at hrow
      cases hrow
      refine ⟨hg, hz, hF, hsz ▸ hR.lt, hth, hfit, hlen, fun i x j a h1 h2 => ?_⟩
      obtain ⟨v, k1, k2⟩ := hv i x j a h1 h2
      exact ⟨v, k1, k2.mono hE⟩
    · rw [ho _ hrr] at hrow
      obtain ⟨k1, k2, k3, k4⟩ := hH.row r' g' s' ys hrow
      have hne : c.blk r' ≠ c.blk r := fun e => hrr (hH.inj r' r g' g k1 hg e)
      refine ⟨k1, k2, k3, hsz ▸ k4.lt, fun o ho' => ?_, k4.fit, k4.len, fun i x j a h1 h2 => ?_⟩
      · rw [(hblk _ k4.lt hne o).1, (hblk _ k4.lt hne o).2]; exact k4.there o ho'
      · obtain ⟨v, q1, q2⟩ := k4.val i x j a h1 h2
        exact ⟨v, by rw [(hblk _ k4.lt hne _).1]; exact q1, q2.mono hE⟩
/-- a new block -/
theorem new_ok (hH : RH c h w) {cs : Array Value} {e s : Nat} {xs : List AVal} (w1 : World) (hw1 : w1.heap = w.heap ∧ w1.os = w.os ∧ w1.tape = w.tape ∧ w1.output = w.output) (hfit : xs.length * s ≤ cs.size)
    (hlen : ∀ (i : Nat) (x : AVal), xs[i]? = some x → x.flat.length = s) (hv : ∀ (i : Nat) (x : AVal) (j : Nat) (a : AVal), xs[i]? = some x → x.flat[j]? = some a → ∃ v, cs[i * s + j]? = some v ∧ RV c w a v) :
    ∃ c', Ext c w c' (w1.alloc (.cells cs e)) ∧ RH c' (h ++ [.row c.ctr s xs]) (w1.alloc (.cells cs e)) ∧ c'.gen h.length = some c.ctr ∧ c'.blk h.length = w.heap.size ∧ c'.sz h.length = s ∧ c'.cap h.length = cs.size ∧ c.ctr < c'.ctr := by
  obtain ⟨e1, e2, e3, e4⟩ := hw1
  have hsz : w1.heap.size = w.heap.size := by rw [e1]
  have hnew : (w1.alloc (.cells cs e)).heap[w.heap.size]? = some (.cells cs e) := by rw [← hsz]; exact heap_alloc_new w1 _
  have hcell : ∀ o, (w1.alloc (.cells cs e)).cell? ⟨w.heap.size, o, none⟩ = cs[o]? := fun o => by
    rw [← hsz]; exact World.cell?_alloc_new w1 _ _ o
  have hnF : ¬ c.F w.heap.size := fun hf => Nat.lt_irrefl _ (hH.Fs _ hf)
  refine row_new hH (by simp) (fun k hk => ?_) e2 e3 e4 (by simp [hsz]) (fun k hk hne => ?_) hnF (by simp [hsz]) (fun r' g' hg hne he => ?_) (fun o ho => ⟨?_, ?_⟩) hfit hlen (fun i x j a h1 h2 => ?_)
  · rcases Nat.lt_or_ge k h.length with hl | hl
    · rw [List.getElem?_append_left hl]
    · rw [List.getElem?_eq_none (by simp; omega), List.getElem?_eq_none hl]
  · rw [← e1]; exact Below.heap_alloc w1 _ k (by omega)
  · obtain ⟨_, ys, hy⟩ := hH.live r' g' hg
    exact absurd he (by have := ((hH.row r' g' _ ys hy).2.2.2).lt; omega)
  · rw [hcell]; simp [ho]
  · simp [World.frozen?, hnew]
  · obtain ⟨v, k1, k2⟩ := hv i x j a h1 h2
    exact ⟨v, by rw [hcell]; exact k1, k2⟩
end
theorem tape_setCells (b : Nat) : ∀ (vs : List Value) (o : Nat) (w : World), (w.setCells b o vs).tape = w.tape ∧ (w.setCells b o vs).heap.size = w.heap.size
  | [], _, _ => ⟨rfl, rfl⟩
  | v :: r, o, w => by
    obtain ⟨h1, h2⟩ := tape_setCells b r (o + 1) (w.setCell ⟨b, o, none⟩ v)
    exact ⟨h1.trans rfl, h2.trans (by simp [World.setCell])⟩
theorem ofV_flat (z : Value) : (ofV z).flat.length = z.cells.size ∧ ∀ (j : Nat) (a : AVal), (ofV z).flat[j]? = some a → ∃ u, z.cells[j]? = some u ∧ a = .v u := by
  cases z with
  | agg cs =>
    refine ⟨by simp [ofV, AVal.flat, Value.cells], fun j a ha => ?_⟩
    simp [ofV, AVal.flat] at ha
    obtain ⟨u, h1, rfl⟩ := ha
    exact ⟨u, by simpa [Value.cells] using h1, rfl⟩
  | _ =>
    refine ⟨rfl, fun j a ha => ?_⟩
    have hj : j = 0 := by
      have := (List.getElem?_eq_some_iff.1 ha).1
      simpa [ofV, AVal.flat] using this
    subst hj
    simp [ofV, AVal.flat] at ha
    exact ⟨_, by simp [Value.cells], ha.symm⟩
section
variable {P : Program} {c : Ctx} {w : World} {h : AHeap} {K : KA}
theorem c1_one {a : AVal} {u : Value} (hr : RV c w a u) (h1 : a.c1 = true) : u.oneCell' = true := by
  cases hr <;> first | rfl | exact h1 | cases h1
theorem whole_cells {y : AVal} {v : Value} (hy : RV c w y v) (hw : y.whole = true) :
    v.cells.size = y.flat.length ∧ (∀ (j : Nat) (a : AVal), y.flat[j]? = some a → ∃ u, v.cells[j]? = some u ∧ RV c w a u) ∧ ∀ u ∈ v.cells.toList, u.oneCell' = true := by
  have one : y.flat = [y] → v.cells = #[v] → v.cells.size = y.flat.length ∧ (∀ (j : Nat) (a : AVal), y.flat[j]? = some a → ∃ u, v.cells[j]? = some u ∧ RV c w a u) ∧ ∀ u ∈ v.cells.toList, u.oneCell' = true := by
    intro hf hv
    have hc : y.c1 = true := by
      unfold AVal.whole at hw
      rw [hf] at hw
      simpa using hw
    rw [hf, hv]
    refine ⟨rfl, fun j a ha => ?_, fun u hu => ?_⟩
    · have hj : j = 0 := by
        have := (List.getElem?_eq_some_iff.1 ha).1
        simpa using this
      subst hj
      simp at ha
      subst ha
      exact ⟨v, rfl, hy⟩
    · simp at hu
      subst hu
      exact c1_one hy hc
  cases hy with
  | agg cs vs hl hh =>
    refine ⟨hl, fun j a ha => ?_, fun u hu => ?_⟩
    · have hj : j < cs.length := (List.getElem?_eq_some_iff.1 ha).1
      have hj' : j < vs.size := by omega
      have := hh j a ha
      refine ⟨vs[j], by simp [Value.cells, hj'], ?_⟩
      simpa [hj'] using this
    · obtain ⟨j, hj, rfl⟩ := List.getElem_of_mem hu
      have hj1 : j < vs.size := by simpa [Value.cells] using hj
      have hj' : j < cs.length := by omega
      have h1 := hh j cs[j] (List.getElem?_eq_getElem hj')
      have h2 : (cs[j]).c1 = true := List.all_eq_true.1 hw _ (List.getElem_mem hj')
      have h3 := c1_one h1 h2
      simpa [hj1, Value.cells] using h3
  | v x =>
    refine one rfl ?_
    have hc : v.oneCell' = true := by simpa [AVal.whole, AVal.flat, AVal.c1] using hw
    cases v <;> first | rfl | cases hc
  | nil => exact one rfl rfl
  | sl => exact one rfl rfl
  | fp => exact one rfl rfl
  | rf => exact one rfl rfl
  | pt => exact one rfl rfl
  | ifc => exact one rfl rfl
  | fn => exact one rfl rfl
  | tup => simp [AVal.whole, AVal.flat, AVal.c1] at hw
  | dead => simp [AVal.whole, AVal.flat, AVal.c1] at hw
/-- where a cell of a row lies -/
theorem cell_ix {i i' s j j' : Nat} (h1 : j < s) (h2 : j' < s) (he : i * s + j = i' * s + j') : i = i' ∧ j = j' := by
  have hi : i = i' := by
    rcases Nat.lt_trichotomy i i' with hl | hl | hl
    · have := Nat.mul_le_mul_right s (show i + 1 ≤ i' from hl)
      rw [Nat.add_mul] at this; omega
    · exact hl
    · have := Nat.mul_le_mul_right s (show i' + 1 ≤ i from hl)
      rw [Nat.add_mul] at this; omega
  subst hi
  exact ⟨rfl, by omega⟩
theorem put_flat {x : AVal} {j : Nat} {cs : List AVal} (h1 : j + cs.length ≤ x.flat.length) (hc : cs.all AVal.c1 = true) (h0 : x.isAgg = false → 0 < cs.length) :
    (putA x j cs).flat.length = x.flat.length ∧ ∀ (q : Nat) (a : AVal), (putA x j cs).flat[q]? = some a → (j ≤ q ∧ q < j + cs.length ∧ cs[q - j]? = some a) ∨ ((q < j ∨ j + cs.length ≤ q) ∧ x.flat[q]? = some a) := by
  have one : x.isAgg = false → x.flat = [x] → putA x j cs = cs.headD .dead → (putA x j cs).flat.length = x.flat.length ∧ ∀ (q : Nat) (a : AVal), (putA x j cs).flat[q]? = some a → (j ≤ q ∧ q < j + cs.length ∧ cs[q - j]? = some a) ∨ ((q < j ∨ j + cs.length ≤ q) ∧ x.flat[q]? = some a) := by
    intro hx hf hp
    rw [hf] at h1
    simp at h1
    have := h0 hx
    match cs, this with
    | [a0], _ =>
      simp at h1
      subst h1
      have hc0 : a0.c1 = true := by simpa using hc
      have hfl : (putA x 0 [a0]).flat = [a0] := by
        rw [hp]
        show a0.flat = [a0]
        cases a0 <;> first | rfl | cases hc0
      rw [hfl, hf]
      refine ⟨rfl, fun q a hq => .inl ?_⟩
      have hq0 : q = 0 := by
        have := (List.getElem?_eq_some_iff.1 hq).1
        simpa using this
      subst hq0
      exact ⟨Nat.le_refl _, by simp, hq⟩
    | _ :: _ :: _, _ => simp at h1; omega
  cases x with
  | agg ds =>
    have h1 : j + cs.length ≤ ds.length := h1
    refine ⟨?_, fun q a hq => ?_⟩
    · show (ds.take j ++ (cs ++ ds.drop (j + cs.length))).length = ds.length
      simp; omega
    · have hq : (ds.take j ++ (cs ++ ds.drop (j + cs.length)))[q]? = some a := hq
      have hl : (ds.take j).length = j := by rw [List.length_take]; omega
      rcases Nat.lt_or_ge q j with h2 | h2
      · rw [List.getElem?_append_left (by omega), List.getElem?_take_of_lt h2] at hq
        exact .inr ⟨.inl h2, hq⟩
      · rw [List.getElem?_append_right (by omega), hl] at hq
        rcases Nat.lt_or_ge (q - j) cs.length with h3 | h3
        · rw [List.getElem?_append_left h3] at hq
          exact .inl ⟨h2, by omega, hq⟩
        · rw [List.getElem?_append_right h3, List.getElem?_drop] at hq
          refine .inr ⟨.inr (by omega), ?_⟩
          rw [show j + cs.length + (q - j - cs.length) = q by omega] at hq
          exact hq
  | _ => exact one rfl rfl rfl
theorem run_storeAt {t : TypeId} {i : TypeInfo} (hi : P.info? t = some i) {b o : Nat} {v : Value} (hs : v.cells.size = i.size) (ht : ∀ j, j < i.size → (w.cell? ⟨b, o + j, none⟩).isSome = true ∧ w.frozen? ⟨b, o + j, none⟩ = false) (h1 : ∀ u ∈ v.cells.toList, u.oneCell' = true) :
    (Instr.storeAt t (.pointer (some ⟨b, o, none⟩)) v).run P w = .ok () (w.setCells b o v.cells.toList) := by
  have := run_storeCells_cells (P := P) b o v.cells.toList 0 w (fun j hj => by simpa using (ht j (by simpa [hs] using hj)).1) (fun j hj => by simpa using (ht j (by simpa [hs] using hj)).2) h1
  simp only [Nat.add_zero] at this
  simp [Instr.storeAt, Instr.sureAddr, storeVar, sizeOf, typeInfo, hi, hs, this]
/-- what an operation that yields nothing comes to -/
def ValU (P : Program) (c : Ctx) (w : World) (s : Sem Unit) (K : KA) : Prop :=
  ∃ w' c' h', s.run P w = .ok () w' ∧ Ext c w c' w' ∧ RH c' h' w' ∧ K (.v undef) h'
theorem store_ok {t : TypeId} {x y : AVal} {vx vy : Value} (hH : RH c h w) (hx : RV c w x vx) (hy : RV c w y vy) (hm : storeM P t x y h K) : ValU P c w (Instr.storeAt t vx vy) K := by
  replace hm := hm.out
  unfold storeM_b at hm
  split at hm
  · rename_i r g i' j
    split at hm
    · rename_i g' s xs hrow
      obtain ⟨rfl, hok, hlt, hs, hpos, hwh, hj, hk⟩ := hm
      obtain ⟨i, d, hi, hd, hsz, _, _⟩ := okT_spec hok
      obtain ⟨hg, hz, hF, hR⟩ := hH.row _ _ _ _ hrow
      have hx1 := getD_some hlt
      have hlen := hR.len _ _ hx1
      obtain ⟨hcs, hcv, hc1⟩ := whole_cells hy hwh
      have hend : i' * s + s ≤ c.cap r := by
        have h1 : i' * s + s ≤ xs.length * s := by rw [← Nat.succ_mul]; exact Nat.mul_le_mul_right s hlt
        exact Nat.le_trans h1 hR.fit
      cases hx with
      | pt _ _ _ _ a _ hh =>
        obtain rfl := hh hg
        rw [hz]
        have hth : ∀ q, q < i.size → (w.cell? ⟨c.blk r, i' * s + j + q, none⟩).isSome = true ∧ w.frozen? ⟨c.blk r, i' * s + j + q, none⟩ = false := fun q hq => hR.there _ (by omega)
        have hvl : vy.cells.toList.length = y.flat.length := by rw [Array.length_toList, hcs]
        have hin : ∀ q, q < vy.cells.toList.length → (w.cell? ⟨c.blk r, i' * s + j + q, none⟩).isSome = true := fun q hq => (hth q (by omega)).1
        obtain ⟨e1, e2⟩ := tape_setCells (c.blk r) vy.cells.toList (i' * s + j) w
        have hlx : (xs.set i' (putA (xs.getD i' .dead) j y.flat)).length = xs.length := by simp
        obtain ⟨p1, p2⟩ := put_flat (x := xs.getD i' .dead) (j := j) (cs := y.flat) (by omega) hwh (fun _ => hpos)
        have hset := row_set (w' := w.setCells (c.blk r) (i' * s + j) vy.cells.toList) (h' := h.set r (.row g s (xs.set i' (putA (xs.getD i' .dead) j y.flat)))) hH hrow
          (by rw [List.getElem?_set_self (List.getElem?_eq_some_iff.1 hrow).1]) (fun k hk => List.getElem?_set_ne (Ne.symm hk))
          (World.os_setCells _ _ _ _) e1 (World.output_setCells _ _ _ _) e2.symm (fun k hk hne => World.heap_setCells_other _ _ _ _ hk hne)
          (fun o ho => ⟨World.isSome_setCells _ _ _ _ _ (hR.there o ho).1, by rw [World.frozen?_setCells]; exact (hR.there o ho).2⟩)
          (by rw [hlx]; exact hR.fit)
          (fun k x hk => by
            rcases Nat.decEq k i' with hne | rfl
            · rw [List.getElem?_set_ne (Ne.symm hne)] at hk; exact hR.len _ _ hk
            · rw [List.getElem?_set_self hlt] at hk
              cases hk
              rw [p1]; exact hlen)
          (fun k x q a hk ha => by
            rcases Nat.decEq k i' with hne | rfl
            · rw [List.getElem?_set_ne (Ne.symm hne)] at hk
              obtain ⟨v, q1, q2⟩ := hR.val _ _ _ _ hk ha
              have hql : q < s := by rw [← hR.len _ _ hk]; exact (List.getElem?_eq_some_iff.1 ha).1
              refine ⟨v, ?_, q2⟩
              rw [World.cell?_setCells_out]
              · exact q1
              · intro _ _
                show k * s + q < i' * s + j ∨ i' * s + j + vy.cells.toList.length ≤ k * s + q
                rcases Nat.lt_or_ge (k * s + q) (i' * s + j) with hlo | hlo
                · exact .inl hlo
                · rcases Nat.lt_or_ge (k * s + q) (i' * s + j + vy.cells.toList.length) with hhi | hhi
                  · obtain ⟨e, _⟩ := cell_ix (i := k) (i' := i') (j := q) (j' := k * s + q - i' * s) hql (by omega) (by omega)
                    exact absurd e hne
                  · exact .inr hhi
            · rw [List.getElem?_set_self hlt] at hk
              cases hk
              rcases p2 q a ha with ⟨q1, q2, q3⟩ | ⟨q1, q3⟩
              · obtain ⟨u, u1, u2⟩ := hcv _ _ q3
                refine ⟨u, ?_, u2⟩
                have hin2 := World.cell?_setCells_in (c.blk r) vy.cells.toList (k * s + j) w hin (q - j) (by omega)
                rw [show k * s + q = k * s + j + (q - j) by omega, hin2]
                rw [← u1]
                simp
              · obtain ⟨v, v1, v2⟩ := hR.val _ _ _ _ hx1 q3
                refine ⟨v, ?_, v2⟩
                rw [World.cell?_setCells_out]
                · exact v1
                · intro _ _
                  show k * s + q < k * s + j ∨ k * s + j + vy.cells.toList.length ≤ k * s + q
                  omega)
        exact ⟨_, c, _, run_storeAt hi (by omega) hth hc1, hset.1, hset.2, hk⟩
    · exact hm.elim
  · exact hm.elim
/-- what an operation that makes a block comes to -/
def GVal (P : Program) (c : Ctx) (w : World) (s : Sem Value) (K : KA) : Prop :=
  ∃ v w' c' x h', s.run P w = .ok v w' ∧ Ext c w c' w' ∧ RH c' h' w' ∧ RV c' w' x v ∧ K x h' ∧ Grew w w'
theorem GVal.val {s : Sem Value} (hv : GVal P c w s K) : Val P c w s K := by
  obtain ⟨v, w', c', x, h', h1, h2, h3, h4, h5, _⟩ := hv
  exact ⟨v, w', c', x, h', h1, h2, h3, h4, h5⟩
theorem grew_alloc (w1 : World) (h : w1.heap = w.heap) (o : Obj) : Grew w (w1.alloc o) := by
  refine ⟨by simp [h], fun b hb => ?_⟩
  rw [← h]; exact Below.heap_alloc w1 o b (by rw [h]; exact hb)
theorem box_ok {e : TypeId} {x : AVal} {v : Value} (hH : RH c h w) (hx : RV c w x v) (hm : boxM e x h K) : GVal P c w (Instr.box e v) K := by
  replace hm := hm.out
  obtain ⟨hwh, hm⟩ := hm
  obtain ⟨h1, h2, h3⟩ := whole_cells hx hwh
  obtain ⟨c', k1, k2, k3, k4, k5, k6, k7⟩ := new_ok (e := e) (cs := v.cells) (s := x.flat.length) (xs := [x]) hH w ⟨rfl, rfl, rfl, rfl⟩ (by simp [h1]) (fun i y hy => by
    have hi : i = 0 := by
      have := (List.getElem?_eq_some_iff.1 hy).1
      simpa using this
    subst hi
    cases hy; rfl) (fun i y j a hy ha => by
    have hi : i = 0 := by
      have := (List.getElem?_eq_some_iff.1 hy).1
      simpa using this
    subst hi
    cases hy
    simpa using h2 j a ha)
  refine ⟨.pointer (some ⟨w.heap.size, 0, none⟩), _, c', _, _, ?_, k1, k2, .pt _ _ _ _ _ k7 (fun _ => ?_), hm c.ctr, grew_alloc w rfl _⟩
  · exact rfl
  · rw [k4, k5]; simp
theorem alloc_ok {e : TypeId} (hH : RH c h w) (hm : allocM P e h K) : GVal P c w (Instr.alloc e true (.tuple #[])) K := by
  replace hm := hm.out
  unfold allocM_b at hm
  split at hm
  · rename_i z hz
    obtain ⟨hok, hs, hm⟩ := hm
    obtain ⟨i, d, hi, hd, hsz, _, _⟩ := okT_spec hok
    obtain ⟨zv, hzv, rfl⟩ : ∃ zv, i.zero = some zv ∧ z = ofV zv := by
      unfold zrT at hz
      rw [hi] at hz
      simp at hz
      obtain ⟨zv, a, b⟩ := hz
      exact ⟨zv, a, b.symm⟩
    obtain ⟨z1, z2⟩ := ofV_flat zv
    obtain ⟨c', k1, k2, k3, k4, k5, k6, k7⟩ := new_ok (e := e) (cs := zv.cells) (s := szT P e) (xs := [ofV zv]) hH w ⟨rfl, rfl, rfl, rfl⟩ (by simp; omega) (fun i y hy => by
      have hi : i = 0 := by
        have := (List.getElem?_eq_some_iff.1 hy).1
        simpa using this
      subst hi
      cases hy; exact hs.symm) (fun i y j a hy ha => by
      have hi : i = 0 := by
        have := (List.getElem?_eq_some_iff.1 hy).1
        simpa using this
      subst hi
      cases hy
      obtain ⟨u, u1, rfl⟩ := z2 j a ha
      exact ⟨u, by simpa using u1, .v u⟩)
    refine ⟨.pointer (some ⟨w.heap.size, 0, none⟩), _, c', _, _, ?_, k1, k2, .pt _ _ _ _ _ k7 (fun _ => ?_), hm c.ctr, grew_alloc w rfl _⟩
    · simp [Instr.alloc, zeroValue, typeInfo, hi, hzv, newVar, newRow]
    · rw [k4, k5]; simp
  · exact hm.elim
end
theorem foldl_set (o : Nat) : ∀ (l : List Value) (n : Nat) (cs : Array Value), ((l.zipIdx n).foldl (fun cs (x : Value × Nat) => cs.setIfInBounds (o + x.2) x.1) cs).size = cs.size ∧
    ∀ k, o + n + l.length ≤ cs.size → ((l.zipIdx n).foldl (fun cs (x : Value × Nat) => cs.setIfInBounds (o + x.2) x.1) cs)[k]? = if o + n ≤ k ∧ k < o + n + l.length then l[k - (o + n)]? else cs[k]?
  | [], n, cs => ⟨rfl, fun k _ => by
      have : ¬ (o + n ≤ k ∧ k < o + n + ([] : List Value).length) := by simp
      rw [if_neg this]; rfl⟩
  | v :: l, n, cs => by
    obtain ⟨h1, h2⟩ := foldl_set o l (n + 1) (cs.setIfInBounds (o + n) v)
    refine ⟨h1.trans (by simp), fun k hk => ?_⟩
    simp only [List.zipIdx_cons, List.foldl_cons]
    simp only [List.length_cons] at hk ⊢
    rw [h2 k (by simp; omega)]
    by_cases hin : o + (n + 1) ≤ k ∧ k < o + (n + 1) + l.length
    · rw [if_pos hin, if_pos (by omega)]
      rw [show k - (o + n) = (k - (o + (n + 1))) + 1 by omega, List.getElem?_cons_succ]
    · rw [if_neg hin]
      by_cases he : k = o + n
      · subst he
        rw [if_pos (by omega)]
        have hlt : o + n < cs.size := by omega
        rw [Array.getElem?_setIfInBounds]
        simp [hlt]
      · rw [if_neg (by omega), Array.getElem?_setIfInBounds_ne (Ne.symm he)]
theorem splice_cells (o : Nat) (v : Array Value) (cs : Array Value) (hk : o + v.size ≤ cs.size) :
    (v.zipIdx.foldl (fun cs (x : Value × Nat) => cs.setIfInBounds (o + x.2) x.1) cs).size = cs.size ∧
    ∀ k, (v.zipIdx.foldl (fun cs (x : Value × Nat) => cs.setIfInBounds (o + x.2) x.1) cs)[k]? = if o ≤ k ∧ k < o + v.size then v[k - o]? else cs[k]? := by
  have h := foldl_set o v.toList 0 cs
  rw [← Array.foldl_toList, Array.toList_zipIdx]
  refine ⟨h.1, fun k => ?_⟩
  have := h.2 k (by simpa using hk)
  simpa using this
section
variable {P : Program} {c : Ctx} {w : World} {h : AHeap} {K : KA}
inductive RPs (c : Ctx) (w : World) : List (Nat × AVal) → List (Nat × Value) → Prop
  | nil : RPs c w [] []
  | cons (i : Nat) (x : AVal) (v : Value) (l : List (Nat × AVal)) (m : List (Nat × Value)) (h : RV c w x v) (t : RPs c w l m) : RPs c w ((i, x) :: l) ((i, v) :: m)
theorem bld_ok {pl : List (Nat × Nat)} : ∀ {ps : List (Nat × AVal)} {qs : List (Nat × Value)}, RPs c w ps qs → ∀ {zs cs : List AVal} {cells : Array Value}, cells.size = zs.length → (∀ (i : Nat) (a : AVal), zs[i]? = some a → RV c w a (cells.getD i undef)) →
    bldA pl zs ps = some cs → ∃ out, Instr.fill (pl.toArray[·]?) cells qs = some out ∧ out.size = cs.length ∧ ∀ (i : Nat) (a : AVal), cs[i]? = some a → RV c w a (out.getD i undef)
  | _, _, .nil, zs, cs, cells, hl, hv, hb => by
    simp [bldA] at hb
    subst hb
    exact ⟨cells, rfl, hl, hv⟩
  | _, _, .cons i x v l m hx hps, zs, cs, cells, hl, hv, hb => by
    simp only [bldA] at hb
    split at hb
    · rename_i o n hp
      cases hq : (Nat.beq n x.flat.length && Nat.ble (o + n) zs.length && x.whole) with
      | false => rw [hq] at hb; cases hb
      | true =>
        rw [hq] at hb
        rw [Bool.and_eq_true, Bool.and_eq_true] at hq
        obtain ⟨⟨q1, q2⟩, q3⟩ := hq
        have q1 := Nat.eq_of_beq_eq_true q1
        have q2 := Nat.le_of_ble_eq_true q2
        obtain ⟨w1, w2, _⟩ := whole_cells hx q3
        obtain ⟨f1, f2⟩ := splice_cells o v.cells cells (by omega)
        have hnew : ∀ (k : Nat) (a : AVal), (zs.take o ++ (x.flat ++ zs.drop (o + n)))[k]? = some a → RV c w a ((v.cells.zipIdx.foldl (fun cs (x : Value × Nat) => cs.setIfInBounds (o + x.2) x.1) cells).getD k undef) := by
          intro k a ha
          have hlk : k < zs.length := by
            have := (List.getElem?_eq_some_iff.1 ha).1
            simp at this; omega
          have hto : (zs.take o).length = o := by rw [List.length_take]; omega
          rw [Array.getD_eq_getD_getElem?, f2 k]
          rcases Nat.lt_or_ge k o with h2 | h2
          · rw [List.getElem?_append_left (by omega), List.getElem?_take_of_lt h2] at ha
            rw [if_neg (by omega)]
            have := hv k a ha
            rwa [Array.getD_eq_getD_getElem?] at this
          · rw [List.getElem?_append_right (by omega), hto] at ha
            rcases Nat.lt_or_ge (k - o) x.flat.length with h3 | h3
            · rw [List.getElem?_append_left h3] at ha
              rw [if_pos (by omega)]
              obtain ⟨u, u1, u2⟩ := w2 _ _ ha
              rw [u1]; exact u2
            · rw [List.getElem?_append_right h3, List.getElem?_drop] at ha
              rw [if_neg (by omega)]
              rw [show o + n + (k - o - x.flat.length) = k by omega] at ha
              have := hv k a ha
              rwa [Array.getD_eq_getD_getElem?] at this
        obtain ⟨out, o1, o2, o3⟩ := bld_ok hps (cells := v.cells.zipIdx.foldl (fun cs (x : Value × Nat) => cs.setIfInBounds (o + x.2) x.1) cells) (by rw [f1, hl]; simp; omega) hnew hb
        refine ⟨out, ?_, o2, o3⟩
        have hp' : pl.toArray[i]? = some (o, n) := by simpa using hp
        simp only [Instr.fill, hp']
        have hno : (decide (v.cells.size ≠ n) || decide (o + v.cells.size > cells.size)) = false := by
          rw [Bool.or_eq_false_iff]; exact ⟨by simp; omega, by simp; omega⟩
        simp only [hno]
        exact o1
    · cases hb
theorem build_ok {t : TypeId} {ps : List (Nat × AVal)} {qs : Array (Nat × Value)} (hH : RH c h w) (hp : RPs c w ps qs.toList) (hm : buildM P t ps h K) : PVal P c w h (Instr.build t qs) K := by
  replace hm := hm.out
  unfold buildM_b at hm
  split at hm
  · rename_i pl zs hpl hz
    split at hm
    · rename_i cs hcs
      obtain ⟨fs, hu, hfs⟩ : ∃ fs : Array Field, P.underlying t = some (.struct fs) ∧ fs.toList.mapM (fun f => (P.info? f.type).map fun i => (f.offset, i.size)) = some pl := by
        unfold plT at hpl
        split at hpl
        · exact ⟨_, ‹_›, hpl⟩
        · cases hpl
      obtain ⟨i, zv, hi, hzv, he⟩ : ∃ i zv, P.info? t = some i ∧ i.zero = some zv ∧ ofV zv = .agg zs := by
        unfold zrT at hz
        cases hi : P.info? t with
        | none => simp [hi] at hz
        | some i =>
          simp [hi] at hz
          obtain ⟨zv, a, b⟩ := hz
          exact ⟨i, zv, rfl, a, b⟩
      obtain ⟨z1, z2⟩ := ofV_flat zv
      rw [he] at z1 z2
      obtain ⟨out, o1, o2, o3⟩ := bld_ok hp (zs := zs) (cells := zv.cells) z1.symm (fun k a ha => by
        obtain ⟨u, u1, rfl⟩ := z2 k a ha
        rw [Array.getD_eq_getD_getElem?, u1]
        exact .v u) hcs
      refine .pure hH (fun w => run_build w t qs out ?_) (.agg _ _ o2 o3) hm
      unfold Program.built
      simp only [hi, hu, hzv, hfs]
      exact o1
    · exact hm.elim
  · exact hm.elim
/-- cells that hold a row -/
def Lay (c : Ctx) (w : World) (s : Nat) (xs : List AVal) (cells : Array Value) : Prop :=
  cells.size = xs.length * s ∧ (∀ (i : Nat) (x : AVal), xs[i]? = some x → x.flat.length = s) ∧ ∀ (i : Nat) (x : AVal) (j : Nat) (a : AVal), xs[i]? = some x → x.flat[j]? = some a → ∃ v, cells[i * s + j]? = some v ∧ RV c w a v
theorem lay_zeros {zv : Value} {s : Nat} (hs : zv.cells.size = s) (n : Nat) (f : Nat → Value) (hf : ∀ k, k < n * s → f k = zv.cells.getD (k % s) undef) : Lay c w s (List.replicate n (ofV zv)) ((Array.range (n * s)).map f) := by
  obtain ⟨z1, z2⟩ := ofV_flat zv
  refine ⟨by simp, fun i x hx => ?_, fun i x j a hx ha => ?_⟩
  · rw [List.getElem?_replicate] at hx
    split at hx <;> cases hx
    rw [z1, hs]
  · have hlt : i < n := by
      have := (List.getElem?_eq_some_iff.1 hx).1
      simpa using this
    rw [List.getElem?_replicate, if_pos hlt] at hx
    cases hx
    have hj : j < s := by rw [← hs, ← z1]; exact (List.getElem?_eq_some_iff.1 ha).1
    have hk : i * s + j < n * s := by
      have := Nat.mul_le_mul_right s (show i + 1 ≤ n from hlt)
      rw [Nat.add_mul] at this; omega
    obtain ⟨u, u1, rfl⟩ := z2 j a ha
    refine ⟨u, ?_, .v u⟩
    have hmod : (i * s + j) % s = j := by rw [Nat.add_comm, Nat.add_mul_mod_self_right, Nat.mod_eq_of_lt hj]
    have h3 : f (i * s + j) = u := by
      rw [hf _ hk, hmod, Array.getD_eq_getD_getElem?, u1]; rfl
    rw [Array.getElem?_map, Array.getElem?_range, if_pos hk]
    simp [h3]
theorem bldS_ok {s : Nat} : ∀ {ps : List (Nat × AVal)} {qs : List (Nat × Value)}, RPs c w ps qs → ∀ {zs xs : List AVal} {cells : Array Value}, Lay c w s zs cells →
    bldS s zs ps = some xs → ∃ out, Instr.fill (fun i => some (i * s, s)) cells qs = some out ∧ Lay c w s xs out
  | _, _, .nil, zs, xs, cells, hl, hb => by
    simp [bldS] at hb
    subst hb
    exact ⟨cells, rfl, hl⟩
  | _, _, .cons i x v l m hx hps, zs, xs, cells, hl, hb => by
    simp only [bldS] at hb
    cases hq : (Nat.beq x.flat.length s && Nat.ble (i + 1) zs.length && x.whole) with
    | false => rw [hq] at hb; cases hb
    | true =>
      rw [hq] at hb
      rw [Bool.and_eq_true, Bool.and_eq_true] at hq
      obtain ⟨⟨q1, q2⟩, q3⟩ := hq
      have q1 := Nat.eq_of_beq_eq_true q1
      have q2 := Nat.le_of_ble_eq_true q2
      obtain ⟨l1, l2, l3⟩ := hl
      obtain ⟨w1, w2, _⟩ := whole_cells hx q3
      have hend : i * s + s ≤ zs.length * s := by rw [← Nat.succ_mul]; exact Nat.mul_le_mul_right s q2
      obtain ⟨f1, f2⟩ := splice_cells (i * s) v.cells cells (by omega)
      have hlay : Lay c w s (zs.set i x) (v.cells.zipIdx.foldl (fun cs (x : Value × Nat) => cs.setIfInBounds (i * s + x.2) x.1) cells) := by
        refine ⟨by rw [f1, l1]; simp, fun k y hy => ?_, fun k y j a hy ha => ?_⟩
        · rcases Nat.decEq k i with hne | rfl
          · rw [List.getElem?_set_ne (Ne.symm hne)] at hy; exact l2 _ _ hy
          · rw [List.getElem?_set_self q2] at hy
            cases hy; exact q1
        · rw [f2]
          rcases Nat.decEq k i with hne | rfl
          · rw [List.getElem?_set_ne (Ne.symm hne)] at hy
            have hjs : j < s := by rw [← l2 _ _ hy]; exact (List.getElem?_eq_some_iff.1 ha).1
            rw [if_neg (fun hh => hne (cell_ix (i := k) (i' := i) (j := j) (j' := k * s + j - i * s) hjs (by omega) (by omega)).1)]
            exact l3 _ _ _ _ hy ha
          · rw [List.getElem?_set_self q2] at hy
            cases hy
            have hjs : j < x.flat.length := (List.getElem?_eq_some_iff.1 ha).1
            rw [if_pos (by omega), Nat.add_sub_cancel_left]
            exact w2 _ _ ha
      obtain ⟨out, o1, o2⟩ := bldS_ok hps hlay hb
      refine ⟨out, ?_, o2⟩
      simp only [Instr.fill]
      have hno : (decide (v.cells.size ≠ s) || decide (i * s + v.cells.size > cells.size)) = false := by
        rw [Bool.or_eq_false_iff]; exact ⟨by simp; omega, by simp; omega⟩
      simp only [hno]
      exact o1
theorem zrT_spec {t : TypeId} {i : TypeInfo} {z : AVal} (hi : P.info? t = some i) (hz : zrT P t = some z) : ∃ zv, i.zero = some zv ∧ z = ofV zv := by
  unfold zrT at hz
  rw [hi] at hz
  simp at hz
  obtain ⟨zv, a, b⟩ := hz
  exact ⟨zv, a, b.symm⟩
theorem newRow_ok {e s : Nat} {xs : List AVal} {cells : Array Value} (hH : RH c h w) (hl : Lay c w s xs cells) {f : Nat → AVal} {n cap : Nat} (hn : n ≤ cap) (hcap : cap * s ≤ cells.size) (hmax : cap ≤ maxLen)
    (hm : newM s xs h (fun g h' => K (.rf h.length g 0 n) h')) {sm : Sem Value} (w1 : World) (hw1 : w1.heap = w.heap ∧ w1.os = w.os ∧ w1.tape = w.tape ∧ w1.output = w.output)
    (hr : sm.run P w = .ok (.slice (some ⟨w.heap.size, 0, none⟩) n cap) (w1.alloc (.cells cells e))) : GVal P c w sm K := by
  obtain ⟨l1, l2, l3⟩ := hl
  obtain ⟨c', k1, k2, k3, k4, k5, k6, k7⟩ := new_ok (e := e) (cs := cells) (s := s) (xs := xs) hH w1 hw1 (by omega) l2 l3
  refine ⟨_, _, c', _, _, hr, k1, k2, .rf _ _ _ _ _ _ k7 (fun _ => ⟨.inr ?_, hn, hmax, ?_⟩), hm c.ctr, grew_alloc w1 hw1.1 _⟩
  · rw [k4]; simp
  · rw [k5, k6]; simpa using hcap
theorem buildSlice_ok {t : TypeId} {n : Nat} {ps : List (Nat × AVal)} {qs : Array (Nat × Value)} (hH : RH c h w) (hp : RPs c w ps qs.toList) (hm : buildSliceM P t n ps h K) : GVal P c w (Instr.buildSlice t n qs) K := by
  replace hm := hm.out
  unfold buildSliceM_b at hm
  split at hm
  · rename_i e he
    split at hm
    · rename_i z hz
      split at hm
      · rename_i xs hxs
        obtain ⟨hok, hs, hpos, hsm, hm⟩ := hm
        obtain ⟨i, d, hi, hd, hsz, _, _⟩ := okT_spec hok
        obtain ⟨zv, hzv, rfl⟩ := zrT_spec hi hz
        obtain ⟨z1, z2⟩ := ofV_flat zv
        have hzs : zv.cells.size = szT P e := by omega
        have hlay0 : Lay c w (szT P e) (List.replicate n (ofV zv)) ((Array.range (n * szT P e)).map (zv.cells[· % zv.cells.size]!)) := lay_zeros hzs n _ (fun k hk => by
          rw [hzs]
          have : k % szT P e < zv.cells.size := by rw [hzs]; exact Nat.mod_lt _ hpos
          simp [this])
        obtain ⟨out, o1, o2⟩ := bldS_ok hp hlay0 hxs
        have hlen : xs.length = n := by
          have : ∀ (ps : List (Nat × AVal)) (zs xs : List AVal), bldS (szT P e) zs ps = some xs → xs.length = zs.length := by
            intro ps
            induction ps with
            | nil => intro zs xs h; simp [bldS] at h; rw [h]
            | cons p ps ih =>
              intro zs xs h
              obtain ⟨i, y⟩ := p
              simp only [bldS] at h
              cases hq : (Nat.beq y.flat.length (szT P e) && Nat.ble (i + 1) zs.length && y.whole) with
              | false => rw [hq] at h; cases h
              | true => rw [hq] at h; rw [ih _ _ h]; simp
          rw [this _ _ _ hxs]; simp
        have hcs : n * szT P e ≤ out.size := by rw [o2.1, hlen]; exact Nat.le_refl _
        have hmx : n ≤ maxLen := by
          have : n ≤ n * szT P e := Nat.le_mul_of_pos_right n hpos
          unfold maxLen; omega
        by_cases h0 : n = 0
        · subst h0
          have hx0 : xs = [] := List.length_eq_zero_iff.1 hlen
          subst hx0
          have hps0 : ps = [] := by
            match ps, hxs with
            | [], _ => rfl
            | (i, y) :: l, hxs =>
              simp only [bldS] at hxs
              rw [show Nat.ble (i + 1) (List.replicate 0 (ofV zv)).length = false from rfl, Bool.and_false, Bool.false_and] at hxs
              cases hxs
          subst hps0
          have hqs : qs = #[] := by
            have : qs.toList = [] := by generalize qs.toList = l at hp; cases hp; rfl
            exact Array.toList_eq_nil_iff.1 this
          subst hqs
          refine newRow_ok (e := e) (cells := #[]) (f := fun _ => .dead) hH ⟨by simp, by simp, by simp⟩ (Nat.le_refl 0) (by simp) (by unfold maxLen; omega) hm w ⟨rfl, rfl, rfl, rfl⟩ ?_
          simp [Instr.buildSlice, run_underlying (slT_spec he), sizeOf, typeInfo, hi, Instr.fill, newRow, Array.range_zero']
        · have hne : ¬ n * i.size = 0 := by
            rw [hsz]; exact Nat.mul_ne_zero h0 (by omega)
          refine newRow_ok (e := e) (f := fun _ => .dead) hH o2 (Nat.le_refl n) hcs hmx hm w ⟨rfl, rfl, rfl, rfl⟩ ?_
          exact run_buildSlice w t e n qs out i zv (slT_spec he) hi hzv (by rw [hsz]; omega) hne (by rw [hsz]; exact o1)
      · exact hm.elim
    · exact hm.elim
  · exact hm.elim
theorem make_ok {t : TypeId} {x y : AVal} {vx vy : Value} (hH : RH c h w) (hx : RV c w x vx) (hy : RV c w y vy) (hm : makeM P t x y h K) : GVal P c w (Instr.makeSlice t vx vy) K := by
  replace hm := hm.out
  unfold makeM_b at hm
  split at hm
  · rename_i e k n k' m he
    split at hm
    · rename_i z hz
      obtain ⟨hok, hs, hpos, rfl, h0, hb, h63, hm⟩ := hm
      obtain ⟨i, d, hi, hd, hsz, hby, _⟩ := okT_spec hok
      obtain ⟨zv, hzv, rfl⟩ := zrT_spec hi hz
      obtain ⟨z1, z2⟩ := ofV_flat zv
      have hzs : zv.cells.size = szT P e := by omega
      cases hx; cases hy
      have hlay0 : Lay c w (szT P e) (List.replicate n.toNat (ofV zv)) (madeCells zv.cells (n.toNat * i.size)) := by
        rw [hsz]
        exact lay_zeros hzs n.toNat _ (fun k hk => by
          rw [hzs]
          have : k % szT P e < zv.cells.size := by rw [hzs]; exact Nat.mod_lt _ hpos
          simp [this])
      refine newRow_ok (e := e) (f := fun _ => .dead) hH hlay0 (Nat.le_refl _) (by rw [hlay0.1]; simp) (by unfold maxLen; omega) hm w ⟨rfl, rfl, rfl, rfl⟩ ?_
      exact run_make w t e i zv (slT_spec he) hi hzv k k' n n h0 (Int.le_refl _) (by rw [hby]; exact hb) h63
    · exact hm.elim
  · exact hm.elim
end
theorem byteCells_get (s : ByteArray) (j : Nat) : (byteCells s)[j]? = (s.data.toList.map fun b => Value.int .u8 b.toNat)[j]? := rfl
section
variable {P : Program} {c : Ctx} {w : World} {h : AHeap} {K : KA}
/-- the cells of a row of elements, one behind the other -/
def flatA (xs : List AVal) : List AVal := xs.flatMap AVal.flat
theorem flatA_length {s : Nat} : ∀ {xs : List AVal}, (∀ y ∈ xs, y.flat.length = s) → (flatA xs).length = xs.length * s
  | [], _ => by simp [flatA]
  | x :: xs, h => by
    have h1 := h x List.mem_cons_self
    have h2 := flatA_length (xs := xs) (fun y hy => h y (List.mem_cons_of_mem _ hy))
    show (x.flat ++ flatA xs).length = _
    rw [List.length_append, h1, h2, List.length_cons, Nat.add_mul]; omega
theorem flatA_get {s : Nat} : ∀ {xs : List AVal}, (∀ y ∈ xs, y.flat.length = s) → ∀ {i j : Nat} {x : AVal}, xs[i]? = some x → j < s → (flatA xs)[i * s + j]? = x.flat[j]?
  | [], _, i, j, x, hx, _ => by simp at hx
  | y :: xs, h, 0, j, x, hx, hj => by
    have h1 := h y List.mem_cons_self
    simp at hx
    subst hx
    show (y.flat ++ flatA xs)[0 * s + j]? = _
    rw [Nat.zero_mul, Nat.zero_add, List.getElem?_append_left (by omega)]
  | y :: xs, h, i + 1, j, x, hx, hj => by
    have h1 := h y List.mem_cons_self
    have hx : xs[i]? = some x := by simpa using hx
    show (y.flat ++ flatA xs)[(i + 1) * s + j]? = _
    rw [Nat.add_mul, List.getElem?_append_right (by omega)]
    rw [show i * s + 1 * s + j - y.flat.length = i * s + j by omega]
    exact flatA_get (fun z hz => h z (List.mem_cons_of_mem _ hz)) hx hj
/-- where a cell of the flat list stands -/
theorem flatA_at {s : Nat} {xs : List AVal} (h : ∀ y ∈ xs, y.flat.length = s) {k : Nat} {a : AVal} (hk : (flatA xs)[k]? = some a) : ∃ i j x, xs[i]? = some x ∧ j < s ∧ k = i * s + j ∧ x.flat[j]? = some a := by
  have hl : k < xs.length * s := by rw [← flatA_length h]; exact (List.getElem?_eq_some_iff.1 hk).1
  have hs : 0 < s := by
    rcases Nat.eq_zero_or_pos s with rfl | hp
    · simp at hl
    · exact hp
  have hi : k / s < xs.length := (Nat.div_lt_iff_lt_mul hs).2 hl
  have hj : k % s < s := Nat.mod_lt _ hs
  have he : k = k / s * s + k % s := by rw [Nat.mul_comm]; exact (Nat.div_add_mod k s).symm
  have hx := List.getElem?_eq_getElem hi
  refine ⟨k / s, k % s, xs[k / s], hx, hj, he, ?_⟩
  rw [← flatA_get h hx hj, ← he]; exact hk
/-- the cells that a value yields to append -/
theorem src_ok {tx : TypeId} {s : Nat} {y : AVal} {v : Value} {ys : List AVal} (hH : RH c h w) (hy : RV c w y v) (he : elsA h y = some ys) (htx : (slT P tx).isSome = true ∨ stT P tx = true)
    (hk : ∀ z ∈ ys, z.flat.length = s ∧ z.whole = true) :
    ∃ news : List Value, Src P s tx v ys.length news w ∧ news.length = (flatA ys).length ∧ ∀ (k : Nat) (a : AVal), (flatA ys)[k]? = some a → ∃ u, news[k]? = some u ∧ RV c w a u := by
  have hfl : ∀ z ∈ ys, z.flat.length = s := fun z hz => (hk z hz).1
  have hkd : (∃ e', P.underlying tx = some (.slice e')) ∨ P.underlying tx = some .string := htx.imp slT_some stT_spec
  -- cells that lie behind one another in one block
  have mem : ∀ (b off n cap : Nat), v = .slice (some ⟨b, off, none⟩) n cap → n = ys.length → (∀ (k : Nat) (a : AVal), (flatA ys)[k]? = some a → ∃ u, w.cell? ⟨b, off + k, none⟩ = some u ∧ RV c w a u) →
      ∃ news : List Value, Src P s tx v ys.length news w ∧ news.length = (flatA ys).length ∧ ∀ (k : Nat) (a : AVal), (flatA ys)[k]? = some a → ∃ u, news[k]? = some u ∧ RV c w a u := by
    rintro b off n cap rfl rfl hc
    have hL : ((List.range (flatA ys).length).map fun k => (w.cell? ⟨b, off + k, none⟩).getD undef).length = (flatA ys).length := by simp
    have hget : ∀ (k : Nat) (a : AVal), (flatA ys)[k]? = some a → ((List.range (flatA ys).length).map fun k => (w.cell? ⟨b, off + k, none⟩).getD undef)[k]? = some ((w.cell? ⟨b, off + k, none⟩).getD undef) := by
      intro k a ha
      have hlt := (List.getElem?_eq_some_iff.1 ha).1
      simp [hlt]
    have hnews : ∀ (j : Nat) (u : Value), ((List.range (flatA ys).length).map fun k => (w.cell? ⟨b, off + k, none⟩).getD undef)[j]? = some u → w.cell? ((⟨b, off, none⟩ : Addr).add j) = some u := by
      intro j u hu
      obtain ⟨hlt, rfl⟩ := list_of_fn.2 j u hu
      obtain ⟨u, u1, _⟩ := hc j _ (getD_some hlt)
      rw [Addr.add_mid, u1]; rfl
    have hll := (hL.trans (flatA_length hfl))
    refine ⟨_, ⟨hkd, fun _ => rfl, run_firstCells_some w s ys.length _ _ _ _ hll hnews, run_firstCells_some w.drew s ys.length _ _ _ _ hll (by simpa using hnews), hll, fun u hu => ?_⟩, hL, fun k a ha => ?_⟩
    · obtain ⟨j, hj, rfl⟩ := List.getElem_of_mem hu
      have hj' : j < (flatA ys).length := by simpa using hj
      obtain ⟨u, u1, u2⟩ := hc j _ (getD_some hj')
      obtain ⟨i, q, x, x1, x2, x3, x4⟩ := flatA_at hfl (getD_some hj')
      have hw := (hk x (List.mem_of_getElem? x1)).2
      have h1 : ((flatA ys).getD j .dead).c1 = true := List.all_eq_true.1 hw _ (List.mem_of_getElem? x4)
      simp [u1]
      exact c1_one u2 h1
    · obtain ⟨u, u1, u2⟩ := hc k a ha
      refine ⟨u, ?_, u2⟩
      rw [hget k a ha, u1]; rfl
  have nilc : ∀ ad cap, v = .slice ad 0 cap → ys = [] → ∃ news : List Value, Src P s tx v ys.length news w ∧ news.length = (flatA ys).length ∧ ∀ (k : Nat) (a : AVal), (flatA ys)[k]? = some a → ∃ u, news[k]? = some u ∧ RV c w a u := by
    rintro ad cap rfl rfl
    have hfc : ∀ w' : World, (Builtin.firstCells s 0 (.slice ad 0 cap)).run P w' = .ok ([] : List Value).toArray w' := by
      intro w'
      cases ad with
      | none => exact run_firstCells_none w' s 0 0 cap
      | some b => exact run_firstCells_some w' s 0 b 0 cap [] (by simp) (fun j u hu => by simp at hu)
    exact ⟨[], ⟨hkd, fun _ => rfl, hfc w, hfc w.drew, by simp, fun _ h => by cases h⟩, by simp [flatA], fun k a ha => by simp [flatA] at ha⟩
  cases y with
  | sl xs =>
    simp only [elsA, Option.some.injEq] at he
    subst he
    cases hy with
    | nil _ ad cap hx => exact nilc ad cap rfl hx
    | sl _ b off len cap s' f hF hlen hcap hs hc hr =>
      refine mem b off len cap rfl hlen (fun k a ha => ?_)
      obtain ⟨i, j, x, x1, x2, rfl, x4⟩ := flatA_at hfl ha
      have : s' = s := (hs i x x1).symm.trans (hfl x (List.mem_of_getElem? x1))
      subst this
      exact ⟨_, hc i x j a x1 x4, hr i x j a x1 x4⟩
  | v val =>
    cases hy
    match v, he, nilc with
    | .slice none 0 cap, he, nilc =>
      simp only [elsA, Option.some.injEq] at he
      exact nilc none cap rfl he.symm
    | .string st, he, nilc =>
      simp only [elsA, Option.some.injEq] at he
      have hlen : ys.length = st.size := by rw [← he]; simp
      have hfs : flatA ys = ys := by
        rw [← he]
        unfold flatA
        generalize st.data.toList = l
        induction l with
        | nil => rfl
        | cons a l ih =>
          rw [List.map_cons, List.flatMap_cons, ih]
          rfl
      have hfc : ∀ w' : World, (Builtin.firstCells s ys.length (.string st)).run P w' = .ok (byteCells st).toArray w' := by
        intro w'; rw [hlen]; exact firstCells_string st w'
      have hn1 : (byteCells st).length = ys.length * s := by
        rw [byteCells_length, ← hlen, ← flatA_length hfl, hfs]
      refine ⟨byteCells st, ⟨hkd, fun _ => by rw [hlen]; rfl, hfc w, hfc w.drew, hn1, fun u hu => ?_⟩, by rw [hfs, byteCells_length, hlen], fun k a ha => ?_⟩
      · obtain ⟨_, _, rfl⟩ := List.mem_map.1 hu
        rfl
      rw [hfs, ← he, List.getElem?_map, Option.map_eq_some_iff] at ha
      obtain ⟨b, hb, rfl⟩ := ha
      refine ⟨.int .u8 b.toNat, ?_, .v _⟩
      rw [byteCells_get, List.getElem?_map, hb]; rfl
  | rf r g o n =>
    simp only [elsA] at he
    split at he
    · rename_i g' s' xs hrow
      split at he
      · rename_i hh
        obtain ⟨rfl, hle⟩ := hh
        simp only [Option.some.injEq] at he
        obtain ⟨hg, hz, _, hR⟩ := hH.row _ _ _ _ hrow
        have hyl : ys.length = n := by rw [← he, List.length_take, List.length_drop]; omega
        cases hy with
        | rf _ _ _ _ a cap hlt hcond =>
          obtain ⟨ha, hl, hcm, hcc⟩ := hcond hg
          rcases Nat.eq_zero_or_pos n with rfl | hpos
          · have hys0 : ys = [] := List.length_eq_zero_iff.1 hyl
            subst hys0
            obtain ⟨b, off, sp⟩ := a
            refine ⟨[], ⟨hkd, fun _ => rfl, ?_, ?_, by simp, fun _ h => by cases h⟩, by simp [flatA], fun k a ha => by simp [flatA] at ha⟩
            · exact run_firstCells_some w s 0 _ _ _ [] (by simp) (fun j u hu => by simp at hu)
            · exact run_firstCells_some w.drew s 0 _ _ _ [] (by simp) (fun j u hu => by simp at hu)
          · have ha : a = ⟨c.blk r, o * c.sz r, none⟩ := ha.resolve_left (by omega)
            subst ha
            refine mem _ _ n cap rfl hyl.symm (fun k a hka => ?_)
            obtain ⟨i, j, x, x1, x2, rfl, x4⟩ := flatA_at hfl hka
            have hin : i < n := by rw [← hyl]; exact (List.getElem?_eq_some_iff.1 x1).1
            rw [← he, List.getElem?_take_of_lt hin, List.getElem?_drop] at x1
            obtain ⟨u, u1, u2⟩ := hR.val _ _ _ _ x1 x4
            have hs1 : s = s' := by
              rw [← hR.len _ _ x1]
              have : x ∈ ys := by rw [← he]; exact List.mem_of_getElem? (i := i) (by rw [List.getElem?_take_of_lt hin, List.getElem?_drop]; exact x1)
              exact (hfl x this).symm
            subst hs1
            refine ⟨u, ?_, u2⟩
            rw [hz, ← Nat.add_assoc, ← Nat.add_mul]; exact u1
      · cases he
    · cases he
  | _ => simp [elsA] at he
end
section
variable {P : Program} {c : Ctx} {w : World} {h : AHeap} {K : KA}
theorem lay_flat {s : Nat} {xs : List AVal} {news rest : List Value} (hfl : ∀ y ∈ xs, y.flat.length = s) (hl : news.length = (flatA xs).length) (hv : ∀ (k : Nat) (a : AVal), (flatA xs)[k]? = some a → ∃ u, news[k]? = some u ∧ RV c w a u) :
    xs.length * s ≤ (news ++ rest).length ∧ (∀ (i : Nat) (x : AVal), xs[i]? = some x → x.flat.length = s) ∧ ∀ (i : Nat) (x : AVal) (j : Nat) (a : AVal), xs[i]? = some x → x.flat[j]? = some a → ∃ v, (news ++ rest)[i * s + j]? = some v ∧ RV c w a v := by
  refine ⟨by rw [List.length_append, hl, flatA_length hfl]; omega, fun i x hx => hfl x (List.mem_of_getElem? hx), fun i x j a hx ha => ?_⟩
  have hj : j < s := by rw [← hfl x (List.mem_of_getElem? hx)]; exact (List.getElem?_eq_some_iff.1 ha).1
  obtain ⟨u, u1, u2⟩ := hv (i * s + j) a (by rw [flatA_get hfl hx hj]; exact ha)
  exact ⟨u, by rw [List.getElem?_append_left (List.getElem?_eq_some_iff.1 u1).1]; exact u1, u2⟩
theorem newRow_ok2 {e s : Nat} {xs : List AVal} {cells : Array Value} (hH : RH c h w) (hfit : xs.length * s ≤ cells.size) (hlen : ∀ (i : Nat) (x : AVal), xs[i]? = some x → x.flat.length = s)
    (hv : ∀ (i : Nat) (x : AVal) (j : Nat) (a : AVal), xs[i]? = some x → x.flat[j]? = some a → ∃ v, cells[i * s + j]? = some v ∧ RV c w a v) {n cap : Nat} (hn : n ≤ cap) (hcap : cap * s ≤ cells.size) (hmax : cap ≤ maxLen)
    (hm : newM s xs h (fun g h' => K (.rf h.length g 0 n) h')) {sm : Sem Value} (w1 : World) (hw1 : w1.heap = w.heap ∧ w1.os = w.os ∧ w1.tape = w.tape ∧ w1.output = w.output)
    (hr : sm.run P w = .ok (.slice (some ⟨w.heap.size, 0, none⟩) n cap) (w1.alloc (.cells cells e))) : Val P c w sm K := by
  obtain ⟨c', k1, k2, k3, k4, k5, k6, k7⟩ := new_ok (e := e) (cs := cells) (s := s) (xs := xs) hH w1 hw1 hfit hlen hv
  refine ⟨_, _, c', _, _, hr, k1, k2, .rf _ _ _ _ _ _ k7 (fun _ => ⟨.inr ?_, hn, hmax, ?_⟩), hm c.ctr⟩
  · rw [k4]; simp
  · rw [k5, k6]; simpa using hcap
theorem append_ok {t tx ty : TypeId} {x y : AVal} {vx vy : Value} (hH : RH c h w) (hx : RV c w x vx) (hy : RV c w y vy) (hm : appendM P t tx x y h K) : Val P c w (Builtin.append_ #[t, tx] ty #[vx, vy]) K := by
  replace hm := hm.out
  unfold appendM_b at hm
  split at hm
  · rename_i e ys he hys
    obtain ⟨hok, hpos, hz, htx, hk, hm⟩ := hm
    obtain ⟨i, d, hi, hd, hsz, hby, _⟩ := okT_spec hok
    obtain ⟨zv, hzv, hzs⟩ : ∃ zv, i.zero = some zv ∧ zv.cells.size = szT P e := by
      unfold zokT at hz
      rw [hi] at hz
      cases hq : i.zero with
      | none => simp [hq] at hz
      | some zv => simp [hq] at hz; exact ⟨zv, rfl, hz⟩
    have hu := slT_spec he
    have hfl : ∀ z ∈ ys, z.flat.length = szT P e := fun z hz => (hk z hz).1
    obtain ⟨news, hs, hnl, hnv⟩ := src_ok (s := szT P e) hH hy hys htx hk
    have hnn := hs.newsLen
    rw [← hsz] at hs
    split at hm
    · cases hx
      obtain ⟨hb, hmx, hk0, hk1⟩ := hm
      by_cases h0 : ys = []
      · subst h0
        have hn0 : news = [] := by
          apply List.length_eq_zero_iff.1
          rw [hnl]; simp [flatA]
        subst hn0
        exact .pure hH (run_append_nothing w t tx ty e i hu hi none 0 0 (Nat.le_refl _) vy hs) (.v _) (hk0 rfl)
      · have hlp : 0 < ys.length := List.length_pos_iff.2 h0
        have hrun := run_append_grow_src w t tx ty e i zv hu hi hzv none 0 0 [] (run_firstCells_none w.drew i.size 0 0 0) vy ys.length news hs (by omega) (by unfold maxLen at hmx; omega)
          (growslice_fits (by omega) (by rw [hby, Nat.zero_add]; exact hb))
        rw [Nat.zero_add] at hrun
        have hge := grownCap_ge w ys.length 0 e
        have hcm := grownCap_le_maxLen w ys.length 0 e hmx
        obtain ⟨f1, f2, f3⟩ := lay_flat (rest := (Builtin.zeroCells zv.cells (grownCap w ys.length 0 e - ys.length)).toList) hfl hnl hnv
        have hcl : (([] ++ news).toArray ++ Builtin.zeroCells zv.cells (grownCap w ys.length 0 e - ys.length)) = (news ++ (Builtin.zeroCells zv.cells (grownCap w ys.length 0 e - ys.length)).toList).toArray := by
          apply Array.ext'; simp
        rw [hcl] at hrun
        refine newRow_ok2 (e := e) hH (by simpa using f1) f2 (fun i x j a h1 h2 => by simpa using f3 i x j a h1 h2) hge ?_ hcm (hk1 h0) w.drew ⟨rfl, rfl, rfl, rfl⟩ hrun
        have hzc : (Builtin.zeroCells zv.cells (grownCap w ys.length 0 e - ys.length)).toList.length = (grownCap w ys.length 0 e - ys.length) * szT P e := by rw [Array.length_toList, size_zeroCells, hzs]
        rw [List.size_toArray, List.length_append, hnn, hzc, ← Nat.add_mul]
        exact Nat.mul_le_mul_right _ (by omega)
    · rename_i r g n
      split at hm
      · rename_i g' s xs hrow
        obtain ⟨rfl, rfl, hnx, hb, hmx, hm⟩ := hm
        obtain ⟨hg, hzz, hF, hR⟩ := hH.row _ _ _ _ hrow
        have hrl : r < h.length := (List.getElem?_eq_some_iff.1 hrow).1
        have hxs : ∀ z ∈ xs.take n, z.flat.length = szT P e := by
          intro z hz
          obtain ⟨k, hk⟩ := List.getElem?_of_mem (List.mem_of_mem_take hz)
          exact hR.len _ _ hk
        have hall : ∀ z ∈ xs.take n ++ ys, z.flat.length = szT P e := by
          intro z hz
          rcases List.mem_append.1 hz with h1 | h1
          · exact hxs z h1
          · exact hfl z h1
        have htl : (xs.take n).length = n := by rw [List.length_take]; omega
        have hfa : flatA (xs.take n ++ ys) = flatA (xs.take n) ++ flatA ys := by simp [flatA]
        have hold0 : ∀ (k : Nat) (a : AVal), (flatA (xs.take n))[k]? = some a → ∃ u, w.cell? ⟨c.blk r, k, none⟩ = some u ∧ RV c w a u := by
          intro k a hka
          obtain ⟨i, j, x, x1, x2, rfl, x4⟩ := flatA_at hxs hka
          have hin : i < n := by rw [← htl]; exact (List.getElem?_eq_some_iff.1 x1).1
          rw [List.getElem?_take_of_lt hin] at x1
          exact hR.val _ _ _ _ x1 x4
        have hset : ∀ g2, (h.set r (.row g2 (szT P e) (xs.take n ++ ys)))[r]? = some (.row g2 (szT P e) (xs.take n ++ ys)) := fun g2 => List.getElem?_set_self hrl
        have hoth : ∀ g2 k, k ≠ r → (h.set r (.row g2 (szT P e) (xs.take n ++ ys)))[k]? = h[k]? := fun g2 k hk => List.getElem?_set_ne (Ne.symm hk)
        have hlen2 : ∀ (i : Nat) (x : AVal), (xs.take n ++ ys)[i]? = some x → x.flat.length = szT P e := fun i x hx => hall x (List.mem_of_getElem? hx)
        cases hx with
        | rf _ _ _ _ a cap hlt hcond =>
          obtain ⟨ha, hl, hcm, hcc⟩ := hcond hg
          rw [Nat.zero_add, hzz] at hcc
          rw [Nat.zero_mul] at ha
          by_cases hroom : n + ys.length ≤ cap
          · by_cases hc0 : cap = 0
            · have hn0 : n = 0 := by omega
              have hy0 : ys = [] := List.length_eq_zero_iff.1 (by omega)
              subst hc0; subst hn0; subst hy0
              have hnw0 : news = [] := List.length_eq_zero_iff.1 (by rw [hnl]; simp [flatA])
              subst hnw0
              obtain ⟨c', k1, k2, k3, k4, k5, k6, k7⟩ := row_new (w' := w) (b := c.blk r) (cap := c.cap r) hH (hset c.ctr) (hoth c.ctr) rfl rfl rfl (Nat.le_refl _) (fun _ _ _ => rfl) hF hR.lt
                (fun r' g' hg' hne he => hne (hH.inj r' r g' g hg' hg he)) hR.there (by simp) hlen2 (fun i x j a h1 h2 => by simp at h1)
              refine ⟨.slice (some a) 0 0, w, c', _, _, run_append_nothing w t tx ty e i hu hi (some a) 0 0 (Nat.le_refl _) vy hs, k1, k2, .rf _ _ _ _ _ _ k7 (fun _ => ⟨.inl rfl, Nat.le_refl _, Nat.zero_le _, ?_⟩), hm c.ctr⟩
              simp
            · have ha := ha.resolve_left hc0
              subst ha
              have hend : n * szT P e + news.length ≤ c.cap r := by
                rw [hnn, ← Nat.add_mul]
                exact Nat.le_trans (Nat.mul_le_mul_right _ hroom) hcc
              have hthere : ∀ j, j < news.length → (w.cell? ⟨c.blk r, 0 + n * i.size + j, none⟩).isSome = true ∧ w.frozen? ⟨c.blk r, 0 + n * i.size + j, none⟩ = false := fun j hj => hR.there _ (by rw [hsz]; omega)
              have hrun := run_append_room_src w t tx ty e i hu hi (c.blk r) 0 n cap vy ys.length news hs hroom (fun j hj => (hthere j hj).1) (fun j hj => (hthere j hj).2)
              rw [hsz, Nat.zero_add] at hrun
              obtain ⟨e1, e2⟩ := tape_setCells (c.blk r) news (n * szT P e) w
              have hin : ∀ j, j < news.length → (w.cell? ⟨c.blk r, n * szT P e + j, none⟩).isSome = true := fun j hj => (hR.there _ (by omega)).1
              obtain ⟨c', k1, k2, k3, k4, k5, k6, k7⟩ := row_new (w' := w.setCells (c.blk r) (n * szT P e) news) (b := c.blk r) (cap := c.cap r) hH (hset c.ctr) (hoth c.ctr)
                (World.os_setCells _ _ _ _) e1 (World.output_setCells _ _ _ _) (Nat.le_of_eq e2.symm) (fun k hk hne => World.heap_setCells_other _ _ _ _ hk hne) hF (by rw [e2]; exact hR.lt)
                (fun r' g' hg' hne he => hne (hH.inj r' r g' g hg' hg he))
                (fun o ho => ⟨World.isSome_setCells _ _ _ _ _ (hR.there o ho).1, by rw [World.frozen?_setCells]; exact (hR.there o ho).2⟩)
                (by rw [List.length_append, htl]; exact Nat.le_trans (Nat.mul_le_mul_right _ hroom) hcc) hlen2
                (fun i x j a h1 h2 => by
                  have hj : j < szT P e := by rw [← hlen2 i x h1]; exact (List.getElem?_eq_some_iff.1 h2).1
                  have hfg := flatA_get hall h1 hj
                  rw [h2, hfa] at hfg
                  have hfx : (flatA (xs.take n)).length = n * szT P e := by rw [flatA_length hxs, htl]
                  rcases Nat.lt_or_ge (i * szT P e + j) (n * szT P e) with hlo | hlo
                  · rw [List.getElem?_append_left (by omega)] at hfg
                    obtain ⟨u, u1, u2⟩ := hold0 _ _ hfg
                    refine ⟨u, ?_, u2⟩
                    rw [World.cell?_setCells_out]
                    · exact u1
                    · intro _ _; exact .inl hlo
                  · rw [List.getElem?_append_right (by omega), hfx] at hfg
                    obtain ⟨u, u1, u2⟩ := hnv _ _ hfg
                    refine ⟨u, ?_, u2⟩
                    have hlt2 : i * szT P e + j - n * szT P e < news.length := (List.getElem?_eq_some_iff.1 u1).1
                    have hin2 := World.cell?_setCells_in (c.blk r) news (n * szT P e) w hin _ hlt2
                    rw [show i * szT P e + j = n * szT P e + (i * szT P e + j - n * szT P e) by omega, hin2, ← u1]
                    simp [hlt2])
              refine ⟨_, _, c', _, _, hrun, k1, k2, .rf _ _ _ _ _ _ k7 (fun _ => ⟨.inr ?_, hroom, hcm, ?_⟩), hm c.ctr⟩
              · rw [k4]; simp
              · rw [k5, k6]; simpa using hcc
          · have hgt : cap < n + ys.length := by omega
            -- the cells that are copied
            obtain ⟨olds, hol, hov, hof⟩ : ∃ olds : List Value, olds.length = (flatA (xs.take n)).length ∧ (∀ (k : Nat) (a : AVal), (flatA (xs.take n))[k]? = some a → ∃ u, olds[k]? = some u ∧ RV c w a u) ∧
                (Builtin.firstCells i.size n (.slice (some a) n cap)).run P w.drew = .ok olds.toArray w.drew := by
              rcases Nat.eq_zero_or_pos n with rfl | hnp
              · exact ⟨[], by simp [flatA], fun k a hka => by simp [flatA] at hka, run_firstCells_some w.drew i.size 0 _ _ _ [] (by simp) (fun j u hu => by simp at hu)⟩
              · have ha := ha.resolve_left (by omega)
                subst ha
                have hL : ((List.range (flatA (xs.take n)).length).map fun k => (w.cell? ⟨c.blk r, k, none⟩).getD undef).length = (flatA (xs.take n)).length := by simp
                refine ⟨_, hL, fun k a hka => ?_, run_firstCells_some w.drew i.size n _ _ _ _ (by rw [hL, flatA_length hxs, htl, hsz]) (fun j u hu => ?_)⟩
                · obtain ⟨u, u1, u2⟩ := hold0 _ _ hka
                  refine ⟨u, ?_, u2⟩
                  have hlt := (List.getElem?_eq_some_iff.1 hka).1
                  simp [hlt, u1]
                · obtain ⟨hlt, rfl⟩ := list_of_fn.2 j u hu
                  obtain ⟨u, u1, _⟩ := hold0 j _ (getD_some hlt)
                  rw [Addr.add_mid, Nat.zero_add]
                  simp [u1]
            have hrun := run_append_grow_src w t tx ty e i zv hu hi hzv (some a) n cap olds hof vy ys.length news hs hgt (by unfold maxLen at hmx; omega) (growslice_fits hgt (by rw [hby]; exact hb))
            have hge := grownCap_ge w (n + ys.length) cap e
            have hcm2 := grownCap_le_maxLen w (n + ys.length) cap e hmx
            have hnl2 : (olds ++ news).length = (flatA (xs.take n ++ ys)).length := by rw [hfa, List.length_append, List.length_append, hol, hnl]
            obtain ⟨f1, f2, f3⟩ := lay_flat (c := c) (w := w) (rest := (Builtin.zeroCells zv.cells (grownCap w (n + ys.length) cap e - (n + ys.length))).toList) hall hnl2 (fun k a hka => by
              rw [hfa] at hka
              rcases Nat.lt_or_ge k (flatA (xs.take n)).length with h1 | h1
              · rw [List.getElem?_append_left h1] at hka
                obtain ⟨u, u1, u2⟩ := hov _ _ hka
                exact ⟨u, by rw [List.getElem?_append_left (by omega)]; exact u1, u2⟩
              · rw [List.getElem?_append_right h1] at hka
                obtain ⟨u, u1, u2⟩ := hnv _ _ hka
                exact ⟨u, by rw [List.getElem?_append_right (by omega), hol]; exact u1, u2⟩)
            have hcl : ((olds ++ news).toArray ++ Builtin.zeroCells zv.cells (grownCap w (n + ys.length) cap e - (n + ys.length))) = ((olds ++ news) ++ (Builtin.zeroCells zv.cells (grownCap w (n + ys.length) cap e - (n + ys.length))).toList).toArray := by
              apply Array.ext'; simp
            rw [hcl] at hrun
            generalize hcells : ((olds ++ news) ++ (Builtin.zeroCells zv.cells (grownCap w (n + ys.length) cap e - (n + ys.length))).toList) = cells at hrun f1 f3
            have hcsz : grownCap w (n + ys.length) cap e * szT P e ≤ cells.length := by
              have hzc : (Builtin.zeroCells zv.cells (grownCap w (n + ys.length) cap e - (n + ys.length))).toList.length = (grownCap w (n + ys.length) cap e - (n + ys.length)) * szT P e := by rw [Array.length_toList, size_zeroCells, hzs]
              rw [← hcells, List.length_append, hnl2, flatA_length hall, List.length_append, htl, hzc, ← Nat.add_mul]
              exact Nat.mul_le_mul_right _ (by omega)
            have hnF : ¬ c.F w.heap.size := fun hf => Nat.lt_irrefl _ (hH.Fs _ hf)
            have hnew : (w.drew.alloc (.cells cells.toArray e)).heap[w.heap.size]? = some (.cells cells.toArray e) := heap_alloc_new w.drew _
            have hcell : ∀ o, (w.drew.alloc (.cells cells.toArray e)).cell? ⟨w.heap.size, o, none⟩ = cells.toArray[o]? := fun o => World.cell?_alloc_new w.drew _ _ o
            obtain ⟨c', k1, k2, k3, k4, k5, k6, k7⟩ := row_new (w' := w.drew.alloc (.cells cells.toArray e)) (b := w.heap.size) (cap := cells.length) hH (hset c.ctr) (hoth c.ctr) rfl rfl rfl
              (by simp) (fun k hk _ => Below.heap_alloc w.drew _ k hk) hnF (by simp) (fun r' g' hg' hne he => by
                obtain ⟨_, zs, hzs'⟩ := hH.live r' g' hg'
                have := (hH.row r' g' _ zs hzs').2.2.2.lt
                omega)
              (fun o ho => ⟨by rw [hcell]; simp [ho], by unfold World.frozen?; rw [hnew]; simp⟩) f1 hlen2 (fun i x j a h1 h2 => by
                obtain ⟨v, v1, v2⟩ := f3 i x j a h1 h2
                exact ⟨v, by rw [hcell]; simpa using v1, v2⟩)
            refine ⟨_, _, c', _, _, hrun, k1, k2, .rf _ _ _ _ _ _ k7 (fun _ => ⟨.inr ?_, hge, hcm2, ?_⟩), hm c.ctr⟩
            · rw [k4]; simp
            · rw [k5, k6]; simpa using hcsz
      · exact hm.elim
    · exact hm.elim
  · exact hm.elim
end
section
variable {P : Program} {c : Ctx} {w : World} {h : AHeap} {K : KA}
def RVo (c : Ctx) (w : World) : Option AVal → Option Value → Prop
  | none, none => True
  | some x, some v => RV c w x v
  | _, _ => False
/-- the low bound, as an Int -/
def loI : Option Value → Int | none => 0 | some (.int _ n) => n | _ => -1
def hiI (len : Nat) : Option Value → Int | none => len | some (.int _ n) => n | _ => -1
theorem lo_shape {lo : Option Value} (h : 0 ≤ loI lo) : lo = none ∨ ∃ k n, lo = some (.int k n) := by
  cases lo with
  | none => exact .inl rfl
  | some v => cases v <;> first | exact .inr ⟨_, _, rfl⟩ | (simp [loI] at h)
theorem hiI_some (n : Nat) (v : Value) : hiI n (some v) = loI (some v) := by cases v <;> rfl
theorem run_bounds {b : Bool} {len cap : Nat} {lo hi : Option Value} (h0 : 0 ≤ loI lo) (h1 : loI lo ≤ hiI len hi) (h2 : hiI len hi ≤ cap) :
    (Instr.sliceBounds b len cap lo hi none).run P w = .ok ((loI lo).toNat, (hiI len hi).toNat, cap) w := by
  have hh : hi = none ∨ ∃ k n, hi = some (.int k n) := by
    cases hi with
    | none => exact .inl rfl
    | some v => exact lo_shape (lo := some v) (by rw [hiI_some] at h1; exact Int.le_trans h0 h1)
  rcases lo_shape h0 with rfl | ⟨k, n, rfl⟩ <;> rcases hh with rfl | ⟨k', m, rfl⟩ <;> simp only [loI, hiI] at h0 h1 h2
  · simp [Instr.sliceBounds, loI, hiI]
  · have q : 0 ≤ m ∧ m ≤ (cap : Int) := ⟨h1, h2⟩
    simp [Instr.sliceBounds, Instr.sliceBound, asIntOf, loI, hiI, q]
  · have q : 0 ≤ n ∧ n ≤ (len : Int) := ⟨h0, h1⟩
    simp [Instr.sliceBounds, Instr.sliceBound, asIntOf, loI, hiI, q]
  · have q : 0 ≤ m ∧ m ≤ (cap : Int) := ⟨by omega, h2⟩
    have q2 : 0 ≤ n ∧ n ≤ ((m.toNat : Nat) : Int) := ⟨h0, by omega⟩
    have q3 : n ≤ max m 0 := by omega
    simp [Instr.sliceBounds, Instr.sliceBound, asIntOf, loI, hiI, q, h0, q3]
theorem run_sliceAt {t e : TypeId} {i : TypeInfo} (hu : P.underlying t = some (.slice e)) (hinf : P.info? e = some i) {a : Option Addr} {len cap : Nat} {lo hi : Option Value} (h0 : 0 ≤ loI lo) (h1 : loI lo ≤ hiI len hi) (h2 : hiI len hi ≤ cap) :
    (Instr.sliceAt t (.slice a len cap) lo hi none).run P w = .ok (.slice (if cap = (loI lo).toNat then a else a.map (·.add ((loI lo).toNat * i.size))) ((hiI len hi).toNat - (loI lo).toNat) (cap - (loI lo).toNat)) w := by
  have hb := run_bounds (P := P) (w := w) (b := true) (len := len) (cap := cap) h0 h1 h2
  simp [Instr.sliceAt, run_underlying hu, Instr.slice, hb, sizeOf, typeInfo, hinf]
theorem run_sliceStr {t : TypeId} (hu : P.underlying t = some .string) {s : ByteArray} {lo hi : Option Value} (h0 : 0 ≤ loI lo) (h1 : loI lo ≤ hiI s.size hi) (h2 : hiI s.size hi ≤ s.size) :
    (Instr.sliceAt t (.string s) lo hi none).run P w = .ok (.string (s.extract (loI lo).toNat (hiI s.size hi).toNat)) w := by
  have hb := run_bounds (P := P) (w := w) (b := false) (len := s.size) (cap := s.size) h0 h1 h2
  simp [Instr.sliceAt, run_underlying hu, Instr.slice, hb]
def loA : Option AVal → Int | none => 0 | some (.v (.int _ n)) => n | _ => -1
def hiA (len : Nat) : Option AVal → Int | none => len | some (.v (.int _ n)) => n | _ => -1
theorem hiA_some (n : Nat) (v : AVal) : hiA n (some v) = loA (some v) := by
  cases v with
  | v x => cases x <;> rfl
  | _ => rfl
def sliceM_b (P : Program) (t : TypeId) (x : AVal) (lo hi mx : Option AVal) (h : AHeap) (K : KA) : Prop :=
  match mx with
  | some _ => False
  | none =>
    match x with
    | .v (.string s) => stT P t = true ∧ 0 ≤ loA lo ∧ loA lo ≤ hiA s.size hi ∧ hiA s.size hi ≤ s.size ∧ K (.v (.string (s.extract (loA lo).toNat (hiA s.size hi).toNat))) h
    | .sl xs => (match slT P t with
      | some e => okT P e = true ∧ (∀ x ∈ xs, x.flat.length = szT P e) ∧ 0 ≤ loA lo ∧ loA lo ≤ hiA xs.length hi ∧ hiA xs.length hi ≤ xs.length ∧ K (.sl ((xs.drop (loA lo).toNat).take ((hiA xs.length hi).toNat - (loA lo).toNat))) h
      | none => False)
    | .rf r g o m => (match slT P t, h[r]? with
      | some e, some (.row g' s xs) => g = g' ∧ okT P e = true ∧ s = szT P e ∧ 0 ≤ loA lo ∧ loA lo ≤ hiA m hi ∧ hiA m hi ≤ m ∧ K (.rf r g (o + (loA lo).toNat) ((hiA m hi).toNat - (loA lo).toNat)) h
      | _, _ => False)
    | _ => False
structure sliceM (P : Program) (t : TypeId) (x : AVal) (lo hi mx : Option AVal) (h : AHeap) (K : KA) : Prop where
  out : sliceM_b P t x lo hi mx h K
theorem lo_eq {x : Option AVal} {v : Option Value} (hr : RVo c w x v) (h0 : 0 ≤ loA x) : loI v = loA x := by
  match x, v, hr, h0 with
  | none, none, _, _ => rfl
  | some (.v (.int k n)), some v, hr, _ => cases hr; rfl
  | some (.v (.bool _)), _, _, h0 => simp [loA] at h0
  | some (.v (.float ..)), _, _, h0 => simp [loA] at h0
  | some (.v (.complex ..)), _, _, h0 => simp [loA] at h0
  | some (.v (.string _)), _, _, h0 => simp [loA] at h0
  | some (.v (.pointer _)), _, _, h0 => simp [loA] at h0
  | some (.v (.slice ..)), _, _, h0 => simp [loA] at h0
  | some (.v (.map _)), _, _, h0 => simp [loA] at h0
  | some (.v (.chan _)), _, _, h0 => simp [loA] at h0
  | some (.v (.func ..)), _, _, h0 => simp [loA] at h0
  | some (.v .nilFunc), _, _, h0 => simp [loA] at h0
  | some (.v (.iface ..)), _, _, h0 => simp [loA] at h0
  | some (.v .nilIface), _, _, h0 => simp [loA] at h0
  | some (.v (.agg _)), _, _, h0 => simp [loA] at h0
  | some (.v (.tuple _)), _, _, h0 => simp [loA] at h0
  | some (.agg _), _, _, h0 => simp [loA] at h0
  | some (.sl _), _, _, h0 => simp [loA] at h0
  | some (.fp _), _, _, h0 => simp [loA] at h0
  | some (.rf ..), _, _, h0 => simp [loA] at h0
  | some (.pt ..), _, _, h0 => simp [loA] at h0
  | some (.tup _), _, _, h0 => simp [loA] at h0
  | some (.ifc ..), _, _, h0 => simp [loA] at h0
  | some (.fn ..), _, _, h0 => simp [loA] at h0
  | some .dead, _, _, h0 => simp [loA] at h0
theorem hi_eq {n : Nat} {x : Option AVal} {v : Option Value} (hr : RVo c w x v) (h0 : 0 ≤ hiA n x) : hiI n v = hiA n x := by
  match x, v, hr with
  | none, none, _ => rfl
  | some y, some u, hr =>
    rw [hiA_some] at h0 ⊢
    rw [hiI_some]
    exact lo_eq (c := c) (w := w) (x := some y) (v := some u) hr h0
theorem slice_ok {t : TypeId} {x : AVal} {lo hi' mx : Option AVal} {vx : Value} {vlo vhi vmx : Option Value} (hH : RH c h w) (hx : RV c w x vx) (hlo : RVo c w lo vlo) (hhi : RVo c w hi' vhi) (hmx : RVo c w mx vmx)
    (hm : sliceM P t x lo hi' mx h K) : PVal P c w h (Instr.sliceAt t vx vlo vhi vmx) K := by
  replace hm := hm.out
  unfold sliceM_b at hm
  split at hm
  · exact hm.elim
  · cases vmx with
    | some _ => exact hmx.elim
    | none =>
      split at hm
      · rename_i s
        obtain ⟨hs, h0, h1, h2, hk⟩ := hm
        have e1 := lo_eq hlo h0
        have e2 := hi_eq hhi (Int.le_trans h0 h1)
        cases hx
        refine .pure hH (fun _ => run_sliceStr (stT_spec hs) (by rw [e1]; exact h0) (by rw [e1, e2]; exact h1) (by rw [e2]; exact h2)) ?_ hk
        rw [e1, e2]; exact .v _
      · rename_i xs
        split at hm
        · rename_i e he
          obtain ⟨hok, hsz, h0, h1, h2, hk⟩ := hm
          have e1 := lo_eq hlo h0
          have e2 := hi_eq hhi (Int.le_trans h0 h1)
          obtain ⟨i, d, hi, hd, his, _, _⟩ := okT_spec hok
          cases hx with
          | nil _ ad cap hxs =>
            subst hxs
            simp only [List.length_nil] at h1 h2 e2
            refine .pure hH (fun _ => run_sliceAt (slT_spec he) hi (by rw [e1]; exact h0) (by rw [e1, e2]; exact h1) (by rw [e2]; omega)) ?_ hk
            rw [e1, e2]
            have hz : (hiA 0 hi').toNat - (loA lo).toNat = 0 := by omega
            simp only [List.length_nil]
            rw [hz]
            exact .nil _ _ _ (by simp)
          | sl _ b off len cap s f hF hlen hcap hs hc hr =>
            refine .pure hH (fun _ => run_sliceAt (slT_spec he) hi (by rw [e1]; exact h0) (by rw [e1, hlen, e2]; exact h1) (by rw [hlen, e2]; omega)) ?_ hk
            rw [e1, hlen, e2]
            have hget : ∀ (k : Nat) (x : AVal), ((xs.drop (loA lo).toNat).take ((hiA xs.length hi').toNat - (loA lo).toNat))[k]? = some x → xs[(loA lo).toNat + k]? = some x ∧ k < (hiA xs.length hi').toNat - (loA lo).toNat := by
              intro k x hk
              have hlt : k < (hiA xs.length hi').toNat - (loA lo).toNat := by
                have := (List.getElem?_eq_some_iff.1 hk).1
                rw [List.length_take] at this; omega
              rw [List.getElem?_take_of_lt hlt, List.getElem?_drop] at hk
              exact ⟨hk, hlt⟩
            have hln : (hiA xs.length hi').toNat - (loA lo).toNat = ((xs.drop (loA lo).toNat).take ((hiA xs.length hi').toNat - (loA lo).toNat)).length := by
              rw [List.length_take, List.length_drop]; omega
            by_cases hcl : cap = (loA lo).toNat
            · rw [if_pos hcl]
              refine .sl _ b off _ _ s (fun i j => f ((loA lo).toNat + i) j) hF hln (by omega) (fun i x hi => hs _ _ (hget _ _ hi).1) (fun i x j a h1 h2 => ?_) (fun i x j a h1 h2 => hr _ _ _ _ (hget _ _ h1).1 h2)
              have := (hget _ _ h1).2
              omega
            · rw [if_neg hcl]
              show RV c w _ (.slice (some (Addr.add ⟨b, off, none⟩ ((loA lo).toNat * i.size))) _ _)
              rw [Addr.add_mid]
              refine .sl _ b _ _ _ s (fun i j => f ((loA lo).toNat + i) j) hF hln (by omega) (fun i x hi => hs _ _ (hget _ _ hi).1) (fun k x j a h1 h2 => ?_) (fun i x j a h1 h2 => hr _ _ _ _ (hget _ _ h1).1 h2)
              obtain ⟨g1, g2⟩ := hget _ _ h1
              have hss : i.size = s := by rw [his, ← hsz x (List.mem_of_getElem? g1)]; exact hs _ _ g1
              have := hc _ _ _ _ g1 h2
              rw [hss, ← this]
              congr 2
              rw [Nat.add_mul]; omega
        · exact hm.elim
      · rename_i r g o m
        split at hm
        · rename_i e g' s xs he hrow
          obtain ⟨rfl, hok, rfl, h0, h1, h2, hk⟩ := hm
          have e1 := lo_eq hlo h0
          have e2 := hi_eq hhi (Int.le_trans h0 h1)
          obtain ⟨i, d, hi, hd, his, _, _⟩ := okT_spec hok
          obtain ⟨hg, hz, _, hR⟩ := hH.row _ _ _ _ hrow
          cases hx with
          | rf _ _ _ _ a cap hlt hcond =>
            obtain ⟨ha, hl, hcm, hcc⟩ := hcond hg
            refine .pure hH (fun _ => run_sliceAt (slT_spec he) hi (by rw [e1]; exact h0) (by rw [e1, e2]; exact h1) (by rw [e2]; omega)) ?_ hk
            rw [e1, e2]
            have hfit : (o + (loA lo).toNat + (cap - (loA lo).toNat)) * c.sz r ≤ c.cap r := by
              rw [show o + (loA lo).toNat + (cap - (loA lo).toNat) = o + cap by omega]; exact hcc
            by_cases hcl : cap = (loA lo).toNat
            · rw [if_pos hcl]
              exact .rf _ _ _ _ _ _ hlt (fun _ => ⟨.inl (by omega), by omega, by omega, hfit⟩)
            · rw [if_neg hcl]
              show RV c w _ (.slice (some (Addr.add a ((loA lo).toNat * i.size))) _ _)
              refine .rf _ _ _ _ _ _ hlt (fun _ => ⟨.inr ?_, by omega, by omega, hfit⟩)
              have ha := ha.resolve_left (by omega)
              rw [ha, Addr.add_mid, his, ← hz, Nat.add_mul]
        · exact hm.elim
      · exact hm.elim
end
def ev (env : Env) : Operand → AVal
  | .tmp t => env t
  | .const v => .v v
  | .global _ => .dead
  | .func f => .fn f []
def fnT (P : Program) (f : FuncId) : Bool := match P.funcs[f]? with | some fn => fn.name != "runtime.NumGoroutine" && fn.body.isSome | none => false
def gdM (x : AVal) (A B : Prop) : Prop := match x with | .v (.bool b) => bcase b A B | _ => False
structure clM (P : Program) (g : FuncId) (xs : List AVal) (h : AHeap) [K : Bd KA] : Prop where
  fn : fnT P g = true
  out : callM P g xs h K.f
theorem cl_fn {P : Program} {g : FuncId} {xs : List AVal} {h : AHeap} {K : Bd KA} (hc : @clM P g xs h K) : fnT P g = true := @clM.fn P g xs h K hc
theorem cl_out {P : Program} {g : FuncId} {xs : List AVal} {h : AHeap} {K : Bd KA} (hc : @clM P g xs h K) : callM P g xs h K.f := @clM.out P g xs h K hc
theorem cl_of {P : Program} {g : FuncId} {xs : List AVal} {h : AHeap} {K : KA} (hf : fnT P g = true) (hc : callM P g xs h K) : @clM P g xs h ⟨K⟩ := @clM.mk P g xs h ⟨K⟩ hf hc
def callV (P : Program) (f : AVal) (xs : List AVal) (h : AHeap) (K : KA) : Prop := match f with | .fn g caps => @clM P g (xs ++ caps) h ⟨K⟩ | _ => False
def adOp (P : Program) (o : Oper) (env : Env) (h : AHeap) (K : KA) : Prop :=
  match o.op with
  | .move x => K (ev env x) h
  | .assign x => K (ev env x) h
  | .pick c a b => pickM (ev env c) (ev env a) (ev env b) h K
  | .alloc e => allocM P e h K
  | .box e x => boxM e (ev env x) h K
  | .build t ps => buildM P t (ps.toList.map fun p => (p.1, ev env p.2)) h K
  | .buildSlice t n ps => buildSliceM P t n (ps.toList.map fun p => (p.1, ev env p.2)) h K
  | .load t x => loadM P t (ev env x) h K
  | .store t x y => storeM P t (ev env x) (ev env y) h K
  | .nilCheck x => nilChkM (ev env x) h K
  | .binOp op t x y _ => binM P op t (ev env x) (ev env y) h K
  | .unOp op _ x => unM op (ev env x) h K
  | .convert s d x => convM P s d (ev env x) h K
  | .makeSlice t x y => makeM P t (ev env x) (ev env y) h K
  | .slice t x lo hi mx => sliceM P t (ev env x) (lo.map (ev env)) (hi.map (ev env)) (mx.map (ev env)) h K
  | .fieldAddr t x f => fldAddrM P t (ev env x) f h K
  | .field t x f => fieldM P t (ev env x) f h K
  | .indexAddr t x i => ixAddrM P t (ev env x) (ev env i) h K
  | .index t x i => idxM P t (ev env x) (ev env i) h K
  | .extract x i => extractM (ev env x) i h K
  | .call c =>
    match c.callee with
    | .value f => callV P (ev env f) (c.args.toList.map (ev env)) h K
    | .builtin b => (match b, c.argTypes.toList, c.args.toList with
      | .len, [t], [x] => lenM P t (ev env x) h K
      | .append, [t, tx], [x, y] => appendM P t tx (ev env x) (ev env y) h K
      | .max, [_, _], [x, y] => maxM (ev env x) (ev env y) h K
      | .min, [_, _], [x, y] => minM (ev env x) (ev env y) h K
      | _, _, _ => False)
    | _ => False
  | _ => False
def adPut (nt : Nat) (dst : Option Tmp) (env : Env) (x : AVal) (K : Env → Prop) : Prop :=
  match dst with
  | none => K env
  | some d => bif Nat.blt d nt then K (upd env d x) else False
def memN (d : Nat) : List Nat → Bool
  | [] => false
  | a :: l => Nat.beq a d || memN d l
def remN (d : Nat) : List Nat → List Nat
  | [] => []
  | a :: l => bif Nat.beq a d then remN d l else a :: remN d l
def remO (d : Option Nat) (l : List Nat) : List Nat := match d with | some d => remN d l | none => l
def addO (d : Option Nat) (l : List Nat) : List Nat := match d with | some d => d :: l | none => l
/-- sk: the temporaries that surely hold nothing -/
def adOps (P : Program) (nt : Nat) (ops : Array Oper) : List Oper → List Nat → Env → AHeap → (Env → AHeap → Prop) → Prop
  | [], _, env, h, K => K env h
  | o :: l, sk, env, h, K =>
    match o.guard with
    | none => adOp P o env h (fun x h' => adPut nt o.dst env x (fun env' => adOps P nt ops l (remO o.dst sk) env' h' K))
    | some (j, want) =>
      match (ops[j]?).bind (·.dst) with
      | none => False
      | some t =>
        bif memN t sk then adPut nt o.dst env (.v undef) (fun env' => adOps P nt ops l (addO o.dst sk) env' h K)
        else gdM (env t)
            (bif want then adOp P o (upd env t (.v (.bool true))) h (fun x h' => adPut nt o.dst (upd env t (.v (.bool true))) x (fun env' => adOps P nt ops l (remO o.dst sk) env' h' K))
             else adPut nt o.dst (upd env t (.v (.bool true))) (.v undef) (fun env' => adOps P nt ops l (addO o.dst sk) env' h K))
            (bif want then adPut nt o.dst (upd env t (.v (.bool false))) (.v undef) (fun env' => adOps P nt ops l (addO o.dst sk) env' h K)
             else adOp P o (upd env t (.v (.bool false))) h (fun x h' => adPut nt o.dst (upd env t (.v (.bool false))) x (fun env' => adOps P nt ops l (remO o.dst sk) env' h' K)))
section
variable {P : Program} {c : Ctx} {w : World} {h : AHeap}
theorem ev_ok {env : Env} {a : Act} {nt : Nat} (hE : RE c w env a nt) (x : Operand) : RV c w (ev env x) (a.eval x) := by
  cases x with
  | tmp t => exact hE.2 t
  | const v => exact .v v
  | global g => exact .dead _
  | func f => exact .fn f [] #[] rfl (fun i a h => by simp at h)
theorem evs_ok {env : Env} {a : Act} {nt : Nat} (hE : RE c w env a nt) (xs : Array Operand) : RVs c w (xs.toList.map (ev env)) (xs.map a.eval) := by
  refine ⟨by simp, fun i y hy => ?_⟩
  rw [List.getElem?_map, Option.map_eq_some_iff] at hy
  obtain ⟨o, ho, rfl⟩ := hy
  have : (xs.map a.eval).getD i undef = a.eval o := by
    rw [Array.getElem?_toList] at ho
    simp [Array.getD_eq_getD_getElem?, ho]
  rw [this]
  exact ev_ok hE o
theorem evp_ok {env : Env} {a : Act} {nt : Nat} (hE : RE c w env a nt) : ∀ (ps : List (Nat × Operand)), RPs c w (ps.map fun p => (p.1, ev env p.2)) (ps.map fun p => (p.1, a.eval p.2))
  | [] => .nil
  | (i, x) :: ps => .cons i _ _ _ _ (ev_ok hE x) (evp_ok hE ps)
theorem evo_ok {env : Env} {a : Act} {nt : Nat} (hE : RE c w env a nt) (x : Option Operand) : RVo c w (x.map (ev env)) (x.map a.eval) := by
  cases x with
  | none => trivial
  | some x => exact ev_ok hE x
/-- what follows an operation -/
def Nxt (P : Program) (c : Ctx) (w : World) (a : Act) (dst : Option Tmp) (K : KA) (next : Act → World → Prop) : Prop :=
  ∀ c' w' x v h', Ext c w c' w' → RH c' h' w' → RV c' w' x v → K x h' → next (a.put dst v) w'
theorem Val.upon {K : KA} {o : Oper} {a : Act} {next : Act → World → Prop} {Q : Exit → Act → World → Prop} {s : Sem Value} (hv : Val P c w s K) (hn : Nxt P c w a o.dst K next) (ho : execOp a.eval o = (do Pure.pure (.value (← s)))) : o.wp P a w next Q := by
  obtain ⟨v, w', c', x, h', hr, h1, h2, h3, h4⟩ := hv
  unfold Oper.wp
  rw [ho, Sem.run_bind, hr]
  exact hn c' w' x v h' h1 h2 h3 h4
theorem ValU.upon {K : KA} {o : Oper} {a : Act} {next : Act → World → Prop} {Q : Exit → Act → World → Prop} {s : Sem Unit} (hv : ValU P c w s K) (hn : Nxt P c w a o.dst K next) (ho : execOp a.eval o = (do s; Pure.pure .skip)) : o.wp P a w next Q := by
  obtain ⟨w', c', h', hr, h1, h2, h4⟩ := hv
  unfold Oper.wp
  rw [ho, Sem.run_bind, hr]
  exact hn c' w' _ _ h' h1 h2 (.v undef) h4
theorem nil_ofList {α : Type} {xs : Array α} (h : xs.toList = []) : xs = #[] := Array.toList_eq_nil_iff.1 h
theorem arr_ofList {α : Type} {xs : Array α} {l : List α} (h : xs.toList = l) : xs = l.toArray := by rw [← h]
theorem call_ok {K : KA} {o : Oper} {a : Act} {nt : Nat} {env : Env} {next : Act → World → Prop} {Q : Exit → Act → World → Prop} {cl : Call} {f : Operand} {g : FuncId} {caps : List AVal} (hH : RH c h w) (hE : RE c w env a nt)
    (ho : o.op = .call cl) (hf : cl.callee = .value f) (hg : ev env f = .fn g caps) (hfn : fnT P g = true) (hm : callM P g (cl.args.toList.map (ev env) ++ caps) h K) (hn : Nxt P c w a o.dst K next) : o.wp P a w next Q := by
  have h1 := ev_ok hE f
  rw [hg] at h1
  generalize hfv : a.eval f = fv at h1
  cases h1 with
  | fn _ _ vs hl hh =>
    obtain ⟨fn, hfun, hname, hbody⟩ : ∃ fn, P.funcs[g]? = some fn ∧ fn.name ≠ "runtime.NumGoroutine" ∧ fn.body ≠ none := by
      unfold fnT at hfn
      split at hfn
      · rename_i fn hq
        rw [Bool.and_eq_true] at hfn
        exact ⟨fn, hq, by simpa using hfn.1, fun he => by rw [he] at hfn; simp at hfn⟩
      · cases hfn
    have hrun : (execOp a.eval o).run P w = .ok (.enter g (cl.args.map a.eval ++ vs)) w := by
      unfold execOp
      rw [ho]
      simp [resolve, hf, hfv, Deferred.ofValue, invoke, callFunc, program, Sem.run, hfun, hname, hbody]
    unfold Oper.wp
    rw [hrun]
    show Calls P g (cl.args.map a.eval ++ vs) w _
    obtain ⟨ha1, ha2⟩ := evs_ok hE cl.args
    refine (hm c w _ hH ⟨?_, fun i y hy => ?_⟩).mono ?_
    · rw [Array.size_append, List.length_append, ha1, hl]
    · rcases Nat.lt_or_ge i (cl.args.toList.map (ev env)).length with hlt | hge
      · rw [List.getElem?_append_left hlt] at hy
        have : (cl.args.map a.eval ++ vs).getD i undef = (cl.args.map a.eval).getD i undef := by
          rw [Array.getD_eq_getD_getElem?, Array.getD_eq_getD_getElem?, Array.getElem?_append_left (by omega)]
        rw [this]; exact ha2 i y hy
      · rw [List.getElem?_append_right hge] at hy
        have : (cl.args.map a.eval ++ vs).getD i undef = vs.getD (i - (cl.args.toList.map (ev env)).length) undef := by
          rw [Array.getD_eq_getD_getElem?, Array.getD_eq_getD_getElem?, Array.getElem?_append_right (by omega), ha1]
        rw [this]; exact hh _ y hy
    · rintro e w' ⟨v, c', x, h', rfl, h1, h2, h3, h4⟩
      exact hn c' w' x v h' h1 h2 h3 h4
set_option maxHeartbeats 1000000 in
theorem op_ok {K : KA} {o : Oper} {a : Act} {nt : Nat} {env : Env} {next : Act → World → Prop} {Q : Exit → Act → World → Prop} (hH : RH c h w) (hE : RE c w env a nt) (hm : adOp P o env h K) (hn : Nxt P c w a o.dst K next) : o.wp P a w next Q := by
  obtain ⟨dst, op, type, pos, after, guard⟩ := o
  cases op with
  | move x => exact hn c w _ _ h (Ext.refl _ _) hH (ev_ok hE x) hm
  | assign x => exact hn c w _ _ h (Ext.refl _ _) hH (ev_ok hE x) hm
  | pick x y z => exact ((pick_ok hH (ev_ok hE x) (ev_ok hE y) (ev_ok hE z) hm).val hH).upon hn (by simp [execOp])
  | alloc e => exact (alloc_ok hH hm).val.upon hn rfl
  | box e x => exact (box_ok hH (ev_ok hE x) hm).val.upon hn rfl
  | build t ps =>
    have hm : buildM P t (ps.toList.map fun p => (p.1, ev env p.2)) h K := hm
    have hp : RPs c w (ps.toList.map fun p => (p.1, ev env p.2)) (ps.map fun p => (p.1, a.eval p.2)).toList := by
      rw [Array.toList_map]; exact evp_ok hE ps.toList
    exact ((build_ok hH hp hm).val hH).upon hn rfl
  | buildSlice t n ps =>
    have hm : buildSliceM P t n (ps.toList.map fun p => (p.1, ev env p.2)) h K := hm
    have hp : RPs c w (ps.toList.map fun p => (p.1, ev env p.2)) (ps.map fun p => (p.1, a.eval p.2)).toList := by
      rw [Array.toList_map]; exact evp_ok hE ps.toList
    exact (buildSlice_ok hH hp hm).val.upon hn rfl
  | load t x => exact (load_ok hH (ev_ok hE x) hm).upon hn rfl
  | store t x y => exact (store_ok hH (ev_ok hE x) (ev_ok hE y) hm).upon hn rfl
  | nilCheck x =>
    have hm : nilChkM (ev env x) h K := hm
    have hx := ev_ok hE x
    have key : ∀ v, a.eval x = v → (∀ nm fst cp, v ≠ .func (.method nm) fst cp) → v ≠ .pointer none → v ≠ .nilIface → v ≠ .nilFunc → RV c w (ev env x) v → K (ev env x) h → Oper.wp P { dst, op := .nilCheck x, type, pos, after, guard } a w next Q := by
      intro v hv h1 h2 h3 h4 h5 h6
      unfold Oper.wp execOp
      simp only [hv]
      cases v with
      | pointer q => cases q with
        | none => exact absurd rfl h2
        | some q => exact hn c w _ _ h (Ext.refl _ _) hH h5 h6
      | nilIface => exact absurd rfl h3
      | nilFunc => exact absurd rfl h4
      | func fn fst cp => cases fn with
        | method nm => exact absurd rfl (h1 _ _ _)
        | _ => exact hn c w _ _ h (Ext.refl _ _) hH h5 h6
      | _ => exact hn c w _ _ h (Ext.refl _ _) hH h5 h6
    replace hm := hm.out
    unfold nilChkM_b at hm
    split at hm
    · rename_i y hy
      rw [hy] at hx key hm
      generalize hv : a.eval x = v at hx
      cases hx with
      | fp _ b off f hF hc hr => exact key _ hv (by simp) (by simp) (by simp) (by simp) (.fp _ b off f hF hc hr) hm
    · rename_i r g i j hy
      rw [hy] at hx key hm
      generalize hv : a.eval x = v at hx
      cases hx with
      | pt _ _ _ _ q h1 h2 => exact key _ hv (by simp) (by simp) (by simp) (by simp) (.pt _ _ _ _ q h1 h2) hm
    · rename_i f caps hy
      rw [hy] at hx key hm
      generalize hv : a.eval x = v at hx
      cases hx with
      | fn _ _ vs hl hh => exact key _ hv (by simp) (by simp) (by simp) (by simp) (.fn _ _ vs hl hh) hm
    · exact hm.elim
  | binOp op t x y ty => exact ((bin_ok (ox := x) (oy := y) hH (ev_ok hE x) (ev_ok hE y) hm).val hH).upon hn rfl
  | unOp op t x => exact ((un_ok hH (ev_ok hE x) hm).val hH).upon hn rfl
  | convert s d x => exact ((conv_ok hH (ev_ok hE x) hm).val hH).upon hn rfl
  | makeSlice t x y => exact (make_ok hH (ev_ok hE x) (ev_ok hE y) hm).val.upon hn rfl
  | slice t x lo hi mx => exact ((slice_ok hH (ev_ok hE x) (evo_ok hE lo) (evo_ok hE hi) (evo_ok hE mx) hm).val hH).upon hn rfl
  | fieldAddr t x f => exact ((fldAddr_ok hH (ev_ok hE x) hm).val hH).upon hn rfl
  | field t x f => exact ((field_ok hH (ev_ok hE x) hm).val hH).upon hn rfl
  | indexAddr t x i => exact ((ixAddr_ok hH (ev_ok hE x) (ev_ok hE i) hm).val hH).upon hn rfl
  | index t x i => exact ((idx_ok hH (ev_ok hE x) (ev_ok hE i) hm).val hH).upon hn rfl
  | extract x i => exact ((extract_ok hH (ev_ok hE x) hm).val hH).upon hn rfl
  | call cl =>
    obtain ⟨callee, args, argTypes⟩ := cl
    cases callee with
    | value f =>
      have hm : callV P (ev env f) (args.toList.map (ev env)) h K := hm
      unfold callV at hm
      split at hm
      · rename_i g caps hg
        exact call_ok hH hE rfl rfl hg (cl_fn hm) (cl_out hm) hn
      · exact hm.elim
    | builtin b =>
      simp only [adOp] at hm
      split at hm
      · rename_i t x e1 e2
        obtain rfl := arr_ofList e1
        obtain rfl := arr_ofList e2
        exact ((len_ok (ty := type) hH (ev_ok hE x) hm).val hH).upon hn (by simp [execOp, resolve, invoke, builtin])
      · rename_i t tx x y e1 e2
        obtain rfl := arr_ofList e1
        obtain rfl := arr_ofList e2
        exact (append_ok (ty := type) hH (ev_ok hE x) (ev_ok hE y) hm).upon hn (by simp [execOp, resolve, invoke, builtin])
      · rename_i t tx x y e1 e2
        obtain rfl := arr_ofList e1
        obtain rfl := arr_ofList e2
        exact ((max_ok (ts := #[t, tx]) (ty := type) hH (ev_ok hE x) (ev_ok hE y) hm).val hH).upon hn (by simp [execOp, resolve, invoke, builtin])
      · rename_i t tx x y e1 e2
        obtain rfl := arr_ofList e1
        obtain rfl := arr_ofList e2
        exact ((min_ok (ts := #[t, tx]) (ty := type) hH (ev_ok hE x) (ev_ok hE y) hm).val hH).upon hn (by simp [execOp, resolve, invoke, builtin])
      · exact hm.elim
    | invoke r m => exact hm.elim
  | _ => exact hm.elim
end
/-! ### regions that draw their order -/
/-- 0: reckons alone; 1: reads; 2: makes a block; 3: whatever -/
def clsOf : Op → Nat
  | .move _ => 0
  | .assign _ => 0
  | .pick .. => 0
  | .nilCheck _ => 0
  | .binOp .. => 0
  | .unOp .. => 0
  | .convert .. => 0
  | .slice .. => 0
  | .fieldAddr .. => 0
  | .field .. => 0
  | .indexAddr .. => 0
  | .index .. => 0
  | .extract .. => 0
  | .build .. => 0
  | .call c => match c.callee with | .builtin .len => 0 | _ => 3
  | .load .. => 1
  | .alloc _ => 2
  | .box .. => 2
  | .buildSlice .. => 2
  | .makeSlice .. => 2
  | _ => 3
section
variable {P : Program} {ops : Array Oper} {Q : Exit → Act → World → Prop}
def wpC1 (P : Program) (ops : Array Oper) (Q : Exit → Act → World → Prop) (i : Nat) (K : Act → World → Prop) (a : Act) (w : World) : Prop :=
  match ops[i]? with
  | none => False
  | some o => if Region.wanted o (yielded ops a.tmps) = true then
      (match clsOf o.op with
       | 0 => ∃ v, (∀ w', (execOp a.eval o).run P w' = .ok (.value v) w') ∧ K (a.put o.dst v) w
       | 1 => ∃ v, (∀ w', Grew w w' → (execOp a.eval o).run P w' = .ok (.value v) w') ∧ K (a.put o.dst v) w
       | 2 => ∃ v w1, (execOp a.eval o).run P w = .ok (.value v) w1 ∧ Grew w w1 ∧ K (a.put o.dst v) w1
       | _ => o.wp P a w K Q)
    else K (a.put o.dst undef) w
def wpC (P : Program) (ops : Array Oper) (Q : Exit → Act → World → Prop) : List Nat → Act → World → Prop
  | [], a, w => Q .normal a w
  | i :: l, a, w => wpC1 P ops Q i (wpC P ops Q l) a w
theorem wpC1_mono {i : Nat} {K K' : Act → World → Prop} {a : Act} {w : World} (h : wpC1 P ops Q i K a w) (hk : ∀ a w, K a w → K' a w) : wpC1 P ops Q i K' a w := by
  unfold wpC1 at *
  split at h
  · exact h
  · split at h
    · rename_i hw
      rw [if_pos hw]
      split at h
      · obtain ⟨v, h1, h2⟩ := h; exact ⟨v, h1, hk _ _ h2⟩
      · obtain ⟨v, h1, h2⟩ := h; exact ⟨v, h1, hk _ _ h2⟩
      · obtain ⟨v, w1, h1, h2, h3⟩ := h; exact ⟨v, w1, h1, h2, hk _ _ h3⟩
      · exact Oper.wp_mono hk h
    · rename_i hw
      rw [if_neg hw]
      exact hk _ _ h
theorem wpC1_wpOp {i : Nat} {K : Act → World → Prop} {a : Act} {w : World} (h : wpC1 P ops Q i K a w) : wpOp P ops Q i K a w := by
  unfold wpC1 at h
  unfold wpOp
  split at h
  · exact h.elim
  · rename_i o ho
    simp only [ho]
    split at h
    · rename_i hw
      simp only [hw, if_true]
      refine .inl ?_
      split at h
      · obtain ⟨v, h1, h2⟩ := h; unfold Oper.wp; rw [h1 w]; exact h2
      · obtain ⟨v, h1, h2⟩ := h; unfold Oper.wp; rw [h1 w (Grew.refl w)]; exact h2
      · obtain ⟨v, w1, h1, h2, h3⟩ := h; unfold Oper.wp; rw [h1]; exact h3
      · exact h
    · rename_i hw
      simp only [hw]
      exact h
def SameAt (ops : Array Oper) (o : Oper) (a a' : Act) : Prop := execOp a'.eval o = execOp a.eval o ∧ Region.wanted o (yielded ops a'.tmps) = Region.wanted o (yielded ops a.tmps)
theorem wpC1_put {j : Nat} {oi oj : Oper} {v : Value} (hj : ops[j]? = some oj) (hap : oi.apart ops oj = true) (hsi : ∀ cs b, oi.op ≠ .select cs b) (hsj : ∀ cs b, oj.op ≠ .select cs b)
    (hnp : ∀ c a w, ¬ Q (.panic c) a w) {K : Act → World → Prop} {a : Act} {w : World} (h : wpC1 P ops Q j K (a.put oi.dst v) w) :
    wpC1 P ops Q j (fun a' w' => SameAt ops oi a a' ∧ K (a'.put oi.dst v) w') a w := by
  obtain ⟨h1, h2, h3⟩ := Oper.apart_spec hap
  have keep : ∀ u, SameAt ops oi a (a.put oj.dst u) := fun u => ⟨execOp_put oi hsi a oj.dst u h3, wanted_put oi a oj.dst u h3⟩
  have keepD : ∀ d u, SameAt ops oi a (({ a with defers := d :: a.defers } : Act).put oj.dst u) := fun d u =>
    ⟨(execOp_put oi hsi _ oj.dst u h3).trans rfl, (wanted_put oi _ oj.dst u h3).trans rfl⟩
  have he := execOp_put oj hsj a oi.dst v h1
  unfold wpC1 at *
  simp only [hj] at *
  rw [wanted_put oj a oi.dst v h1] at h
  split at h
  · rename_i hw
    rw [if_pos hw]
    rw [he] at h
    split at h
    · obtain ⟨u, k1, k2⟩ := h; exact ⟨u, k1, keep u, by rw [← Act.put_comm a v u h2]; exact k2⟩
    · obtain ⟨u, k1, k2⟩ := h; exact ⟨u, k1, keep u, by rw [← Act.put_comm a v u h2]; exact k2⟩
    · obtain ⟨u, w1, k1, k2, k3⟩ := h; exact ⟨u, w1, k1, k2, keep u, by rw [← Act.put_comm a v u h2]; exact k3⟩
    · unfold Oper.wp at *
      rw [he] at h
      generalize (execOp a.eval oj).run P w = r at *
      cases r with
      | ok n w' =>
        cases n <;> simp only [Oper.upon] at h ⊢
        case value u => exact ⟨keep u, by rw [← Act.put_comm a v u h2]; exact h⟩
        case skip => exact ⟨keep _, by rw [← Act.put_comm a v undef h2]; exact h⟩
        case defer d =>
          refine ⟨keepD d _, ?_⟩
          rw [← Act.put_comm _ v undef h2, ← Act.put_defers]
          exact h
        case enter f args =>
          refine Calls.mono h fun e w'' he => ?_
          cases e with
          | returned u => exact ⟨keep u, by rw [← Act.put_comm a v u h2]; exact he⟩
          | panicked c => exact absurd he (hnp _ _ _)
          | outgrown => exact he
        case row row args => exact Rows.mono h fun u w'' he => ⟨keep u, by rw [← Act.put_comm a v u h2]; exact he⟩
      | halt x w' =>
        cases x <;> simp only [Oper.upon] at h ⊢
        case panic u => exact absurd h (hnp _ _ _)
  · rename_i hw
    rw [if_neg hw]
    exact ⟨keep _, by rw [← Act.put_comm a v undef h2]; exact h⟩
/-- two that may change places -/
def commC (p q : Nat) : Bool := Nat.beq p 0 || (Nat.beq p 1 && (Nat.beq q 0 || (Nat.beq q 1 || Nat.beq q 2)))
theorem wpC1_swap {i j : Nat} {oi oj : Oper} (hi : ops[i]? = some oi) (hj : ops[j]? = some oj) (hap : oi.apart ops oj = true) (hsi : ∀ cs b, oi.op ≠ .select cs b) (hsj : ∀ cs b, oj.op ≠ .select cs b)
    (hcl : commC (clsOf oi.op) (clsOf oj.op) = true) (hnp : ∀ c a w, ¬ Q (.panic c) a w) {K : Act → World → Prop} {a : Act} {w : World} (h : wpC1 P ops Q i (wpC1 P ops Q j K) a w) :
    wpC1 P ops Q j (wpC1 P ops Q i K) a w := by
  have back : ∀ (v : Value) (C : Act → World → Prop), wpC1 P ops Q j (fun a' w' => SameAt ops oi a a' ∧ C a' w') a w → (∀ a' w', SameAt ops oi a a' → C a' w' → wpC1 P ops Q i K a' w') → wpC1 P ops Q j (wpC1 P ops Q i K) a w :=
    fun v C hc hh => wpC1_mono hc (fun a' w' hx => hh a' w' hx.1 hx.2)
  unfold wpC1 at h
  simp only [hi] at h
  split at h
  · rename_i hw
    split at h
    · obtain ⟨v, k1, k2⟩ := h
      rename_i hc0
      refine back v _ (wpC1_put hj hap hsi hsj hnp k2) (fun a' w' hs hk => ?_)
      unfold wpC1
      simp only [hi]
      rw [hs.2, if_pos hw, hc0]
      exact ⟨v, fun w2 => by rw [hs.1]; exact k1 w2, hk⟩
    · obtain ⟨v, k1, k2⟩ := h
      rename_i hc1
      rw [hc1] at hcl
      have hk := wpC1_put hj hap hsi hsj hnp k2
      unfold wpC1 at hk ⊢
      simp only [hj, hi] at hk ⊢
      have hcj : clsOf oj.op = 0 ∨ clsOf oj.op = 1 ∨ clsOf oj.op = 2 := by
        unfold commC at hcl
        rw [Bool.or_eq_true] at hcl
        rcases hcl with hh | hh
        · exact absurd (Nat.eq_of_beq_eq_true hh) (by omega)
        · rw [Bool.and_eq_true, Bool.or_eq_true, Bool.or_eq_true] at hh
          exact hh.2.imp Nat.eq_of_beq_eq_true (fun h => h.imp Nat.eq_of_beq_eq_true Nat.eq_of_beq_eq_true)
      have fin : ∀ a' w', Grew w w' → SameAt ops oi a a' → K (a'.put oi.dst v) w' → (if Region.wanted oi (yielded ops a'.tmps) = true then
          (match clsOf oi.op with
           | 0 => ∃ v, (∀ w', (execOp a'.eval oi).run P w' = .ok (.value v) w') ∧ K (a'.put oi.dst v) w'
           | 1 => ∃ v, (∀ w'', Grew w' w'' → (execOp a'.eval oi).run P w'' = .ok (.value v) w'') ∧ K (a'.put oi.dst v) w'
           | 2 => ∃ v w1, (execOp a'.eval oi).run P w' = .ok (.value v) w1 ∧ Grew w' w1 ∧ K (a'.put oi.dst v) w1
           | _ => oi.wp P a' w' K Q) else K (a'.put oi.dst undef) w') := by
        intro a' w' hg hs hk
        rw [hs.2, if_pos hw, hc1]
        exact ⟨v, fun w2 hg2 => by rw [hs.1]; exact k1 w2 (hg.trans hg2), hk⟩
      split at hk
      · rename_i hwj
        rw [if_pos hwj]
        rcases hcj with hcj | hcj | hcj
        · rw [hcj] at hk ⊢
          obtain ⟨u, u1, u2, u3⟩ := hk
          exact ⟨u, u1, fin _ _ (Grew.refl w) u2 u3⟩
        · rw [hcj] at hk ⊢
          obtain ⟨u, u1, u2, u3⟩ := hk
          exact ⟨u, u1, fin _ _ (Grew.refl w) u2 u3⟩
        · rw [hcj] at hk ⊢
          obtain ⟨u, w1, u1, u2, u3, u4⟩ := hk
          exact ⟨u, w1, u1, u2, fin _ _ u2 u3 u4⟩
      · rename_i hwj
        rw [if_neg hwj]
        exact fin _ _ (Grew.refl w) hk.1 hk.2
    · rename_i hc2
      rw [hc2] at hcl
      cases hcl
    · rename_i n0 n1 n2
      unfold commC at hcl
      rw [Bool.or_eq_true] at hcl
      rcases hcl with hh | hh
      · exact absurd (Nat.eq_of_beq_eq_true hh) n0
      · rw [Bool.and_eq_true] at hh
        exact absurd (Nat.eq_of_beq_eq_true hh.1) n1
  · rename_i hw
    refine back undef _ (wpC1_put hj hap hsi hsj hnp h) (fun a' w' hs hk => ?_)
    unfold wpC1
    simp only [hi]
    rw [hs.2, if_neg hw]
    exact hk
/-- one is taken ahead of those that stand before it -/
theorem wpC_front (hnp : ∀ c a w, ¬ Q (.panic c) a w) {j : Nat} : ∀ (l m : List Nat), (∀ i ∈ l, ∀ (a : Act) (w : World) (K : Act → World → Prop), wpC1 P ops Q i (wpC1 P ops Q j K) a w → wpC1 P ops Q j (wpC1 P ops Q i K) a w) →
    ∀ (a : Act) (w : World), wpC P ops Q (l ++ j :: m) a w → wpC1 P ops Q j (wpC P ops Q (l ++ m)) a w
  | [], m, _, a, w, h => h
  | i :: l, m, hs, a, w, h => by
    have ih := wpC_front hnp l m (fun k hk => hs k (List.mem_cons_of_mem _ hk))
    have h : wpC1 P ops Q i (wpC P ops Q (l ++ j :: m)) a w := h
    exact hs i List.mem_cons_self a w _ (wpC1_mono h ih)
/-- who comes before whom, by the edges, told for each operation -/
def closOf : List Oper → List (List Nat) → List (List Nat)
  | [], acc => acc
  | o :: l, acc => closOf l (acc ++ [o.after.toList.foldr (fun e s => bif Region.binds .any e then e.on :: (acc.getD e.on [] ++ s) else s) []])
def noEdge (ops : Array Oper) (i j : Nat) : Bool := match ops[i]? with | some o => o.after.toList.all (fun e => !Region.binds .any e || !Nat.beq e.on j) | none => false
def drawPair (ops : Array Oper) (clo : List (List Nat)) (i j : Nat) : Bool :=
  !Nat.beq i j && noEdge ops i j && (memN i (clo.getD j []) || (match ops[i]?, ops[j]? with | some oi, some oj => oi.apart ops oj && commC (clsOf oi.op) (clsOf oj.op) | _, _ => false))
def drawAll (ops : Array Oper) (clo : List (List Nat)) : List Nat → Bool
  | [] => true
  | i :: l => l.all (fun j => drawPair ops clo i j) && drawAll ops clo l
def edgesLt : List Oper → Nat → Bool
  | [], _ => true
  | o :: l, n => o.after.toList.all (fun e => !Region.binds .any e || Nat.blt e.on n) && edgesLt l (n + 1)
/-- the order 'ord' stands for all -/
def drawOK (ops : Array Oper) (ord : List Nat) : Bool :=
  Nat.beq ord.length ops.size && (List.range ops.size).all (fun i => memN i ord) && ord.all (fun i => Nat.blt i ops.size) && edgesLt ops.toList 0 && drawAll ops (closOf ops.toList []) ord && Region.noSelect ops
theorem memN_iff {x : Nat} : ∀ {l : List Nat}, memN x l = true ↔ x ∈ l
  | [] => by simp [memN]
  | a :: l => by
    unfold memN
    rw [Bool.or_eq_true, memN_iff (l := l), List.mem_cons]
    constructor
    · rintro (h | h)
      · exact .inl (Nat.eq_of_beq_eq_true h).symm
      · exact .inr h
    · rintro (h | h)
      · exact .inl (by rw [h]; exact Nat.beq_refl _)
      · exact .inr h
theorem fold_mem {acc : List (List Nat)} {x : Nat} : ∀ {es : List Edge}, x ∈ es.foldr (fun e s => bif Region.binds .any e then e.on :: (acc.getD e.on [] ++ s) else s) [] → ∃ e ∈ es, Region.binds .any e = true ∧ (x = e.on ∨ x ∈ acc.getD e.on [])
  | [], h => by simp at h
  | e :: es, h => by
    rw [List.foldr_cons] at h
    cases hb : Region.binds .any e with
    | true =>
      rw [hb] at h
      rcases List.mem_cons.1 h with h | h
      · exact ⟨e, List.mem_cons_self, hb, .inl h⟩
      · rcases List.mem_append.1 h with h | h
        · exact ⟨e, List.mem_cons_self, hb, .inr h⟩
        · obtain ⟨e', h1, h2⟩ := fold_mem h
          exact ⟨e', List.mem_cons_of_mem _ h1, h2⟩
    | false =>
      rw [hb] at h
      obtain ⟨e', h1, h2⟩ := fold_mem h
      exact ⟨e', List.mem_cons_of_mem _ h1, h2⟩
theorem clos_spec : ∀ (l : List Oper) (acc : List (List Nat)), (∀ i, l[i]? = ops[acc.length + i]?) →
    (∀ j x, x ∈ acc.getD j [] → ∃ o e, ops[j]? = some o ∧ e ∈ o.after.toList ∧ Region.binds .any e = true ∧ (x = e.on ∨ (e.on < j ∧ x ∈ acc.getD e.on []))) →
    ∀ j x, x ∈ (closOf l acc).getD j [] → ∃ o e, ops[j]? = some o ∧ e ∈ o.after.toList ∧ Region.binds .any e = true ∧ (x = e.on ∨ (e.on < j ∧ x ∈ (closOf l acc).getD e.on []))
  | [], acc, _, h => h
  | o :: l, acc, hl, h => by
    refine clos_spec l (acc ++ [o.after.toList.foldr (fun e s => bif Region.binds .any e then e.on :: (acc.getD e.on [] ++ s) else s) []]) (fun i => ?_) (fun j x hx => ?_)
    · rw [List.length_append, List.length_singleton, show acc.length + 1 + i = acc.length + (i + 1) by omega, ← hl (i + 1)]; rfl
    · have lift : ∀ k y, y ∈ acc.getD k [] → k < acc.length ∧ y ∈ (acc ++ [o.after.toList.foldr (fun e s => bif Region.binds .any e then e.on :: (acc.getD e.on [] ++ s) else s) []]).getD k [] := by
        intro k y hy
        have hk : k < acc.length := by
          rcases Nat.lt_or_ge k acc.length with hk | hk
          · exact hk
          · rw [List.getD_eq_getElem?_getD, List.getElem?_eq_none hk] at hy; simp at hy
        refine ⟨hk, ?_⟩
        rw [List.getD_eq_getElem?_getD, List.getElem?_append_left hk, ← List.getD_eq_getElem?_getD]; exact hy
      rcases Nat.lt_or_ge j acc.length with hj | hj
      · rw [List.getD_eq_getElem?_getD, List.getElem?_append_left hj, ← List.getD_eq_getElem?_getD] at hx
        obtain ⟨o', e, h1, h2, h3, h4⟩ := h j x hx
        exact ⟨o', e, h1, h2, h3, h4.imp id (fun hh => ⟨hh.1, (lift _ _ hh.2).2⟩)⟩
      · rcases Nat.eq_or_lt_of_le hj with rfl | hj
        · rw [List.getD_eq_getElem?_getD, List.getElem?_append_right (Nat.le_refl _), Nat.sub_self] at hx
          obtain ⟨e, h1, h2, h3⟩ := fold_mem (acc := acc) (es := o.after.toList) hx
          refine ⟨o, e, ?_, h1, h2, h3.imp id (fun hh => lift _ _ hh)⟩
          rw [← Nat.add_zero acc.length, ← hl 0]; rfl
        · rw [List.getD_eq_getElem?_getD, List.getElem?_eq_none (by simp; omega)] at hx
          simp at hx
/-- what is listed holds whom it waits for -/
def Down (ops : Array Oper) (listed : Array Bool) : Prop := ∀ j o e, listed.getD j false = true → ops[j]? = some o → e ∈ o.after.toList → Region.binds .any e = true → listed.getD e.on false = true
theorem clo_listed {clo : List (List Nat)} {listed : Array Bool} (hc : ∀ j x, x ∈ clo.getD j [] → ∃ o e, ops[j]? = some o ∧ e ∈ o.after.toList ∧ Region.binds .any e = true ∧ (x = e.on ∨ (e.on < j ∧ x ∈ clo.getD e.on [])))
    (hd : Down ops listed) : ∀ (j : Nat) (x : Nat), listed.getD j false = true → x ∈ clo.getD j [] → listed.getD x false = true := by
  intro j
  induction j using Nat.strongRecOn with
  | _ j ih =>
    intro x hj hx
    obtain ⟨o, e, h1, h2, h3, h4⟩ := hc j x hx
    have he := hd j o e hj h1 h2 h3
    rcases h4 with rfl | ⟨h5, h6⟩
    · exact he
    · exact ih _ h5 _ he h6
theorem edges_lt : ∀ (l : List Oper) (n : Nat), edgesLt l n = true → ∀ (i : Nat) (o : Oper) (e : Edge), l[i]? = some o → e ∈ o.after.toList → Region.binds .any e = true → e.on < n + i
  | [], _, _, i, o, e, h, _, _ => by simp at h
  | o0 :: l, n, hb, i, o, e, h, he, hbe => by
    unfold edgesLt at hb
    rw [Bool.and_eq_true] at hb
    match i, h with
    | 0, h =>
      simp at h
      subst h
      have := List.all_eq_true.1 hb.1 e he
      rw [hbe] at this
      have h1 : Nat.blt e.on n = true := by simpa using this
      unfold Nat.blt at h1
      have := Nat.le_of_ble_eq_true h1
      omega
    | i + 1, h =>
      have := edges_lt l (n + 1) hb.2 i o e (by simpa using h) he hbe
      omega
theorem drawAll_pair {clo : List (List Nat)} : ∀ {l : List Nat}, drawAll ops clo l = true → l.Pairwise (fun i j => drawPair ops clo i j = true)
  | [], _ => .nil
  | i :: l, h => by
    unfold drawAll at h
    rw [Bool.and_eq_true] at h
    exact .cons (fun j hj => List.all_eq_true.1 h.1 j hj) (drawAll_pair h.2)
theorem any_of_wpC (hnp : ∀ c a w, ¬ Q (.panic c) a w) {ord : List Nat} (hok : drawOK ops ord = true) :
    ∀ (fuel : Nat) (rem : List Nat) (listed : Array Bool) (a : Act) (w : World), rem.length = fuel → listed.size = ops.size → Down ops listed → (∀ i, i ∈ rem ↔ i < ops.size ∧ listed.getD i true = false) →
      rem.Pairwise (fun i j => drawPair ops (closOf ops.toList []) i j = true) → wpC P ops Q rem a w → wpAny P .any ops Q fuel listed a w := by
  unfold drawOK at hok
  simp only [Bool.and_eq_true] at hok
  obtain ⟨⟨⟨⟨⟨_, _⟩, _⟩, hlt⟩, _⟩, hsel⟩ := hok
  have hedge : ∀ (i : Nat) (o : Oper) (e : Edge), ops[i]? = some o → e ∈ o.after.toList → Region.binds .any e = true → e.on < i := fun i o e h1 h2 h3 => by
    have := edges_lt ops.toList 0 hlt i o e (by simpa using h1) h2 h3
    omega
  have hclo := clos_spec (ops := ops) ops.toList [] (fun i => by simp) (fun j x hx => by simp at hx)
  have tf : ∀ {listed : Array Bool} {i : Nat}, listed.size = ops.size → i < ops.size → (listed.getD i true = false ↔ ¬ listed.getD i false = true) := by
    intro listed i hs hi
    have hi' : i < listed.size := by omega
    simp [hi']
  intro fuel
  induction fuel with
  | zero =>
    intro rem listed a w hl hs hd hr hp h
    have h0 := List.length_eq_zero_iff.1 hl
    subst h0
    refine ⟨?_, h⟩
    rw [List.eq_nil_iff_forall_not_mem]
    intro i hi
    obtain ⟨h1, o, h2, _⟩ := mem_ready.1 hi
    have := (hr i).2 ⟨(Array.getElem?_eq_some_iff.1 h2).1, by simpa using h1⟩
    simp at this
  | succ fuel ih =>
    intro rem listed a w hl hs hd hr hp h
    refine ⟨fun h0 => ?_, fun i hi => ?_⟩
    · match rem, hl, hp, hr with
      | i :: m, hl, hp, hr =>
        have hi := (hr i).1 List.mem_cons_self
        have ho := Array.getElem?_eq_getElem hi.1
        have : i ∈ Region.ready .any ops listed := by
          refine mem_ready.2 ⟨by simpa using hi.2, ops[i], ho, fun e he hb => ?_⟩
          have hlt := hedge i _ e ho (by simpa using he) hb
          cases hq : listed.getD e.on true with
          | true =>
            have := (tf (listed := listed) (i := e.on) hs (by omega)).2
            cases hq2 : listed.getD e.on false with
            | true => rfl
            | false => rw [this (by rw [hq2]; simp)] at hq; cases hq
          | false =>
            have hm := (hr e.on).2 ⟨by omega, hq⟩
            rcases List.mem_cons.1 hm with h1 | h1
            · omega
            · have h2 := List.rel_of_pairwise_cons hp h1
              unfold drawPair noEdge at h2
              rw [ho] at h2
              simp only [Bool.and_eq_true] at h2
              have h3 := List.all_eq_true.1 h2.1.2 e (by simpa using he)
              rw [hb, Nat.beq_refl] at h3
              cases h3
        rw [h0] at this
        cases this
    · obtain ⟨h1, o, ho, hall⟩ := mem_ready.1 hi
      have hisz := (Array.getElem?_eq_some_iff.1 ho).1
      have hun : listed.getD i true = false := by simpa using h1
      have hmem := (hr i).2 ⟨hisz, hun⟩
      obtain ⟨l, m, rfl⟩ := List.append_of_mem hmem
      have hpl := List.pairwise_append.1 hp
      have hpi : ∀ k ∈ l, drawPair ops (closOf ops.toList []) k i = true := fun k hk => hpl.2.2 k hk i List.mem_cons_self
      have hpm : ∀ k ∈ m, drawPair ops (closOf ops.toList []) i k = true := fun k hk => List.rel_of_pairwise_cons hpl.2.1 hk
      have hfr := wpC_front hnp l m (j := i) (fun k hk a w K hw => by
        have h2 := hpi k hk
        have hkun := (hr k).1 (List.mem_append_left _ hk)
        have hko := Array.getElem?_eq_getElem hkun.1
        unfold drawPair at h2
        simp only [Bool.and_eq_true, Bool.or_eq_true] at h2
        rcases h2.2 with h3 | h3
        · exfalso
          have h3 := memN_iff.1 h3
          obtain ⟨o', e, g1, g2, g3, g4⟩ := hclo i k h3
          rw [ho] at g1
          cases g1
          have hle : listed.getD e.on false = true := hall e (by simpa using g2) g3
          have : listed.getD k false = true := by
            rcases g4 with rfl | ⟨_, g6⟩
            · exact hle
            · exact clo_listed hclo hd _ _ hle g6
          exact (tf (listed := listed) (i := k) hs hkun.1).1 hkun.2 this
        · rw [hko, ho] at h3
          simp only [Bool.and_eq_true] at h3
          exact wpC1_swap hko ho h3.1 (fun cs b => Region.noSelect_spec hsel k _ cs b hko) (fun cs b => Region.noSelect_spec hsel i _ cs b ho) h3.2 hnp hw) a w h
      refine wpOp_mono (fun a' w' hw => ?_) (wpC1_wpOp hfr)
      have hilt : i < listed.size := by omega
      refine ih (l ++ m) (listed.setIfInBounds i true) a' w' ?_ (by simpa using hs) ?_ (fun k => ?_) ?_ hw
      · simp at hl ⊢; omega
      · intro j o' e hj ho' he hb
        by_cases hji : i = j
        · subst hji
          rw [ho] at ho'
          cases ho'
          exact getD_set_true (hall e (by simpa using he) hb)
        · rw [getD_set_ne false hji] at hj
          exact getD_set_true (hd j o' e hj ho' he hb)
      · by_cases hki : k = i
        · subst hki
          constructor
          · intro hk
            exfalso
            rcases List.mem_append.1 hk with hk | hk
            · have := hpi k hk
              unfold drawPair at this
              rw [Nat.beq_refl] at this
              cases this
            · have := hpm k hk
              unfold drawPair at this
              rw [Nat.beq_refl] at this
              cases this
          · rintro ⟨_, hk⟩
            simp [hilt] at hk
        · rw [getD_set_ne true (Ne.symm hki)]
          rw [← hr k]
          simp [hki]
      · exact hp.sublist (List.Sublist.append (List.Sublist.refl l) (List.sublist_cons_self i m))
theorem wp_region_drawn {id : Nat} {a : Act} {w : World} (hm : P.follows .mixedOrders = true) (hnp : ∀ c a w, ¬ Q (.panic c) a w) {ord : List Nat} (hok : drawOK ops ord = true)
    (h : wpC P ops Q ord a { w with drawn := w.drawn + 1 }) : (Code.region id ops true).wp P Q a w := by
  have hok2 := hok
  unfold drawOK at hok2
  simp only [Bool.and_eq_true] at hok2
  obtain ⟨⟨⟨⟨⟨h1, h2⟩, h3⟩, _⟩, h5⟩, _⟩ := hok2
  refine wp_region_any hm (any_of_wpC hnp hok ops.size ord _ a _ (Nat.eq_of_beq_eq_true h1) (by simp) (fun j o e hj => ?_) (fun i => ?_) (drawAll_pair h5) h)
  · rw [Array.getD_eq_getD_getElem?, Array.getElem?_replicate] at hj
    split at hj <;> simp at hj
  · constructor
    · intro hi
      have := List.all_eq_true.1 h3 i hi
      unfold Nat.blt at this
      have hlt : i < ops.size := Nat.le_of_ble_eq_true this
      exact ⟨hlt, by simp [hlt]⟩
    · rintro ⟨hi, _⟩
      exact memN_iff.1 (List.all_eq_true.1 h2 i (List.mem_range.2 hi))
end
section
variable {P : Program} {c : Ctx} {w : World} {h : AHeap} {K : KA}
/-- an operation, by its class -/
def Cls (P : Program) (o : Oper) (a : Act) (w : World) (next : Act → World → Prop) (Q : Exit → Act → World → Prop) : Prop :=
  match clsOf o.op with
  | 0 => ∃ v, (∀ w', (execOp a.eval o).run P w' = .ok (.value v) w') ∧ next (a.put o.dst v) w
  | 1 => ∃ v, (∀ w', Grew w w' → (execOp a.eval o).run P w' = .ok (.value v) w') ∧ next (a.put o.dst v) w
  | 2 => ∃ v w1, (execOp a.eval o).run P w = .ok (.value v) w1 ∧ Grew w w1 ∧ next (a.put o.dst v) w1
  | _ => o.wp P a w next Q
theorem PVal.cls {o : Oper} {a : Act} {next : Act → World → Prop} {Q : Exit → Act → World → Prop} {s : Sem Value} (hH : RH c h w) (hv : PVal P c w h s K) (hn : Nxt P c w a o.dst K next) (ho : execOp a.eval o = (do Pure.pure (.value (← s)))) (h0 : clsOf o.op = 0) : Cls P o a w next Q := by
  obtain ⟨v, x, hr, hx, hk⟩ := hv
  unfold Cls
  rw [h0]
  exact ⟨v, fun w' => by rw [ho, Sem.run_bind, hr w']; rfl, hn c w x v h (Ext.refl _ _) hH hx hk⟩
theorem GVal.cls {o : Oper} {a : Act} {next : Act → World → Prop} {Q : Exit → Act → World → Prop} {s : Sem Value} (hv : GVal P c w s K) (hn : Nxt P c w a o.dst K next) (ho : execOp a.eval o = (do Pure.pure (.value (← s)))) (h0 : clsOf o.op = 2) : Cls P o a w next Q := by
  obtain ⟨v, w', c', x, h', hr, h1, h2, h3, h4, h5⟩ := hv
  unfold Cls
  rw [h0]
  exact ⟨v, w', by rw [ho, Sem.run_bind, hr]; rfl, h5, hn c' w' x v h' h1 h2 h3 h4⟩
theorem val_cls {o : Oper} {a : Act} {next : Act → World → Prop} {Q : Exit → Act → World → Prop} {x : AVal} {v : Value} (hH : RH c h w) (hr : ∀ w', (execOp a.eval o).run P w' = .ok (.value v) w') (hx : RV c w x v) (hk : K x h) (hn : Nxt P c w a o.dst K next) (h0 : clsOf o.op = 0) : Cls P o a w next Q := by
  unfold Cls
  rw [h0]
  exact ⟨v, hr, hn c w x v h (Ext.refl _ _) hH hx hk⟩
set_option maxHeartbeats 1000000 in
theorem op_cls {o : Oper} {a : Act} {nt : Nat} {env : Env} {next : Act → World → Prop} {Q : Exit → Act → World → Prop} (hH : RH c h w) (hE : RE c w env a nt) (hm : adOp P o env h K) (hn : Nxt P c w a o.dst K next) : Cls P o a w next Q := by
  have gen : (∀ n, n = 0 ∨ n = 1 ∨ n = 2 → clsOf o.op ≠ n) → Cls P o a w next Q := by
    intro hne
    have := op_ok (Q := Q) hH hE hm hn
    unfold Cls
    split
    · rename_i e; exact absurd e (hne _ (.inl rfl))
    · rename_i e; exact absurd e (hne _ (.inr (.inl rfl)))
    · rename_i e; exact absurd e (hne _ (.inr (.inr rfl)))
    · exact this
  obtain ⟨dst, op, type, pos, after, guard⟩ := o
  cases op with
  | move x => exact val_cls hH (fun _ => rfl) (ev_ok hE x) hm hn rfl
  | assign x => exact val_cls hH (fun _ => rfl) (ev_ok hE x) hm hn rfl
  | pick x y z => exact (pick_ok hH (ev_ok hE x) (ev_ok hE y) (ev_ok hE z) hm).cls hH hn (by simp [execOp]) rfl
  | alloc e => exact (alloc_ok hH hm).cls hn rfl rfl
  | box e x => exact (box_ok hH (ev_ok hE x) hm).cls hn rfl rfl
  | build t ps =>
    have hm : buildM P t (ps.toList.map fun p => (p.1, ev env p.2)) h K := hm
    have hp : RPs c w (ps.toList.map fun p => (p.1, ev env p.2)) (ps.map fun p => (p.1, a.eval p.2)).toList := by
      rw [Array.toList_map]; exact evp_ok hE ps.toList
    exact (build_ok hH hp hm).cls hH hn rfl rfl
  | buildSlice t n ps =>
    have hm : buildSliceM P t n (ps.toList.map fun p => (p.1, ev env p.2)) h K := hm
    have hp : RPs c w (ps.toList.map fun p => (p.1, ev env p.2)) (ps.map fun p => (p.1, a.eval p.2)).toList := by
      rw [Array.toList_map]; exact evp_ok hE ps.toList
    exact (buildSlice_ok hH hp hm).cls hn rfl rfl
  | load t x =>
    obtain ⟨v, y, h1, h2, h3⟩ := load_grew hH (ev_ok hE x) hm
    exact ⟨v, fun w' hw => by rw [show execOp a.eval { dst, op := .load t x, type, pos, after, guard } = (do Pure.pure (.value (← Instr.loadAt t (a.eval x)))) from rfl, Sem.run_bind, h1 w' hw]; rfl, hn c w y v h (Ext.refl _ _) hH h2 h3⟩
  | nilCheck x =>
    have hm : nilChkM (ev env x) h K := hm
    have hx := ev_ok hE x
    have key : ∀ v, a.eval x = v → (∀ nm fst cp, v ≠ .func (.method nm) fst cp) → v ≠ .pointer none → v ≠ .nilIface → v ≠ .nilFunc → RV c w (ev env x) v → K (ev env x) h → Cls P { dst, op := .nilCheck x, type, pos, after, guard } a w next Q := by
      intro v hv h1 h2 h3 h4 h5 h6
      refine val_cls hH (v := v) (fun w' => ?_) h5 h6 hn rfl
      unfold execOp
      simp only [hv]
      cases v with
      | pointer q => cases q with
        | none => exact absurd rfl h2
        | some q => rfl
      | nilIface => exact absurd rfl h3
      | nilFunc => exact absurd rfl h4
      | func fn fst cp => cases fn with
        | method nm => exact absurd rfl (h1 _ _ _)
        | _ => rfl
      | _ => rfl
    replace hm := hm.out
    unfold nilChkM_b at hm
    split at hm
    · rename_i y hy
      rw [hy] at hx key hm
      generalize hv : a.eval x = v at hx
      cases hx with
      | fp _ b off f hF hc hr => exact key _ hv (by simp) (by simp) (by simp) (by simp) (.fp _ b off f hF hc hr) hm
    · rename_i r g i j hy
      rw [hy] at hx key hm
      generalize hv : a.eval x = v at hx
      cases hx with
      | pt _ _ _ _ q h1 h2 => exact key _ hv (by simp) (by simp) (by simp) (by simp) (.pt _ _ _ _ q h1 h2) hm
    · rename_i f caps hy
      rw [hy] at hx key hm
      generalize hv : a.eval x = v at hx
      cases hx with
      | fn _ _ vs hl hh => exact key _ hv (by simp) (by simp) (by simp) (by simp) (.fn _ _ vs hl hh) hm
    · exact hm.elim
  | binOp op t x y ty => exact (bin_ok (ox := x) (oy := y) hH (ev_ok hE x) (ev_ok hE y) hm).cls hH hn rfl rfl
  | unOp op t x => exact (un_ok hH (ev_ok hE x) hm).cls hH hn rfl rfl
  | convert s d x => exact (conv_ok hH (ev_ok hE x) hm).cls hH hn rfl rfl
  | makeSlice t x y => exact (make_ok hH (ev_ok hE x) (ev_ok hE y) hm).cls hn rfl rfl
  | slice t x lo hi mx => exact (slice_ok hH (ev_ok hE x) (evo_ok hE lo) (evo_ok hE hi) (evo_ok hE mx) hm).cls hH hn rfl rfl
  | fieldAddr t x f => exact (fldAddr_ok hH (ev_ok hE x) hm).cls hH hn rfl rfl
  | field t x f => exact (field_ok hH (ev_ok hE x) hm).cls hH hn rfl rfl
  | indexAddr t x i => exact (ixAddr_ok hH (ev_ok hE x) (ev_ok hE i) hm).cls hH hn rfl rfl
  | index t x i => exact (idx_ok hH (ev_ok hE x) (ev_ok hE i) hm).cls hH hn rfl rfl
  | extract x i => exact (extract_ok hH (ev_ok hE x) hm).cls hH hn rfl rfl
  | call cl =>
    obtain ⟨callee, args, argTypes⟩ := cl
    cases callee with
    | builtin b =>
      cases b with
      | len =>
        simp only [adOp] at hm
        split at hm
        · rename_i t x _ e1 e2
          obtain rfl := arr_ofList e1
          obtain rfl := arr_ofList e2
          exact (len_ok (ty := type) hH (ev_ok hE x) hm).cls hH hn (by simp [execOp, resolve, invoke, builtin]) rfl
        all_goals (first | (rename_i hh _ _; cases hh; done) | exact hm.elim | fail)
      | _ => exact gen (by rintro n (rfl | rfl | rfl) <;> simp [clsOf])
    | value f => exact gen (by rintro n (rfl | rfl | rfl) <;> simp [clsOf])
    | invoke r m => exact hm.elim
  | store t x y => exact gen (by rintro n (rfl | rfl | rfl) <;> simp [clsOf])
  | _ => exact hm.elim
end
inductive AX where
  | normal
  | exit (id : Nat)
  | ret
abbrev KC := AX → Env → AHeap → Prop
abbrev KS := List AVal → AHeap → Prop
/-- what may be forgotten: the values 's', the heap 'h' may be told otherwise -/
structure Wk (s : List AVal) (h : AHeap) (J : KS) : Prop where
  out : ∀ c w vs, RH c h w → RVs c w s vs → ∃ c' s' h', Ext c w c' w ∧ RH c' h' w ∧ RVs c' w s' vs ∧ J s' h'
def nthA : List AVal → Nat → AVal
  | [], _ => .dead
  | x :: _, 0 => x
  | _ :: l, n + 1 => nthA l n
def renvFrom : List Nat → Nat → List AVal → Env
  | [], _, _ => fun _ => .dead
  | a :: l, n, s => fun t => bif Nat.beq t a then nthA s n else renvFrom l (n + 1) s t
abbrev renv (slots : List Nat) (s : List AVal) : Env := renvFrom slots 0 s
structure joinM (A : KS → Prop) (B : KS) : Prop where
  out : ∃ J : KS, (∀ s h, J s h → B s h) ∧ A J
structure loopM (s0 : List AVal) (h : AHeap) (body : List AVal → AHeap → KS → Prop) : Prop where
  out : ∃ (I : KS) (μ : List AVal → AHeap → Nat), Wk s0 h I ∧ ∀ s h', I s h' → body s h' (fun s2 h2 => I s2 h2 ∧ μ s2 h2 < μ s h')
structure wkM (s : List AVal) (h : AHeap) [J : Bd KS] : Prop where
  out : Wk s h J.f
structure jnM [A : Bd (KS → Prop)] [B : Bd KS] : Prop where
  out : joinM A.f B.f
structure lpM (s : List AVal) (h : AHeap) [b : Bd (List AVal → AHeap → KS → Prop)] : Prop where
  out : loopM s h b.f
theorem wk_out {s : List AVal} {h : AHeap} {J : Bd KS} (hk : @wkM s h J) : Wk s h J.f := @wkM.out s h J hk
theorem wk_of {s : List AVal} {h : AHeap} {J : KS} (hk : Wk s h J) : @wkM s h ⟨J⟩ := @wkM.mk s h ⟨J⟩ hk
theorem jn_out {A : Bd (KS → Prop)} {B : Bd KS} (hj : @jnM A B) : joinM A.f B.f := @jnM.out A B hj
theorem lp_out {s : List AVal} {h : AHeap} {b : Bd (List AVal → AHeap → KS → Prop)} (hl : @lpM s h b) : loopM s h b.f := @lpM.out s h b hl
/-- what a reading of the code is told: the orders of regions that draw, the slots that matter where ways meet and at a loop's head -/
structure An where
  ord : Nat → List Nat
  join : Nat → Option (List Nat)
  loop : Nat → List Nat
def firstReg : Code → Nat
  | .region id _ _ => id
  | .seq a _ => firstReg a
  | .cond _ x _ => firstReg x
  | .block _ b => firstReg b
  | .loop b => firstReg b
  | _ => 0
def opsAt (ops : Array Oper) : List Nat → List Oper
  | [] => []
  | i :: l => match ops[i]? with | some o => o :: opsAt ops l | none => opsAt ops l
/-- the operations in the order of a list of numbers -/
def adOpsI (P : Program) (nt : Nat) (ops : Array Oper) : List Nat → List Nat → Env → AHeap → (Env → AHeap → Prop) → Prop
  | [], _, env, h, K => K env h
  | i :: l, sk, env, h, K =>
    match ops[i]? with
    | none => adOpsI P nt ops l sk env h K
    | some o =>
      match o.guard with
      | none => adOp P o env h (fun x h' => adPut nt o.dst env x (fun env' => adOpsI P nt ops l (remO o.dst sk) env' h' K))
      | some (j, want) =>
        match (ops[j]?).bind (·.dst) with
        | none => False
        | some t =>
          bif memN t sk then adPut nt o.dst env (.v undef) (fun env' => adOpsI P nt ops l (addO o.dst sk) env' h K)
          else gdM (env t)
              (bif want then adOp P o (upd env t (.v (.bool true))) h (fun x h' => adPut nt o.dst (upd env t (.v (.bool true))) x (fun env' => adOpsI P nt ops l (remO o.dst sk) env' h' K))
               else adPut nt o.dst (upd env t (.v (.bool true))) (.v undef) (fun env' => adOpsI P nt ops l (addO o.dst sk) env' h K))
              (bif want then adPut nt o.dst (upd env t (.v (.bool false))) (.v undef) (fun env' => adOpsI P nt ops l (addO o.dst sk) env' h K)
               else adOp P o (upd env t (.v (.bool false))) h (fun x h' => adPut nt o.dst (upd env t (.v (.bool false))) x (fun env' => adOpsI P nt ops l (remO o.dst sk) env' h' K)))
theorem adOpsI_eq (P : Program) (nt : Nat) (ops : Array Oper) (K : Env → AHeap → Prop) : ∀ (ord sk : List Nat) (env : Env) (h : AHeap), adOpsI P nt ops ord sk env h K = adOps P nt ops (opsAt ops ord) sk env h K
  | [], _, _, _ => rfl
  | i :: l, sk, env, h => by
    have ih := adOpsI_eq P nt ops K l
    unfold adOpsI opsAt
    cases ho : ops[i]? with
    | none => exact ih sk env h
    | some o =>
      simp only [ih]
      rw [adOps]
/-- the checks on a region that draws -/
structure drawnOK (P : Program) (ops : Array Oper) (ord : List Nat) : Prop where
  mixed : P.follows .mixedOrders = true
  ok : drawOK ops ord = true
def findReg (id : Nat) : Code → Option (Array Oper)
  | .seq a b => (findReg id a).or (findReg id b)
  | .cond _ a b => (findReg id a).or (findReg id b)
  | .block _ b => findReg id b
  | .loop b => findReg id b
  | .region i ops _ => bif Nat.beq i id then some ops else none
  | _ => none
def regOps (fn : Func) (id : Nat) : Array Oper := match fn.body with | some c => (match findReg id c with | some ops => ops | none => #[]) | none => #[]
abbrev KE := Env → AHeap → Prop
def adCode (P : Program) (an : An) (nt : Nat) : Code → Env → AHeap → KE → (Nat → KE) → KE → Prop
  | .skip, env, h, Kn, _, _ => Kn env h
  | .region id ops draw, env, h, Kn, _, _ => match draw with
    | true => drawnOK P ops (an.ord id) ∧ adOpsI P nt ops (an.ord id) [] env h Kn
    | false => adOps P nt ops ops.toList [] env h Kn
  | .seq a b, env, h, Kn, Kx, Kr =>
    match an.join (firstReg b) with
    | some l => @jnM ⟨fun J => adCode P an nt a env h (fun env' h' => @wkM (l.map env') h' ⟨J⟩) Kx Kr⟩ ⟨fun s h' => adCode P an nt b (renv l s) h' Kn Kx Kr⟩
    | none => adCode P an nt a env h (fun env' h' => adCode P an nt b env' h' Kn Kx Kr) Kx Kr
  | .cond c x y, env, h, Kn, Kx, Kr => gdM (ev env c) (adCode P an nt x env h Kn Kx Kr) (adCode P an nt y env h Kn Kx Kr)
  | .block id b, env, h, Kn, Kx, Kr => adCode P an nt b env h Kn (fun i => bif Nat.beq i id then Kn else Kx i) Kr
  | .loop b, env, h, _, Kx, Kr =>
    @lpM ((an.loop (firstReg b)).map env) h ⟨fun s h' J => adCode P an nt b (renv (an.loop (firstReg b)) s) h' (fun env' h'' => @wkM ((an.loop (firstReg b)).map env') h'' ⟨J⟩) Kx Kr⟩
  | .exit i, env, h, _, Kx, _ => Kx i env h
  | .ret, env, h, _, _, Kr => Kr env h
  | _, _, _, _, _, _ => False
/-- the three together -/
def pk (Kn : KE) (Kx : Nat → KE) (Kr : KE) : KC
  | .normal => Kn
  | .exit i => Kx i
  | .ret => Kr
def toX : AX → Exit
  | .normal => .normal
  | .exit i => .exit i
  | .ret => .ret
/-- where the code may come out -/
def Post (c : Ctx) (w : World) (nt : Nat) (K : KC) : Exit → Act → World → Prop := fun e a' w' =>
  ∃ ae c' env' h', toX ae = e ∧ Ext c w c' w' ∧ RH c' h' w' ∧ RE c' w' env' a' nt ∧ a'.defers = [] ∧ K ae env' h'
section
variable {P : Program}
theorem guard_run {c : Ctx} {w : World} {env : Env} {a : Act} {nt : Nat} {ops : Array Oper} {o : Oper} {j t : Nat} {want : Bool} (hE : RE c w env a nt) (hg : o.guard = some (j, want)) (ht : (ops[j]?).bind (·.dst) = some t) :
    (∀ b, env t = .v (.bool b) → Region.wanted o (yielded ops a.tmps) = (b == want)) ∧ (∀ xs, env t = .v (.tuple xs) → Region.wanted o (yielded ops a.tmps) = false) := by
  have hx := hE.2 t
  refine ⟨fun b hb => ?_, fun xs hb => ?_⟩
  · rw [hb] at hx
    generalize hv : a.tmps.getD t undef = v at hx
    cases hx
    have : a.tmps[t]? = some (.bool b) := by
      rw [Array.getD_eq_getD_getElem?] at hv
      cases hq : a.tmps[t]? with
      | none => rw [hq] at hv; simp [undef] at hv
      | some u => rw [hq] at hv; simp at hv; rw [hv]
    unfold Region.wanted yielded
    rw [hg]
    simp only [ht, Option.bind_some, this]
    cases b <;> cases want <;> rfl
  · rw [hb] at hx
    generalize hv : a.tmps.getD t undef = v at hx
    cases hx
    unfold Region.wanted yielded
    rw [hg]
    simp only [ht, Option.bind_some]
    cases hq : a.tmps[t]? with
    | none => rfl
    | some u =>
      rw [Array.getD_eq_getD_getElem?, hq] at hv
      simp at hv
      subst hv
      rfl
theorem put_ok {c0 c : Ctx} {w0 w : World} {env : Env} {a : Act} {nt : Nat} {dst : Option Tmp} {x : AVal} {v : Value} {K : Env → Prop} (hE : RE c w env a nt) (hx : RV c w x v) (hd : a.defers = []) (hm : adPut nt dst env x K) :
    ∃ env', RE c w env' (a.put dst v) nt ∧ (a.put dst v).defers = [] ∧ K env' := by
  unfold adPut at hm
  split at hm
  · exact ⟨env, hE, hd, hm⟩
  · rename_i d
    cases hq : Nat.blt d nt with
    | true =>
      rw [hq] at hm
      have hlt : d < nt := by
        unfold Nat.blt at hq
        exact Nat.le_of_ble_eq_true hq
      exact ⟨_, hE.put hlt hx, hd, hm⟩
    | false => rw [hq] at hm; exact hm.elim
/-- a temporary is told by the very value that it holds -/
theorem RE.told {c : Ctx} {w : World} {env : Env} {a : Act} {nt t : Nat} {x : AVal} (hE : RE c w env a nt) (h : env t = x) : RE c w (upd env t x) a nt := by
  refine ⟨hE.1, fun s => ?_⟩
  by_cases hs : s = t
  · subst hs; rw [upd_same, ← h]; exact hE.2 s
  · rw [upd_ne _ _ hs]; exact hE.2 s
theorem memN_cons {t d : Nat} {l : List Nat} (h : memN t (d :: l) = true) : t = d ∨ memN t l = true := by
  unfold memN at h
  rw [Bool.or_eq_true] at h
  exact h.imp (fun h => (Nat.eq_of_beq_eq_true h).symm) id
theorem memN_rem {t d : Nat} : ∀ {l : List Nat}, memN t (remN d l) = true → t ≠ d ∧ memN t l = true
  | [], h => by cases h
  | a :: l, h => by
    unfold remN at h
    cases hq : Nat.beq a d with
    | true =>
      rw [hq] at h
      obtain ⟨h1, h2⟩ := memN_rem (l := l) h
      exact ⟨h1, by unfold memN; rw [h2, Bool.or_true]⟩
    | false =>
      rw [hq] at h
      rcases memN_cons h with h0 | h
      · refine ⟨fun e => ?_, ?_⟩
        · rw [← h0, e, Nat.beq_refl] at hq; cases hq
        · unfold memN; rw [h0, Nat.beq_refl, Bool.true_or]
      · obtain ⟨h1, h2⟩ := memN_rem (l := l) h
        exact ⟨h1, by unfold memN; rw [h2, Bool.or_true]⟩
theorem put_ok2 {c : Ctx} {w : World} {env : Env} {a : Act} {nt : Nat} {dst : Option Tmp} {x : AVal} {v : Value} {sk : List Nat} {K : Env → Prop} (hE : RE c w env a nt) (hx : RV c w x v) (hd : a.defers = []) (hsk : ∀ t, memN t sk = true → env t = .v undef) (hm : adPut nt dst env x K) :
    ∃ env', RE c w env' (a.put dst v) nt ∧ (a.put dst v).defers = [] ∧ K env' ∧ (∀ t, memN t (remO dst sk) = true → env' t = .v undef) ∧ (x = .v undef → ∀ t, memN t (addO dst sk) = true → env' t = .v undef) := by
  unfold adPut at hm
  split at hm
  · exact ⟨env, hE, hd, hm, hsk, fun _ => hsk⟩
  · rename_i d
    cases hq : Nat.blt d nt with
    | true =>
      rw [hq] at hm
      have hlt : d < nt := by
        unfold Nat.blt at hq
        exact Nat.le_of_ble_eq_true hq
      refine ⟨_, hE.put hlt hx, hd, hm, fun t ht => ?_, fun hu t ht => ?_⟩
      · obtain ⟨h1, h2⟩ := memN_rem ht
        rw [upd_ne _ _ h1]; exact hsk t h2
      · by_cases h1 : t = d
        · subst h1; rw [upd_same]; exact hu
        · rw [upd_ne _ _ h1]
          exact hsk t ((memN_cons ht).resolve_left h1)
    | false => rw [hq] at hm; exact hm.elim
theorem told_sk {env : Env} {t : Nat} {b : Bool} {sk : List Nat} (ht : memN t sk = false) (hsk : ∀ t, memN t sk = true → env t = .v undef) : ∀ s, memN s sk = true → upd env t (.v (.bool b)) s = .v undef := by
  intro s hs
  rw [upd_ne _ _ (fun e => by subst e; rw [ht] at hs; cases hs)]
  exact hsk s hs
theorem ops_ok {nt : Nat} {ops : Array Oper} {Q : Exit → Act → World → Prop} {c0 : Ctx} {w0 : World} {K : Env → AHeap → Prop} (hQ : ∀ c w env h a, Ext c0 w0 c w → RH c h w → RE c w env a nt → a.defers = [] → K env h → Q .normal a w) :
    ∀ (l : List Oper) (k : Nat), (∀ i, l[i]? = ops[k + i]?) → ∀ (sk : List Nat) (c : Ctx) (w : World) (env : Env) (h : AHeap) (a : Act), Ext c0 w0 c w → RH c h w → RE c w env a nt → a.defers = [] → (∀ t, memN t sk = true → env t = .v undef) → adOps P nt ops l sk env h K → wpOps P ops Q (List.range' k l.length) a w
  | [], k, _, sk, c, w, env, h, a, hX, hH, hE, hd, hsk, hm => hQ c w env h a hX hH hE hd hm
  | o :: l, k, hl, sk, c, w, env, h, a, hX, hH, hE, hd, hsk, hm => by
    have ho : ops[k]? = some o := by rw [← Nat.add_zero k, ← hl 0]; rfl
    have hl' : ∀ i, l[i]? = ops[k + 1 + i]? := fun i => by rw [show k + 1 + i = k + (i + 1) by omega, ← hl (i + 1)]; rfl
    have ih := ops_ok hQ l (k + 1) hl'
    have go : ∀ env2 : Env, RE c w env2 a nt → (∀ t, memN t sk = true → env2 t = .v undef) → Region.wanted o (yielded ops a.tmps) = true → adOp P o env2 h (fun x h' => adPut nt o.dst env2 x (fun env' => adOps P nt ops l (remO o.dst sk) env' h' K)) → wpOps P ops Q (List.range' k (o :: l).length) a w := by
      intro env2 hE2 hsk2 hw hm2
      simp only [List.length_cons, List.range'_succ, wpOps, ho, hw, if_true]
      refine .inl (op_ok hH hE2 hm2 (fun c' w' x v h' h1 h2 h3 h4 => ?_))
      obtain ⟨env', e1, e2, e3, e4, _⟩ := put_ok2 (hE2.mono h1) h3 hd hsk2 h4
      exact ih _ c' w' env' h' _ (hX.trans h1) h2 e1 e2 e4 e3
    have skip : ∀ env2 : Env, RE c w env2 a nt → (∀ t, memN t sk = true → env2 t = .v undef) → Region.wanted o (yielded ops a.tmps) = false → adPut nt o.dst env2 (.v undef) (fun env' => adOps P nt ops l (addO o.dst sk) env' h K) → wpOps P ops Q (List.range' k (o :: l).length) a w := by
      intro env2 hE2 hsk2 hw hm2
      simp only [List.length_cons, List.range'_succ, wpOps, ho, hw, Bool.false_eq_true, if_false]
      obtain ⟨env', e1, e2, e3, _, e5⟩ := put_ok2 hE2 (.v undef) hd hsk2 hm2
      exact ih _ c w env' h _ hX hH e1 e2 (e5 rfl) e3
    unfold adOps at hm
    split at hm
    · rename_i hg
      exact go env hE hsk (by unfold Region.wanted; rw [hg]) hm
    · rename_i j want hg
      split at hm
      · exact hm.elim
      · rename_i t ht
        obtain ⟨g1, g2⟩ := guard_run hE hg ht
        cases hq : memN t sk with
        | true =>
          rw [hq] at hm
          exact skip env hE hsk (g2 #[] (hsk t hq)) hm
        | false =>
          rw [hq] at hm
          have hm : gdM (env t) _ _ := hm
          unfold gdM at hm
          split at hm
          · rename_i b hb
            have hw := g1 b hb
            cases b with
            | true =>
              have hE2 : RE c w (upd env t (.v (.bool true))) a nt := hE.told hb
              cases want with
              | true => exact go _ hE2 (told_sk hq hsk) hw hm
              | false => exact skip _ hE2 (told_sk hq hsk) hw hm
            | false =>
              have hE2 : RE c w (upd env t (.v (.bool false))) a nt := hE.told hb
              cases want with
              | true => exact skip _ hE2 (told_sk hq hsk) hw hm
              | false => exact go _ hE2 (told_sk hq hsk) hw hm
          · exact hm.elim
theorem opsC_ok {nt : Nat} {ops : Array Oper} {Q : Exit → Act → World → Prop} {c0 : Ctx} {w0 : World} {K : Env → AHeap → Prop} (hQ : ∀ c w env h a, Ext c0 w0 c w → RH c h w → RE c w env a nt → a.defers = [] → K env h → Q .normal a w) :
    ∀ (ord : List Nat), (∀ i ∈ ord, i < ops.size) → ∀ (sk : List Nat) (c : Ctx) (w : World) (env : Env) (h : AHeap) (a : Act), Ext c0 w0 c w → RH c h w → RE c w env a nt → a.defers = [] → (∀ t, memN t sk = true → env t = .v undef) → adOps P nt ops (opsAt ops ord) sk env h K → wpC P ops Q ord a w
  | [], _, sk, c, w, env, h, a, hX, hH, hE, hd, hsk, hm => hQ c w env h a hX hH hE hd hm
  | i :: ord, hlt, sk, c, w, env, h, a, hX, hH, hE, hd, hsk, hm => by
    have ho : ops[i]? = some (ops[i]'(hlt i List.mem_cons_self)) := Array.getElem?_eq_getElem _
    generalize ops[i]'(hlt i List.mem_cons_self) = o at ho
    have ih := opsC_ok hQ ord (fun k hk => hlt k (List.mem_cons_of_mem _ hk))
    unfold opsAt at hm
    simp only [ho] at hm
    have go : ∀ env2 : Env, RE c w env2 a nt → (∀ t, memN t sk = true → env2 t = .v undef) → Region.wanted o (yielded ops a.tmps) = true → adOp P o env2 h (fun x h' => adPut nt o.dst env2 x (fun env' => adOps P nt ops (opsAt ops ord) (remO o.dst sk) env' h' K)) → wpC P ops Q (i :: ord) a w := by
      intro env2 hE2 hsk2 hw hm2
      unfold wpC wpC1
      simp only [ho]
      rw [if_pos hw]
      exact op_cls hH hE2 hm2 (fun c' w' x v h' h1 h2 h3 h4 => by
        obtain ⟨env', e1, e2, e3, e4, _⟩ := put_ok2 (hE2.mono h1) h3 hd hsk2 h4
        exact ih _ c' w' env' h' _ (hX.trans h1) h2 e1 e2 e4 e3)
    have skip : ∀ env2 : Env, RE c w env2 a nt → (∀ t, memN t sk = true → env2 t = .v undef) → Region.wanted o (yielded ops a.tmps) = false → adPut nt o.dst env2 (.v undef) (fun env' => adOps P nt ops (opsAt ops ord) (addO o.dst sk) env' h K) → wpC P ops Q (i :: ord) a w := by
      intro env2 hE2 hsk2 hw hm2
      unfold wpC wpC1
      simp only [ho]
      rw [if_neg (by rw [hw]; simp)]
      obtain ⟨env', e1, e2, e3, _, e5⟩ := put_ok2 hE2 (.v undef) hd hsk2 hm2
      exact ih _ c w env' h _ hX hH e1 e2 (e5 rfl) e3
    unfold adOps at hm
    split at hm
    · rename_i hg
      exact go env hE hsk (by unfold Region.wanted; rw [hg]) hm
    · rename_i j want hg
      split at hm
      · exact hm.elim
      · rename_i t ht
        obtain ⟨g1, g2⟩ := guard_run hE hg ht
        cases hq : memN t sk with
        | true =>
          rw [hq] at hm
          exact skip env hE hsk (g2 #[] (hsk t hq)) hm
        | false =>
          rw [hq] at hm
          have hm : gdM (env t) _ _ := hm
          unfold gdM at hm
          split at hm
          · rename_i b hb
            have hw := g1 b hb
            cases b with
            | true =>
              have hE2 : RE c w (upd env t (.v (.bool true))) a nt := hE.told hb
              cases want with
              | true => exact go _ hE2 (told_sk hq hsk) hw hm
              | false => exact skip _ hE2 (told_sk hq hsk) hw hm
            | false =>
              have hE2 : RE c w (upd env t (.v (.bool false))) a nt := hE.told hb
              cases want with
              | true => exact skip _ hE2 (told_sk hq hsk) hw hm
              | false => exact go _ hE2 (told_sk hq hsk) hw hm
          · exact hm.elim
theorem RH.draws {c : Ctx} {h : AHeap} {w : World} (hH : RH c h w) (n : Nat) : Ext c w c { w with drawn := n } ∧ RH c h { w with drawn := n } := by
  have hE : Ext c w c { w with drawn := n } := ⟨rfl, rfl, fun _ h => h, Nat.le_refl _, fun _ _ _ h => ⟨h, rfl, rfl, rfl⟩, fun _ _ _ => rfl⟩
  refine ⟨hE, ⟨⟨hH.below.os, hH.below.tape, hH.below.output, hH.below.size, hH.below.block⟩, hH.base, hH.Fb, hH.Fs, hH.live, fun r g s xs hr => ?_, hH.inj⟩⟩
  obtain ⟨h1, h2, h3, h4⟩ := hH.row r g s xs hr
  exact ⟨h1, h2, h3, h4.lt, h4.there, h4.fit, h4.len, fun i x j a hx ha => by
    obtain ⟨v, v1, v2⟩ := h4.val i x j a hx ha
    exact ⟨v, v1, v2.mono hE⟩⟩
theorem renv_ok {c : Ctx} {w : World} {a : Act} {nt : Nat} {l : List Nat} {s : List AVal} {vs : Array Value} (hn : a.tmps.size = nt) (hs : RVs c w s vs) (hv : ∀ (i t : Nat), l[i]? = some t → vs.getD i undef = a.tmps.getD t undef) (hl : vs.size = l.length) : RE c w (renv l s) a nt := by
  refine ⟨hn, fun t => ?_⟩
  have nth : ∀ (s : List AVal) (i : Nat), nthA s i = s.getD i .dead := by
    intro s
    induction s with
    | nil => intro i; rfl
    | cons x s ih => intro i; cases i with
      | zero => rfl
      | succ i => exact ih i
  have key : ∀ (l' : List Nat) (n : Nat), (∀ i, l'[i]? = l[n + i]?) → RV c w (renvFrom l' n s t) (a.tmps.getD t undef) := by
    intro l'
    induction l' with
    | nil => intro n _; exact .dead _
    | cons b l' ih =>
      intro n hl'
      unfold renvFrom
      cases hq : Nat.beq t b with
      | true =>
        have he := Nat.eq_of_beq_eq_true hq
        subst he
        have hlt : l[n]? = some t := by rw [← Nat.add_zero n, ← hl' 0]; rfl
        rw [← hv n t hlt]
        have hn1 : n < s.length := by
          have := (List.getElem?_eq_some_iff.1 hlt).1
          have := hs.1; omega
        show RV c w (nthA s n) _
        rw [nth]
        exact hs.2 n _ (getD_some hn1)
      | false => exact ih (n + 1) (fun i => by rw [show n + 1 + i = n + (i + 1) by omega, ← hl' (i + 1)]; rfl)
  exact key l 0 (fun i => by rw [Nat.zero_add])
theorem vals_ok {c : Ctx} {w : World} {env : Env} {a : Act} {nt : Nat} (hE : RE c w env a nt) (l : List Nat) : RVs c w (l.map env) (l.toArray.map fun t => a.tmps.getD t undef) := by
  refine ⟨by simp, fun i x hx => ?_⟩
  rw [List.getElem?_map, Option.map_eq_some_iff] at hx
  obtain ⟨t, ht, rfl⟩ := hx
  have : (l.toArray.map fun t => a.tmps.getD t undef).getD i undef = a.tmps.getD t undef := by
    simp [Array.getD_eq_getD_getElem?, ht]
  rw [this]
  exact hE.2 t
theorem wk_ok {c : Ctx} {w : World} {env : Env} {h : AHeap} {a : Act} {nt : Nat} {l : List Nat} {J : KS} (hH : RH c h w) (hE : RE c w env a nt) (hk : Wk (l.map env) h J) :
    ∃ c' s h', Ext c w c' w ∧ RH c' h' w ∧ RE c' w (renv l s) a nt ∧ J s h' := by
  obtain ⟨c', s, h', h1, h2, h3, h4⟩ := hk.out c w _ hH (vals_ok hE l)
  refine ⟨c', s, h', h1, h2, renv_ok hE.1 h3 (fun i t ht => ?_) (by simp), h4⟩
  simp [Array.getD_eq_getD_getElem?, ht]
theorem Post.mono {c c' : Ctx} {w w' : World} {nt : Nat} {K : KC} {e : Exit} {a : Act} {w2 : World} (hX : Ext c w c' w') (h : Post c' w' nt K e a w2) : Post c w nt K e a w2 := by
  obtain ⟨ae, c2, env2, h2, e1, e2, r⟩ := h
  exact ⟨ae, c2, env2, h2, e1, hX.trans e2, r⟩
theorem code_ok {an : An} {nt : Nat} : ∀ (x : Code) (env : Env) (h : AHeap) (Kn : KE) (Kx : Nat → KE) (Kr : KE) (c : Ctx) (w : World) (a : Act), RH c h w → RE c w env a nt → a.defers = [] → adCode P an nt x env h Kn Kx Kr → x.wp P (Post c w nt (pk Kn Kx Kr)) a w
  | .skip, env, h, Kn, Kx, Kr, c, w, a, hH, hE, hd, hm => wp_skip ⟨.normal, c, env, h, rfl, Ext.refl _ _, hH, hE, hd, hm⟩
  | .region id ops draw, env, h, Kn, Kx, Kr, c, w, a, hH, hE, hd, hm => by
    cases draw with
    | true =>
      have hm : drawnOK P ops (an.ord id) ∧ adOpsI P nt ops (an.ord id) [] env h Kn := hm
      obtain ⟨⟨hq1, hq2⟩, hm⟩ := hm
      rw [adOpsI_eq] at hm
      have hlt : ∀ i ∈ an.ord id, i < ops.size := by
        have h2 := hq2
        unfold drawOK at h2
        simp only [Bool.and_eq_true] at h2
        intro i hi
        have := List.all_eq_true.1 h2.1.1.1.2 i hi
        unfold Nat.blt at this
        exact Nat.le_of_ble_eq_true this
      obtain ⟨d1, d2⟩ := hH.draws (w.drawn + 1)
      refine wp_region_drawn hq1 (fun ch a w hp => ?_) hq2 (opsC_ok (P := P) (nt := nt) (ops := ops) (Q := Post c w nt (pk Kn Kx Kr)) (c0 := c) (w0 := w) (K := Kn) (fun c' w' env' h' a' h1 h2 h3 h4 h5 => ⟨.normal, c', env', h', rfl, h1, h2, h3, h4, h5⟩)
        _ hlt [] c _ env h a d1 d2 (hE.mono d1) hd (fun t ht => by cases ht) hm)
      obtain ⟨ae, _, _, _, he, _⟩ := hp
      cases ae <;> cases he
    | false =>
      refine wp_region ?_
      have := ops_ok (P := P) (nt := nt) (ops := ops) (Q := Post c w nt (pk Kn Kx Kr)) (c0 := c) (w0 := w) (K := Kn) (fun c' w' env' h' a' h1 h2 h3 h4 h5 => ⟨.normal, c', env', h', rfl, h1, h2, h3, h4, h5⟩)
        ops.toList 0 (fun i => by simp) [] c w env h a (Ext.refl _ _) hH hE hd (fun t ht => by cases ht) hm
      rw [List.range_eq_range']
      simpa using this
  | .seq x y, env, h, Kn, Kx, Kr, c, w, a, hH, hE, hd, hm => by
    refine wp_seq ?_
    simp only [adCode] at hm
    cases hq : an.join (firstReg y) with
    | some l =>
      simp only [hq] at hm
      obtain ⟨J, hJ, hm⟩ := (jn_out hm).out
      refine wp_mono (code_ok x _ _ _ _ _ c w a hH hE hd hm) ?_
      rintro e a' w' ⟨ae, c', env', h', rfl, h1, h2, h3, h4, h5⟩
      cases ae with
      | normal =>
        obtain ⟨c2, s, h2', k1, k2, k3, k4⟩ := wk_ok h2 h3 (wk_out h5)
        exact wp_mono (code_ok y _ _ Kn Kx Kr c2 w' a' k2 k3 h4 (hJ _ _ k4)) (fun e a2 w2 hp => Post.mono (h1.trans k1) hp)
      | exit i => exact ⟨.exit i, c', env', h', rfl, h1, h2, h3, h4, h5⟩
      | ret => exact ⟨.ret, c', env', h', rfl, h1, h2, h3, h4, h5⟩
    | none =>
      simp only [hq] at hm
      refine wp_mono (code_ok x _ _ _ _ _ c w a hH hE hd hm) ?_
      rintro e a' w' ⟨ae, c', env', h', rfl, h1, h2, h3, h4, h5⟩
      cases ae with
      | normal => exact wp_mono (code_ok y _ _ Kn Kx Kr c' w' a' h2 h3 h4 h5) (fun e a2 w2 hp => Post.mono h1 hp)
      | exit i => exact ⟨.exit i, c', env', h', rfl, h1, h2, h3, h4, h5⟩
      | ret => exact ⟨.ret, c', env', h', rfl, h1, h2, h3, h4, h5⟩
  | .cond q x y, env, h, Kn, Kx, Kr, c, w, a, hH, hE, hd, hm => by
    simp only [adCode] at hm
    unfold gdM at hm
    split at hm
    · rename_i b hb
      have hv := ev_ok hE q
      rw [hb] at hv
      generalize hq : a.eval q = v at hv
      cases hv
      cases b with
      | true => exact wp_cond hq (code_ok x _ _ Kn Kx Kr c w a hH hE hd hm)
      | false => exact wp_cond hq (code_ok y _ _ Kn Kx Kr c w a hH hE hd hm)
    · exact hm.elim
  | .block id x, env, h, Kn, Kx, Kr, c, w, a, hH, hE, hd, hm => by
    refine wp_block (wp_mono (code_ok x _ _ _ _ _ c w a hH hE hd hm) ?_)
    rintro e a' w' ⟨ae, c', env', h', rfl, h1, h2, h3, h4, h5⟩
    cases ae with
    | normal => exact ⟨.normal, c', env', h', rfl, h1, h2, h3, h4, h5⟩
    | exit i =>
      show if i = id then Post c w nt (pk Kn Kx Kr) .normal a' w' else Post c w nt (pk Kn Kx Kr) (.exit i) a' w'
      by_cases hi : i = id
      · rw [if_pos hi]
        subst hi
        have h5 : (bif Nat.beq i i then Kn else Kx i) env' h' := h5
        rw [Nat.beq_refl] at h5
        exact ⟨.normal, c', env', h', rfl, h1, h2, h3, h4, h5⟩
      · rw [if_neg hi]
        have h5 : (bif Nat.beq i id then Kn else Kx i) env' h' := h5
        have hb : Nat.beq i id = false := by cases hh : Nat.beq i id; rfl; exact absurd (Nat.eq_of_beq_eq_true hh) hi
        rw [hb] at h5
        exact ⟨.exit i, c', env', h', rfl, h1, h2, h3, h4, h5⟩
    | ret => exact ⟨.ret, c', env', h', rfl, h1, h2, h3, h4, h5⟩
  | .loop x, env, h, Kn, Kx, Kr, c, w, a, hH, hE, hd, hm => by
    simp only [adCode] at hm
    obtain ⟨I, μ, h0, hr⟩ := (lp_out hm).out
    obtain ⟨c2, s, h2', k1, k2, k3, k4⟩ := wk_ok hH hE h0
    refine wp_loop_ghost (fun n a' w' => ∃ c' s h', Ext c w c' w' ∧ RH c' h' w' ∧ RE c' w' (renv (an.loop (firstReg x)) s) a' nt ∧ a'.defers = [] ∧ I s h' ∧ μ s h' = n) (μ s h2') ?_ ?_
    · exact ⟨c2, s, h2', k1, k2, k3, hd, k4, rfl⟩
    · rintro n a' w' ⟨c', s, h', h1, h2, h3, h4, h5, rfl⟩
      refine wp_mono (code_ok x _ _ _ _ _ c' w' a' h2 h3 h4 (hr s h' h5)) ?_
      rintro e a2 w2 ⟨ae, c2, env2, h2', rfl, g1, g2, g3, g4, g5⟩
      cases ae with
      | normal =>
        obtain ⟨c3, s3, h3', k1, k2, k3, k4, hk⟩ := wk_ok g2 g3 (wk_out g5)
        exact ⟨_, hk, c3, s3, h3', (h1.trans g1).trans k1, k2, k3, g4, k4, rfl⟩
      | exit i => exact ⟨.exit i, c2, env2, h2', rfl, h1.trans g1, g2, g3, g4, g5⟩
      | ret => exact ⟨.ret, c2, env2, h2', rfl, h1.trans g1, g2, g3, g4, g5⟩
  | .exit i, env, h, Kn, Kx, Kr, c, w, a, hH, hE, hd, hm => wp_exit ⟨.exit i, c, env, h, rfl, Ext.refl _ _, hH, hE, hd, hm⟩
  | .ret, env, h, Kn, Kx, Kr, c, w, a, hH, hE, hd, hm => wp_ret ⟨.ret, c, env, h, rfl, Ext.refl _ _, hH, hE, hd, hm⟩
  | .rangeFunc .., _, _, _, _, _, _, _, _, _, _, _, hm => hm.elim
  | .scope _, _, _, _, _, _, _, _, _, _, _, _, hm => hm.elim
  | .label _, _, _, _, _, _, _, _, _, _, _, _, hm => hm.elim
  | .goto _, _, _, _, _, _, _, _, _, _, _, _, hm => hm.elim
  | .refuse _, _, _, _, _, _, _, _, _, _, _, _, hm => hm.elim
end
def argEnv : List AVal → Env
  | [] => fun _ => .v undef
  | x :: l => fun t => match t with | 0 => x | t + 1 => argEnv l t
def retW (x : AVal) (h : AHeap) (Q : KA) : Prop := @wkM [x] h ⟨fun s h' => Q (nthA s 0) h'⟩
def retM (P : Program) (rs : List ResultVar) (env : Env) (h : AHeap) (Q : KA) : Prop :=
  match rs with
  | [.tmp t] => @wkM [env t] h ⟨fun s h' => Q (nthA s 0) h'⟩
  | [.cell a t] => loadM P t (env a) h (fun x h1 => @wkM [x] h1 ⟨fun s h' => Q (nthA s 0) h'⟩)
  | [.tmp t, .tmp u] => @wkM [env t, env u] h ⟨fun s h' => Q (.tup [nthA s 0, nthA s 1]) h'⟩
  | [.tmp t, .tmp u, .tmp v] => @wkM [env t, env u, env v] h ⟨fun s h' => Q (.tup [nthA s 0, nthA s 1, nthA s 2]) h'⟩
  | [] => @wkM [] h ⟨fun _ h' => Q (.tup []) h'⟩
  | _ => False
/-- the body of a function, over its arguments -/
def adFn (P : Program) (an : An) (fn : Func) (xs : List AVal) (h : AHeap) (Q : KA) : Prop :=
  match fn.body with
  | some code => adCode P an fn.ntmps code (argEnv xs) h (fun env h' => retM P fn.results.toList env h' Q) (fun _ _ _ => False) (fun env h' => retM P fn.results.toList env h' Q)
  | none => False
section
variable {P : Program}
theorem argEnv_get : ∀ (xs : List AVal) (t : Nat), (∃ x, xs[t]? = some x ∧ argEnv xs t = x) ∨ (xs.length ≤ t ∧ argEnv xs t = .v undef)
  | [], t => .inr ⟨Nat.zero_le _, rfl⟩
  | x :: l, 0 => .inl ⟨x, rfl, rfl⟩
  | x :: l, t + 1 => by
    rcases argEnv_get l t with ⟨y, h1, h2⟩ | ⟨h1, h2⟩
    · exact .inl ⟨y, by simpa using h1, h2⟩
    · exact .inr ⟨by simpa using h1, h2⟩
theorem wk_get {c : Ctx} {w : World} {h : AHeap} {s : List AVal} {vs : Array Value} {J : KS} (hH : RH c h w) (hs : RVs c w s vs) (hk : Wk s h J) : ∃ c' s' h', Ext c w c' w ∧ RH c' h' w ∧ RVs c' w s' vs ∧ J s' h' := hk.out c w vs hH hs
theorem nth_ok {c : Ctx} {w : World} {s : List AVal} {vs : Array Value} (hs : RVs c w s vs) {i : Nat} (hi : i < vs.size) : RV c w (nthA s i) (vs.getD i undef) := by
  have nth : ∀ (s : List AVal) (i : Nat), nthA s i = s.getD i .dead := by
    intro s
    induction s with
    | nil => intro i; rfl
    | cons x s ih => intro i; cases i with
      | zero => rfl
      | succ i => exact ih i
  rw [nth]
  exact hs.2 i _ (getD_some (by rw [← hs.1]; exact hi))
theorem ret_ok {c : Ctx} {w : World} {h : AHeap} {env : Env} {a : Act} {nt : Nat} {fn : Func} {Q : KA} (hH : RH c h w) (hE : RE c w env a nt) (hm : retM P fn.results.toList env h Q) :
    ∃ v c' x h', (results fn a.tmps).run P w = .ok v w ∧ Ext c w c' w ∧ RH c' h' w ∧ RV c' w x v ∧ Q x h' := by
  unfold retM at hm
  split at hm
  · rename_i t hrs
    obtain ⟨c', s', h', h1, h2, h3, h4⟩ := wk_get (vs := #[a.tmps.getD t undef]) hH ⟨rfl, fun i y hy => by
      have hi : i = 0 := by
        have := (List.getElem?_eq_some_iff.1 hy).1
        simpa using this
      subst hi
      cases hy
      exact hE.2 t⟩ (wk_out hm)
    refine ⟨_, c', _, h', ?_, h1, h2, nth_ok h3 (i := 0) (by simp), h4⟩
    simp [results, arr_ofList hrs]
  · rename_i q t hrs
    obtain ⟨v, y, k1, k2, k3⟩ := load_pure hH (hE.2 q) hm
    obtain ⟨c', s', h', h1, h2, h3, h4⟩ := wk_get (vs := #[v]) hH ⟨rfl, fun i z hz => by
      have hi : i = 0 := by
        have := (List.getElem?_eq_some_iff.1 hz).1
        simpa using this
      subst hi
      cases hz
      exact k2⟩ (wk_out k3)
    refine ⟨_, c', _, h', ?_, h1, h2, nth_ok h3 (i := 0) (by simp), h4⟩
    have hx := hE.2 q
    generalize hq : a.tmps.getD q undef = u at k1 hx
    have hp : ∃ ad, u = .pointer (some ad) := by
      replace hm := hm.out
      unfold loadM_b at hm
      split at hm
      · rename_i he; rw [he] at hx; cases hx; exact ⟨_, rfl⟩
      · rename_i he; rw [he] at hx; cases hx; exact ⟨_, rfl⟩
      · exact hm.elim
    obtain ⟨ad, rfl⟩ := hp
    have k1 : (loadVar t ad).run P w = .ok v w := by simpa [Instr.loadAt, Instr.sureAddr] using k1
    rw [Array.getD_eq_getD_getElem?] at hq
    simp [results, arr_ofList hrs, asAddr, hq, k1]
  · rename_i t u hrs
    obtain ⟨c', s', h', h1, h2, h3, h4⟩ := wk_get (vs := #[a.tmps.getD t undef, a.tmps.getD u undef]) hH ⟨rfl, fun i y hy => by
      match i, hy with
      | 0, hy => cases hy; exact hE.2 t
      | 1, hy => cases hy; exact hE.2 u
      | _ + 2, hy => simp at hy⟩ (wk_out hm)
    refine ⟨_, c', _, h', ?_, h1, h2, .tup _ #[a.tmps.getD t undef, a.tmps.getD u undef] (by simp) (fun i y hy => ?_), h4⟩
    · simp [results, arr_ofList hrs]
    · match i, hy with
      | 0, hy => cases hy; exact nth_ok h3 (i := 0) (by simp)
      | 1, hy => cases hy; exact nth_ok h3 (i := 1) (by simp)
      | _ + 2, hy => simp at hy
  · rename_i t u r hrs
    obtain ⟨c', s', h', h1, h2, h3, h4⟩ := wk_get (vs := #[a.tmps.getD t undef, a.tmps.getD u undef, a.tmps.getD r undef]) hH ⟨rfl, fun i y hy => by
      match i, hy with
      | 0, hy => cases hy; exact hE.2 t
      | 1, hy => cases hy; exact hE.2 u
      | 2, hy => cases hy; exact hE.2 r
      | _ + 3, hy => simp at hy⟩ (wk_out hm)
    refine ⟨_, c', _, h', ?_, h1, h2, .tup _ #[a.tmps.getD t undef, a.tmps.getD u undef, a.tmps.getD r undef] (by simp) (fun i y hy => ?_), h4⟩
    · simp [results, arr_ofList hrs]
    · match i, hy with
      | 0, hy => cases hy; exact nth_ok h3 (i := 0) (by simp)
      | 1, hy => cases hy; exact nth_ok h3 (i := 1) (by simp)
      | 2, hy => cases hy; exact nth_ok h3 (i := 2) (by simp)
      | _ + 3, hy => simp at hy
  · rename_i hrs
    obtain ⟨c', s', h', h1, h2, h3, h4⟩ := wk_get (vs := #[]) hH ⟨rfl, fun i y hy => by simp at hy⟩ (wk_out hm)
    refine ⟨_, c', _, h', ?_, h1, h2, .tup _ #[] rfl (fun i y hy => by simp at hy), h4⟩
    simp [results, arr_ofList hrs]
  · exact hm.elim
theorem callM_of {an : An} {f : FuncId} {fn : Func} {xs : List AVal} {h : AHeap} {Q : KA} (hf : P.funcs[f]? = some fn) (hn : xs.length ≤ fn.ntmps) (hm : adFn P an fn xs h Q) : callM P f xs h Q := by
  intro c w vs hH hv
  unfold adFn at hm
  split at hm
  · rename_i code hb
    refine calls_of_wp hf hb ?_
    have hE : RE c w (argEnv xs) { tmps := vs ++ Array.replicate (fn.ntmps - vs.size) undef, defers := [] } fn.ntmps := by
      refine ⟨by simp; have := hv.1; omega, fun t => ?_⟩
      rcases argEnv_get xs t with ⟨x, h1, h2⟩ | ⟨h1, h2⟩
      · rw [h2]
        have hlt : t < vs.size := by rw [hv.1]; exact (List.getElem?_eq_some_iff.1 h1).1
        have := hv.2 t x h1
        have e : (vs ++ Array.replicate (fn.ntmps - vs.size) undef).getD t undef = vs.getD t undef := by
          rw [Array.getD_eq_getD_getElem?, Array.getD_eq_getD_getElem?, Array.getElem?_append_left hlt]
        rw [e]; exact this
      · rw [h2]
        have e : (vs ++ Array.replicate (fn.ntmps - vs.size) undef).getD t undef = undef := by
          have hge : vs.size ≤ t := by rw [hv.1]; exact h1
          rw [Array.getD_eq_getD_getElem?, Array.getElem?_append_right hge, Array.getElem?_replicate]
          split <;> rfl
        rw [e]; exact .v _
    refine wp_mono (code_ok code _ _ _ _ _ c w _ hH hE rfl hm) ?_
    rintro e a' w' ⟨ae, c', env', h', rfl, h1, h2, h3, h4, h5⟩
    have key : retM P fn.results.toList env' h' Q → a'.defers = [] ∧ ∃ v, (results fn a'.tmps).run P w' = .ok v w' ∧ ∃ v' c' x h', Ending.returned v = .returned v' ∧ Ext c w c' w' ∧ RH c' h' w' ∧ RV c' w' x v' ∧ Q x h' := by
      intro hr
      obtain ⟨v, c2, x, h2', k1, k2, k3, k4, k5⟩ := ret_ok h2 h3 hr
      exact ⟨h4, v, k1, v, c2, x, h2', rfl, h1.trans k2, k3, k4, k5⟩
    cases ae with
    | normal => exact key h5
    | exit i => exact h5.elim
    | ret => exact key h5
  · exact hm.elim
end
theorem Wk.refl {s : List AVal} {h : AHeap} {J : KS} (hj : J s h) : Wk s h J := ⟨fun c w vs hH hs => ⟨c, s, h, Ext.refl _ _, hH, hs, hj⟩⟩
theorem Wk.mono {s : List AVal} {h : AHeap} {J J' : KS} (hk : Wk s h J) (hm : ∀ s h, J s h → J' s h) : Wk s h J' := ⟨fun c w vs hH hs => by
  obtain ⟨c', s', h', h1, h2, h3, h4⟩ := hk.out c w vs hH hs
  exact ⟨c', s', h', h1, h2, h3, hm _ _ h4⟩⟩
/-- rows are forgotten -/
theorem Wk.sub {s : List AVal} {h h' : AHeap} {J : KS} (hs : ∀ (r g z : Nat) (xs : List AVal), h'[r]? = some (.row g z xs) → h[r]? = some (.row g z xs)) (hk : Wk s h' J) : Wk s h J := by
  refine ⟨fun c w vs hH hv => ?_⟩
  let c' : Ctx := { c with gen := fun r => match h'[r]? with | some (.row g _ _) => some g | _ => none }
  have hg : ∀ r g, c'.gen r = some g → ∃ z xs, h'[r]? = some (.row g z xs) := by
    intro r g hr
    have hr : (match h'[r]? with | some (.row g _ _) => some g | _ => none) = some g := hr
    split at hr
    · rename_i g' z xs hq
      cases hr
      exact ⟨z, xs, hq⟩
    · cases hr
  have hE : Ext c w c' w := ⟨rfl, rfl, fun _ h => h, Nat.le_refl _, fun r g _ hr => by
    obtain ⟨z, xs, hq⟩ := hg r g hr
    exact ⟨(hH.row r g z xs (hs _ _ _ _ hq)).1, rfl, rfl, rfl⟩, fun _ _ _ => rfl⟩
  have hH' : RH c' h' w := by
    refine ⟨hH.below, hH.base, hH.Fb, hH.Fs, fun r g hr => ?_, fun r g z xs hq => ?_, fun r r' g g' h1 h2 he => ?_⟩
    · obtain ⟨z, xs, hq⟩ := hg r g hr
      obtain ⟨k1, k2, _⟩ := hH.row r g z xs (hs _ _ _ _ hq)
      refine ⟨(hH.live r g k1).1, xs, ?_⟩
      rw [hq]
      show some (AObj.row g z xs) = some (AObj.row g (c.sz r) xs)
      rw [k2]
    · obtain ⟨k1, k2, k3, k4⟩ := hH.row r g z xs (hs _ _ _ _ hq)
      refine ⟨?_, k2, k3, k4.lt, k4.there, k4.fit, k4.len, fun i x j a h1 h2 => ?_⟩
      · show (match h'[r]? with | some (.row g _ _) => some g | _ => none) = some g
        rw [hq]
      · obtain ⟨v, v1, v2⟩ := k4.val i x j a h1 h2
        exact ⟨v, v1, v2.mono hE⟩
    · obtain ⟨z, xs, hq⟩ := hg r g h1
      obtain ⟨z', xs', hq'⟩ := hg r' g' h2
      exact hH.inj r r' g g' (hH.row r g z xs (hs _ _ _ _ hq)).1 (hH.row r' g' z' xs' (hs _ _ _ _ hq')).1 he
  obtain ⟨c2, s2, h2, k1, k2, k3, k4⟩ := hk.out c' w vs hH' (hv.mono hE)
  exact ⟨c2, s2, h2, hE.trans k1, k2, k3, k4⟩
theorem Wk.take {s : List AVal} {h : AHeap} {J : KS} (n : Nat) (hk : Wk s (h.take n) J) : Wk s h J :=
  Wk.sub (fun r g z xs hr => by
    have hlt := (List.getElem?_eq_some_iff.1 hr).1
    rw [List.length_take] at hlt
    rwa [List.getElem?_take_of_lt (by omega)] at hr) hk
theorem Wk.drop {s : List AVal} {h l : AHeap} {J : KS} (hk : Wk s h J) : Wk s (h ++ l) J :=
  Wk.sub (fun r g z xs hr => by rw [List.getElem?_append_left (List.getElem?_eq_some_iff.1 hr).1]; exact hr) hk
/-- a row of stamp g is told from now on as memory that is never written -/
def frz (r g : Nat) (xs : List AVal) : AVal → AVal
  | .rf r' g' o n => if r' = r ∧ g' = g ∧ o + n ≤ xs.length then .sl ((xs.drop o).take n) else .rf r' g' o n
  | .pt r' g' i j => if r' = r ∧ g' = g ∧ j = 0 ∧ i < xs.length then .fp (xs.getD i .dead) else .pt r' g' i j
  | .agg cs => .agg (frzs r g xs cs)
  | .tup cs => .tup (frzs r g xs cs)
  | x => x
where frzs (r g : Nat) (xs : List AVal) : List AVal → List AVal
  | [] => []
  | a :: l => frz r g xs a :: frzs r g xs l
theorem frzs_eq (r g : Nat) (xs : List AVal) : ∀ l, frz.frzs r g xs l = l.map (frz r g xs)
  | [] => rfl
  | a :: l => by rw [frz.frzs, frzs_eq r g xs l]; rfl
theorem frz_len (r g : Nat) (xs : List AVal) (x : AVal) : (frz r g xs x).flat.length = x.flat.length ∧ ∀ (j : Nat) (a : AVal), (frz r g xs x).flat[j]? = some a → ∃ b, x.flat[j]? = some b ∧ a = frz r g xs b := by
  have one : x.flat = [x] → (frz r g xs x).flat = [frz r g xs x] → (frz r g xs x).flat.length = x.flat.length ∧ ∀ (j : Nat) (a : AVal), (frz r g xs x).flat[j]? = some a → ∃ b, x.flat[j]? = some b ∧ a = frz r g xs b := by
    intro h1 h2
    rw [h1, h2]
    refine ⟨rfl, fun j a ha => ?_⟩
    have hj : j = 0 := by
      have := (List.getElem?_eq_some_iff.1 ha).1
      simpa using this
    subst hj
    simp at ha
    exact ⟨x, rfl, ha.symm⟩
  cases x with
  | agg cs =>
    have h : (frz r g xs (.agg cs)).flat = cs.map (frz r g xs) := by
      show frz.frzs r g xs cs = _
      exact frzs_eq r g xs cs
    rw [h]
    refine ⟨by simp [AVal.flat], fun j a ha => ?_⟩
    rw [List.getElem?_map, Option.map_eq_some_iff] at ha
    obtain ⟨b, hb, rfl⟩ := ha
    exact ⟨b, hb, rfl⟩
  | rf r' g' o n => exact one rfl (by unfold frz; split <;> rfl)
  | pt r' g' i j => exact one rfl (by unfold frz; split <;> rfl)
  | _ => exact one rfl rfl
def frzH (r g : Nat) (xs : List AVal) (h : AHeap) : AHeap := (h.set r .dead).map fun | .row g' z ys => .row g' z (ys.map (frz r g xs)) | .dead => .dead
theorem frz_ok {c : Ctx} {w : World} {h : AHeap} {r g z : Nat} {xs : List AVal} (hH : RH c h w) (hr : h[r]? = some (.row g z xs)) :
    ∃ c', Ext c w c' w ∧ RH c' (frzH r g xs h) w ∧ ∀ x v, RV c w x v → RV c' w (frz r g xs x) v := by
  obtain ⟨hg, hz, hF, hR⟩ := hH.row r g z xs hr
  let c' : Ctx := { c with F := fun b => c.F b ∨ b = c.blk r, gen := updN c.gen r none }
  have hE : Ext c w c' w := ⟨rfl, rfl, fun _ h => .inl h, Nat.le_refl _, fun r' g' _ hr' => by
    by_cases he : r' = r
    · subst he; rw [show c'.gen r' = none from updN_same _ _ _] at hr'; cases hr'
    · exact ⟨(updN_ne c.gen none he).symm.trans hr', rfl, rfl, rfl⟩, fun _ _ _ => rfl⟩
  obtain ⟨f, hf⟩ : ∃ f : Nat → Nat → Value, ∀ (i : Nat) (x : AVal) (j : Nat) (a : AVal), xs[i]? = some x → x.flat[j]? = some a → w.cell? ⟨c.blk r, i * z + j, none⟩ = some (f i j) ∧ RV c w a (f i j) := by
    refine ⟨fun i j => (w.cell? ⟨c.blk r, i * z + j, none⟩).getD undef, fun i x j a h1 h2 => ?_⟩
    obtain ⟨v, v1, v2⟩ := hR.val i x j a h1 h2
    simp only [v1, Option.getD_some]; exact ⟨trivial, v2⟩
  have hval : ∀ x v, RV c w x v → RV c' w (frz r g xs x) v := by
    intro x v hx
    induction hx with
    | agg cs vs hl _ ih =>
      refine .agg _ vs (by rw [hl, frzs_eq]; simp) (fun i a ha => ?_)
      rw [frzs_eq, List.getElem?_map, Option.map_eq_some_iff] at ha
      obtain ⟨b, hb, rfl⟩ := ha
      exact ih i b hb
    | tup cs vs hl _ ih =>
      refine .tup _ vs (by rw [hl, frzs_eq]; simp) (fun i a ha => ?_)
      rw [frzs_eq, List.getElem?_map, Option.map_eq_some_iff] at ha
      obtain ⟨b, hb, rfl⟩ := ha
      exact ih i b hb
    | rf r' g' o n a cap hlt hh =>
      unfold frz
      split
      · rename_i hc
        obtain ⟨rfl, rfl, hle⟩ := hc
        obtain ⟨ha, hl, hcm, hcc⟩ := hh hg
        have hlen : n = ((xs.drop o).take n).length := by rw [List.length_take, List.length_drop]; omega
        have hget : ∀ (i : Nat) (x : AVal), ((xs.drop o).take n)[i]? = some x → xs[o + i]? = some x := by
          intro i x hi
          have hin : i < n := by rw [hlen]; exact (List.getElem?_eq_some_iff.1 hi).1
          rwa [List.getElem?_take_of_lt hin, List.getElem?_drop] at hi
        rcases ha with hc0 | ha
        · have hn0 : n = 0 := by omega
          subst hn0
          exact .nil _ _ _ (by simp)
        · subst ha
          exact .sl _ (c.blk r') _ n cap z (fun i j => f (o + i) j) (.inr rfl) hlen hl (fun i x hi => hR.len _ _ (hget i x hi)) (fun i x j a h1 h2 => by
            rw [hz, ← Nat.add_assoc, ← Nat.add_mul]; exact (hf _ _ _ _ (hget i x h1) h2).1) (fun i x j a h1 h2 => (hf _ _ _ _ (hget i x h1) h2).2.mono hE)
      · exact RV.mono hE (.rf r' g' o n a cap hlt hh)
    | pt r' g' i j a hlt hh =>
      unfold frz
      split
      · rename_i hc
        obtain ⟨rfl, rfl, rfl, hi⟩ := hc
        obtain rfl := hh hg
        have h1 := getD_some hi
        refine .fp _ (c.blk r') _ (fun q => f i q) (.inr rfl) (fun q a ha => ?_) (fun q a ha => (hf _ _ _ _ h1 ha).2.mono hE)
        rw [hz, Nat.add_zero]; exact (hf _ _ _ _ h1 ha).1
      · exact RV.mono hE (.pt r' g' i j a hlt hh)
    | v x => exact .v x
    | nil ys ad cap he => exact .nil ys ad cap he
    | sl ys b off len cap s f hF hlen hcap hs hc hr ih => exact RV.mono hE (.sl ys b off len cap s f hF hlen hcap hs hc hr)
    | fp y b off f hF hc hr ih => exact RV.mono hE (.fp y b off f hF hc hr)
    | ifc t y v hy _ => exact RV.mono hE (.ifc t y v hy)
    | fn q caps vs hl hh _ => exact RV.mono hE (.fn q caps vs hl hh)
    | dead v => exact .dead v
  have hrow' : ∀ k g' z' ys, (frzH r g xs h)[k]? = some (.row g' z' ys) → k ≠ r ∧ ∃ zs, h[k]? = some (.row g' z' zs) ∧ ys = zs.map (frz r g xs) := by
    intro k g' z' ys hk
    unfold frzH at hk
    rw [List.getElem?_map, Option.map_eq_some_iff] at hk
    obtain ⟨o, ho, hh⟩ := hk
    by_cases hkr : k = r
    · subst hkr
      rw [List.getElem?_set_self (List.getElem?_eq_some_iff.1 hr).1] at ho
      cases ho
      cases hh
    · rw [List.getElem?_set_ne (Ne.symm hkr)] at ho
      cases o with
      | dead => cases hh
      | row g2 z2 zs =>
        cases hh
        exact ⟨hkr, zs, ho, rfl⟩
  have hrow2 : ∀ k g' z' zs, k ≠ r → h[k]? = some (.row g' z' zs) → (frzH r g xs h)[k]? = some (.row g' z' (zs.map (frz r g xs))) := by
    intro k g' z' zs hkr hk
    unfold frzH
    rw [List.getElem?_map, List.getElem?_set_ne (Ne.symm hkr), hk]
    rfl
  refine ⟨c', hE, ⟨hH.below, hH.base, fun b hb => .inl (hH.Fb b hb), fun b hb => ?_, fun k g' hk => ?_, fun k g' z' ys hk => ?_, fun k k' g1 g2 h1 h2 he => ?_⟩, hval⟩
  · rcases hb with hb | rfl
    · exact hH.Fs b hb
    · exact hR.lt
  · by_cases hkr : k = r
    · subst hkr; rw [show c'.gen k = none from updN_same _ _ _] at hk; cases hk
    · rw [show c'.gen k = c.gen k from updN_ne _ _ hkr] at hk
      obtain ⟨k1, ys, k2⟩ := hH.live k g' hk
      exact ⟨k1, _, hrow2 _ _ _ _ hkr k2⟩
  · obtain ⟨hkr, zs, h1, rfl⟩ := hrow' k g' z' ys hk
    obtain ⟨k1, k2, k3, k4⟩ := hH.row k g' z' zs h1
    refine ⟨(updN_ne c.gen none hkr).trans k1, k2, fun hf => ?_, k4.lt, k4.there, by rw [List.length_map]; exact k4.fit, fun i x hx => ?_, fun i x j a hx ha => ?_⟩
    · rcases hf with hf | hf
      · exact k3 hf
      · exact hkr (hH.inj k r g' g k1 hg hf)
    · rw [List.getElem?_map, Option.map_eq_some_iff] at hx
      obtain ⟨y, hy, rfl⟩ := hx
      rw [(frz_len r g xs y).1]; exact k4.len i y hy
    · rw [List.getElem?_map, Option.map_eq_some_iff] at hx
      obtain ⟨y, hy, rfl⟩ := hx
      obtain ⟨b, hb, rfl⟩ := (frz_len r g xs y).2 j a ha
      obtain ⟨v, v1, v2⟩ := k4.val i y j b hy hb
      exact ⟨v, v1, hval _ _ v2⟩
  · by_cases e1 : k = r
    · subst e1; rw [show c'.gen k = none from updN_same _ _ _] at h1; cases h1
    · by_cases e2 : k' = r
      · subst e2; rw [show c'.gen k' = none from updN_same _ _ _] at h2; cases h2
      · exact hH.inj k k' g1 g2 ((updN_ne c.gen none e1).symm.trans h1) ((updN_ne c.gen none e2).symm.trans h2) he
theorem Wk.freeze {s : List AVal} {h : AHeap} {J : KS} (r g z : Nat) (xs : List AVal) (hr : h[r]? = some (.row g z xs)) (hk : Wk (s.map (frz r g xs)) (frzH r g xs h) J) : Wk s h J := by
  refine ⟨fun c w vs hH hv => ?_⟩
  obtain ⟨c', h1, h2, h3⟩ := frz_ok hH hr
  obtain ⟨c2, s2, h2', k1, k2, k3, k4⟩ := hk.out c' w vs h2 ⟨by rw [List.length_map]; exact hv.1, fun i a ha => by
    rw [List.getElem?_map, Option.map_eq_some_iff] at ha
    obtain ⟨b, hb, rfl⟩ := ha
    exact h3 _ _ (hv.2 i b hb)⟩
  exact ⟨c2, s2, h2', h1.trans k1, k2, k3, k4⟩
theorem fz_ok {c : Ctx} {w : World} {h h' : AHeap} {r g z : Nat} {xs : List AVal} (hH : RH c h w) (hr : h[r]? = some (.row g z xs))
    (hs : ∀ (k g' z' : Nat) (ys : List AVal), h'[k]? = some (.row g' z' ys) → k ≠ r ∧ ∃ zs, h[k]? = some (.row g' z' zs) ∧ (ys = zs ∨ ys = zs.map (frz r g xs))) :
    ∃ c', Ext c w c' w ∧ RH c' h' w ∧ ∀ x v, RV c w x v → RV c' w (frz r g xs x) v := by
  obtain ⟨hg, hz, hF, hR⟩ := hH.row r g z xs hr
  let c' : Ctx := { c with F := fun b => c.F b ∨ b = c.blk r, gen := fun k => match h'[k]? with | some (.row g _ _) => some g | _ => none }
  have hg' : ∀ k g', c'.gen k = some g' → ∃ z' ys, h'[k]? = some (.row g' z' ys) := by
    intro k g' hk
    have hk : (match h'[k]? with | some (.row g _ _) => some g | _ => none) = some g' := hk
    split at hk
    · rename_i g2 z2 ys hq
      cases hk
      exact ⟨z2, ys, hq⟩
    · cases hk
  have hE : Ext c w c' w := ⟨rfl, rfl, fun _ h => .inl h, Nat.le_refl _, fun k g' _ hk => by
    obtain ⟨z', ys, hq⟩ := hg' k g' hk
    obtain ⟨_, zs, h1, _⟩ := hs k g' z' ys hq
    exact ⟨(hH.row k g' z' zs h1).1, rfl, rfl, rfl⟩, fun _ _ _ => rfl⟩
  obtain ⟨f, hf⟩ : ∃ f : Nat → Nat → Value, ∀ (i : Nat) (x : AVal) (j : Nat) (a : AVal), xs[i]? = some x → x.flat[j]? = some a → w.cell? ⟨c.blk r, i * z + j, none⟩ = some (f i j) ∧ RV c w a (f i j) := by
    refine ⟨fun i j => (w.cell? ⟨c.blk r, i * z + j, none⟩).getD undef, fun i x j a h1 h2 => ?_⟩
    obtain ⟨v, v1, v2⟩ := hR.val i x j a h1 h2
    simp only [v1, Option.getD_some]; exact ⟨trivial, v2⟩
  have hval : ∀ x v, RV c w x v → RV c' w (frz r g xs x) v := by
    intro x v hx
    induction hx with
    | agg cs vs hl _ ih =>
      refine .agg _ vs (by rw [hl, frzs_eq]; simp) (fun i a ha => ?_)
      rw [frzs_eq, List.getElem?_map, Option.map_eq_some_iff] at ha
      obtain ⟨b, hb, rfl⟩ := ha
      exact ih i b hb
    | tup cs vs hl _ ih =>
      refine .tup _ vs (by rw [hl, frzs_eq]; simp) (fun i a ha => ?_)
      rw [frzs_eq, List.getElem?_map, Option.map_eq_some_iff] at ha
      obtain ⟨b, hb, rfl⟩ := ha
      exact ih i b hb
    | rf r' g' o n a cap hlt hh =>
      unfold frz
      split
      · rename_i hc
        obtain ⟨rfl, rfl, hle⟩ := hc
        obtain ⟨ha, hl, hcm, hcc⟩ := hh hg
        have hlen : n = ((xs.drop o).take n).length := by rw [List.length_take, List.length_drop]; omega
        have hget : ∀ (i : Nat) (x : AVal), ((xs.drop o).take n)[i]? = some x → xs[o + i]? = some x := by
          intro i x hi
          have hin : i < n := by rw [hlen]; exact (List.getElem?_eq_some_iff.1 hi).1
          rwa [List.getElem?_take_of_lt hin, List.getElem?_drop] at hi
        rcases ha with hc0 | ha
        · have hn0 : n = 0 := by omega
          subst hn0
          exact .nil _ _ _ (by simp)
        · subst ha
          exact .sl _ (c.blk r') _ n cap z (fun i j => f (o + i) j) (.inr rfl) hlen hl (fun i x hi => hR.len _ _ (hget i x hi)) (fun i x j a h1 h2 => by
            rw [hz, ← Nat.add_assoc, ← Nat.add_mul]; exact (hf _ _ _ _ (hget i x h1) h2).1) (fun i x j a h1 h2 => (hf _ _ _ _ (hget i x h1) h2).2.mono hE)
      · exact RV.mono hE (.rf r' g' o n a cap hlt hh)
    | pt r' g' i j a hlt hh =>
      unfold frz
      split
      · rename_i hc
        obtain ⟨rfl, rfl, rfl, hi⟩ := hc
        obtain rfl := hh hg
        have h1 := getD_some hi
        refine .fp _ (c.blk r') _ (fun q => f i q) (.inr rfl) (fun q a ha => ?_) (fun q a ha => (hf _ _ _ _ h1 ha).2.mono hE)
        rw [hz, Nat.add_zero]; exact (hf _ _ _ _ h1 ha).1
      · exact RV.mono hE (.pt r' g' i j a hlt hh)
    | v x => exact .v x
    | nil ys ad cap he => exact .nil ys ad cap he
    | sl ys b off len cap s f hF hlen hcap hs hc hr ih => exact RV.mono hE (.sl ys b off len cap s f hF hlen hcap hs hc hr)
    | fp y b off f hF hc hr ih => exact RV.mono hE (.fp y b off f hF hc hr)
    | ifc t y v hy _ => exact RV.mono hE (.ifc t y v hy)
    | fn q caps vs hl hh _ => exact RV.mono hE (.fn q caps vs hl hh)
    | dead v => exact .dead v
  refine ⟨c', hE, ⟨hH.below, hH.base, fun b hb => .inl (hH.Fb b hb), fun b hb => ?_, fun k g' hk => ?_, fun k g' z' ys hk => ?_, fun k k' g1 g2 h1 h2 he => ?_⟩, hval⟩
  · rcases hb with hb | rfl
    · exact hH.Fs b hb
    · exact hR.lt
  · obtain ⟨z', ys, hq⟩ := hg' k g' hk
    obtain ⟨_, zs, h1, _⟩ := hs k g' z' ys hq
    obtain ⟨k1, k2, _⟩ := hH.row k g' z' zs h1
    refine ⟨(hH.live k g' k1).1, ys, ?_⟩
    rw [hq, ← k2]
  · obtain ⟨hkr, zs, h1, hy⟩ := hs k g' z' ys hk
    obtain ⟨k1, k2, k3, k4⟩ := hH.row k g' z' zs h1
    have hgk : c'.gen k = some g' := by
      show (match h'[k]? with | some (.row g _ _) => some g | _ => none) = some g'
      rw [hk]
    have hnf : ¬ c'.F (c'.blk k) := fun hf => by
      rcases hf with hf | hf
      · exact k3 hf
      · exact hkr (hH.inj k r g' g k1 hg hf)
    rcases hy with rfl | rfl
    · exact ⟨hgk, k2, hnf, k4.lt, k4.there, k4.fit, k4.len, fun i x j a hx ha => by
        obtain ⟨v, v1, v2⟩ := k4.val i x j a hx ha
        exact ⟨v, v1, v2.mono hE⟩⟩
    · refine ⟨hgk, k2, hnf, k4.lt, k4.there, by rw [List.length_map]; exact k4.fit, fun i x hx => ?_, fun i x j a hx ha => ?_⟩
      · rw [List.getElem?_map, Option.map_eq_some_iff] at hx
        obtain ⟨y, hy, rfl⟩ := hx
        rw [(frz_len r g xs y).1]; exact k4.len i y hy
      · rw [List.getElem?_map, Option.map_eq_some_iff] at hx
        obtain ⟨y, hy, rfl⟩ := hx
        obtain ⟨b, hb, rfl⟩ := (frz_len r g xs y).2 j a ha
        obtain ⟨v, v1, v2⟩ := k4.val i y j b hy hb
        exact ⟨v, v1, hval _ _ v2⟩
  · obtain ⟨z1, y1, q1⟩ := hg' k g1 h1
    obtain ⟨z2, y2, q2⟩ := hg' k' g2 h2
    obtain ⟨_, s1, p1, _⟩ := hs k g1 z1 y1 q1
    obtain ⟨_, s2, p2, _⟩ := hs k' g2 z2 y2 q2
    exact hH.inj k k' g1 g2 (hH.row k g1 z1 s1 p1).1 (hH.row k' g2 z2 s2 p2).1 he
/-- row r is told from now on as memory that is never written; other rows may be told anew by it, or be forgotten -/
theorem Wk.fz {s : List AVal} {h h' : AHeap} {J : KS} (r g z : Nat) (xs : List AVal) (hr : h[r]? = some (.row g z xs))
    (hs : ∀ (k g' z' : Nat) (ys : List AVal), h'[k]? = some (.row g' z' ys) → k ≠ r ∧ ∃ zs, h[k]? = some (.row g' z' zs) ∧ (ys = zs ∨ ys = zs.map (frz r g xs))) (hk : Wk (s.map (frz r g xs)) h' J) : Wk s h J := by
  refine ⟨fun c w vs hH hv => ?_⟩
  obtain ⟨c', h1, h2, h3⟩ := fz_ok hH hr hs
  obtain ⟨c2, s2, h2', k1, k2, k3, k4⟩ := hk.out c' w vs h2 ⟨by rw [List.length_map]; exact hv.1, fun i a ha => by
    rw [List.getElem?_map, Option.map_eq_some_iff] at ha
    obtain ⟨b, hb, rfl⟩ := ha
    exact h3 _ _ (hv.2 i b hb)⟩
  exact ⟨c2, s2, h2', h1.trans k1, k2, k3, k4⟩
theorem callM.mono {P : Program} {f : FuncId} {xs : List AVal} {h : AHeap} {K K' : KA} (hc : callM P f xs h K) (hk : ∀ x h, K x h → K' x h) : callM P f xs h K' := fun c w vs hH hv =>
  (hc c w vs hH hv).mono (fun e w' ⟨v, c', x, h', h1, h2, h3, h4, h5⟩ => ⟨v, c', x, h', h1, h2, h3, h4, hk _ _ h5⟩)
abbrev tt : AVal := .v (.bool true)
abbrev ff : AVal := .v (.bool false)
abbrev und : AVal := .v undef
abbrev i64 (n : Int) : AVal := .v (.int .i64 n)
abbrev i32 (n : Int) : AVal := .v (.int .i32 n)
abbrev u32 (n : Int) : AVal := .v (.int .u32 n)
abbrev u64 (n : Int) : AVal := .v (.int .u64 n)
abbrev u8 (n : Int) : AVal := .v (.int .u8 n)
abbrev bl (b : Bool) : AVal := .v (.bool b)
def retW0 (h : AHeap) (Q : KA) : Prop := @wkM [] h ⟨fun _ h' => Q (.tup []) h'⟩
def retW2 (x y : AVal) (h : AHeap) (Q : KA) : Prop := @wkM [x, y] h ⟨fun s h' => Q (.tup [nthA s 0, nthA s 1]) h'⟩
def retW3 (x y z : AVal) (h : AHeap) (Q : KA) : Prop := @wkM [x, y, z] h ⟨fun s h' => Q (.tup [nthA s 0, nthA s 1, nthA s 2]) h'⟩
/-! ### steps, as rules -/
section
variable {P : Program} {h : AHeap} {K : KA}
theorem jn_ex {A : KS → Prop} {B : KS} (ha : A B) : @jnM ⟨A⟩ ⟨B⟩ := @jnM.mk ⟨A⟩ ⟨B⟩ ⟨B, fun _ _ h => h, ha⟩
theorem jn_cut {A : KS → Prop} {B : KS} (J : KS) (ha : A J) (hb : ∀ s h, J s h → B s h) : @jnM ⟨A⟩ ⟨B⟩ := @jnM.mk ⟨A⟩ ⟨B⟩ ⟨J, hb, ha⟩
theorem lp_inv {s0 : List AVal} {h : AHeap} {body : List AVal → AHeap → KS → Prop} (I : KS) (μ : List AVal → AHeap → Nat) (h0 : Wk s0 h I)
    (hr : ∀ s h', I s h' → body s h' (fun s2 h2 => I s2 h2 ∧ μ s2 h2 < μ s h')) : @lpM s0 h ⟨body⟩ := @lpM.mk s0 h ⟨body⟩ ⟨I, μ, h0, hr⟩
theorem wk_ex {s : List AVal} {J : KS} (hq : J s h) : @wkM s h ⟨J⟩ := wk_of (Wk.refl hq)
theorem retW_ex {x : AVal} {Q : KA} (hq : Q x h) : retW x h Q := wk_of (Wk.refl hq)
theorem retW2_ex {x y : AVal} {Q : KA} (hq : Q (.tup [x, y]) h) : retW2 x y h Q := wk_of (Wk.refl hq)
theorem retW0_ex {Q : KA} (hq : Q (.tup []) h) : retW0 h Q := wk_of (Wk.refl hq)
@[simp] theorem nthA_z (x : AVal) (l : List AVal) : nthA (x :: l) 0 = x := rfl
@[simp] theorem nthA_s (x : AVal) (l : List AVal) (n : Nat) : nthA (x :: l) (n + 1) = nthA l n := rfl
theorem binM_int (op : BinOp) (t : TypeId) (k k' : IntKind) (a b : Int) : binM P op t (.v (.int k a)) (.v (.int k' b)) h K = (okI op k k' b ∧ K (.v (binI op k a b)) h) := propext ⟨fun h => h.out, fun h => ⟨h⟩⟩
theorem binM_bool (op : BinOp) (t : TypeId) (a b : Bool) : binM P op t (.v (.bool a)) (.v (.bool b)) h K = (blT P t = true ∧ eqM op (a == b) h K) := propext ⟨fun h => h.out, fun h => ⟨h⟩⟩
theorem binM_str (op : BinOp) (t : TypeId) (a b : ByteArray) : binM P op t (.v (.string a)) (.v (.string b)) h K = eqM op (a.toList == b.toList) h K := propext ⟨fun h => h.out, fun h => ⟨h⟩⟩
theorem binM_nil (op : BinOp) (t : TypeId) (n m n' m' : Nat) : binM P op t (.v (.slice none n m)) (.v (.slice none n' m')) h K = ((slT P t).isSome = true ∧ eqM op true h K) := propext ⟨fun h => h.out, fun h => ⟨h⟩⟩
theorem binM_sl (op : BinOp) (t : TypeId) (xs : List AVal) (n' m' : Nat) : binM P op t (.sl xs) (.v (.slice none n' m')) h K = ((slT P t).isSome = true ∧ xs ≠ [] ∧ eqM op false h K) := propext ⟨fun h => h.out, fun h => ⟨h⟩⟩
theorem binM_rf (op : BinOp) (t : TypeId) (r g o n n' m' : Nat) : binM P op t (.rf r g o n) (.v (.slice none n' m')) h K = ((slT P t).isSome = true ∧ eqM op false h K) := propext ⟨fun h => h.out, fun h => ⟨h⟩⟩
theorem binM_fp (op : BinOp) (t : TypeId) (x : AVal) : binM P op t (.fp x) (.v (.pointer none)) h K = (ptT P t = true ∧ eqM op false h K) := propext ⟨fun h => h.out, fun h => ⟨h⟩⟩
theorem binM_pt (op : BinOp) (t : TypeId) (r g i j : Nat) : binM P op t (.pt r g i j) (.v (.pointer none)) h K = (ptT P t = true ∧ eqM op false h K) := propext ⟨fun h => h.out, fun h => ⟨h⟩⟩
theorem eqM_eql (b : Bool) : eqM .eql b h K = K (.v (.bool b)) h := rfl
theorem eqM_neq (b : Bool) : eqM .neq b h K = K (.v (.bool !b)) h := rfl
@[simp] theorem okI_add (k k' b) : okI .add k k' b = (k = k') := rfl
@[simp] theorem okI_sub (k k' b) : okI .sub k k' b = (k = k') := rfl
@[simp] theorem okI_mul (k k' b) : okI .mul k k' b = (k = k') := rfl
@[simp] theorem okI_quo (k k' b) : okI .quo k k' b = (k = k' ∧ b ≠ 0) := rfl
@[simp] theorem okI_rem (k k' b) : okI .rem k k' b = (k = k' ∧ b ≠ 0) := rfl
@[simp] theorem okI_and (k k' b) : okI .and k k' b = (k = k') := rfl
@[simp] theorem okI_or (k k' b) : okI .or k k' b = (k = k') := rfl
@[simp] theorem okI_xor (k k' b) : okI .xor k k' b = (k = k') := rfl
@[simp] theorem okI_eql (k k' b) : okI .eql k k' b = (k = k') := rfl
@[simp] theorem okI_neq (k k' b) : okI .neq k k' b = (k = k') := rfl
@[simp] theorem okI_lss (k k' b) : okI .lss k k' b = (k = k') := rfl
@[simp] theorem okI_leq (k k' b) : okI .leq k k' b = (k = k') := rfl
@[simp] theorem okI_gtr (k k' b) : okI .gtr k k' b = (k = k') := rfl
@[simp] theorem okI_geq (k k' b) : okI .geq k k' b = (k = k') := rfl
@[simp] theorem okI_shl (k k' b) : okI .shl k k' b = (0 ≤ b) := rfl
@[simp] theorem okI_shr (k k' b) : okI .shr k k' b = (0 ≤ b) := rfl
@[simp] theorem binI_add (k a b) : binI .add k a b = .int k (k.wrap (a + b)) := rfl
@[simp] theorem binI_sub (k a b) : binI .sub k a b = .int k (k.wrap (a - b)) := rfl
@[simp] theorem binI_mul (k a b) : binI .mul k a b = .int k (k.wrap (a * b)) := rfl
@[simp] theorem binI_quo (k a b) : binI .quo k a b = .int k (k.wrap (a.tdiv b)) := rfl
@[simp] theorem binI_rem (k a b) : binI .rem k a b = .int k (a.tmod b) := rfl
@[simp] theorem binI_eql (k a b) : binI .eql k a b = .bool (decide (a = b)) := by simp [binI]; rfl
@[simp] theorem binI_neq (k a b) : binI .neq k a b = .bool (decide (a ≠ b)) := by simp [binI]; rfl
@[simp] theorem binI_lss (k a b) : binI .lss k a b = .bool (decide (a < b)) := rfl
@[simp] theorem binI_leq (k a b) : binI .leq k a b = .bool (decide (a ≤ b)) := rfl
@[simp] theorem binI_gtr (k a b) : binI .gtr k a b = .bool (decide (b < a)) := rfl
@[simp] theorem binI_geq (k a b) : binI .geq k a b = .bool (decide (b ≤ a)) := rfl
theorem gdM_bl (b : Bool) (A B : Prop) : gdM (.v (.bool b)) A B = ((b = true → A) ∧ (b = false → B)) := by
  cases b <;> simp [gdM, bcase]
theorem unM_not (b : Bool) : unM .not (.v (.bool b)) h K = K (.v (.bool !b)) h := propext ⟨fun h => h.out, fun h => ⟨h⟩⟩
theorem unM_neg (k : IntKind) (n : Int) : unM .neg (.v (.int k n)) h K = K (.v (.int k (k.wrap (0 - n)))) h := propext ⟨fun h => h.out, fun h => ⟨h⟩⟩
theorem convM_int (s d : TypeId) (k : IntKind) (n : Int) : convM P s d (.v (.int k n)) h K = (match inT P d with | some k => okT P s = true ∧ K (.v (.int k (k.wrap n))) h | none => False) := propext ⟨fun h => h.out, fun h => ⟨h⟩⟩
theorem maxM_int (k k' : IntKind) (a b : Int) : maxM (.v (.int k a)) (.v (.int k' b)) h K = K (.v (.int k (max a b))) h := propext ⟨fun h => h.out, fun h => ⟨h⟩⟩
theorem minM_int (k k' : IntKind) (a b : Int) : minM (.v (.int k a)) (.v (.int k' b)) h K = K (.v (.int k (min a b))) h := propext ⟨fun h => h.out, fun h => ⟨h⟩⟩
theorem pickM_bl (b : Bool) (x y : AVal) : pickM (.v (.bool b)) x y h K = ((b = true → K x h) ∧ (b = false → K y h)) := by
  cases b <;> simp [pickM]
theorem lenM_sl (t : TypeId) (xs : List AVal) : lenM P t (.sl xs) h K = ((slT P t).isSome = true ∧ K (i64 xs.length) h) := propext ⟨fun h => h.out, fun h => ⟨h⟩⟩
theorem lenM_rf (t : TypeId) (r g o n : Nat) : lenM P t (.rf r g o n) h K = ((slT P t).isSome = true ∧ K (i64 n) h) := propext ⟨fun h => h.out, fun h => ⟨h⟩⟩
theorem lenM_nil (t : TypeId) (n m : Nat) : lenM P t (.v (.slice none n m)) h K = ((slT P t).isSome = true ∧ K (i64 n) h) := propext ⟨fun h => h.out, fun h => ⟨h⟩⟩
theorem lenM_str (t : TypeId) (s : ByteArray) : lenM P t (.v (.string s)) h K = (stT P t = true ∧ K (i64 s.size) h) := propext ⟨fun h => h.out, fun h => ⟨h⟩⟩
theorem nilChkM_fp (x : AVal) : nilChkM (.fp x) h K = K (.fp x) h := propext ⟨fun h => h.out, fun h => ⟨h⟩⟩
theorem nilChkM_pt (r g i j : Nat) : nilChkM (.pt r g i j) h K = K (.pt r g i j) h := propext ⟨fun h => h.out, fun h => ⟨h⟩⟩
theorem nilChkM_fn (f : Nat) (l : List AVal) : nilChkM (.fn f l) h K = K (.fn f l) h := propext ⟨fun h => h.out, fun h => ⟨h⟩⟩
theorem ixAddrM_sl (t : TypeId) (xs : List AVal) (k : IntKind) (n : Int) : ixAddrM P t (.sl xs) (.v (.int k n)) h K =
    (match slT P t with | some e => okT P e = true ∧ 0 ≤ n ∧ n < xs.length ∧ szT P e = (xs.getD n.toNat .dead).flat.length ∧ K (.fp (xs.getD n.toNat .dead)) h | none => False) := propext ⟨fun h => h.out, fun h => ⟨h⟩⟩
theorem ixAddrM_rf (t : TypeId) (r g o m : Nat) (k : IntKind) (n : Int) : ixAddrM P t (.rf r g o m) (.v (.int k n)) h K =
    (match slT P t with | some e => (match h[r]? with | some (.row g' s xs) => g = g' ∧ okT P e = true ∧ szT P e = s ∧ 0 ≤ n ∧ n < m ∧ K (.pt r g (o + n.toNat) 0) h | _ => False) | none => False) := propext ⟨fun h => h.out, fun h => ⟨h⟩⟩
theorem fldAddrM_fp (t : TypeId) (y : AVal) (f : Nat) : fldAddrM P t (.fp y) f h K =
    (match fdT P t f with | some (o, e) => okT P e = true ∧ 0 < szT P e ∧ o + szT P e ≤ y.flat.length ∧ (agT P e = false → (y.flat.getD o .dead).isAgg = false) ∧ K (.fp (subA (agT P e) (szT P e) y o)) h | none => False) := propext ⟨fun h => h.out, fun h => ⟨h⟩⟩
theorem fldAddrM_pt (t : TypeId) (r g i j : Nat) (f : Nat) : fldAddrM P t (.pt r g i j) f h K =
    (match fdT P t f with | some (o, e) => okT P e = true ∧ 0 < szT P e ∧ K (.pt r g i (j + o)) h | none => False) := propext ⟨fun h => h.out, fun h => ⟨h⟩⟩
theorem loadM_fp (t : TypeId) (y : AVal) : loadM P t (.fp y) h K = (okT P t = true ∧ agT P t = y.isAgg ∧ szT P t = y.flat.length ∧ K y h) := propext ⟨fun h => h.out, fun h => ⟨h⟩⟩
theorem loadM_pt (t : TypeId) (r g i j : Nat) : loadM P t (.pt r g i j) h K = (match h[r]? with
    | some (.row g' s xs) => g = g' ∧ okT P t = true ∧ i < xs.length ∧ j + szT P t ≤ (xs.getD i .dead).flat.length ∧ (agT P t = false → szT P t = 1) ∧ K (subA (agT P t) (szT P t) (xs.getD i .dead) j) h
    | _ => False) := propext ⟨fun h => h.out, fun h => ⟨h⟩⟩
theorem storeM_pt (t : TypeId) (r g i j : Nat) (y : AVal) : storeM P t (.pt r g i j) y h K = (match h[r]? with
    | some (.row g' s xs) => g = g' ∧ okT P t = true ∧ i < xs.length ∧ szT P t = y.flat.length ∧ 0 < y.flat.length ∧ y.whole = true ∧ j + y.flat.length ≤ s ∧ K (.v undef) (h.set r (.row g s (xs.set i (putA (xs.getD i .dead) j y.flat))))
    | _ => False) := propext ⟨fun h => h.out, fun h => ⟨h⟩⟩
theorem boxM_eq (e : TypeId) (x : AVal) : boxM e x h K = (x.whole = true ∧ ∀ g, K (.pt h.length g 0 0) (h ++ [.row g x.flat.length [x]])) := propext ⟨fun h => h.out, fun h => ⟨h⟩⟩
theorem allocM_eq (e : TypeId) : allocM P e h K = (match zrT P e with | some z => okT P e = true ∧ szT P e = z.flat.length ∧ ∀ g, K (.pt h.length g 0 0) (h ++ [.row g (szT P e) [z]]) | none => False) := propext ⟨fun h => h.out, fun h => ⟨h⟩⟩
theorem buildM_eq (t : TypeId) (ps : List (Nat × AVal)) : buildM P t ps h K = (match plT P t, zrT P t with
  | some pl, some (.agg zs) => (match bldA pl zs ps with | some cs => K (.agg cs) h | none => False)
  | _, _ => False) := propext ⟨fun h => h.out, fun h => ⟨h⟩⟩
theorem buildSliceM_eq (t : TypeId) (n : Nat) (ps : List (Nat × AVal)) : buildSliceM P t n ps h K = (match slT P t with
  | some e => (match zrT P e with
    | some z => (match bldS (szT P e) (List.replicate n z) ps with
      | some xs => okT P e = true ∧ szT P e = z.flat.length ∧ 0 < szT P e ∧ n * szT P e ≤ 16777216 ∧ ∀ g, K (.rf h.length g 0 n) (h ++ [.row g (szT P e) xs])
      | none => False)
    | none => False)
  | none => False) := propext ⟨fun h => h.out, fun h => ⟨h⟩⟩
theorem makeM_eq (t : TypeId) (k k' : IntKind) (n m : Int) : makeM P t (.v (.int k n)) (.v (.int k' m)) h K = (match slT P t with
  | some e => (match zrT P e with
    | some z => okT P e = true ∧ szT P e = z.flat.length ∧ 0 < szT P e ∧ n = m ∧ 0 ≤ n ∧ (byT P e : Int) * n ≤ 281474976710656 ∧ n ≤ 9223372036854775807 ∧ ∀ g, K (.rf h.length g 0 n.toNat) (h ++ [.row g (szT P e) (List.replicate n.toNat z)])
    | none => False)
  | none => False) := propext ⟨fun h => by have := h.out; unfold makeM_b at this; split at this <;> rename_i q _ _ <;> simp_all [newM], fun h => ⟨by unfold makeM_b; revert h; cases slT P t <;> simp [newM]⟩⟩
@[simp] theorem bldA_nil (pl : List (Nat × Nat)) (cs : List AVal) : bldA pl cs [] = some cs := rfl
theorem b3 (a b c d : Nat) (w : Bool) : (Nat.beq a b && Nat.ble c d && w) = decide (a = b ∧ c ≤ d ∧ w = true) := by
  rw [Bool.eq_iff_iff]; simp [Nat.beq_eq, Nat.ble_eq, and_assoc]
@[simp] theorem bldA_cons (pl : List (Nat × Nat)) (cs : List AVal) (i : Nat) (y : AVal) (l : List (Nat × AVal)) : bldA pl cs ((i, y) :: l) = (match pl[i]? with
    | some (o, n) => if n = y.flat.length ∧ o + n ≤ cs.length ∧ y.whole = true then bldA pl (cs.take o ++ (y.flat ++ cs.drop (o + n))) l else none
    | none => none) := by
  rw [bldA]
  split
  · rw [b3, Bool.cond_decide]
  · rfl
@[simp] theorem bldS_cons (n : Nat) (xs : List AVal) (i : Nat) (y : AVal) (l : List (Nat × AVal)) : bldS n xs ((i, y) :: l) = if y.flat.length = n ∧ i + 1 ≤ xs.length ∧ y.whole = true then bldS n (xs.set i y) l else none := by
  rw [bldS, b3, Bool.cond_decide]
@[simp] theorem bldS_nil (n : Nat) (cs : List AVal) : bldS n cs [] = some cs := rfl
theorem appendM_rf (t tx : TypeId) (r g n : Nat) (y : AVal) : appendM P t tx (.rf r g 0 n) y h K = (match slT P t, elsA h y with
  | some e, some ys => okT P e = true ∧ 0 < szT P e ∧ zokT P e = true ∧ ((slT P tx).isSome = true ∨ stT P tx = true) ∧ (∀ y ∈ ys, y.flat.length = szT P e ∧ y.whole = true) ∧
     (match h[r]? with
       | some (.row g' s xs) => g = g' ∧ s = szT P e ∧ n ≤ xs.length ∧ (n + ys.length) * byT P e ≤ 140737488355328 ∧ n + ys.length ≤ maxLen ∧
         (∀ g2, K (.rf r g2 0 (n + ys.length)) (h.set r (.row g2 s (xs.take n ++ ys))))
       | _ => False)
  | _, _ => False) := propext ⟨fun h => h.out, fun h => ⟨h⟩⟩
theorem appendM_nil (t tx : TypeId) (y : AVal) : appendM P t tx nilS y h K = (match slT P t, elsA h y with
  | some e, some ys => okT P e = true ∧ 0 < szT P e ∧ zokT P e = true ∧ ((slT P tx).isSome = true ∨ stT P tx = true) ∧ (∀ y ∈ ys, y.flat.length = szT P e ∧ y.whole = true) ∧
     (ys.length * byT P e ≤ 140737488355328 ∧ ys.length ≤ maxLen ∧ (ys = [] → K nilS h) ∧ (ys ≠ [] → ∀ g, K (.rf h.length g 0 ys.length) (h ++ [.row g (szT P e) ys])))
  | _, _ => False) := propext ⟨fun h => h.out, fun h => ⟨h⟩⟩
@[simp] theorem elsA_sl (xs : List AVal) : elsA h (.sl xs) = some xs := rfl
@[simp] theorem elsA_nil (n : Nat) : elsA h (.v (.slice none 0 n)) = some [] := rfl
@[simp] theorem elsA_str (s : ByteArray) : elsA h (.v (.string s)) = some (s.data.toList.map fun b => .v (.int .u8 b.toNat)) := rfl
@[simp] theorem elsA_rf (r g o n : Nat) : elsA h (.rf r g o n) = (match h[r]? with | some (.row g' _ xs) => if g = g' ∧ o + n ≤ xs.length then some ((xs.drop o).take n) else none | _ => none) := rfl
theorem idxM_str (t : TypeId) (s : ByteArray) (k : IntKind) (n : Int) : idxM P t (.v (.string s)) (.v (.int k n)) h K = (stT P t = true ∧ 0 ≤ n ∧ n < s.size ∧ K (.v (.int .u8 (s.data.getD n.toNat 0).toNat)) h) := propext ⟨fun h => h.out, fun h => ⟨h⟩⟩
theorem fieldM_agg (t : TypeId) (cs : List AVal) (f : Nat) : fieldM P t (.agg cs) f h K = (match fdT P t f with
  | some (o, e) => okT P e = true ∧ o + szT P e ≤ cs.length ∧ (agT P e = false → szT P e = 1) ∧ K (subA (agT P e) (szT P e) (.agg cs) o) h
  | none => False) := propext ⟨fun h => by have := h.out; unfold fieldM_b at this; revert this; cases fdT P t f <;> simp, fun h => ⟨by unfold fieldM_b; revert h; cases fdT P t f <;> simp⟩⟩
theorem extractM_tup (xs : List AVal) (i : Nat) : extractM (.tup xs) i h K = (i < xs.length ∧ K (xs.getD i .dead) h) := propext ⟨fun h => h.out, fun h => ⟨h⟩⟩
@[simp] theorem newM_eq (s : Nat) (xs : List AVal) (K : Nat → AHeap → Prop) : newM s xs h K = ∀ g, K g (h ++ [.row g s xs]) := rfl
@[simp] theorem flat_agg (cs : List AVal) : (AVal.agg cs).flat = cs := rfl
@[simp] theorem flat_v (x : Value) : (AVal.v x).flat = [.v x] := rfl
@[simp] theorem flat_sl (x : List AVal) : (AVal.sl x).flat = [.sl x] := rfl
@[simp] theorem flat_fp (x : AVal) : (AVal.fp x).flat = [.fp x] := rfl
@[simp] theorem flat_rf (r g o n : Nat) : (AVal.rf r g o n).flat = [.rf r g o n] := rfl
@[simp] theorem flat_pt (r g o n : Nat) : (AVal.pt r g o n).flat = [.pt r g o n] := rfl
@[simp] theorem isAgg_agg (cs : List AVal) : (AVal.agg cs).isAgg = true := rfl
@[simp] theorem isAgg_v (x : Value) : (AVal.v x).isAgg = false := rfl
@[simp] theorem isAgg_sl (x : List AVal) : (AVal.sl x).isAgg = false := rfl
@[simp] theorem isAgg_fp (x : AVal) : (AVal.fp x).isAgg = false := rfl
@[simp] theorem isAgg_rf (r g o n : Nat) : (AVal.rf r g o n).isAgg = false := rfl
@[simp] theorem isAgg_pt (r g o n : Nat) : (AVal.pt r g o n).isAgg = false := rfl
@[simp] theorem subA_t (n : Nat) (y : AVal) (j : Nat) : subA true n y j = .agg ((y.flat.drop j).take n) := rfl
@[simp] theorem subA_f (n : Nat) (y : AVal) (j : Nat) : subA false n y j = y.flat.getD j .dead := rfl
@[simp] theorem putA_agg (ds : List AVal) (j : Nat) (cs : List AVal) : putA (.agg ds) j cs = .agg (ds.take j ++ (cs ++ ds.drop (j + cs.length))) := rfl
@[simp] theorem putA_v (x : Value) (j : Nat) (cs : List AVal) : putA (.v x) j cs = cs.headD .dead := rfl
@[simp] theorem whole_eq (x : AVal) : x.whole = x.flat.all AVal.c1 := rfl
@[simp] theorem c1_int (k : IntKind) (n : Int) : (AVal.v (.int k n)).c1 = true := rfl
@[simp] theorem c1_bool (b : Bool) : (AVal.v (.bool b)).c1 = true := rfl
@[simp] theorem c1_str (b : ByteArray) : (AVal.v (.string b)).c1 = true := rfl
@[simp] theorem c1_nil (a n m) : (AVal.v (.slice a n m)).c1 = true := rfl
@[simp] theorem c1_sl (x : List AVal) : (AVal.sl x).c1 = true := rfl
@[simp] theorem c1_fp (x : AVal) : (AVal.fp x).c1 = true := rfl
@[simp] theorem c1_rf (r g o n : Nat) : (AVal.rf r g o n).c1 = true := rfl
@[simp] theorem c1_pt (r g o n : Nat) : (AVal.pt r g o n).c1 = true := rfl
theorem w64 {n : Int} (h0 : -9223372036854775808 ≤ n) (h1 : n < 9223372036854775808) : IntKind.i64.wrap n = n := by rw [IntKind.wrap_i64]; omega
@[simp] theorem get_app0 (h l : AHeap) : (h ++ l)[h.length]? = l[0]? := by rw [List.getElem?_append_right (Nat.le_refl _), Nat.sub_self]
@[simp] theorem get_app (h l : AHeap) (k : Nat) : (h ++ l)[h.length + k]? = l[k]? := by rw [List.getElem?_append_right (by omega), Nat.add_sub_cancel_left]
@[simp] theorem set_app0 (h l : AHeap) (o : AObj) : (h ++ l).set h.length o = h ++ l.set 0 o := by rw [List.set_append_right _ _ (Nat.le_refl _), Nat.sub_self]
@[simp] theorem set_app (h l : AHeap) (o : AObj) (k : Nat) : (h ++ l).set (h.length + k) o = h ++ l.set k o := by rw [List.set_append_right _ _ (by omega), Nat.add_sub_cancel_left]
theorem map_getD {α : Type} (f : α → AVal) (d : α) {xs : List α} {n : Nat} (hn : n < xs.length) : (xs.map f).getD n .dead = f (xs.getD n d) := by
  simp [List.getD_eq_getElem?_getD, List.getElem?_map, List.getElem?_eq_getElem hn]
end
theorem wk_ret {x : AVal} {h : AHeap} {Q : KA} (hq : Q x h) : @wkM [x] h ⟨fun s1 h1 => retW (nthA s1 0) h1 Q⟩ := wk_of (Wk.refl (retW_ex hq))
theorem wk_pre {s : List AVal} {h l m : AHeap} {J : KS} (hj : J s (h ++ l)) : @wkM s (h ++ (l ++ m)) ⟨J⟩ := wk_of (by rw [← List.append_assoc]; exact Wk.drop (Wk.refl hj))
theorem bl_iff {a b : Bool} (h : a = true ↔ b = true) : bl a = bl b := by rw [Bool.eq_iff_iff.2 h]
def natA (x : AVal) : Nat := match x with | .v (.int _ n) => n.toNat | _ => 0
@[simp] theorem natA_eq (n : Int) : natA (.v (.int .i64 n)) = n.toNat := rfl
@[simp] theorem putA_bl (o : Option Bool) (j : Nat) (x : AVal) : putA ((Option.map bl o).getD .dead) j [x] = x := by cases o <;> rfl
@[simp] theorem putA_i64 (o : Option Int) (j : Nat) (x : AVal) : putA ((Option.map i64 o).getD .dead) j [x] = x := by cases o <;> rfl
theorem set_tt (L : List Bool) (c : Nat) : (L.map bl).set c (.v (.bool true)) = (L.set c true).map bl := by simp [List.map_set]
theorem set_i64 (L : List Int) (c : Nat) (n : Int) : (L.map i64).set c (.v (.int .i64 n)) = (L.set c n).map i64 := by simp [List.map_set]
def fz1 (r g : Nat) (xs : List AVal) (o o' : AObj) : Prop := o' = .dead ∨ o' = o ∨ ∃ g' z' zs, o = .row g' z' zs ∧ o' = .row g' z' (zs.map (frz r g xs))
def fzT (r g : Nat) (xs : List AVal) : AHeap → AHeap → Prop
  | _, [] => True
  | [], _ :: _ => False
  | o :: l, o' :: l' => fz1 r g xs o o' ∧ fzT r g xs l l'
def fzL (r g : Nat) (xs : List AVal) : Nat → AHeap → AHeap → Prop
  | _, _, [] => True
  | _, [], _ :: _ => False
  | 0, _ :: l, o' :: l' => o' = .dead ∧ fzT r g xs l l'
  | p + 1, o :: l, o' :: l' => fz1 r g xs o o' ∧ fzL r g xs p l l'
theorem fz1_row {r g : Nat} {xs : List AVal} {o : AObj} {g' z' : Nat} {ys : List AVal} (h : fz1 r g xs o (.row g' z' ys)) : ∃ zs, o = .row g' z' zs ∧ (ys = zs ∨ ys = zs.map (frz r g xs)) := by
  rcases h with h | h | ⟨g2, z2, zs, h1, h2⟩
  · cases h
  · exact ⟨ys, h.symm, .inl rfl⟩
  · cases h2; exact ⟨zs, h1, .inr rfl⟩
theorem fzT_row {r g : Nat} {xs : List AVal} : ∀ {l l' : AHeap} {k g' z' : Nat} {ys : List AVal}, fzT r g xs l l' → l'[k]? = some (.row g' z' ys) → ∃ zs, l[k]? = some (.row g' z' zs) ∧ (ys = zs ∨ ys = zs.map (frz r g xs))
  | _, [], _, _, _, _, _, hk => by simp at hk
  | [], _ :: _, _, _, _, _, h, _ => h.elim
  | o :: l, o' :: l', 0, _, _, _, h, hk => by
    simp at hk; subst hk
    obtain ⟨zs, h1, h2⟩ := fz1_row h.1
    exact ⟨zs, by simp [h1], h2⟩
  | o :: l, o' :: l', k + 1, _, _, _, h, hk => by
    simp at hk
    obtain ⟨zs, h1, h2⟩ := fzT_row h.2 hk
    exact ⟨zs, by simpa using h1, h2⟩
theorem fzL_row {r g : Nat} {xs : List AVal} : ∀ {p : Nat} {l l' : AHeap} {k g' z' : Nat} {ys : List AVal}, fzL r g xs p l l' → l'[k]? = some (.row g' z' ys) → k ≠ p ∧ ∃ zs, l[k]? = some (.row g' z' zs) ∧ (ys = zs ∨ ys = zs.map (frz r g xs))
  | _, _, [], _, _, _, _, _, hk => by simp at hk
  | 0, [], _ :: _, _, _, _, _, h, _ => by simp [fzL] at h
  | _ + 1, [], _ :: _, _, _, _, _, h, _ => by simp [fzL] at h
  | 0, o :: l, o' :: l', 0, _, _, _, h, hk => by
    simp at hk; subst hk; cases h.1
  | 0, o :: l, o' :: l', k + 1, _, _, _, h, hk => by
    simp at hk
    obtain ⟨zs, h1, h2⟩ := fzT_row h.2 hk
    exact ⟨by omega, zs, by simpa using h1, h2⟩
  | p + 1, o :: l, o' :: l', 0, _, _, _, h, hk => by
    simp at hk; subst hk
    obtain ⟨zs, h1, h2⟩ := fz1_row h.1
    exact ⟨by omega, zs, by simp [h1], h2⟩
  | p + 1, o :: l, o' :: l', k + 1, _, _, _, h, hk => by
    simp at hk
    obtain ⟨h0, zs, h1, h2⟩ := fzL_row h.2 hk
    exact ⟨by omega, zs, by simpa using h1, h2⟩
theorem Wk.fzL {s : List AVal} {h l l' : AHeap} {J : KS} (p : Nat) {g z : Nat} {xs : List AVal} (hr : l[p]? = some (.row g z xs)) (hs : fzL (h.length + p) g xs p l l') (hj : Wk (s.map (frz (h.length + p) g xs)) (h ++ l') J) : Wk s (h ++ l) J := by
  have hplt : p < l.length := (List.getElem?_eq_some_iff.1 hr).1
  refine Wk.fz (h.length + p) g z xs (by rw [get_app]; exact hr) (fun k g' z' ys hk => ?_) hj
  by_cases hkl : k < h.length
  · rw [List.getElem?_append_left hkl] at hk
    exact ⟨by omega, ys, by rw [List.getElem?_append_left hkl]; exact hk, .inl rfl⟩
  · obtain ⟨q, rfl⟩ : ∃ q, k = h.length + q := ⟨k - h.length, by omega⟩
    rw [get_app] at hk
    obtain ⟨h0, zs, h1, h2⟩ := fzL_row hs hk
    exact ⟨by omega, zs, by rw [get_app]; exact h1, h2⟩
theorem fz1_same {r g : Nat} {xs : List AVal} (o : AObj) : fz1 r g xs o o := .inr (.inl rfl)
theorem fz1_map {r g : Nat} {xs : List AVal} (g' z' : Nat) {zs ys : List AVal} (he : ys = zs.map (frz r g xs)) : fz1 r g xs (.row g' z' zs) (.row g' z' ys) := .inr (.inr ⟨g', z', zs, rfl, by rw [he]⟩)
theorem fz1_dead {r g : Nat} {xs : List AVal} (o : AObj) : fz1 r g xs o .dead := .inl rfl
@[simp] theorem get_mid {A R : List AVal} {x : AVal} {n : Nat} (h : A.length = n) : (A ++ x :: R)[n]? = some x := by subst h; simp
theorem set_mid {A R : List AVal} {x y : AVal} {n : Nat} (h : A.length = n) : (A ++ x :: R).set n y = A ++ y :: R := by subst h; simp
/-! ### the steps, bundled: given to simp as ↓go -/
theorem go : (∀ (P : Program) (h : AHeap) (K : KA) (op : BinOp) (t : TypeId) (k k' : IntKind) (a b : Int), binM P op t (.v (.int k a)) (.v (.int k' b)) h K = (okI op k k' b ∧ K (.v (binI op k a b)) h)) ∧
  (∀ (P : Program) (h : AHeap) (K : KA) (op : BinOp) (t : TypeId) (a b : Bool), binM P op t (.v (.bool a)) (.v (.bool b)) h K = (blT P t = true ∧ eqM op (a == b) h K)) ∧
  (∀ (P : Program) (h : AHeap) (K : KA) (op : BinOp) (t : TypeId) (a b : ByteArray), binM P op t (.v (.string a)) (.v (.string b)) h K = eqM op (a.toList == b.toList) h K) ∧
  (∀ (P : Program) (h : AHeap) (K : KA) (op : BinOp) (t : TypeId) (n m n' m' : Nat), binM P op t (.v (.slice none n m)) (.v (.slice none n' m')) h K = ((slT P t).isSome = true ∧ eqM op true h K)) ∧
  (∀ (P : Program) (h : AHeap) (K : KA) (op : BinOp) (t : TypeId) (xs : List AVal) (n' m' : Nat), binM P op t (.sl xs) (.v (.slice none n' m')) h K = ((slT P t).isSome = true ∧ xs ≠ [] ∧ eqM op false h K)) ∧
  (∀ (P : Program) (h : AHeap) (K : KA) (op : BinOp) (t : TypeId) (r g o n n' m' : Nat), binM P op t (.rf r g o n) (.v (.slice none n' m')) h K = ((slT P t).isSome = true ∧ eqM op false h K)) ∧
  (∀ (P : Program) (h : AHeap) (K : KA) (op : BinOp) (t : TypeId) (x : AVal), binM P op t (.fp x) (.v (.pointer none)) h K = (ptT P t = true ∧ eqM op false h K)) ∧
  (∀ (P : Program) (h : AHeap) (K : KA) (op : BinOp) (t : TypeId) (r g i j : Nat), binM P op t (.pt r g i j) (.v (.pointer none)) h K = (ptT P t = true ∧ eqM op false h K)) ∧
  (∀ (h : AHeap) (K : KA) (b : Bool), eqM .eql b h K = K (.v (.bool b)) h) ∧
  (∀ (h : AHeap) (K : KA) (b : Bool), eqM .neq b h K = K (.v (.bool !b)) h) ∧
  (∀ (b : Bool) (A B : Prop), gdM (.v (.bool b)) A B = ((b = true → A) ∧ (b = false → B))) ∧
  (∀ (h : AHeap) (K : KA) (b : Bool), unM .not (.v (.bool b)) h K = K (.v (.bool !b)) h) ∧
  (∀ (h : AHeap) (K : KA) (k : IntKind) (n : Int), unM .neg (.v (.int k n)) h K = K (.v (.int k (k.wrap (0 - n)))) h) ∧
  (∀ (P : Program) (h : AHeap) (K : KA) (s d : TypeId) (k : IntKind) (n : Int), convM P s d (.v (.int k n)) h K = (match inT P d with | some k => okT P s = true ∧ K (.v (.int k (k.wrap n))) h | none => False)) ∧
  (∀ (h : AHeap) (K : KA) (k k' : IntKind) (a b : Int), maxM (.v (.int k a)) (.v (.int k' b)) h K = K (.v (.int k (max a b))) h) ∧
  (∀ (h : AHeap) (K : KA) (k k' : IntKind) (a b : Int), minM (.v (.int k a)) (.v (.int k' b)) h K = K (.v (.int k (min a b))) h) ∧
  (∀ (h : AHeap) (K : KA) (b : Bool) (x y : AVal), pickM (.v (.bool b)) x y h K = ((b = true → K x h) ∧ (b = false → K y h))) ∧
  (∀ (P : Program) (h : AHeap) (K : KA) (t : TypeId) (xs : List AVal), lenM P t (.sl xs) h K = ((slT P t).isSome = true ∧ K (i64 xs.length) h)) ∧
  (∀ (P : Program) (h : AHeap) (K : KA) (t : TypeId) (r g o n : Nat), lenM P t (.rf r g o n) h K = ((slT P t).isSome = true ∧ K (i64 n) h)) ∧
  (∀ (P : Program) (h : AHeap) (K : KA) (t : TypeId) (n m : Nat), lenM P t (.v (.slice none n m)) h K = ((slT P t).isSome = true ∧ K (i64 n) h)) ∧
  (∀ (P : Program) (h : AHeap) (K : KA) (t : TypeId) (s : ByteArray), lenM P t (.v (.string s)) h K = (stT P t = true ∧ K (i64 s.size) h)) ∧
  (∀ (h : AHeap) (K : KA) (x : AVal), nilChkM (.fp x) h K = K (.fp x) h) ∧
  (∀ (h : AHeap) (K : KA) (r g i j : Nat), nilChkM (.pt r g i j) h K = K (.pt r g i j) h) ∧
  (∀ (h : AHeap) (K : KA) (f : Nat) (l : List AVal), nilChkM (.fn f l) h K = K (.fn f l) h) ∧
  (∀ (P : Program) (h : AHeap) (K : KA) (t : TypeId) (xs : List AVal) (k : IntKind) (n : Int), ixAddrM P t (.sl xs) (.v (.int k n)) h K =
    (match slT P t with | some e => okT P e = true ∧ 0 ≤ n ∧ n < xs.length ∧ szT P e = (xs.getD n.toNat .dead).flat.length ∧ K (.fp (xs.getD n.toNat .dead)) h | none => False)) ∧
  (∀ (P : Program) (h : AHeap) (K : KA) (t : TypeId) (r g o m : Nat) (k : IntKind) (n : Int), ixAddrM P t (.rf r g o m) (.v (.int k n)) h K =
    (match slT P t with | some e => (match h[r]? with | some (.row g' s xs) => g = g' ∧ okT P e = true ∧ szT P e = s ∧ 0 ≤ n ∧ n < m ∧ K (.pt r g (o + n.toNat) 0) h | _ => False) | none => False)) ∧
  (∀ (P : Program) (h : AHeap) (K : KA) (t : TypeId) (y : AVal) (f : Nat), fldAddrM P t (.fp y) f h K =
    (match fdT P t f with | some (o, e) => okT P e = true ∧ 0 < szT P e ∧ o + szT P e ≤ y.flat.length ∧ (agT P e = false → (y.flat.getD o .dead).isAgg = false) ∧ K (.fp (subA (agT P e) (szT P e) y o)) h | none => False)) ∧
  (∀ (P : Program) (h : AHeap) (K : KA) (t : TypeId) (r g i j : Nat) (f : Nat), fldAddrM P t (.pt r g i j) f h K =
    (match fdT P t f with | some (o, e) => okT P e = true ∧ 0 < szT P e ∧ K (.pt r g i (j + o)) h | none => False)) ∧
  (∀ (P : Program) (h : AHeap) (K : KA) (t : TypeId) (y : AVal), loadM P t (.fp y) h K = (okT P t = true ∧ agT P t = y.isAgg ∧ szT P t = y.flat.length ∧ K y h)) ∧
  (∀ (P : Program) (h : AHeap) (K : KA) (t : TypeId) (r g i j : Nat), loadM P t (.pt r g i j) h K = (match h[r]? with
    | some (.row g' s xs) => g = g' ∧ okT P t = true ∧ i < xs.length ∧ j + szT P t ≤ (xs.getD i .dead).flat.length ∧ (agT P t = false → szT P t = 1) ∧ K (subA (agT P t) (szT P t) (xs.getD i .dead) j) h
    | _ => False)) ∧
  (∀ (P : Program) (h : AHeap) (K : KA) (t : TypeId) (r g i j : Nat) (y : AVal), storeM P t (.pt r g i j) y h K = (match h[r]? with
    | some (.row g' s xs) => g = g' ∧ okT P t = true ∧ i < xs.length ∧ szT P t = y.flat.length ∧ 0 < y.flat.length ∧ y.whole = true ∧ j + y.flat.length ≤ s ∧ K (.v undef) (h.set r (.row g s (xs.set i (putA (xs.getD i .dead) j y.flat))))
    | _ => False)) ∧
  (∀ (h : AHeap) (K : KA) (e : TypeId) (x : AVal), boxM e x h K = (x.whole = true ∧ ∀ g, K (.pt h.length g 0 0) (h ++ [.row g x.flat.length [x]]))) ∧
  (∀ (P : Program) (h : AHeap) (K : KA) (e : TypeId), allocM P e h K = (match zrT P e with | some z => okT P e = true ∧ szT P e = z.flat.length ∧ ∀ g, K (.pt h.length g 0 0) (h ++ [.row g (szT P e) [z]]) | none => False)) ∧
  (∀ (P : Program) (h : AHeap) (K : KA) (t : TypeId) (ps : List (Nat × AVal)), buildM P t ps h K = (match plT P t, zrT P t with
  | some pl, some (.agg zs) => (match bldA pl zs ps with | some cs => K (.agg cs) h | none => False)
  | _, _ => False)) ∧
  (∀ (P : Program) (h : AHeap) (K : KA) (t : TypeId) (n : Nat) (ps : List (Nat × AVal)), buildSliceM P t n ps h K = (match slT P t with
  | some e => (match zrT P e with
    | some z => (match bldS (szT P e) (List.replicate n z) ps with
      | some xs => okT P e = true ∧ szT P e = z.flat.length ∧ 0 < szT P e ∧ n * szT P e ≤ 16777216 ∧ ∀ g, K (.rf h.length g 0 n) (h ++ [.row g (szT P e) xs])
      | none => False)
    | none => False)
  | none => False)) ∧
  (∀ (P : Program) (h : AHeap) (K : KA) (t : TypeId) (k k' : IntKind) (n m : Int), makeM P t (.v (.int k n)) (.v (.int k' m)) h K = (match slT P t with
  | some e => (match zrT P e with
    | some z => okT P e = true ∧ szT P e = z.flat.length ∧ 0 < szT P e ∧ n = m ∧ 0 ≤ n ∧ (byT P e : Int) * n ≤ 281474976710656 ∧ n ≤ 9223372036854775807 ∧ ∀ g, K (.rf h.length g 0 n.toNat) (h ++ [.row g (szT P e) (List.replicate n.toNat z)])
    | none => False)
  | none => False)) ∧
  (∀ (P : Program) (h : AHeap) (K : KA) (t tx : TypeId) (r g n : Nat) (y : AVal), appendM P t tx (.rf r g 0 n) y h K = (match slT P t, elsA h y with
  | some e, some ys => okT P e = true ∧ 0 < szT P e ∧ zokT P e = true ∧ ((slT P tx).isSome = true ∨ stT P tx = true) ∧ (∀ y ∈ ys, y.flat.length = szT P e ∧ y.whole = true) ∧
     (match h[r]? with
       | some (.row g' s xs) => g = g' ∧ s = szT P e ∧ n ≤ xs.length ∧ (n + ys.length) * byT P e ≤ 140737488355328 ∧ n + ys.length ≤ maxLen ∧
         (∀ g2, K (.rf r g2 0 (n + ys.length)) (h.set r (.row g2 s (xs.take n ++ ys))))
       | _ => False)
  | _, _ => False)) ∧
  (∀ (P : Program) (h : AHeap) (K : KA) (t tx : TypeId) (y : AVal), appendM P t tx nilS y h K = (match slT P t, elsA h y with
  | some e, some ys => okT P e = true ∧ 0 < szT P e ∧ zokT P e = true ∧ ((slT P tx).isSome = true ∨ stT P tx = true) ∧ (∀ y ∈ ys, y.flat.length = szT P e ∧ y.whole = true) ∧
     (ys.length * byT P e ≤ 140737488355328 ∧ ys.length ≤ maxLen ∧ (ys = [] → K nilS h) ∧ (ys ≠ [] → ∀ g, K (.rf h.length g 0 ys.length) (h ++ [.row g (szT P e) ys])))
  | _, _ => False)) ∧
  (∀ (P : Program) (h : AHeap) (K : KA) (t : TypeId) (s : ByteArray) (k : IntKind) (n : Int), idxM P t (.v (.string s)) (.v (.int k n)) h K = (stT P t = true ∧ 0 ≤ n ∧ n < s.size ∧ K (.v (.int .u8 (s.data.getD n.toNat 0).toNat)) h)) ∧
  (∀ (P : Program) (h : AHeap) (K : KA) (t : TypeId) (cs : List AVal) (f : Nat), fieldM P t (.agg cs) f h K = (match fdT P t f with
  | some (o, e) => okT P e = true ∧ o + szT P e ≤ cs.length ∧ (agT P e = false → szT P e = 1) ∧ K (subA (agT P e) (szT P e) (.agg cs) o) h
  | none => False)) ∧
  (∀ (h : AHeap) (K : KA) (xs : List AVal) (i : Nat), extractM (.tup xs) i h K = (i < xs.length ∧ K (xs.getD i .dead) h)) :=
  ⟨by intros; exact binM_int ..,
   by intros; exact binM_bool ..,
   by intros; exact binM_str ..,
   by intros; exact binM_nil ..,
   by intros; exact binM_sl ..,
   by intros; exact binM_rf ..,
   by intros; exact binM_fp ..,
   by intros; exact binM_pt ..,
   by intros; exact eqM_eql ..,
   by intros; exact eqM_neq ..,
   by intros; exact gdM_bl ..,
   by intros; exact unM_not ..,
   by intros; exact unM_neg ..,
   by intros; exact convM_int ..,
   by intros; exact maxM_int ..,
   by intros; exact minM_int ..,
   by intros; exact pickM_bl ..,
   by intros; exact lenM_sl ..,
   by intros; exact lenM_rf ..,
   by intros; exact lenM_nil ..,
   by intros; exact lenM_str ..,
   by intros; exact nilChkM_fp ..,
   by intros; exact nilChkM_pt ..,
   by intros; exact nilChkM_fn ..,
   by intros; exact ixAddrM_sl ..,
   by intros; exact ixAddrM_rf ..,
   by intros; exact fldAddrM_fp ..,
   by intros; exact fldAddrM_pt ..,
   by intros; exact loadM_fp ..,
   by intros; exact loadM_pt ..,
   by intros; exact storeM_pt ..,
   by intros; exact boxM_eq ..,
   by intros; exact allocM_eq ..,
   by intros; exact buildM_eq ..,
   by intros; exact buildSliceM_eq ..,
   by intros; exact makeM_eq ..,
   by intros; exact appendM_rf ..,
   by intros; exact appendM_nil ..,
   by intros; exact idxM_str ..,
   by intros; exact fieldM_agg ..,
   by intros; exact extractM_tup ..⟩
end Go.Proofs.Ytlnlbncinjiinaa.A
